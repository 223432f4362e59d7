/- Texts that stand behind this claim, one after the other. -/
import Derived.Test.YtiaonafhegbhjaaGreatDoorM6
import Derived.Test.YtiaonafhegbhjaaGreatDoorM9
import Derived.Test.YtiaonafhegbhjaaGreatDoorM7
import Derived.Test.YtiaonafhegbhjaaGreatDoorM8
import Derived.HandedShaped
import Derived.LaidLaws
set_option maxHeartbeats 4000000
set_option linter.unusedVariables false
set_option linter.unusedSimpArgs false
section
namespace Go.Proofs.W
open Go Vm Go.Proofs.Zso
structure DeadI (d : Dfa) (L : List Bool) : Prop where
  len : L.length = d.next.length
  live : ∀ k : Nat,k < d.next.length -> L.getD k true = false -> Live d k
  rule : ∀ k : Nat,k < d.next.length -> L.getD k true = true -> d.rule.getD k 0 < 0
def closedD (d : Dfa) (L : List Bool) (k : Nat) : Prop:=L.getD k true = true -> ∀ c : Nat,c < 16 -> 0 <= (d.next.getD k []).getD c 0 -> L.getD ((d.next.getD k []).getD c 0).toNat true = true
theorem jss {d : Dfa} {L : List Bool} (hr : rightD d = true) (ht : tyM d) (h : DeadI d L) (hc : ∀ k,k < d.next.length -> closedD d L k) : L = deadL d:=by
  have key : ∀ k,Live d k -> k < d.next.length -> L.getD k true = false:=by
    intro k hk
    induction hk with
    | @here i h0=>
      intro hi
      cases hq : L.getD i true with
      | false=>rfl
      | true=>have:=h.rule i hi hq;omega
    | @step i c t hc16 hnx _ ih=>
      intro hi
      have hb:=jb3 hr ht hi hc16
      rw [hnx] at hb
      have:=ih (by omega)
      cases hq : L.getD i true with
      | false=>rfl
      | true=>
        have:=hc i hi hq c hc16 (by rw [hnx];omega)
        rw [hnx,Int.toNat_natCast] at this
        rw [ih (by omega)] at this
        cases this
  apply List.ext_getElem (by simp [deadL,h.len])
  intro i h1 h2
  have hi : i < d.next.length:=by rw [<- h.len];exact h1
  have e : L.getD i true = L[i]:=by simp [List.getD_eq_getElem?_getD,h1]
  simp only [deadL,List.getElem_map,List.getElem_range]
  cases hq : L[i] with
  | true=>
    refine (deadB_iff.2 fun hl=>?_).symm
    have:=key i hl hi
    rw [e,hq] at this
    cases this
  | false=>
    have:=h.live i hi (by rw [e,hq])
    cases hd : deadB d i with
    | false=>rfl
    | true=>exact absurd this (deadB_iff.1 hd)
theorem jgn {L : List Bool} {i k : Nat} {b : Bool} (hi : i < L.length) : (L.set i b).getD k true = if k = i then b else L.getD k true:=by
  rw [List.getD_eq_getElem?_getD,List.getD_eq_getElem?_getD]
  by_cases e : k = i
  · subst e;rw [if_pos rfl,List.getElem?_set_self hi];rfl
  · rw [if_neg e,List.getElem?_set_ne (fun h=>e h.symm)]
theorem jqG {L : List Bool} {i : Nat} (h : L[i]? = some true) : (L.set i false).count true + 1 = L.count true:=by
  induction L generalizing i with
  | nil=>simp at h
  | cons b L ih=>
    cases i with
    | zero=>
      have : b = true:=by simpa using h
      subst this
      simp
    | succ i=>
      have:=ih (by simpa using h)
      cases b <;> simp <;> omega
theorem jcF {r : List Int} {c : Nat} (h : c < r.length) : (r.map (D.int .i64))[c]? = some (.int .i64 (r.getD c 0)):=by simp [List.getD_eq_getElem?_getD,h]
theorem juS (d : Dfa) (ht : tyM d) (hr : rightD d = true) : PureF Tryz.prog A 93 [dfaD d] (.sl false (bsD (deadL d))):=by
  have a1:=jaS d
  have a2:=jaT d
  have a3:=ja5 d
  have hl:=jaA hr
  have hdr:=jdz d ht (by omega) (by omega)
  rw [hr] at hdr
  refine jaj (n:=63) (rs:=[.tmp 2]) Tryz.func93 rfl rfl rfl rfl rfl rfl ?_
  repeat' (first | apply wz1|apply wz2|apply wz3|apply wz4|apply wz5|apply wz6 | simp -dsimp (maxSteps:=999999) (disch:=omega) only[go_sem,simprocAttr, *] | ((first | refine wz8 ?_ ?_|refine wz9 ?_ ?_|refine wz7 ?_ ?_)<;>intro hh <;> (try replace hh:=vqs hh) <;> (try (exfalso;first | exact hh | omega))))
  refine jqR ?_
  repeat' (first | apply wz1|apply wz2|apply wz3|apply wz4|apply wz5|apply wz6 | simp -dsimp (maxSteps:=999999) (disch:=omega) only[go_sem,simprocAttr, *] | ((first | refine wz8 ?_ ?_|refine wz9 ?_ ?_|refine wz7 ?_ ?_)<;>intro hh <;> (try replace hh:=vqs hh) <;> (try (exfalso;first | exact hh | omega))))
  refine jal bo36 rfl rfl (jdq d) hdr ?_
  have hmk:=fun H=>jgt (n:=(d.rule.length : Int)) (H:=H) (by omega) (by omega)
  have hnat : ((d.rule.length : Int)).toNat = d.rule.length:=by omega
  simp only [hnat] at hmk
  repeat' (first | apply wz1|apply wz2|apply wz3|apply wz4|apply wz5|apply wz6 | simp -dsimp (maxSteps:=999999) (disch:=omega) only[go_sem,simprocAttr, *] | ((first | refine wz8 ?_ ?_|refine wz9 ?_ ?_|refine wz7 ?_ ?_)<;>intro hh <;> (try replace hh:=vqs hh) <;> (try (exfalso;first | exact hh | omega))))
  refine jae (fun e H=>∃ (j : Nat) (L : List Bool),j <= d.rule.length /\ L.length = d.next.length /\ (∀ k,k < j -> L.getD k true = decide (d.rule.getD k 0 < 0)) /\ hget H 0 = .arr [dfaD d] /\ hget H 1 = .arr (bsD L) /\ e 1 = .ptr 0 0 0 /\ e 3 = .vec 1 0 d.rule.length /\ e 17 = isD d.rule /\ e 18 = .int .i64 d.rule.length /\ e 19 = .int .i64 j) (fun e H=>d.rule.length - natOf (e 19)) ?_ ?_
  · exact ⟨0,List.replicate d.rule.length false,by omega,by simp;omega,fun k hk=>by omega,gs,gs,gs,gs,by simp -dsimp (maxSteps:=999999) (disch:=omega) only[go_sem,simprocAttr, *,isD],gs,gs⟩
  rintro e H ⟨j,L,hj,hL,hk,h0,h1,e1,e3,e17,e18,e19⟩ R hR
  by_cases hb : j < d.rule.length
  · have hc:=jcF (r:=d.rule) hb
    have hv:=jau h1 (by omega)
    have hbs:=jbI (l:=L) (i:=j) (b:=decide (d.rule.getD j 0 < 0))
    have hat:=bs_at (l:=L) (i:=j) (by omega)
    have hk' : ∀ k,k < j + 1 -> (L.set j (decide (d.rule.getD j 0 < 0))).getD k true = decide (d.rule.getD k 0 < 0):=fun k hkj=>by
      rw [jgn (by omega)]
      by_cases e : k = j
      · rw [if_pos e,e]
      · rw [if_neg e];exact hk k (by omega)
    have hll : (L.set j (decide (d.rule.getD j 0 < 0))).length = d.next.length:=by simpa using hL
    clear hk
    generalize L.set j (decide (d.rule.getD j 0 < 0)) = L' at *
    generalize hx : d.rule.getD j 0 = x at *
    have hl1:=jah h1
    repeat' (first | apply wz1|apply wz2|apply wz3|apply wz4|apply wz5|apply wz6 | simp -dsimp (maxSteps:=999999) (disch:=omega) only[go_sem,simprocAttr, *,isD] | ((first | refine wz8 (fun hh=>?_) (fun hh=>?_) | refine wz9 (fun hh=>?_) (fun hh=>?_) | refine jak (by simp -dsimp (maxSteps:=999999) (disch:=omega) only[go_sem,simprocAttr, *,isD];exact rfl) (fun hh=>?_) (fun hh=>?_)) <;> (try replace hh:=vqs hh) <;> (try (exfalso;first | exact hh | omega))))
    refine hR _ _ ⟨j + 1,L',by omega,hll,hk',gs,gs,gs,gs,by simp -dsimp (maxSteps:=999999) (disch:=omega) only[go_sem,simprocAttr, *,isD],gs,gs⟩ ?_
    simp -dsimp (maxSteps:=999999) (disch:=omega) only[go_sem,simprocAttr, *,jab]
  obtain rfl : j = d.rule.length:=by omega
  have hI : DeadI d L:=⟨hL,fun k hkl hf=>.here (by
    rw [hk k (by omega)] at hf
    simpa using hf),fun k hkl hf=>by
    rw [hk k (by omega)] at hf
    simpa using hf⟩
  clear hk hL hmk
  repeat' (first | apply wz1|apply wz2|apply wz3|apply wz4|apply wz5|apply wz6 | simp -dsimp (maxSteps:=999999) (disch:=omega) only[go_sem,simprocAttr, *] | ((first | refine wz8 ?_ ?_|refine wz9 ?_ ?_|refine wz7 ?_ ?_)<;>intro hh <;> (try replace hh:=vqs hh) <;> (try (exfalso;first | exact hh | omega))))
  refine jqg ?_
  repeat' (first | apply wz1|apply wz2|apply wz3|apply wz4|apply wz5|apply wz6 | simp -dsimp (maxSteps:=999999) (disch:=omega) only[go_sem,simprocAttr, *] | ((first | refine wz8 ?_ ?_|refine wz9 ?_ ?_|refine wz7 ?_ ?_)<;>intro hh <;> (try replace hh:=vqs hh) <;> (try (exfalso;first | exact hh | omega))))
  refine jqY (fun m e H=>∃ (L : List Bool),DeadI d L /\ m = L.count true /\ hget H 0 = .arr [dfaD d] /\ hget H 1 = .arr (bsD L) /\ e 1 = .ptr 0 0 0 /\ e 3 = .vec 1 0 d.rule.length) (L.count true) ?_ ?_
  · exact ⟨L,hI,rfl,gs,gs,gs,gs⟩
  clear hI h0 h1 e1 e3 e17 e18 e19 hR hj hb
  rintro m e H ⟨L,hI,hm,h0,h1,e1,e3⟩ R hR
  have hv:=jau h1 (by rw [hI.len];omega)
  have hLl:=hI.len
  have hLl1 : L.length <= d.rule.length:=by omega
  have hLl2 : d.rule.length <= L.length:=by omega
  repeat' (first | apply wz1|apply wz2|apply wz3|apply wz4|apply wz5|apply wz6 | simp -dsimp (maxSteps:=999999) (disch:=omega) only[go_sem,simprocAttr, *] | ((first | refine wz8 ?_ ?_|refine wz9 ?_ ?_|refine wz7 ?_ ?_)<;>intro hh <;> (try replace hh:=vqs hh) <;> (try (exfalso;first | exact hh | omega))))
  refine jae (fun e H=>∃ (i : Nat),i <= d.rule.length /\ (∀ k,k < i -> closedD d L k) /\ hget H 0 = .arr [dfaD d] /\ hget H 1 = .arr (bsD L) /\ e 1 = .ptr 0 0 0 /\ e 3 = .vec 1 0 d.rule.length /\ e 31 = .int .i64 d.rule.length /\ e 32 = .int .i64 i) (fun e H=>d.rule.length - natOf (e 32)) ?_ ?_
  · exact ⟨0,by omega,fun k hk=>by omega,gs,gs,gs,gs,gs,gs⟩
  clear h0 h1 hv e1 e3
  rintro e H ⟨i,hi,hcl,h0,h1,e1,e3,e31,e32⟩ R2 hR2
  have hv:=jau h1 (by omega)
  by_cases hbi : i < d.rule.length
  case neg=>
    have hfin:=jss hr ht hI (fun k hk=>hcl k (by omega))
    rw [hfin] at h1
    repeat' (first | apply wz1|apply wz2|apply wz3|apply wz4|apply wz5|apply wz6 | simp -dsimp (maxSteps:=999999) (disch:=omega) only[go_sem,simprocAttr, *] | ((first | refine wz8 ?_ ?_|refine wz9 ?_ ?_|refine wz7 ?_ ?_)<;>intro hh <;> (try replace hh:=vqs hh) <;> (try (exfalso;first | exact hh | omega))))
    have hsb : stripL (bsD (deadL d)) = some (bsD (deadL d)):=by
      unfold bsD
      induction deadL d with
      | nil=>rfl
      | cons b l ih=>simp [stripL,ih,strip]
    have hdl : (deadL d).length = d.next.length:=by simp [deadL]
    have hdb : (bsD (deadL d)).length = d.rule.length:=by rw [jk8,hdl];omega
    have hv2 : VecAt 0 (.vec 1 0 (bsD (deadL d)).length) H (bsD (deadL d)):=⟨by omega,.inr ⟨fun h=>by
      rw [h] at hdb
      simp at hdb
      omega,1,by omega,jah h1,rfl,h1⟩⟩
    have:=hv2.out hsb
    rwa [hdb] at this
  have hat:=bs_at (l:=L) (i:=i) (by omega)
  have hLi : L.getD i true = L[i]:=by simp [List.getD_eq_getElem?_getD,show i < L.length by omega]
  cases hq : L[i] with
  | false=>
    rw [hq] at hat
    repeat' (first | apply wz1|apply wz2|apply wz3|apply wz4|apply wz5|apply wz6 | simp -dsimp (maxSteps:=999999) (disch:=omega) only[go_sem,simprocAttr, *] | ((first | refine wz8 ?_ ?_|refine wz9 ?_ ?_|refine wz7 ?_ ?_)<;>intro hh <;> (try replace hh:=vqs hh) <;> (try (exfalso;first | exact hh | omega))))
    refine hR2 _ _ ⟨i + 1,by omega,fun k hk=>?_,gs,gs,gs,gs,gs,gs⟩ ?_
    · by_cases e : k = i
      · subst e
        intro ht
        rw [hLi,hq] at ht
        cases ht
      · exact hcl k (by omega)
    · simp -dsimp (maxSteps:=999999) (disch:=omega) only[go_sem,simprocAttr, *,jab]
  | true=>
    rw [hq] at hat hLi
    have hrw:=jbV (d:=d) (i:=i) (by omega)
    have b1:=jbv d.next[i]
    have b2:=jbl d.next[i]
    have b3:=jbN d.next[i]
    have hrl : d.next[i].length = 16:=ht _ (List.getElem_mem (by omega))
    have hri : d.next.getD i [] = d.next[i]:=by simp [List.getD_eq_getElem?_getD,show i < d.next.length by omega]
    have hna:=fun c hc=>jb3 hr ht (i:=i) (c:=c) (by omega) hc
    have hstep : ∀ c : Nat,c < 16 -> 0 <= (d.next.getD i []).getD c 0 -> L.getD ((d.next.getD i []).getD c 0).toNat true = false -> Live d i:=fun c hc h0 hf=>by
      have hb:=hna c hc
      exact .step hc (t:=((d.next.getD i []).getD c 0).toNat) (by omega) (hI.live _ (by omega) hf)
    have hcli : (∀ c : Nat,c < 16 -> 0 <= (d.next.getD i []).getD c 0 -> L.getD ((d.next.getD i []).getD c 0).toNat true = true) -> closedD d L i:=fun h _=>h
    rw [hri] at hna hstep hcli
    have hl1:=jah h1
    generalize d.next[i] = row at *
    clear hri
    repeat' (first | apply wz1|apply wz2|apply wz3|apply wz4|apply wz5|apply wz6 | simp -dsimp (maxSteps:=999999) (disch:=omega) only[go_sem,simprocAttr, *] | ((first | refine wz8 ?_ ?_|refine wz9 ?_ ?_|refine wz7 ?_ ?_)<;>intro hh <;> (try replace hh:=vqs hh) <;> (try (exfalso;first | exact hh | omega))))
    refine jae (fun e H=>∃ (c : Nat),c <= 16 /\ (∀ c' : Nat,c' < c -> 0 <= row.getD c' 0 -> L.getD (row.getD c' 0).toNat true = true) /\ hget H 0 = .arr [dfaD d] /\ hget H 1 = .arr (bsD L) /\ e 1 = .ptr 0 0 0 /\ e 3 = .vec 1 0 d.rule.length /\ e 6 = .int .i64 i /\ e 31 = .int .i64 d.rule.length /\ e 32 = .int .i64 i /\ e 44 = .agg (row.map (.int .i64)) /\ e 45 = .int .i64 c) (fun e H=>16 - natOf (e 45)) ?_ ?_
    · exact ⟨0,by omega,fun c hc=>by omega,gs,gs,gs,gs,gs,gs,gs,by simp -dsimp (maxSteps:=999999) (disch:=omega) only[go_sem,simprocAttr, *,rowD],gs⟩
    have e32o:=e32
    clear h0 h1 hv e1 e3 e31 e32
    rintro e H ⟨c,hc,hall,h0,h1,e1,e3,e6,e31,e32,e44,e45⟩ R3 hR3
    have hv:=jau h1 (by omega)
    by_cases hc16 : c < 16
    case neg=>
      obtain rfl : c = 16:=by omega
      repeat' (first | apply wz1|apply wz2|apply wz3|apply wz4|apply wz5|apply wz6 | simp -dsimp (maxSteps:=999999) (disch:=omega) only[go_sem,simprocAttr, *] | ((first | refine wz8 ?_ ?_|refine wz9 ?_ ?_|refine wz7 ?_ ?_)<;>intro hh <;> (try replace hh:=vqs hh) <;> (try (exfalso;first | exact hh | omega))))
      refine hR2 _ _ ⟨i + 1,by omega,fun k hk=>?_,gs,gs,gs,gs,gs,gs⟩ ?_
      · by_cases e : k = i
        · subst e;exact hcli hall
        · exact hcl k (by omega)
      · simp -dsimp (maxSteps:=999999) (disch:=omega) only[go_sem,simprocAttr, *,jab]
    have hcell : row[c * 1]? = some (row.getD c 0):=by
      rw [Nat.mul_one,List.getD_eq_getElem?_getD,List.getElem?_eq_getElem (by omega)];rfl
    have hb:=hna c hc16
    have hst:=hstep c hc16
    have hnext : (0 <= row.getD c 0 -> L.getD (row.getD c 0).toNat true = true) -> ∀ c' : Nat,c' < c + 1 -> 0 <= row.getD c' 0 -> L.getD (row.getD c' 0).toNat true = true:=fun h c' hc' h0=>by
      by_cases e : c' = c
      · subst e;exact h h0
      · exact hall c' (by omega) h0
    have hinv : 0 <= row.getD c 0 -> L.getD (row.getD c 0).toNat true = false -> DeadI d (L.set i false) /\ (L.set i false).count true < L.count true:=fun h0 hf=>by
      refine ⟨⟨by simpa using hI.len,fun k hk hkf=>?_,fun k hk hkt=>?_⟩,?_⟩
      · rw [jgn (by omega)] at hkf
        by_cases e : k = i
        · subst e;exact hst h0 hf
        · rw [if_neg e] at hkf;exact hI.live k hk hkf
      · rw [jgn (by omega)] at hkt
        by_cases e : k = i
        · rw [if_pos e] at hkt;cases hkt
        · rw [if_neg e] at hkt;exact hI.rule k hk hkt
      · have:=jqG (L:=L) (i:=i) (by rw [List.getElem?_eq_getElem (by omega),hq])
        omega
    clear hna hstep hcli hall hst
    have hbs:=jbI (l:=L) (i:=i) (b:=false)
    generalize row.getD c 0 = t at *
    by_cases ht0 : 0 <= t
    · have hat2:=bs_at (l:=L) (i:=t.toNat) (by omega)
      have hLt : L.getD t.toNat true = L[t.toNat]'(by omega):=by
        rw [List.getD_eq_getElem?_getD,List.getElem?_eq_getElem (by omega)];rfl
      rw [hLt] at hnext hinv
      generalize L[t.toNat]'(by omega) = b at *
      cases b with
      | true=>
        have hnx:=hnext (fun _=>rfl)
        clear hnext hinv
        repeat' (first | apply wz1|apply wz2|apply wz3|apply wz4|apply wz5|apply wz6 | simp -dsimp (maxSteps:=999999) (disch:=omega) only[go_sem,simprocAttr, *] | ((first | refine wz8 ?_ ?_|refine wz9 ?_ ?_|refine wz7 ?_ ?_)<;>intro hh <;> (try replace hh:=vqs hh) <;> (try (exfalso;first | exact hh | omega))))
        refine hR3 _ _ ⟨c + 1,by omega,hnx,gs,gs,gs,gs,gs,gs,gs,gs,gs⟩ ?_
        simp -dsimp (maxSteps:=999999) (disch:=omega) only[go_sem,simprocAttr, *,jab]
      | false=>
        obtain ⟨i1,i2⟩:=hinv ht0 rfl
        clear hnext hinv
        have hl2:=jah h1
        repeat' (first | apply wz1|apply wz2|apply wz3|apply wz4|apply wz5|apply wz6 | simp -dsimp (maxSteps:=999999) (disch:=omega) only[go_sem,simprocAttr, *] | ((first | refine wz8 ?_ ?_|refine wz9 ?_ ?_|refine wz7 ?_ ?_)<;>intro hh <;> (try replace hh:=vqs hh) <;> (try (exfalso;first | exact hh | omega))))
        refine hR _ _ _ ⟨L.set i false,i1,rfl,gs,gs,gs,gs⟩ ?_
        omega
    · have hnx:=hnext (fun h=>absurd h ht0)
      clear hnext hinv
      repeat' (first | apply wz1|apply wz2|apply wz3|apply wz4|apply wz5|apply wz6 | simp -dsimp (maxSteps:=999999) (disch:=omega) only[go_sem,simprocAttr, *] | ((first | refine wz8 ?_ ?_|refine wz9 ?_ ?_|refine wz7 ?_ ?_)<;>intro hh <;> (try replace hh:=vqs hh) <;> (try (exfalso;first | exact hh | omega))))
      refine hR3 _ _ ⟨c + 1,by omega,hnx,gs,gs,gs,gs,gs,gs,gs,gs,gs⟩ ?_
      simp -dsimp (maxSteps:=999999) (disch:=omega) only[go_sem,simprocAttr, *,jab]
end Go.Proofs.W
end
section
namespace Go.Proofs.W
open Go Vm Go.Proofs.Zso
def mixL (f : Int -> Int) (r : List Int) (c : Nat) : List Int:=(r.map f).take c ++ r.drop c
theorem jsp (f : Int -> Int) (r : List Int) : mixL f r 0 = r:=by simp [mixL]
theorem jvP {f : Int -> Int} {r : List Int} {c : Nat} (h : r.length <= c) : mixL f r c = r.map f:=by
  unfold mixL
  rw [List.take_of_length_le (by simpa using h),List.drop_eq_nil_of_le h,List.append_nil]
theorem jm4 (f : Int -> Int) (r : List Int) (c : Nat) : (mixL f r c).length = r.length:=by simp [mixL];omega
theorem jwW {f : Int -> Int} {r : List Int} {c : Nat} (h : c < r.length) : (mixL f r c)[c]? = some (r.getD c 0):=by
  unfold mixL
  rw [List.getElem?_append_right (by simp;omega),List.getElem?_drop]
  simp [List.getD_eq_getElem?_getD,show min c r.length = c by omega,h]
theorem jkW {f : Int -> Int} {r : List Int} {c : Nat} (h : c < r.length) : mixL f r (c + 1) = (mixL f r c).set c (f (r.getD c 0)):=by
  have hl : ((r.map f).take c).length = c:=by simp;omega
  unfold mixL
  rw [List.take_add_one,List.set_append_right _ _ (by omega),hl,Nat.sub_self,List.drop_eq_getElem_cons h,List.set_cons_zero]
  simp [List.getD_eq_getElem?_getD,h]
theorem jrQ {f : Int -> Int} {r : List Int} {c : Nat} (h : c < r.length) (hf : f (r.getD c 0) = r.getD c 0) : mixL f r (c + 1) = mixL f r c:=by
  rw [jkW h,hf]
  apply List.ext_getElem?
  intro i
  by_cases e : i = c
  · subst e
    rw [List.getElem?_set_self (by rw [jm4];exact h)]
    exact (jwW h).symm
  · rw [List.getElem?_set_ne (fun h=>e h.symm)]
theorem jsP {d : Dfa} {i : Nat} (h : i < d.next.length) : (bsD (deadL d))[i]? = some (.bool (deadB d i)):=by
  simp [bsD,deadL,h]
theorem jh5 {l : List (List Int)} (h : ∀ r ∈ l,r.length = 16) : headSize 16 (l.map rowD) = true:=by
  cases l with
  | nil=>rfl
  | cons r l=>simp [headSize,rowD,D.cells,h r List.mem_cons_self]
theorem juQ {m : Nat} {d : D} {H : Heap} {l : List (List Int)} (h : VecAt m d H (l.map rowD)) (hl : ∀ r ∈ l,r.length = 16) (x : List Int) (hx : x.length = 16) (hn : l.length <= 10000) : ∃ d' H',appendD Tryz.prog 65 (H ++ [Ob.arr [.agg (x.map (.int .i64))]]) d (.vec H.length 0 1) = some (d',H') /\ VecAt m d' H' ((l ++ [x]).map rowD) /\ Same m H H':=by
  have:=VecAt.append el65 sz90 by90 zr90 rfl (by decide) h (q:=rowD x) (by simp [rowD,D.cells,hx]) (jcT x) (jh5 hl) (by simp;omega)
  simp only [List.map_append,List.map_cons,List.map_nil]
  exact this
theorem ju0 {m : Nat} {v : D} {H : Heap} {rows : List (List Int)} {rule : List Int} (h : VecAt m v H (rows.map rowD)) : outPure H (.agg [v,isD rule]) = some (dfaD ⟨rows,rule⟩):=by
  obtain ⟨H',hp⟩:=h.pur (k:=3) (jcy rows)
  have hv:=h
  obtain ⟨_,⟨hx,rfl⟩ | ⟨_,r,_,_,rfl,_⟩⟩:=hv
  · have : rows = []:=by simpa using hx
    subst this
    simp [outPure,deepest,Vm.pur,strip,stripL,jaJ,dfaD,rowsD]
  · have hn : strip (.agg [.vec r 0 (rows.map rowD).length,isD rule]) = none:=by simp [strip,stripL]
    unfold outPure
    rw [show deepest = 5 + 1 from rfl]
    unfold Vm.pur
    rw [hn]
    simp only [purL,hp,Option.bind_some,jcY (jaJ rule),Option.map_some]
    rfl
theorem ji4 (d : Dfa) (ht : tyM d) (hr : rightD d = true) : PureF Tryz.prog A 70 [dfaD d] (dfaD (aliveM d)):=by
  have a1:=jaS d
  have a2:=jaT d
  have a3:=ja5 d
  have hl:=jaA hr
  have hde:=juS d ht hr
  have hdl : (deadL d).length = d.next.length:=by simp [deadL]
  have hdl1 : (bsD (deadL d)).length <= d.next.length:=by rw [jk8,hdl];exact Nat.le_refl _
  have hdl2 : d.next.length <= (bsD (deadL d)).length:=by rw [jk8,hdl];exact Nat.le_refl _
  have hda:=fun i h=>jsP (d:=d) (i:=i) h
  refine jaj (n:=52) (rs:=[.cell 2 67]) Tryz.func70 rfl rfl rfl rfl rfl rfl ?_
  generalize bsD (deadL d) = B at *
  repeat' (first | apply wz1|apply wz2|apply wz3|apply wz4|apply wz5|apply wz6 | simp -dsimp (maxSteps:=999999) (disch:=omega) only[go_sem,simprocAttr, *] | ((first | refine wz8 ?_ ?_|refine wz9 ?_ ?_|refine wz7 ?_ ?_)<;>intro hh <;> (try replace hh:=vqs hh) <;> (try (exfalso;first | exact hh | omega))))
  refine jal bo93 rfl rfl (jdq d) hde ?_
  repeat' (first | apply wz1|apply wz2|apply wz3|apply wz4|apply wz5|apply wz6 | simp -dsimp (maxSteps:=999999) (disch:=omega) only[go_sem,simprocAttr, *] | ((first | refine wz8 ?_ ?_|refine wz9 ?_ ?_|refine wz7 ?_ ?_)<;>intro hh <;> (try replace hh:=vqs hh) <;> (try (exfalso;first | exact hh | omega))))
  refine jae (fun e H=>∃ (j : Nat) (v : D),j <= d.next.length /\ 3 <= H.length /\ hget H 0 = .arr [dfaD d] /\ hget H 1 = .arr [.agg [.sl true [],.sl true []]] /\ hget H 2 = .arr [.agg [v,.sl false (d.rule.map (.int .i64))]] /\ VecAt 3 v H (((aliveM d).next.take j).map rowD) /\ e 1 = .ptr 0 0 0 /\ e 2 = .ptr 1 0 0 /\ e 3 = .sl false B /\ e 4 = .ptr 2 0 0 /\ e 15 = .sl false (d.next.map rowD) /\ e 16 = .int .i64 d.next.length /\ e 17 = .int .i64 j) (fun e H=>d.next.length - natOf (e 17)) ?_ ?_
  · exact ⟨0,.sl true [],by omega,by simp,rfl,gs,gs,VecAt.nil (by simp),gs,gs,gs,gs,gs,gs,gs⟩
  rintro e H ⟨j,v,hj,hH3,h0,h1,h2,hv,e1,e2,e3,e4,e15,e16,e17⟩ R hR
  by_cases hb : j < d.next.length
  case neg=>
    rw [List.take_of_length_le (by rw [jcW];omega)] at hv
    have hv1 : VecAt 3 v (H.set 1 (.arr [.agg [v,.sl false (d.rule.map (.int .i64))]])) ((aliveM d).next.map rowD):=hv.setLow (by omega)
    have hout:=ju0 (rule:=d.rule) hv1
    have hs1:=jad (H:=H) (r:=1) (ob:=.arr [.agg [v,.sl false (d.rule.map (.int .i64))]]) (by omega)
    repeat' (first | apply wz1|apply wz2|apply wz3|apply wz4|apply wz5|apply wz6 | simp -dsimp (maxSteps:=999999) (disch:=omega) only[go_sem,simprocAttr, *] | ((first | refine wz8 ?_ ?_|refine wz9 ?_ ?_|refine wz7 ?_ ?_)<;>intro hh <;> (try replace hh:=vqs hh) <;> (try (exfalso;first | exact hh | omega))))
    exact hout
  have hrw:=jbV (d:=d) (i:=j) hb
  have b1:=jbv d.next[j]
  have b2:=jbl d.next[j]
  have b3:=jbN d.next[j]
  have hrl : d.next[j].length = 16:=ht _ (List.getElem_mem hb)
  have hri : d.next.getD j [] = d.next[j]:=by simp [List.getD_eq_getElem?_getD,hb]
  have hna:=fun c hc=>jb3 hr ht (i:=j) (c:=c) hb hc
  have haj:=jeQ (d:=d) hb
  rw [hri] at hna haj
  have htk : (aliveM d).next.take (j + 1) = (aliveM d).next.take j ++ [d.next[j].map (cutT d j)]:=by
    rw [ja1 (by rw [jcW];exact hb)]
    congr 2
    rw [<- haj]
    simp [List.getD_eq_getElem?_getD,jcW,hb]
  have hty:=fun r hr=>jel ht r (List.mem_of_mem_take (i:=j) hr)
  have hdj:=hda j hb
  generalize d.next[j] = row at *
  clear hri haj
  repeat' (first | apply wz1|apply wz2|apply wz3|apply wz4|apply wz5|apply wz6 | simp -dsimp (maxSteps:=999999) (disch:=omega) only[go_sem,simprocAttr, *] | ((first | refine wz8 ?_ ?_|refine wz9 ?_ ?_|refine wz7 ?_ ?_)<;>intro hh <;> (try replace hh:=vqs hh) <;> (try (exfalso;first | exact hh | omega))))
  refine jae (fun e Hx=>∃ (c : Nat),c <= 16 /\ Same H.length H Hx /\ hget Hx H.length = .arr [.agg ((mixL (cutT d j) row c).map (.int .i64))] /\ H.length < Hx.length /\ e 1 = .ptr 0 0 0 /\ e 2 = .ptr 1 0 0 /\ e 3 = .sl false B /\ e 4 = .ptr 2 0 0 /\ e 5 = .int .i64 j /\ e 6 = .ptr H.length 0 0 /\ e 15 = .sl false (d.next.map rowD) /\ e 16 = .int .i64 d.next.length /\ e 17 = .int .i64 j /\ e 22 = .agg (row.map (.int .i64)) /\ e 23 = .int .i64 c) (fun e H=>16 - natOf (e 23)) ?_ ?_
  · exact ⟨0,by omega,Same.app (Nat.le_refl _),by rw [jsp,jap];rfl,by simp,gs,gs,gs,gs,gs,gs,gs,gs,gs,by simp -dsimp (maxSteps:=999999) (disch:=omega) only[go_sem,simprocAttr, *,rowD],gs⟩
  have e17o:=e17
  clear e1 e2 e3 e4 e15 e16 e17
  rintro e Hx ⟨c,hc,hsm,hq,hql,e1,e2,e3,e4,e5,e6,e15,e16,e17,e22,e23⟩ R2 hR2
  by_cases hc16 : c < 16
  case neg=>
    rw [jvP (by omega)] at hq
    have h2x : hget Hx 2 = .arr [.agg [v,.sl false (d.rule.map (.int .i64))]]:=by rw [hsm.2 2 (by omega),h2]
    have h0x : hget Hx 0 = .arr [dfaD d]:=by rw [hsm.2 0 (by omega),h0]
    have hvx : VecAt 3 v Hx (((aliveM d).next.take j).map rowD):=by
      obtain ⟨y1,y2⟩:=hv
      refine ⟨Nat.le_trans y1 hsm.1,?_⟩
      rcases y2 with y2 | ⟨y2,r,y3,y4,y5,y6⟩
      · exact .inl y2
      · exact .inr ⟨y2,r,y3,Nat.lt_of_lt_of_le y4 hsm.1,y5,by rw [hsm.2 r y4];exact y6⟩
    obtain ⟨d',H',hap,hv',hs'⟩:=juQ hvx hty (row.map (cutT d j)) (by simpa using hrl) (by simp;omega)
    have k0:=hs'.2 0 (by omega)
    have k2:=hs'.2 2 (by omega)
    rw [h0x] at k0
    rw [h2x] at k2
    have k3 : 3 <= H'.length:=hv'.1
    have h1x : hget Hx 1 = .arr [.agg [.sl true [],.sl true []]]:=by rw [hsm.2 1 (by omega),h1]
    have k1:=hs'.2 1 (by omega)
    rw [h1x] at k1
    obtain ⟨o1,o2,o3⟩:=hv'.one
    have hv2 : VecAt 3 d' (H'.set 2 (.arr [.agg [d',.sl false (d.rule.map (.int .i64))]])) (((aliveM d).next.take j ++ [row.map (cutT d j)]).map rowD):=hv'.setLow (by omega)
    rw [<- htk] at hv2
    clear hsm hv hvx hs' hda hdj hna h0 h1 h2 h0x h1x
    repeat' (first | apply wz1|apply wz2|apply wz3|apply wz4|apply wz5|apply wz6 | simp -dsimp (maxSteps:=999999) (disch:=omega) only[go_sem,simprocAttr, *] | ((first | refine wz8 ?_ ?_|refine wz9 ?_ ?_|refine wz7 ?_ ?_)<;>intro hh <;> (try replace hh:=vqs hh) <;> (try (exfalso;first | exact hh | omega))))
    refine hR _ _ ⟨j + 1,d',by omega,by simpa using k3,gs,gs,gs,hv2,gs,gs,gs,gs,gs,gs,gs⟩ ?_
    simp -dsimp (maxSteps:=999999) (disch:=omega) only[go_sem,simprocAttr, *,jab]
  have hcell : row[c * 1]? = some (row.getD c 0):=by
    rw [Nat.mul_one,List.getD_eq_getElem?_getD,List.getElem?_eq_getElem (by omega)];rfl
  have hb:=hna c hc16
  have hmn:=jkW (f:=cutT d j) (r:=row) (c:=c) (by omega)
  have hms:=jrQ (f:=cutT d j) (r:=row) (c:=c) (by omega)
  have hml:=jm4 (cutT d j) row c
  have hcut : cutT d j (row.getD c 0) = if deadB d j = true ∨ 0 <= row.getD c 0 /\ deadB d (row.getD c 0).toNat = true then -1 else row.getD c 0:=rfl
  generalize row.getD c 0 = t at *
  have hla : (mixL (cutT d j) row c).length <= 16:=by omega
  have hlb : 16 <= (mixL (cutT d j) row c).length:=by omega
  have hset : ∀ L : List Int,(L.map (D.int .i64)).set c (.int .i64 (-1)) = (L.set c (-1)).map (D.int .i64):=fun L=>by rw [List.map_set]
  clear hml
  generalize mixL (cutT d j) row c = M at *
  have hsp : List.take (c * 1) (M.map (D.int .i64)) ++ [D.int .i64 (-1)] ++ List.drop (c * 1 + 1) (M.map (D.int .i64)) = (M.set c (-1)).map (D.int .i64):=by
    rw [Nat.mul_one,<- hset]
    exact jcC (v:=.int .i64 (-1)) (by simp;omega)
  have store : (deadB d j = true ∨ 0 <= t /\ deadB d t.toNat = true) -> mixL (cutT d j) row (c + 1) = M.set c (-1):=fun h=>by rw [hmn,hcut,if_pos h]
  have leave : ¬ (deadB d j = true ∨ 0 <= t /\ deadB d t.toNat = true) -> mixL (cutT d j) row (c + 1) = M:=fun h=>hms (by rw [hcut,if_neg h])
  have hfin : ∀ X,Same H.length H (Hx.set H.length X):=fun X=>hsm.trans (Same.set (Nat.le_refl _))
  clear hmn hms hcut hset
  have hat : 0 <= t -> B[t.toNat]? = some (.bool (deadB d t.toNat)):=fun h=>hda _ (by omega)
  clear hda hna
  by_cases ht0 : 0 <= t
  · have hat':=hat ht0
    generalize deadB d t.toNat = b2 at *
    generalize deadB d j = b1 at *
    cases b1 with
    | true=>
      have hM:=store (.inl rfl)
      repeat' (first | apply wz1|apply wz2|apply wz3|apply wz4|apply wz5|apply wz6 | simp -dsimp (maxSteps:=999999) (disch:=omega) only[go_sem,simprocAttr, *] | ((first | refine wz8 ?_ ?_|refine wz9 ?_ ?_|refine wz7 ?_ ?_)<;>intro hh <;> (try replace hh:=vqs hh) <;> (try (exfalso;first | exact hh | omega))))
      refine hR2 _ _ ⟨c + 1,by omega,hfin _,by rw [hM];exact jad hql,by simpa using hql,gs,gs,gs,gs,gs,gs,gs,gs,gs,gs,gs⟩ ?_
      simp -dsimp (maxSteps:=999999) (disch:=omega) only[go_sem,simprocAttr, *,jab]
    | false=>
      cases b2 with
      | true=>
        have hM:=store (.inr ⟨ht0,rfl⟩)
        repeat' (first | apply wz1|apply wz2|apply wz3|apply wz4|apply wz5|apply wz6 | simp -dsimp (maxSteps:=999999) (disch:=omega) only[go_sem,simprocAttr, *] | ((first | refine wz8 ?_ ?_|refine wz9 ?_ ?_|refine wz7 ?_ ?_)<;>intro hh <;> (try replace hh:=vqs hh) <;> (try (exfalso;first | exact hh | omega))))
        refine hR2 _ _ ⟨c + 1,by omega,hfin _,by rw [hM];exact jad hql,by simpa using hql,gs,gs,gs,gs,gs,gs,gs,gs,gs,gs,gs⟩ ?_
        simp -dsimp (maxSteps:=999999) (disch:=omega) only[go_sem,simprocAttr, *,jab]
      | false=>
        have hM:=leave (by simp)
        repeat' (first | apply wz1|apply wz2|apply wz3|apply wz4|apply wz5|apply wz6 | simp -dsimp (maxSteps:=999999) (disch:=omega) only[go_sem,simprocAttr, *] | ((first | refine wz8 ?_ ?_|refine wz9 ?_ ?_|refine wz7 ?_ ?_)<;>intro hh <;> (try replace hh:=vqs hh) <;> (try (exfalso;first | exact hh | omega))))
        refine hR2 _ _ ⟨c + 1,by omega,hsm,by rw [hM];exact hq,hql,gs,gs,gs,gs,gs,gs,gs,gs,gs,gs,gs⟩ ?_
        simp -dsimp (maxSteps:=999999) (disch:=omega) only[go_sem,simprocAttr, *,jab]
  · clear hat
    generalize deadB d j = b1 at *
    cases b1 with
    | true=>
      have hM:=store (.inl rfl)
      repeat' (first | apply wz1|apply wz2|apply wz3|apply wz4|apply wz5|apply wz6 | simp -dsimp (maxSteps:=999999) (disch:=omega) only[go_sem,simprocAttr, *] | ((first | refine wz8 ?_ ?_|refine wz9 ?_ ?_|refine wz7 ?_ ?_)<;>intro hh <;> (try replace hh:=vqs hh) <;> (try (exfalso;first | exact hh | omega))))
      refine hR2 _ _ ⟨c + 1,by omega,hfin _,by rw [hM];exact jad hql,by simpa using hql,gs,gs,gs,gs,gs,gs,gs,gs,gs,gs,gs⟩ ?_
      simp -dsimp (maxSteps:=999999) (disch:=omega) only[go_sem,simprocAttr, *,jab]
    | false=>
      have hM:=leave (by simp [ht0])
      repeat' (first | apply wz1|apply wz2|apply wz3|apply wz4|apply wz5|apply wz6 | simp -dsimp (maxSteps:=999999) (disch:=omega) only[go_sem,simprocAttr, *] | ((first | refine wz8 ?_ ?_|refine wz9 ?_ ?_|refine wz7 ?_ ?_)<;>intro hh <;> (try replace hh:=vqs hh) <;> (try (exfalso;first | exact hh | omega))))
      refine hR2 _ _ ⟨c + 1,by omega,hsm,by rw [hM];exact hq,hql,gs,gs,gs,gs,gs,gs,gs,gs,gs,gs,gs⟩ ?_
      simp -dsimp (maxSteps:=999999) (disch:=omega) only[go_sem,simprocAttr, *,jab]
end Go.Proofs.W
end
section
namespace Go.Proofs.W
open Go Vm Go.Proofs.Zso
def keyD (k : List Int) : D:=.agg (k.map (.int .i64))
def keyE : Nat -> List (List Int) -> List (D × D)
  | _,[]=>[]
  | i,k :: l=>(keyD k,.int .i64 i) :: keyE (i + 1) l
theorem jd7 : ∀ (l : List (List Int)) (i : Nat),(keyE i l).length = l.length
  | [],_=>rfl
  | k :: l,i=>by simp [keyE,jd7 l (i + 1)]
theorem jk6 : ∀ (l : List (List Int)) (k : List Int) (i : Nat),keyE i (l ++ [k]) = keyE i l ++ [(keyD k,.int .i64 (i + l.length : Nat))]
  | [],k,i=>by simp [keyE]
  | x :: l,k,i=>by
    rw [List.cons_append,keyE,keyE,jk6 l k (i + 1),List.cons_append]
    simp only [List.length_cons]
    rw [show i + 1 + l.length = i + (l.length + 1) by omega]
theorem jil : ∀ (a b : List Int),a.length = b.length -> eqSs (a.map (D.int .i64)) (b.map (D.int .i64)) = some (decide (a = b))
  | [],[],_=>rfl
  | x :: a,y :: b,h=>by
    rw [List.map_cons,List.map_cons,eqSs,jil a b (by simpa using h)]
    by_cases e : x = y
    · subst e;simp [eqS]
    · simp [eqS,e]
theorem jkg {k : List Int} : ∀ (l : List (List Int)) (i m : Nat),(∀ x ∈ l,x.length = k.length) -> findE (keyD k) (keyE i l) m = some ((idxK k l i).map fun j=>(m + (j - i),.int .i64 (j : Nat)))
  | [],i,m,_=>rfl
  | x :: l,i,m,h=>by
    have he : eqSs (D.cells (keyD k)) (D.cells (keyD x)) = some (decide (k = x)):=jil k x (h x List.mem_cons_self).symm
    have ha : aggQ (keyD x) = aggQ (keyD k):=rfl
    rw [keyE,findE,if_pos ha,he,Option.bind_some,idxK]
    by_cases e : k = x
    · simp [e]
    · rw [if_neg e,jkg l (i + 1) (m + 1) fun x hx=>h x (List.mem_cons_of_mem _ hx)]
      simp only [decide_eq_true_eq,e,if_false]
      rcases jbm k l (i + 1) with ⟨g,_⟩ | ⟨j,g,_,_⟩
      · rw [g];rfl
      · rw [g]
        simp only [Option.map_some,Option.some.injEq,Prod.mk.injEq,and_true]
        omega
theorem jff {k : List Int} (h : k.length = 17) : keyOk Tryz.prog 180 (keyD k) = true:=by
  have h1 : Tryz.prog.underlying 180 = some (.array 17 3):=un180
  have h2 : Tryz.prog.underlying 3 = some (.int .i64):=un3
  have h3 : sizeT Tryz.prog 3 = some 1:=sz3
  simp only [keyOk,h1,h2,h3,keyD,List.length_map,h,List.all_map,Bool.true_and,beq_self_eq_true]
  exact List.all_eq_true.2 fun x _=>rfl
theorem juz {H : Heap} {rm : Nat} {es : List (D × D)} {k : List Int} {i : Nat} {v : D} (h : k.length = 17) (hm : hget H rm = .map es) (hf : findE (keyD k) es 0 = some (some (i,v))) : lookupD Tryz.prog 178 H (.map rm) (keyD k) true = some (.tup [v,.bool true]):=by
  have hu : Tryz.prog.underlying 178 = some (.map 180 3):=un178
  simp only [lookupD,hu,jff h,Bool.true_eq_false,if_false,hm,hf,Option.bind_some,Option.map_some,if_true]
theorem juc {H : Heap} {rm : Nat} {es : List (D × D)} {k : List Int} (h : k.length = 17) (hm : hget H rm = .map es) (hf : findE (keyD k) es 0 = some none) : lookupD Tryz.prog 178 H (.map rm) (keyD k) true = some (.tup [.int .i64 0,.bool false]):=by
  have hu : Tryz.prog.underlying 178 = some (.map 180 3):=un178
  have hz : zeroT Tryz.prog 3 = some (.int .i64 0):=zr3
  simp only [lookupD,hu,jff h,Bool.true_eq_false,if_false,hm,hf,Option.bind_some,hz,Option.map_some,if_true]
theorem jtn {H : Heap} {rm : Nat} {es : List (D × D)} {k : List Int} {v : D} (h : k.length = 17) (hm : hget H rm = .map es) (hf : findE (keyD k) es 0 = some none) : updateD Tryz.prog 178 H (.map rm) (keyD k) v = some (H.set rm (.map (es ++ [(keyD k,v)]))):=by
  have hu : Tryz.prog.underlying 178 = some (.map 180 3):=un178
  simp only [updateD,hu,jff h,Bool.true_eq_false,if_false,hm,hf,Option.map_some]
theorem jvp {n : Int} {H : Heap} (h0 : 0 < n) (h1 : n <= 1000000) : makeSliceD Tryz.prog 23 (.int .i64 n) (.int .i64 n) H = some (.vec H.length 0 n.toNat,H ++ [Ob.arr ((List.replicate n.toNat (0 : Int)).map (.int .i64))]):=by
  simp only [makeSliceD,el23,sz3,by3,zr3,Option.bind_some]
  have hcond : 0 <= n /\ n <= n /\ n.toNat * 8 <= mostBytes /\ n < 2 ^ 62 /\ (D.int .i64 0).cells.length = 1:=⟨by omega,Int.le_refl _,by simp only [mostBytes];omega,by omega,rfl⟩
  rw [if_pos hcond,if_neg (by omega)]
  simp
def mixG (K Z : List Int) (c : Nat) : List Int:=K.take c ++ Z.drop c
theorem jqZ (K Z : List Int) : mixG K Z 0 = Z:=by simp [mixG]
theorem jr0 {K Z : List Int} {c : Nat} (h : Z.drop c = K.drop c) : mixG K Z c = K:=by rw [mixG,h,List.take_append_drop]
theorem juu {K Z : List Int} (h : K.length = Z.length) (c : Nat) : (mixG K Z c).length = K.length:=by simp [mixG];omega
theorem jpa {K Z : List Int} (h : K.length = Z.length) {c : Nat} (hc : c < K.length) : (mixG K Z c).set c (K.getD c 0) = mixG K Z (c + 1):=by
  have hl : (K.take c).length = c:=by simp;omega
  unfold mixG
  rw [List.take_add_one,List.set_append_right _ _ (by omega),hl,Nat.sub_self,List.drop_eq_getElem_cons (show c < Z.length by omega),List.set_cons_zero]
  have hg : K[c]? = some (K.getD c 0):=by rw [List.getD_eq_getElem?_getD,List.getElem?_eq_getElem hc];rfl
  rw [hg]
  simp
theorem jvK {a : Dfa} (ht : tyM a) (cl : List Int) {i : Nat} (h : i < a.next.length) : (keyOf a cl i).length = 17:=by
  unfold keyOf
  rw [List.length_append,List.length_map,jbu ht h]
  rfl
theorem jwD (H : Heap) : makeMapD Tryz.prog 178 none H = some (.map H.length,H ++ [.map []]):=by
  simp only [makeMapD,un178]
theorem jhX {H : Heap} {r : Nat} {es : List (D × D)} {n : Nat} (h : hget H r = .map es) (hn : es.length = n) : lenU (some (TypeDesc.map 180 3)) H (.map r) = some n:=by
  subst hn
  simp only [lenU,h]
theorem jeb {H : Heap} {q : Nat} {l : List Int} (h : hget H q = .arr (l.map (.int .i64))) (hl : 0 < l.length) : vecSize H q 1 = true:=by
  refine jep h ?_ ?_
  · cases l with
    | nil=>simp at hl
    | cons b l=>simp
  · cases l with
    | nil=>rfl
    | cons b l=>rfl
theorem juN {outs : List Int} {i n : Nat} (ho : outs.length = i) (hi : i < n) (v : Int) : (outs ++ List.replicate (n - i) 0).set i v = (outs ++ [v]) ++ List.replicate (n - (i + 1)) 0:=by
  rw [List.set_append_right _ _ (by omega),ho,Nat.sub_self,show n - i = n - (i + 1) + 1 by omega,List.replicate_succ,List.set_cons_zero,List.append_assoc]
  rfl
theorem jpO (a : Dfa) (cl : List Int) (ht : tyM a) (hr : rightD a = true) (hcl : cl.length = a.next.length) : PureF Tryz.prog A 92 [dfaD a,isD cl] (.tup [isD (refineL a cl).1,.int .i64 (refineL a cl).2]):=by
  have a1:=jaS a
  have a2:=jaT a
  have a3:=ja5 a
  have hl:=jaA hr
  have hl1 : cl.length <= 200:=by omega
  have hl2 : 1 <= cl.length:=by omega
  have hmk:=fun H=>jvp (n:=(a.next.length : Int)) (H:=H) (by omega) (by omega)
  have hnat : ((a.next.length : Int)).toNat = a.next.length:=by omega
  simp only [hnat] at hmk
  have hkeys : ((List.range a.next.length).map (keyOf a cl)).length = cl.length:=by simp [hcl]
  have hkat : ∀ i,i < cl.length -> ((List.range a.next.length).map (keyOf a cl)).drop i = keyOf a cl i :: ((List.range a.next.length).map (keyOf a cl)).drop (i + 1):=fun i hi=>by
    rw [List.drop_eq_getElem_cons (by rw [hkeys];exact hi)]
    simp
  have hkl : ∀ i,i < cl.length -> (keyOf a cl i).length = 17:=fun i hi=>jvK ht cl (by omega)
  have hkg : ∀ i,i < cl.length -> ∀ c,c < 16 -> (keyOf a cl i).getD c 0 = if 0 <= (a.next.getD i []).getD c 0 then cl.getD ((a.next.getD i []).getD c 0).toNat 0 else -1:=fun i hi c hc=>by
    have hrl:=jbu ht (show i < a.next.length by omega)
    unfold keyOf
    rw [List.getD_eq_getElem?_getD,List.getElem?_append_left (by rw [List.length_map];omega),List.getElem?_map,List.getElem?_eq_getElem (by omega)]
    simp [List.getD_eq_getElem?_getD,show c < (a.next[i]?.getD []).length by rw [<- List.getD_eq_getElem?_getD];omega]
  have hk16 : ∀ i,i < cl.length -> (keyOf a cl i).drop 16 = [cl.getD i 0]:=fun i hi=>by
    unfold keyOf
    rw [List.drop_append,List.drop_eq_nil_of_le (by rw [List.length_map,jbu ht (by omega)];omega),List.length_map,jbu ht (by omega)]
    rfl
  have hcat : ∀ j,j < cl.length -> (cl.map (D.int .i64))[j * 1]? = some (.int .i64 (cl.getD j 0)):=fun j hj=>by
    rw [Nat.mul_one,List.getElem?_map,List.getD_eq_getElem?_getD,List.getElem?_eq_getElem hj];rfl
  have hmp:=jwD
  unfold refineL
  generalize hK : (List.range a.next.length).map (keyOf a cl) = Ks at *
  generalize hRR : numL Ks [] = RR
  replace hRR : RR = (([] : List Int) ++ (numL (Ks.drop 0) []).1,(numL (Ks.drop 0) []).2):=hRR.symm
  clear hK
  refine jaj (n:=69) (rs:=[.tmp 4,.tmp 5]) Tryz.func92 rfl rfl rfl rfl rfl rfl ?_
  repeat' (first | apply wz1|apply wz2|apply wz3|apply wz4|apply wz5|apply wz6 | simp -dsimp (maxSteps:=999999) (disch:=omega) only[go_sem,simprocAttr, *,isD] | ((first | refine wz8 (fun hh=>?_) (fun hh=>?_) | refine wz9 (fun hh=>?_) (fun hh=>?_) | refine jak (by simp -dsimp (maxSteps:=999999) (disch:=omega) only[go_sem,simprocAttr, *,isD];exact rfl) (fun hh=>?_) (fun hh=>?_)) <;> (try replace hh:=vqs hh) <;> (try (exfalso;first | exact hh | omega))))
  refine jae (fun e H=>∃ (i : Nat) (S : List (List Int)) (outs : List Int),i <= a.next.length /\ outs.length = i /\ S.length <= i /\ (∀ k ∈ S,k.length = 17) /\ RR = (outs ++ (numL (Ks.drop i) S).1,(numL (Ks.drop i) S).2) /\ 3 <= H.length /\ hget H 0 = .arr [dfaD a] /\ hget H 1 = .map (keyE 0 S) /\ hget H 2 = .arr ((outs ++ List.replicate (a.next.length - i) 0).map (.int .i64)) /\ e 1 = .sl false (cl.map (.int .i64)) /\ e 2 = .ptr 0 0 0 /\ e 6 = .map 1 /\ e 7 = .vec 2 0 a.next.length /\ e 19 = .int .i64 a.next.length /\ e 20 = .int .i64 i) (fun e H=>a.next.length - natOf (e 20)) ?_ ?_
  · exact ⟨0,[],[],by omega,rfl,by simp,by simp,hRR,by simp,gs,by simp -dsimp (maxSteps:=999999) (disch:=omega) only[go_sem,simprocAttr, *,keyE],by simp -dsimp (maxSteps:=999999) (disch:=omega) only[go_sem,simprocAttr, *,Nat.sub_zero],by simp -dsimp (maxSteps:=999999) (disch:=omega) only[go_sem,simprocAttr, *,isD],gs,gs,gs,gs,gs⟩
  clear hRR
  rintro e H ⟨i,S,outs,hi,ho,hS,hSk,hRR,hH3,h0,h1,h2,e1,e2,e6,e7,e19,e20⟩ R hR
  by_cases hb : i < a.next.length
  case neg=>
    have hin : i = a.next.length:=by omega
    rw [List.drop_eq_nil_of_le (by omega)] at hRR
    simp only [numL,List.append_nil] at hRR
    subst hRR
    rw [hin,Nat.sub_self,List.replicate_zero,List.append_nil] at h2
    have hlm:=jhX h1 (jd7 S 0)
    have hv : VecAt 2 (.vec 2 0 a.next.length) H (outs.map (.int .i64)):=⟨by omega,.inr ⟨fun h=>by
      have:=congrArg List.length h
      rw [List.length_map] at this
      simp only [List.length_nil] at this
      omega,2,by omega,by omega,by rw [List.length_map,ho,hin],h2⟩⟩
    repeat' (first | apply wz1|apply wz2|apply wz3|apply wz4|apply wz5|apply wz6 | simp -dsimp (maxSteps:=999999) (disch:=omega) only[go_sem,simprocAttr, *] | ((first | refine wz8 ?_ ?_|refine wz9 ?_ ?_|refine wz7 ?_ ?_)<;>intro hh <;> (try replace hh:=vqs hh) <;> (try (exfalso;first | exact hh | omega))))
    show outPure H (.tup [.vec 2 0 a.next.length,.int .i64 (S.length : Int)]) = _
    exact hv.out_pair (e:=.int .i64 (S.length : Int)) (jaM _) rfl
  have hlm:=jhX h1 (jd7 S 0)
  rw [hkat i (by omega)] at hRR
  have hKl:=hkl i (by omega)
  have hKg:=hkg i (by omega)
  have hK16:=hk16 i (by omega)
  have hci:=hcat i (by omega)
  generalize hKe : keyOf a cl i = K at *
  have hrw:=jbV (d:=a) (i:=i) hb
  have b1:=jbv a.next[i]
  have b2:=jbl a.next[i]
  have b3:=jbN a.next[i]
  have hrl : a.next[i].length = 16:=ht _ (List.getElem_mem hb)
  have hri : a.next.getD i [] = a.next[i]:=by simp [List.getD_eq_getElem?_getD,hb]
  have hna:=fun c hc=>jb3 hr ht (i:=i) (c:=c) hb hc
  rw [hri] at hna hKg
  generalize a.next[i] = row at *
  clear hri hKe hkl hkg hk16 hkat hkeys
  have hxi : cl[i]'(by omega) = cl.getD i 0:=by simp [List.getD_eq_getElem?_getD,show i < cl.length by omega]
  generalize hx : cl.getD i 0 = x at *
  generalize hZ : List.replicate 16 (0 : Int) ++ [x] = Z
  have hZl : K.length = Z.length:=by rw [hKl,<- hZ];simp
  have hZ16 : Z.drop 16 = K.drop 16:=by rw [hK16,<- hZ];rfl
  have hZ0 : (mixG K Z 0).map (D.int .i64) = [.int .i64 0,.int .i64 0,.int .i64 0,.int .i64 0,.int .i64 0,.int .i64 0,.int .i64 0,.int .i64 0,.int .i64 0,.int .i64 0,.int .i64 0,.int .i64 0,.int .i64 0,.int .i64 0,.int .i64 0,.int .i64 0,.int .i64 x]:=by rw [jqZ,<- hZ];rfl
  clear hZ
  repeat' (first | apply wz1|apply wz2|apply wz3|apply wz4|apply wz5|apply wz6 | simp -dsimp (maxSteps:=999999) (disch:=omega) only[go_sem,simprocAttr, *] | ((first | refine wz8 ?_ ?_|refine wz9 ?_ ?_|refine wz7 ?_ ?_)<;>intro hh <;> (try replace hh:=vqs hh) <;> (try (exfalso;first | exact hh | omega))))
  refine jae (fun e Hx=>∃ (c : Nat),c <= 16 /\ Same H.length H Hx /\ hget Hx H.length = .arr [.agg ((mixG K Z c).map (.int .i64))] /\ H.length < Hx.length /\ e 1 = .sl false (cl.map (.int .i64)) /\ e 2 = .ptr 0 0 0 /\ e 6 = .map 1 /\ e 7 = .vec 2 0 a.next.length /\ e 8 = .int .i64 i /\ e 9 = .ptr H.length 0 0 /\ e 19 = .int .i64 a.next.length /\ e 20 = .int .i64 i /\ e 32 = .agg (row.map (.int .i64)) /\ e 33 = .int .i64 c) (fun e H=>16 - natOf (e 33)) ?_ ?_
  · exact ⟨0,by omega,Same.app (Nat.le_refl _),by rw [hZ0,jap];rfl,by simp,gs,gs,gs,gs,gs,gs,gs,gs,by simp -dsimp (maxSteps:=999999) (disch:=omega) only[go_sem,simprocAttr, *,rowD],gs⟩
  have e20o:=e20
  clear e1 e2 e6 e7 e19 e20
  rintro e Hx ⟨c,hc,hsm,hq,hql,e1,e2,e6,e7,e8,e9,e19,e20,e32,e33⟩ R2 hR2
  by_cases hc16 : c < 16
  case neg=>
    have hce : c = 16:=by omega
    rw [hce,jr0 hZ16] at hq
    have h0x : hget Hx 0 = .arr [dfaD a]:=by rw [hsm.2 0 (by omega),h0]
    have h1x : hget Hx 1 = .map (keyE 0 S):=by rw [hsm.2 1 (by omega),h1]
    have h2x : hget Hx 2 = .arr ((outs ++ List.replicate (a.next.length - i) 0).map (.int .i64)):=by rw [hsm.2 2 (by omega),h2]
    have hlmx:=jhX h1x (jd7 S 0)
    have hHx : 3 <= Hx.length:=by omega
    have hfk:=jkg (k:=K) S 0 0 (fun x hx=>by rw [hSk x hx,hKl])
    clear hsm h0 h1 h2 hlm hna hKg hrw hZ0 hZ16 hZl hK16
    rw [numL] at hRR
    have hL : (outs ++ List.replicate (a.next.length - i) 0).length = a.next.length:=by simp;omega
    have hLs:=juN ho hb
    generalize outs ++ List.replicate (a.next.length - i) 0 = L at *
    have hat : (L.map (D.int .i64))[i]? = some (.int .i64 (L.getD i 0)):=jcF (by omega)
    have hLm : (L.map (D.int .i64)).length = a.next.length:=by simpa using hL
    rcases jbm K S 0 with ⟨g,_⟩ | ⟨j,g,gj,_⟩
    · rw [g] at hfk hRR
      have hlk : lookupD Tryz.prog 178 Hx (.map 1) (.agg (K.map (.int .i64))) true = _:=juc hKl h1x hfk
      have hup : updateD Tryz.prog 178 Hx (.map 1) (.agg (K.map (.int .i64))) (.int .i64 (S.length : Int)) = _:=jtn hKl h1x hfk
      have hka:=jk6 S K 0
      rw [Nat.zero_add] at hka
      rw [<- hka] at hup
      have k0 : hget (Hx.set 1 (.map (keyE 0 (S ++ [K])))) 0 = .arr [dfaD a]:=by rw [jaa (by omega),h0x]
      have k1 : hget (Hx.set 1 (.map (keyE 0 (S ++ [K])))) 1 = .map (keyE 0 (S ++ [K])):=jad (by omega)
      have k2 : hget (Hx.set 1 (.map (keyE 0 (S ++ [K])))) 2 = .arr (L.map (.int .i64)):=by rw [jaa (by omega),h2x]
      have k3 : 3 <= (Hx.set 1 (.map (keyE 0 (S ++ [K])))).length:=by simpa using hHx
      generalize Hx.set 1 (.map (keyE 0 (S ++ [K]))) = Hy at *
      have hvs:=jeb k2 (by omega)
      have hse : (L.map (D.int .i64)).set i (.int .i64 (S.length : Int)) = ((outs ++ [(S.length : Int)]) ++ List.replicate (a.next.length - (i + 1)) 0).map (.int .i64):=by rw [<- List.map_set,hLs]
      clear hL hLs hka
      repeat' (first | apply wz1|apply wz2|apply wz3|apply wz4|apply wz5|apply wz6 | simp -dsimp (maxSteps:=999999) (disch:=omega) only[go_sem,simprocAttr, *] | ((first | refine wz8 ?_ ?_|refine wz9 ?_ ?_|refine wz7 ?_ ?_)<;>intro hh <;> (try replace hh:=vqs hh) <;> (try (exfalso;first | exact hh | omega))))
      refine hR _ _ ⟨i + 1,S ++ [K],outs ++ [(S.length : Int)],by omega,by simpa using ho,by simpa using hS,fun k hk=>?_,by rw [hRR,List.append_assoc];rfl,by simpa using k3,gs,gs,gs,gs,gs,gs,gs,gs,gs⟩ ?_
      · rcases List.mem_append.1 hk with h | h
        · exact hSk k h
        · rw [List.mem_singleton.1 h];exact hKl
      simp -dsimp (maxSteps:=999999) (disch:=omega) only[go_sem,simprocAttr, *,jab]
    · rw [g] at hfk hRR
      have hlk : lookupD Tryz.prog 178 Hx (.map 1) (.agg (K.map (.int .i64))) true = _:=juz hKl h1x hfk
      have hvs:=jeb h2x (by omega)
      have hse : (L.map (D.int .i64)).set i (.int .i64 (j : Int)) = ((outs ++ [(j : Int)]) ++ List.replicate (a.next.length - (i + 1)) 0).map (.int .i64):=by rw [<- List.map_set,hLs]
      clear hL hLs
      repeat' (first | apply wz1|apply wz2|apply wz3|apply wz4|apply wz5|apply wz6 | simp -dsimp (maxSteps:=999999) (disch:=omega) only[go_sem,simprocAttr, *] | ((first | refine wz8 ?_ ?_|refine wz9 ?_ ?_|refine wz7 ?_ ?_)<;>intro hh <;> (try replace hh:=vqs hh) <;> (try (exfalso;first | exact hh | omega))))
      refine hR _ _ ⟨i + 1,S,outs ++ [(j : Int)],by omega,by simpa using ho,by omega,hSk,by rw [hRR,List.append_assoc,Nat.zero_add];rfl,by simpa using hHx,gs,gs,gs,gs,gs,gs,gs,gs,gs⟩ ?_
      simp -dsimp (maxSteps:=999999) (disch:=omega) only[go_sem,simprocAttr, *,jab]
  have hcell : row[c * 1]? = some (row.getD c 0):=by
    rw [Nat.mul_one,List.getD_eq_getElem?_getD,List.getElem?_eq_getElem (by omega)];rfl
  have hbt:=hna c hc16
  have hkc:=hKg c hc16
  have hmn:=jpa hZl (c:=c) (by omega)
  have hml:=juu hZl c
  rw [hkc] at hmn
  have hct : 0 <= row.getD c 0 -> (cl.map (D.int .i64))[(row.getD c 0).toNat]? = some (.int .i64 (cl.getD (row.getD c 0).toNat 0)):=fun h=>jcF (by omega)
  generalize row.getD c 0 = t at *
  have hla : (mixG K Z c).length <= 17:=by omega
  have hlb : 17 <= (mixG K Z c).length:=by omega
  clear hml
  generalize mixG K Z c = M at *
  have hsp : List.take (c * 1) (M.map (D.int .i64)) ++ [D.int .i64 (-1)] ++ List.drop (c * 1 + 1) (M.map (D.int .i64)) = (M.set c (-1)).map (D.int .i64):=by
    rw [Nat.mul_one,List.map_set]
    exact jcC (v:=.int .i64 (-1)) (by simp;omega)
  have hsp2 : ∀ v,List.take (c * 1) ((M.set c (-1)).map (D.int .i64)) ++ [D.int .i64 v] ++ List.drop (c * 1 + 1) ((M.set c (-1)).map (D.int .i64)) = (M.set c v).map (D.int .i64):=fun v=>by
    rw [Nat.mul_one,show M.set c v = (M.set c (-1)).set c v by simp,List.map_set (l:=M.set c (-1))]
    exact jcC (v:=.int .i64 v) (by simp;omega)
  have hfin : ∀ X,Same H.length H (Hx.set H.length X):=fun X=>hsm.trans (Same.set (Nat.le_refl _))
  have hfin2 : ∀ X Y,Same H.length H ((Hx.set H.length X).set H.length Y):=fun X Y=>(hfin X).trans (Same.set (Nat.le_refl _))
  have hlc : (M.set c (-1)).length = M.length:=by simp
  clear hna hKg h0 h1 h2 hrw hkc
  by_cases ht0 : 0 <= t
  · rw [if_pos ht0] at hmn
    have hct':=hct ht0
    clear hct
    repeat' (first | apply wz1|apply wz2|apply wz3|apply wz4|apply wz5|apply wz6 | simp -dsimp (maxSteps:=999999) (disch:=omega) only[go_sem,simprocAttr, *] | ((first | refine wz8 ?_ ?_|refine wz9 ?_ ?_|refine wz7 ?_ ?_)<;>intro hh <;> (try replace hh:=vqs hh) <;> (try (exfalso;first | exact hh | omega))))
    refine hR2 _ _ ⟨c + 1,by omega,hfin2 _ _,jad (by simpa using hql),by simpa using hql,gs,gs,gs,gs,gs,gs,gs,gs,gs,gs⟩ ?_
    simp -dsimp (maxSteps:=999999) (disch:=omega) only[go_sem,simprocAttr, *,jab]
  · rw [if_neg ht0] at hmn
    clear hct hsp2
    repeat' (first | apply wz1|apply wz2|apply wz3|apply wz4|apply wz5|apply wz6 | simp -dsimp (maxSteps:=999999) (disch:=omega) only[go_sem,simprocAttr, *] | ((first | refine wz8 ?_ ?_|refine wz9 ?_ ?_|refine wz7 ?_ ?_)<;>intro hh <;> (try replace hh:=vqs hh) <;> (try (exfalso;first | exact hh | omega))))
    refine hR2 _ _ ⟨c + 1,by omega,hfin _,by rw [<- hmn];exact jad hql,by simpa using hql,gs,gs,gs,gs,gs,gs,gs,gs,gs,gs⟩ ?_
    simp -dsimp (maxSteps:=999999) (disch:=omega) only[go_sem,simprocAttr, *,jab]
end Go.Proofs.W
end
section
namespace Go.Proofs.W
open Go Vm Go.Proofs.Zso
theorem juU {x : Int} {l : List Int} (hl : l.length <= 100000) (H : Heap) : appendD Tryz.prog 23 H (.sl true []) (.sl false (.int .i64 x :: l.map (.int .i64))) = some (.vec H.length 0 (l.length + 1),H ++ [.arr (.int .i64 x :: l.map (.int .i64))]):=by
  have hs : stripL (.int .i64 x :: l.map (D.int .i64)) = some (.int .i64 x :: l.map (D.int .i64)):=jaM (x :: l)
  have hadd : addedD H (.sl false (.int .i64 x :: l.map (.int .i64))) = some (.int .i64 x :: l.map (.int .i64),H):=by
    have : pures H (.int .i64 x :: l.map (D.int .i64)) = some (.int .i64 x :: l.map (D.int .i64),H):=jaz hs
    simp [addedD,elems,this,puresA]
    done
  simp only [appendD,el23,sz3,by3,zr3,Option.bind_some,hadd]
  simp [headSize,mostBytes,D.cells]
  omega
theorem jsA (l : List Int) (h : l ≠ []) (hl : l.length <= 100000) : PureF Tryz.prog A 35 [isD l] (isD l):=by
  cases l with
  | nil=>exact absurd rfl h
  | cons x l=>
  have happ:=fun H=>juU (x:=x) (l:=l) (by simp at hl;omega) H
  refine jaj (n:=8) (rs:=[.tmp 2]) Tryz.func35 rfl rfl rfl rfl rfl rfl ?_
  repeat' (first | apply wz1|apply wz2|apply wz3|apply wz4|apply wz5|apply wz6 | simp -dsimp (maxSteps:=999999) (disch:=omega) only[go_sem,simprocAttr, *,isD] | ((first | refine wz8 (fun hh=>?_) (fun hh=>?_) | refine wz9 (fun hh=>?_) (fun hh=>?_) | refine jak (by simp -dsimp (maxSteps:=999999) (disch:=omega) only[go_sem,simprocAttr, *,isD];exact rfl) (fun hh=>?_) (fun hh=>?_)) <;> (try replace hh:=vqs hh) <;> (try (exfalso;first | exact hh | omega))))
  have hv : VecAt 0 (.vec 0 0 (l.length + 1)) [Ob.arr (.int .i64 x :: l.map (.int .i64))] ((x :: l).map (.int .i64)):=⟨by simp,.inr ⟨by simp,0,by omega,by simp,by simp,rfl⟩⟩
  exact hv.out (jaM _)
theorem jn5 (d : Dfa) (ht : tyM d) (hr : rightD d = true) : PureF Tryz.prog A 69 [dfaD d] (isD (classesM (aliveM d))):=by
  have hal:=ji4 d ht hr
  have ht2:=jel ht
  have hr2:=jcP hr
  have s1:=jdq d
  generalize aliveM d = a at *
  have a1:=jaS d
  have a2:=jaT d
  have a3:=ja5 d
  have a4:=jaS a
  have a5:=jaT a
  have a6:=ja5 a
  have hl:=jaA hr2
  have hcl:=jsA a.rule (fun h=>by
    have:=congrArg List.length h
    simp only [List.length_nil] at this
    omega) (by omega)
  refine jaj (n:=24) (rs:=[.tmp 2]) Tryz.func69 rfl rfl rfl rfl rfl rfl ?_
  repeat' (first | apply wz1|apply wz2|apply wz3|apply wz4|apply wz5|apply wz6 | simp -dsimp (maxSteps:=999999) (disch:=omega) only[go_sem,simprocAttr, *] | ((first | refine wz8 ?_ ?_|refine wz9 ?_ ?_|refine wz7 ?_ ?_)<;>intro hh <;> (try replace hh:=vqs hh) <;> (try (exfalso;first | exact hh | omega))))
  refine jal bo70 rfl rfl s1 hal ?_
  repeat' (first | apply wz1|apply wz2|apply wz3|apply wz4|apply wz5|apply wz6 | simp -dsimp (maxSteps:=999999) (disch:=omega) only[go_sem,simprocAttr, *] | ((first | refine wz8 ?_ ?_|refine wz9 ?_ ?_|refine wz7 ?_ ?_)<;>intro hh <;> (try replace hh:=vqs hh) <;> (try (exfalso;first | exact hh | omega))))
  refine jal bo35 rfl rfl (jaH (jaJ _)) hcl ?_
  repeat' (first | apply wz1|apply wz2|apply wz3|apply wz4|apply wz5|apply wz6 | simp -dsimp (maxSteps:=999999) (disch:=omega) only[go_sem,simprocAttr, *] | ((first | refine wz8 ?_ ?_|refine wz9 ?_ ?_|refine wz7 ?_ ?_)<;>intro hh <;> (try replace hh:=vqs hh) <;> (try (exfalso;first | exact hh | omega))))
  refine jae (fun e H=>∃ (f : Nat) (cl : List Int) (n : Int),clsR a f cl n = classesM a /\ RoundI a cl n /\ 0 <= n /\ n <= a.next.length /\ a.next.length + 1 <= f + n /\ hget H 0 = .arr [dfaD a] /\ e 1 = .ptr 0 0 0 /\ e 3 = isD cl /\ e 4 = .int .i64 n) (fun e H=>a.next.length - natOf (e 4)) ?_ ?_
  · exact ⟨a.next.length + 2,a.rule,0,rfl,⟨by omega,fun i j _ _ h=>h,.inl rfl⟩,by omega,by omega,by omega,gs,gs,gs,gs⟩
  rintro e H ⟨f,cl,n,hcm,hI,h0n,hnn,hfn,h0,e1,e3,e4⟩ R hR
  have hre:=jpO a cl ht2 hr2 hI.len
  have hmo:=jd8 hI
  have hnx:=jed hI
  obtain ⟨f,rfl⟩ : ∃ g,f = g + 1:=⟨f - 1,by omega⟩
  rw [clsR] at hcm
  generalize refineL a cl = rf at *
  obtain ⟨cl2,n2⟩:=rf
  simp only at hcm hmo hnx hre
  repeat' (first | apply wz1|apply wz2|apply wz3|apply wz4|apply wz5|apply wz6 | simp -dsimp (maxSteps:=999999) (disch:=omega) only[go_sem,simprocAttr, *] | ((first | refine wz8 ?_ ?_|refine wz9 ?_ ?_|refine wz7 ?_ ?_)<;>intro hh <;> (try replace hh:=vqs hh) <;> (try (exfalso;first | exact hh | omega))))
  refine jal bo92 rfl rfl (jb7 (jcS a) (jaJ cl)) hre ?_
  by_cases hne : n2 = n
  · rw [if_pos hne] at hcm
    subst hne hcm
    repeat' (first | apply wz1|apply wz2|apply wz3|apply wz4|apply wz5|apply wz6 | simp -dsimp (maxSteps:=999999) (disch:=omega) only[go_sem,simprocAttr, *] | ((first | refine wz8 ?_ ?_|refine wz9 ?_ ?_|refine wz7 ?_ ?_)<;>intro hh <;> (try replace hh:=vqs hh) <;> (try (exfalso;first | exact hh | omega))))
    exact jaF (jaJ _)
  · rw [if_neg hne] at hcm
    repeat' (first | apply wz1|apply wz2|apply wz3|apply wz4|apply wz5|apply wz6 | simp -dsimp (maxSteps:=999999) (disch:=omega) only[go_sem,simprocAttr, *] | ((first | refine wz8 ?_ ?_|refine wz9 ?_ ?_|refine wz7 ?_ ?_)<;>intro hh <;> (try replace hh:=vqs hh) <;> (try (exfalso;first | exact hh | omega))))
    refine hR _ _ ⟨f,cl2,n2,hcm,hnx,by omega,by omega,by omega,gs,gs,gs,gs⟩ ?_
    simp -dsimp (maxSteps:=999999) (disch:=omega) only[go_sem,simprocAttr, *,jab]
end Go.Proofs.W
end
section
namespace Go.Proofs.W
open Go Vm Go.Proofs.Zso
theorem jtL (P : Program) (A : Ann) (t : TypeId) (x y z : Operand) {e : Env} {H : Heap} {K Kp : D -> Heap -> Prop} : @Eq Prop (vOpB P A (.insert t x y z) e H K Kp) (outB (stepOp P A noCall (.insert t x y z) e H) K Kp):=by
  unfold vOpB outB
  rfl
attribute [local go_sem] jtL
def zE : Nat -> List Int -> List (D × D)
  | _,[]=>[]
  | i,c :: l=>(.int .i64 c,.int .i64 i) :: zE (i + 1) l
theorem jqM : ∀ (l : List Int) (c : Int) (i : Nat),zE i (l ++ [c]) = zE i l ++ [(.int .i64 c,.int .i64 (i + l.length : Nat))]
  | [],c,i=>by simp [zE]
  | x :: l,c,i=>by
    rw [List.cons_append,zE,zE,jqM l c (i + 1),List.cons_append]
    simp only [List.length_cons]
    rw [show i + 1 + l.length = i + (l.length + 1) by omega]
theorem jrl {c : Int} : ∀ (l : List Int) (i m : Nat),findE (.int .i64 c) (zE i l) m = some ((idxZ c l i).map fun j=>(m + (j - i),.int .i64 (j : Nat)))
  | [],i,m=>rfl
  | x :: l,i,m=>by
    rw [zE,findE,idxZ]
    by_cases e : c = x
    · subst e
      simp [D.cells,eqSs,eqS,aggQ]
    · simp only [D.cells,eqSs,eqS,aggQ,e]
      simp [e,jrl l (i + 1) (m + 1)]
      rcases jdF c l (i + 1) with ⟨g,_⟩ | ⟨j,g,_⟩
      · rw [g];simp
      · rw [g];simp;omega
theorem jsE {H : Heap} {rm : Nat} {es : List (D × D)} {c : Int} {i : Nat} {v : D} (hm : hget H rm = .map es) (hf : findE (.int .i64 c) es 0 = some (some (i,v))) : lookupD Tryz.prog 140 H (.map rm) (.int .i64 c) true = some (.tup [v,.bool true]):=by
  have hu : Tryz.prog.underlying 140 = some (.map 3 3):=un140
  have hk : keyOk Tryz.prog 3 (.int .i64 c) = true:=by simp only [keyOk,un3]
  simp only [lookupD,hu,hk,Bool.true_eq_false,if_false,hm,hf,Option.bind_some,Option.map_some,if_true]
theorem jrU {H : Heap} {rm : Nat} {es : List (D × D)} {c : Int} (hm : hget H rm = .map es) (hf : findE (.int .i64 c) es 0 = some none) : lookupD Tryz.prog 140 H (.map rm) (.int .i64 c) true = some (.tup [.int .i64 0,.bool false]):=by
  have hu : Tryz.prog.underlying 140 = some (.map 3 3):=un140
  have hk : keyOk Tryz.prog 3 (.int .i64 c) = true:=by simp only [keyOk,un3]
  have hz : zeroT Tryz.prog 3 = some (.int .i64 0):=zr3
  simp only [lookupD,hu,hk,Bool.true_eq_false,if_false,hm,hf,Option.bind_some,hz,Option.map_some,if_true]
theorem jjU {H : Heap} {rm : Nat} {es : List (D × D)} {c : Int} {v : D} (hm : hget H rm = .map es) (hf : findE (.int .i64 c) es 0 = some none) : updateD Tryz.prog 140 H (.map rm) (.int .i64 c) v = some (H.set rm (.map (es ++ [(.int .i64 c,v)]))):=by
  have hu : Tryz.prog.underlying 140 = some (.map 3 3):=un140
  have hk : keyOk Tryz.prog 3 (.int .i64 c) = true:=by simp only [keyOk,un3]
  simp only [updateD,hu,hk,Bool.true_eq_false,if_false,hm,hf,Option.map_some]
theorem jxw (H : Heap) : makeMapD Tryz.prog 140 none H = some (.map H.length,H ++ [.map []]):=by
  simp only [makeMapD,un140]
structure SmAt (a : Dfa) (cl fs : List Int) (nx : List (List Int)) (rl : List Int) (dF dN dR : D) (H : Heap) : Prop where
  ms : Ms 4 [dF,dN,dR] [fs.map (.int .i64),nx.map rowD,rl.map (.int .i64)] H
  h0 : hget H 0 = .arr [dfaD a]
  h1 : hget H 1 = .arr [.agg [.sl true [],.sl true []]]
  h2 : hget H 2 = .map (zE 0 (fs.map fun s=>cl.getD s.toNat 0))
  h4 : hget H 4 = .arr [.agg [dN,dR]]
  lo : ∀ i r,r ∈ objsD ([dF,dN,dR].getD i ud) -> 3 <= r
def freeQ (dF dN dR : D) (r : Nat) : Prop:=∀ i,r ∉ objsD ([dF,dN,dR].getD i ud)
theorem SmAt.lt {a : Dfa} {cl fs : List Int} {nx : List (List Int)} {rl : List Int} {dF dN dR : D} {H : Heap} (h : SmAt a cl fs nx rl dF dN dR H) : 5 <= H.length:=h.ms.m
theorem SmAt.keep {a : Dfa} {cl fs : List Int} {nx : List (List Int)} {rl : List Int} {dF dN dR : D} {H H' : Heap} (h : SmAt a cl fs nx rl dF dN dR H) (hl : H.length <= H'.length) (hk : ∀ r,r < H.length -> (r < 5 ∨ ¬ freeQ dF dN dR r) -> hget H' r = hget H r) : SmAt a cl fs nx rl dF dN dR H':=by
  have h5:=h.lt
  refine ⟨⟨fun i hi=>jaQ (h.ms.v i hi) hl fun r hr=>hk r (h.ms.lt hr) (.inr fun hf=>hf i hr),h.ms.lenX,h.ms.ap,by omega⟩,?_,?_,?_,?_,h.lo⟩
  · rw [hk 0 (by omega) (.inl (by omega))];exact h.h0
  · rw [hk 1 (by omega) (.inl (by omega))];exact h.h1
  · rw [hk 2 (by omega) (.inl (by omega))];exact h.h2
  · rw [hk 4 (by omega) (.inl (by omega))];exact h.h4
theorem SmAt.more {a : Dfa} {cl fs : List Int} {nx : List (List Int)} {rl : List Int} {dF dN dR : D} {H : Heap} (h : SmAt a cl fs nx rl dF dN dR H) (t : Int) (hn : fs.length <= 100000) :
    ∃ d' H2,appendD Tryz.prog 23 (H.set 2 (.map (zE 0 ((fs ++ [t]).map fun s=>cl.getD s.toNat 0))) ++ [Ob.arr [.int .i64 t]]) dF (.vec H.length 0 1) = some (d',H2) /\ SmAt a cl (fs ++ [t]) nx rl d' dN dR H2 /\ H.length <= H2.length /\ (∀ r,r < H.length -> r ≠ 2 -> freeQ dF dN dR r -> hget H2 r = hget H r) /\ (∀ r ∈ objsD d',H.length <= r) /\ d'.cells = [d'] /\ aggQ d' = false /\ noTup d' = true:=by
  have h5:=h.lt
  generalize hob : Ob.map (zE 0 ((fs ++ [t]).map fun s=>cl.getD s.toNat 0)) = ob
  have hms : Ms 4 [dF,dN,dR] [fs.map (.int .i64),nx.map rowD,rl.map (.int .i64)] (H.set 2 ob):=⟨fun i hi=>jaQ (h.ms.v i hi) (by simp) fun r hr=>jaa (by have:=h.lo i r hr;omega),h.ms.lenX,h.ms.ap,by simpa using h.ms.m⟩
  have hadd:=jbZ (H:=H.set 2 ob) (q:=.int .i64 t) (.inl rfl)
  rw [List.length_set] at hadd
  obtain ⟨d',H2,p1,p2,p3,p4,p5,p6,p7,p8,p9⟩:=hms.app (p:=0) (by simp) (H1:=H.set 2 ob ++ [Ob.arr [.int .i64 t]]) el23 sz3 by3 zr3 rfl (by decide) (by simp) (fun r hr=>jac hr) hadd rfl (jba fs) (by simp;omega)
  simp only [List.length_append,List.length_set,List.length_cons,List.length_nil] at p4 p5 p6
  simp only [List.getD_cons_zero] at p1 p5
  have hnF : ∀ r,r < 5 -> r ≠ 3 -> r ∉ objsD dF:=fun r hr h3 ho=>by
    have:=h.lo 0 r (by simpa using ho)
    have h4 : r = 4:=by omega
    subst h4
    exact h.ms.notM (i:=0) (by simpa using ho)
  refine ⟨d',H2,p1,⟨by simpa using p2,?_,?_,?_,?_,fun i r hr=>?_⟩,by omega,fun r hr h2 hf=>?_,fun r hr=>p6 r hr,p7,p8,p9⟩
  · rw [p5 0 (by omega) (hnF 0 (by omega) (by omega)),jaa (by omega),h.h0]
  · rw [p5 1 (by omega) (hnF 1 (by omega) (by omega)),jaa (by omega),h.h1]
  · rw [p5 2 (by omega) (hnF 2 (by omega) (by omega)),jad (by omega),<- hob]
  · rw [p5 4 (by omega) (hnF 4 (by omega) (by omega)),jaa (by omega),h.h4]
  · match i,hr with
    | 0,hr=>have:=p6 r hr;omega
    | 1,hr=>exact h.lo 1 r hr
    | 2,hr=>exact h.lo 2 r hr
    | i + 3,hr=>simp [ud,objsD] at hr
  · rw [p5 r hr (by simpa using hf 0),jaa (by omega)]
theorem SmAt.row {a : Dfa} {cl fs : List Int} {nx : List (List Int)} {rl : List Int} {dF dN dR : D} {H : Heap} (h : SmAt a cl fs nx rl dF dN dR H) (x : List Int) (hx : x.length = 16) (hnx : ∀ r ∈ nx,r.length = 16) (hn : nx.length <= 10000) :
    ∃ d' H2,appendD Tryz.prog 65 (H ++ [Ob.arr [.agg (x.map (.int .i64))]]) dN (.vec H.length 0 1) = some (d',H2) /\ SmAt a cl fs (nx ++ [x]) rl dF d' dR (H2.set 4 (.arr [.agg [d',dR]])) /\ 5 <= H2.length /\ hget H2 4 = .arr [.agg [dN,dR]] /\ hget H2 0 = .arr [dfaD a] /\ d'.cells = [d'] /\ aggQ d' = false /\ noTup d' = true:=by
  have h5:=h.lt
  have hadd:=jbZ (H:=H) (q:=rowD x) (.inl (jcT x))
  obtain ⟨d',H2,p1,p2,p3,p4,p5,p6,p7,p8,p9⟩:=h.ms.app (p:=1) (by simp) (H1:=H ++ [Ob.arr [rowD x]]) el65 sz90 by90 zr90 rfl (by decide) (by simp) (fun r hr=>jac hr) hadd (by simp [rowD,D.cells,hx]) (jh5 hnx) (by simp;omega)
  simp only [List.length_append,List.length_cons,List.length_nil] at p4
  simp only [List.getD_cons_zero,List.getD_cons_succ] at p1 p5
  have hnF : ∀ r,r < 5 -> r ≠ 3 -> r ∉ objsD dN:=fun r hr h3 ho=>by
    have:=h.lo 1 r (by simpa using ho)
    have h4 : r = 4:=by omega
    subst h4
    exact h.ms.notM (i:=1) (by simpa using ho)
  have k0 : hget H2 0 = .arr [dfaD a]:=by rw [p5 0 (by omega) (hnF 0 (by omega) (by omega)),h.h0]
  refine ⟨d',H2,p1,⟨by simpa using p2.setM _,?_,?_,?_,jad (by omega),fun i r hr=>?_⟩,by omega,by rw [p3,h.h4],k0,p7,p8,p9⟩
  · rw [jaa (by omega),k0]
  · rw [jaa (by omega),p5 1 (by omega) (hnF 1 (by omega) (by omega)),h.h1]
  · rw [jaa (by omega),p5 2 (by omega) (hnF 2 (by omega) (by omega)),h.h2]
  · match i,hr with
    | 0,hr=>exact h.lo 0 r hr
    | 1,hr=>have:=p6 r hr;omega
    | 2,hr=>exact h.lo 2 r hr
    | i + 3,hr=>simp [ud,objsD] at hr
theorem SmAt.rule {a : Dfa} {cl fs : List Int} {nx : List (List Int)} {rl : List Int} {dF dN dR : D} {H : Heap} (h : SmAt a cl fs nx rl dF dN dR H) (x : Int) (hn : rl.length <= 100000) :
    ∃ d' H2,appendD Tryz.prog 23 H dR (.sl false [.int .i64 x]) = some (d',H2) /\ SmAt a cl fs nx (rl ++ [x]) dF dN d' (H2.set 4 (.arr [.agg [dN,d']])) /\ 5 <= H2.length /\ hget H2 4 = .arr [.agg [dN,dR]] /\ d'.cells = [d'] /\ aggQ d' = false /\ noTup d' = true:=by
  have h5:=h.lt
  have hadd:=jh6 (H:=H) (q:=.int .i64 x) rfl
  obtain ⟨d',H2,p1,p2,p3,p4,p5,p6,p7,p8,p9⟩:=h.ms.app (p:=2) (by simp) (H1:=H) el23 sz3 by3 zr3 rfl (by decide) (Nat.le_refl _) (fun r hr=>rfl) hadd rfl (jba rl) (by simp;omega)
  simp only [List.getD_cons_zero,List.getD_cons_succ] at p1 p5
  have hnF : ∀ r,r < 5 -> r ≠ 3 -> r ∉ objsD dR:=fun r hr h3 ho=>by
    have:=h.lo 2 r (by simpa using ho)
    have h4 : r = 4:=by omega
    subst h4
    exact h.ms.notM (i:=2) (by simpa using ho)
  refine ⟨d',H2,p1,⟨by simpa using p2.setM _,?_,?_,?_,jad (by omega),fun i r hr=>?_⟩,by omega,by rw [p3,h.h4],p7,p8,p9⟩
  · rw [jaa (by omega),p5 0 (by omega) (hnF 0 (by omega) (by omega)),h.h0]
  · rw [jaa (by omega),p5 1 (by omega) (hnF 1 (by omega) (by omega)),h.h1]
  · rw [jaa (by omega),p5 2 (by omega) (hnF 2 (by omega) (by omega)),h.h2]
  · match i,hr with
    | 0,hr=>exact h.lo 0 r hr
    | 1,hr=>exact h.lo 1 r hr
    | 2,hr=>have:=p6 r hr;omega
    | i + 3,hr=>simp [ud,objsD] at hr
theorem jws (a : Dfa) (cl : List Int) : SmAt a cl [0] [] [] (.vec 3 0 1) (.sl true []) (.sl true []) [Ob.arr [dfaD a],Ob.arr [D.agg [D.sl true [],D.sl true []]],Ob.map [(.int .i64 (cl.getD 0 0),.int .i64 0)],Ob.arr [.int .i64 0],Ob.arr [.agg [.sl true [],.sl true []]]]:=by
  refine ⟨⟨fun i hi=>?_,rfl,fun i j hij r hi hj=>?_,by simp⟩,rfl,rfl,rfl,rfl,fun i r hr=>?_⟩
  · match i,hi with
    | 0,_=>exact .inr ⟨by simp,3,rfl,rfl,by simp⟩
    | 1,_=>exact VecIs.nil
    | 2,_=>exact VecIs.nil
  · match i,j,hi,hj with
    | 0,0,_,_=>exact hij rfl
    | 0,1,hi,hj=>simp [objsD] at hi hj;omega
    | 0,2,_,hj=>cases hj
    | 0,3,_,hj=>cases hj
    | 0,j + 4,_,hj=>simp [ud,objsD] at hj
    | 1,0,hi,hj=>simp [objsD] at hi hj;omega
    | 1,1,_,_=>exact hij rfl
    | 1,2,_,hj=>cases hj
    | 1,3,_,hj=>cases hj
    | 1,j + 4,_,hj=>simp [ud,objsD] at hj
    | 2,_,hi,_=>cases hi
    | 3,_,hi,_=>cases hi
    | i + 4,_,hi,_=>simp [ud,objsD] at hi
  · match i,hr with
    | 0,hr=>simp [objsD] at hr;omega
    | 1,hr=>cases hr
    | 2,hr=>cases hr
    | i + 3,hr=>simp [ud,objsD] at hr
theorem jxC {dN dR : D} {H : Heap} {nx : List (List Int)} {rl : List Int} (hN : VecIs dN H (nx.map rowD)) (hR : VecIs dR H (rl.map (.int .i64))) : outPure H (.agg [dN,dR]) = some (dfaD ⟨nx,rl⟩):=by
  have vN:=jbU hN
  have vR:=jbU hR
  have hz : ∀ {d : D} {xs : List D},VecA d H xs -> strip d = none ∨ (d = .sl true [] /\ xs = []):=fun {d xs} h=>by
    rcases h with ⟨h1,h2⟩ | ⟨r,h1,_⟩
    · exact .inr ⟨h2,h1⟩
    · exact .inl (by rw [h1];rfl)
  by_cases hn : stripL [dN,dR] = none
  · obtain ⟨H1,p1,s1,l1⟩:=jbk (k:=3) vN (jcy nx)
    obtain ⟨H2,p2,s2,l2⟩:=jbk (k:=3) (vR.soft s1 l1) (jaM rl)
    unfold outPure deepest
    rw [jgC hn]
    simp only [purL,p1,p2,Option.bind_some,Option.map_some]
    rfl
  · rcases hz vN with h1 | ⟨rfl,h1⟩
    · exact absurd (by simp [stripL,h1]) hn
    · rcases hz vR with h2 | ⟨rfl,h2⟩
      · exact absurd (by simp [stripL,h2,strip]) hn
      · have e1 : nx = []:=by simpa using h1
        have e2 : rl = []:=by simpa using h2
        subst e1;subst e2
        rfl
theorem jnE (d : Dfa) (ht : tyM d) (hr : rightD d = true) : PureF Tryz.prog A 52 [dfaD d] (dfaD (smallM d)):=by
  have hcs:=jn5 d ht hr
  have hal:=ji4 d ht hr
  have hdr:=jdz d ht (by have:=jaA hr;omega) (by have:=jaA hr;omega)
  rw [hr] at hdr
  have ht2:=jel ht
  have hr2:=jcP hr
  have s1:=jdq d
  have hst:=jdR hr2
  unfold smallM
  generalize aliveM d = a at *
  generalize classesM a = cl at *
  have a1:=jaS d
  have a2:=jaT d
  have a3:=ja5 d
  have a4:=jaS a
  have a5:=jaT a
  have a6:=ja5 a
  have hl:=jaA hr2
  have hlc:=hst.len
  have hc0 : (cl.map (D.int .i64))[0]? = some (.int .i64 (cl.getD 0 0)):=jcF (by omega)
  have hmp:=jxw
  refine jaj (n:=95) (rs:=[.cell 2 67]) Tryz.func52 rfl rfl rfl rfl rfl rfl ?_
  repeat' (first | apply wz1|apply wz2|apply wz3|apply wz4|apply wz5|apply wz6 | simp -dsimp (maxSteps:=999999) (disch:=omega) only[go_sem,simprocAttr, *] | ((first | refine wz8 ?_ ?_|refine wz9 ?_ ?_|refine wz7 ?_ ?_)<;>intro hh <;> (try replace hh:=vqs hh) <;> (try (exfalso;first | exact hh | omega))))
  refine jal bo36 rfl rfl s1 hdr ?_
  repeat' (first | apply wz1|apply wz2|apply wz3|apply wz4|apply wz5|apply wz6 | simp -dsimp (maxSteps:=999999) (disch:=omega) only[go_sem,simprocAttr, *] | ((first | refine wz8 ?_ ?_|refine wz9 ?_ ?_|refine wz7 ?_ ?_)<;>intro hh <;> (try replace hh:=vqs hh) <;> (try (exfalso;first | exact hh | omega))))
  refine jal bo69 rfl rfl s1 hcs ?_
  repeat' (first | apply wz1|apply wz2|apply wz3|apply wz4|apply wz5|apply wz6 | simp -dsimp (maxSteps:=999999) (disch:=omega) only[go_sem,simprocAttr, *] | ((first | refine wz8 ?_ ?_|refine wz9 ?_ ?_|refine wz7 ?_ ?_)<;>intro hh <;> (try replace hh:=vqs hh) <;> (try (exfalso;first | exact hh | omega))))
  refine jal bo70 rfl rfl s1 hal ?_
  have hup : updateD Tryz.prog 140 [Ob.arr [dfaD a],Ob.arr [D.agg [D.sl true [],D.sl true []]],Ob.map []] (.map 2) (.int .i64 (cl.getD 0 0)) (.int .i64 0) = some [Ob.arr [dfaD a],Ob.arr [D.agg [D.sl true [],D.sl true []]],Ob.map [(.int .i64 (cl.getD 0 0),.int .i64 0)]]:=by
    rw [jjU (es:=[]) rfl rfl]
    rfl
  repeat' (first | apply wz1|apply wz2|apply wz3|apply wz4|apply wz5|apply wz6 | simp -dsimp (maxSteps:=999999) (disch:=omega) only[go_sem,simprocAttr, *,isD] | ((first | refine wz8 (fun hh=>?_) (fun hh=>?_) | refine wz9 (fun hh=>?_) (fun hh=>?_) | refine jak (by simp -dsimp (maxSteps:=999999) (disch:=omega) only[go_sem,simprocAttr, *,isD];exact rfl) (fun hh=>?_) (fun hh=>?_)) <;> (try replace hh:=vqs hh) <;> (try (exfalso;first | exact hh | omega))))
  have hz:=jws a cl
  have hI0 : RunI a cl 0 [0] [] []:=⟨⟨fun s hs=>by rw [List.mem_singleton.1 hs];omega,by simp⟩,rfl,rfl,rfl,by omega,fun k hk=>by omega⟩
  refine jae (fun e H=>∃ (f i : Nat) (fs : List Int) (nx : List (List Int)) (rl : List Int) (dF dN dR : D),smallOf a cl = runS a cl f i fs nx rl /\ RunI a cl i fs nx rl /\ a.next.length + 1 <= f + i /\ SmAt a cl fs nx rl dF dN dR H /\ e 1 = .ptr 0 0 0 /\ e 2 = .ptr 1 0 0 /\ e 3 = .sl false (cl.map (.int .i64)) /\ e 4 = .map 2 /\ e 5 = dF /\ e 6 = .ptr 4 0 0 /\ e 7 = .int .i64 i) (fun e H=>a.next.length + 1 - natOf (e 7)) ?_ ?_
  · exact ⟨a.next.length + 1,0,[0],[],[],_,_,_,rfl,hI0,by omega,hz,gs,gs,by simp -dsimp (maxSteps:=999999) (disch:=omega) only[go_sem,simprocAttr, *,isD],gs,gs,gs,gs⟩
  clear hz hI0 hup hcs hal hdr s1 a1 a2 a3 hc0 hmp
  rintro e H ⟨f,i,fs,nx,rl,dF,dN,dR,hG,hI,hfi,hS,e1,e2,e3,e4,e5,e6,e7⟩ R hR
  have hfl:=hI.found.le
  have hile:=hI.le
  obtain ⟨f,rfl⟩ : ∃ g,f = g + 1:=⟨f - 1,by omega⟩
  have hne : fs ≠ []:=fun h=>by
    have:=hI.zero
    rw [h] at this
    cases this
  obtain ⟨rF,hdF,hgF,hrF⟩:=jb0 (hS.ms.v 0 (by simp)) (by simpa using hne)
  simp only [List.getD_cons_zero,List.getD_cons_succ,List.length_map] at hdF hgF
  obtain ⟨n1,n2,n3⟩:=jbT (hS.ms.v 1 (by simp))
  obtain ⟨r1,r2,r3⟩:=jbT (hS.ms.v 2 (by simp))
  simp only [List.getD_cons_zero,List.getD_cons_succ] at n1 n2 n3 r1 r2 r3
  have h0:=hS.h0
  have h1:=hS.h1
  have h4:=hS.h4
  have h5:=hS.lt
  rw [runS] at hG
  by_cases hb : i < fs.length
  case neg=>
    rw [List.getElem?_eq_none (by omega)] at hG
    simp only at hG
    rw [hG]
    have hvN:=hS.ms.v 1 (by simp)
    have hvR:=hS.ms.v 2 (by simp)
    simp only [List.getD_cons_zero,List.getD_cons_succ] at hvN hvR
    have k1 : ∀ ob,VecIs dN (H.set 1 ob) (nx.map rowD):=fun ob=>jaQ hvN (by simp) fun r hr=>jaa (by have:=hS.lo 1 r hr;omega)
    have k2 : ∀ ob,VecIs dR (H.set 1 ob) (rl.map (.int .i64)):=fun ob=>jaQ hvR (by simp) fun r hr=>jaa (by have:=hS.lo 2 r hr;omega)
    have hs1:=fun ob=>jad (H:=H) (r:=1) (ob:=ob) (by omega)
    clear hS hvN hvR
    repeat' (first | apply wz1|apply wz2|apply wz3|apply wz4|apply wz5|apply wz6 | simp -dsimp (maxSteps:=999999) (disch:=omega) only[go_sem,simprocAttr, *] | ((first | refine wz8 ?_ ?_|refine wz9 ?_ ?_|refine wz7 ?_ ?_)<;>intro hh <;> (try replace hh:=vqs hh) <;> (try (exfalso;first | exact hh | omega))))
    exact jxC (k1 _) (k2 _)
  have hsi:=List.getElem?_eq_getElem hb
  rw [hsi] at hG
  simp only at hG
  have hsr:=hI.found.rng fs[i] (List.getElem_mem hb)
  have hIn:=jlk hr2 hI hsi
  have hsp:=jcU (a:=a) (cl:=cl) (a.next.getD fs[i].toNat []) fs hI.found (fun t ht=>((jb9 hr2 (show fs[i].toNat < a.next.length by omega)).2.2 t ht).2)
  have hnxl : ∀ r ∈ nx,r.length = 16:=fun r hr=>by
    obtain ⟨k,hk,rfl⟩:=List.mem_iff_getElem.1 hr
    obtain ⟨s,r,g1,_,g3,g4,_⟩:=hI.row k (by have:=hI.ln;omega)
    rw [List.getElem?_eq_getElem hk] at g3
    have:=hI.found.rng s (List.mem_of_getElem? g1)
    rw [Option.some.inj g3,g4]
    exact jbu ht2 (by omega)
  have hnl : nx.length <= 10000:=by have:=hI.ln;omega
  have hrll : rl.length <= 10000:=by have:=hI.lr;omega
  have hfm : (fs.map (D.int .i64))[i]? = some (.int .i64 fs[i]):=by rw [List.getElem?_map,hsi];rfl
  have hvs:=jeb hgF (by omega)
  have hrm:=jbV (d:=a) (i:=fs[i].toNat) (by omega)
  have hrl : (a.next[fs[i].toNat]'(by omega)).length = 16:=ht2 _ (List.getElem_mem (by omega))
  have hri : a.next.getD fs[i].toNat [] = a.next[fs[i].toNat]'(by omega):=by
    rw [List.getD_eq_getElem?_getD,List.getElem?_eq_getElem (by omega)];rfl
  have hna:=fun c hc=>jb3 hr2 ht2 (i:=fs[i].toNat) (c:=c) (by omega) hc
  have hrule : (a.rule.map (D.int .i64))[fs[i].toNat]? = some (.int .i64 (a.rule.getD fs[i].toNat 0)):=jcF (by omega)
  rw [hri] at hG hIn hsp hna
  have b1:=jbv (a.next[fs[i].toNat]'(by omega))
  have b2:=jbl (a.next[fs[i].toNat]'(by omega))
  have b3:=jbN (a.next[fs[i].toNat]'(by omega))
  generalize (a.next[fs[i].toNat]'(by omega)) = row at *
  generalize a.rule.getD fs[i].toNat 0 = rv at *
  generalize hsE : fs[i] = s at *
  clear hri
  subst hdF
  repeat' (first | apply wz1|apply wz2|apply wz3|apply wz4|apply wz5|apply wz6 | simp -dsimp (maxSteps:=999999) (disch:=omega) only[go_sem,simprocAttr, *] | ((first | refine wz8 ?_ ?_|refine wz9 ?_ ?_|refine wz7 ?_ ?_)<;>intro hh <;> (try replace hh:=vqs hh) <;> (try (exfalso;first | exact hh | omega))))
  refine jao (prs:=[([8],[33]),([8],[35]),([8],[37]),([8],[34]),([8],[39])]) (by kernel_rfl) rfl (by kernel_rfl) ?_
  simp -dsimp (maxSteps:=999999) (disch:=omega) only[go_sem,simprocAttr, *]
  repeat' (first | apply wz1|apply wz2|apply wz3|apply wz4|apply wz5|apply wz6 | simp -dsimp (maxSteps:=999999) (disch:=omega) only[go_sem,simprocAttr, *] | ((first | refine wz8 ?_ ?_|refine wz9 ?_ ?_|refine wz7 ?_ ?_)<;>intro hh <;> (try replace hh:=vqs hh) <;> (try (exfalso;first | exact hh | omega))))
  have hSq : SmAt a cl fs nx rl (.vec rF 0 fs.length) dN dR (H ++ [Ob.arr [rowD row]]):=hS.keep (by simp) fun r hr _=>jac hr
  have hfq : freeQ (.vec rF 0 fs.length) dN dR H.length:=fun k hk=>by have:=hS.ms.lt hk;omega
  refine jae (fun e Hx=>∃ (c : Nat) (ys fsc : List Int) (dFc : D),c <= 16 /\ ys.length = c /\ rowS cl row fs = (ys ++ (rowS cl (row.drop c) fsc).1,(rowS cl (row.drop c) fsc).2) /\ fsc.length <= fs.length + c /\ SmAt a cl fsc nx rl dFc dN dR Hx /\ freeQ dFc dN dR H.length /\ H.length < Hx.length /\ hget Hx H.length = .arr [.agg ((ys ++ row.drop c).map (.int .i64))] /\ e 1 = .ptr 0 0 0 /\ e 2 = .ptr 1 0 0 /\ e 3 = .sl false (cl.map (.int .i64)) /\ e 4 = .map 2 /\ e 5 = dFc /\ e 6 = .ptr 4 0 0 /\ e 7 = .int .i64 i /\ e 8 = .ptr H.length 0 0 /\ e 41 = .agg (row.map (.int .i64)) /\ e 42 = .int .i64 c) (fun e H=>16 - natOf (e 42)) ?_ ?_
  · exact ⟨0,[],fs,_,by omega,rfl,rfl,by omega,hSq,hfq,by simp,by rw [jap];rfl,gs,gs,gs,gs,gs,gs,gs,gs,by simp -dsimp (maxSteps:=999999) (disch:=omega) only[go_sem,simprocAttr, *,rowD],gs⟩
  have e7o:=e7
  clear e1 e2 e3 e4 e5 e6 e7 hSq hfq hgF hrF hvs hfm hrm hS h0 h1 h4 n1 n2 n3 r1 r2 r3 b1 b2 b3
  rintro e Hx ⟨c,ys,fsc,dFc,hc,hys,hrw,hfc,hS,hfq,hqL,hq,e1,e2,e3,e4,e5,e6,e7,e8,e41,e42⟩ R2 hR2
  have h0:=hS.h0
  have h1:=hS.h1
  have h2:=hS.h2
  have h4:=hS.h4
  have h5x:=hS.lt
  obtain ⟨f1,f2,f3⟩:=jbT (hS.ms.v 0 (by simp))
  obtain ⟨n1,n2,n3⟩:=jbT (hS.ms.v 1 (by simp))
  obtain ⟨r1,r2,r3⟩:=jbT (hS.ms.v 2 (by simp))
  simp only [List.getD_cons_zero,List.getD_cons_succ] at f1 f2 f3 n1 n2 n3 r1 r2 r3
  generalize hqE : H.length = q at *
  have hq5 : 5 <= q:=by omega
  by_cases hc16 : c < 16
  case neg=>
    have hce : c = 16:=by omega
    rw [hce,List.drop_eq_nil_of_le (by omega)] at hrw hq
    simp only [rowS,List.append_nil] at hrw hq
    rw [hrw] at hG hIn hsp
    simp only at hG hIn hsp
    clear hrw hna
    obtain ⟨dN2,H2,hap,hS2,hl2,k4,k0,o1,o2,o3⟩:=hS.row ys (by omega) hnxl hnl
    obtain ⟨⟨lx,hlx⟩,-⟩:=hsp
    have hfsi : fsc[i]? = some s:=by rw [hlx,List.getElem?_append_left hb];exact hsi
    clear hS h0 h1 h2 hsi
    repeat' (first | apply wz1|apply wz2|apply wz3|apply wz4|apply wz5|apply wz6 | simp -dsimp (maxSteps:=999999) (disch:=omega) only[go_sem,simprocAttr, *] | ((first | refine wz8 ?_ ?_|refine wz9 ?_ ?_|refine wz7 ?_ ?_)<;>intro hh <;> (try replace hh:=vqs hh) <;> (try (exfalso;first | exact hh | omega))))
    clear h4
    generalize H2.set 4 (.arr [.agg [dN2,dR]]) = H3 at *
    have h0:=hS2.h0
    have h1:=hS2.h1
    have h4:=hS2.h4
    have h53:=hS2.lt
    obtain ⟨rC,hdC,hgC,hrC⟩:=jb0 (hS2.ms.v 0 (by simp)) (by rw [hlx];simpa using fun h _=>hne h)
    clear hlx
    simp only [List.getD_cons_zero,List.getD_cons_succ,List.length_map] at hdC hgC
    subst hdC
    have hil : i < fsc.length:=(List.getElem?_eq_some_iff.1 hfsi).1
    have hfm : (fsc.map (D.int .i64))[i]? = some (.int .i64 s):=by rw [List.getElem?_map,hfsi];rfl
    have hvs:=jeb hgC (by omega)
    obtain ⟨dR2,H4,hap2,hS4,hl4,k44,u1,u2,u3⟩:=hS2.rule rv (by omega)
    clear hS2
    refine jao (prs:=[]) (by kernel_rfl) rfl (by kernel_rfl) ?_
    simp -dsimp (maxSteps:=999999) (disch:=omega) only[go_sem,simprocAttr, *]
    refine ⟨rfl,?_⟩
    repeat' (first | apply wz1|apply wz2|apply wz3|apply wz4|apply wz5|apply wz6 | simp -dsimp (maxSteps:=999999) (disch:=omega) only[go_sem,simprocAttr, *] | ((first | refine wz8 ?_ ?_|refine wz9 ?_ ?_|refine wz7 ?_ ?_)<;>intro hh <;> (try replace hh:=vqs hh) <;> (try (exfalso;first | exact hh | omega))))
    refine hR _ _ ⟨f,i + 1,fsc,nx ++ [ys],rl ++ [rv],_,dN2,dR2,hG,hIn,by omega,hS4,gs,gs,gs,gs,gs,gs,gs⟩ ?_
    simp -dsimp (maxSteps:=999999) (disch:=omega) only[go_sem,simprocAttr, *,jab]
  have hcell : row[c * 1]? = some (row.getD c 0):=by
    rw [Nat.mul_one,List.getD_eq_getElem?_getD,List.getElem?_eq_getElem (by omega)];rfl
  have hdr : row.drop c = row.getD c 0 :: row.drop (c + 1):=by
    rw [List.drop_eq_getElem_cons (by omega),List.getD_eq_getElem?_getD,List.getElem?_eq_getElem (by omega)];rfl
  have hbt:=hna c hc16
  rw [hdr] at hrw hq
  rw [rowS] at hrw
  generalize row.getD c 0 = t at *
  clear hdr hna hG hIn hsp
  have hM : (ys ++ t :: row.drop (c + 1)).length = 16:=by simp;omega
  have hMs : ∀ k : Int,List.take (c * 1) ((ys ++ t :: row.drop (c + 1)).map (D.int .i64)) ++ [D.int .i64 k] ++ List.drop (c * 1 + 1) ((ys ++ t :: row.drop (c + 1)).map (D.int .i64)) = ((ys ++ [k]) ++ row.drop (c + 1)).map (D.int .i64):=fun k=>by
    rw [Nat.mul_one]
    refine (jcC (v:=.int .i64 k) (by simp;omega)).trans ?_
    rw [<- List.map_set,List.set_append_right _ _ (by omega),hys,Nat.sub_self,List.set_cons_zero,List.append_assoc]
    rfl
  by_cases ht0 : t < 0
  · rw [if_pos ht0] at hrw
    simp only at hrw
    repeat' (first | apply wz1|apply wz2|apply wz3|apply wz4|apply wz5|apply wz6 | simp -dsimp (maxSteps:=999999) (disch:=omega) only[go_sem,simprocAttr, *] | ((first | refine wz8 ?_ ?_|refine wz9 ?_ ?_|refine wz7 ?_ ?_)<;>intro hh <;> (try replace hh:=vqs hh) <;> (try (exfalso;first | exact hh | omega))))
    refine hR2 _ _ ⟨c + 1,ys ++ [t],fsc,dFc,by omega,by simpa using hys,by rw [hrw,List.append_assoc];rfl,by omega,hS,hfq,hqL,by rw [hq,List.append_assoc];rfl,gs,gs,gs,gs,gs,gs,gs,gs,gs,gs⟩ ?_
    simp -dsimp (maxSteps:=999999) (disch:=omega) only[go_sem,simprocAttr, *,jab]
  rw [if_neg ht0] at hrw
  have hct : (cl.map (D.int .i64))[t.toNat]? = some (.int .i64 (cl.getD t.toNat 0)):=jcF (by omega)
  have hfz:=jrl (c:=cl.getD t.toNat 0) (fsc.map fun s=>cl.getD s.toNat 0) 0 0
  rcases jdF (cl.getD t.toNat 0) (fsc.map fun s=>cl.getD s.toNat 0) 0 with ⟨g,_⟩ | ⟨j,g,_⟩
  · rw [g] at hfz hrw
    simp only at hrw
    have hlk:=jrU h2 hfz
    have hup:=fun v=>jjU (v:=v) h2 hfz
    have hza:=jqM (fsc.map fun s=>cl.getD s.toNat 0) (cl.getD t.toNat 0) 0
    rw [Nat.zero_add,List.length_map] at hza
    have hzb : zE 0 (fsc.map fun s=>cl.getD s.toNat 0) ++ [(.int .i64 (cl.getD t.toNat 0),.int .i64 (fsc.length : Nat))] = zE 0 ((fsc ++ [t]).map fun s=>cl.getD s.toNat 0):=by rw [<- hza,List.map_append];rfl
    obtain ⟨dF2,H2,hap,hS2,hl2,hk2,hd2,o1,o2,o3⟩:=hS.more t (by omega)
    have hlen:=fun HH=>jfC (e:=3) (hS.ms.v 0 (by simp)) HH
    simp only [List.getD_cons_zero,List.length_map] at hlen
    have hq2 : hget H2 q = .arr [.agg ((ys ++ t :: row.drop (c + 1)).map (.int .i64))]:=by rw [hk2 q hqL (by omega) hfq,hq]
    have hfq2 : freeQ dF2 dN dR q:=fun k hk=>by
      match k,hk with
      | 0,hk=>have:=hd2 q hk;omega
      | 1,hk=>exact hfq 1 hk
      | 2,hk=>exact hfq 2 hk
      | k + 3,hk=>simp [ud,objsD] at hk
    have hfin : ∀ ob,SmAt a cl (fsc ++ [t]) nx rl dF2 dN dR (H2.set q ob):=fun ob=>hS2.keep (by simp) fun r _ hr=>jaa fun e=>by
      subst e
      rcases hr with hr | hr
      · omega
      · exact hr hfq2
    have hMk:=hMs (fsc.length : Nat)
    have hql2 : q < H2.length:=by omega
    clear hMs hS hS2 hza hk2 hd2 g hfz hfq h0 h1
    repeat' (first | apply wz1|apply wz2|apply wz3|apply wz4|apply wz5|apply wz6 | simp -dsimp (maxSteps:=999999) (disch:=omega) only[go_sem,simprocAttr, *] | ((first | refine wz8 ?_ ?_|refine wz9 ?_ ?_|refine wz7 ?_ ?_)<;>intro hh <;> (try replace hh:=vqs hh) <;> (try (exfalso;first | exact hh | omega))))
    refine hR2 _ _ ⟨c + 1,ys ++ [(fsc.length : Int)],fsc ++ [t],dF2,by omega,by simpa using hys,by rw [hrw,List.append_assoc];rfl,by simp;omega,hfin _,hfq2,by simpa using hql2,jad hql2,gs,gs,gs,gs,gs,gs,gs,gs,gs,gs⟩ ?_
    simp -dsimp (maxSteps:=999999) (disch:=omega) only[go_sem,simprocAttr, *,jab]
  · rw [g] at hfz hrw
    simp only [Nat.zero_add] at hrw hfz
    have hlk:=jsE h2 hfz
    have hMk:=hMs (j : Nat)
    have hfin : ∀ ob,SmAt a cl fsc nx rl dFc dN dR (Hx.set q ob):=fun ob=>hS.keep (by simp) fun r _ hr=>jaa fun e=>by
      subst e
      rcases hr with hr | hr
      · omega
      · exact hr hfq
    clear hMs hS g hfz h0 h1
    repeat' (first | apply wz1|apply wz2|apply wz3|apply wz4|apply wz5|apply wz6 | simp -dsimp (maxSteps:=999999) (disch:=omega) only[go_sem,simprocAttr, *] | ((first | refine wz8 ?_ ?_|refine wz9 ?_ ?_|refine wz7 ?_ ?_)<;>intro hh <;> (try replace hh:=vqs hh) <;> (try (exfalso;first | exact hh | omega))))
    refine hR2 _ _ ⟨c + 1,ys ++ [(j : Int)],fsc,dFc,by omega,by simpa using hys,by rw [hrw,List.append_assoc];rfl,by omega,hfin _,hfq,by simpa using hqL,jad hqL,gs,gs,gs,gs,gs,gs,gs,gs,gs,gs⟩ ?_
    simp -dsimp (maxSteps:=999999) (disch:=omega) only[go_sem,simprocAttr, *,jab]
end Go.Proofs.W
end
section
namespace Go.Proofs.W
open Go Vm Go.Proofs.Zso
theorem jlJ (l : List Rule) (h : l ≠ []) (hl : l.length <= 100000) : PureF Tryz.prog A 19 [rulesD l] (rulesD l):=by
  have happ:=fun H=>jgN el22 sz48 by48 jfB rfl (by decide) (xs:=l.map ruleD) (by simpa using h) (jb8 l) (by cases l <;> rfl) (by simp;omega) H
  cases l with
  | nil=>exact absurd rfl h
  | cons x l=>
  simp only [List.map_cons,List.length_cons] at happ
  refine jaj (n:=8) (rs:=[.tmp 2]) Tryz.func19 rfl rfl rfl rfl rfl rfl ?_
  repeat' (first | apply wz1|apply wz2|apply wz3|apply wz4|apply wz5|apply wz6 | simp -dsimp (maxSteps:=999999) (disch:=omega) only[go_sem,simprocAttr, *,rulesD] | ((first | refine wz8 (fun hh=>?_) (fun hh=>?_) | refine wz9 (fun hh=>?_) (fun hh=>?_) | refine jak (by simp -dsimp (maxSteps:=999999) (disch:=omega) only[go_sem,simprocAttr, *,rulesD];exact rfl) (fun hh=>?_) (fun hh=>?_)) <;> (try replace hh:=vqs hh) <;> (try (exfalso;first | exact hh | omega))))
  have hv : VecAt 0 (.vec 0 0 (l.length + 1)) [Ob.arr (ruleD x :: l.map ruleD)] ((x :: l).map ruleD):=⟨by simp,.inr ⟨by simp,0,by omega,by simp,by simp,rfl⟩⟩
  exact hv.out (jb8 _)
theorem jj7      {rs : D} {f1 f2 g1 g2 : Bool} {x1 x2 y1 y2 : List D} {e c : Int} {cs0 : List D} {H : Heap} {p : Nat} (h : Cells H p cs0) (hO : ∀ H, Cells H p cs0 → EvF Tryz.prog Am 32 [.ptr p 0 1, .bfn 33 [.ptr p 0 0]] H (fun _ H' => Cells H' p (scC rs 1 0 (.sl f1 x1) (.sl f2 x2) e c) ∧ Kp1 p H H') (fun _ _ => False))
    (s1 : (stripL [D.sl f1 x1]).isSome = true) (s2 : (stripL [D.sl f2 x2]).isSome = true)
    (c1 : ∀ (H : Heap) (K Kp : D -> Heap -> Prop),PP (K (.sl g1 y1) H) -> EvB Tryz.prog Am 34 [.sl f1 x1] H K Kp) (c2 : ∀ (H : Heap) (K Kp : D -> Heap -> Prop),PP (K (.sl g2 y2) H) -> EvB Tryz.prog Am 35 [.sl f2 x2] H K Kp) :
    EvF Tryz.prog Am 20 [.ptr p 0 0] H (fun d H'=>d = .tup [.agg [.sl g1 y1,.sl g2 y2],.int .i64 e] /\ Cells H' p (scC rs 1 0 (.sl f1 x1) (.sl f2 x2) e c) /\ Kp1 p H H') (fun _ _=>False):=by
  have hp:=h.2
  have hO1:=hO (H ++ [Ob.arr [.agg [.sl true [],.sl true []]]]) ⟨by rw [jac hp];exact h.1,by simp;omega⟩
  refine jaj (n:=30) (rs:=[.cell 2 67,.tmp 3]) Tryz.func20 rfl rfl rfl rfl rfl rfl ?_
  repeat' (first | apply wz1|apply wz2|apply wz3|apply wz4|apply wz5|apply wz6 | simp -dsimp (maxSteps:=999999) (disch:=omega) only[go_sem,simprocAttr, *] | ((first | refine wz8 ?_ ?_|refine wz9 ?_ ?_|refine wz7 ?_ ?_)<;>intro hh <;> (try replace hh:=vqs hh) <;> (try (exfalso;first | exact hh | omega))))
  refine jag bo32 rfl rfl hO1 ?_ (fun _ _ h=>h.elim)
  rintro _ H2 ⟨⟨h1,h2⟩,h3⟩
  have h4 : hget H2 H.length = .arr [.agg [.sl true [],.sl true []]]:=by rw [h3.2 H.length (by simp) (by omega),jap];rfl
  have h5 : H.length < H2.length:=by have:=h3.1;simp at this;omega
  clear hO hO1
  repeat' (first | apply wz1|apply wz2|apply wz3|apply wz4|apply wz5|apply wz6 | simp -dsimp (maxSteps:=999999) (disch:=omega) only[go_sem,simprocAttr, *,scC] | ((first | refine wz8 (fun hh=>?_) (fun hh=>?_) | refine wz9 (fun hh=>?_) (fun hh=>?_) | refine jak (by simp -dsimp (maxSteps:=999999) (disch:=omega) only[go_sem,simprocAttr, *,scC];exact rfl) (fun hh=>?_) (fun hh=>?_)) <;> (try replace hh:=vqs hh) <;> (try (exfalso;first | exact hh | omega))))
  refine jao (prs:=[([2],[28])]) (by kernel_rfl) rfl (by kernel_rfl) ?_;simp -dsimp (maxSteps:=999999) (disch:=omega) only[go_sem,simprocAttr, *,scC]
  refine c1 _ _ _ ?_
  simp -dsimp (maxSteps:=999999) (disch:=omega) only[go_sem,simprocAttr, *,scC]
  refine c2 _ _ _ ?_
  simp -dsimp (maxSteps:=999999) (disch:=omega) only[go_sem,simprocAttr, *,scC]
  repeat' (first | apply wz1|apply wz2|apply wz3|apply wz4|apply wz5|apply wz6 | simp -dsimp (maxSteps:=999999) (disch:=omega) only[go_sem,simprocAttr, *,scC] | ((first | refine wz8 (fun hh=>?_) (fun hh=>?_) | refine wz9 (fun hh=>?_) (fun hh=>?_) | refine jak (by simp -dsimp (maxSteps:=999999) (disch:=omega) only[go_sem,simprocAttr, *,scC];exact rfl) (fun hh=>?_) (fun hh=>?_)) <;> (try replace hh:=vqs hh) <;> (try (exfalso;first | exact hh | omega))))
  refine ⟨rfl,⟨by rw [jaa (by omega)];exact h1,by simpa using h2⟩,?_⟩
  exact ⟨by have:=h3.1;simp at this ⊢;omega,fun k hk hp=>by rw [jaa (by omega),h3.2 k (by simp;omega) hp,jac hk]⟩
theorem bdSc (xs : List D) : buildD Tryz.prog 72 [(0,.sl false xs)] = some (.agg (scC (.sl false xs) 0 0 (.sl true []) (.sl true []) 0 0)):=by kernel_rfl
theorem jxj (l : List Rule) (h : l ≠ []) (hl : l.length <= 1000) (hr : PureF Tryz.prog A 6 [rulesD l] (.bool true)) : EvF Tryz.prog Am 8 [rulesD l] [] (fun d Hc=>d = .ptr 0 0 0 /\ Hc = [.arr [.agg (scC (rulesD l) 0 0 (.sl true []) (.sl true []) 0 0)]]) (fun _ _=>False):=by
  have hc:=jlJ l h (by omega)
  have hs:=jcD l
  refine jaj (n:=10) (rs:=[.tmp 2]) Tryz.func8 rfl rfl rfl rfl rfl rfl ?_
  repeat' (first | apply wz1|apply wz2|apply wz3|apply wz4|apply wz5|apply wz6 | simp -dsimp (maxSteps:=999999) (disch:=omega) only[go_sem,simprocAttr, *] | ((first | refine wz8 ?_ ?_|refine wz9 ?_ ?_|refine wz7 ?_ ?_)<;>intro hh <;> (try replace hh:=vqs hh) <;> (try (exfalso;first | exact hh | omega))))
  refine jbe (A:=A) bo6 (by rfl) (by rfl) (jaH hs) hr ?_
  repeat' (first | apply wz1|apply wz2|apply wz3|apply wz4|apply wz5|apply wz6 | simp -dsimp (maxSteps:=999999) (disch:=omega) only[go_sem,simprocAttr, *] | ((first | refine wz8 ?_ ?_|refine wz9 ?_ ?_|refine wz7 ?_ ?_)<;>intro hh <;> (try replace hh:=vqs hh) <;> (try (exfalso;first | exact hh | omega))))
  refine jbe (A:=A) bo19 (by rfl) (by rfl) (jaH hs) hc ?_
  repeat' (first | apply wz1|apply wz2|apply wz3|apply wz4|apply wz5|apply wz6 | simp -dsimp (maxSteps:=999999) (disch:=omega) only[go_sem,simprocAttr, *,rulesD,bdSc] | ((first | refine wz8 (fun hh=>?_) (fun hh=>?_) | refine wz9 (fun hh=>?_) (fun hh=>?_) | refine jak (by simp -dsimp (maxSteps:=999999) (disch:=omega) only[go_sem,simprocAttr, *,rulesD,bdSc];exact rfl) (fun hh=>?_) (fun hh=>?_)) <;> (try replace hh:=vqs hh) <;> (try (exfalso;first | exact hh | omega))))
  done
end Go.Proofs.W
end
section
namespace Go.Proofs.W
open Go Vm Go.Proofs.Zso
theorem jms (l : List Rx) : emptyR.emptyAll l = l.all emptyR:=by
  induction l with
  | nil=>rfl
  | cons r l ih=>simp [emptyR.emptyAll,ih]
theorem jlD (l : List Rx) : emptyR.emptyAny l = l.any emptyR:=by
  induction l with
  | nil=>rfl
  | cons r l ih=>simp [emptyR.emptyAny,ih]
theorem jsn : ∀ (d : Nat) (r : Rx) (hr : okR r) (hd : depth r <= d),PureF Tryz.prog A 48 [rxD r] (.bool (emptyR r)):=by
  intro d
  induction d with
  | zero=>rintro ⟨k,s,l⟩ _ h;simp [depth] at h
  | succ d ih=>
    rintro ⟨k,s,l⟩ hr hd
    have hkid : ∀ x ∈ l,depth x <= d:=fun x hx=>by have:=jeE (k:=k) (s:=s) hx;omega
    obtain ⟨_,_,_,_,hlen,hok⟩:=hr
    refine jaj (n:=36) (rs:=[.tmp 2]) Tryz.func48 rfl rfl rfl rfl rfl rfl ?_
    by_cases h1 : k = 1
    · subst h1
      repeat' (first | apply wz1|apply wz2|apply wz3|apply wz4|apply wz5|apply wz6 | simp -dsimp (maxSteps:=999999) (disch:=omega) only[go_sem,simprocAttr, *])
      refine wz7 (fun hb=>?_) (fun hb=>?_) <;> try simp -dsimp (maxSteps:=999999) (disch:=omega) only[go_sem,simprocAttr,decide_eq_true_eq,decide_eq_false_iff_not,Bool.not_eq_true,Bool.not_eq_false,Int.not_lt,Int.not_le] at hb
      repeat' (first | apply wz1|apply wz2|apply wz3|apply wz4|apply wz5|apply wz6 | simp -dsimp (maxSteps:=999999) (disch:=omega) only[go_sem,simprocAttr, *])
      rfl
    by_cases h2 : k = 2
    · subst h2
      have he : emptyR (.mk 2 s l) = l.all emptyR:=by simp [emptyR,jms]
      rw [he]
      repeat' (first | apply wz1|apply wz2|apply wz3|apply wz4|apply wz5|apply wz6 | simp -dsimp (maxSteps:=999999) (disch:=omega) only[go_sem,simprocAttr, *])
      refine wz7 (fun hb=>?_) (fun hb=>?_) <;> try simp -dsimp (maxSteps:=999999) (disch:=omega) only[go_sem,simprocAttr,decide_eq_true_eq,decide_eq_false_iff_not,Bool.not_eq_true,Bool.not_eq_false,Int.not_lt,Int.not_le] at hb
      repeat' (first | apply wz1|apply wz2|apply wz3|apply wz4|apply wz5|apply wz6 | simp -dsimp (maxSteps:=999999) (disch:=omega) only[go_sem,simprocAttr, *])
      refine wz7 (fun hb=>?_) (fun hb=>?_) <;> try simp -dsimp (maxSteps:=999999) (disch:=omega) only[go_sem,simprocAttr,decide_eq_true_eq,decide_eq_false_iff_not,Bool.not_eq_true,Bool.not_eq_false,Int.not_lt,Int.not_le] at hb
      repeat' (first | apply wz1|apply wz2|apply wz3|apply wz4|apply wz5|apply wz6 | simp -dsimp (maxSteps:=999999) (disch:=omega) only[go_sem,simprocAttr, *])
      refine jae (fun e H=>∃ j : Nat,j <= l.length /\ e 14 = .sl false (rxDs l) /\ e 15 = .int .i64 l.length /\ e 16 = .int .i64 j /\ l.all emptyR = (l.drop j).all emptyR) (fun e H=>l.length - natOf (e 16)) ?_ ?_
      · exact ⟨0,Nat.zero_le _,gs,gs,rfl,by simp⟩
      · clear he
        rintro e H ⟨j,hj,e14,e15,e16,ha⟩ R hR
        repeat' (first | apply wz1|apply wz2|apply wz3|apply wz4|apply wz5|apply wz6 | simp -dsimp (maxSteps:=999999) (disch:=omega) only[go_sem,simprocAttr, *])
        refine wz7 (fun hb2=>?_) (fun hb2=>?_) <;> try simp -dsimp (maxSteps:=999999) (disch:=omega) only[go_sem,simprocAttr,decide_eq_true_eq,decide_eq_false_iff_not,Bool.not_eq_true,Bool.not_eq_false,Int.not_lt,Int.not_le] at hb2
        · rw [List.drop_eq_getElem_cons hb2,List.all_cons] at ha
          repeat' (first | apply wz1|apply wz2|apply wz3|apply wz4|apply wz5|apply wz6 | simp -dsimp (maxSteps:=999999) (disch:=omega) only[go_sem,simprocAttr, *])
          refine jal bo48 rfl rfl (jaH (jaW _)) (ih l[j] (jbq hok _ (List.getElem_mem _)) (hkid _ (List.getElem_mem _))) ?_
          cases hem : emptyR l[j] with
          | false=>
            rw [hem,Bool.false_and] at ha
            simp -dsimp (maxSteps:=999999) (disch:=omega) only[go_sem,simprocAttr, *]
            refine wz7 (fun hb3=>?_) (fun hb3=>?_) <;> try simp -dsimp (maxSteps:=999999) (disch:=omega) only[go_sem,simprocAttr,decide_eq_true_eq,decide_eq_false_iff_not,Bool.not_eq_true,Bool.not_eq_false,Int.not_lt,Int.not_le] at hb3
            repeat' (first | apply wz1|apply wz2|apply wz3|apply wz4|apply wz5|apply wz6 | simp -dsimp (maxSteps:=999999) (disch:=omega) only[go_sem,simprocAttr, *])
          | true=>
            rw [hem,Bool.true_and] at ha
            simp -dsimp (maxSteps:=999999) (disch:=omega) only[go_sem,simprocAttr, *]
            refine wz7 (fun hb3=>?_) (fun hb3=>?_) <;> try simp -dsimp (maxSteps:=999999) (disch:=omega) only[go_sem,simprocAttr,decide_eq_true_eq,decide_eq_false_iff_not,Bool.not_eq_true,Bool.not_eq_false,Int.not_lt,Int.not_le] at hb3
            repeat' (first | apply wz1|apply wz2|apply wz3|apply wz4|apply wz5|apply wz6 | simp -dsimp (maxSteps:=999999) (disch:=omega) only[go_sem,simprocAttr, *])
            refine hR _ _ ⟨j + 1,by omega,gs,gs,gs,ha⟩ ?_
            simp -dsimp (maxSteps:=999999) (disch:=omega) only[go_sem,simprocAttr, *,jab]
        · rw [List.drop_eq_nil_of_le (by omega)] at ha
          repeat' (first | apply wz1|apply wz2|apply wz3|apply wz4|apply wz5|apply wz6 | simp -dsimp (maxSteps:=999999) (disch:=omega) only[go_sem,simprocAttr, *])
          try rfl
    by_cases h3 : k = 3
    · subst h3
      have he : emptyR (.mk 3 s l) = l.any emptyR:=by simp [emptyR,jlD]
      rw [he]
      repeat' (first | apply wz1|apply wz2|apply wz3|apply wz4|apply wz5|apply wz6 | simp -dsimp (maxSteps:=999999) (disch:=omega) only[go_sem,simprocAttr, *])
      refine wz7 (fun hb=>?_) (fun hb=>?_) <;> try simp -dsimp (maxSteps:=999999) (disch:=omega) only[go_sem,simprocAttr,decide_eq_true_eq,decide_eq_false_iff_not,Bool.not_eq_true,Bool.not_eq_false,Int.not_lt,Int.not_le] at hb
      repeat' (first | apply wz1|apply wz2|apply wz3|apply wz4|apply wz5|apply wz6 | simp -dsimp (maxSteps:=999999) (disch:=omega) only[go_sem,simprocAttr, *])
      refine wz7 (fun hb=>?_) (fun hb=>?_) <;> try simp -dsimp (maxSteps:=999999) (disch:=omega) only[go_sem,simprocAttr,decide_eq_true_eq,decide_eq_false_iff_not,Bool.not_eq_true,Bool.not_eq_false,Int.not_lt,Int.not_le] at hb
      repeat' (first | apply wz1|apply wz2|apply wz3|apply wz4|apply wz5|apply wz6 | simp -dsimp (maxSteps:=999999) (disch:=omega) only[go_sem,simprocAttr, *])
      refine wz7 (fun hb=>?_) (fun hb=>?_) <;> try simp -dsimp (maxSteps:=999999) (disch:=omega) only[go_sem,simprocAttr,decide_eq_true_eq,decide_eq_false_iff_not,Bool.not_eq_true,Bool.not_eq_false,Int.not_lt,Int.not_le] at hb
      repeat' (first | apply wz1|apply wz2|apply wz3|apply wz4|apply wz5|apply wz6 | simp -dsimp (maxSteps:=999999) (disch:=omega) only[go_sem,simprocAttr, *])
      refine jae (fun e H=>∃ j : Nat,j <= l.length /\ e 27 = .sl false (rxDs l) /\ e 28 = .int .i64 l.length /\ e 29 = .int .i64 j /\ l.any emptyR = (l.drop j).any emptyR) (fun e H=>l.length - natOf (e 29)) ?_ ?_
      · exact ⟨0,Nat.zero_le _,gs,gs,rfl,by simp⟩
      · clear he
        rintro e H ⟨j,hj,e27,e28,e29,ha⟩ R hR
        repeat' (first | apply wz1|apply wz2|apply wz3|apply wz4|apply wz5|apply wz6 | simp -dsimp (maxSteps:=999999) (disch:=omega) only[go_sem,simprocAttr, *])
        refine wz7 (fun hb2=>?_) (fun hb2=>?_) <;> try simp -dsimp (maxSteps:=999999) (disch:=omega) only[go_sem,simprocAttr,decide_eq_true_eq,decide_eq_false_iff_not,Bool.not_eq_true,Bool.not_eq_false,Int.not_lt,Int.not_le] at hb2
        · rw [List.drop_eq_getElem_cons hb2,List.any_cons] at ha
          repeat' (first | apply wz1|apply wz2|apply wz3|apply wz4|apply wz5|apply wz6 | simp -dsimp (maxSteps:=999999) (disch:=omega) only[go_sem,simprocAttr, *])
          refine jal bo48 rfl rfl (jaH (jaW _)) (ih l[j] (jbq hok _ (List.getElem_mem _)) (hkid _ (List.getElem_mem _))) ?_
          cases hem : emptyR l[j] with
          | true=>
            rw [hem,Bool.true_or] at ha
            simp -dsimp (maxSteps:=999999) (disch:=omega) only[go_sem,simprocAttr, *]
            refine wz7 (fun hb3=>?_) (fun hb3=>?_) <;> try simp -dsimp (maxSteps:=999999) (disch:=omega) only[go_sem,simprocAttr,decide_eq_true_eq,decide_eq_false_iff_not,Bool.not_eq_true,Bool.not_eq_false,Int.not_lt,Int.not_le] at hb3
            repeat' (first | apply wz1|apply wz2|apply wz3|apply wz4|apply wz5|apply wz6 | simp -dsimp (maxSteps:=999999) (disch:=omega) only[go_sem,simprocAttr, *])
          | false=>
            rw [hem,Bool.false_or] at ha
            simp -dsimp (maxSteps:=999999) (disch:=omega) only[go_sem,simprocAttr, *]
            refine wz7 (fun hb3=>?_) (fun hb3=>?_) <;> try simp -dsimp (maxSteps:=999999) (disch:=omega) only[go_sem,simprocAttr,decide_eq_true_eq,decide_eq_false_iff_not,Bool.not_eq_true,Bool.not_eq_false,Int.not_lt,Int.not_le] at hb3
            repeat' (first | apply wz1|apply wz2|apply wz3|apply wz4|apply wz5|apply wz6 | simp -dsimp (maxSteps:=999999) (disch:=omega) only[go_sem,simprocAttr, *])
            refine hR _ _ ⟨j + 1,by omega,gs,gs,gs,ha⟩ ?_
            simp -dsimp (maxSteps:=999999) (disch:=omega) only[go_sem,simprocAttr, *,jab]
        · rw [List.drop_eq_nil_of_le (by omega)] at ha
          repeat' (first | apply wz1|apply wz2|apply wz3|apply wz4|apply wz5|apply wz6 | simp -dsimp (maxSteps:=999999) (disch:=omega) only[go_sem,simprocAttr, *])
          try rfl
    have he : emptyR (.mk k s l) = true:=by simp [emptyR,h1,h2,h3]
    rw [he]
    repeat' (first | apply wz1|apply wz2|apply wz3|apply wz4|apply wz5|apply wz6 | simp -dsimp (maxSteps:=999999) (disch:=omega) only[go_sem,simprocAttr, *])
    refine wz7 (fun hb=>?_) (fun hb=>?_) <;> try simp -dsimp (maxSteps:=999999) (disch:=omega) only[go_sem,simprocAttr,decide_eq_true_eq,decide_eq_false_iff_not,Bool.not_eq_true,Bool.not_eq_false,Int.not_lt,Int.not_le] at hb
    repeat' (first | apply wz1|apply wz2|apply wz3|apply wz4|apply wz5|apply wz6 | simp -dsimp (maxSteps:=999999) (disch:=omega) only[go_sem,simprocAttr, *])
    refine wz7 (fun hb=>?_) (fun hb=>?_) <;> try simp -dsimp (maxSteps:=999999) (disch:=omega) only[go_sem,simprocAttr,decide_eq_true_eq,decide_eq_false_iff_not,Bool.not_eq_true,Bool.not_eq_false,Int.not_lt,Int.not_le] at hb
    repeat' (first | apply wz1|apply wz2|apply wz3|apply wz4|apply wz5|apply wz6 | simp -dsimp (maxSteps:=999999) (disch:=omega) only[go_sem,simprocAttr, *])
    refine wz7 (fun hb=>?_) (fun hb=>?_) <;> try simp -dsimp (maxSteps:=999999) (disch:=omega) only[go_sem,simprocAttr,decide_eq_true_eq,decide_eq_false_iff_not,Bool.not_eq_true,Bool.not_eq_false,Int.not_lt,Int.not_le] at hb
    repeat' (first | apply wz1|apply wz2|apply wz3|apply wz4|apply wz5|apply wz6 | simp -dsimp (maxSteps:=999999) (disch:=omega) only[go_sem,simprocAttr, *])
theorem jql (r : Rx) (hr : okR r) : PureF Tryz.prog A 31 [rxD r] (.bool (rightR r && emptyR r)):=by
  have hst1:=jaH (jaW r)
  have hrt:=je2 r hr
  have hem:=jsn (depth r) r hr (Nat.le_refl _)
  have c1:=jbf r
  have c2:=jb4 r
  have c3:=jbw r
  generalize rxD r = d at *
  refine jaj (n:=9) (rs:=[.tmp 2]) Tryz.func31 rfl rfl rfl rfl rfl rfl ?_
  repeat' (first | apply wz1|apply wz2|apply wz3|apply wz4|apply wz5|apply wz6 | simp -dsimp (maxSteps:=999999) (disch:=omega) only[go_sem,simprocAttr, *])
  refine jal bo30 rfl rfl hst1 hrt ?_
  cases hb : rightR r with
  | false=>
    repeat' (first | apply wz1|apply wz2|apply wz3|apply wz4|apply wz5|apply wz6 | simp -dsimp (maxSteps:=999999) (disch:=omega) only[go_sem,simprocAttr, *])
    try rfl
  | true=>
    repeat' (first | apply wz1|apply wz2|apply wz3|apply wz4|apply wz5|apply wz6 | simp -dsimp (maxSteps:=999999) (disch:=omega) only[go_sem,simprocAttr, *])
    refine jal bo48 rfl rfl hst1 hem ?_
    repeat' (first | apply wz1|apply wz2|apply wz3|apply wz4|apply wz5|apply wz6 | simp -dsimp (maxSteps:=999999) (disch:=omega) only[go_sem,simprocAttr, *])
    try rfl
end Go.Proofs.W
end
section
namespace Go.Proofs.W
open Go Vm Go.Proofs.Zso
def smallZ (c : UInt8) : Bool:=decide (97 <= c.toNat /\ c.toNat <= 122)
def nameZ (s : List UInt8) : Bool:=decide (0 < s.length) && decide (s.length <= 16) && s.all smallZ
theorem jsN {α : Type} {l : List α} {f : α -> Bool} {j : Nat} (h : j < l.length) : (l.drop j).all f = (f l[j] && (l.drop (j + 1)).all f):=by rw [List.drop_eq_getElem_cons h,List.all_cons]
theorem jpg {α : Type} {l : List α} {f : α -> Bool} {j : Nat} (h : l.length <= j) : (l.drop j).all f = true:=by rw [List.drop_eq_nil_of_le h];rfl
theorem jk4 {α : Type} {l : List α} {f : α -> Bool} {j : Nat} (h : j < l.length) : (l.drop j).any f = (f l[j] || (l.drop (j + 1)).any f):=by rw [List.drop_eq_getElem_cons h,List.any_cons]
theorem jiK {α : Type} {l : List α} {f : α -> Bool} {j : Nat} (h : l.length <= j) : (l.drop j).any f = false:=by rw [List.drop_eq_nil_of_le h];rfl
theorem jpC (s : List UInt8) (hs : s.length <= 1000000) : PureF Tryz.prog A 28 [.str s] (.bool (nameZ s)):=by
  refine jaj (n:=27) (rs:=[.tmp 2]) Tryz.func28 rfl rfl rfl rfl rfl rfl ?_
  repeat' (first | apply wz1|apply wz2|apply wz3|apply wz4|apply wz5|apply wz6 | simp -dsimp (maxSteps:=999999) (disch:=omega) only[go_sem,simprocAttr, *])
  refine jae (fun e H=>∃ j : Nat,j <= s.length /\ e 0 = .str s /\ e 5 = .int .i64 s.length /\ e 6 = .int .i64 j /\ s.all smallZ = (s.drop j).all smallZ) (fun e H=>s.length - natOf (e 6)) ?_ ?_
  · exact ⟨0,Nat.zero_le _,gs,gs,rfl,by simp⟩
  · rintro e H ⟨j,hj,e0,e5,e6,ha⟩ R hR
    repeat' (first | apply wz1|apply wz2|apply wz3|apply wz4|apply wz5|apply wz6 | simp -dsimp (maxSteps:=999999) (disch:=omega) only[go_sem,simprocAttr, *])
    refine wz7 (fun hb=>?_) (fun hb=>?_) <;> try simp -dsimp (maxSteps:=999999) (disch:=omega) only[go_sem,simprocAttr,decide_eq_true_eq,decide_eq_false_iff_not,Bool.not_eq_true,Bool.not_eq_false,Int.not_lt,Int.not_le] at hb
    · rw [jsN hb] at ha
      by_cases c1 : 97 <= s[j].toNat
      · by_cases c2 : s[j].toNat <= 122
        · have hz : smallZ s[j] = true:=by simp [smallZ,c1,c2]
          rw [hz,Bool.true_and] at ha
          clear hz
          repeat' (first | apply wz1|apply wz2|apply wz3|apply wz4|apply wz5|apply wz6 | simp -dsimp (maxSteps:=999999) (disch:=omega) only[go_sem,simprocAttr, *])
          refine wz7 (fun hb2=>?_) (fun hb2=>?_) <;> try simp -dsimp (maxSteps:=999999) (disch:=omega) only[go_sem,simprocAttr,decide_eq_true_eq,decide_eq_false_iff_not,Bool.not_eq_true,Bool.not_eq_false,Int.not_lt,Int.not_le] at hb2
          repeat' (first | apply wz1|apply wz2|apply wz3|apply wz4|apply wz5|apply wz6 | simp -dsimp (maxSteps:=999999) (disch:=omega) only[go_sem,simprocAttr, *])
          refine hR _ _ ⟨j + 1,by omega,gs,gs,gs,ha⟩ ?_
          simp -dsimp (maxSteps:=999999) (disch:=omega) only[go_sem,simprocAttr, *,jab]
        · have hz : nameZ s = false:=by
            have : smallZ s[j] = false:=by simp [smallZ,c2]
            rw [this] at ha;simp [nameZ,ha]
          rw [hz]
          repeat' (first | apply wz1|apply wz2|apply wz3|apply wz4|apply wz5|apply wz6 | simp -dsimp (maxSteps:=999999) (disch:=omega) only[go_sem,simprocAttr, *])
          refine wz7 (fun hb2=>?_) (fun hb2=>?_) <;> try simp -dsimp (maxSteps:=999999) (disch:=omega) only[go_sem,simprocAttr,decide_eq_true_eq,decide_eq_false_iff_not,Bool.not_eq_true,Bool.not_eq_false,Int.not_lt,Int.not_le] at hb2
          repeat' (first | apply wz1|apply wz2|apply wz3|apply wz4|apply wz5|apply wz6 | simp -dsimp (maxSteps:=999999) (disch:=omega) only[go_sem,simprocAttr, *])
          try rfl
      · have hz : nameZ s = false:=by
          have : smallZ s[j] = false:=by simp [smallZ,c1]
          rw [this] at ha;simp [nameZ,ha]
        rw [hz]
        repeat' (first | apply wz1|apply wz2|apply wz3|apply wz4|apply wz5|apply wz6 | simp -dsimp (maxSteps:=999999) (disch:=omega) only[go_sem,simprocAttr, *])
        refine wz7 (fun hb2=>?_) (fun hb2=>?_) <;> try simp -dsimp (maxSteps:=999999) (disch:=omega) only[go_sem,simprocAttr,decide_eq_true_eq,decide_eq_false_iff_not,Bool.not_eq_true,Bool.not_eq_false,Int.not_lt,Int.not_le] at hb2
        repeat' (first | apply wz1|apply wz2|apply wz3|apply wz4|apply wz5|apply wz6 | simp -dsimp (maxSteps:=999999) (disch:=omega) only[go_sem,simprocAttr, *])
        try rfl
    · rw [jpg (by omega)] at ha
      by_cases c1 : 0 < s.length
      · have hz : nameZ s = decide (s.length <= 16):=by simp [nameZ,c1,ha]
        rw [hz]
        have hne : (s == []) = false:=by cases s with | nil=>simp at c1 | cons a b=>rfl
        clear hz ha
        have hle : ((s.length : Int) <= 16) = (s.length <= 16):=by simp only [eq_iff_iff];omega
        repeat' (first | apply wz1|apply wz2|apply wz3|apply wz4|apply wz5|apply wz6 | simp -dsimp (maxSteps:=999999) (disch:=omega) only[go_sem,simprocAttr, *])
        try simp only [hle]
      · have hz : nameZ s = false:=by simp [nameZ,c1]
        have : s = []:=by cases s with | nil=>rfl | cons a b=>simp at c1
        subst this
        rw [hz]
        repeat' (first | apply wz1|apply wz2|apply wz3|apply wz4|apply wz5|apply wz6 | simp -dsimp (maxSteps:=999999) (disch:=omega) only[go_sem,simprocAttr, *])
def namedZ (l : List Rule) (s : List UInt8) : Bool:=l.any fun r=>r.nm == s
attribute [local go_sem] jfB
theorem juf (l : List Rule) (hl : l.length <= 1000) (s : List UInt8) : PureF Tryz.prog A 29 [.sl false (l.map ruleD),.str s] (.bool (namedZ l s)):=by
  refine jaj (n:=18) (rs:=[.tmp 4]) Tryz.func29 rfl rfl rfl rfl rfl rfl ?_
  repeat' (first | apply wz1|apply wz2|apply wz3|apply wz4|apply wz5|apply wz6 | simp -dsimp (maxSteps:=999999) (disch:=omega) only[go_sem,simprocAttr, *])
  refine jae (fun e H=>∃ j : Nat,j <= l.length /\ e 1 = .str s /\ e 7 = .sl false (l.map ruleD) /\ e 8 = .int .i64 l.length /\ e 9 = .int .i64 j /\ namedZ l s = (l.drop j).any (fun r=>r.nm == s)) (fun e H=>l.length - natOf (e 9)) ?_ ?_
  · exact ⟨0,Nat.zero_le _,gs,gs,gs,rfl,by simp [namedZ]⟩
  · rintro e H ⟨j,hj,e1,e7,e8,e9,ha⟩ R hR
    repeat' (first | apply wz1|apply wz2|apply wz3|apply wz4|apply wz5|apply wz6 | simp -dsimp (maxSteps:=999999) (disch:=omega) only[go_sem,simprocAttr, *])
    refine wz7 (fun hb=>?_) (fun hb=>?_) <;> try simp -dsimp (maxSteps:=999999) (disch:=omega) only[go_sem,simprocAttr,decide_eq_true_eq,decide_eq_false_iff_not,Bool.not_eq_true,Bool.not_eq_false,Int.not_lt,Int.not_le] at hb
    · rw [jk4 hb] at ha
      have hx : (l.map ruleD)[j]? = some (ruleD l[j]):=by simp [hb]
      have hx' : ruleD l[j] = .agg [.str l[j].nm,.int .u8 l[j].rx.k,.int .u16 l[j].rx.s,.sl false (rxDs l[j].rx.kids),.bool l[j].br]:=rfl
      rw [hx'] at hx
      generalize l[j] = r at *
      cases hq : (r.nm == s) with
      | true=>
        rw [hq,Bool.true_or] at ha
        rw [ha]
        repeat' (first | apply wz1|apply wz2|apply wz3|apply wz4|apply wz5|apply wz6 | simp -dsimp (maxSteps:=999999) (disch:=omega) only[go_sem,simprocAttr, *])
        refine wz7 (fun hb2=>?_) (fun hb2=>?_) <;> try simp -dsimp (maxSteps:=999999) (disch:=omega) only[go_sem,simprocAttr,decide_eq_true_eq,decide_eq_false_iff_not,Bool.not_eq_true,Bool.not_eq_false,Int.not_lt,Int.not_le] at hb2
        repeat' (first | apply wz1|apply wz2|apply wz3|apply wz4|apply wz5|apply wz6 | simp -dsimp (maxSteps:=999999) (disch:=omega) only[go_sem,simprocAttr, *])
        try rfl
      | false=>
        rw [hq,Bool.false_or] at ha
        repeat' (first | apply wz1|apply wz2|apply wz3|apply wz4|apply wz5|apply wz6 | simp -dsimp (maxSteps:=999999) (disch:=omega) only[go_sem,simprocAttr, *])
        refine wz7 (fun hb2=>?_) (fun hb2=>?_) <;> try simp -dsimp (maxSteps:=999999) (disch:=omega) only[go_sem,simprocAttr,decide_eq_true_eq,decide_eq_false_iff_not,Bool.not_eq_true,Bool.not_eq_false,Int.not_lt,Int.not_le] at hb2
        repeat' (first | apply wz1|apply wz2|apply wz3|apply wz4|apply wz5|apply wz6 | simp -dsimp (maxSteps:=999999) (disch:=omega) only[go_sem,simprocAttr, *])
        refine hR _ _ ⟨j + 1,by omega,gs,gs,gs,gs,ha⟩ ?_
        simp -dsimp (maxSteps:=999999) (disch:=omega) only[go_sem,simprocAttr, *,jab]
    · rw [jiK (by omega)] at ha
      rw [ha]
      repeat' (first | apply wz1|apply wz2|apply wz3|apply wz4|apply wz5|apply wz6 | simp -dsimp (maxSteps:=999999) (disch:=omega) only[go_sem,simprocAttr, *])
      try rfl
def mayZ (l : List Rule) (r : Rule) : Bool:=nameZ r.nm && !namedZ l r.nm && rightR r.rx && !emptyR r.rx
theorem jxl (l : List Rule) (hl : l.length <= 1000) (r : Rule) (hr : okR r.rx) (hn : r.nm.length <= 1000000) : PureF Tryz.prog A 17 [.sl false (l.map ruleD),ruleD r] (.bool (mayZ l r)):=by
  have hN:=jpC r.nm hn
  have hM:=juf l hl r.nm
  have hR:=je2 r.rx hr
  have hE:=jql r.rx hr
  have hS:=jaW r.rx
  have hL:=jb8 l
  rw [jdY] at hR hE hS
  have hdef : ruleD r = .agg [.str r.nm,.int .u8 r.rx.k,.int .u16 r.rx.s,.sl false (rxDs r.rx.kids),.bool r.br]:=rfl
  rw [hdef]
  unfold mayZ
  refine jaj (n:=26) (rs:=[.tmp 4]) Tryz.func17 rfl rfl rfl rfl rfl rfl ?_
  repeat' (first | apply wz1|apply wz2|apply wz3|apply wz4|apply wz5|apply wz6 | simp -dsimp (maxSteps:=999999) (disch:=omega) only[go_sem,simprocAttr, *])
  refine jal bo28 rfl rfl (jaH rfl) hN ?_
  cases nameZ r.nm with
  | false=>simp -dsimp (maxSteps:=999999) (disch:=omega) only[go_sem,simprocAttr, *];repeat' (first | apply wz1|apply wz2|apply wz3|apply wz4|apply wz5|apply wz6 | simp -dsimp (maxSteps:=999999) (disch:=omega) only[go_sem,simprocAttr, *]);try rfl
  | true=>
    simp -dsimp (maxSteps:=999999) (disch:=omega) only[go_sem,simprocAttr, *]
    refine jal bo29 rfl rfl (jb7 (by simp [strip,hL]) rfl) hM ?_
    cases namedZ l r.nm with
    | true=>simp -dsimp (maxSteps:=999999) (disch:=omega) only[go_sem,simprocAttr, *];repeat' (first | apply wz1|apply wz2|apply wz3|apply wz4|apply wz5|apply wz6 | simp -dsimp (maxSteps:=999999) (disch:=omega) only[go_sem,simprocAttr, *]);try rfl
    | false=>
      simp -dsimp (maxSteps:=999999) (disch:=omega) only[go_sem,simprocAttr, *]
      refine jal bo30 rfl rfl (jaH hS) hR ?_
      cases hrr : rightR r.rx with
      | false=>simp -dsimp (maxSteps:=999999) (disch:=omega) only[go_sem,simprocAttr, *];repeat' (first | apply wz1|apply wz2|apply wz3|apply wz4|apply wz5|apply wz6 | simp -dsimp (maxSteps:=999999) (disch:=omega) only[go_sem,simprocAttr, *]);try rfl
      | true=>
        rw [hrr] at hE
        simp -dsimp (maxSteps:=999999) (disch:=omega) only[go_sem,simprocAttr, *]
        refine jal bo31 rfl rfl (jaH hS) hE ?_
        cases emptyR r.rx with
        | false=>simp -dsimp (maxSteps:=999999) (disch:=omega) only[go_sem,simprocAttr, *];repeat' (first | apply wz1|apply wz2|apply wz3|apply wz4|apply wz5|apply wz6 | simp -dsimp (maxSteps:=999999) (disch:=omega) only[go_sem,simprocAttr, *]);try rfl
        | true=>simp -dsimp (maxSteps:=999999) (disch:=omega) only[go_sem,simprocAttr, *];repeat' (first | apply wz1|apply wz2|apply wz3|apply wz4|apply wz5|apply wz6 | simp -dsimp (maxSteps:=999999) (disch:=omega) only[go_sem,simprocAttr, *]);try rfl
end Go.Proofs.W
end
section
namespace Go.Proofs.W
open Go Vm Go.Proofs.Zso
def mayAll : List Rule -> List Rule -> Bool
  | _,[]=>true
  | a,r :: l=>mayZ a r && mayAll (a ++ [r]) l
def rightG (l : List Rule) : Bool:=decide (1 <= l.length /\ l.length <= 16) && mayAll [] l
theorem jl7 {l : List Rule} {j : Nat} (h : j < l.length) : mayAll (l.take j) (l.drop j) = (mayZ (l.take j) l[j] && mayAll (l.take (j + 1)) (l.drop (j + 1))):=by
  rw [List.drop_eq_getElem_cons h,mayAll,ja1 h]
theorem jkD {l : List Rule} {j : Nat} (h : l.length <= j) : mayAll (l.take j) (l.drop j) = true:=by rw [List.drop_eq_nil_of_le h];rfl
attribute [local go_sem] jfB
theorem jhL (l : List Rule) (hl : l.length <= 1000) (hr : ∀ r ∈ l,okR r.rx /\ r.nm.length <= 1000000) : PureF Tryz.prog A 6 [rulesD l] (.bool (rightG l)):=by
  refine jaj (n:=27) (rs:=[.tmp 2]) Tryz.func6 rfl rfl rfl rfl rfl rfl ?_
  by_cases c1 : 1 <= l.length
  · by_cases c2 : l.length <= 16
    · have hz : rightG l = mayAll (l.take 0) (l.drop 0):=by simp [rightG,c1,c2]
      rw [hz]
      generalize hG : mayAll (l.take 0) (l.drop 0) = G
      clear hz
      repeat' (first | apply wz1|apply wz2|apply wz3|apply wz4|apply wz5|apply wz6 | simp -dsimp (maxSteps:=999999) (disch:=omega) only[go_sem,simprocAttr, *,rulesD])
      refine wz7 (fun hb=>?_) (fun hb=>?_) <;> try simp -dsimp (maxSteps:=999999) (disch:=omega) only[go_sem,simprocAttr,decide_eq_true_eq,decide_eq_false_iff_not,Bool.not_eq_true,Bool.not_eq_false,Int.not_lt,Int.not_le] at hb
      repeat' (first | apply wz1|apply wz2|apply wz3|apply wz4|apply wz5|apply wz6 | simp -dsimp (maxSteps:=999999) (disch:=omega) only[go_sem,simprocAttr, *,rulesD])
      refine jae (fun e H=>∃ j : Nat,j <= l.length /\ e 0 = rulesD l /\ e 13 = rulesD l /\ e 14 = .int .i64 l.length /\ e 15 = .int .i64 j /\ G = mayAll (l.take j) (l.drop j)) (fun e H=>l.length - natOf (e 15)) ?_ ?_
      · exact ⟨0,Nat.zero_le _,by simp -dsimp (maxSteps:=999999) (disch:=omega) only[go_sem,simprocAttr, *,rulesD],by simp -dsimp (maxSteps:=999999) (disch:=omega) only[go_sem,simprocAttr, *,rulesD],by simp -dsimp (maxSteps:=999999) (disch:=omega) only[go_sem,simprocAttr, *,rulesD],rfl,hG.symm⟩
      · clear hG
        rintro e H ⟨j,hj,e0,e13,e14,e15,ha⟩ R hR
        repeat' (first | apply wz1|apply wz2|apply wz3|apply wz4|apply wz5|apply wz6 | simp -dsimp (maxSteps:=999999) (disch:=omega) only[go_sem,simprocAttr, *,rulesD])
        refine wz7 (fun hb=>?_) (fun hb=>?_) <;> try simp -dsimp (maxSteps:=999999) (disch:=omega) only[go_sem,simprocAttr,decide_eq_true_eq,decide_eq_false_iff_not,Bool.not_eq_true,Bool.not_eq_false,Int.not_lt,Int.not_le] at hb
        · rw [jl7 hb] at ha
          have hx : (l.map ruleD)[j]? = some (ruleD l[j]):=by simp [hb]
          have q1:=jd3 l[j]
          have q2:=jqo l[j]
          have q3:=jnZ l[j]
          have hq:=hr l[j] (List.getElem_mem hb)
          have hcall:=jxl (l.take j) (by simp;omega) l[j] hq.1 hq.2
          have hst:=jhe l[j]
          have hhs : headSize 5 (l.map ruleD) = true:=by cases l <;> rfl
          have hsl:=jb8 (l.take j)
          rw [List.map_take] at hcall hsl
          generalize hw : ruleD l[j] = d at *
          clear hw
          repeat' (first | apply wz1|apply wz2|apply wz3|apply wz4|apply wz5|apply wz6 | simp -dsimp (maxSteps:=999999) (disch:=omega) only[go_sem,simprocAttr, *,rulesD])
          refine jao (prs:=[]) (by kernel_rfl) rfl (by kernel_rfl) ?_
          simp -dsimp (maxSteps:=999999) (disch:=omega) only[go_sem,simprocAttr, *,rulesD]
          have hst2 : stripL [.sl false ((l.map ruleD).take j),d] = some [.sl false ((l.map ruleD).take j),d]:=jb7 (by simp [strip,hsl]) hst
          refine ⟨fun _=>by rw [hst2];rfl,jal bo17 rfl rfl hst2 hcall ?_⟩
          cases hm : mayZ (l.take j) l[j] with
          | true=>
            rw [hm,Bool.true_and] at ha
            simp -dsimp (maxSteps:=999999) (disch:=omega) only[go_sem,simprocAttr, *,rulesD]
            refine wz7 (fun hb2=>?_) (fun hb2=>?_) <;> try simp -dsimp (maxSteps:=999999) (disch:=omega) only[go_sem,simprocAttr,decide_eq_true_eq,decide_eq_false_iff_not,Bool.not_eq_true,Bool.not_eq_false,Int.not_lt,Int.not_le] at hb2
            repeat' (first | apply wz1|apply wz2|apply wz3|apply wz4|apply wz5|apply wz6 | simp -dsimp (maxSteps:=999999) (disch:=omega) only[go_sem,simprocAttr, *,rulesD])
            refine hR _ _ ⟨j + 1,by omega,by simp -dsimp (maxSteps:=999999) (disch:=omega) only[go_sem,simprocAttr, *,rulesD],by simp -dsimp (maxSteps:=999999) (disch:=omega) only[go_sem,simprocAttr, *,rulesD],by simp -dsimp (maxSteps:=999999) (disch:=omega) only[go_sem,simprocAttr, *,rulesD],gs,ha⟩ ?_
            simp -dsimp (maxSteps:=999999) (disch:=omega) only[go_sem,simprocAttr, *,jab]
          | false=>
            rw [hm,Bool.false_and] at ha
            rw [ha]
            simp -dsimp (maxSteps:=999999) (disch:=omega) only[go_sem,simprocAttr, *,rulesD]
            refine wz7 (fun hb2=>?_) (fun hb2=>?_) <;> try simp -dsimp (maxSteps:=999999) (disch:=omega) only[go_sem,simprocAttr,decide_eq_true_eq,decide_eq_false_iff_not,Bool.not_eq_true,Bool.not_eq_false,Int.not_lt,Int.not_le] at hb2
            repeat' (first | apply wz1|apply wz2|apply wz3|apply wz4|apply wz5|apply wz6 | simp -dsimp (maxSteps:=999999) (disch:=omega) only[go_sem,simprocAttr, *,rulesD])
            try rfl
        · rw [jkD (by omega)] at ha
          rw [ha]
          repeat' (first | apply wz1|apply wz2|apply wz3|apply wz4|apply wz5|apply wz6 | simp -dsimp (maxSteps:=999999) (disch:=omega) only[go_sem,simprocAttr, *])
          try rfl
    · have hz : rightG l = false:=by simp [rightG,c2]
      rw [hz]
      repeat' (first | apply wz1|apply wz2|apply wz3|apply wz4|apply wz5|apply wz6 | simp -dsimp (maxSteps:=999999) (disch:=omega) only[go_sem,simprocAttr, *,rulesD])
      refine wz7 (fun hb=>?_) (fun hb=>?_) <;> try simp -dsimp (maxSteps:=999999) (disch:=omega) only[go_sem,simprocAttr,decide_eq_true_eq,decide_eq_false_iff_not,Bool.not_eq_true,Bool.not_eq_false,Int.not_lt,Int.not_le] at hb
      repeat' (first | apply wz1|apply wz2|apply wz3|apply wz4|apply wz5|apply wz6 | simp -dsimp (maxSteps:=999999) (disch:=omega) only[go_sem,simprocAttr, *])
      try rfl
  · have hz : rightG l = false:=by simp [rightG,c1]
    rw [hz]
    have : l = []:=by cases l with | nil=>rfl | cons a b=>simp at c1
    subst this
    clear hr hl c1 hz
    repeat' (first | apply wz1|apply wz2|apply wz3|apply wz4|apply wz5|apply wz6 | simp -dsimp (maxSteps:=999999) (disch:=omega) only[go_sem,simprocAttr, *,rulesD])
    refine wz7 (fun hb=>?_) (fun hb=>?_) <;> try simp -dsimp (maxSteps:=999999) (disch:=omega) only[go_sem,simprocAttr,decide_eq_true_eq,decide_eq_false_iff_not,Bool.not_eq_true,Bool.not_eq_false,Int.not_lt,Int.not_le] at hb
    repeat' (first | apply wz1|apply wz2|apply wz3|apply wz4|apply wz5|apply wz6 | simp -dsimp (maxSteps:=999999) (disch:=omega) only[go_sem,simprocAttr, *])
    try rfl
def greatG (l : List Rule) : Bool:=decide (20 < l.length) || l.any fun r=>decide (100 < r.nm.length) || greatR 20 r.rx
theorem jh4 (l : List Rule) : PureF Tryz.prog A 5 [rulesD l] (.bool (greatG l)):=by
  refine jaj (n:=28) (rs:=[.tmp 2]) Tryz.func5 rfl rfl rfl rfl rfl rfl ?_
  by_cases c1 : 20 < l.length
  · have hz : greatG l = true:=by simp [greatG,c1]
    rw [hz]
    repeat' (first | apply wz1|apply wz2|apply wz3|apply wz4|apply wz5|apply wz6 | simp -dsimp (maxSteps:=999999) (disch:=omega) only[go_sem,simprocAttr, *,rulesD])
    refine wz7 (fun hb=>?_) (fun hb=>?_) <;> try simp -dsimp (maxSteps:=999999) (disch:=omega) only[go_sem,simprocAttr,decide_eq_true_eq,decide_eq_false_iff_not,Bool.not_eq_true,Bool.not_eq_false,Int.not_lt,Int.not_le] at hb
    repeat' (first | apply wz1|apply wz2|apply wz3|apply wz4|apply wz5|apply wz6 | simp -dsimp (maxSteps:=999999) (disch:=omega) only[go_sem,simprocAttr, *])
    try rfl
  · have hz : greatG l = l.any fun r=>decide (100 < r.nm.length) || greatR 20 r.rx:=by simp [greatG,c1]
    rw [hz]
    generalize hG : (l.any fun r=>decide (100 < r.nm.length) || greatR 20 r.rx) = G
    clear hz
    repeat' (first | apply wz1|apply wz2|apply wz3|apply wz4|apply wz5|apply wz6 | simp -dsimp (maxSteps:=999999) (disch:=omega) only[go_sem,simprocAttr, *,rulesD])
    refine wz7 (fun hb=>?_) (fun hb=>?_) <;> try simp -dsimp (maxSteps:=999999) (disch:=omega) only[go_sem,simprocAttr,decide_eq_true_eq,decide_eq_false_iff_not,Bool.not_eq_true,Bool.not_eq_false,Int.not_lt,Int.not_le] at hb
    repeat' (first | apply wz1|apply wz2|apply wz3|apply wz4|apply wz5|apply wz6 | simp -dsimp (maxSteps:=999999) (disch:=omega) only[go_sem,simprocAttr, *,rulesD])
    refine jae (fun e H=>∃ j : Nat,j <= l.length /\ e 0 = rulesD l /\ e 3 = .int .i64 j /\ G = (l.drop j).any fun r=>decide (100 < r.nm.length) || greatR 20 r.rx) (fun e H=>l.length - natOf (e 3)) ?_ ?_
    · exact ⟨0,Nat.zero_le _,by simp -dsimp (maxSteps:=999999) (disch:=omega) only[go_sem,simprocAttr, *,rulesD],rfl,hG.symm⟩
    · clear hG
      rintro e H ⟨j,hj,e0,e3,ha⟩ R hR
      repeat' (first | apply wz1|apply wz2|apply wz3|apply wz4|apply wz5|apply wz6 | simp -dsimp (maxSteps:=999999) (disch:=omega) only[go_sem,simprocAttr, *,rulesD])
      refine wz7 (fun hb=>?_) (fun hb=>?_) <;> try simp -dsimp (maxSteps:=999999) (disch:=omega) only[go_sem,simprocAttr,decide_eq_true_eq,decide_eq_false_iff_not,Bool.not_eq_true,Bool.not_eq_false,Int.not_lt,Int.not_le] at hb
      · rw [jk4 hb] at ha
        have hx : (l.map ruleD)[j]? = some (.agg [.str l[j].nm,.int .u8 l[j].rx.k,.int .u16 l[j].rx.s,.sl false (rxDs l[j].rx.kids),.bool l[j].br]):=by simp [hb,ruleD]
        have hg:=jtP 20 (by omega) l[j].rx
        have hS:=jaW l[j].rx
        rw [jdY] at hg hS
        generalize l[j] = r at *
        by_cases c2 : 100 < r.nm.length
        · have hz : (decide (100 < r.nm.length) || greatR 20 r.rx) = true:=by simp [c2]
          rw [hz,Bool.true_or] at ha
          rw [ha]
          repeat' (first | apply wz1|apply wz2|apply wz3|apply wz4|apply wz5|apply wz6 | simp -dsimp (maxSteps:=999999) (disch:=omega) only[go_sem,simprocAttr, *,rulesD])
          refine wz7 (fun hb2=>?_) (fun hb2=>?_) <;> try simp -dsimp (maxSteps:=999999) (disch:=omega) only[go_sem,simprocAttr,decide_eq_true_eq,decide_eq_false_iff_not,Bool.not_eq_true,Bool.not_eq_false,Int.not_lt,Int.not_le] at hb2
          repeat' (first | apply wz1|apply wz2|apply wz3|apply wz4|apply wz5|apply wz6 | simp -dsimp (maxSteps:=999999) (disch:=omega) only[go_sem,simprocAttr, *])
          try rfl
        · have hz : (decide (100 < r.nm.length) || greatR 20 r.rx) = greatR 20 r.rx:=by simp [c2]
          rw [hz] at ha
          clear hz
          repeat' (first | apply wz1|apply wz2|apply wz3|apply wz4|apply wz5|apply wz6 | simp -dsimp (maxSteps:=999999) (disch:=omega) only[go_sem,simprocAttr, *,rulesD])
          refine jal bo16 rfl rfl (jb7 hS jir) hg ?_
          cases hm : greatR 20 r.rx with
          | true=>
            rw [hm,Bool.true_or] at ha
            rw [ha]
            simp -dsimp (maxSteps:=999999) (disch:=omega) only[go_sem,simprocAttr, *,rulesD]
            refine wz7 (fun hb2=>?_) (fun hb2=>?_) <;> try simp -dsimp (maxSteps:=999999) (disch:=omega) only[go_sem,simprocAttr,decide_eq_true_eq,decide_eq_false_iff_not,Bool.not_eq_true,Bool.not_eq_false,Int.not_lt,Int.not_le] at hb2
            repeat' (first | apply wz1|apply wz2|apply wz3|apply wz4|apply wz5|apply wz6 | simp -dsimp (maxSteps:=999999) (disch:=omega) only[go_sem,simprocAttr, *])
            try rfl
          | false=>
            rw [hm,Bool.false_or] at ha
            simp -dsimp (maxSteps:=999999) (disch:=omega) only[go_sem,simprocAttr, *,rulesD]
            refine wz7 (fun hb2=>?_) (fun hb2=>?_) <;> try simp -dsimp (maxSteps:=999999) (disch:=omega) only[go_sem,simprocAttr,decide_eq_true_eq,decide_eq_false_iff_not,Bool.not_eq_true,Bool.not_eq_false,Int.not_lt,Int.not_le] at hb2
            repeat' (first | apply wz1|apply wz2|apply wz3|apply wz4|apply wz5|apply wz6 | simp -dsimp (maxSteps:=999999) (disch:=omega) only[go_sem,simprocAttr, *])
            refine hR _ _ ⟨j + 1,by omega,by simp -dsimp (maxSteps:=999999) (disch:=omega) only[go_sem,simprocAttr, *,rulesD],gs,ha⟩ ?_
            simp -dsimp (maxSteps:=999999) (disch:=omega) only[go_sem,simprocAttr, *,jab]
      · rw [jiK (by omega)] at ha
        rw [ha]
        repeat' (first | apply wz1|apply wz2|apply wz3|apply wz4|apply wz5|apply wz6 | simp -dsimp (maxSteps:=999999) (disch:=omega) only[go_sem,simprocAttr, *])
        try rfl
end Go.Proofs.W
end
section
namespace Go.Proofs.W
open Go Vm Go.Proofs.Zso
def sumG (l : List Rule) : Nat:=(l.map fun r=>nodesR r.rx).sum
theorem jtj (l : List Rule) (r : Rule) : sumG (l ++ [r]) = sumG l + nodesR r.rx:=by simp [sumG]
theorem jvq {l : List Rule} (h : ∀ r ∈ l,nodesR r.rx <= 100) : sumG l <= 100 * l.length:=by
  induction l with
  | nil=>simp [sumG]
  | cons r l ih=>
    have h1:=h r List.mem_cons_self
    have h2:=ih fun x hx=>h x (List.mem_cons_of_mem _ hx)
    simp only [sumG,List.map_cons,List.sum_cons,List.length_cons] at h2 ⊢
    omega
theorem jfq {r : Rx} (h : rightR r = true) : depth r <= 12 /\ nodesR r <= 100:=by
  simp only [rightR,Bool.and_eq_true,decide_eq_true_eq] at h
  exact h.1
theorem jqj (l : List Rule) (hl : l.length <= 1000) (ho : ∀ r ∈ l,okR r.rx /\ rightR r.rx = true) : PureF Tryz.prog A 7 [rulesD l] (.int .i64 (sumG l)):=by
  refine jaj (n:=20) (rs:=[.tmp 2]) Tryz.func7 rfl rfl rfl rfl rfl rfl ?_
  repeat' (first | apply wz1|apply wz2|apply wz3|apply wz4|apply wz5|apply wz6 | simp -dsimp (maxSteps:=999999) (disch:=omega) only[go_sem,simprocAttr, *,rulesD] | ((first | refine wz8 (fun hh=>?_) (fun hh=>?_) | refine wz9 (fun hh=>?_) (fun hh=>?_) | refine jak (by simp -dsimp (maxSteps:=999999) (disch:=omega) only[go_sem,simprocAttr, *,rulesD];exact rfl) (fun hh=>?_) (fun hh=>?_)) <;> (try replace hh:=vqs hh) <;> (try (exfalso;first | exact hh | omega))))
  refine jae (fun e H=>∃ (j : Nat),j <= l.length /\ e 0 = .sl false (l.map ruleD) /\ e 3 = .int .i64 (sumG (l.take j)) /\ e 4 = .int .i64 j) (fun e H=>l.length - natOf (e 4)) ?_ ?_
  · exact ⟨0,by omega,by simp -dsimp (maxSteps:=999999) (disch:=omega) only[go_sem,simprocAttr, *,rulesD],by simp -dsimp (maxSteps:=999999) (disch:=omega) only[go_sem,simprocAttr, *,sumG,List.take_zero,List.map_nil,List.sum_nil],gs⟩
  rintro e H ⟨j,hj,e0,e3,e4⟩ R hR
  have hsum:=jvq (l:=l.take j) fun r hr=>(jfq (ho r (List.mem_of_mem_take hr)).2).2
  have htl : (l.take j).length = j:=by simp;omega
  by_cases hb : j < l.length
  case neg=>
    rw [List.take_of_length_le (by omega)] at e3
    repeat' (first | apply wz1|apply wz2|apply wz3|apply wz4|apply wz5|apply wz6 | simp -dsimp (maxSteps:=999999) (disch:=omega) only[go_sem,simprocAttr, *] | ((first | refine wz8 ?_ ?_|refine wz9 ?_ ?_|refine wz7 ?_ ?_)<;>intro hh <;> (try replace hh:=vqs hh) <;> (try (exfalso;first | exact hh | omega))))
    done
  have hrg:=jgM hb
  have hrx:=jdY l[j]
  have htk : l.take (j + 1) = l.take j ++ [l[j]]:=ja1 hb
  have hor:=ho l[j] (List.getElem_mem hb)
  have hnd:=jfq hor.2
  have hN:=jua 12 l[j].rx hor.1 hnd.1 (by omega)
  have hsr:=jaW l[j].rx
  have hse : sumG (l.take (j + 1)) = sumG (l.take j) + nodesR l[j].rx:=by rw [htk,jtj]
  generalize l[j] = r at *
  have q1:=jd3 r
  rw [hrx] at hN hsr
  clear htk hrx
  repeat' (first | apply wz1|apply wz2|apply wz3|apply wz4|apply wz5|apply wz6 | simp -dsimp (maxSteps:=999999) (disch:=omega) only[go_sem,simprocAttr, *] | ((first | refine wz8 ?_ ?_|refine wz9 ?_ ?_|refine wz7 ?_ ?_)<;>intro hh <;> (try replace hh:=vqs hh) <;> (try (exfalso;first | exact hh | omega))))
  refine jal bo18 rfl rfl (jaH hsr) hN ?_
  repeat' (first | apply wz1|apply wz2|apply wz3|apply wz4|apply wz5|apply wz6 | simp -dsimp (maxSteps:=999999) (disch:=omega) only[go_sem,simprocAttr, *] | ((first | refine wz8 ?_ ?_|refine wz9 ?_ ?_|refine wz7 ?_ ?_)<;>intro hh <;> (try replace hh:=vqs hh) <;> (try (exfalso;first | exact hh | omega))))
  refine hR _ _ ⟨j + 1,by omega,gs,gs,gs⟩ ?_
  simp -dsimp (maxSteps:=999999) (disch:=omega) only[go_sem,simprocAttr, *,jab]
end Go.Proofs.W
end
section
namespace Go.Proofs.W
open Go Vm Go.Proofs.Zso
theorem eqPc (xs ys : List D) : eqD Tryz.prog 40 (.agg xs) (.agg ys) = eqK [0,0,0] xs ys:=by kernel_rfl
attribute [go_sem] eqPc eqK eqK1
def wholeB : Int -> List Pc -> Int -> Bool
  | a,[],n=>decide (a = n)
  | a,p :: l,n=>(decide (p.f = a) && decide (p.f < p.t)) && wholeB p.t l n
theorem jsV (l : List Pc) (n : Int) (hl : l.length <= 1000000) : PureF Tryz.prog A 12 [pcsD l,.int .i64 n] (.bool (wholeB 0 l n)):=by
  refine jaj (n:=31) (rs:=[.tmp 4]) Tryz.func12 rfl rfl rfl rfl rfl rfl ?_
  generalize hG : wholeB 0 l n = G
  replace hG : Hid (G = wholeB 0 (l.drop 0) n):=hG.symm
  repeat' (first | apply wz1|apply wz2|apply wz3|apply wz4|apply wz5|apply wz6 | simp -dsimp (maxSteps:=999999) (disch:=omega) only[go_sem,simprocAttr, *,pcsD] | ((first | refine wz8 (fun hh=>?_) (fun hh=>?_) | refine wz9 (fun hh=>?_) (fun hh=>?_) | refine jak (by simp -dsimp (maxSteps:=999999) (disch:=omega) only[go_sem,simprocAttr, *,pcsD];exact rfl) (fun hh=>?_) (fun hh=>?_)) <;> (try replace hh:=vqs hh) <;> (try (exfalso;first | exact hh | omega))))
  refine jae (fun e H=>∃ (j : Nat) (a : Int),j <= l.length /\ e 1 = .int .i64 n /\ e 5 = .int .i64 a /\ e 8 = .sl false (l.map pcD) /\ e 9 = .int .i64 l.length /\ e 10 = .int .i64 j /\ G = wholeB a (l.drop j) n) (fun e H=>l.length - natOf (e 10)) ?_ ?_
  · exact ⟨0,0,by omega,gs,gs,gs,gs,gs,hG⟩
  clear hG
  rintro e H ⟨j,a,hj,e1,e5,e8,e9,e10,ha⟩ R hR
  by_cases hb : j < l.length
  case neg=>
    rw [List.drop_eq_nil_of_le (by omega)] at ha
    have hz : G = decide (a = n):=ha
    clear ha
    by_cases h : a = n
    · have : G = true:=by rw [hz];simpa using h
      subst this
      clear hz
      subst h
      repeat' (first | apply wz1|apply wz2|apply wz3|apply wz4|apply wz5|apply wz6 | simp -dsimp (maxSteps:=999999) (disch:=omega) only[go_sem,simprocAttr, *] | ((first | refine wz8 ?_ ?_|refine wz9 ?_ ?_|refine wz7 ?_ ?_)<;>intro hh <;> (try replace hh:=vqs hh) <;> (try (exfalso;first | exact hh | omega))))
    · have : G = false:=by rw [hz];simpa using h
      subst this
      clear hz
      have hbe : (a == n) = false:=by simpa using h
      repeat' (first | apply wz1|apply wz2|apply wz3|apply wz4|apply wz5|apply wz6 | simp -dsimp (maxSteps:=999999) (disch:=omega) only[go_sem,simprocAttr, *] | ((first | refine wz8 ?_ ?_|refine wz9 ?_ ?_|refine wz7 ?_ ?_)<;>intro hh <;> (try replace hh:=vqs hh) <;> (try (exfalso;first | exact hh | omega))))
  rw [List.drop_eq_getElem_cons hb,wholeB] at ha
  have hc:=jqt hb
  generalize l[j] = p at ha hc
  obtain ⟨pf,pt,pr⟩:=p
  simp only at hc ha
  replace ha : Hid (G = ((decide (pf = a) && decide (pf < pt)) && wholeB pt (l.drop (j + 1)) n)):=ha
  by_cases h1 : pf = a
  · subst h1
    by_cases h2 : pf < pt
    · repeat' (first | apply wz1|apply wz2|apply wz3|apply wz4|apply wz5|apply wz6 | simp -dsimp (maxSteps:=999999) (disch:=omega) only[go_sem,simprocAttr, *] | ((first | refine wz8 ?_ ?_|refine wz9 ?_ ?_|refine wz7 ?_ ?_)<;>intro hh <;> (try replace hh:=vqs hh) <;> (try (exfalso;first | exact hh | omega))))
      refine hR _ _ ⟨j + 1,pt,by omega,gs,gs,gs,gs,gs,?_⟩ ?_
      · rw [show G = _ from ha];simp [h2]
      · simp -dsimp (maxSteps:=999999) (disch:=omega) only[go_sem,simprocAttr, *,jab]
    · have : G = false:=by rw [show G = _ from ha];simp [h2]
      subst this
      clear ha
      repeat' (first | apply wz1|apply wz2|apply wz3|apply wz4|apply wz5|apply wz6 | simp -dsimp (maxSteps:=999999) (disch:=omega) only[go_sem,simprocAttr, *] | ((first | refine wz8 ?_ ?_|refine wz9 ?_ ?_|refine wz7 ?_ ?_)<;>intro hh <;> (try replace hh:=vqs hh) <;> (try (exfalso;first | exact hh | omega))))
  · have : G = false:=by rw [show G = _ from ha];simp [h1]
    subst this
    clear ha
    have hbe : (pf != a) = true:=by simpa using h1
    repeat' (first | apply wz1|apply wz2|apply wz3|apply wz4|apply wz5|apply wz6 | simp -dsimp (maxSteps:=999999) (disch:=omega) only[go_sem,simprocAttr, *] | ((first | refine wz8 ?_ ?_|refine wz9 ?_ ?_|refine wz7 ?_ ?_)<;>intro hh <;> (try replace hh:=vqs hh) <;> (try (exfalso;first | exact hh | omega))))
theorem juP (a b : List Pc) (ha : a.length <= 100000) : PureF Tryz.prog A 10 [pcsD a,pcsD a] (.bool true):=by
  refine jaj (n:=26) (rs:=[.tmp 4]) Tryz.func10 rfl rfl rfl rfl rfl rfl ?_
  repeat' (first | apply wz1|apply wz2|apply wz3|apply wz4|apply wz5|apply wz6 | simp -dsimp (maxSteps:=999999) (disch:=omega) only[go_sem,simprocAttr, *,pcsD] | ((first | refine wz8 (fun hh=>?_) (fun hh=>?_) | refine wz9 (fun hh=>?_) (fun hh=>?_) | refine jak (by simp -dsimp (maxSteps:=999999) (disch:=omega) only[go_sem,simprocAttr, *,pcsD];exact rfl) (fun hh=>?_) (fun hh=>?_)) <;> (try replace hh:=vqs hh) <;> (try (exfalso;first | exact hh | omega))))
  refine jae (fun e H=>∃ (j : Nat),j <= a.length /\ e 0 = .sl false (a.map pcD) /\ e 1 = .sl false (a.map pcD) /\ e 5 = .int .i64 j) (fun e H=>a.length - natOf (e 5)) ?_ ?_
  · exact ⟨0,by omega,gs,gs,gs⟩
  rintro e H ⟨j,hj,e0,e1,e5⟩ R hR
  by_cases hb : j < a.length
  case neg=>repeat' (first | apply wz1|apply wz2|apply wz3|apply wz4|apply wz5|apply wz6 | simp -dsimp (maxSteps:=999999) (disch:=omega) only[go_sem,simprocAttr, *] | ((first | refine wz8 ?_ ?_|refine wz9 ?_ ?_|refine wz7 ?_ ?_)<;>intro hh <;> (try replace hh:=vqs hh) <;> (try (exfalso;first | exact hh | omega))))
  have hc:=jqt hb
  generalize a[j] = p at hc
  obtain ⟨pf,pt,pr⟩:=p
  simp only at hc
  have q1 : (pf == pf) = true:=by simp
  have q2 : (pt == pt) = true:=by simp
  have q3 : (pr == pr) = true:=by simp
  repeat' (first | apply wz1|apply wz2|apply wz3|apply wz4|apply wz5|apply wz6 | simp -dsimp (maxSteps:=999999) (disch:=omega) only[go_sem,simprocAttr, *] | ((first | refine wz8 ?_ ?_|refine wz9 ?_ ?_|refine wz7 ?_ ?_)<;>intro hh <;> (try replace hh:=vqs hh) <;> (try (exfalso;first | exact hh | omega))))
  refine jao (prs:=[]) (by kernel_rfl) rfl (by kernel_rfl) ?_;simp -dsimp (maxSteps:=999999) (disch:=omega) only[go_sem,simprocAttr, *]
  repeat' (first | apply wz1|apply wz2|apply wz3|apply wz4|apply wz5|apply wz6 | simp -dsimp (maxSteps:=999999) (disch:=omega) only[go_sem,simprocAttr, *] | ((first | refine wz8 ?_ ?_|refine wz9 ?_ ?_|refine wz7 ?_ ?_)<;>intro hh <;> (try replace hh:=vqs hh) <;> (try (exfalso;first | exact hh | omega))))
  refine hR _ _ ⟨j + 1,by omega,gs,gs,gs⟩ ?_
  simp -dsimp (maxSteps:=999999) (disch:=omega) only[go_sem,simprocAttr, *,jab]
theorem jr1 {t : TypeId} {H H' : Heap} {s x d' : D} {ys : List D} {k : Nat} (h : appendD Tryz.prog t H s x = some (d',H')) (hx : addedD H x = some (ys,H)) (hs : ∀ r ∈ objsD s,r ≠ k) (hk : k < H.length) : hget H' k = hget H k:=by
  unfold appendD at h
  obtain ⟨e,_,h⟩:=bind_some h
  obtain ⟨n,_,h⟩:=bind_some h
  obtain ⟨w,_,h⟩:=bind_some h
  obtain ⟨z,_,h⟩:=bind_some h
  rw [hx] at h
  simp only [Option.bind_some] at h
  split at h
  · cases h
  split at h
  · split at h <;> cases h <;> rfl
  split at h
  · cases h
  split at h
  · split at h
    · cases h
      exact jac hk
    · cases h
  · split at h
    · split at h
      · cases h
        rw [jac (by simpa using hk),jaa (hs _ (by simp [objsD]))]
      · cases h
    · cases h
  · cases h
theorem jsz {H : Heap} (p : Pc) : addedD (H ++ [Ob.arr [pcD p]]) (.vec H.length 0 1) = some ([pcD p],H ++ [Ob.arr [pcD p]]):=by
  have : pures (H ++ [Ob.arr [pcD p]]) [pcD p] = some ([pcD p],H ++ [Ob.arr [pcD p]]):=jaz (jdv [p])
  simp [addedD,elems,jap,jbQ,this,puresA,jcw (jkQ p)]
end Go.Proofs.W
end
section
namespace Go.Proofs.W
open Go Vm Go.Proofs.Zso
theorem VecAt.keep {m : Nat} {d : D} {H H' : Heap} {xs : List D} (h : VecAt m d H xs) (s : Same H.length H H') : VecAt m d H' xs:=by
  obtain ⟨h1,h2⟩:=h
  refine ⟨Nat.le_trans h1 s.1,?_⟩
  rcases h2 with h2 | ⟨hx,r,a,b,c,g⟩
  · exact .inl h2
  · have:=s.1
    exact .inr ⟨hx,r,a,by omega,c,by rw [s.2 r b];exact g⟩
def innW (E : List Bool) (k a : Int) : Nat -> Int × Int -> Int × Int
  | 0,s=>s
  | m + 1,s=>innW E k a m (if E.getD (m + 1) false = true /\ (s.2 < 0 ∨ s.1 < a + (m + 1 : Nat)) then (a + (m + 1 : Nat),k) else s)
def ruleW (u : List Int) (a : Int) : List Rule -> Int -> Int × Int -> Int × Int
  | [],_,s=>s
  | r :: l,k,s=>ruleW u a l (k + 1) (innW (endsR u r.rx (startB u.length)) k a u.length s)
def wordsL (l : List Rule) (w : List Int) : Nat -> Int -> List Pc
  | 0,_=>[]
  | n + 1,a=>if a < w.length then ⟨a,(ruleW (w.drop a.toNat) a l 0 (a + 1,-1)).1,(ruleW (w.drop a.toNat) a l 0 (a + 1,-1)).2⟩ :: wordsL l w n (ruleW (w.drop a.toNat) a l 0 (a + 1,-1)).1 else []
theorem jgE {E : List Bool} {k a b : Int} : ∀ (m : Nat) (s : Int × Int),a < s.1 /\ s.1 <= b -> a + m <= b -> a < (innW E k a m s).1 /\ (innW E k a m s).1 <= b
  | 0,s,h,_=>h
  | m + 1,s,h,hb=>by
    rw [innW]
    refine jgE m _ ?_ (by omega)
    split
    · exact ⟨by simp only;omega,by simp only;omega⟩
    · exact h
theorem jiF {u : List Int} {a b : Int} (hb : a + u.length <= b) : ∀ (l : List Rule) (k : Int) (s : Int × Int),a < s.1 /\ s.1 <= b -> a < (ruleW u a l k s).1 /\ (ruleW u a l k s).1 <= b
  | [],k,s,h=>h
  | r :: l,k,s,h=>by
    rw [ruleW]
    exact jiF hb l (k + 1) _ (jgE _ _ h hb)
theorem jt3 (l : List Rule) (hl : l.length <= 1000) (ho : ∀ r ∈ l,okR r.rx /\ shapesR r.rx = true) (w : List Int) (hw : w.length <= 1000) : PureF Tryz.prog A 11 [rulesD l,isD w] (pcsD (wordsL l w w.length 0)):=by
  have ew : isD w = .sl false (w.map (.int .i64)):=rfl
  refine jaj (n:=82) (rs:=[.tmp 4]) Tryz.func11 rfl rfl rfl rfl rfl rfl ?_
  generalize hG : wordsL l w w.length 0 = G
  replace hG : Hid (G = [] ++ wordsL l w w.length 0):=hG.symm
  repeat' (first | apply wz1|apply wz2|apply wz3|apply wz4|apply wz5|apply wz6 | simp -dsimp (maxSteps:=999999) (disch:=omega) only[go_sem,simprocAttr, *,rulesD] | ((first | refine wz8 (fun hh=>?_) (fun hh=>?_) | refine wz9 (fun hh=>?_) (fun hh=>?_) | refine jak (by simp -dsimp (maxSteps:=999999) (disch:=omega) only[go_sem,simprocAttr, *,rulesD];exact rfl) (fun hh=>?_) (fun hh=>?_)) <;> (try replace hh:=vqs hh) <;> (try (exfalso;first | exact hh | omega))))
  refine jae (fun e H=>∃ (n : Nat) (a : Int) (out : List Pc),0 <= a /\ a <= w.length /\ w.length <= a + n /\ out.length <= a /\ e 0 = .sl false (l.map ruleD) /\ e 1 = isD w /\ VecAt 0 (e 5) H (out.map pcD) /\ e 6 = .int .i64 a /\ G = out ++ wordsL l w n a) (fun e H=>w.length - natOf (e 6)) ?_ ?_
  · exact ⟨w.length,0,[],by omega,by omega,by omega,by simp,gs,gs,VecAt.nil (by simp),gs,hG⟩
  clear hG
  rintro e H ⟨n,a,out,ha0,ha1,hn,ho1,e0,e1,hv,e6,hG⟩ R hR
  by_cases hb : a < w.length
  case neg=>
    have hz : wordsL l w n a = []:=by cases n <;> simp [wordsL,hb]
    rw [hz,List.append_nil] at hG
    subst hG
    repeat' (first | apply wz1|apply wz2|apply wz3|apply wz4|apply wz5|apply wz6 | simp -dsimp (maxSteps:=999999) (disch:=omega) only[go_sem,simprocAttr, *] | ((first | refine wz8 ?_ ?_|refine wz9 ?_ ?_|refine wz7 ?_ ?_)<;>intro hh <;> (try replace hh:=vqs hh) <;> (try (exfalso;first | exact hh | omega))))
    exact hv.out (jdv _)
  obtain ⟨n,rfl⟩ : ∃ x,n = x + 1:=⟨n - 1,by omega⟩
  rw [wordsL,if_pos hb] at hG
  obtain ⟨u,hu⟩ : ∃ u,u = w.drop a.toNat:=⟨_,rfl⟩
  have hul : (u.length : Int) = w.length - a:=by rw [hu,List.length_drop];omega
  have hrng:=jiF (u:=u) (a:=a) (b:=w.length) (by omega) l 0 (a + 1,-1) ⟨by simp only;omega,by simp only;omega⟩
  rw [<- hu] at hG
  generalize hS : ruleW u a l 0 (a + 1,-1) = S at hG hrng
  obtain ⟨st,sr⟩:=S
  simp only at hrng
  replace hG : Hid (G = out ++ (⟨a,st,sr⟩ :: wordsL l w n st)):=hG
  have hS0 : Hid ((st,sr) = ruleW u a (l.drop 0) (0 : Nat) (a + 1,-1)):=hS.symm
  clear hS
  have hsl : List.drop a.toNat (List.take w.length (w.map (D.int .i64))) = u.map (D.int .i64):=by rw [<- List.map_take,List.take_length,<- List.map_drop,hu]
  have hhd:=jba w
  clear hu
  obtain ⟨d5,hd5⟩ : ∃ d,d = e 5:=⟨_,rfl⟩
  rw [<- hd5] at hv
  have e5 : e 5 = d5:=hd5.symm
  clear hd5
  repeat' (first | apply wz1|apply wz2|apply wz3|apply wz4|apply wz5|apply wz6 | simp -dsimp (maxSteps:=999999) (disch:=omega) only[go_sem,simprocAttr, *] | ((first | refine wz8 ?_ ?_|refine wz9 ?_ ?_|refine wz7 ?_ ?_)<;>intro hh <;> (try replace hh:=vqs hh) <;> (try (exfalso;first | exact hh | omega))))
  refine jae (fun e Hx=>∃ (j : Nat) (t r : Int),j <= l.length /\ Same H.length H Hx /\ hget Hx H.length = .arr [.agg [.int .i64 a,.int .i64 t,.int .i64 r]] /\ H.length < Hx.length /\ e 0 = .sl false (l.map ruleD) /\ e 1 = isD w /\ e 5 = d5 /\ e 6 = .int .i64 a /\ e 7 = .ptr H.length 0 0 /\ e 8 = .int .i64 j /\ (st,sr) = ruleW u a (l.drop j) j (t,r) /\ a < t /\ t <= w.length) (fun e H=>l.length - natOf (e 8)) ?_ ?_
  · refine ⟨0,a + 1,-1,by omega,⟨by simp,fun k hk=>?_⟩,?_,by simp,gs,gs,gs,gs,gs,gs,hS0,by omega,by omega⟩
    · rw [jac (by omega)]
    · simp -dsimp (maxSteps:=999999) (disch:=omega) only[go_sem,simprocAttr, *]
  clear hS0
  rintro e' Hx ⟨j,t,r,hj,hsm,hgq,hql,e0,e1,e5,e6,e7,e8,hS,ht0,ht1⟩ R2 hR2
  by_cases hbj : j < l.length
  case neg=>
    rw [List.drop_eq_nil_of_le (by omega),ruleW] at hS
    obtain ⟨rfl,rfl⟩ : st = t /\ sr = r:=by cases hS;exact ⟨rfl,rfl⟩
    have hv2 : VecAt 0 d5 Hx (out.map pcD):=VecAt.keep hv hsm
    obtain ⟨d',H',hap,hv',hsm'⟩:=jjJ hv2 ⟨a,st,sr⟩ (by omega)
    replace hG : Hid (G = out ++ (⟨a,st,sr⟩ :: wordsL l w n st)):=hG
    have hk:=jr1 (k:=H.length) hap (by simpa [pcD] using jsz (H:=Hx) ⟨a,st,sr⟩) (fun r hr=>by
      rcases hv with ⟨_,⟨_,hd⟩ | ⟨_,r',_,hr',hd,_⟩⟩
      · rw [hd] at hr;cases hr
      · rw [hd] at hr;simp [objsD] at hr;omega) (by simp;omega)
    rw [jac hql,hgq] at hk
    clear hS hR2 hsm hv hv2
    repeat' (first | apply wz1|apply wz2|apply wz3|apply wz4|apply wz5|apply wz6 | simp -dsimp (maxSteps:=999999) (disch:=omega) only[go_sem,simprocAttr, *] | ((first | refine wz8 ?_ ?_|refine wz9 ?_ ?_|refine wz7 ?_ ?_)<;>intro hh <;> (try replace hh:=vqs hh) <;> (try (exfalso;first | exact hh | omega))))
    refine hR _ _ ⟨n,st,out ++ [⟨a,st,sr⟩],by omega,by omega,by omega,by simp;omega,gs,gs,?_,gs,?_⟩ ?_
    · show VecAt 0 d' H' _
      exact hv'
    · rw [show G = _ from hG];simp
    · simp -dsimp (maxSteps:=999999) (disch:=omega) only[go_sem,simprocAttr, *,jab]
  obtain ⟨ok1,ok2⟩:=ho l[j] (List.getElem_mem hbj)
  have hrg:=jgM hbj
  have hrx:=jdY l[j]
  have hst:=jaW l[j].rx
  rw [List.drop_eq_getElem_cons hbj,ruleW] at hS
  have he:=fun (H : Heap) (q : Nat) hq=>jvW u (by omega) (depth l[j].rx) l[j].rx ok1 (Nat.le_refl _) ok2 (startB u.length) (jcl _) H q hq
  have hel:=jaB u l[j].rx (startB u.length) (jcl _)
  have hir:=fun (s : Int × Int) (h : a < s.1 /\ s.1 <= w.length)=>jgE (E:=endsR u l[j].rx (startB u.length)) (k:=j) (a:=a) (b:=w.length) u.length s h (by omega)
  generalize endsR u l[j].rx (startB u.length) = E at *
  generalize l[j] = rj at *
  have hmk:=fun H=>jgt (n:=(w.length : Int) - a + 1) (H:=H) (by omega) (by omega)
  have hnat : ((w.length : Int) - a + 1).toNat = u.length + 1:=by omega
  simp only [hnat] at hmk
  have hF0 : (bsD (List.replicate (u.length + 1) false))[0]? = some (.bool false):=by simp [bsD,List.replicate_succ]
  have hF1 : (bsD (List.replicate (u.length + 1) false)).set 0 (.bool true) = bsD (startB u.length):=by simp [bsD,List.replicate_succ,startB]
  have hvs : vecSize (Hx ++ [Ob.arr (bsD (List.replicate (u.length + 1) false))]) Hx.length 1 = true:=jau (l:=List.replicate (u.length + 1) false) (by rw [jap];rfl) (by simp)
  have hcall:=he (Hx ++ [Ob.arr (bsD (startB u.length))]) Hx.length (by rw [jap];rfl)
  generalize bsD (List.replicate (u.length + 1) false) = F at *
  clear he
  have eu : isD u = .sl false (u.map (.int .i64)):=rfl
  rw [eu] at hcall
  have q1:=jbf rj.rx
  have q2:=jb4 rj.rx
  have q3:=jbw rj.rx
  rw [hrx] at hcall
  repeat' (first | apply wz1|apply wz2|apply wz3|apply wz4|apply wz5|apply wz6 | simp -dsimp (maxSteps:=999999) (disch:=omega) only[go_sem,simprocAttr, *] | ((first | refine wz8 ?_ ?_|refine wz9 ?_ ?_|refine wz7 ?_ ?_)<;>intro hh <;> (try replace hh:=vqs hh) <;> (try (exfalso;first | exact hh | omega))))
  refine jao (prs:=[]) (by kernel_rfl) rfl (by kernel_rfl) ?_;simp -dsimp (maxSteps:=999999) (disch:=omega) only[go_sem,simprocAttr, *]
  refine ⟨fun h=>absurd ((show (pureC A 23 || freshC A 23) = false by rfl).symm.trans h) (by decide),jag bo23 rfl rfl hcall ?_ (fun _ _ h=>h.elim)⟩
  rintro _ Hy ⟨hsame,p,hp,rfl,hX⟩
  have hy1 : Same H.length H Hy:=hsm.trans ((Same.app (L:=[Ob.arr (bsD (startB u.length))]) (Nat.le_refl _)).trans (hsame.le (by simp)) |>.le (by omega))
  have hy2 : hget Hy H.length = .arr [.agg [.int .i64 a,.int .i64 t,.int .i64 r]]:=by rw [hsame.2 _ (by simp;omega),jac hql,hgq]
  have hy3 : H.length < Hy.length:=by have:=hsame.1;simp at this;omega
  have hp2 : H.length < p:=by simp at hp;omega
  have hvx:=jau hX (by omega)
  have hS2 : Hid ((st,sr) = ruleW u a (l.drop (j + 1)) ((j + 1 : Nat) : Int) (innW E j a u.length (t,r))):=hS
  clear hsame hcall hsm hgq hql hS hF0 hF1 hvs hp hir
  repeat' (first | apply wz1|apply wz2|apply wz3|apply wz4|apply wz5|apply wz6 | simp -dsimp (maxSteps:=999999) (disch:=omega) only[go_sem,simprocAttr, *] | ((first | refine wz8 ?_ ?_|refine wz9 ?_ ?_|refine wz7 ?_ ?_)<;>intro hh <;> (try replace hh:=vqs hh) <;> (try (exfalso;first | exact hh | omega))))
  refine jae (fun e Hz=>∃ (m : Nat) (t r : Int),m <= u.length /\ Same H.length H Hz /\ hget Hz H.length = .arr [.agg [.int .i64 a,.int .i64 t,.int .i64 r]] /\ H.length < Hz.length /\ hget Hz p = .arr (bsD E) /\ e 0 = .sl false (l.map ruleD) /\ e 1 = isD w /\ e 5 = d5 /\ e 6 = .int .i64 a /\ e 7 = .ptr H.length 0 0 /\ e 8 = .int .i64 j /\ e 10 = .vec p 0 (u.length + 1) /\ e 11 = .int .i64 m /\ (st,sr) = ruleW u a (l.drop (j + 1)) ((j + 1 : Nat) : Int) (innW E j a m (t,r)) /\ a < t /\ t <= w.length) (fun e H=>natOf (e 11)) ?_ ?_
  · exact ⟨u.length,t,r,by omega,hy1,hy2,hy3,hX,gs,gs,gs,gs,gs,gs,gs,by rw [hul];simp -dsimp (maxSteps:=999999) (disch:=omega) only[go_sem,simprocAttr, *],hS2,by omega,by omega⟩
  clear hS2 hX hvx hy1 hy2 hy3 ht0 ht1
  have e8o:=e8
  clear e0 e1 e5 e6 e7 e8
  clear hmk q1 q2 q3
  rintro e2 Hz ⟨m,t,r,hm,z1,z2,z3,hX,e0,e1,e5,e6,e7,e8,e10,e11,hS,ht0,ht1⟩ R3 hR3
  have hvx:=jau hX (by omega)
  cases m with
  | zero=>
    rw [innW] at hS
    replace hS : Hid ((st,sr) = ruleW u a (l.drop (j + 1)) ((j + 1 : Nat) : Int) (t,r)):=hS
    repeat' (first | apply wz1|apply wz2|apply wz3|apply wz4|apply wz5|apply wz6 | simp -dsimp (maxSteps:=999999) (disch:=omega) only[go_sem,simprocAttr, *] | ((first | refine wz8 ?_ ?_|refine wz9 ?_ ?_|refine wz7 ?_ ?_)<;>intro hh <;> (try replace hh:=vqs hh) <;> (try (exfalso;first | exact hh | omega))))
    refine hR2 _ _ ⟨j + 1,t,r,by omega,z1,z2,z3,gs,gs,gs,gs,gs,gs,hS,ht0,ht1⟩ ?_
    simp -dsimp (maxSteps:=999999) (disch:=omega) only[go_sem,simprocAttr, *,jab]
  | succ m=>
    rw [innW] at hS
    have hEm:=bs_at (l:=E) (i:=m + 1) (by omega)
    have hEg : E.getD (m + 1) false = E[m + 1]:=by simp [List.getD,show m + 1 < E.length by omega]
    rw [hEg] at hS
    generalize E[m + 1] = x at *
    have w1 : H.length ≠ p:=by omega
    have fin : ∀ t r : Int,(hget (Hz.set H.length (.arr [.agg [.int .i64 a,.int .i64 t,.int .i64 r]])) H.length = .arr [.agg [.int .i64 a,.int .i64 t,.int .i64 r]]) /\ Same H.length H (Hz.set H.length (.arr [.agg [.int .i64 a,.int .i64 t,.int .i64 r]])) /\ hget (Hz.set H.length (.arr [.agg [.int .i64 a,.int .i64 t,.int .i64 r]])) p = .arr (bsD E):=fun t r=>⟨jad z3,z1.trans (Same.set (Nat.le_refl _)),by rw [jaa w1];exact hX⟩
    cases x with
    | false=>
      rw [if_neg (by simp)] at hS
      replace hS : Hid ((st,sr) = ruleW u a (l.drop (j + 1)) ((j + 1 : Nat) : Int) (innW E j a m (t,r))):=hS
      repeat' (first | apply wz1|apply wz2|apply wz3|apply wz4|apply wz5|apply wz6 | simp -dsimp (maxSteps:=999999) (disch:=omega) only[go_sem,simprocAttr, *] | ((first | refine wz8 ?_ ?_|refine wz9 ?_ ?_|refine wz7 ?_ ?_)<;>intro hh <;> (try replace hh:=vqs hh) <;> (try (exfalso;first | exact hh | omega))))
      refine hR3 _ _ ⟨m,t,r,by omega,z1,z2,z3,hX,gs,gs,gs,gs,gs,gs,gs,gs,hS,ht0,ht1⟩ ?_
      simp -dsimp (maxSteps:=999999) (disch:=omega) only[go_sem,simprocAttr, *,jab]
    | true=>
      rw [show ((m + 1 : Nat) : Int) = (m : Int) + 1 by omega] at hS
      by_cases hc : r < 0 ∨ t < a + ((m : Int) + 1)
      · rw [if_pos ⟨rfl,hc⟩] at hS
        replace hS : Hid ((st,sr) = ruleW u a (l.drop (j + 1)) ((j + 1 : Nat) : Int) (innW E j a m (a + ((m : Int) + 1),j))):=hS
        obtain ⟨f1,f2,f3⟩:=fin (a + ((m : Int) + 1)) j
        rcases hc with hc | hc
        all_goals
          repeat' (first | apply wz1|apply wz2|apply wz3|apply wz4|apply wz5|apply wz6 | simp -dsimp (maxSteps:=999999) (disch:=omega) only[go_sem,simprocAttr, *] | ((first | refine wz8 ?_ ?_|refine wz9 ?_ ?_|refine wz7 ?_ ?_)<;>intro hh <;> (try replace hh:=vqs hh) <;> (try (exfalso;first | exact hh | omega))))
          all_goals
            refine hR3 _ _ ⟨m,a + ((m : Int) + 1),j,by omega,by rw [List.set_set];exact f2,by rw [List.set_set];exact f1,by simpa using z3,by rw [List.set_set];exact f3,gs,gs,gs,gs,gs,gs,gs,gs,hS,by omega,by omega⟩ ?_
            simp -dsimp (maxSteps:=999999) (disch:=omega) only[go_sem,simprocAttr, *,jab]
      · rw [if_neg (fun h=>hc h.2)] at hS
        replace hS : Hid ((st,sr) = ruleW u a (l.drop (j + 1)) ((j + 1 : Nat) : Int) (innW E j a m (t,r))):=hS
        repeat' (first | apply wz1|apply wz2|apply wz3|apply wz4|apply wz5|apply wz6 | simp -dsimp (maxSteps:=999999) (disch:=omega) only[go_sem,simprocAttr, *] | ((first | refine wz8 ?_ ?_|refine wz9 ?_ ?_|refine wz7 ?_ ?_)<;>intro hh <;> (try replace hh:=vqs hh) <;> (try (exfalso;first | exact hh | omega))))
        refine hR3 _ _ ⟨m,t,r,by omega,z1,z2,z3,hX,gs,gs,gs,gs,gs,gs,gs,gs,hS,ht0,ht1⟩ ?_
        simp -dsimp (maxSteps:=999999) (disch:=omega) only[go_sem,simprocAttr, *,jab]
end Go.Proofs.W
end
section
namespace Go.Proofs.W
open Go Vm Go.Proofs.Zso
theorem jmY {d : Dfa} (hr : rightD d = true) (w : List Int) (f : Int) (h0 : 0 <= f) (h1 : f <= w.length) : longD d w f = match refA d 0 (w.drop f.toNat) (w.drop f.toNat).length with
    | none=>(-1,-1)
    | some m=>(f + m,ruleAt d (runD d 0 ((w.drop f.toNat).take m))):=by
  unfold longD
  rw [if_pos ⟨hr,h0,h1⟩,jj1 _ _ _ _ _ (by omega)]
  all_goals (cases refA d 0 (w.drop f.toNat) (w.drop f.toNat).length <;> rfl)
theorem jn6 {d : Dfa} (hr : rightD d = true) (w : List Int) (a : Nat) (f : Int) (h0 : 0 <= f) (h1 : f + a <= w.length) : longD d (w.drop a) f = if (longD d w (f + a)).1 < 0 then (-1,-1) else ((longD d w (f + a)).1 - a,(longD d w (f + a)).2):=by
  rw [jmY hr (w.drop a) f h0 (by rw [List.length_drop];omega),jmY hr w (f + a) (by omega) h1,List.drop_drop,show a + f.toNat = (f + a).toNat by omega]
  cases refA d 0 (w.drop (f + a).toNat) (w.drop (f + a).toNat).length with
  | none=>rfl
  | some m=>
    simp only
    rw [if_neg (by omega)]
    congr 1
    omega
end Go.Proofs.W
end
section
namespace Go.Proofs.W
open Go Vm Go.Proofs.Zso
theorem jxM {n : Nfa} {l : List Rx} (h : Pre n l) (w : List Int) (hr : ∀ r ∈ l,rightR r = true) {p : Nat} (hp : p <= w.length) {i s : Nat} {r : Rx} (hi : l[i]? = some r) (hs : (endsP l 1)[i]? = some s) : (s : Int) ∈ atN n (w.take p) ↔ at' (endsR w r (startB w.length)) p:=by
  have hsl : shapesL l = true:=by rw [jc3,List.all_eq_true];exact fun x hx=>(sizes hr x hx).2
  constructor
  · intro hm
    have hp:=jhR (n:=n) w p s hp hm
    have key : ∀ x y,Path n w x y -> x = (0,0) -> y = (0,0) ∨ GoodL w 3 l 1 (startB w.length) y.1 y.2:=by
      intro x y hp
      induction hp with
      | refl=>exact fun e=>.inl e
      | step _ g ih=>
        intro e
        rcases ih e with rfl | hg
        · obtain ⟨t,ht,rfl⟩:=jbJ h.s0 g
          exact .inr (jcO w 3 (by omega) l 1 ht (start_at.2 rfl))
        · exact .inr (jer l 1 _ _ _ _ h.fr hsl (jcl _) hg g)
    rcases key _ _ hp rfl with e | hg
    · have:=jci l 1 s (List.mem_of_getElem? hs)
      have : s = 0:=congrArg Prod.fst e
      omega
    · obtain ⟨r',k1,k2⟩:=jeW l 1 _ s p i hs hg
      rw [hi] at k1;cases k1
      exact k2
  · intro hh
    obtain ⟨x,g1,g2,g3⟩:=jhQ l 1 i r h.fr hi
    rw [hs] at g3
    cases g3
    obtain ⟨i0,k1,k2⟩:=sound n w r x _ _ g2 (sizes hr r (List.mem_of_getElem? hi)).2 (jcl _) hh
    rw [start_at] at k1
    subst k1
    have hp : Path n w (0,0) (endOf r x,p):=(Path.one (jbh h.s0 g1)).trans k2
    exact (jmC h.ok (by rw [h.k];omega) w _ _ hp rfl).2.2
theorem jun {n : Nfa} {l : List Rx} (h : Pre n l) (hr : ∀ r ∈ l,rightR r = true) (w : List Int) {p : Nat} (hp : p <= w.length) {r : Rx} (hm : r ∈ l) : (endsR w r (startB w.length)).getD p false = hasR (w.take p) r:=by
  obtain ⟨i,hi⟩:=List.getElem?_of_mem hm
  have hil : i < l.length:=by
    rcases Nat.lt_or_ge i l.length with h' | h'
    · exact h'
    · rw [List.getElem?_eq_none h'] at hi;cases hi
  obtain ⟨s,hs⟩ : ∃ s,(endsP l 1)[i]? = some s:=⟨_,List.getElem?_eq_getElem (by rw [jaK];exact hil)⟩
  have h1:=jxM h w hr hp hi hs
  have h2:=leads h hr (w.take p) hi hs
  rw [Bool.eq_iff_iff]
  exact h1.symm.trans h2
theorem jb2 (f : Nat -> Int) : ∀ (m : Nat),(lastP f m = (-1,-1) /\ ∀ n,1 <= n -> n <= m -> f n < 0) ∨ ∃ n,1 <= n /\ n <= m /\ 0 <= f n /\ lastP f m = ((n : Int),f n) /\ ∀ n',n < n' -> n' <= m -> f n' < 0
  | 0=>.inl ⟨rfl,fun n h1 h2=>by omega⟩
  | m + 1=>by
    rw [lastP]
    by_cases h : 0 <= f (m + 1)
    · rw [if_pos h]
      exact .inr ⟨m + 1,by omega,by omega,h,rfl,fun n' h1 h2=>by omega⟩
    · rw [if_neg h]
      rcases jb2 f m with ⟨h1,h2⟩ | ⟨n,h1,h2,h3,h4,h5⟩
      · exact .inl ⟨h1,fun n a b=>by
          by_cases e : n = m + 1
          · subst e;omega
          · exact h2 n a (by omega)⟩
      · exact .inr ⟨n,h1,by omega,h3,h4,fun n' a b=>by
          by_cases e : n' = m + 1
          · subst e;omega
          · exact h5 n' a (by omega)⟩
theorem jg6 {f : Nat -> Int} {m : Nat} (h : ∀ n,1 <= n -> n <= m -> f n < 0) : lastP f m = (-1,-1):=by
  rcases jb2 f m with ⟨h1,_⟩ | ⟨n,h1,h2,h3,_,_⟩
  · exact h1
  · have:=h n h1 h2;omega
theorem jgs {f : Nat -> Int} {m n : Nat} (h1 : 1 <= n) (h2 : n <= m) (h3 : 0 <= f n) (h4 : ∀ n',n < n' -> n' <= m -> f n' < 0) : lastP f m = ((n : Int),f n):=by
  rcases jb2 f m with ⟨_,g⟩ | ⟨k,k1,k2,k3,k4,k5⟩
  · have:=g n h1 h2;omega
  · rcases Nat.lt_trichotomy n k with h | h | h
    · have:=h4 k h k2;omega
    · rw [k4,h]
    · have:=k5 n h h2;omega
theorem jdH {E : List Bool} {k a : Int} : ∀ (m : Nat) (s : Int × Int),(∀ n : Nat,1 <= n -> n <= m -> E.getD n false = true -> 0 <= s.2 /\ a + n <= s.1) -> innW E k a m s = s
  | 0,s,_=>rfl
  | m + 1,s,h=>by
    rw [innW,if_neg,jdH m s fun n h1 h2=>h n h1 (by omega)]
    rintro ⟨h1,h2⟩
    have:=h (m + 1) (by omega) (by omega) h1
    omega
theorem jfs {E : List Bool} {k a : Int} (hk : 0 <= k) {N : Nat} (h1 : 1 <= N) (hE : E.getD N false = true) : ∀ (m : Nat) (s : Int × Int),N <= m -> (s.2 < 0 ∨ s.1 < a + N) -> (∀ n : Nat,N < n -> n <= m -> E.getD n false = false) -> innW E k a m s = (a + N,k)
  | 0,s,h,_,_=>by omega
  | m + 1,s,h,hc,hn=>by
    rw [innW]
    by_cases e : N = m + 1
    · subst e
      rw [if_pos ⟨hE,hc⟩,jdH]
      exact fun n a1 a2 _=>⟨hk,by simp only;omega⟩
    · rw [if_neg (by rw [hn (m + 1) (by omega) (by omega)];simp)]
      exact jfs hk h1 hE m s (by omega) hc fun n a1 a2=>hn n a1 (by omega)
def repW (a : Int) (x : Int × Int) : Int × Int:=if x.1 < 0 then (a + 1,-1) else (a + x.1,x.2)
theorem jvB {E : List Bool} {k a : Int} (hk : 0 <= k) {M : Nat} {F F' : Nat -> Int} (hF : ∀ n,1 <= n -> n <= M -> F' n = if 0 <= F n then F n else if E.getD n false = true then k else -1) : innW E k a M (repW a (lastP F M)) = repW a (lastP F' M):=by
  rcases jb2 F M with ⟨h1,h2⟩ | ⟨x,h1,h2,h3,h4,h5⟩
  · rw [h1]
    rcases jb2 (fun n=>if E.getD n false = true then k else -1) M with ⟨g1,g2⟩ | ⟨N,g1,g2,g3,g4,g5⟩
    · rw [jdH,jg6]
      · intro n a1 a2
        have:=g2 n a1 a2
        rw [hF n a1 a2,if_neg (by have:=h2 n a1 a2;omega)]
        exact this
      · intro n a1 a2 hE
        have:=g2 n a1 a2
        try simp only at this
        rw [if_pos hE] at this
        omega
    · have hE : E.getD N false = true:=by
        try simp only at g3
        cases hq : E.getD N false with
        | true=>rfl
        | false=>rw [hq] at g3;simp at g3
      have hN : F' N = k:=by rw [hF N g1 g2,if_neg (by have:=h2 N g1 g2;omega),if_pos hE]
      rw [jfs hk g1 hE M _ g2 (.inl (by simp [repW])),jgs g1 g2 (by rw [hN];exact hk),hN]
      · simp only [repW];rw [if_neg (by omega)]
      · intro n a1 a2
        have:=g5 n a1 a2
        rw [hF n (by omega) a2,if_neg (by have:=h2 n (by omega) a2;omega)]
        exact this
      · intro n a1 a2
        have:=g5 n a1 a2
        try simp only at this
        cases hq : E.getD n false with
        | false=>rfl
        | true=>rw [if_pos hq] at this;omega
  · rw [h4]
    have hr0 : repW a ((x : Int),F x) = (a + x,F x):=by simp only [repW];rw [if_neg (by omega)]
    rw [hr0]
    rcases jb2 (fun n=>if x < n /\ E.getD n false = true then k else -1) M with ⟨g1,g2⟩ | ⟨N,g1,g2,g3,g4,g5⟩
    · have hx : F' x = F x:=by rw [hF x h1 h2,if_pos h3]
      rw [jdH,jgs h1 h2 (by rw [hx];exact h3),hx,hr0]
      · intro n a1 a2
        have:=g2 n (by omega) a2
        try simp only at this
        rw [hF n (by omega) a2,if_neg (by have:=h5 n a1 a2;omega)]
        split
        · rename_i hE;rw [if_pos ⟨a1,hE⟩] at this;exact this
        · omega
      · intro n a1 a2 hE
        have:=g2 n a1 a2
        try simp only at this
        refine ⟨h3,?_⟩
        by_cases hxn : x < n
        · rw [if_pos ⟨hxn,hE⟩] at this;omega
        · simp only;omega
    · have hE : x < N /\ E.getD N false = true:=by
        try simp only at g3
        by_cases hq : x < N /\ E.getD N false = true
        · exact hq
        · rw [if_neg hq] at g3;omega
      have hN : F' N = k:=by rw [hF N g1 g2,if_neg (by have:=h5 N hE.1 g2;omega),if_pos hE.2]
      rw [jfs hk g1 hE.2 M _ g2 (.inr (by simp only;omega)),jgs g1 g2 (by rw [hN];exact hk),hN]
      · simp only [repW];rw [if_neg (by omega)]
      · intro n a1 a2
        have:=g5 n a1 a2
        try simp only at this
        rw [hF n (by omega) a2,if_neg (by have:=h5 n (by omega) a2;omega)]
        split
        · rename_i hq;rw [if_pos ⟨by omega,hq⟩] at this;exact this
        · omega
      · intro n a1 a2
        have:=g5 n a1 a2
        try simp only at this
        cases hq : E.getD n false with
        | false=>rfl
        | true=>rw [if_pos ⟨by omega,hq⟩] at this;omega
theorem jj0 {u : List Int} {a : Int} : ∀ (l : List Rule) (k : Nat) (F F' : Nat -> Int),(∀ r ∈ l,∀ n,n <= u.length -> (endsR u r.rx (startB u.length)).getD n false = hasR (u.take n) r.rx) -> (∀ n,1 <= n -> n <= u.length -> F' n = if 0 <= F n then F n else firstZ (u.take n) (l.map Rule.rx) k) ->
    (∀ n,1 <= n -> n <= u.length -> -1 <= F n) -> ruleW u a l k (repW a (lastP F u.length)) = repW a (lastP F' u.length)
  | [],k,F,F',hE,hF,hm=>by
    rw [ruleW]
    have : ∀ m,m <= u.length -> lastP F m = lastP F' m:=fun m=>by
      induction m with
      | zero=>intro _;rfl
      | succ m ih=>
        intro hm2
        have h1:=hF (m + 1) (by omega) hm2
        have h2:=hm (m + 1) (by omega) hm2
        rw [List.map_nil,firstZ] at h1
        have : F' (m + 1) = F (m + 1):=by rw [h1];split <;> omega
        rw [lastP,lastP,this,ih (by omega)]
    rw [this _ (Nat.le_refl _)]
  | r :: l,k,F,F',hE,hF,hm=>by
    rw [ruleW]
    have h1:=jvB (E:=endsR u r.rx (startB u.length)) (k:=(k : Int)) (a:=a) (by omega) (M:=u.length) (F:=F) (F':=fun n=>if 0 <= F n then F n else if (endsR u r.rx (startB u.length)).getD n false = true then (k : Int) else -1) (fun n _ _=>rfl)
    rw [h1]
    have h2:=jj0 (u:=u) (a:=a) l (k + 1) (fun n=>if 0 <= F n then F n else if (endsR u r.rx (startB u.length)).getD n false = true then (k : Int) else -1) F' (fun r hr=>hE r (List.mem_cons_of_mem _ hr)) (fun n a1 a2=>by
      rw [hF n a1 a2,List.map_cons,firstZ,hE r List.mem_cons_self n a2]
      by_cases c1 : 0 <= F n
      · rw [if_pos c1,if_pos c1,if_pos c1]
      · rw [if_neg c1,if_neg c1]
        by_cases c2 : hasR (u.take n) r.rx = true
        · rw [if_pos c2,if_pos c2,if_pos (by omega)]
        · rw [if_neg c2,if_neg c2,if_neg (by omega)]) (fun n a1 a2=>by
      show -1 <= (if 0 <= F n then F n else if (endsR u r.rx (startB u.length)).getD n false = true then (k : Int) else -1)
      split
      · omega
      · split <;> omega)
    exact h2
theorem jiQ {d : Dfa} (hr : rightD d = true) (ht : tyM d) (l : List Rule) (w : List Int) (hM : ∀ v : List Int,matchD d v = firstZ v (l.map Rule.rx) 0) (hE : ∀ u : List Int,∀ r ∈ l,∀ n,n <= u.length -> (endsR u r.rx (startB u.length)).getD n false = hasR (u.take n) r.rx) : ∀ (n : Nat) (a : Int),0 <= a -> wordsL l w n a = cutL d w n a
  | 0,a,_=>rfl
  | n + 1,a,h0=>by
    rw [wordsL,cutL]
    by_cases hb : a < w.length
    · rw [if_pos hb,if_pos hb]
      have hsh:=jn6 hr w a.toNat 0 (by omega) (by omega)
      rw [jp6 hr ht,show (0 : Int) + (a.toNat : Int) = a by omega] at hsh
      have hlc:=jee d w a h0 (by omega)
      have hrep : ruleW (w.drop a.toNat) a l 0 (a + 1,-1) = repW a (lastP (fun m=>matchD d ((w.drop a.toNat).take m)) (w.drop a.toNat).length):=by
        have:=jj0 (u:=w.drop a.toNat) (a:=a) l 0 (fun _=>-1) (fun m=>matchD d ((w.drop a.toNat).take m)) (hE _) (fun n _ _=>by rw [hM,if_neg (by omega)]) (fun n _ _=>by omega)
        rw [<- this,jg6 (fun n _ _=>by omega)]
        rfl
      rw [hrep,hsh]
      generalize longD d w a = x at hlc
      obtain ⟨x,y⟩:=x
      simp only at hlc ⊢
      have key : repW a (if x < 0 then (-1,-1) else (x - (a.toNat : Int),y)) = (if x < 0 then a + 1 else x,y):=by
        by_cases hx : x < 0
        · have hy : y = -1:=by omega
          subst hy
          rw [if_pos hx,if_pos hx];rfl
        · rw [if_neg hx,if_neg hx]
          simp only [repW]
          rw [if_neg (by omega)]
          congr 1
          omega
      rw [key]
      congr 1
      exact jiQ hr ht l w hM hE n _ (by split <;> omega)
    · rw [if_neg hb,if_neg hb]
end Go.Proofs.W
end
section
namespace Go.Proofs.W
open Go Vm Go.Proofs.Zso
theorem jd5 {l : List Rx} {d : Dfa} (h : dbuild l = (d,0)) : rightD d = true /\ tyM d /\ (∀ v,matchD d v = firstZ v l 0) /\ (∃ n,Pre n l) /\ (∀ r ∈ l,rightR r = true) /\ l.length <= 16:=by
  unfold dbuild at h
  cases hb : buildN l with
  | none=>rw [hb] at h;simp at h
  | some n=>
    rw [hb] at h
    simp only at h
    cases hq : runB n 202 0 [clos n [0]] [] with
    | none=>rw [hq] at h;simp at h
    | some p=>
      obtain ⟨ls,nx⟩:=p
      rw [hq] at h
      simp only [Prod.mk.injEq,and_true] at h
      subst h
      obtain ⟨-,-,g3,g4⟩:=jfP hb
      have hrr:=jaX g3
      obtain ⟨k1,k2⟩:=jie _ _ _ _ _ _ (jix (jiy (by omega))) (by simp) hq
      obtain ⟨hp,hrt⟩:=joz hb
      exact ⟨jjW g3 k1 k2,mk_ty k1,fun w=>(jsa g3 k1 k2 w).trans (jlC hp hrt g3 w),⟨n,hp⟩,hrt,g4⟩
theorem jsR {l : List Rule} {d m : Dfa} (h : dbuild (l.map Rule.rx) = (d,0)) (hm : rightD m = true) (ht : tyM m) (hs : ∀ w,matchD m w = matchD d w) (w : List Int) (n : Nat) (a : Int) (h0 : 0 <= a) : wordsL l w n a = cutL m w n a:=by
  obtain ⟨-,-,h3,⟨nf,h4⟩,h5,-⟩:=jd5 h
  refine jiQ hm ht l w (fun v=>(hs v).trans (h3 v)) (fun u r hr k hk=>?_) n a h0
  exact jun h4 h5 u hk (List.mem_map_of_mem hr)
end Go.Proofs.W
end
section
namespace Vm
open Go
section
variable {P : Program}
theorem jri {t : TypeId} {ds : List D} (hu : P.underlying t = some .string) (h : Typed P t ds) : ∃ s,ds = [.str s] /\ s.length <= maxLen:=by
  cases h with
  | bool _ b h=>rw [hu] at h;cases h
  | int _ k1 n h hn=>rw [hu] at h;cases h
  | str _ s h hs=>exact ⟨s,rfl,hs⟩
  | slice _ e xs h hl hx=>rw [hu] at h;cases h
  | struct _ fs ds h hf=>rw [hu] at h;cases h
  | array _ e n ds h hf=>rw [hu] at h;cases h
theorem jne {t : TypeId} {ds : List D} (hu : P.underlying t = some .bool) (h : Typed P t ds) : ∃ b,ds = [.bool b]:=by
  cases h with
  | bool _ b h=>exact ⟨b,rfl⟩
  | int _ k1 n h hn=>rw [hu] at h;cases h
  | str _ s h hs=>rw [hu] at h;cases h
  | slice _ e xs h hl hx=>rw [hu] at h;cases h
  | struct _ fs ds h hf=>rw [hu] at h;cases h
  | array _ e n ds h hf=>rw [hu] at h;cases h
theorem jbA {t : TypeId} {ts : List TypeId} {ds : List D} (h : TypedF P (t :: ts) ds) : ∃ a b,ds = a ++ b /\ Typed P t a /\ TypedF P ts b:=by
  cases h with
  | cons _ _ a b h hr=>exact ⟨a,b,rfl,h,hr⟩
theorem jn9 {e : TypeId} {xs : List D} (ha : aggT P e = false) (h : TypedE P e xs) {α : Type} (f : α -> D) (hf : ∀ x,Typed P e [x] -> ∃ a,x = f a) : ∃ l : List α,xs = l.map f:=by
  induction xs with
  | nil=>exact ⟨[],rfl⟩
  | cons x xs ih=>
    cases h with
    | agg _ cs _ ha' h hr=>rw [ha] at ha';cases ha'
    | one _ _ _ ha' h hr=>
      obtain ⟨l,hl⟩:=ih hr
      obtain ⟨a,hb⟩:=hf x h
      exact ⟨a :: l,by rw [List.map_cons,<- hl,hb]⟩
theorem jfN {e : TypeId} {xs : List D} (ha : aggT P e = true) (h : TypedE P e xs) {α : Type} (f : α -> D) (q : α -> Prop) (hf : ∀ cs,SizeOf.sizeOf cs < SizeOf.sizeOf xs -> Typed P e cs -> ∃ a,D.agg cs = f a /\ q a) : ∃ l : List α,xs = l.map f /\ ∀ a ∈ l,q a:=by
  induction xs with
  | nil=>exact ⟨[],rfl,by simp⟩
  | cons x xs ih=>
    cases h with
    | agg _ cs _ ha' h hr=>
      obtain ⟨l,hl,hq⟩:=ih hr (fun cs hc=>hf cs (by simp only [List.cons.sizeOf_spec];omega))
      obtain ⟨a,hb,hqa⟩:=hf cs (by simp only [List.cons.sizeOf_spec,D.agg.sizeOf_spec];omega) h
      refine ⟨a :: l,by rw [List.map_cons,<- hl,hb],fun y hy=>?_⟩
      rcases List.mem_cons.1 hy with rfl | hy
      · exact hqa
      · exact hq y hy
    | one _ _ _ ha' h hr=>rw [ha] at ha';cases ha'
theorem typedA_slice {t e : TypeId} {ts : List TypeId} {ds : List D} (hu : P.underlying t = some (.slice e)) (ha : aggT P t = false) (h : TypedA P (t :: ts) ds) : ∃ xs r,ds = .sl false xs :: r /\ xs.length <= maxLen /\ TypedE P e xs /\ TypedA P ts r:=by
  obtain ⟨d,r,rfl,h1,h2⟩:=jon ha h
  obtain ⟨s,hs,hl,hx⟩:=jfW hu h1
  cases hs
  exact ⟨s,r,rfl,hl,hx,h2⟩
theorem typedE_ints {e : TypeId} {k : IntKind} {xs : List D} (hu : P.underlying e = some (.int k)) (ha : aggT P e = false) (h : TypedE P e xs) : ∃ l : List Int,xs = l.map (.int k):=
  jn9 ha h _ fun x hx=>by
    obtain ⟨n,hn,-⟩:=jfe hu hx
    cases hn
    exact ⟨n,rfl⟩
end
theorem law_lifted {C : Checked} {os : Os} {f : FuncId} {fn : Func} {s : ChangeSpec} {H : Type} {enc : TypeId × Value -> H} {conds : List PathCond} {laid : List (String × DataW Unit)} {A : Ann} {S : List TypeId} {tb : TypeId}
    (started : os.Started) (own : ownKnob C.prog.godebug = none) (noInit : C.prog.inits.idxOf? f = none) (hfn : C.prog.funcs[f]? = some fn)
    (witness : ∃ (w : World) (tape : Tape) (i : Input),w.os = os /\ (w.forCall tape i).Shaped C.prog /\ i.vars = [] /\ Input.okWide C.prog (w.forCall tape i) .any w.heap.size f i /\
      ((s.pre enc C.prog fn conds false (w.forCall tape i).memory i.args /\ laidMetH C.prog laid (w.forCall tape i).memory) /\ sizedMet enc C.prog fn (OpenSpec.ofChange s) false (w.forCall tape i).memory i.args) /\ ({} : Assume).holds C.prog (lone (Frame.enter C.prog f i.args .normal) [] (w.forCall tape i)))
    (hvars : s.vars = []) (hl : laidOutB C.prog = true)
    (hts : (fn.params.toList.all fun t=>C.prog.readableRec t && decide (t < C.prog.types.size)) = true) (hS : plainS C.prog S = true) (hpl : (fn.params.toList.all fun t=>S.contains t) = true)
    (hbod : bodied C.prog f = true) (hres : fn.resultTypes = #[tb]) (htb : C.prog.underlying tb = some .bool)
    (hs : ∀ ds : List (DataW H),ds.length = fn.params.size -> (s.fn H ds).results = [.lit (.bool true)] /\ (s.fn H ds).args = ds /\ (s.fn H ds).vars = [])
    (hprim : ∀ W : World,W.ShapedOpen C.prog -> @PrimOk ⟨im0 W⟩ C.prog A)
    (hrun : ∀ Ds,TypedA C.prog fn.params.toList Ds -> ∃ k H',runF C.prog A k f Ds [] = some (.ok (.bool true) H')) :
    ReturnsInHanded {} C os f .any (fun w args=>(s.pre enc C.prog fn conds false w args /\ laidMetH C.prog laid w) /\ sizedMet enc C.prog fn (OpenSpec.ofChange s) false w args) (s.post enc C.prog fn false true false false):=by
  refine returnsInHanded_of_calls own started noInit witness ?_
  intro w tape i _ hsh _ hok hpre hholds
  obtain ⟨_,_,_,fn',hfn',_,_,_,_,hval⟩:=hok
  have e : fn' = fn:=Option.some.inj (hfn'.symm.trans hfn)
  subst e
  obtain ⟨⟨⟨ds,gs,before,hw,hc⟩,hx⟩,hz⟩:=hpre
  have hw':=DataW.Whole.of_heap (w':=w.forCall tape i) (by rfl) hw
  have hts' : ∀ t ∈ fn'.params.toList,C.prog.readableRec t = true /\ t < C.prog.types.size:=fun t ht=>by
    have h2 : C.prog.readableRec t = true /\ decide (t < C.prog.types.size) = true:=by simpa only [Bool.and_eq_true] using List.all_eq_true.1 hts t ht
    exact ⟨h2.1,of_decide_eq_true h2.2⟩
  refine (jjS hvars hl hts' hS hpl hbod hres htb hs hrun (w.forCall tape i) w.heap.size i.args ds gs before hval hw' (hprim _ hsh)).mono fun e W' ⟨v,he,hp⟩=>?_
  subst he
  exact ChangeSpec.post_blind hp
end Vm
end
section
namespace Go.Proofs.W
open Go Vm Go.Proofs.Zso
theorem jmx {n : Int} (h : (Lit.int .u16 n).wf = true) : 0 <= n /\ n < 65536:=by simp [Lit.wf,IntKind.min,IntKind.max,IntKind.signed,IntKind.bits] at h;omega
theorem ftRx : fieldTs Tryz.prog 46 = some [5,43,44]:=by kernel_rfl
theorem aggRx : aggT Tryz.prog 46 = true:=by kernel_rfl
mutual
def tyR : Rx -> Prop
  | .mk k s l=>0 <= k /\ k < 256 /\ 0 <= s /\ s < 65536 /\ tyL l
def tyL : List Rx -> Prop
  | []=>True
  | r :: l=>tyR r /\ tyL l
end
theorem jp3 : ∀ {l : List Rx},(∀ r ∈ l,tyR r) -> tyL l
  | [],_=>trivial
  | r :: l,h=>⟨h r (by simp),jp3 fun x hx=>h x (by simp [hx])⟩
theorem jmv : ∀ {l : List Rx},tyL l -> ∀ r ∈ l,tyR r
  | r :: l,h,x,hx=>by
    rcases List.mem_cons.1 hx with rfl | hx
    · exact h.1
    · exact jmv h.2 x hx
theorem jp5 : ∀ {l : List Rx},(∀ r ∈ l,okR r) -> okL l
  | [],_=>trivial
  | r :: l,h=>⟨h r (by simp),jp5 fun x hx=>h x (by simp [hx])⟩
theorem jl4 : ∀ (m : Nat) (r : Rx),tyR r -> greatR m r = false -> okR r:=by
  intro m
  induction m with
  | zero=>rintro ⟨k,s,l⟩ _ h;simp [greatR] at h
  | succ m ih=>
    rintro ⟨k,s,l⟩ ⟨h1,h2,h3,h4,h5⟩ h
    simp only [greatR,Bool.or_eq_false_iff,decide_eq_false_iff_not] at h
    exact ⟨h1,h2,h3,h4,by omega,jp5 fun r hr=>ih r (jmv h5 r hr) (by simpa using List.any_eq_false.1 h.2 r hr)⟩
theorem wf_u8 {n : Int} (h : (Lit.int .u8 n).wf = true) : 0 <= n /\ n < 256:=by simp [Lit.wf,IntKind.min,IntKind.max,IntKind.signed,IntKind.bits] at h;omega
theorem jlB : ∀ (n : Nat) (cs : List D),SizeOf.sizeOf cs < n -> Typed Tryz.prog 46 cs -> ∃ r : Rx,D.agg cs = rxD r /\ tyR r:=by
  intro n
  induction n with
  | zero=>intro cs h;omega
  | succ n ih=>
    intro cs hn h
    have hf0:=jft ftRx h
    obtain ⟨a,b,rfl,ha,hf1⟩:=jbA hf0
    obtain ⟨k,rfl,hk⟩:=jfe un5 ha
    obtain ⟨a,b2,rfl,ha,hf2⟩:=jbA hf1
    obtain ⟨s,rfl,hs⟩:=jfe un43 ha
    obtain ⟨a,b,rfl,ha,hf3⟩:=jbA hf2
    obtain ⟨xs,rfl,hl,hx⟩:=jfW un44 ha
    cases jhn hf3
    simp only [List.cons_append,List.nil_append,List.append_nil,List.cons.sizeOf_spec,D.sl.sizeOf_spec] at hn
    obtain ⟨l,rfl,hq⟩:=jfN aggRx hx rxD tyR fun cs hc ht=>ih cs (by omega) ht
    refine ⟨.mk k s l,by rw [rx_mk,jcI];rfl,(wf_u8 hk).1,(wf_u8 hk).2,(jmx hs).1,(jmx hs).2,jp3 hq⟩
end Go.Proofs.W
end
