/- Texts that stand behind this claim, one after the other. -/
import Derived.Test.YtiaonafhegbhjaaGreatDoorM6
import Derived.Test.YtiaonafhegbhjaaGreatDoorM10
import Derived.Test.YtiaonafhegbhjaaGreatDoorM9
set_option maxHeartbeats 4000000
set_option linter.unusedVariables false
set_option linter.unusedSimpArgs false
section
namespace Go.Proofs.W
open Go Vm Go.Proofs.Zso
abbrev YesM (f : FuncId) (args : List D) : Prop:=EvF Tryz.prog Am f args [] (fun d _=>d = .bool true) (fun _ _=>False)
theorem run_of_yesM {f : FuncId} {args : List D} (h : YesM f args) : ∃ k H',runF Tryz.prog Am k f args [] = some (.ok (.bool true) H'):=by
  obtain ⟨k,r,h1,h2⟩:=h
  cases r with
  | pan d H=>exact h2.elim
  | ok d H=>exact ⟨k,H,by rw [h1,show d = .bool true from h2]⟩
theorem jgv {d : Dfa} {w : List Int} : ∀ (n : Nat) (a : Int),(cutL d w n a).length <= n
  | 0,a=>by simp [cutL]
  | n + 1,a=>by
    rw [cutL]
    split
    · have:=jgv (d:=d) (w:=w) n (if (longD d w a).1 < 0 then a + 1 else (longD d w a).1)
      simp only [List.length_cons];omega
    · simp
theorem jiA {d : Dfa} {w : List Int} : ∀ (n : Nat) (a : Int),0 <= a -> a <= w.length -> w.length <= a + n -> wholeB a (cutL d w n a) w.length = true
  | 0,a,h0,h1,h2=>by simp [cutL,wholeB];omega
  | n + 1,a,h0,h1,h2=>by
    rw [cutL]
    have hlc:=jee d w a h0 h1
    split
    · have hz : a < (if (longD d w a).1 < 0 then a + 1 else (longD d w a).1) /\ (if (longD d w a).1 < 0 then a + 1 else (longD d w a).1) <= w.length:=by split <;> omega
      generalize (if (longD d w a).1 < 0 then a + 1 else (longD d w a).1) = z at hz
      simp only [wholeB,decide_true,hz.1,Bool.true_and]
      exact jiA n z (by omega) hz.2 (by omega)
    · simp [wholeB];omega
theorem jlw {l : List Rule} (hg : greatG l = false) (ht : ∀ r ∈ l,tyR r.rx) : l.length <= 20 /\ ∀ r ∈ l,okR r.rx /\ r.nm.length <= 100:=by
  simp only [greatG,Bool.or_eq_false_iff,decide_eq_false_iff_not] at hg
  refine ⟨by omega,fun r hr=>?_⟩
  have:=List.any_eq_false.1 hg.2 r hr
  simp only [Bool.or_eq_true,decide_eq_true_eq,not_or,Bool.not_eq_true] at this
  exact ⟨jl4 20 r.rx (ht r hr) this.2,by omega⟩
theorem jvu {a l : List Rule} (h : mayAll a l = true) : ∀ r ∈ l,rightR r.rx = true:=by
  induction l generalizing a with
  | nil=>intro r hr;cases hr
  | cons x l ih=>
    simp only [mayAll,mayZ,Bool.and_eq_true] at h
    intro r hr
    rcases List.mem_cons.1 hr with rfl | hr
    · exact h.1.1.2
    · exact ih h.2 r hr
theorem jje {l : List Rule} (h : rightG l = true) : 1 <= l.length /\ l.length <= 16 /\ ∀ r ∈ l,rightR r.rx = true:=by
  simp only [rightG,Bool.and_eq_true,decide_eq_true_eq] at h
  exact ⟨h.1.1,h.1.2,jvu h.2⟩
theorem jd1 : ∀ (l : List Rx) (i : Nat) (n : Nfa),(∀ r ∈ l,rightR r = true) -> ∃ m,buildFrom i l n = some m
  | [],i,n,_=>⟨n,by rw [buildFrom]⟩
  | r :: l,i,n,h=>by
    rw [buildFrom,if_pos (h r List.mem_cons_self)]
    exact jd1 l _ _ fun x hx=>h x (List.mem_cons_of_mem _ hx)
theorem jkc {l : List Rule} (h : rightG l = true) : (∃ d,dbuild (l.map Rule.rx) = (d,0)) ∨ dbuild (l.map Rule.rx) = (⟨[],[]⟩,7):=by
  obtain ⟨h1,h2,h3⟩:=jje h
  obtain ⟨n,hn⟩:=jd1 (l.map Rule.rx) 0 (addState emptyN) (fun r hr=>by
    obtain ⟨x,hx,rfl⟩:=List.mem_map.1 hr
    exact h3 x hx)
  have hb : buildN (l.map Rule.rx) = some n:=by rw [buildN,if_pos ⟨by simpa using h1,by simpa using h2⟩,hn]
  unfold dbuild
  rw [hb]
  simp only
  cases runB n 202 0 [clos n [0]] [] with
  | none=>exact .inr rfl
  | some x=>exact .inl ⟨_,rfl⟩
theorem jva {l : List Rule} {d : Dfa} (hl : l.length <= 16) (ho : ∀ r ∈ l,okR r.rx) (hd : dbuild (l.map Rule.rx) = (d,0)) (w : List Int) (hw : w.length <= 14) {H : Heap} {p : Nat} (h : Cells H p (scC (rulesD l) 0 0 (.sl true []) (.sl true []) 0 0)) :
    EvF Tryz.prog Am 9 [.ptr p 0 0,isD w] H (fun x _=>x = .tup [pcsD (cutL (smallM d) w w.length 0),.int .i64 0]) (fun _ _=>False):=by
  obtain ⟨dr,dt,-⟩:=jd5 hd
  obtain ⟨mr,mt,-⟩:=jfQ dr dt
  change rightD (smallM d) = true at mr
  change tyM (smallM d) at mt
  have hB:=jfa (l.map Rule.rx) (fun _ r hr=>by
    obtain ⟨x,hx,rfl⟩:=List.mem_map.1 hr
    exact ho x hx) (by simp;omega)
  have hS:=jnE d dt dr
  have hdD : dbD (dbuild (l.map Rule.rx)) = .tup [dfaD d,.int .i64 0]:=by rw [hd];rfl
  rw [hdD] at hB
  have hrx : rxsD (l.map Rule.rx) = .sl false ((l.map Rule.rx).map rxD):=by rw [rxsD,jcI]
  rw [hrx] at hB
  have hml:=jaA mr
  have hC:=jvs (smallM d) w mt (by omega) (by omega) (by omega)
  rw [mr,if_pos rfl] at hC
  have hmn : (smallM d).next ≠ []:=fun h=>by
    have:=congrArg List.length h
    simp only [List.length_nil] at this
    omega
  have hmr : (smallM d).rule ≠ []:=fun h=>by
    have:=congrArg List.length h
    simp only [List.length_nil] at this
    omega
  generalize smallM d = m at *
  have hO : ∀ H,Cells H p (scC (rulesD l) 0 0 (.sl true []) (.sl true []) 0 0) -> EvF Tryz.prog Am 32 [.ptr p 0 1,.bfn 33 [.ptr p 0 0]] H (fun _ H'=>Cells H' p (scC (rulesD l) 1 0 (.sl false (m.next.map rowD)) (.sl false (m.rule.map (.int .i64))) 0 0) /\ Kp1 p H H') (fun _ _=>False):=fun H h=>by
    have:=jgl (l:=l) (d:=d) (m:=m) (e:=0) (by omega) (fun H H' v K Kp hp k=>jis (A:=A) bo51 (by rfl) (by rfl) hp hB (by rw [show flat (D.tup [dfaD d,.int .i64 0]) = false from rfl];exact k)) (fun _ H K Kp k=>jbe (A:=A) bo52 (by rfl) (by rfl) (jdq d) hS k) h
    exact EvF.mono this (fun _ _ hh=>by simpa [rowsD,isD] using hh) (fun _ _ hh=>hh)
  have hM:=jj7 h hO (by show (stripL [rowsD m.next]).isSome = true;rw [jaH (jgg m.next)];rfl) (by show (stripL [isD m.rule]).isSome = true;rw [jaH (jaJ m.rule)];rfl) (g1:=false) (g2:=false) (y1:=m.next.map rowD) (y2:=m.rule.map (.int .i64))
    (fun H K Kp k=>jfh bo34 (by rfl) (jic (by simpa using hmn) (jcy _) (jh5 mt) (by simp;omega) _) k) (fun H K Kp k=>jfh bo35 (by rfl) (jic (by simpa using hmr) (jaM _) (jba _) (by simp;omega) _) k)
  have hlen:=jgv (d:=m) (w:=w) w.length 0
  have a1:=jaS m
  have a2:=jaT m
  have a3:=ja5 m
  generalize cutL m w w.length 0 = P at *
  have hsc:=jb7 (jcS m) (jaJ w)
  clear hO hB hS hmn hmr hl ho hd dr dt mr mt hml
  refine jaj (n:=27) (rs:=[.tmp 4,.tmp 5]) Tryz.func9 rfl rfl rfl rfl rfl rfl ?_
  repeat' (first | apply wz1|apply wz2|apply wz3|apply wz4|apply wz5|apply wz6 | simp -dsimp (maxSteps:=999999) (disch:=omega) only[go_sem,simprocAttr, *] | ((first | refine wz8 ?_ ?_|refine wz9 ?_ ?_|refine wz7 ?_ ?_)<;>intro hh <;> (try replace hh:=vqs hh) <;> (try (exfalso;first | exact hh | omega))))
  refine jag bo20 rfl rfl hM ?_ (fun _ _ h=>h.elim)
  rintro _ H2 ⟨rfl,k1,k2⟩
  have hadd:=jwu (H:=H2 ++ [Ob.arr [dfaD m]]) (p:=p) (j:=7) (cs:=scC (rulesD l) 1 0 (.sl false (m.next.map rowD)) (.sl false (m.rule.map (.int .i64))) 0 0) (n:=0) (m:=P.length) ⟨by rw [jac k1.2];exact k1.1,by have:=k1.2;simp;omega⟩ rfl (by omega) (by omega)
  clear hM
  repeat' (first | apply wz1|apply wz2|apply wz3|apply wz4|apply wz5|apply wz6 | simp -dsimp (maxSteps:=999999) (disch:=omega) only[go_sem,simprocAttr, *] | ((first | refine wz8 ?_ ?_|refine wz9 ?_ ?_|refine wz7 ?_ ?_)<;>intro hh <;> (try replace hh:=vqs hh) <;> (try (exfalso;first | exact hh | omega))))
  refine jbe (A:=A) bo21 (by rfl) (by rfl) hsc hC ?_
  repeat' (first | apply wz1|apply wz2|apply wz3|apply wz4|apply wz5|apply wz6 | simp -dsimp (maxSteps:=999999) (disch:=omega) only[go_sem,simprocAttr, *,pcsD] | ((first | refine wz8 (fun hh=>?_) (fun hh=>?_) | refine wz9 (fun hh=>?_) (fun hh=>?_) | refine jak (by simp -dsimp (maxSteps:=999999) (disch:=omega) only[go_sem,simprocAttr, *,pcsD];exact rfl) (fun hh=>?_) (fun hh=>?_)) <;> (try replace hh:=vqs hh) <;> (try (exfalso;first | exact hh | omega))))
  refine jag bo22 rfl rfl hadd ?_ (fun _ _ h=>h.elim)
  rintro _ _ rfl
  repeat' (first | apply wz1|apply wz2|apply wz3|apply wz4|apply wz5|apply wz6 | simp -dsimp (maxSteps:=999999) (disch:=omega) only[go_sem,simprocAttr, *] | ((first | refine wz8 ?_ ?_|refine wz9 ?_ ?_|refine wz7 ?_ ?_)<;>intro hh <;> (try replace hh:=vqs hh) <;> (try (exfalso;first | exact hh | omega))))
  rfl
theorem jvQ     {l : List Rule} (hl : l.length ≤ 16) (ho : ∀ r ∈ l, okR r.rx) (hd : dbuild (l.map Rule.rx) = (⟨[], []⟩, 7)) (w : List Int) {H : Heap} {p : Nat} (h : Cells H p (scC (rulesD l) 0 0 (.sl true []) (.sl true []) 0 0)) :
    EvF Tryz.prog Am 9 [.ptr p 0 0,isD w] H (fun x _=>x = .tup [.sl true [],.int .i64 7]) (fun _ _=>False):=by
  have hB:=jfa (l.map Rule.rx) (fun _ r hr=>by
    obtain ⟨x,hx,rfl⟩:=List.mem_map.1 hr
    exact ho x hx) (by simp;omega)
  have hdD : dbD (dbuild (l.map Rule.rx)) = .tup [dfaD ⟨[],[]⟩,.int .i64 7]:=by rw [hd];rfl
  rw [hdD] at hB
  have hrx : rxsD (l.map Rule.rx) = .sl false ((l.map Rule.rx).map rxD):=by rw [rxsD,jcI]
  rw [hrx] at hB
  have hO : ∀ H,Cells H p (scC (rulesD l) 0 0 (.sl true []) (.sl true []) 0 0) -> EvF Tryz.prog Am 32 [.ptr p 0 1,.bfn 33 [.ptr p 0 0]] H (fun _ H'=>Cells H' p (scC (rulesD l) 1 0 (.sl true []) (.sl true []) 7 0) /\ Kp1 p H H') (fun _ _=>False):=fun H h=>by
    have:=jgl (l:=l) (d:=⟨[],[]⟩) (m:=⟨[],[]⟩) (e:=7) (by omega) (fun H H' v K Kp hp k=>jis (A:=A) bo51 (by rfl) (by rfl) hp hB (by rw [show flat (D.tup [dfaD ⟨[],[]⟩,.int .i64 7]) = false from rfl];exact k)) (fun h=>by cases h) h
    exact EvF.mono this (fun _ _ hh=>by simpa using hh) (fun _ _ hh=>hh)
  have hM:=jj7 h hO rfl rfl (g1:=true) (g2:=true) (y1:=[]) (y2:=[])
    (fun H K Kp k=>jfh bo34 (by rfl) (jha _) k) (fun H K Kp k=>jfh bo35 (by rfl) (jha _) k)
  clear hO hB
  refine jaj (n:=27) (rs:=[.tmp 4,.tmp 5]) Tryz.func9 rfl rfl rfl rfl rfl rfl ?_
  repeat' (first | apply wz1|apply wz2|apply wz3|apply wz4|apply wz5|apply wz6 | simp -dsimp (maxSteps:=999999) (disch:=omega) only[go_sem,simprocAttr, *] | ((first | refine wz8 ?_ ?_|refine wz9 ?_ ?_|refine wz7 ?_ ?_)<;>intro hh <;> (try replace hh:=vqs hh) <;> (try (exfalso;first | exact hh | omega))))
  refine jag bo20 rfl rfl hM ?_ (fun _ _ h=>h.elim)
  rintro _ H2 ⟨rfl,k1,k2⟩
  repeat' (first | apply wz1|apply wz2|apply wz3|apply wz4|apply wz5|apply wz6 | simp -dsimp (maxSteps:=999999) (disch:=omega) only[go_sem,simprocAttr, *] | ((first | refine wz8 ?_ ?_|refine wz9 ?_ ?_|refine wz7 ?_ ?_)<;>intro hh <;> (try replace hh:=vqs hh) <;> (try (exfalso;first | exact hh | omega))))
  rfl
theorem one_law (l : List Rule) (ht : ∀ r ∈ l,tyR r.rx) (w : List Int) : YesM 3 [rulesD l,isD w]:=by
  have ew : isD w = .sl false (w.map (.int .i64)):=rfl
  have er : rulesD l = .sl false (l.map ruleD):=rfl
  have sr:=jaH (jcD l)
  have hgr:=jh4 l
  refine jaj (n:=55) (rs:=[.tmp 4]) Tryz.func3 rfl rfl rfl rfl rfl rfl ?_
  repeat' (first | apply wz1|apply wz2|apply wz3|apply wz4|apply wz5|apply wz6 | simp -dsimp (maxSteps:=999999) (disch:=omega) only[go_sem,simprocAttr, *] | ((first | refine wz8 ?_ ?_|refine wz9 ?_ ?_|refine wz7 ?_ ?_)<;>intro hh <;> (try replace hh:=vqs hh) <;> (try (exfalso;first | exact hh | omega))))
  refine jbe (A:=B) bo4 (by rfl) (by rfl) rfl jvr ?_
  repeat' (first | apply wz1|apply wz2|apply wz3|apply wz4|apply wz5|apply wz6 | simp -dsimp (maxSteps:=999999) (disch:=omega) only[go_sem,simprocAttr, *] | ((first | refine wz8 ?_ ?_|refine wz9 ?_ ?_|refine wz7 ?_ ?_)<;>intro hh <;> (try replace hh:=vqs hh) <;> (try (exfalso;first | exact hh | omega))))
  refine jbe (A:=A) bo5 (by rfl) (by rfl) sr hgr ?_
  cases hg : greatG l with
  | true=>repeat' (first | apply wz1|apply wz2|apply wz3|apply wz4|apply wz5|apply wz6 | simp -dsimp (maxSteps:=999999) (disch:=omega) only[go_sem,simprocAttr, *] | ((first | refine wz8 ?_ ?_|refine wz9 ?_ ?_|refine wz7 ?_ ?_)<;>intro hh <;> (try replace hh:=vqs hh) <;> (try (exfalso;first | exact hh | omega))))
  | false=>
  obtain ⟨h1,h2⟩:=jlw hg ht
  by_cases hw : w.length <= 14
  case neg=>repeat' (first | apply wz1|apply wz2|apply wz3|apply wz4|apply wz5|apply wz6 | simp -dsimp (maxSteps:=999999) (disch:=omega) only[go_sem,simprocAttr, *] | ((first | refine wz8 ?_ ?_|refine wz9 ?_ ?_|refine wz7 ?_ ?_)<;>intro hh <;> (try replace hh:=vqs hh) <;> (try (exfalso;first | exact hh | omega))))
  have hrr:=jhL l (by omega) (fun r hr=>⟨(h2 r hr).1,Nat.le_trans (h2 r hr).2 (by omega)⟩)
  repeat' (first | apply wz1|apply wz2|apply wz3|apply wz4|apply wz5|apply wz6 | simp -dsimp (maxSteps:=999999) (disch:=omega) only[go_sem,simprocAttr, *] | ((first | refine wz8 ?_ ?_|refine wz9 ?_ ?_|refine wz7 ?_ ?_)<;>intro hh <;> (try replace hh:=vqs hh) <;> (try (exfalso;first | exact hh | omega))))
  refine jbe (A:=A) bo6 (by rfl) (by rfl) sr hrr ?_
  cases hri : rightG l with
  | false=>repeat' (first | apply wz1|apply wz2|apply wz3|apply wz4|apply wz5|apply wz6 | simp -dsimp (maxSteps:=999999) (disch:=omega) only[go_sem,simprocAttr, *] | ((first | refine wz8 ?_ ?_|refine wz9 ?_ ?_|refine wz7 ?_ ?_)<;>intro hh <;> (try replace hh:=vqs hh) <;> (try (exfalso;first | exact hh | omega))))
  | true=>
  rw [hri] at hrr
  obtain ⟨q1,q2,q3⟩:=jje hri
  have hno:=jqj l (by omega) (fun r hr=>⟨(h2 r hr).1,q3 r hr⟩)
  repeat' (first | apply wz1|apply wz2|apply wz3|apply wz4|apply wz5|apply wz6 | simp -dsimp (maxSteps:=999999) (disch:=omega) only[go_sem,simprocAttr, *] | ((first | refine wz8 ?_ ?_|refine wz9 ?_ ?_|refine wz7 ?_ ?_)<;>intro hh <;> (try replace hh:=vqs hh) <;> (try (exfalso;first | exact hh | omega))))
  refine jbe (A:=A) bo7 (by rfl) (by rfl) sr hno ?_
  by_cases hn : sumG l <= 120
  case neg=>repeat' (first | apply wz1|apply wz2|apply wz3|apply wz4|apply wz5|apply wz6 | simp -dsimp (maxSteps:=999999) (disch:=omega) only[go_sem,simprocAttr, *] | ((first | refine wz8 ?_ ?_|refine wz9 ?_ ?_|refine wz7 ?_ ?_)<;>intro hh <;> (try replace hh:=vqs hh) <;> (try (exfalso;first | exact hh | omega))))
  have hne : l ≠ []:=fun h=>by rw [h] at q1;simp at q1
  have hnew:=jxj l hne (by omega) hrr
  have hfr : freshR (.ptr 0 0 0) [.arr [.agg (scC (rulesD l) 0 0 (.sl true []) (.sl true []) 0 0)]] [] = some (.ok (.ptr 0 0 0) [.arr [.agg (scC (rulesD l) 0 0 (.sl true []) (.sl true []) 0 0)]]):=by
    simp [freshR,bareOb,bareL,bareD,scC,jhc (jcD l),moveTo]
  have hnew2 : EvF Tryz.prog Am 8 [rulesD l] [] (fun d' Hc=>freshR d' Hc [] = some (.ok (.ptr 0 0 0) [.arr [.agg (scC (rulesD l) 0 0 (.sl true []) (.sl true []) 0 0)]])) (fun _ _=>False):=EvF.mono hnew (fun d Hc h=>by
    obtain ⟨rfl,rfl⟩:=h
    exact hfr) (fun _ _ h=>h)
  have hC0 : Cells [.arr [.agg (scC (rulesD l) 0 0 (.sl true []) (.sl true []) 0 0)]] 0 (scC (rulesD l) 0 0 (.sl true []) (.sl true []) 0 0):=⟨rfl,by simp⟩
  have hdb:=jkc hri
  clear hnew hfr hgr hrr hno hri
  repeat' (first | apply wz1|apply wz2|apply wz3|apply wz4|apply wz5|apply wz6 | simp -dsimp (maxSteps:=999999) (disch:=omega) only[go_sem,simprocAttr, *] | ((first | refine wz8 ?_ ?_|refine wz9 ?_ ?_|refine wz7 ?_ ?_)<;>intro hh <;> (try replace hh:=vqs hh) <;> (try (exfalso;first | exact hh | omega))))
  refine jpu (by kernel_rfl) (by rfl) (by rfl) sr hnew2 ?_
  clear hnew2
  rcases hdb with ⟨d,hd⟩ | hd
  · have hcut:=jva q2 (fun r hr=>(h2 r hr).1) hd w hw hC0
    obtain ⟨dr,dt,-⟩:=jd5 hd
    obtain ⟨mr,mt,mm⟩:=jfQ dr dt
    change rightD (smallM d) = true at mr
    change tyM (smallM d) at mt
    have hwd:=jt3 l (by omega) (fun r hr=>⟨(h2 r hr).1,by
      have:=q3 r hr
      simp only [rightR,Bool.and_eq_true] at this
      exact this.2⟩) w (by omega)
    rw [jsR hd mr mt mm w w.length 0 (by omega)] at hwd
    have hwh:=jiA (d:=smallM d) (w:=w) w.length 0 (by omega) (by omega) (by omega)
    have hlen:=jgv (d:=smallM d) (w:=w) w.length 0
    generalize cutL (smallM d) w w.length 0 = P at *
    have hsa:=juP P [] (by omega)
    have hwo:=jsV P w.length (by omega)
    rw [hwh] at hwo
    have s2:=jb7 (jcD l) (jaJ w)
    have s3:=jb7 (jeq P) (jeq P)
    have s4 : stripL [pcsD P,.int .i64 w.length] = some [pcsD P,.int .i64 w.length]:=jb7 (jeq P) rfl
    clear hC0 mm mr mt dr dt hd hwh h2 q3
    repeat' (first | apply wz1|apply wz2|apply wz3|apply wz4|apply wz5|apply wz6 | simp -dsimp (maxSteps:=999999) (disch:=omega) only[go_sem,simprocAttr, *] | ((first | refine wz8 ?_ ?_|refine wz9 ?_ ?_|refine wz7 ?_ ?_)<;>intro hh <;> (try replace hh:=vqs hh) <;> (try (exfalso;first | exact hh | omega))))
    refine jag bo9 rfl rfl hcut ?_ (fun _ _ h=>h.elim)
    rintro _ H2 rfl
    repeat' (first | apply wz1|apply wz2|apply wz3|apply wz4|apply wz5|apply wz6 | simp -dsimp (maxSteps:=999999) (disch:=omega) only[go_sem,simprocAttr, *] | ((first | refine wz8 ?_ ?_|refine wz9 ?_ ?_|refine wz7 ?_ ?_)<;>intro hh <;> (try replace hh:=vqs hh) <;> (try (exfalso;first | exact hh | omega))))
    refine jbe (A:=A) bo11 (by rfl) (by rfl) s2 hwd ?_
    repeat' (first | apply wz1|apply wz2|apply wz3|apply wz4|apply wz5|apply wz6 | simp -dsimp (maxSteps:=999999) (disch:=omega) only[go_sem,simprocAttr, *] | ((first | refine wz8 ?_ ?_|refine wz9 ?_ ?_|refine wz7 ?_ ?_)<;>intro hh <;> (try replace hh:=vqs hh) <;> (try (exfalso;first | exact hh | omega))))
    refine jbe (A:=A) bo10 (by rfl) (by rfl) s3 hsa ?_
    repeat' (first | apply wz1|apply wz2|apply wz3|apply wz4|apply wz5|apply wz6 | simp -dsimp (maxSteps:=999999) (disch:=omega) only[go_sem,simprocAttr, *] | ((first | refine wz8 ?_ ?_|refine wz9 ?_ ?_|refine wz7 ?_ ?_)<;>intro hh <;> (try replace hh:=vqs hh) <;> (try (exfalso;first | exact hh | omega))))
    refine jbe (A:=A) bo12 (by rfl) (by rfl) s4 hwo ?_
    repeat' (first | apply wz1|apply wz2|apply wz3|apply wz4|apply wz5|apply wz6 | simp -dsimp (maxSteps:=999999) (disch:=omega) only[go_sem,simprocAttr, *] | ((first | refine wz8 ?_ ?_|refine wz9 ?_ ?_|refine wz7 ?_ ?_)<;>intro hh <;> (try replace hh:=vqs hh) <;> (try (exfalso;first | exact hh | omega))))
    done
  · have hcut:=jvQ q2 (fun r hr=>(h2 r hr).1) hd w hC0
    clear hC0 hd h2 q3
    repeat' (first | apply wz1|apply wz2|apply wz3|apply wz4|apply wz5|apply wz6 | simp -dsimp (maxSteps:=999999) (disch:=omega) only[go_sem,simprocAttr, *] | ((first | refine wz8 ?_ ?_|refine wz9 ?_ ?_|refine wz7 ?_ ?_)<;>intro hh <;> (try replace hh:=vqs hh) <;> (try (exfalso;first | exact hh | omega))))
    refine jag bo9 rfl rfl hcut ?_ (fun _ _ h=>h.elim)
    rintro _ H2 rfl
    repeat' (first | apply wz1|apply wz2|apply wz3|apply wz4|apply wz5|apply wz6 | simp -dsimp (maxSteps:=999999) (disch:=omega) only[go_sem,simprocAttr, *] | ((first | refine wz8 ?_ ?_|refine wz9 ?_ ?_|refine wz7 ?_ ?_)<;>intro hh <;> (try replace hh:=vqs hh) <;> (try (exfalso;first | exact hh | omega))))
    done
end Go.Proofs.W
end
section
namespace Go.Proofs.W
open Go Vm Go.Proofs.Zso
theorem jwN : fieldTs Tryz.prog 48 = some [9,46,4]:=by kernel_rfl
theorem jvw : aggT Tryz.prog 48 = true:=by kernel_rfl
theorem rules_of_typed {xs : List D} (h : TypedE Tryz.prog 48 xs) : ∃ l : List Rule,xs = l.map ruleD /\ ∀ r ∈ l,tyR r.rx:=by
  refine jfN jvw h ruleD _ fun cs _ hc=>?_
  have hf0:=jft jwN hc
  obtain ⟨a,b,rfl,ha,hf1⟩:=jbA hf0
  obtain ⟨nm,rfl,hn⟩:=jri un9 ha
  obtain ⟨a,b,rfl,ha,hf2⟩:=jbA hf1
  obtain ⟨r,hr,ho⟩:=jlB _ a (Nat.lt_succ_self _) ha
  obtain ⟨c,b,rfl,hb,hf3⟩:=jbA hf2
  obtain ⟨br,rfl⟩:=jne un4 hb
  cases jhn hf3
  refine ⟨⟨nm,r,br⟩,?_,ho⟩
  have : a = [.int .u8 r.k,.int .u16 r.s,.sl false (rxDs r.kids)]:=by cases r;exact D.agg.inj hr
  subst this
  rfl
end Go.Proofs.W
end
