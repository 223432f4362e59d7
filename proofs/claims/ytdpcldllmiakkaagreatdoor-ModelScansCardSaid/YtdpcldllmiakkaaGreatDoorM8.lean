/- Texts that stand behind this claim, one after the other. -/
import Derived.Test.YtdpcldllmiakkaaGreatDoorM6
import Derived.Test.YtdpcldllmiakkaaGreatDoorM7
set_option maxHeartbeats 4000000
set_option linter.unusedVariables false
set_option linter.unusedSimpArgs false
section
namespace Go.Proofs.W
open Go Vm Go.Proofs.Zs25
mutual
theorem ends_nil : ∀ (r : Rx) (hs : shapesR r = true) (b : Bool),endsR [] r [b] = [b && emptyR r]
  | .mk k s l,hs,b=>by
    simp only [shapesR,Bool.and_eq_true] at hs
    have hs1:=hs.1
    simp only [endsR,emptyR]
    by_cases h0 : k = 0
    · subst h0;simp
    rw [if_neg h0]
    by_cases h1 : k = 1
    · subst h1;simp [stepB]
    rw [if_neg h1,if_neg h1]
    by_cases h2 : k = 2
    · subst h2;simp only [if_true];exact endsCat_nil l hs.2 b
    rw [if_neg h2,if_neg h2]
    by_cases h3 : k = 3
    · subst h3;simp only [if_true,List.length_nil,Nat.zero_add,List.replicate_one];rw [endsAlt_nil l hs.2 b false];simp
    rw [if_neg h3,if_neg h3]
    by_cases h4 : k = 4 ∨ k = 5
    · rw [if_pos h4]
      simp only [Bool.and_true,List.length_nil,Nat.zero_add,roundsB]
      have:=endsOne_nil l hs.2 b
      obtain ⟨c,hc⟩:=this
      rw [hc]
      have : orB [b] [b && c] = [b]:=by cases b <;> simp [orB]
      rw [this];simp
    · simp [shape1,h0,h1,h2,h3,h4] at hs1
theorem endsCat_nil : ∀ (l : List Rx) (hs : shapesL l = true) (b : Bool),endsCat [] l [b] = [b && emptyR.emptyAll l]
  | [],hs,b=>by simp [endsCat,emptyR.emptyAll]
  | r :: l,hs,b=>by
    simp only [shapesL,Bool.and_eq_true] at hs
    simp only [endsCat,emptyR.emptyAll,ends_nil r hs.1,endsCat_nil l hs.2,Bool.and_assoc]
theorem endsAlt_nil : ∀ (l : List Rx) (hs : shapesL l = true) (b a : Bool),endsAlt [] l [b] [a] = [a || (b && emptyR.emptyAny l)]
  | [],hs,b,a=>by simp [endsAlt,emptyR.emptyAny]
  | r :: l,hs,b,a=>by
    simp only [shapesL,Bool.and_eq_true] at hs
    simp only [endsAlt,emptyR.emptyAny,ends_nil r hs.1,orB,List.zipWith_cons_cons,List.zipWith_nil_left,endsAlt_nil l hs.2,Bool.and_or_distrib_left,Bool.or_assoc]
theorem endsOne_nil : ∀ (l : List Rx) (hs : shapesL l = true) (b : Bool),∃ c,endsOne [] l [b] = [b && c]
  | [],hs,b=>⟨true,by simp [endsOne]⟩
  | r :: l,hs,b=>by
    simp only [shapesL,Bool.and_eq_true] at hs
    exact ⟨_,ends_nil r hs.1 b⟩
end
def startB (n : Nat) : List Bool:=true :: List.replicate n false
def hasR (w : List Int) (r : Rx) : Bool:=(endsR w r (startB w.length)).getD w.length false
theorem start_len (n : Nat) : (startB n).length = n + 1:=by simp [startB]
end Go.Proofs.W
end
section
namespace Go.Proofs.W
open Go Vm Go.Proofs.Zs25
def listZ (k : Nat) (p : Nat → Bool) : List Int:=((List.range k).filter p).map fun (i : Nat)=>(i : Int)
theorem listZ_succ {k : Nat} {p : Nat → Bool} : listZ (k + 1) p = listZ k p ++ if p k then [(k : Int)] else []:=by
  unfold listZ
  rw [List.range_succ,List.filter_append,List.map_append]
  congr 1
  by_cases h : p k = true <;> simp [h]
theorem listZ_len (k : Nat) (p : Nat → Bool) : (listZ k p).length ≤ k:=by
  have:=List.length_filter_le p (List.range k)
  simp [listZ] at this ⊢;exact this
theorem mem_listZ {k : Nat} {p : Nat → Bool} {s : Int} : s ∈ listZ k p ↔ ∃ i,i < k ∧ p i = true ∧ s = i:=by
  simp only [listZ,List.mem_map,List.mem_filter,List.mem_range]
  exact ⟨fun ⟨a,⟨h1,h2⟩,h3⟩=>⟨a,h1,h2,h3.symm⟩,fun ⟨a,h1,h2,h3⟩=>⟨a,⟨h1,h2⟩,h3.symm⟩⟩
def hit (n : Nfa) (c : Int) (i : Nat) : Bool:=inB (n.set.getD i 0) c
def stepTo (n : Nfa) (c : Int) (p : Nat → Bool) (j t : Nat) : Bool:=(List.range j).any fun i=>p i && hit n c i && decide (n.to.getD i 0 = (t : Int))
theorem bitZ_zero (c : Int) : bitZ 0 c = false:=by
  simp [bitZ,IntKind.wrap,IntKind.bits,IntKind.signed]
theorem right_row {n : Nfa} (h : rightN n = true) : 1 ≤ n.set.length ∧ n.set.length ≤ 3300 ∧ n.free.length = n.set.length ∧ n.to.length = n.set.length ∧ n.rule.length = n.set.length ∧ ∀ i,i < n.set.length → rowOk n i = true:=by
  simp only [rightN,Bool.and_eq_true,decide_eq_true_eq,allN_iff] at h
  exact ⟨h.1.1,h.1.2.1,h.1.2.2.1,h.1.2.2.2.1,h.1.2.2.2.2,fun i hi=>h.2 i (by omega) (by omega)⟩
theorem right_hit {n : Nfa} (h : rightN n = true) {c : Int} {i : Nat} (hi : i < n.set.length) (hh : hit n c i = true) : 0 ≤ n.to.getD i 0 ∧ n.to.getD i 0 < n.set.length:=by
  have:=(right_row h).2.2.2.2.2 i hi
  simp only [rowOk,Bool.and_eq_true,Bool.not_eq_true',Bool.and_eq_false_iff,decide_eq_false_iff_not] at this
  rcases this.1.1.1 with h1 | h1
  · have h1 : n.set.getD i 0 = 0:=by omega
    rw [hit,h1] at hh
    simp [inB,bitZ_zero] at hh
  · exact isS_iff.1 (by simpa using h1)
end Go.Proofs.W
end
section
namespace Go.Proofs.W
open Go Vm Go.Proofs.Zs25
theorem hit_bit {n : Nfa} {c s : Int} {j : Nat} (h0 : 0 ≤ c) (h1 : c < 16) (hs : n.set.getD j 0 = s) : hit n c j = bitZ s c:=by
  simp only [hit,inB,h0,h1,hs,decide_true,Bool.true_and]
def bestFrom (o : Int) (l : List Int) : Int:=l.foldl (fun o r=>if 0 ≤ r ∧ (o < 0 ∨ r < o) then r else o) o
theorem bestFrom_cons {o r : Int} {l : List Int} : bestFrom o (r :: l) = bestFrom (if 0 ≤ r ∧ (o < 0 ∨ r < o) then r else o) l:=rfl
theorem bestFrom_spec : ∀ (l : List Int) (o : Int),-1 ≤ o → -1 ≤ bestFrom o l ∧ (∀ r ∈ l,0 ≤ r → 0 ≤ bestFrom o l ∧ bestFrom o l ≤ r) ∧ (0 ≤ o → 0 ≤ bestFrom o l ∧ bestFrom o l ≤ o) ∧ (bestFrom o l = o ∨ bestFrom o l ∈ l)
  | [],o,ho=>⟨ho,(fun r h=>by cases h),fun h=>⟨h,Int.le_refl _⟩,.inl rfl⟩
  | r :: l,o,ho=>by
    rw [bestFrom_cons]
    by_cases hc : 0 ≤ r ∧ (o < 0 ∨ r < o)
    · rw [if_pos hc]
      obtain ⟨h1,h2,h3,h4⟩:=bestFrom_spec l r (by omega)
      have h3':=h3 hc.1
      refine ⟨h1,fun x hx h0=>?_,fun h0=>by omega,?_⟩
      · rcases List.mem_cons.1 hx with rfl | hx
        · exact h3'
        · exact h2 x hx h0
      · rcases h4 with h4 | h4
        · exact .inr (by rw [h4];simp)
        · exact .inr (by simp [h4])
    · rw [if_neg hc]
      obtain ⟨h1,h2,h3,h4⟩:=bestFrom_spec l o ho
      refine ⟨h1,fun x hx h0=>?_,h3,?_⟩
      · rcases List.mem_cons.1 hx with rfl | hx
        · have:=h3 (by omega)
          omega
        · exact h2 x hx h0
      · rcases h4 with h4 | h4
        · exact .inl h4
        · exact .inr (by simp [h4])
theorem best_eq {l : List Int} {v : Int} (h : (v = -1 ∧ ∀ r ∈ l,r < 0) ∨ (0 ≤ v ∧ v ∈ l ∧ ∀ r ∈ l,0 ≤ r → v ≤ r)) : bestFrom (-1) l = v:=by
  obtain ⟨h1,h2,h3,h4⟩:=bestFrom_spec l (-1) (by omega)
  rcases h with ⟨rfl,h⟩ | ⟨h0,hm,hl⟩
  · rcases h4 with h4 | h4
    · exact h4
    · have:=h _ h4;omega
  · have h5:=h2 v hm h0
    rcases h4 with h4 | h4
    · omega
    · have:=hl _ h4 h5.1;omega
def endsZ (n : Nfa) (l : List Int) : Int:=bestFrom (-1) (l.map fun s=>n.rule.getD s.toNat 0)
end Go.Proofs.W
end
section
namespace Go.Proofs.W
open Go Vm Go.Proofs.Zs25
inductive Reach (n : Nfa) (p : Nat → Prop) : Nat → Prop
  | base {s : Nat} : p s → Reach n p s
  | step {s t : Nat} : Reach n p s → (t : Int) ∈ n.free.getD s [] → Reach n p t
noncomputable def clo (n : Nfa) (p : Nat → Prop) (s : Nat) : Bool:=@decide (Reach n p s) (Classical.propDecidable _)
theorem clo_iff {n : Nfa} {p : Nat → Prop} {s : Nat} : clo n p s = true ↔ Reach n p s:=by
  unfold clo;exact @decide_eq_true_iff _ (Classical.propDecidable _)
theorem right_free {n : Nfa} (h : rightN n = true) {i : Nat} (hi : i < n.set.length) {x : Int} (hx : x ∈ n.free.getD i []) : 0 ≤ x ∧ x < n.set.length:=by
  have:=(right_row h).2.2.2.2.2 i hi
  simp only [rowOk,Bool.and_eq_true,List.all_eq_true] at this
  exact isS_iff.1 (this.2 x hx)
theorem clo_eq {n : Nfa} (hn : rightN n = true) {p : Nat → Prop} (hp : ∀ s,p s → s < n.set.length) {q : Nat → Bool} (h1 : ∀ s,s < n.set.length → p s → q s = true) (h2 : ∀ s,s < n.set.length → q s = true → Reach n p s)
    (h3 : ∀ s,s < n.set.length → q s = true → ∀ t : Nat,(t : Int) ∈ n.free.getD s [] → q t = true) : ∀ s,s < n.set.length → q s = clo n p s:=by
  have key : ∀ s,Reach n p s → s < n.set.length ∧ q s = true:=by
    intro s h
    induction h with
    | base h=>exact ⟨hp _ h,h1 _ (hp _ h) h⟩
    | step h ht ih=>
      have:=right_free hn ih.1 ht
      exact ⟨by omega,h3 _ ih.1 ih.2 _ ht⟩
  intro s hs
  rw [Bool.eq_iff_iff,clo_iff]
  exact ⟨h2 s hs,fun h=>(key s h).2⟩
end Go.Proofs.W
end
section
namespace Go.Proofs.W
open Go Vm Go.Proofs.Zs25
theorem cntF_one {q : Nat → Bool} {t : Nat} : ∀ {k : Nat},t < k → q t = false → cntF (fun i=>if i = t then true else q i) k + 1 = cntF q k
  | 0,h,_=>by omega
  | k + 1,h,h2=>by
    simp only [cntF]
    by_cases e : t = k
    · subst e
      have : ∀ m,m ≤ t → cntF (fun i=>if i = t then true else q i) m = cntF q m:=by
        intro m hm
        induction m with
        | zero=>rfl
        | succ m ih=>simp only [cntF,ih (by omega),show (m = t) = False from eq_false (by omega),if_false]
      have h3:=this t (Nat.le_refl _)
      simp only [h3,h2,if_true,Bool.false_eq_true,if_false]
    · have:=cntF_one (k:=k) (by omega) h2
      simp only [show (k = t) = False from eq_false (fun h=>e h.symm),if_false]
      omega
def goA : List D:=[.ptr 2 0 0,.ptr 3 0 0,.ptr 0 0 0,.ptr 4 0 0]
structure DS (n : Nfa) (k : Nat) (q : Nat → Bool) (out : List Int) (d : D) (H : Heap) : Prop where
  h0 : hget H 0 = .arr [nfaD n]
  h1 : hget H 1 = .arr (tabD k q)
  h2 : hget H 2 = .arr [.vec 1 0 k]
  h3 : hget H 3 = .arr [d]
  hv : VecAt 5 d H (out.map (.int .i64))
  h4 : hget H 4 = .arr [.fn 138 goA]
structure OutOk (k : Nat) (q : Nat → Bool) (out : List Int) : Prop where
  nodup : out.Nodup
  mem : ∀ x : Int,x ∈ out ↔ ∃ i,i < k ∧ q i = true ∧ x = i
  len : out.length + cntF q k = k
structure Went (n : Nfa) (k : Nat) (q q' : Nat → Bool) (s : Nat) : Prop where
  keep : ∀ x,x < k → q x = true → q' x = true
  from' : ∀ x,x < k → q' x = true → q x = true ∨ Reach n (· = s) x
  new : ∀ x,x < k → q' x = true → q x = false → ∀ t : Nat,(t : Int) ∈ n.free.getD x [] → q' t = true
def GoPost (n : Nfa) (k : Nat) (s : Int) (q : Nat → Bool) (H' : Heap) : Prop:=∃ q' out' d',DS n k q' out' d' H' ∧ OutOk k q' out' ∧ ((s < 0 ∨ k ≤ s) ∧ q' = q ∨ (0 ≤ s ∧ s < k ∧ q' s.toNat = true ∧ Went n k q q' s.toNat))
theorem go_ok (n : Nfa) (hn : rightN n = true) (hfl : ∀ l ∈ n.free,l.length ≤ 1000000) : ∀ (m : Nat) (s : Int) (q : Nat → Bool) (out : List Int) (d : D) (H : Heap),cntF q n.set.length ≤ m → DS n n.set.length q out d H → OutOk n.set.length q out →
    EvF Tryz.prog A 138 (.int .i64 s :: goA) H (fun _ H'=>GoPost n n.set.length s q H') (fun _ _=>False):=by
  obtain ⟨hk,hk2,hf,ht,hr,hrow⟩:=right_row hn
  have hfree:=fun i hi x hx=>right_free hn (i:=i) hi (x:=x) hx
  generalize hkk : n.set.length = k at *
  intro m
  induction m using Nat.strongRecOn with
  | _ m ih=>
    rintro s q out d H hm ⟨h0,h1,h2,h3,hv,h4⟩ hout
    have hL:=lt_of_hget h4
    obtain ⟨w1,w2,w3⟩:=hv.one
    have hol : out.length ≤ k:=by have:=hout.len;omega
    simp only [goA] at *
    refine evF_inB (n:=43) (rs:=[]) Tryz.func138 rfl rfl rfl rfl rfl rfl ?_
    by_cases c1 : 0 ≤ s
    · by_cases c2 : s < k
      · obtain ⟨t,rfl⟩ : ∃ t : Nat,s = t:=⟨s.toNat,by omega⟩
        have htk : t < k:=by omega
        cases hqt : q t with
        | true=>
          repeat' (first | apply wz1|apply wz2|apply wz3|apply wz4|apply wz5|apply wz6 | simp -dsimp (maxSteps:=999999) (disch:=omega) only[go_sem,simprocAttr, *] | ((first | refine wz8 ?_ ?_|refine wz9 ?_ ?_|refine wz7 ?_ ?_)<;>intro hh <;> (try replace hh:=vqs hh) <;> (try (exfalso;first | exact hh | omega))))
          exact ⟨q,out,d,⟨h0,h1,h2,h3,hv,h4⟩,hout,.inr ⟨c1,c2,by simpa using hqt,⟨fun _ _ h=>h,fun _ _ h=>.inl h,fun x hx h g=>by rw [h] at g;cases g⟩⟩⟩
        | false=>
          obtain ⟨d',H',ha,hv',hsm⟩:=app_int (hv.setLow (k:=1) (o:=Ob.arr (tabD k fun i=>if i = t then true else q i)) (by omega)) (t : Int) (by omega)
          obtain ⟨v1,v2,v3⟩:=hv'.one
          simp only [List.length_set] at ha
          have hL' : 5 ≤ H'.length:=hv'.1
          have hs0:=hsm.2 0 (by omega)
          have hs1:=hsm.2 1 (by omega)
          have hs2:=hsm.2 2 (by omega)
          have hs3:=hsm.2 3 (by omega)
          have hs4:=hsm.2 4 (by omega)
          rw [hget_set_ne (by omega)] at hs0 hs2 hs3 hs4
          rw [hget_set_eq (by omega)] at hs1
          obtain ⟨fr,hf1,hf2⟩:=ex_at (l:=n.free) (i:=t) [] (by omega)
          have hfx:=hfree t htk
          rw [hf2] at hfx
          have hfrl:=hfl fr (List.mem_of_getElem? hf1)
          repeat' (first | apply wz1|apply wz2|apply wz3|apply wz4|apply wz5|apply wz6 | simp -dsimp (maxSteps:=999999) (disch:=omega) only[go_sem,simprocAttr, *,nfaD,issD,isD] | ((first | refine wz8 (fun hh=>?_) (fun hh=>?_) | refine wz9 (fun hh=>?_) (fun hh=>?_) | refine wpB_cond (by simp -dsimp (maxSteps:=999999) (disch:=omega) only[go_sem,simprocAttr, *,nfaD,issD,isD];exact rfl) (fun hh=>?_) (fun hh=>?_)) <;> (try replace hh:=vqs hh) <;> (try (exfalso;first | exact hh | omega))))
          have ho1 : OutOk k (fun i=>if i = t then true else q i) (out ++ [(t : Int)]):=by
            refine ⟨?_,fun x=>?_,?_⟩
            · rw [List.nodup_append]
              refine ⟨hout.nodup,by simp,fun x hx y hy e=>?_⟩
              obtain ⟨i,i1,i2,i3⟩:=(hout.mem x).1 hx
              have : i = t:=by simp at hy;omega
              subst this;rw [hqt] at i2;cases i2
            · rw [List.mem_append,hout.mem]
              constructor
              · rintro (⟨i,i1,i2,i3⟩ | hx)
                · refine ⟨i,i1,?_,i3⟩
                  show (if i = t then true else q i) = true
                  rw [i2];simp
                · exact ⟨t,htk,by simp,by simpa using hx⟩
              · rintro ⟨i,i1,i2,i3⟩
                by_cases e : i = t
                · subst e;exact .inr (by simp [i3])
                · simp only [e,if_false] at i2
                  exact .inl ⟨i,i1,i2,i3⟩
            · have:=cntF_one htk hqt
              have h9:=hout.len
              simp only [List.length_append,List.length_cons,List.length_nil]
              omega
          refine wpB_loop (fun e H=>∃ (j : Nat) (qj : Nat → Bool) (outj : List Int) (dj : D),j ≤ fr.length ∧ DS n k qj outj dj H ∧ OutOk k qj outj ∧ e 4 = .ptr 4 0 0 ∧ e 33 = isD fr ∧ e 34 = .int .i64 fr.length ∧ e 35 = .int .i64 j ∧ (∀ x,x < k → (if x = t then true else q x) = true → qj x = true)
            ∧ (∀ x,x < k → qj x = true → (if x = t then true else q x) = true ∨ Reach n (· = t) x) ∧ (∀ x,x < k → qj x = true → (if x = t then true else q x) = false → ∀ y : Nat,(y : Int) ∈ n.free.getD x [] → qj y = true) ∧ ∀ y : Nat,(y : Int) ∈ fr.take j → qj y = true) (fun e H=>fr.length - natOf (e 35)) ?_ ?_
          · refine ⟨0,_,out ++ [(t : Int)],d',by omega,⟨by rw [hget_set_ne (by omega)];rw [hs0,h0],by rw [hget_set_ne (by omega)];exact hs1,by rw [hget_set_ne (by omega)];rw [hs2,h2],by rw [hget_set_eq (by omega)],hv'.setLow (by omega),by rw [hget_set_ne (by omega)];rw [hs4,h4];rfl⟩,ho1,gs,by simp -dsimp (maxSteps:=999999) (disch:=omega) only[go_sem,simprocAttr, *,isD],gs,gs,fun _ _ h=>h,fun _ _ h=>.inl h,fun x _ h g=>?_,fun y hy=>by simp at hy⟩
            have h' : (if x = t then true else q x) = true:=h
            rw [h'] at g;cases g
          clear hs0 hs1 hs2 hs3 hs4 ha hv' hsm v1 v2 v3 h0 h1 h2 h3 h4 hv w1 w2 w3 ho1
          rintro e Hj ⟨j,qj,outj,dj,hj,hds,hoj,e4,e33,e34,e35,g1,g2,g3,g4⟩ R hR
          have h4:=hds.h4
          simp only [goA] at h4
          by_cases hb : j < fr.length
          · have hfj:=hfx fr[j] (List.getElem_mem hb)
            obtain ⟨y,hy⟩ : ∃ y : Nat,fr[j] = (y : Int):=⟨fr[j].toNat,by omega⟩
            have hcnt : cntF qj k < m:=by
              have h5:=cntF_one htk hqt
              have h6:=cntF_le (k:=k) g1
              omega
            have hcall:=ih _ hcnt (y : Int) qj outj dj Hj (Nat.le_refl _) hds hoj
            repeat' (first | apply wz1|apply wz2|apply wz3|apply wz4|apply wz5|apply wz6 | simp -dsimp (maxSteps:=999999) (disch:=omega) only[go_sem,simprocAttr, *,isD] | ((first | refine wz8 (fun hh=>?_) (fun hh=>?_) | refine wz9 (fun hh=>?_) (fun hh=>?_) | refine wpB_cond (by simp -dsimp (maxSteps:=999999) (disch:=omega) only[go_sem,simprocAttr, *,isD];exact rfl) (fun hh=>?_) (fun hh=>?_)) <;> (try replace hh:=vqs hh) <;> (try (exfalso;first | exact hh | omega))))
            refine evB_state bo138 rfl rfl hcall ?_ (fun _ _ h=>h.elim)
            rintro _ H2 ⟨q2,out2,d2,hd2,ho2,hw⟩
            repeat' (first | apply wz1|apply wz2|apply wz3|apply wz4|apply wz5|apply wz6 | simp -dsimp (maxSteps:=999999) (disch:=omega) only[go_sem,simprocAttr, *] | ((first | refine wz8 ?_ ?_|refine wz9 ?_ ?_|refine wz7 ?_ ?_)<;>intro hh <;> (try replace hh:=vqs hh) <;> (try (exfalso;first | exact hh | omega))))
            rcases hw with ⟨h7,-⟩ | ⟨h7,h8,h9,hw⟩
            · omega
            · rw [Int.toNat_natCast] at h9 hw
              have hyk : y < k:=by omega
              have hyf : (y : Int) ∈ n.free.getD t []:=by rw [hf2,← hy];exact List.getElem_mem hb
              have hfrom : ∀ x,Reach n (· = y) x → Reach n (· = t) x:=by
                intro x hx
                induction hx with
                | base h=>subst h;exact .step (.base rfl) hyf
                | step _ h ih=>exact .step ih h
              refine hR _ _ ⟨j + 1,q2,out2,d2,by omega,hd2,ho2,gs,by simp -dsimp (maxSteps:=999999) (disch:=omega) only[go_sem,simprocAttr, *,isD],gs,gs,fun x hx h=>hw.keep x hx (g1 x hx h),fun x hx h=>?_,fun x hx h g z hz=>?_,fun z hz=>?_⟩ ?_
              · rcases hw.from' x hx h with h | h
                · exact g2 x hx h
                · exact .inr (hfrom x h)
              · cases hq : qj x with
                | true=>
                  have hzk:=hfree x hx z hz
                  exact hw.keep z (by omega) (g3 x hx hq g z hz)
                | false=>exact hw.new x hx h hq z hz
              · rw [take_succ' hb,List.mem_append] at hz
                rcases hz with hz | hz
                · have hzk:=hfx z (List.mem_of_mem_take hz)
                  exact hw.keep z (by omega) (g4 z hz)
                · have : z = y:=by simp [hy] at hz;omega
                  subst this;exact h9
              · simp -dsimp (maxSteps:=999999) (disch:=omega) only[go_sem,simprocAttr, *,natOf_int]
          · repeat' (first | apply wz1|apply wz2|apply wz3|apply wz4|apply wz5|apply wz6 | simp -dsimp (maxSteps:=999999) (disch:=omega) only[go_sem,simprocAttr, *] | ((first | refine wz8 ?_ ?_|refine wz9 ?_ ?_|refine wz7 ?_ ?_)<;>intro hh <;> (try replace hh:=vqs hh) <;> (try (exfalso;first | exact hh | omega))))
            refine ⟨qj,outj,dj,hds,hoj,.inr ⟨c1,c2,by simpa using g1 t htk (by simp),⟨fun x hx h=>g1 x hx (by rw [h];simp),fun x hx h=>?_,fun x hx h g z hz=>?_⟩⟩⟩
            · rcases g2 x hx h with h | h
              · by_cases e : x = t
                · subst e;exact .inr (.base (by simp))
                · rw [if_neg e] at h;exact .inl h
              · exact .inr (by simpa using h)
            · by_cases e : x = t
              · subst e
                rw [hf2] at hz
                exact g4 z (by rw [List.take_of_length_le (by omega)];exact hz)
              · exact g3 x hx h (by rw [if_neg e];exact g) z hz
      · repeat' (first | apply wz1|apply wz2|apply wz3|apply wz4|apply wz5|apply wz6 | simp -dsimp (maxSteps:=999999) (disch:=omega) only[go_sem,simprocAttr, *] | ((first | refine wz8 ?_ ?_|refine wz9 ?_ ?_|refine wz7 ?_ ?_)<;>intro hh <;> (try replace hh:=vqs hh) <;> (try (exfalso;first | exact hh | omega))))
        exact ⟨q,out,d,⟨h0,h1,h2,h3,hv,h4⟩,hout,.inl ⟨.inr (by omega),rfl⟩⟩
    · repeat' (first | apply wz1|apply wz2|apply wz3|apply wz4|apply wz5|apply wz6 | simp -dsimp (maxSteps:=999999) (disch:=omega) only[go_sem,simprocAttr, *] | ((first | refine wz8 ?_ ?_|refine wz9 ?_ ?_|refine wz7 ?_ ?_)<;>intro hh <;> (try replace hh:=vqs hh) <;> (try (exfalso;first | exact hh | omega))))
      exact ⟨q,out,d,⟨h0,h1,h2,h3,hv,h4⟩,hout,.inl ⟨.inl (by omega),rfl⟩⟩
end Go.Proofs.W
end
section
namespace Go.Proofs.W
open Go Vm Go.Proofs.Zs25
theorem strict_unique : ∀ {l l' : List Int},l.Pairwise (· < ·) → l'.Pairwise (· < ·) → (∀ x,x ∈ l ↔ x ∈ l') → l = l'
  | [],[],_,_,_=>rfl
  | [],y :: t',_,_,h=>by have:=(h y).2 (by simp);cases this
  | x :: t,[],_,_,h=>by have:=(h x).1 (by simp);cases this
  | x :: t,y :: t',h1,h2,h=>by
    have a1:=List.pairwise_cons.1 h1
    have a2:=List.pairwise_cons.1 h2
    have hx:=(h x).1 (by simp)
    have hy:=(h y).2 (by simp)
    have e : x = y:=by
      rcases List.mem_cons.1 hx with e | hx
      · exact e
      · rcases List.mem_cons.1 hy with e | hy
        · exact e.symm
        · have:=a1.1 y hy
          have:=a2.1 x hx
          omega
    subst e
    refine congrArg (x :: ·) (strict_unique a1.2 a2.2 fun z=>⟨fun hz=>?_,fun hz=>?_⟩)
    · rcases List.mem_cons.1 ((h z).1 (List.mem_cons_of_mem _ hz)) with rfl | hz'
      · have:=a1.1 _ hz;omega
      · exact hz'
    · rcases List.mem_cons.1 ((h z).2 (List.mem_cons_of_mem _ hz)) with rfl | hz'
      · have:=a2.1 _ hz;omega
      · exact hz'
theorem listZ_strict (k : Nat) (p : Nat → Bool) : (listZ k p).Pairwise (· < ·):=by
  induction k with
  | zero=>simp [listZ]
  | succ k ih=>
    rw [listZ_succ]
    cases hp : p k with
    | false=>simpa using ih
    | true=>
      simp only [if_true,List.pairwise_append]
      refine ⟨ih,by simp,fun x hx y hy=>?_⟩
      obtain ⟨i,h1,h2,h3⟩:=mem_listZ.1 hx
      simp at hy;omega
theorem strict_of {l : List Int} (h : l.Pairwise (· ≤ ·)) (hn : l.Nodup) : l.Pairwise (· < ·):=by
  have:=List.pairwise_and_iff.2 ⟨h,hn⟩
  exact this.imp fun h=>by have:=h.1;have:=h.2;omega
theorem sort_listZ {k : Nat} {q : Nat → Bool} {out : List Int} (h : OutOk k q out) : sortZ out = listZ k q:=by
  refine strict_unique (strict_of (sortZ_sorted out) ((sortZ_perm out).nodup_iff.2 h.nodup)) (listZ_strict k q) fun x=>?_
  rw [(sortZ_perm out).mem_iff,h.mem,mem_listZ]
theorem compact_spec (d : Array Int) (hd : ∀ i j,i ≤ j → j < d.size → d[i]! ≤ d[j]!) : ∀ m,m ≤ d.size → (Lib.compactUpTo d m).Pairwise (· < ·) ∧ ∀ x,x ∈ Lib.compactUpTo d m ↔ ∃ j,j < m ∧ d[j]! = x
  | 0,_=>by simp [Lib.compactUpTo]
  | m + 1,hm=>by
    obtain ⟨h1,h2⟩:=compact_spec d hd m (by omega)
    rw [Lib.compactUpTo_succ]
    cases hk : Lib.keeps d m with
    | true=>
      simp only [if_true]
      have hlt : ∀ j,j < m → d[j]! < d[m]!:=by
        intro j hj
        simp only [Lib.keeps,decide_eq_true_eq] at hk
        have:=hd j (m - 1) (by omega) (by omega)
        have:=hd (m - 1) m (by omega) (by omega)
        rcases hk with hk | hk
        · omega
        · omega
      refine ⟨List.pairwise_append.2 ⟨h1,by simp,fun x hx y hy=>?_⟩,fun x=>?_⟩
      · obtain ⟨j,j1,j2⟩:=(h2 x).1 hx
        have:=hlt j j1
        simp at hy;omega
      · rw [List.mem_append,h2]
        constructor
        · rintro (⟨j,j1,j2⟩ | hx)
          · exact ⟨j,by omega,j2⟩
          · exact ⟨m,by omega,by simpa using Eq.symm (by simpa using hx)⟩
        · rintro ⟨j,j1,j2⟩
          by_cases e : j = m
          · subst e;exact .inr (by simp [← j2])
          · exact .inl ⟨j,by omega,j2⟩
    | false=>
      simp only [Bool.false_eq_true,if_false,List.append_nil]
      refine ⟨h1,fun x=>?_⟩
      rw [h2]
      simp only [Lib.keeps,decide_eq_false_iff_not,not_or,Decidable.not_not] at hk
      constructor
      · rintro ⟨j,j1,j2⟩;exact ⟨j,by omega,j2⟩
      · rintro ⟨j,j1,j2⟩
        by_cases e : j = m
        · subst e;exact ⟨j - 1,by omega,by rw [← hk.2];exact j2⟩
        · exact ⟨j,by omega,j2⟩
theorem pw_get {l : List Int} (h : l.Pairwise (· ≤ ·)) (i j : Nat) (hij : i ≤ j) (hj : j < l.toArray.size) : l.toArray[i]! ≤ l.toArray[j]!:=by
  simp at hj
  rw [getElem!_pos l.toArray i (by simp;omega),getElem!_pos l.toArray j (by simpa using hj)]
  simp
  by_cases e : i = j
  · subst e;exact Int.le_refl _
  · exact List.pairwise_iff_getElem.1 h i j (by omega) hj (by omega)
theorem compact_sorted (zs : List Int) : (Lib.compact (sortZ zs)).Pairwise (· < ·) ∧ ∀ x,x ∈ Lib.compact (sortZ zs) ↔ x ∈ zs:=by
  have hs:=sortZ_sorted zs
  obtain ⟨h1,h2⟩:=compact_spec (sortZ zs).toArray (pw_get hs) (sortZ zs).length (by simp)
  refine ⟨h1,fun x=>?_⟩
  rw [← (sortZ_perm zs).mem_iff]
  show x ∈ Lib.compactUpTo _ _ ↔ _
  rw [h2,List.mem_iff_getElem]
  constructor
  · rintro ⟨j,j1,j2⟩
    exact ⟨j,j1,by rw [← j2,getElem!_pos (sortZ zs).toArray j (by simpa using j1)];simp⟩
  · rintro ⟨j,j1,j2⟩
    exact ⟨j,j1,by rw [← j2,getElem!_pos (sortZ zs).toArray j (by simpa using j1)];simp⟩
theorem compact_len (zs : List Int) : (Lib.compact zs).length ≤ zs.length:=by
  unfold Lib.compact Lib.compactUpTo
  have:=List.length_filter_le (Lib.keeps zs.toArray) (List.range zs.length)
  simpa using this
theorem sortZ_len (zs : List Int) : (sortZ zs).length = zs.length:=(sortZ_perm zs).length_eq
theorem sort_vec {m : Nat} {d : D} {H : Heap} {zs : List Int} (h : VecAt m d H (zs.map (.int .i64))) (hl : zs.length ≤ 1000000) : ∃ H',pSort [d] H = some (.ok (.tup []) H') ∧ VecAt m d H' ((sortZ zs).map (.int .i64)) ∧ Same m H H':=by
  obtain ⟨h0,h | ⟨h1,r,h2,h3,h4,h5⟩⟩:=h
  · obtain ⟨h1,rfl⟩:=h
    obtain rfl : zs = []:=by simpa using h1
    exact ⟨H,rfl,⟨h0,.inl ⟨rfl,rfl⟩⟩,Same.refl⟩
  · have hz : zs ≠ []:=by simpa using h1
    subst h4
    refine ⟨H.set r (.arr ((sortZ zs).map (.int .i64))),?_,⟨by simpa using h0,.inr ⟨?_,r,h2,by simpa using h3,?_,hget_set_eq h3⟩⟩,Same.set h2⟩
    · simp only [pSort,h5,intsD_map,Option.bind_some]
      rw [if_pos ⟨by simp,by omega,by cases zs with | nil=>exact absurd rfl hz | cons a b=>simp⟩]
    · have:=sortZ_len zs
      intro e
      have e2 : sortZ zs = []:=by simpa using e
      rw [e2] at this
      cases zs with
      | nil=>exact hz rfl
      | cons a b=>simp at this
    · simp [sortZ_len]
theorem compact_vec {m : Nat} {d : D} {H : Heap} {zs : List Int} (h : VecAt m d H (zs.map (.int .i64))) (hl : zs.length ≤ 1000000) : ∃ d' H',pCompact [d] H = some (.ok d' H') ∧ outPure H' d' = some (isD (Lib.compact zs)) ∧ Same m H H':=by
  obtain ⟨h0,h | ⟨h1,r,h2,h3,h4,h5⟩⟩:=h
  · obtain ⟨h1,rfl⟩:=h
    obtain rfl : zs = []:=by simpa using h1
    exact ⟨_,H,rfl,rfl,Same.refl⟩
  · have hz : zs ≠ []:=by simpa using h1
    subst h4
    refine ⟨.vec r 0 (Lib.compact zs).length,H.set r (.arr ((compactZ zs).map (.int .i64))),?_,?_,Same.set h2⟩
    · simp only [pCompact,h5,intsD_map,Option.bind_some]
      rw [if_pos ⟨by simp,by omega,by cases zs with | nil=>exact absurd rfl hz | cons a b=>simp,compact_len zs⟩]
    · unfold outPure deepest
      rw [pur_vec,hget_set_eq h3]
      have hcl : (compactZ zs).length = zs.length:=by have:=compact_len zs;simp [compactZ];omega
      have htk : (((compactZ zs).map (D.int .i64)).drop 0).take (Lib.compact zs).length = (Lib.compact zs).map (.int .i64):=by
        rw [List.drop_zero,← List.map_take]
        congr 1
        simp [compactZ]
      have hle:=compact_len zs
      simp only [Nat.zero_add,List.length_map,hcl,if_pos hle,htk]
      rw [purL_strip (strip_ints _)]
      rfl
end Go.Proofs.W
end
section
namespace Go.Proofs.W
open Go Vm Go.Proofs.Zs25
def inS (k : Nat) (l : List Int) (s : Nat) : Prop:=s < k ∧ (s : Int) ∈ l
theorem Reach.sub {n : Nfa} {p p' : Nat → Prop} {x : Nat} (h : Reach n p x) (hp : ∀ s,p s → Reach n p' s) : Reach n p' x:=by
  induction h with
  | base h=>exact hp _ h
  | step _ h ih=>exact .step ih h
theorem closed_ok (n : Nfa) (l : List Int) (hn : rightN n = true) (hfl : ∀ l ∈ n.free,l.length ≤ 1000000) (hl : l.length ≤ 1000000) : PureF Tryz.prog A 119 [nfaD n,isD l] (isD (listZ n.set.length (clo n (inS n.set.length l)))):=by
  have hgo:=go_ok n hn hfl
  have hrr:=right_row hn
  have hk:=hrr.1
  have hk2:=hrr.2.1
  have hfree:=fun i hi x hx=>right_free hn (i:=i) hi (x:=x) hx
  have hceq:=fun q=>clo_eq hn (p:=inS n.set.length l) (fun s h=>h.1) (q:=q)
  have hmk : ∀ H,makeSliceD Tryz.prog 104 (.int .i64 n.set.length) (.int .i64 n.set.length) H = some (.vec H.length 0 n.set.length,H ++ [.arr (tabD n.set.length fun _=>false)]):=fun H=>mkBools hk (by omega)
  generalize hkk : n.set.length = k at *
  refine evF_inB (n:=28) (rs:=[.tmp 4]) Tryz.func119 rfl rfl rfl rfl rfl rfl ?_
  repeat' (first | apply wz1|apply wz2|apply wz3|apply wz4|apply wz5|apply wz6 | simp -dsimp (maxSteps:=999999) (disch:=omega) only[go_sem,simprocAttr, *,nfaD,u16D,isD] | ((first | refine wz8 (fun hh=>?_) (fun hh=>?_) | refine wz9 (fun hh=>?_) (fun hh=>?_) | refine wpB_cond (by simp -dsimp (maxSteps:=999999) (disch:=omega) only[go_sem,simprocAttr, *,nfaD,u16D,isD];exact rfl) (fun hh=>?_) (fun hh=>?_)) <;> (try replace hh:=vqs hh) <;> (try (exfalso;first | exact hh | omega))))
  let I : Nat → Env → Heap → Prop:=fun j e H=>∃ (q : Nat → Bool) (out : List Int) (d : D),DS n k q out d H ∧ OutOk k q out ∧ e 6 = .ptr 3 0 0 ∧ e 7 = .ptr 4 0 0 ∧ e 15 = isD l ∧ e 16 = .int .i64 l.length ∧ e 17 = .int .i64 j
    ∧ (∀ x,x < k → q x = true → Reach n (inS k l) x) ∧ (∀ x,x < k → q x = true → ∀ y : Nat,(y : Int) ∈ n.free.getD x [] → q y = true) ∧ (∀ y : Nat,y < k → (y : Int) ∈ l.take j → q y = true)
  refine wpB_loop (fun e H=>∃ j,j ≤ l.length ∧ I j e H) (fun e H=>l.length - natOf (e 17)) ?_ ?_
  · refine ⟨0,by omega,fun _=>false,[],.sl true [],⟨rfl,rfl,rfl,rfl,VecAt.nil (by simp),rfl⟩,⟨by simp,by simp,?_⟩,gs,gs,by simp -dsimp (maxSteps:=999999) (disch:=omega) only[go_sem,simprocAttr, *,isD],by simp -dsimp (maxSteps:=999999) (disch:=omega) only[go_sem,simprocAttr, *,isD],gs,by simp,by simp,fun y _ h=>by simp at h⟩
    have : ∀ m,cntF (fun _=>false) m = m:=fun m=>by
      induction m with
      | zero=>rfl
      | succ m ih=>simp [cntF,ih]
    simp [this]
  · rintro e H ⟨j,hj,q,out,d,hds,hout,e6,e7,e15,e16,e17,g1,g2,g3⟩ R hR
    have h4:=hds.h4
    have h3:=hds.h3
    simp only [goA] at h4
    by_cases hb : j < l.length
    · have hcall:=hgo _ l[j] q out d H (Nat.le_refl _) hds hout
      simp only [goA] at hcall
      repeat' (first | apply wz1|apply wz2|apply wz3|apply wz4|apply wz5|apply wz6 | simp -dsimp (maxSteps:=999999) (disch:=omega) only[go_sem,simprocAttr, *,isD] | ((first | refine wz8 (fun hh=>?_) (fun hh=>?_) | refine wz9 (fun hh=>?_) (fun hh=>?_) | refine wpB_cond (by simp -dsimp (maxSteps:=999999) (disch:=omega) only[go_sem,simprocAttr, *,isD];exact rfl) (fun hh=>?_) (fun hh=>?_)) <;> (try replace hh:=vqs hh) <;> (try (exfalso;first | exact hh | omega))))
      refine evB_state bo138 rfl rfl hcall ?_ (fun _ _ h=>h.elim)
      rintro _ H2 ⟨q2,out2,d2,hd2,ho2,hw⟩
      repeat' (first | apply wz1|apply wz2|apply wz3|apply wz4|apply wz5|apply wz6 | simp -dsimp (maxSteps:=999999) (disch:=omega) only[go_sem,simprocAttr, *] | ((first | refine wz8 ?_ ?_|refine wz9 ?_ ?_|refine wz7 ?_ ?_)<;>intro hh <;> (try replace hh:=vqs hh) <;> (try (exfalso;first | exact hh | omega))))
      rcases hw with ⟨h7,rfl⟩ | ⟨h7,h8,h9,hw⟩
      · refine hR _ _ ⟨j + 1,by omega,q2,out2,d2,hd2,ho2,gs,gs,gs,gs,gs,g1,g2,fun y hy hyl=>?_⟩ ?_
        · rw [take_succ' hb,List.mem_append] at hyl
          rcases hyl with h | h
          · exact g3 y hy h
          · simp at h;omega
        · simp -dsimp (maxSteps:=999999) (disch:=omega) only[go_sem,simprocAttr, *,natOf_int]
      · obtain ⟨y,hy⟩ : ∃ y : Nat,l[j] = (y : Int):=⟨l[j].toNat,by omega⟩
        rw [hy,Int.toNat_natCast] at h9 hw
        have hyS : inS k l y:=⟨by omega,by rw [← hy];exact List.getElem_mem hb⟩
        refine hR _ _ ⟨j + 1,by omega,q2,out2,d2,hd2,ho2,gs,gs,gs,gs,gs,fun x hx h=>?_,fun x hx h z hz=>?_,fun z hz hzl=>?_⟩ ?_
        · rcases hw.from' x hx h with h | h
          · exact g1 x hx h
          · exact h.sub fun z hz=>by subst hz;exact .base hyS
        · cases hq : q x with
          | true=>exact hw.keep z (by have:=hfree x hx z hz;omega) (g2 x hx hq z hz)
          | false=>exact hw.new x hx h hq z hz
        · rw [take_succ' hb,List.mem_append] at hzl
          rcases hzl with h | h
          · exact hw.keep z hz (g3 z hz h)
          · obtain rfl : z = y:=by simp [hy] at h;omega
            exact h9
        · simp -dsimp (maxSteps:=999999) (disch:=omega) only[go_sem,simprocAttr, *,natOf_int]
    · obtain ⟨H3,hs1,hs2,hs3⟩:=sort_vec hds.hv (by have:=hout.len;omega)
      have h33:=hs3.2 3 (by omega)
      rw [h3] at h33
      obtain ⟨w1,w2,w3⟩:=hds.hv.one
      repeat' (first | apply wz1|apply wz2|apply wz3|apply wz4|apply wz5|apply wz6 | simp -dsimp (maxSteps:=999999) (disch:=omega) only[go_sem,simprocAttr, *] | ((first | refine wz8 ?_ ?_|refine wz9 ?_ ?_|refine wz7 ?_ ?_)<;>intro hh <;> (try replace hh:=vqs hh) <;> (try (exfalso;first | exact hh | omega))))
      refine evB_prim bo139 rfl hs1 ?_
      repeat' (first | apply wz1|apply wz2|apply wz3|apply wz4|apply wz5|apply wz6 | simp -dsimp (maxSteps:=999999) (disch:=omega) only[go_sem,simprocAttr, *] | ((first | refine wz8 ?_ ?_|refine wz9 ?_ ?_|refine wz7 ?_ ?_)<;>intro hh <;> (try replace hh:=vqs hh) <;> (try (exfalso;first | exact hh | omega))))
      rw [hs2.out (strip_ints _),sort_listZ hout]
      have he : listZ k q = listZ k (clo n (inS k l)):=by
        have:=hceq q (fun s _ h=>g3 s h.1 (by rw [List.take_of_length_le (by omega)];exact h.2)) g1 g2
        unfold listZ
        congr 1
        exact List.filter_congr fun s hs=>this s (by simpa using hs)
      rw [he];rfl
end Go.Proofs.W
end
section
namespace Go.Proofs.W
open Go Vm Go.Proofs.Zs25
theorem pures_one {a x : D} {H : Heap} {k : Nat} (ha : strip a = some a) (hx : strip x = some x) (hk : k = H.length) : pures (H ++ [.arr [x]]) [a,.vec k 0 1] = some ([a,.sl false [x]],H ++ [.fro [x]]):=by
  subst hk
  have hg : hget (H ++ [Ob.arr [x]]) H.length = .arr [x]:=by rw [hget_app0];rfl
  simp only [pures,deepest,purL,pur_strip ha,Option.bind_some]
  rw [show (6 : Nat) = 4 + 2 from rfl,pur_vec,hg]
  have hs : stripL [x] = some [x]:=by simp [stripL,hx]
  simp only [Nat.zero_add,List.length_cons,List.length_nil,Nat.le_refl,if_true,List.drop_zero,List.take_succ_cons,List.take_zero]
  rw [purL_strip hs]
  simp
noncomputable def clos (n : Nfa) (l : List Int) : List Int:=listZ n.set.length (clo n (inS n.set.length l))
def stp (n : Nfa) (c : Int) (l : List Int) : List Int:=listZ n.set.length (stepTo n c (fun s=>decide ((s : Int) ∈ l)) n.set.length)
def okS (n : Nfa) (c s : Int) : Bool:=isS n.set.length s && hit n c s.toNat
def steps (n : Nfa) (c : Int) (l : List Int) : List Int:=(l.filter (okS n c)).map fun s=>n.to.getD s.toNat 0
theorem steps_take {n : Nfa} {c : Int} {l : List Int} {j : Nat} (h : j < l.length) : steps n c (l.take (j + 1)) = steps n c (l.take j) ++ if okS n c l[j] then [n.to.getD l[j].toNat 0] else []:=by
  unfold steps
  rw [take_succ' h,List.filter_append,List.map_append]
  congr 1
  by_cases hq : okS n c l[j] = true <;> simp [hq]
theorem steps_len (n : Nfa) (c : Int) (l : List Int) : (steps n c l).length ≤ l.length:=by
  have:=List.length_filter_le (okS n c) l
  simpa [steps] using this
theorem steps_eq {n : Nfa} (hn : rightN n = true) (c : Int) (l : List Int) : Lib.compact (sortZ (steps n c l)) = stp n c l:=by
  obtain ⟨h1,h2⟩:=compact_sorted (steps n c l)
  refine strict_unique h1 (listZ_strict _ _) fun x=>?_
  rw [h2]
  unfold stp
  rw [mem_listZ]
  simp only [steps,List.mem_map,List.mem_filter,stepTo,List.any_eq_true,List.mem_range,Bool.and_eq_true,decide_eq_true_eq,okS,isS_iff]
  constructor
  · rintro ⟨s,⟨h3,⟨h4,h5⟩,h6⟩,rfl⟩
    have:=right_hit hn (by omega) h6
    exact ⟨(n.to.getD s.toNat 0).toNat,by omega,⟨s.toNat,by omega,⟨by rw [show ((s.toNat : Nat) : Int) = s by omega];exact h3,h6⟩,by omega⟩,by omega⟩
  · rintro ⟨i,h3,⟨j,h4,⟨h5,h6⟩,h7⟩,rfl⟩
    exact ⟨(j : Int),⟨h5,⟨by omega,by omega⟩,by simpa using h6⟩,by simpa using h7⟩
theorem step_ok (n : Nfa) (c : Int) (l : List Int) (hn : rightN n = true) (hl : l.length ≤ 100000) : PureF Tryz.prog A 120 [nfaD n,isD l,.int .i64 c] (isD (stp n c l)):=by
  have hrr:=right_row hn
  have hk:=hrr.1
  have hk2:=hrr.2.1
  have hto0:=hrr.2.2.2.1
  have hse:=steps_eq hn c l
  have hH : ∀ (i : Nat) (s : Int),n.set.getD i 0 = s → 0 ≤ c → c < 16 → hit n c i = bitZ s c:=fun i s h h0 h1=>hit_bit h0 h1 h
  refine evF_inB (n:=57) (rs:=[.tmp 6]) Tryz.func120 rfl rfl rfl rfl rfl rfl ?_
  repeat' (first | apply wz1|apply wz2|apply wz3|apply wz4|apply wz5|apply wz6 | simp -dsimp (maxSteps:=999999) (disch:=omega) only[go_sem,simprocAttr, *,isD,nfaD] | ((first | refine wz8 (fun hh=>?_) (fun hh=>?_) | refine wz9 (fun hh=>?_) (fun hh=>?_) | refine wpB_cond (by simp -dsimp (maxSteps:=999999) (disch:=omega) only[go_sem,simprocAttr, *,isD,nfaD];exact rfl) (fun hh=>?_) (fun hh=>?_)) <;> (try replace hh:=vqs hh) <;> (try (exfalso;first | exact hh | omega))))
  refine wpB_loop (fun e H=>∃ (j : Nat) (d : D),j ≤ l.length ∧ hget H 0 = .arr [nfaD n] ∧ VecAt 1 d H ((steps n c (l.take j)).map (.int .i64)) ∧ e 2 = .int .i64 c ∧ e 3 = .ptr 0 0 0 ∧ e 7 = d ∧ e 10 = isD l ∧ e 11 = .int .i64 l.length ∧ e 12 = .int .i64 j) (fun e H=>l.length - natOf (e 12)) ?_ ?_
  · exact ⟨0,.sl true [],by omega,rfl,VecAt.nil (by simp),gs,gs,gs,by simp -dsimp (maxSteps:=999999) (disch:=omega) only[go_sem,simprocAttr, *,isD],gs,gs⟩
  · rintro e H ⟨j,d,hj,h0,hv,e2,e3,e7,e10,e11,e12⟩ R hR
    by_cases hb : j < l.length
    · have hst:=steps_take (n:=n) (c:=c) hb
      have no : okS n c l[j] = false → steps n c (l.take (j + 1)) = steps n c (l.take j):=fun h=>by rw [hst,h];simp
      by_cases hin : isS n.set.length l[j] = true
      · obtain ⟨i,hi⟩ : ∃ i : Nat,l[j] = (i : Int):=⟨l[j].toNat,by have:=isS_iff.1 hin;omega⟩
        have hik : i < n.set.length:=by have:=isS_iff.1 hin;omega
        obtain ⟨s,hs1,hs2⟩:=ex_at (l:=n.set) (i:=i) 0 (by omega)
        obtain ⟨t,ht1,ht2⟩:=ex_at (l:=n.to) (i:=i) 0 (by omega)
        have hx : l[j]? = some (i : Int):=by rw [List.getElem?_eq_getElem hb,hi]
        have hokS : okS n c l[j] = hit n c i:=by rw [hi] at hin ⊢;simp only [okS,hin,Int.toNat_natCast,Bool.true_and]
        rw [hokS] at no hst
        have hbit:=hH i s hs2
        simp only [bitZ] at hbit
        cases hht : hit n c i with
        | false=>
          have hno:=no hht
          clear hst no hokS hin hi
          by_cases c0 : 0 ≤ c
          · by_cases c1 : c < 16
            · replace hbit:=(hbit c0 c1).symm.trans hht
              repeat' (first | apply wz1|apply wz2|apply wz3|apply wz4|apply wz5|apply wz6 | simp -dsimp (maxSteps:=999999) (disch:=omega) only[go_sem,simprocAttr, *,nfaD,u16D,isD] | ((first | refine wz8 (fun hh=>?_) (fun hh=>?_) | refine wz9 (fun hh=>?_) (fun hh=>?_) | refine wpB_cond (by simp -dsimp (maxSteps:=999999) (disch:=omega) only[go_sem,simprocAttr, *,nfaD,u16D,isD];exact rfl) (fun hh=>?_) (fun hh=>?_)) <;> (try replace hh:=vqs hh) <;> (try (exfalso;first | exact hh | omega))))
              · exact absurd (hbit.symm.trans (beq_iff_eq.2 (by assumption))) (by decide)
              · refine hR _ _ ⟨j + 1,d,by omega,by simp -dsimp (maxSteps:=999999) (disch:=omega) only[go_sem,simprocAttr, *,nfaD,u16D,isD],by rw [hno];exact hv,gs,gs,gs,by simp -dsimp (maxSteps:=999999) (disch:=omega) only[go_sem,simprocAttr, *,isD],gs,gs⟩ ?_
                simp -dsimp (maxSteps:=999999) (disch:=omega) only[go_sem,simprocAttr, *,natOf_int]
            · clear hbit
              repeat' (first | apply wz1|apply wz2|apply wz3|apply wz4|apply wz5|apply wz6 | simp -dsimp (maxSteps:=999999) (disch:=omega) only[go_sem,simprocAttr, *,nfaD,u16D,isD] | ((first | refine wz8 (fun hh=>?_) (fun hh=>?_) | refine wz9 (fun hh=>?_) (fun hh=>?_) | refine wpB_cond (by simp -dsimp (maxSteps:=999999) (disch:=omega) only[go_sem,simprocAttr, *,nfaD,u16D,isD];exact rfl) (fun hh=>?_) (fun hh=>?_)) <;> (try replace hh:=vqs hh) <;> (try (exfalso;first | exact hh | omega))))
              refine hR _ _ ⟨j + 1,d,by omega,by simp -dsimp (maxSteps:=999999) (disch:=omega) only[go_sem,simprocAttr, *,nfaD,u16D,isD],by rw [hno];exact hv,gs,gs,gs,by simp -dsimp (maxSteps:=999999) (disch:=omega) only[go_sem,simprocAttr, *,isD],gs,gs⟩ ?_
              simp -dsimp (maxSteps:=999999) (disch:=omega) only[go_sem,simprocAttr, *,natOf_int]
          · clear hbit
            repeat' (first | apply wz1|apply wz2|apply wz3|apply wz4|apply wz5|apply wz6 | simp -dsimp (maxSteps:=999999) (disch:=omega) only[go_sem,simprocAttr, *,nfaD,u16D,isD] | ((first | refine wz8 (fun hh=>?_) (fun hh=>?_) | refine wz9 (fun hh=>?_) (fun hh=>?_) | refine wpB_cond (by simp -dsimp (maxSteps:=999999) (disch:=omega) only[go_sem,simprocAttr, *,nfaD,u16D,isD];exact rfl) (fun hh=>?_) (fun hh=>?_)) <;> (try replace hh:=vqs hh) <;> (try (exfalso;first | exact hh | omega))))
            refine hR _ _ ⟨j + 1,d,by omega,by simp -dsimp (maxSteps:=999999) (disch:=omega) only[go_sem,simprocAttr, *,nfaD,u16D,isD],by rw [hno];exact hv,gs,gs,gs,by simp -dsimp (maxSteps:=999999) (disch:=omega) only[go_sem,simprocAttr, *,isD],gs,gs⟩ ?_
            simp -dsimp (maxSteps:=999999) (disch:=omega) only[go_sem,simprocAttr, *,natOf_int]
        | true=>
          have hc : 0 ≤ c ∧ c < 16:=by
            simp only [hit,inB,Bool.and_eq_true,decide_eq_true_eq] at hht
            exact hht.1
          obtain ⟨c0,c1⟩:=hc
          replace hbit:=(hbit c0 c1).symm.trans hht
          rw [hht,hi] at hst
          simp only [if_true,Int.toNat_natCast,ht2] at hst
          obtain ⟨d',H',ha,hv',hsm⟩:=app_int hv t (by have:=steps_len n c (l.take j);simp at this;omega)
          have h0':=hsm.2 0 (by omega)
          rw [h0] at h0'
          clear no hokS hin hi
          repeat' (first | apply wz1|apply wz2|apply wz3|apply wz4|apply wz5|apply wz6 | simp -dsimp (maxSteps:=999999) (disch:=omega) only[go_sem,simprocAttr, *,nfaD,u16D,isD] | ((first | refine wz8 (fun hh=>?_) (fun hh=>?_) | refine wz9 (fun hh=>?_) (fun hh=>?_) | refine wpB_cond (by simp -dsimp (maxSteps:=999999) (disch:=omega) only[go_sem,simprocAttr, *,nfaD,u16D,isD];exact rfl) (fun hh=>?_) (fun hh=>?_)) <;> (try replace hh:=vqs hh) <;> (try (exfalso;first | exact hh | omega))))
          rotate_left
          · exact absurd (beq_iff_eq.1 hbit) (by assumption)
          refine hR _ _ ⟨j + 1,d',by omega,by simp -dsimp (maxSteps:=999999) (disch:=omega) only[go_sem,simprocAttr, *,nfaD,u16D,isD],by rw [hst];exact hv',gs,gs,gs,by simp -dsimp (maxSteps:=999999) (disch:=omega) only[go_sem,simprocAttr, *,isD],gs,gs⟩ ?_
          simp -dsimp (maxSteps:=999999) (disch:=omega) only[go_sem,simprocAttr, *,natOf_int]
      · have hno:=no (by simp only [okS,Bool.and_eq_false_iff];left;simpa using hin)
        have hrng : l[j] < 0 ∨ (n.set.length : Int) ≤ l[j]:=by
          have : ¬ (0 ≤ l[j] ∧ l[j] < (n.set.length : Int)):=fun h=>hin (isS_iff.2 h)
          omega
        clear no hst hH
        rcases hrng with h | h
        all_goals
          repeat' (first | apply wz1|apply wz2|apply wz3|apply wz4|apply wz5|apply wz6 | simp -dsimp (maxSteps:=999999) (disch:=omega) only[go_sem,simprocAttr, *,nfaD,u16D,isD] | ((first | refine wz8 (fun hh=>?_) (fun hh=>?_) | refine wz9 (fun hh=>?_) (fun hh=>?_) | refine wpB_cond (by simp -dsimp (maxSteps:=999999) (disch:=omega) only[go_sem,simprocAttr, *,nfaD,u16D,isD];exact rfl) (fun hh=>?_) (fun hh=>?_)) <;> (try replace hh:=vqs hh) <;> (try (exfalso;first | exact hh | omega))))
          refine hR _ _ ⟨j + 1,d,by omega,by simp -dsimp (maxSteps:=999999) (disch:=omega) only[go_sem,simprocAttr, *,nfaD,u16D,isD],by rw [hno];exact hv,gs,gs,gs,by simp -dsimp (maxSteps:=999999) (disch:=omega) only[go_sem,simprocAttr, *,isD],gs,gs⟩ ?_
          simp -dsimp (maxSteps:=999999) (disch:=omega) only[go_sem,simprocAttr, *,natOf_int]
    · have hle:=steps_len n c (l.take j)
      rw [List.take_of_length_le (by omega)] at hv hle
      obtain ⟨H3,hs1,hs2,hs3⟩:=sort_vec hv (by omega)
      obtain ⟨d4,H4,hc1,hc2,hc3⟩:=compact_vec hs2 (by rw [sortZ_len];omega)
      repeat' (first | apply wz1|apply wz2|apply wz3|apply wz4|apply wz5|apply wz6 | simp -dsimp (maxSteps:=999999) (disch:=omega) only[go_sem,simprocAttr, *] | ((first | refine wz8 ?_ ?_|refine wz9 ?_ ?_|refine wz7 ?_ ?_)<;>intro hh <;> (try replace hh:=vqs hh) <;> (try (exfalso;first | exact hh | omega))))
      refine evB_prim bo139 rfl hs1 ?_
      repeat' (first | apply wz1|apply wz2|apply wz3|apply wz4|apply wz5|apply wz6 | simp -dsimp (maxSteps:=999999) (disch:=omega) only[go_sem,simprocAttr, *] | ((first | refine wz8 ?_ ?_|refine wz9 ?_ ?_|refine wz7 ?_ ?_)<;>intro hh <;> (try replace hh:=vqs hh) <;> (try (exfalso;first | exact hh | omega))))
      refine evB_prim bo140 rfl hc1 ?_
      repeat' (first | apply wz1|apply wz2|apply wz3|apply wz4|apply wz5|apply wz6 | simp -dsimp (maxSteps:=999999) (disch:=omega) only[go_sem,simprocAttr, *] | ((first | refine wz8 ?_ ?_|refine wz9 ?_ ?_|refine wz7 ?_ ?_)<;>intro hh <;> (try replace hh:=vqs hh) <;> (try (exfalso;first | exact hh | omega))))
end Go.Proofs.W
end
section
namespace Go.Proofs.W
open Go Vm Go.Proofs.Zs25
theorem evB_pureK {f : FuncId} {args xs : List D} {d : D} {H H' : Heap} {K Kp : D → Heap → Prop} (hb : bodied Tryz.prog f = true) (hp : primQ A f = false) (hm : A.mode f = .pure) (ha : pures H args = some (xs,H')) (h : PureF Tryz.prog A f xs d) (k : ∀ H2,H2 = H ∨ H2 = H' → PP (K d H2)) : EvB Tryz.prog A f args H K Kp:=by
  refine evB_pure hb hp hm ha h ?_
  split
  · exact k _ (.inl rfl)
  · exact k _ (.inr rfl)
theorem nfa_noTup (n : Nfa) : noTup (nfaD n) = true:=rfl
theorem nfa_cells (n : Nfa) : (nfaD n).cells.length = 4:=rfl
theorem nfa_aggQ (n : Nfa) : aggQ (nfaD n) = true:=rfl
theorem stripN (n : Nfa) : stripL [nfaD n] = some [nfaD n]:=strip1 (strip_nfa n)
theorem stripNI (n : Nfa) (l : List Int) : stripL [nfaD n,isD l] = some [nfaD n,isD l]:=strip2 (strip_nfa n) (strip_is l)
theorem stripNIc (n : Nfa) (l : List Int) (c : Int) : stripL [nfaD n,isD l,.int .i64 c] = some [nfaD n,isD l,.int .i64 c]:=by simp [stripL,strip_nfa,strip_is,strip]
noncomputable def closeN (n : Nfa) (l : List Int) : List Int:=if rightN n then clos n l else []
def stepN (n : Nfa) (c : Int) (l : List Int) : List Int:=if rightN n then stp n c l else []
noncomputable def atN (n : Nfa) (w : List Int) : List Int:=w.foldl (fun at' c=>clos n (stp n c at')) (clos n [0])
noncomputable def matchN (n : Nfa) (w : List Int) : Int:=if rightN n then endsZ n (atN n w) else -1
structure OkN (n : Nfa) : Prop where
  len : n.set.length ≤ 100000
  fl : ∀ l ∈ n.free,l.length ≤ 1000000
theorem close_ok (n : Nfa) (l : List Int) (h : OkN n) (hl : l.length ≤ 1000000) : PureF Tryz.prog A 91 [nfaD n,isD l] (isD (closeN n l)):=by
  have a1:=nfa_noTup n
  have a2:=nfa_cells n
  have a3:=nfa_aggQ n
  refine evF_inB (n:=11) (rs:=[.tmp 4]) Tryz.func91 rfl rfl rfl rfl rfl rfl ?_
  repeat' (first | apply wz1|apply wz2|apply wz3|apply wz4|apply wz5|apply wz6 | simp -dsimp (maxSteps:=999999) (disch:=omega) only[go_sem,simprocAttr, *] | ((first | refine wz8 ?_ ?_|refine wz9 ?_ ?_|refine wz7 ?_ ?_)<;>intro hh <;> (try replace hh:=vqs hh) <;> (try (exfalso;first | exact hh | omega))))
  refine evB_plain bo118 rfl rfl (stripN n) (nright_ok n (by have:=h.len;omega) h.fl) ?_
  unfold closeN
  cases hr : rightN n with
  | false=>
    repeat' (first | apply wz1|apply wz2|apply wz3|apply wz4|apply wz5|apply wz6 | simp -dsimp (maxSteps:=999999) (disch:=omega) only[go_sem,simprocAttr, *] | ((first | refine wz8 ?_ ?_|refine wz9 ?_ ?_|refine wz7 ?_ ?_)<;>intro hh <;> (try replace hh:=vqs hh) <;> (try (exfalso;first | exact hh | omega))))
    rfl
  | true=>
    repeat' (first | apply wz1|apply wz2|apply wz3|apply wz4|apply wz5|apply wz6 | simp -dsimp (maxSteps:=999999) (disch:=omega) only[go_sem,simprocAttr, *] | ((first | refine wz8 ?_ ?_|refine wz9 ?_ ?_|refine wz7 ?_ ?_)<;>intro hh <;> (try replace hh:=vqs hh) <;> (try (exfalso;first | exact hh | omega))))
    refine evB_plain bo119 rfl rfl (stripNI n l) (closed_ok n l hr h.fl hl) ?_
    repeat' (first | apply wz1|apply wz2|apply wz3|apply wz4|apply wz5|apply wz6 | simp -dsimp (maxSteps:=999999) (disch:=omega) only[go_sem,simprocAttr, *] | ((first | refine wz8 ?_ ?_|refine wz9 ?_ ?_|refine wz7 ?_ ?_)<;>intro hh <;> (try replace hh:=vqs hh) <;> (try (exfalso;first | exact hh | omega))))
    exact outPure_strip (strip_is _)
theorem stepc_ok (n : Nfa) (l : List Int) (c : Int) (h : OkN n) (hl : l.length ≤ 100000) : PureF Tryz.prog A 92 [nfaD n,isD l,.int .i64 c] (isD (stepN n c l)):=by
  have a1:=nfa_noTup n
  have a2:=nfa_cells n
  have a3:=nfa_aggQ n
  refine evF_inB (n:=14) (rs:=[.tmp 6]) Tryz.func92 rfl rfl rfl rfl rfl rfl ?_
  repeat' (first | apply wz1|apply wz2|apply wz3|apply wz4|apply wz5|apply wz6 | simp -dsimp (maxSteps:=999999) (disch:=omega) only[go_sem,simprocAttr, *] | ((first | refine wz8 ?_ ?_|refine wz9 ?_ ?_|refine wz7 ?_ ?_)<;>intro hh <;> (try replace hh:=vqs hh) <;> (try (exfalso;first | exact hh | omega))))
  refine evB_plain bo118 rfl rfl (stripN n) (nright_ok n (by have:=h.len;omega) h.fl) ?_
  unfold stepN
  cases hr : rightN n with
  | false=>
    repeat' (first | apply wz1|apply wz2|apply wz3|apply wz4|apply wz5|apply wz6 | simp -dsimp (maxSteps:=999999) (disch:=omega) only[go_sem,simprocAttr, *] | ((first | refine wz8 ?_ ?_|refine wz9 ?_ ?_|refine wz7 ?_ ?_)<;>intro hh <;> (try replace hh:=vqs hh) <;> (try (exfalso;first | exact hh | omega))))
    rfl
  | true=>
    repeat' (first | apply wz1|apply wz2|apply wz3|apply wz4|apply wz5|apply wz6 | simp -dsimp (maxSteps:=999999) (disch:=omega) only[go_sem,simprocAttr, *] | ((first | refine wz8 ?_ ?_|refine wz9 ?_ ?_|refine wz7 ?_ ?_)<;>intro hh <;> (try replace hh:=vqs hh) <;> (try (exfalso;first | exact hh | omega))))
    refine evB_plain bo120 rfl rfl (stripNIc n l c) (step_ok n c l hr hl) ?_
    repeat' (first | apply wz1|apply wz2|apply wz3|apply wz4|apply wz5|apply wz6 | simp -dsimp (maxSteps:=999999) (disch:=omega) only[go_sem,simprocAttr, *] | ((first | refine wz8 ?_ ?_|refine wz9 ?_ ?_|refine wz7 ?_ ?_)<;>intro hh <;> (try replace hh:=vqs hh) <;> (try (exfalso;first | exact hh | omega))))
    exact outPure_strip (strip_is _)
theorem stp_len (n : Nfa) (c : Int) (l : List Int) : (stp n c l).length ≤ n.set.length:=listZ_len _ _
theorem clos_len (n : Nfa) (l : List Int) : (clos n l).length ≤ n.set.length:=listZ_len _ _
theorem clos_in {n : Nfa} {l : List Int} {s : Int} (h : s ∈ clos n l) : 0 ≤ s ∧ s < n.set.length:=by
  obtain ⟨i,h1,h2,h3⟩:=mem_listZ.1 h
  omega
theorem atN_clos (n : Nfa) (w : List Int) : ∃ l,atN n w = clos n l:=by
  have : ∀ (w : List Int) (a : List Int),(∃ l,a = clos n l) → ∃ l,w.foldl (fun at' c=>clos n (stp n c at')) a = clos n l:=by
    intro w
    induction w with
    | nil=>exact fun a h=>h
    | cons c w ih=>exact fun a h=>ih _ ⟨_,rfl⟩
  exact this w _ ⟨_,rfl⟩
theorem atN_take {n : Nfa} {w : List Int} {j : Nat} (h : j < w.length) : atN n (w.take (j + 1)) = clos n (stp n w[j] (atN n (w.take j))):=by
  unfold atN
  rw [take_succ' h,List.foldl_append]
  rfl
end Go.Proofs.W
end
section
namespace Go.Proofs.W
open Go Vm Go.Proofs.Zs25
def own (L : List D) (r : Nat) : Prop:=∃ k,r ∈ objsD (L.getD k ud)
def Apart (L : List D) : Prop:=∀ i j,i ≠ j → ∀ r,r ∈ objsD (L.getD i ud) → r ∉ objsD (L.getD j ud)
structure Mv6 (L : List D) (H : Heap) (L' : List D) (H' : Heap) : Prop where
  keep : ∀ r,r < H.length → ¬ own L r → hget H' r = hget H r
  len : H.length ≤ H'.length
  ow : ∀ r,own L' r → own L r ∨ H.length ≤ r
theorem Mv6.refl {L : List D} {H : Heap} : Mv6 L H L H:=⟨fun _ _ _=>rfl,Nat.le_refl _,fun _ h=>.inl h⟩
theorem Mv6.trans {L L1 L2 : List D} {H H1 H2 : Heap} (h : Mv6 L H L1 H1) (g : Mv6 L1 H1 L2 H2) : Mv6 L H L2 H2:=by
  refine ⟨fun r hr ho=>?_,Nat.le_trans h.len g.len,fun r ho=>?_⟩
  · rw [g.keep r (by have:=h.len;omega) fun h1=>?_,h.keep r hr ho]
    rcases h.ow r h1 with h2 | h2
    · exact ho h2
    · omega
  · rcases g.ow r ho with h1 | h1
    · exact h.ow r h1
    · exact .inr (by have:=h.len;omega)
theorem vec_lt {d : D} {H : Heap} {xs : List D} (h : VecIs d H xs) {r : Nat} (hr : r ∈ objsD d) : r < H.length:=by
  rcases h with ⟨_,rfl⟩ | ⟨_,r',rfl,_,h4⟩
  · cases hr
  · simp [objsD] at hr;omega
theorem vec_keep {d : D} {H H' : Heap} {xs : List D} (h : VecIs d H xs) (hl : H.length ≤ H'.length) (hk : ∀ r ∈ objsD d,hget H' r = hget H r) : VecIs d H' xs:=by
  rcases h with h | ⟨h1,r,rfl,h3,h4⟩
  · exact .inl h
  · exact .inr ⟨h1,r,rfl,by rw [hk r (by simp [objsD]),h3],by omega⟩
theorem vec_one {d : D} {H : Heap} {xs : List D} (h : VecIs d H xs) : d.cells = [d] ∧ aggQ d = false ∧ noTup d = true:=by
  rcases h with ⟨_,rfl⟩ | ⟨_,r,rfl,_,_⟩ <;> exact ⟨rfl,rfl,rfl⟩
theorem vec_get {d : D} {H : Heap} {xs : List D} (h : VecIs d H xs) (hx : xs ≠ []) : ∃ r,d = .vec r 0 xs.length ∧ hget H r = .arr xs ∧ r < H.length:=by
  rcases h with ⟨h1,_⟩ | ⟨_,h⟩
  · exact absurd h1 hx
  · exact h
theorem app_vec {t e : TypeId} {n w : Nat} {z d q y : D} {H0 H : Heap} {xs : List D} (he : elemT Tryz.prog t = some e) (hn : sizeT Tryz.prog e = some n) (hw : bytesT Tryz.prog e = some w) (hz : zeroT Tryz.prog e = some z) (hzn : z.cells.length = n) (hw0 : w ≠ 0)
    (h : VecIs d H0 xs) (hH : H0.length ≤ H.length) (hHk : ∀ r ∈ objsD d,hget H r = hget H0 r) (hadd : addedD H y = some ([q],H)) (hq : q.cells.length = n) (hx : headSize n xs = true) (hm : (xs.length + 1) * w ≤ 140737488355328) :
    ∃ d' H',appendD Tryz.prog t H d y = some (d',H') ∧ VecIs d' H' (xs ++ [q]) ∧ H.length ≤ H'.length ∧ (∀ r,r < H.length → r ∉ objsD d → hget H' r = hget H r) ∧ (∀ r ∈ objsD d',H.length ≤ r):=by
  replace h:=vec_keep h hH hHk
  have hqs : headSize n [q] = true:=by simp [headSize,hq]
  rcases h with ⟨rfl,rfl⟩ | ⟨h1,r,rfl,h3,h4⟩
  · refine ⟨.vec H.length 0 1,H ++ [Ob.arr [q]],?_,.inr ⟨by simp,H.length,by simp,by rw [hget_app0];rfl,by simp⟩,by simp,fun r hr _=>hget_app_lt hr,fun r hr=>by simp [objsD] at hr;omega⟩
    simp only [appendD,he,hn,hw,hz,Option.bind_some,hadd,hzn]
    simp [hw0,hqs,headSize,mostBytes]
    exact ⟨hq,by simpa using hm⟩
  · have hne : xs.isEmpty = false:=by simpa using h1
    refine ⟨.vec H.length 0 (xs.length + 1),H.set r Ob.dead ++ [Ob.arr (xs ++ [q])],?_,.inr ⟨by simp,H.length,by simp,?_,by simp⟩,by simp,fun k hk ho=>?_,fun r hr=>by simp [objsD] at hr;omega⟩
    · simp only [appendD,he,hn,hw,hz,Option.bind_some,hadd,hzn]
      simp [hw0,hqs,h3,hx,hne,hm,mostBytes]
    · have:=hget_app0 (H:=H.set r Ob.dead) (L:=[Ob.arr (xs ++ [q])])
      rw [List.length_set] at this
      rw [this];rfl
    · rw [hget_app_lt (by simpa using hk),hget_set_ne (by simp [objsD] at ho;omega)]
theorem add_new {H : Heap} {q : D} (hs : strip q = some q ∨ q = .sl true []) : addedD (H ++ [.arr [q]]) (.vec H.length 0 1) = some ([q],H ++ [.arr [q]]):=by
  rcases hs with hs | rfl
  · have : pures (H ++ [.arr [q]]) [q] = some ([q],H ++ [.arr [q]]):=pures_strip (by simp [stripL,hs])
    simp [addedD,elems,hget_app0,hget_cons0,this,puresA,nilE_strip hs]
  · simp [addedD,elems,hget_app0,hget_cons0,puresA,nilE]
theorem add_lit {H : Heap} {q : D} (hs : strip q = some q) : addedD H (.sl false [q]) = some ([q],H):=by
  have : pures H [q] = some ([q],H):=pures_strip (by simp [stripL,hs])
  simp [addedD,elems,this,puresA,nilE_strip hs]
end Go.Proofs.W
end
section
namespace Go.Proofs.W
open Go Vm Go.Proofs.Zs25
theorem getD_set {α : Type} {l : List α} {p i : Nat} {x d : α} : (l.set p x).getD i d = if p = i ∧ p < l.length then x else l.getD i d:=by
  simp only [List.getD_eq_getElem?_getD,List.getElem?_set]
  by_cases h : p = i
  · subst h
    by_cases hp : p < l.length
    · simp [hp]
    · simp [hp]
  · simp [h]
theorem getD_push {α : Type} {l : List α} {i : Nat} {x d : α} : (l ++ [x]).getD i d = if i = l.length then x else l.getD i d:=by
  simp only [List.getD_eq_getElem?_getD]
  by_cases h : i < l.length
  · rw [List.getElem?_append_left h,if_neg (by omega)]
  · by_cases e : i = l.length
    · subst e;simp
    · rw [List.getElem?_append_right (by omega),if_neg e]
      simp [show ¬ (i - l.length < 1) by omega,List.getElem?_eq_none (show l.length ≤ i by omega),List.getElem?_eq_none (show [x].length ≤ i - l.length by simp;omega)]
structure Ms (M : Nat) (ds : List D) (X : List (List D)) (H : Heap) : Prop where
  v : ∀ i,i < ds.length → VecIs (ds.getD i ud) H (X.getD i [])
  lenX : X.length = ds.length
  ap : Apart (.ptr M 0 0 :: ds)
  m : M < H.length
theorem Ms.notM {M : Nat} {ds : List D} {X : List (List D)} {H : Heap} (h : Ms M ds X H) {i : Nat} : M ∉ objsD (ds.getD i ud):=
  h.ap 0 (i + 1) (by omega) M (by simp [objsD])
theorem Ms.lt {M : Nat} {ds : List D} {X : List (List D)} {H : Heap} (h : Ms M ds X H) {i r : Nat} (hr : r ∈ objsD (ds.getD i ud)) : r < H.length:=by
  rcases Nat.lt_or_ge i ds.length with hi | hi
  · exact vec_lt (h.v i hi) hr
  · rw [List.getD_eq_getElem?_getD,List.getElem?_eq_none hi] at hr;cases hr
theorem Ms.app {M : Nat} {ds : List D} {X : List (List D)} {H H1 : Heap} (h : Ms M ds X H) {p : Nat} (hp : p < ds.length) {t e : TypeId} {n w : Nat} {z q y : D} (he : elemT Tryz.prog t = some e) (hn : sizeT Tryz.prog e = some n) (hw : bytesT Tryz.prog e = some w) (hz : zeroT Tryz.prog e = some z) (hzn : z.cells.length = n) (hw0 : w ≠ 0)
    (hH : H.length ≤ H1.length) (hHk : ∀ r,r < H.length → hget H1 r = hget H r) (hadd : addedD H1 y = some ([q],H1)) (hq : q.cells.length = n) (hx : headSize n (X.getD p []) = true) (hm : ((X.getD p []).length + 1) * w ≤ 140737488355328) :
    ∃ d' H2,appendD Tryz.prog t H1 (ds.getD p ud) y = some (d',H2) ∧ Ms M (ds.set p d') (X.set p (X.getD p [] ++ [q])) H2 ∧ hget H2 M = hget H M ∧ H1.length ≤ H2.length ∧ (∀ r,r < H.length → r ∉ objsD (ds.getD p ud) → hget H2 r = hget H r) ∧ (∀ r ∈ objsD d',H.length ≤ r) ∧ d'.cells = [d'] ∧ aggQ d' = false ∧ noTup d' = true:=by
  obtain ⟨d',H2,h1,h2,h3,h4,h5⟩:=app_vec he hn hw hz hzn hw0 (h.v p hp) hH (fun r hr=>hHk r (h.lt hr)) hadd hq hx hm
  have hk : ∀ r,r < H.length → r ∉ objsD (ds.getD p ud) → hget H2 r = hget H r:=fun r hr ho=>by rw [h4 r (by omega) ho,hHk r hr]
  obtain ⟨o1,o2,o3⟩:=vec_one h2
  refine ⟨d',H2,h1,⟨fun i hi=>?_,by simp [h.lenX],fun i j hij r hi hj=>?_,by have:=h.m;omega⟩,hk M h.m h.notM,h3,hk,fun r hr=>by have:=h5 r hr;omega,o1,o2,o3⟩
  · rw [getD_set,getD_set,h.lenX]
    by_cases e : p = i ∧ p < ds.length
    · rw [if_pos e,if_pos e];exact h2
    · rw [if_neg e,if_neg e]
      simp at hi
      refine vec_keep (h.v i hi) (by omega) fun r hr=>hk r (h.lt hr) ?_
      exact h.ap (i + 1) (p + 1) (by simp [hp] at e;omega) r (by simpa using hr)
  · cases i with
    | zero=>
      cases j with
      | zero=>exact hij rfl
      | succ j=>
        have e0 : r = M:=by simpa [objsD] using hi
        subst e0
        rw [List.getD_cons_succ,getD_set] at hj
        split at hj
        · have:=h5 _ hj;have:=h.m;omega
        · exact h.notM hj
    | succ i=>
      cases j with
      | zero=>
        have e0 : r = M:=by simpa [objsD] using hj
        subst e0
        rw [List.getD_cons_succ,getD_set] at hi
        split at hi
        · have:=h5 _ hi;have:=h.m;omega
        · exact h.notM hi
      | succ j=>
        simp only [List.getD_cons_succ] at hi hj
        rw [getD_set] at hi hj
        split at hi
        · rename_i hpi
          split at hj
          · omega
          · have:=h5 _ hi;have:=h.lt hj;omega
        · split at hj
          · have:=h5 _ hj;have:=h.lt hi;omega
          · exact h.ap (i + 1) (j + 1) hij r (by simpa using hi) (by simpa using hj)
theorem Ms.setM {M : Nat} {ds : List D} {X : List (List D)} {H : Heap} (h : Ms M ds X H) (ob : Ob) : Ms M ds X (H.set M ob):=
  ⟨fun i hi=>vec_keep (h.v i hi) (by simp) fun r hr=>hget_set_ne (fun e=>h.notM (i:=i) (by rw [e];exact hr)),h.lenX,h.ap,by simpa using h.m⟩
theorem Ms.setv {M : Nat} {ds : List D} {X : List (List D)} {H : Heap} (h : Ms M ds X H) {p r n : Nat} (hp : p < ds.length) (hd : ds.getD p ud = .vec r 0 n) {xs : List D} (hx : xs.length = n) (hn : 0 < n) : Ms M ds (X.set p xs) (H.set r (.arr xs)):=by
  have hr : r ∈ objsD (ds.getD p ud):=by rw [hd];simp [objsD]
  have hrl:=h.lt hr
  refine ⟨fun i hi=>?_,by simp [h.lenX],h.ap,by simpa using h.m⟩
  rw [getD_set,h.lenX]
  by_cases e : p = i ∧ p < ds.length
  · rw [if_pos e,← e.1,hd]
    exact .inr ⟨fun h0=>by subst h0;simp at hx;omega,r,by rw [hx],hget_set_eq hrl,by simpa using hrl⟩
  · rw [if_neg e]
    refine vec_keep (h.v i hi) (by simp) fun r' hr'=>hget_set_ne fun e2=>?_
    subst e2
    exact h.ap (i + 1) (p + 1) (by simp [hp] at e;omega) _ (by simpa using hr') (by simpa using hr)
theorem Ms.push {M : Nat} {ds : List D} {X : List (List D)} {H : Heap} (h : Ms M ds X H) : Ms M (ds ++ [.sl true []]) (X ++ [[]]) H:=by
  have ho : ∀ i r,r ∈ objsD ((ds ++ [D.sl true []]).getD i ud) → r ∈ objsD (ds.getD i ud):=fun i r hr=>by
    rw [getD_push] at hr
    split at hr
    · cases hr
    · exact hr
  refine ⟨fun i hi=>?_,by simp [h.lenX],fun i j hij r hi hj=>?_,h.m⟩
  · rw [getD_push,getD_push,h.lenX]
    by_cases e : i = ds.length
    · rw [if_pos e,if_pos e];exact VecIs.nil
    · rw [if_neg e,if_neg e]
      simp at hi
      exact h.v i (by omega)
  · refine h.ap i j hij r ?_ ?_
    · cases i with
      | zero=>exact hi
      | succ i=>exact ho i r hi
    · cases j with
      | zero=>exact hj
      | succ j=>exact ho j r hj
end Go.Proofs.W
end
section
namespace Go.Proofs.W
open Go Vm Go.Proofs.Zs25
def nfaX (n : Nfa) (fs : List D) : List (List D):=fs :: n.set.map (.int .u16) :: n.to.map (.int .i64) :: n.rule.map (.int .i64) :: n.free.map fun l=>l.map (.int .i64)
structure MkAt (M : Nat) (n : Nfa) (ds : List D) (H : Heap) : Prop where
  ms : Ms M ds (nfaX n (ds.drop 4)) H
  hM : hget H M = .arr [.agg (ds.take 4)]
  len : 4 ≤ ds.length
  lS : n.free.length = n.set.length
  lT : n.to.length = n.set.length
  lR : n.rule.length = n.set.length
abbrev mkL (M : Nat) (ds : List D) : List D:=.ptr M 0 0 :: ds
def addState (n : Nfa) : Nfa:=⟨n.free ++ [[]],n.set ++ [0],n.to ++ [0],n.rule ++ [-1]⟩
theorem ds_four {ds : List D} (h : 4 ≤ ds.length) : ∃ a b c d fs,ds = a :: b :: c :: d :: fs:=by
  match ds,h with
  | a :: b :: c :: d :: fs,_=>exact ⟨a,b,c,d,fs,rfl⟩
theorem headU16 (l : List Int) : headSize 1 (l.map (D.int .u16)) = true:=by cases l <;> rfl
theorem own_lt {M : Nat} {ds : List D} {X : List (List D)} {H : Heap} (h : Ms M ds X H) {r : Nat} (hr : own (mkL M ds) r) : r < H.length:=by
  obtain ⟨k,hk⟩:=hr
  cases k with
  | zero => have : r = M := by simpa [objsD] using hk
            subst this;exact h.m
  | succ k=>exact h.lt (i:=k) (by simpa using hk)
theorem state_ok (M : Nat) (n : Nfa) (ds : List D) (H : Heap) (h : MkAt M n ds H) (hk : n.set.length ≤ 100000) :
    EvF Tryz.prog A 114 [.ptr M 0 0] H (fun d H'=>d = .int .i64 n.set.length ∧ ∃ ds',MkAt M (addState n) ds' H' ∧ Mv6 (mkL M ds) H (mkL M ds') H') (fun _ _=>False):=by
  obtain ⟨ms,hM,hlen,lS,lT,lR⟩:=h
  obtain ⟨dF,dS,dT,dR,fs,rfl⟩:=ds_four hlen
  have hfl : fs.length = n.free.length:=by have:=ms.lenX;simp [nfaX] at this;omega
  have hfh : headSize 1 fs = true:=by
    cases fs with
    | nil=>rfl
    | cons x fs=>
      have:=(vec_one (ms.v 4 (by simp))).1
      simp at this
      simp [headSize,this]
  simp only [List.take_succ_cons,List.take_zero,List.drop_succ_cons,List.drop_zero] at ms hM
  have hMl:=ms.m
  obtain ⟨d1,H1,a1,m1,M1,l1,k1,f1,o1,o2,o3⟩:=ms.app (p:=0) (by simp) (H1:=H ++ [.arr [.sl true []]]) el153 sz38 by38 zr38 rfl (by decide) (by simp) (fun r hr=>hget_app_lt hr) (add_new (.inr rfl)) rfl hfh (by simp [nfaX];omega)
  rw [hM] at M1
  have w1:=m1.m
  have c1 : hget (H1.set M (.arr [.agg [d1,dS,dT,dR]])) M = .arr [.agg [d1,dS,dT,dR]]:=hget_set_eq w1
  have e1 : (H1.set M (.arr [.agg [d1,dS,dT,dR]])).length = H1.length:=by simp
  have z1 : ∀ r,r ≠ M → hget (H1.set M (.arr [.agg [d1,dS,dT,dR]])) r = hget H1 r:=fun r h=>hget_set_ne (Ne.symm h)
  replace m1:=m1.setM (.arr [.agg [d1,dS,dT,dR]])
  generalize hG1 : H1.set M (.arr [.agg [d1,dS,dT,dR]]) = J1 at m1 c1 e1 z1
  obtain ⟨d2,H2,a2,m2,M2,l2,k2,f2,p1,p2,p3⟩:=m1.app (p:=1) (by simp) (H1:=J1 ++ [.arr [.int .u16 0]]) el154 sz80 by80 zr80 rfl (by decide) (by simp) (fun r hr=>hget_app_lt hr) (add_new (.inl rfl)) rfl (by simpa [nfaX] using headU16 n.set) (by simp [nfaX];omega)
  rw [c1] at M2
  have w2:=m2.m
  have c2 : hget (H2.set M (.arr [.agg [d1,d2,dT,dR]])) M = .arr [.agg [d1,d2,dT,dR]]:=hget_set_eq w2
  have e2 : (H2.set M (.arr [.agg [d1,d2,dT,dR]])).length = H2.length:=by simp
  have z2 : ∀ r,r ≠ M → hget (H2.set M (.arr [.agg [d1,d2,dT,dR]])) r = hget H2 r:=fun r h=>hget_set_ne (Ne.symm h)
  replace m2:=m2.setM (.arr [.agg [d1,d2,dT,dR]])
  generalize hG2 : H2.set M (.arr [.agg [d1,d2,dT,dR]]) = J2 at m2 c2 e2 z2
  obtain ⟨d3,H3,a3,m3,M3,l3,k3,f3,q1,q2,q3⟩:=m2.app (p:=2) (by simp) (H1:=J2 ++ [.arr [.int .i64 0]]) el38 sz3 by3 zr3 rfl (by decide) (by simp) (fun r hr=>hget_app_lt hr) (add_new (.inl rfl)) rfl (by simpa [nfaX] using headInts n.to) (by simp [nfaX];omega)
  rw [c2] at M3
  have w3:=m3.m
  have c3 : hget (H3.set M (.arr [.agg [d1,d2,d3,dR]])) M = .arr [.agg [d1,d2,d3,dR]]:=hget_set_eq w3
  have e3 : (H3.set M (.arr [.agg [d1,d2,d3,dR]])).length = H3.length:=by simp
  have z3 : ∀ r,r ≠ M → hget (H3.set M (.arr [.agg [d1,d2,d3,dR]])) r = hget H3 r:=fun r h=>hget_set_ne (Ne.symm h)
  replace m3:=m3.setM (.arr [.agg [d1,d2,d3,dR]])
  generalize hG3 : H3.set M (.arr [.agg [d1,d2,d3,dR]]) = J3 at m3 c3 e3 z3
  obtain ⟨d4,H4,a4,m4,M4,l4,k4,f4,r1,r2,r3⟩:=m3.app (p:=3) (by simp) (H1:=J3 ++ [.arr [.int .i64 (-1)]]) el38 sz3 by3 zr3 rfl (by decide) (by simp) (fun r hr=>hget_app_lt hr) (add_new (.inl rfl)) rfl (by simpa [nfaX] using headInts n.rule) (by simp [nfaX];omega)
  rw [c3] at M4
  have w4:=m4.m
  have c4 : hget (H4.set M (.arr [.agg [d1,d2,d3,d4]])) M = .arr [.agg [d1,d2,d3,d4]]:=hget_set_eq w4
  have e4 : (H4.set M (.arr [.agg [d1,d2,d3,d4]])).length = H4.length:=by simp
  have z4 : ∀ r,r ≠ M → hget (H4.set M (.arr [.agg [d1,d2,d3,d4]])) r = hget H4 r:=fun r h=>hget_set_ne (Ne.symm h)
  replace m4:=m4.setM (.arr [.agg [d1,d2,d3,d4]])
  generalize hG4 : H4.set M (.arr [.agg [d1,d2,d3,d4]]) = J4 at m4 c4 e4 z4
  have m5:=m4.push
  simp only [List.set_cons_zero,List.set_cons_succ,List.getD_cons_zero,List.getD_cons_succ,nfaX,List.cons_append] at m5 a1 a2 a3 a4
  obtain ⟨rS,hdS,hgS,hrS⟩:=vec_get (m5.v 1 (by simp)) (by simp)
  simp only [List.getD_cons_zero,List.getD_cons_succ,List.length_append,List.length_map,List.length_cons,List.length_nil] at hdS hgS
  have hlen2 : ∀ HH,lenU (some (TypeDesc.slice 80)) HH d2 = some (n.set.length + 1):=fun HH=>by rw [hdS];rfl
  clear hdS hgS hrS rS
  have htail : ∃ ds',MkAt M (addState n) ds' J4 ∧ Mv6 (mkL M (dF :: dS :: dT :: dR :: fs)) H (mkL M ds') J4:=by
    have o1' : ∀ r,own (mkL M (dF :: dS :: dT :: dR :: fs)) r → r < H.length:=fun r hr=>own_lt ms hr
    have no : ∀ r,r < H.length → ¬ own (mkL M (dF :: dS :: dT :: dR :: fs)) r → r ≠ M ∧ ∀ i,r ∉ objsD ((dF :: dS :: dT :: dR :: fs).getD i ud):=fun r hr ho=>⟨fun e=>ho ⟨0,by simp [objsD,e]⟩,fun i hi=>ho ⟨i + 1,by simpa using hi⟩⟩
    have n1:=no
    refine ⟨d1 :: d2 :: d3 :: d4 :: (fs ++ [.sl true []]),⟨?_,by simpa using c4,by simp,by simp [addState,lS],by simp [addState,lT],by simp [addState,lR]⟩,⟨fun r hr ho=>?_,by simp at l1 l2 l3 l4;omega,fun r hr=>?_⟩⟩
    · simpa [nfaX,addState] using m5
    · obtain ⟨hrM,hi⟩:=no r hr ho
      simp only [List.set_cons_zero,List.set_cons_succ,List.getD_cons_zero,List.getD_cons_succ] at k1 k2 k3 k4 f1 f2 f3 f4
      simp at l1 l2 l3 l4
      rw [z4 r hrM,k4 r (by omega) (by simpa using hi 3),z3 r hrM,k3 r (by omega) (by simpa using hi 2),z2 r hrM,k2 r (by omega) (by simpa using hi 1),z1 r hrM,k1 r hr (by simpa using hi 0)]
    · obtain ⟨k,hk'⟩:=hr
      simp at l1 l2 l3 l4
      match k,hk' with
      | 0,hk'=>exact .inl ⟨0,hk'⟩
      | 1,hk'=>exact .inr (f1 r (by simpa using hk'))
      | 2,hk'=>have:=f2 r (by simpa using hk');exact .inr (by omega)
      | 3,hk'=>have:=f3 r (by simpa using hk');exact .inr (by omega)
      | 4,hk'=>have:=f4 r (by simpa using hk');exact .inr (by omega)
      | k + 5,hk'=>
        have h5 : r ∈ objsD ((fs ++ [D.sl true []]).getD k ud):=by simpa using hk'
        rw [getD_push] at h5
        split at h5
        · cases h5
        · exact .inl ⟨k + 5,by simpa using h5⟩
  clear m1 m2 m3 m4 m5 k1 k2 k3 k4 f1 f2 f3 f4 hfh e1 e2 e3 e4 z1 z2 z3 z4 l1 l2 l3 l4 ms w1 w2 w3 w4
  refine evF_inB (n:=54) (rs:=[.tmp 2]) Tryz.func114 rfl rfl rfl rfl rfl rfl ?_
  (refine wz1 ?_;refine wz2 ?_;simp -dsimp (maxSteps:=999999) (disch:=omega) only[go_sem,simprocAttr, *])
  (refine wz1 ?_;refine wz2 ?_;simp -dsimp (maxSteps:=999999) (disch:=omega) only[go_sem,simprocAttr, *])
  (refine wz1 ?_;refine wz2 ?_;simp -dsimp (maxSteps:=999999) (disch:=omega) only[go_sem,simprocAttr, *])
  (refine wz1 ?_;refine wz2 ?_;simp -dsimp (maxSteps:=999999) (disch:=omega) only[go_sem,simprocAttr, *])
  (refine wz1 ?_;refine wz2 ?_;simp -dsimp (maxSteps:=999999) (disch:=omega) only[go_sem,simprocAttr, *])
  clear a1 a2 a3 a4 hG1 hG2 hG3 hG4 M1 M2 M3 M4 c1 c2 c3
  repeat' (first | apply wz1|apply wz2|apply wz3|apply wz4|apply wz5|apply wz6 | simp -dsimp (maxSteps:=999999) (disch:=omega) only[go_sem,simprocAttr, *])
  try exact htail
end Go.Proofs.W
end
section
namespace Go.Proofs.W
open Go Vm Go.Proofs.Zs25
def addFree (n : Nfa) (f : Nat) (t : Int) : Nfa:={ n with free:=n.free.set f (n.free.getD f [] ++ [t]) }
theorem addFree_len (n : Nfa) (f : Nat) (t : Int) : (addFree n f t).set = n.set ∧ (addFree n f t).free.length = n.free.length:=⟨rfl,by simp [addFree]⟩
theorem free_ok (M : Nat) (n : Nfa) (ds : List D) (H : Heap) (h : MkAt M n ds H) (hk : n.set.length ≤ 100000) (f : Nat) (hf : f < n.set.length) (t : Int) (hfl : (n.free.getD f []).length ≤ 100000) :
    EvF Tryz.prog A 116 [.ptr M 0 0,.int .i64 f,.int .i64 t] H (fun _ H'=>∃ ds',MkAt M (addFree n f t) ds' H' ∧ Mv6 (mkL M ds) H (mkL M ds') H') (fun _ _=>False):=by
  obtain ⟨ms,hM,hlen,lS,lT,lR⟩:=h
  obtain ⟨dF,dS,dT,dR,fs,rfl⟩:=ds_four hlen
  have hfl2 : fs.length = n.free.length:=by have:=ms.lenX;simp [nfaX] at this;omega
  simp only [List.take_succ_cons,List.take_zero,List.drop_succ_cons,List.drop_zero] at ms hM
  have hMl:=ms.m
  have hpf : f + 4 < (dF :: dS :: dT :: dR :: fs).length:=by simp;omega
  have hget4 : (nfaX n fs).getD (f + 4) [] = (n.free.getD f []).map (.int .i64):=by
    simp only [nfaX,List.getD_cons_succ]
    simp only [List.getD_eq_getElem?_getD,List.getElem?_map]
    cases n.free[f]? <;> rfl
  obtain ⟨rF,hdF,hgF,hrF⟩:=vec_get (ms.v 0 (by simp)) (by simp [nfaX];intro e;rw [e] at hfl2;simp at hfl2;omega)
  simp only [List.getD_cons_zero,nfaX] at hdF hgF
  obtain ⟨dE,hE⟩ : ∃ dE,fs[f]? = some dE:=⟨fs[f],List.getElem?_eq_getElem (by omega)⟩
  have hE2 : (dF :: dS :: dT :: dR :: fs).getD (f + 4) ud = dE:=by simp [List.getD,hE]
  have vE:=ms.v (f + 4) hpf
  rw [hE2,hget4] at vE
  obtain ⟨o1,o2,o3⟩:=vec_one vE
  obtain ⟨d1,H1,a1,m1,M1,l1,k1,f1,p1,p2,p3⟩:=ms.app (p:=f + 4) hpf (H1:=H) el38 sz3 by3 zr3 rfl (by decide) (by simp) (fun r hr=>rfl) (add_lit rfl) rfl (by rw [hget4];exact headInts _) (by rw [hget4,List.length_map];omega) (q:=.int .i64 t) (y:=.sl false [.int .i64 t])
  rw [hE2] at a1 k1
  have hfs : 0 < fs.length:=by omega
  have rF_E : rF ∉ objsD dE:=by
    have:=ms.ap 1 (f + 5) (by omega) rF (by simp [hdF,objsD])
    rw [show (D.ptr M 0 0 :: dF :: dS :: dT :: dR :: fs).getD (f + 5) ud = dE from by simpa using hE2] at this
    exact this
  have M_E : M ∉ objsD dE:=by have:=ms.notM (i:=f + 4);rwa [hE2] at this
  have hF1:=k1 rF hrF rF_E
  rw [hgF] at hF1
  rw [hM] at M1
  have hne : ∀ x ∈ objsD dE,x ≠ M:=fun x hx e=>M_E (by rw [← e];exact hx)
  have hne2 : ∀ x ∈ objsD d1,x ≠ M:=fun x hx e=>by have:=f1 x hx;omega
  have hvo : vecO (.arr fs) 1 = true:=vecO_arr (fun e=>by rw [e] at hfs;simp at hfs) (by
    cases fs with
    | nil=>rfl
    | cons x fs=>
      have:=(vec_one (ms.v 4 (by simp))).1
      simp at this
      simp [headSize,this])
  have hds : (dF :: dS :: dT :: dR :: fs).set (f + 4) d1 = dF :: dS :: dT :: dR :: fs.set f d1:=by simp
  rw [hds] at m1
  have m2:=m1.setv (p:=0) (r:=rF) (n:=fs.length) (by simp) (by simpa using hdF) (xs:=fs.set f d1) (by simp) hfs
  have hX : ((nfaX n fs).set (f + 4) ((nfaX n fs).getD (f + 4) [] ++ [D.int IntKind.i64 t])).set 0 (fs.set f d1) = nfaX (addFree n f t) (fs.set f d1):=by
    rw [hget4]
    simp only [nfaX,addFree,List.set_cons_succ,List.set_cons_zero,List.map_set,List.map_append,List.map_cons,List.map_nil]
  rw [hX] at m2
  have hF0 : rF ≠ M:=fun e=>ms.notM (i:=0) (by simp [hdF,objsD,e])
  obtain ⟨dsN,hdN⟩ : ∃ dsN,dsN = dF :: dS :: dT :: dR :: fs.set f d1:=⟨_,rfl⟩
  have hMk : MkAt M (addFree n f t) dsN (H1.set rF (.arr (fs.set f d1))):=by
    rw [hdN]
    refine ⟨by simpa using m2,?_,by simp,by simpa [addFree] using lS,lT,lR⟩
    rw [hget_set_ne hF0,M1];rfl
  have hMv : Mv6 (mkL M (dF :: dS :: dT :: dR :: fs)) H (mkL M dsN) (H1.set rF (.arr (fs.set f d1))):=by
    rw [hdN]
    refine ⟨fun r hr ho=>?_,by simpa using l1,fun r hr=>?_⟩
    · rw [hget_set_ne (fun e=>ho ⟨1,by simp [hdF,objsD,← e]⟩),k1 r hr fun h=>ho ⟨f + 5,by simpa [hE] using h⟩]
    · obtain ⟨k,hk'⟩:=hr
      match k,hk' with
      | 0,hk'=>exact .inl ⟨0,hk'⟩
      | 1,hk'=>exact .inl ⟨1,hk'⟩
      | 2,hk'=>exact .inl ⟨2,hk'⟩
      | 3,hk'=>exact .inl ⟨3,hk'⟩
      | 4,hk'=>exact .inl ⟨4,hk'⟩
      | k + 5,hk'=>
        have h5 : r ∈ objsD ((fs.set f d1).getD k ud):=by simpa using hk'
        rw [getD_set] at h5
        split at h5
        · exact .inr (f1 r h5)
        · exact .inl ⟨k + 5,by simpa using h5⟩
  clear m1 m2 hX hds hdN
  refine evF_inB (n:=24) (rs:=[]) Tryz.func116 rfl rfl rfl rfl rfl rfl ?_
  refine wpB_regionXL (prs:=[([19,22],[9])]) (by kernel_rfl) rfl (by kernel_rfl) ?_
  subst hdF
  simp -dsimp (maxSteps:=999999) (disch:=omega) only[go_sem,simprocAttr, *]
  have e9 : fs.length = n.set.length:=by omega
  rw [e9] at hMv
  refine ⟨rfl,disP_iff.2 fun x hx y hy=>?_,dsN,hMk,hMv⟩
  have : y = M:=by simpa using hy
  subst this
  rcases List.mem_append.1 hx with h | h
  · exact hne x h
  · exact hne2 x h
end Go.Proofs.W
end
section
namespace Go.Proofs.W
open Go Vm Go.Proofs.Zs25
def setTo (n : Nfa) (i : Nat) (s : Int) (o : Nat) : Nfa:={ n with set:=n.set.set i s,to:=n.to.set i (o : Int) }
def catW (o : Nat) : Nfa → Nat → List (Nat × Nat) → Nfa
  | n,last,[]=>addFree n last o
  | n,last,p :: r=>catW o (addFree n last p.1) p.2 r
def altW (i o : Nat) : Nfa → List (Nat × Nat) → Nfa
  | n,[]=>n
  | n,p :: r=>altW i o (addFree (addFree n i p.1) p.2 o) r
def optW (n : Nfa) (i o a b : Nat) : Nfa:=addFree (addFree (addFree n i a) i o) b o
def wire (k s : Int) (i o : Nat) (ps : List (Nat × Nat)) (n : Nfa) : Nfa:=
  if k = 0 then addFree n i o else if k = 1 then setTo n i s o else if k = 2 then catW o n i ps else if k = 3 then altW i o n ps
  else match ps with
    | []=>n
    | p :: _=>if k = 4 then optW (addFree n p.2 p.1) i o p.1 p.2 else if k = 5 then optW n i o p.1 p.2 else n
mutual
def makeN : Rx → Nfa → Nfa × (Nat × Nat)
  | .mk k s l,n=>
    let q:=kidsN l (addState n)
    (wire k s n.set.length q.1.set.length q.2 (addState q.1),(n.set.length,q.1.set.length))
def kidsN : List Rx → Nfa → Nfa × List (Nat × Nat)
  | [],n=>(n,[])
  | r :: l,n=>
    let q:=makeN r n
    let z:=kidsN l q.1
    (z.1,q.2 :: z.2)
end
abbrev kN (n : Nfa) : Nat:=n.set.length
theorem addFree_k (n : Nfa) (f : Nat) (t : Int) : kN (addFree n f t) = kN n:=rfl
theorem addState_k (n : Nfa) : kN (addState n) = kN n + 1:=by simp [kN,addState]
theorem setTo_k (n : Nfa) (i : Nat) (s : Int) (o : Nat) : kN (setTo n i s o) = kN n:=by simp [kN,setTo]
theorem catW_k (o : Nat) : ∀ (ps : List (Nat × Nat)) (n : Nfa) (last : Nat),kN (catW o n last ps) = kN n
  | [],_,_=>rfl
  | p :: r,n,last=>by rw [catW,catW_k o r];rfl
theorem altW_k (i o : Nat) : ∀ (ps : List (Nat × Nat)) (n : Nfa),kN (altW i o n ps) = kN n
  | [],_=>rfl
  | p :: r,n=>by rw [altW,altW_k i o r];rfl
theorem wire_k (k s : Int) (i o : Nat) (ps : List (Nat × Nat)) (n : Nfa) : kN (wire k s i o ps n) = kN n:=by
  unfold wire
  split
  · rfl
  split
  · exact setTo_k ..
  split
  · exact catW_k ..
  split
  · exact altW_k ..
  split
  · rfl
  split
  · rfl
  split
  · rfl
  · rfl
def fN (n : Nfa) : Nat:=(n.free.map List.length).sum
theorem le_fN {l : List (List Int)} {f : Nat} : (l.getD f []).length ≤ (l.map List.length).sum:=by
  induction l generalizing f with
  | nil=>simp
  | cons x l ih=>
    cases f with
    | zero=>simp
    | succ f=>have:=ih (f:=f);simp at this ⊢;omega
theorem fN_set {l : List (List Int)} {f : Nat} {t : Int} : ((l.set f (l.getD f [] ++ [t])).map List.length).sum ≤ (l.map List.length).sum + 1:=by
  induction l generalizing f with
  | nil=>simp
  | cons x l ih=>
    cases f with
    | zero=>simp;omega
    | succ f=>have:=ih (f:=f);simp at this ⊢;omega
theorem addFree_f (n : Nfa) (f : Nat) (t : Int) : fN (addFree n f t) ≤ fN n + 1:=fN_set
theorem addState_f (n : Nfa) : fN (addState n) = fN n:=by simp [fN,addState]
theorem setTo_f (n : Nfa) (i : Nat) (s : Int) (o : Nat) : fN (setTo n i s o) = fN n:=rfl
theorem catW_f (o : Nat) : ∀ (ps : List (Nat × Nat)) (n : Nfa) (last : Nat),fN (catW o n last ps) ≤ fN n + ps.length + 1
  | [],n,last=>by have:=addFree_f n last o;simpa [catW] using this
  | p :: r,n,last=>by
    have h1:=catW_f o r (addFree n last p.1) p.2
    have h2:=addFree_f n last p.1
    simp only [catW,List.length_cons];omega
theorem altW_f (i o : Nat) : ∀ (ps : List (Nat × Nat)) (n : Nfa),fN (altW i o n ps) ≤ fN n + 2 * ps.length
  | [],n=>by simp [altW]
  | p :: r,n=>by
    have h1:=altW_f i o r (addFree (addFree n i p.1) p.2 o)
    have h2:=addFree_f n i p.1
    have h3:=addFree_f (addFree n i p.1) p.2 o
    simp only [altW,List.length_cons];omega
theorem optW_f (n : Nfa) (i o a b : Nat) : fN (optW n i o a b) ≤ fN n + 3:=by
  have h1:=addFree_f n i a
  have h2:=addFree_f (addFree n i a) i o
  have h3:=addFree_f (addFree (addFree n i a) i o) b o
  unfold optW;omega
theorem wire_f (k s : Int) (i o : Nat) (ps : List (Nat × Nat)) (n : Nfa) : fN (wire k s i o ps n) ≤ fN n + 2 * ps.length + 4:=by
  unfold wire
  split
  · have:=addFree_f n i o;omega
  split
  · rw [setTo_f];omega
  split
  · have:=catW_f o ps n i;omega
  split
  · have:=altW_f i o ps n;omega
  split
  · omega
  split
  · rename_i p _ _
    have h1:=addFree_f n p.2 p.1
    have h2:=optW_f (addFree n p.2 p.1) i o p.1 p.2
    omega
  split
  · rename_i p _ _ _
    have h2:=optW_f n i o p.1 p.2
    omega
  · omega
mutual
theorem makeN_k : ∀ (r : Rx) (n : Nfa),kN (makeN r n).1 = kN n + 2 * sizeR r
  | .mk k s l,n=>by
    simp only [makeN,sizeR,wire_k,addState_k,kidsN_k l];omega
theorem kidsN_k : ∀ (l : List Rx) (n : Nfa),kN (kidsN l n).1 = kN n + 2 * sizeL l
  | [],n=>by simp [kidsN,sizeL]
  | r :: l,n=>by simp only [kidsN,sizeL,kidsN_k l,makeN_k r];omega
end
theorem kidsN_len : ∀ (l : List Rx) (n : Nfa),(kidsN l n).2.length = l.length
  | [],n=>rfl
  | r :: l,n=>by simp [kidsN,kidsN_len l]
mutual
theorem makeN_f : ∀ (r : Rx) (n : Nfa),fN (makeN r n).1 + 2 ≤ fN n + 6 * sizeR r
  | .mk k s l,n=>by
    have h1:=kidsN_f l (addState n)
    have h2:=wire_f k s n.set.length (kidsN l (addState n)).1.set.length (kidsN l (addState n)).2 (addState (kidsN l (addState n)).1)
    rw [kidsN_len,addState_f] at h2
    rw [addState_f] at h1
    simp only [makeN,sizeR];omega
theorem kidsN_f : ∀ (l : List Rx) (n : Nfa),fN (kidsN l n).1 + 2 * l.length ≤ fN n + 6 * sizeL l
  | [],n=>by simp [kidsN,sizeL]
  | r :: l,n=>by
    have h1:=makeN_f r n
    have h2:=kidsN_f l (makeN r n).1
    simp only [kidsN,sizeL,List.length_cons];omega
end
theorem makeN_io (r : Rx) (n : Nfa) : (makeN r n).2 = (kN n,kN n + 2 * sizeR r - 1):=by
  cases r with
  | mk k s l=>
    simp only [makeN,sizeR]
    have h1:=kidsN_k l (addState n)
    rw [addState_k] at h1
    simp only [kN] at h1 ⊢
    rw [Prod.mk.injEq]
    exact ⟨rfl,by omega⟩
theorem kidsN_in : ∀ (l : List Rx) (n : Nfa),∀ p ∈ (kidsN l n).2,kN n ≤ p.1 ∧ p.1 < kN n + 2 * sizeL l ∧ kN n ≤ p.2 ∧ p.2 < kN n + 2 * sizeL l
  | [],n=>by simp [kidsN]
  | r :: l,n=>by
    intro p hp
    simp only [kidsN,List.mem_cons] at hp
    have hpos:=sizeR_pos r
    rcases hp with rfl | hp
    · rw [makeN_io];simp only [sizeL];omega
    · have:=kidsN_in l (makeN r n).1 p hp
      rw [makeN_k] at this
      simp only [sizeL];omega
end Go.Proofs.W
end
section
namespace Go.Proofs.W
open Go Vm Go.Proofs.Zs25
theorem MkAt.keep {M : Nat} {n : Nfa} {ds : List D} {H H' : Heap} (h : MkAt M n ds H) (hl : H.length ≤ H'.length) (hk : ∀ r,own (mkL M ds) r → hget H' r = hget H r) : MkAt M n ds H':=
  ⟨⟨fun i hi=>vec_keep (h.ms.v i hi) hl fun r hr=>hk r ⟨i + 1,by simpa using hr⟩,h.ms.lenX,h.ms.ap,by have:=h.ms.m;omega⟩,by rw [hk M ⟨0,by simp [objsD]⟩];exact h.hM,h.len,h.lS,h.lT,h.lR⟩
theorem kidsN_snoc (r : Rx) : ∀ (a : List Rx) (n : Nfa),kidsN (a ++ [r]) n = ((makeN r (kidsN a n).1).1,(kidsN a n).2 ++ [(makeN r (kidsN a n).1).2])
  | [],n=>by simp [kidsN]
  | x :: a,n=>by simp only [List.cons_append,kidsN,kidsN_snoc r a]
theorem sizeL_app (b : List Rx) : ∀ (a : List Rx),sizeL (a ++ b) = sizeL a + sizeL b
  | []=>by simp [sizeL]
  | x :: a=>by simp only [List.cons_append,sizeL,sizeL_app b a];omega
def pD (p : Nat × Nat) : D:=.agg [.int .i64 p.1,.int .i64 p.2]
def psD (l : List (Nat × Nat)) : List D:=l.map pD
theorem strip_pD (p : Nat × Nat) : strip (pD p) = some (pD p):=rfl
theorem headPs (l : List (Nat × Nat)) : headSize 2 (psD l) = true:=by cases l <;> rfl
def MakeOk (r : Rx) : Prop:=∀ (M : Nat) (n : Nfa) (ds : List D) (H : Heap),MkAt M n ds H → kN n + 2 * sizeR r ≤ 90000 → fN n + 6 * sizeR r ≤ 90000 →
  EvF Tryz.prog A 115 [.ptr M 0 0,rxD r] H (fun d H'=>d = .tup [.int .i64 ((makeN r n).2.1 : Nat),.int .i64 ((makeN r n).2.2 : Nat)] ∧ ∃ ds',MkAt M (makeN r n).1 ds' H' ∧ Mv6 (mkL M ds) H (mkL M ds') H') (fun _ _=>False)
def KidsQ (M : Nat) (n : Nfa) (ds : List D) (H : Heap) (q : Nfa × List (Nat × Nat)) (d : D) (H' : Heap) : Prop:=∃ ds',MkAt M q.1 ds' H' ∧ Mv6 (mkL M ds) H (mkL M ds') H' ∧ VecIs d H' (psD q.2) ∧ ∀ r ∈ objsD d,H.length ≤ r ∧ ¬ own (mkL M ds') r
theorem kids_ok (k s : Int) (l : List Rx) (hl : ∀ r ∈ l,MakeOk r) (hll : l.length ≤ 100000) (M : Nat) (n : Nfa) (ds : List D) (H : Heap) (h : MkAt M n ds H) (b1 : kN n + 2 * sizeL l ≤ 90000) (b2 : fN n + 6 * sizeL l ≤ 90000) :
    EvF Tryz.prog A 136 [.ptr M 0 0,rxD (.mk k s l)] H (fun d H'=>KidsQ M n ds H (kidsN l n) d H') (fun _ _=>False):=by
  have hMl:=h.ms.m
  refine evF_inB (n:=31) (rs:=[.tmp 4]) Tryz.func136 rfl rfl rfl rfl rfl rfl ?_
  repeat' (first | apply wz1|apply wz2|apply wz3|apply wz4|apply wz5|apply wz6 | simp -dsimp (maxSteps:=999999) (disch:=omega) only[go_sem,simprocAttr, *] | ((first | refine wz8 ?_ ?_|refine wz9 ?_ ?_|refine wz7 ?_ ?_)<;>intro hh <;> (try replace hh:=vqs hh) <;> (try (exfalso;first | exact hh | omega))))
  have hb0 : MkAt M (kidsN (l.take 0) n).1 ds (H ++ [Ob.arr [rxD (.mk k s l)]]):=h.keep (by simp) fun r hr=>hget_app_lt (own_lt h.ms hr)
  refine wpB_loop (fun e Hj=>∃ (j : Nat) (dO : D) (dsj : List D),j ≤ l.length ∧ H.length ≤ Hj.length ∧ MkAt M (kidsN (l.take j) n).1 dsj Hj ∧ Mv6 (mkL M ds) H (mkL M dsj) Hj ∧ VecIs dO Hj (psD (kidsN (l.take j) n).2) ∧ (∀ r ∈ objsD dO,H.length ≤ r ∧ ¬ own (mkL M dsj) r)
    ∧ e 0 = .ptr M 0 0 ∧ e 5 = dO ∧ e 11 = .sl false (rxDs l) ∧ e 12 = .int .i64 l.length ∧ e 13 = .int .i64 j) (fun e H=>l.length - natOf (e 13)) ?_ ?_
  · exact ⟨0,.sl true [],ds,by omega,by simp,by simpa [rx_mk] using hb0,⟨fun r hr _=>hget_app_lt hr,by simp,fun r hr=>.inl hr⟩,by simpa [kidsN,psD] using VecIs.nil,(fun r hr=>by cases hr),gs,gs,gs,gs,gs⟩
  · clear hb0 h
    rintro e Hj ⟨j,dO,dsj,hj,hlen,hmk,hmv,hvO,hoO,e0,e5,e11,e12,e13⟩ R hR
    by_cases hb : j < l.length
    · have hx : (rxDs l)[j]? = some (rxD l[j]):=by rw [rxDs_at,List.getElem?_eq_getElem hb];rfl
      have q1:=rx_cells l[j]
      have q2:=rx_aggQ l[j]
      have q3:=rx_noTup l[j]
      have htk:=take_succ' hb
      have hsz:=sizeL_app [l[j]] (l.take j)
      have hsz2 : sizeL (l.take (j + 1)) ≤ sizeL l:=by
        have:=sizeL_app (l.drop (j + 1)) (l.take (j + 1))
        rw [List.take_append_drop] at this;omega
      rw [htk,hsz] at hsz2
      simp only [sizeL] at hsz2
      have hkk:=kidsN_k (l.take j) n
      have hff:=kidsN_f (l.take j) n
      have hsn:=kidsN_snoc l[j] (l.take j) n
      rw [← htk] at hsn
      have hcall:=hl l[j] (List.getElem_mem hb) M (kidsN (l.take j) n).1 dsj (Hj ++ [Ob.arr [rxD l[j]]]) (hmk.keep (by simp) fun r hr=>hget_app_lt (own_lt hmk.ms hr)) (by omega) (by omega)
      generalize hw : rxD l[j] = dk at *
      clear hw
      repeat' (first | apply wz1|apply wz2|apply wz3|apply wz4|apply wz5|apply wz6 | simp -dsimp (maxSteps:=999999) (disch:=omega) only[go_sem,simprocAttr, *] | ((first | refine wz8 ?_ ?_|refine wz9 ?_ ?_|refine wz7 ?_ ?_)<;>intro hh <;> (try replace hh:=vqs hh) <;> (try (exfalso;first | exact hh | omega))))
      refine evB_state bo115 rfl rfl hcall ?_ (fun _ _ h=>h.elim)
      rintro _ H2 ⟨rfl,ds2,hmk2,hmv2⟩
      have hlen2:=hmv2.len
      simp only [List.length_append,List.length_cons,List.length_nil] at hlen2
      have hltO : ∀ r ∈ objsD dO,r < Hj.length:=fun r hr=>vec_lt hvO hr
      have hvO2 : VecIs dO H2 (psD (kidsN (l.take j) n).2):=vec_keep hvO (by omega) fun r hr=>by
        rw [hmv2.keep r (by simp;have:=hltO r hr;omega) (hoO r hr).2,hget_app_lt (hltO r hr)]
      have hoO2 : ∀ r ∈ objsD dO,¬ own (mkL M ds2) r:=fun r hr ho=>by
        rcases hmv2.ow r ho with h | h
        · exact (hoO r hr).2 h
        · have:=hltO r hr;simp at h;omega
      obtain ⟨d3,H3,a3,v3,l3,k3,f3⟩:=app_vec (H0:=H2) (H:=H2 ++ [.arr [pD (makeN l[j] (kidsN (l.take j) n).1).2]]) el200 sz202 by202 zr202 rfl (by decide) hvO2 (by simp) (fun r hr=>hget_app_lt (by have:=hltO r hr;omega)) (add_new (.inl (strip_pD _))) rfl (headPs _) (by simp [psD,kidsN_len];omega)
      simp only [List.length_append,List.length_cons,List.length_nil] at l3
      have hmk3 : MkAt M (kidsN (l.take (j + 1)) n).1 ds2 H3:=by
        rw [hsn]
        exact hmk2.keep (by omega) fun r hr=>by
          have hlt:=own_lt hmk2.ms hr
          rw [k3 r (by simp;omega) (fun h=>hoO2 r h hr),hget_app_lt hlt]
      have hmv3 : Mv6 (mkL M ds) H (mkL M ds2) H3:=by
        refine ⟨fun r hr ho=>?_,by omega,fun r ho=>?_⟩
        · have n1 : r ∉ objsD dO:=fun h=>by have:=(hoO r h).1;omega
          have n2 : ¬ own (mkL M dsj) r:=fun h=>by
            rcases hmv.ow r h with h | h
            · exact ho h
            · omega
          rw [k3 r (by simp;omega) n1,hget_app_lt (by omega),hmv2.keep r (by simp;omega) n2,hget_app_lt (by omega),hmv.keep r hr ho]
        · rcases hmv2.ow r ho with h | h
          · exact hmv.ow r h
          · exact .inr (by simp at h;omega)
      have v3' : VecIs d3 H3 (psD (kidsN (l.take (j + 1)) n).2):=by
        rw [hsn]
        simpa [psD] using v3
      have ho3 : ∀ r ∈ objsD d3,H.length ≤ r ∧ ¬ own (mkL M ds2) r:=fun r hr=>by
        have:=f3 r hr
        simp at this
        exact ⟨by omega,fun ho=>by have:=own_lt hmk2.ms ho;omega⟩
      simp only [pD] at a3
      clear hsn hkk hff
      repeat' (first | apply wz1|apply wz2|apply wz3|apply wz4|apply wz5|apply wz6 | simp -dsimp (maxSteps:=999999) (disch:=omega) only[go_sem,simprocAttr, *] | ((first | refine wz8 ?_ ?_|refine wz9 ?_ ?_|refine wz7 ?_ ?_)<;>intro hh <;> (try replace hh:=vqs hh) <;> (try (exfalso;first | exact hh | omega))))
      refine hR _ _ ⟨j + 1,d3,ds2,by omega,by omega,hmk3,hmv3,v3',ho3,gs,gs,gs,gs,gs⟩ ?_
      simp -dsimp (maxSteps:=999999) (disch:=omega) only[go_sem,simprocAttr, *,natOf_int]
    · repeat' (first | apply wz1|apply wz2|apply wz3|apply wz4|apply wz5|apply wz6 | simp -dsimp (maxSteps:=999999) (disch:=omega) only[go_sem,simprocAttr, *] | ((first | refine wz8 ?_ ?_|refine wz9 ?_ ?_|refine wz7 ?_ ?_)<;>intro hh <;> (try replace hh:=vqs hh) <;> (try (exfalso;first | exact hh | omega))))
      rw [List.take_of_length_le (by omega)] at hmk hvO
      exact ⟨dsj,hmk,hmv,hvO,hoO⟩
end Go.Proofs.W
end
section
namespace Go.Proofs.W
open Go Vm Go.Proofs.Zs25
theorem fl_le (n : Nfa) (f : Nat) : (n.free.getD f []).length ≤ fN n:=le_fN
structure Held (M : Nat) (H : Heap) (L : List D) (q : Nat) (r : Rx) (dK : D) (ps : List (Nat × Nat)) (n : Nfa) (ds : List D) (H' : Heap) : Prop where
  ma : MkAt M n ds H'
  mv : Mv6 L H (mkL M ds) H'
  hq : hget H' q = .arr [rxD r]
  hl : H.length ≤ q
  nq : ¬ own (mkL M ds) q
  ql : q < H'.length
  vK : VecIs dK H' (psD ps)
  nK : ∀ r ∈ objsD dK,H.length ≤ r ∧ ¬ own (mkL M ds) r
theorem Held.next {M : Nat} {H : Heap} {L : List D} {q : Nat} {r : Rx} {dK : D} {ps : List (Nat × Nat)} {n n' : Nfa} {ds ds' : List D} {H1 H2 : Heap} (h : Held M H L q r dK ps n ds H1) (hm : MkAt M n' ds' H2) (hv : Mv6 (mkL M ds) H1 (mkL M ds') H2) : Held M H L q r dK ps n' ds' H2:=by
  refine ⟨hm,h.mv.trans hv,by rw [hv.keep q h.ql h.nq,h.hq],h.hl,fun ho=>?_,by have:=hv.len;have:=h.ql;omega,vec_keep h.vK hv.len fun r hr=>hv.keep r (vec_lt h.vK hr) (h.nK r hr).2,fun r hr=>⟨(h.nK r hr).1,fun ho=>?_⟩⟩
  · rcases hv.ow q ho with h1 | h1
    · exact h.nq h1
    · have:=h.ql;omega
  · rcases hv.ow r ho with h1 | h1
    · exact (h.nK r hr).2 h1
    · have:=vec_lt h.vK hr;omega
theorem Held.grow {M : Nat} {H : Heap} {L : List D} {q : Nat} {r : Rx} {dK : D} {ps : List (Nat × Nat)} {n : Nfa} {ds : List D} {H1 : Heap} (h : Held M H L q r dK ps n ds H1) (ob : List Ob) : Held M H L q r dK ps n ds (H1 ++ ob):=
  ⟨h.ma.keep (by simp) fun r hr=>hget_app_lt (own_lt h.ma.ms hr),⟨fun r hr ho=>by rw [hget_app_lt (by have:=h.mv.len;omega),h.mv.keep r hr ho],by have:=h.mv.len;simp;omega,h.mv.ow⟩,by rw [hget_app_lt h.ql];exact h.hq,h.hl,h.nq,by have:=h.ql;simp;omega,vec_keep h.vK (by simp) fun r hr=>hget_app_lt (vec_lt h.vK hr),h.nK⟩
theorem Held.free {M : Nat} {H : Heap} {L : List D} {q : Nat} {r : Rx} {dK : D} {ps : List (Nat × Nat)} {n : Nfa} {ds : List D} {H1 : Heap} (h : Held M H L q r dK ps n ds H1) (f : Nat) (hf : f < kN n) (t : Int) (bk : kN n ≤ 100000) (bf : fN n ≤ 100000) :
    EvF Tryz.prog A 116 [.ptr M 0 0,.int .i64 f,.int .i64 t] H1 (fun _ H'=>∃ ds',Held M H L q r dK ps (addFree n f t) ds' H' ∧ Mv6 (mkL M ds) H1 (mkL M ds') H') (fun _ _=>False):=
  (free_ok M n ds H1 h.ma bk f hf t (by have:=fl_le n f;omega)).mono (fun _ _ ⟨ds',h1,h2⟩=>⟨ds',h.next h1 h2,h2⟩) (fun _ _ h=>h)
theorem ps_get {d : D} {H : Heap} {ps : List (Nat × Nat)} {j : Nat} (h : VecIs d H (psD ps)) (hj : j < ps.length) : ∃ r,d = .vec r 0 ps.length ∧ hget H r = .arr (psD ps) ∧ r < H.length ∧ (psD ps)[j]? = some (pD ps[j]) ∧ vecO (.arr (psD ps)) 2 = true:=by
  have hne : psD ps ≠ []:=by intro e;have:=congrArg List.length e;simp [psD] at this;subst this;simp at hj
  obtain ⟨r,h1,h2,h3⟩:=vec_get h hne
  exact ⟨r,by simpa [psD] using h1,h2,h3,by simp [psD,hj],vecO_arr hne (headPs _)⟩
theorem vec_at {rK o m : Nat} {H : Heap} {xs : List D} (h : VecIs (.vec rK o m) H xs) : hget H rK = .arr xs ∧ rK < H.length:=by
  rcases h with ⟨_,h⟩ | ⟨_,r,h,h2,h3⟩
  · cases h
  · cases h;exact ⟨h2,h3⟩
theorem len_size : ∀ l : List Rx,l.length ≤ sizeL l
  | []=>Nat.le_refl _
  | r :: l=>by have:=len_size l;have:=sizeR_pos r;simp only [List.length_cons,sizeL];omega
theorem make_ok : ∀ (m : Nat) (r : Rx),depth r ≤ m → shapesR r = true → okR r → MakeOk r:=by
  intro m
  induction m with
  | zero=>intro r h;cases r;simp [depth] at h
  | succ m ih=>
    rintro ⟨k,s,l⟩ hd hs hr M n ds H h b1 b2
    have hkids : ∀ x ∈ l,MakeOk x:=by
      intro x hx
      simp only [shapesR,Bool.and_eq_true,shapesL_eq,List.all_eq_true] at hs
      refine ih x ?_ (hs.2 x hx) (okL_get hr.2.2.2.2.2 x hx)
      simp only [depth] at hd
      have : ∀ (l : List Rx),x ∈ l → depth x ≤ depthL l:=by
        intro l
        induction l with
        | nil=>intro h;cases h
        | cons y l ih=>
          intro h
          simp only [depthL]
          rcases List.mem_cons.1 h with rfl | h
          · omega
          · have:=ih h;omega
      have:=this l hx
      omega
    simp only [shapesR,Bool.and_eq_true,shape1] at hs
    obtain ⟨hsh,hsl⟩:=hs
    simp only [sizeR] at b1 b2
    have hMl:=h.ms.m
    have hS1:=state_ok M n ds (H ++ [Ob.arr [rxD (.mk k s l)]]) (h.keep (by simp) fun r hr=>hget_app_lt (own_lt h.ms hr)) (by simp only [kN] at b1;omega)
    have q1:=rx_cells (.mk k s l)
    have q2:=rx_aggQ (.mk k s l)
    have q3:=rx_noTup (.mk k s l)
    refine evF_inB (n:=122) (rs:=[.tmp 4,.tmp 5]) Tryz.func115 rfl rfl rfl rfl rfl rfl ?_
    simp only [rx_mk] at hS1
    repeat' (first | apply wz1|apply wz2|apply wz3|apply wz4|apply wz5|apply wz6 | simp -dsimp (maxSteps:=999999) (disch:=omega) only[go_sem,simprocAttr, *] | ((first | refine wz8 ?_ ?_|refine wz9 ?_ ?_|refine wz7 ?_ ?_)<;>intro hh <;> (try replace hh:=vqs hh) <;> (try (exfalso;first | exact hh | omega))))
    refine evB_state bo114 rfl rfl hS1 ?_ (fun _ _ h=>h.elim)
    rintro _ H1 ⟨rfl,ds1,hm1,hv1⟩
    have hv1l:=hv1.len
    simp only [List.length_append,List.length_cons,List.length_nil] at hv1l
    have hq1 : hget H1 H.length = .arr [rxD (.mk k s l)]:=by
      rw [hv1.keep H.length (by simp) (fun ho=>by have:=own_lt h.ms ho;omega),hget_app0];rfl
    have hnq1 : ¬ own (mkL M ds1) H.length:=fun ho=>by
      rcases hv1.ow _ ho with h1 | h1
      · have:=own_lt h.ms h1;omega
      · simp at h1;omega
    have hK:=kids_ok k s l hkids (by have:=len_size l;omega) M (addState n) ds1 H1 hm1 (by rw [addState_k];omega) (by rw [addState_f];omega)
    simp only [rx_mk] at hq1 hK
    repeat' (first | apply wz1|apply wz2|apply wz3|apply wz4|apply wz5|apply wz6 | simp -dsimp (maxSteps:=999999) (disch:=omega) only[go_sem,simprocAttr, *] | ((first | refine wz8 ?_ ?_|refine wz9 ?_ ?_|refine wz7 ?_ ?_)<;>intro hh <;> (try replace hh:=vqs hh) <;> (try (exfalso;first | exact hh | omega))))
    refine evB_state bo136 rfl rfl hK ?_ (fun _ _ h=>h.elim)
    rintro dK H2 ⟨ds2,hm2,hv2,hvK,hnK⟩
    have hv2l:=hv2.len
    have hH2 : Held M H (mkL M ds) H.length (.mk k s l) dK (kidsN l (addState n)).2 (kidsN l (addState n)).1 ds2 H2:=by
      refine ⟨hm2,?_,by rw [hv2.keep _ (by omega) hnq1,hq1];rfl,Nat.le_refl _,fun ho=>?_,by omega,hvK,fun r hr=>⟨by have:=(hnK r hr).1;omega,(hnK r hr).2⟩⟩
      · refine Mv6.trans ⟨fun r hr ho=>?_,by omega,fun r ho=>?_⟩ hv2
        · rw [hv1.keep r (by simp;omega) ho,hget_app_lt hr]
        · rcases hv1.ow r ho with h1 | h1
          · exact .inl h1
          · exact .inr (by simp at h1;omega)
      · rcases hv2.ow _ ho with h1 | h1
        · exact hnq1 h1
        · omega
    have hkk:=kidsN_k l (addState n)
    have hff:=kidsN_f l (addState n)
    have hin:=kidsN_in l (addState n)
    rw [addState_k] at hkk hin
    rw [addState_f] at hff
    have hlen:=kidsN_len l (addState n)
    have hmake : makeN (.mk k s l) n = (wire k s n.set.length (kidsN l (addState n)).1.set.length (kidsN l (addState n)).2 (addState (kidsN l (addState n)).1),(n.set.length,(kidsN l (addState n)).1.set.length)):=by rw [makeN]
    rw [hmake]
    clear hmake hK hS1 hnK hvK hv1 hq1 hnq1 hm1 hkids hv2
    generalize hQ : kidsN l (addState n) = Q at *
    obtain ⟨n2,ps⟩:=Q
    clear hQ
    simp only at hH2 hkk hff hin hlen hm2 ⊢
    have hS2:=state_ok M n2 ds2 H2 hm2 (by simp only [kN] at hkk b1;omega)
    repeat' (first | apply wz1|apply wz2|apply wz3|apply wz4|apply wz5|apply wz6 | simp -dsimp (maxSteps:=999999) (disch:=omega) only[go_sem,simprocAttr, *] | ((first | refine wz8 ?_ ?_|refine wz9 ?_ ?_|refine wz7 ?_ ?_)<;>intro hh <;> (try replace hh:=vqs hh) <;> (try (exfalso;first | exact hh | omega))))
    refine evB_state bo114 rfl rfl hS2 ?_ (fun _ _ h=>h.elim)
    rintro _ H3 ⟨rfl,ds3,hm3,hv3⟩
    have hH3:=hH2.next hm3 hv3
    have hq3:=hH3.hq
    simp only [rx_mk] at hq3
    have hk3:=addState_k n2
    have hf3:=addState_f n2
    clear hS2 hm2 hH2 hv3 hv2l hv1l hm3
    obtain ⟨hr1,hr2,hr3,hr4,hr5,hr6⟩:=hr
    have u1 : n.set.length + 1 + 2 * sizeL l ≤ n2.set.length:=by simp only [kN] at hkk;omega
    have u2 : n2.set.length ≤ n.set.length + 1 + 2 * sizeL l:=by simp only [kN] at hkk;omega
    have u3 : (addState n2).set.length ≤ n2.set.length + 1:=by simp only [kN] at hk3;omega
    have u4 : n2.set.length + 1 ≤ (addState n2).set.length:=by simp only [kN] at hk3;omega
    have u5 : fN (addState n2) + 2 * ps.length + 6 ≤ 90000:=by omega
    have u6 : ps.length ≤ l.length ∧ l.length ≤ ps.length:=by omega
    have u7 : n.set.length + 2 * sizeL l + 2 ≤ 90000:=by simp only [kN] at b1;omega
    have u8 : l.length ≤ sizeL l:=len_size l
    have hin' : ∀ p ∈ ps,p.1 < n2.set.length ∧ p.2 < n2.set.length:=fun p hp=>by have:=hin p hp;simp only [kN] at this;omega
    clear hkk hk3 hf3 hlen hin hff b1 b2
    have hneK : ∀ HH,lenU (some (TypeDesc.slice 202)) HH dK = some ps.length:=fun HH=>by
      rcases hH3.vK with ⟨e1,rfl⟩ | ⟨e1,r,rfl,-,-⟩
      · have : ps = []:=by simpa [psD] using e1
        subst this;rfl
      · simp [lenU,psD]
    by_cases h0 : k = 0
    · subst h0
      have hF:=hH3.free n.set.length (by simp only [kN];omega) (n2.set.length : Int) (by simp only [kN];omega) (by omega)
      repeat' (first | apply wz1|apply wz2|apply wz3|apply wz4|apply wz5|apply wz6 | simp -dsimp (maxSteps:=999999) (disch:=omega) only[go_sem,simprocAttr, *] | ((first | refine wz8 ?_ ?_|refine wz9 ?_ ?_|refine wz7 ?_ ?_)<;>intro hh <;> (try replace hh:=vqs hh) <;> (try (exfalso;first | exact hh | omega))))
      refine evB_state bo116 rfl rfl hF ?_ (fun _ _ h=>h.elim)
      rintro _ H4 ⟨ds4,hH4,-⟩
      repeat' (first | apply wz1|apply wz2|apply wz3|apply wz4|apply wz5|apply wz6 | simp -dsimp (maxSteps:=999999) (disch:=omega) only[go_sem,simprocAttr, *] | ((first | refine wz8 ?_ ?_|refine wz9 ?_ ?_|refine wz7 ?_ ?_)<;>intro hh <;> (try replace hh:=vqs hh) <;> (try (exfalso;first | exact hh | omega))))
      exact ⟨rfl,ds4,by simpa [wire] using hH4.ma,hH4.mv⟩
    by_cases h1 : k = 1
    · subst h1
      obtain ⟨ms,hM,hdl,lS,lT,lR⟩:=hH3.ma
      obtain ⟨dF,dS,dT,dR,fs,rfl⟩:=ds_four hdl
      simp only [List.take_succ_cons,List.take_zero,List.drop_succ_cons,List.drop_zero] at ms hM
      have hneS : (addState n2).set.map (D.int .u16) ≠ []:=by intro e;have:=congrArg List.length e;simp at this;rw [this] at u4;simp at u4
      have hneT : (addState n2).to.map (D.int .i64) ≠ []:=by intro e;have:=congrArg List.length e;simp at this;rw [this] at lT;simp at lT;omega
      obtain ⟨rS,hdS,hgS,hrS⟩:=vec_get (ms.v 1 (by simp)) (by simpa [nfaX] using hneS)
      obtain ⟨rT,hdT,hgT,hrT⟩:=vec_get (ms.v 2 (by simp)) (by simpa [nfaX] using hneT)
      simp only [List.getD_cons_zero,List.getD_cons_succ,nfaX,List.length_map] at hdS hgS hdT hgT
      have n1 : rS ≠ rT:=fun e=>ms.ap 2 3 (by omega) rS (by simp [hdS,objsD]) (by simp [hdT,objsD,e])
      have n2' : rS ≠ M:=fun e=>ms.notM (i:=1) (by simp [hdS,objsD,e])
      have n3 : rT ≠ M:=fun e=>ms.notM (i:=2) (by simp [hdT,objsD,e])
      have n4 : rS ≠ H.length:=fun e=>hH3.nq ⟨2,by simp [hdS,objsD,e]⟩
      have n5 : rT ≠ H.length:=fun e=>hH3.nq ⟨3,by simp [hdT,objsD,e]⟩
      have voS : vecO (.arr ((addState n2).set.map (D.int .u16))) 1 = true:=vecO_arr hneS (headU16 _)
      have voT : vecO (.arr ((addState n2).to.map (D.int .i64))) 1 = true:=vecO_arr hneT (headInts _)
      have m1:=ms.setv (p:=1) (r:=rS) (n:=(addState n2).set.length) (by simp) (by simpa using hdS) (xs:=((addState n2).set.set n.set.length s).map (.int .u16)) (by simp) (by omega)
      have m2:=m1.setv (p:=2) (r:=rT) (n:=(addState n2).to.length) (by simp) (by simpa using hdT) (xs:=((addState n2).to.set n.set.length (n2.set.length : Int)).map (.int .i64)) (by simp) (by omega)
      have hfin : ∃ ds',MkAt M (wire 1 s n.set.length n2.set.length ps (addState n2)) ds' ((H3.set rS (.arr (((addState n2).set.map (D.int .u16)).set n.set.length (.int .u16 s)))).set rT (.arr (((addState n2).to.map (D.int .i64)).set n.set.length (.int .i64 n2.set.length)))) ∧ Mv6 (mkL M ds) H (mkL M ds') ((H3.set rS (.arr (((addState n2).set.map (D.int .u16)).set n.set.length (.int .u16 s)))).set rT (.arr (((addState n2).to.map (D.int .i64)).set n.set.length (.int .i64 n2.set.length)))):=by
        rw [← List.map_set,← List.map_set]
        refine ⟨dF :: dS :: dT :: dR :: fs,⟨by simpa [nfaX,wire,setTo] using m2,?_,by simp,by simp [wire,setTo,lS],by simp [wire,setTo,lT],by simp [wire,setTo,lR]⟩,hH3.mv.trans ⟨fun r hr ho=>?_,by simp,fun r h=>.inl h⟩⟩
        · rw [hget_set_ne n3,hget_set_ne n2',hM];rfl
        · rw [hget_set_ne fun e=>ho ⟨3,by simp [hdT,objsD,e]⟩,hget_set_ne fun e=>ho ⟨2,by simp [hdS,objsD,e]⟩]
      clear m1 m2 hneS hneT
      have lT' : (addState n2).to.length = (addState n2).set.length:=lT
      subst hdS hdT
      clear lS lT lR
      repeat' (first | apply wz1|apply wz2|apply wz3|apply wz4|apply wz5|apply wz6 | simp -dsimp (maxSteps:=999999) (disch:=omega) only[go_sem,simprocAttr, *] | ((first | refine wz8 ?_ ?_|refine wz9 ?_ ?_|refine wz7 ?_ ?_)<;>intro hh <;> (try replace hh:=vqs hh) <;> (try (exfalso;first | exact hh | omega))))
      refine wpB_regionXL (prs:=[]) (by kernel_rfl) rfl (by kernel_rfl) ?_
      simp -dsimp (maxSteps:=999999) (disch:=omega) only[go_sem,simprocAttr, *]
      repeat' (first | apply wz1|apply wz2|apply wz3|apply wz4|apply wz5|apply wz6 | simp -dsimp (maxSteps:=999999) (disch:=omega) only[go_sem,simprocAttr, *] | ((first | refine wz8 ?_ ?_|refine wz9 ?_ ?_|refine wz7 ?_ ?_)<;>intro hh <;> (try replace hh:=vqs hh) <;> (try (exfalso;first | exact hh | omega))))
      first | rfl | exact ⟨rfl,hfin⟩
    by_cases h2 : k = 2
    · subst h2
      repeat' (first | apply wz1|apply wz2|apply wz3|apply wz4|apply wz5|apply wz6 | simp -dsimp (maxSteps:=999999) (disch:=omega) only[go_sem,simprocAttr, *] | ((first | refine wz8 ?_ ?_|refine wz9 ?_ ?_|refine wz7 ?_ ?_)<;>intro hh <;> (try replace hh:=vqs hh) <;> (try (exfalso;first | exact hh | omega))))
      obtain ⟨PS,hPS⟩ : ∃ PS,PS = ps:=⟨_,rfl⟩
      refine wpB_loop (fun e Hj=>∃ (j last : Nat) (nj : Nfa) (dsj : List D),j ≤ ps.length ∧ last < kN (addState n2) ∧ Held M H (mkL M ds) H.length (.mk 2 s l) dK ps nj dsj Hj ∧ kN nj ≤ kN (addState n2) ∧ kN (addState n2) ≤ kN nj ∧ fN nj ≤ fN (addState n2) + j ∧ catW n2.set.length nj last (ps.drop j) = wire 2 s n.set.length n2.set.length ps (addState n2)
        ∧ e 0 = .ptr M 0 0 ∧ e 6 = .int .i64 n.set.length ∧ e 8 = .int .i64 n2.set.length ∧ e 9 = .int .i64 last ∧ e 57 = dK ∧ e 58 = .int .i64 ps.length ∧ e 59 = .int .i64 j) (fun e H=>ps.length - natOf (e 59)) ?_ ?_
      · exact ⟨0,n.set.length,_,ds3,by omega,by simp only [kN];omega,hH3,Nat.le_refl _,Nat.le_refl _,by omega,by simp [wire],gs,gs,gs,gs,gs,gs,gs⟩
      clear hH3 hq3 hPS PS
      rintro e Hj ⟨j,last,nj,dsj,hj,hlast,hHj,k1,k2,hfj,hw,e0,e6,e8,e9,e57,e58,e59⟩ R hR
      by_cases hb : j < ps.length
      · obtain ⟨rK,hdK,hgK,hrK,hpj,hvo⟩:=ps_get hHj.vK hb
        have hpn:=hin' ps[j] (List.getElem_mem hb)
        have hF:=(hHj.grow [Ob.arr [pD ps[j]]]).free last (by omega) (ps[j].1 : Int) (by simp only [kN] at k1 ⊢;omega) (by omega)
        rw [List.drop_eq_getElem_cons hb,catW] at hw
        simp only [pD] at hpj hF
        repeat' (first | apply wz1|apply wz2|apply wz3|apply wz4|apply wz5|apply wz6 | simp -dsimp (maxSteps:=999999) (disch:=omega) only[go_sem,simprocAttr, *] | ((first | refine wz8 ?_ ?_|refine wz9 ?_ ?_|refine wz7 ?_ ?_)<;>intro hh <;> (try replace hh:=vqs hh) <;> (try (exfalso;first | exact hh | omega))))
        refine evB_state bo116 rfl rfl hF ?_ (fun _ _ h=>h.elim)
        rintro _ H4 ⟨ds4,hH4,hv4⟩
        have hp4 : hget H4 Hj.length = .arr [.agg [.int .i64 ps[j].1,.int .i64 ps[j].2]]:=by
          rw [hv4.keep Hj.length (by simp) (fun ho=>by have:=own_lt hHj.ma.ms ho;omega),hget_app0];rfl
        repeat' (first | apply wz1|apply wz2|apply wz3|apply wz4|apply wz5|apply wz6 | simp -dsimp (maxSteps:=999999) (disch:=omega) only[go_sem,simprocAttr, *] | ((first | refine wz8 ?_ ?_|refine wz9 ?_ ?_|refine wz7 ?_ ?_)<;>intro hh <;> (try replace hh:=vqs hh) <;> (try (exfalso;first | exact hh | omega))))
        refine hR _ _ ⟨j + 1,ps[j].2,_,ds4,by omega,by simp only [kN];omega,hH4,by rw [addFree_k];exact k1,by rw [addFree_k];exact k2,by have:=addFree_f nj last (ps[j].1 : Int);omega,hw,gs,gs,gs,gs,gs,gs,gs⟩ ?_
        simp -dsimp (maxSteps:=999999) (disch:=omega) only[go_sem,simprocAttr, *,natOf_int]
      · rw [List.drop_eq_nil_of_le (by omega),catW] at hw
        have hF:=hHj.free last (by omega) (n2.set.length : Int) (by simp only [kN] at k1 ⊢;omega) (by omega)
        repeat' (first | apply wz1|apply wz2|apply wz3|apply wz4|apply wz5|apply wz6 | simp -dsimp (maxSteps:=999999) (disch:=omega) only[go_sem,simprocAttr, *] | ((first | refine wz8 ?_ ?_|refine wz9 ?_ ?_|refine wz7 ?_ ?_)<;>intro hh <;> (try replace hh:=vqs hh) <;> (try (exfalso;first | exact hh | omega))))
        refine evB_state bo116 rfl rfl hF ?_ (fun _ _ h=>h.elim)
        rintro _ H4 ⟨ds4,hH4,-⟩
        repeat' (first | apply wz1|apply wz2|apply wz3|apply wz4|apply wz5|apply wz6 | simp -dsimp (maxSteps:=999999) (disch:=omega) only[go_sem,simprocAttr, *] | ((first | refine wz8 ?_ ?_|refine wz9 ?_ ?_|refine wz7 ?_ ?_)<;>intro hh <;> (try replace hh:=vqs hh) <;> (try (exfalso;first | exact hh | omega))))
        exact ⟨rfl,ds4,by rw [← hw];exact hH4.ma,hH4.mv⟩
    by_cases h3 : k = 3
    · subst h3
      repeat' (first | apply wz1|apply wz2|apply wz3|apply wz4|apply wz5|apply wz6 | simp -dsimp (maxSteps:=999999) (disch:=omega) only[go_sem,simprocAttr, *] | ((first | refine wz8 ?_ ?_|refine wz9 ?_ ?_|refine wz7 ?_ ?_)<;>intro hh <;> (try replace hh:=vqs hh) <;> (try (exfalso;first | exact hh | omega))))
      refine wpB_loop (fun e Hj=>∃ (j : Nat) (nj : Nfa) (dsj : List D),j ≤ ps.length ∧ Held M H (mkL M ds) H.length (.mk 3 s l) dK ps nj dsj Hj ∧ kN nj ≤ kN (addState n2) ∧ kN (addState n2) ≤ kN nj ∧ fN nj ≤ fN (addState n2) + 2 * j ∧ altW n.set.length n2.set.length nj (ps.drop j) = wire 3 s n.set.length n2.set.length ps (addState n2)
        ∧ e 0 = .ptr M 0 0 ∧ e 6 = .int .i64 n.set.length ∧ e 8 = .int .i64 n2.set.length ∧ e 75 = dK ∧ e 76 = .int .i64 ps.length ∧ e 77 = .int .i64 j) (fun e H=>ps.length - natOf (e 77)) ?_ ?_
      · exact ⟨0,_,ds3,by omega,hH3,Nat.le_refl _,Nat.le_refl _,by omega,by simp [wire],gs,gs,gs,gs,gs,gs⟩
      clear hH3 hq3
      rintro e Hj ⟨j,nj,dsj,hj,hHj,k1,k2,hfj,hw,e0,e6,e8,e75,e76,e77⟩ R hR
      by_cases hb : j < ps.length
      · obtain ⟨rK,hdK,hgK,hrK,hpj,hvo⟩:=ps_get hHj.vK hb
        have hpn:=hin' ps[j] (List.getElem_mem hb)
        have hF:=(hHj.grow [Ob.arr [pD ps[j]]]).free n.set.length (by simp only [kN] at k2 ⊢;omega) (ps[j].1 : Int) (by simp only [kN] at k1 ⊢;omega) (by omega)
        rw [List.drop_eq_getElem_cons hb,altW] at hw
        simp only [pD] at hpj hF
        repeat' (first | apply wz1|apply wz2|apply wz3|apply wz4|apply wz5|apply wz6 | simp -dsimp (maxSteps:=999999) (disch:=omega) only[go_sem,simprocAttr, *] | ((first | refine wz8 ?_ ?_|refine wz9 ?_ ?_|refine wz7 ?_ ?_)<;>intro hh <;> (try replace hh:=vqs hh) <;> (try (exfalso;first | exact hh | omega))))
        refine evB_state bo116 rfl rfl hF ?_ (fun _ _ h=>h.elim)
        rintro _ H4 ⟨ds4,hH4,hv4⟩
        have hp4 : hget H4 Hj.length = .arr [.agg [.int .i64 ps[j].1,.int .i64 ps[j].2]]:=by
          rw [hv4.keep Hj.length (by simp) (fun ho=>by have:=own_lt hHj.ma.ms ho;omega),hget_app0];rfl
        have hf4:=addFree_f nj n.set.length (ps[j].1 : Int)
        have hF2:=hH4.free ps[j].2 (by show ps[j].2 < nj.set.length;simp only [kN] at k2;omega) (n2.set.length : Int) (by rw [addFree_k];simp only [kN] at k1 ⊢;omega) (by omega)
        repeat' (first | apply wz1|apply wz2|apply wz3|apply wz4|apply wz5|apply wz6 | simp -dsimp (maxSteps:=999999) (disch:=omega) only[go_sem,simprocAttr, *] | ((first | refine wz8 ?_ ?_|refine wz9 ?_ ?_|refine wz7 ?_ ?_)<;>intro hh <;> (try replace hh:=vqs hh) <;> (try (exfalso;first | exact hh | omega))))
        refine evB_state bo116 rfl rfl hF2 ?_ (fun _ _ h=>h.elim)
        rintro _ H5 ⟨ds5,hH5,hv5⟩
        repeat' (first | apply wz1|apply wz2|apply wz3|apply wz4|apply wz5|apply wz6 | simp -dsimp (maxSteps:=999999) (disch:=omega) only[go_sem,simprocAttr, *] | ((first | refine wz8 ?_ ?_|refine wz9 ?_ ?_|refine wz7 ?_ ?_)<;>intro hh <;> (try replace hh:=vqs hh) <;> (try (exfalso;first | exact hh | omega))))
        refine hR _ _ ⟨j + 1,_,ds5,by omega,hH5,by rw [addFree_k,addFree_k];exact k1,by rw [addFree_k,addFree_k];exact k2,by have:=addFree_f (addFree nj n.set.length (ps[j].1 : Int)) ps[j].2 (n2.set.length : Int);omega,hw,gs,gs,gs,gs,gs,gs⟩ ?_
        simp -dsimp (maxSteps:=999999) (disch:=omega) only[go_sem,simprocAttr, *,natOf_int]
      · rw [List.drop_eq_nil_of_le (by omega),altW] at hw
        repeat' (first | apply wz1|apply wz2|apply wz3|apply wz4|apply wz5|apply wz6 | simp -dsimp (maxSteps:=999999) (disch:=omega) only[go_sem,simprocAttr, *] | ((first | refine wz8 ?_ ?_|refine wz9 ?_ ?_|refine wz7 ?_ ?_)<;>intro hh <;> (try replace hh:=vqs hh) <;> (try (exfalso;first | exact hh | omega))))
        exact ⟨rfl,dsj,by rw [← hw];exact hHj.ma,hHj.mv⟩
    by_cases h4 : k = 4
    · subst h4
      obtain ⟨p,rfl⟩ : ∃ p,ps = [p]:=by
        have : ps.length = 1:=by simp at hsh;omega
        match ps,this with
        | [p],_=>exact ⟨p,rfl⟩
      obtain ⟨rK,hdK,hgK,hrK,-,hvo⟩:=ps_get (j:=0) hH3.vK (by simp)
      have hpn:=hin' p (by simp)
      simp only [psD,List.map_cons,List.map_nil,pD] at hgK hvo
      simp only [List.length_cons,List.length_nil] at hdK u5
      subst hdK
      have hF:=hH3.free p.2 (by simp only [kN];omega) (p.1 : Int) (by simp only [kN];omega) (by omega)
      repeat' (first | apply wz1|apply wz2|apply wz3|apply wz4|apply wz5|apply wz6 | simp -dsimp (maxSteps:=999999) (disch:=omega) only[go_sem,simprocAttr, *] | ((first | refine wz8 ?_ ?_|refine wz9 ?_ ?_|refine wz7 ?_ ?_)<;>intro hh <;> (try replace hh:=vqs hh) <;> (try (exfalso;first | exact hh | omega))))
      refine wpB_regionXL (prs:=[]) (by kernel_rfl) rfl (by kernel_rfl) ?_
      simp -dsimp (maxSteps:=999999) (disch:=omega) only[go_sem,simprocAttr, *]
      refine ⟨fun h=>absurd h (by decide),evB_state bo116 rfl rfl hF ?_ (fun _ _ h=>h.elim)⟩
      rintro _ H4 ⟨ds4,hH4,-⟩
      have g4:=(vec_at hH4.vK).1
      have f4:=addFree_f (addState n2) p.2 (p.1 : Int)
      simp only [psD,List.map_cons,List.map_nil,pD] at g4
      have hFa:=hH4.free n.set.length (by show n.set.length < (addState n2).set.length;omega) (p.1 : Int) (by show (addState n2).set.length ≤ 100000;omega) (by omega)
      repeat' (first | apply wz1|apply wz2|apply wz3|apply wz4|apply wz5|apply wz6 | simp -dsimp (maxSteps:=999999) (disch:=omega) only[go_sem,simprocAttr, *] | ((first | refine wz8 ?_ ?_|refine wz9 ?_ ?_|refine wz7 ?_ ?_)<;>intro hh <;> (try replace hh:=vqs hh) <;> (try (exfalso;first | exact hh | omega))))
      refine evB_state bo116 rfl rfl hFa ?_ (fun _ _ h=>h.elim)
      rintro _ H5 ⟨ds5,hH5,-⟩
      have g5:=(vec_at hH5.vK).1
      have f5:=addFree_f (addFree (addState n2) p.2 p.1) n.set.length (p.1 : Int)
      simp only [psD,List.map_cons,List.map_nil,pD] at g5
      have hFb:=hH5.free n.set.length (by show n.set.length < (addState n2).set.length;omega) (n2.set.length : Int) (by show (addState n2).set.length ≤ 100000;omega) (by omega)
      repeat' (first | apply wz1|apply wz2|apply wz3|apply wz4|apply wz5|apply wz6 | simp -dsimp (maxSteps:=999999) (disch:=omega) only[go_sem,simprocAttr, *] | ((first | refine wz8 ?_ ?_|refine wz9 ?_ ?_|refine wz7 ?_ ?_)<;>intro hh <;> (try replace hh:=vqs hh) <;> (try (exfalso;first | exact hh | omega))))
      refine evB_state bo116 rfl rfl hFb ?_ (fun _ _ h=>h.elim)
      rintro _ H6 ⟨ds6,hH6,-⟩
      have g6:=(vec_at hH6.vK).1
      have f6:=addFree_f (addFree (addFree (addState n2) p.2 p.1) n.set.length (p.1 : Int)) n.set.length (n2.set.length : Int)
      simp only [psD,List.map_cons,List.map_nil,pD] at g6
      have hFc:=hH6.free p.2 (by show p.2 < (addState n2).set.length;omega) (n2.set.length : Int) (by show (addState n2).set.length ≤ 100000;omega) (by omega)
      repeat' (first | apply wz1|apply wz2|apply wz3|apply wz4|apply wz5|apply wz6 | simp -dsimp (maxSteps:=999999) (disch:=omega) only[go_sem,simprocAttr, *] | ((first | refine wz8 ?_ ?_|refine wz9 ?_ ?_|refine wz7 ?_ ?_)<;>intro hh <;> (try replace hh:=vqs hh) <;> (try (exfalso;first | exact hh | omega))))
      refine evB_state bo116 rfl rfl hFc ?_ (fun _ _ h=>h.elim)
      rintro _ H7 ⟨ds7,hH7,-⟩
      repeat' (first | apply wz1|apply wz2|apply wz3|apply wz4|apply wz5|apply wz6 | simp -dsimp (maxSteps:=999999) (disch:=omega) only[go_sem,simprocAttr, *] | ((first | refine wz8 ?_ ?_|refine wz9 ?_ ?_|refine wz7 ?_ ?_)<;>intro hh <;> (try replace hh:=vqs hh) <;> (try (exfalso;first | exact hh | omega))))
      exact ⟨rfl,ds7,by simpa [wire,optW] using hH7.ma,hH7.mv⟩
    by_cases h5 : k = 5
    · subst h5
      obtain ⟨p,rfl⟩ : ∃ p,ps = [p]:=by
        have : ps.length = 1:=by simp at hsh;omega
        match ps,this with
        | [p],_=>exact ⟨p,rfl⟩
      obtain ⟨rK,hdK,hgK,hrK,-,hvo⟩:=ps_get (j:=0) hH3.vK (by simp)
      have hpn:=hin' p (by simp)
      simp only [psD,List.map_cons,List.map_nil,pD] at hgK hvo
      simp only [List.length_cons,List.length_nil] at hdK u5
      subst hdK
      have hH4:=hH3
      have g4:=hgK
      have hFa:=hH4.free n.set.length (by show n.set.length < (addState n2).set.length;omega) (p.1 : Int) (by show (addState n2).set.length ≤ 100000;omega) (by omega)
      repeat' (first | apply wz1|apply wz2|apply wz3|apply wz4|apply wz5|apply wz6 | simp -dsimp (maxSteps:=999999) (disch:=omega) only[go_sem,simprocAttr, *] | ((first | refine wz8 ?_ ?_|refine wz9 ?_ ?_|refine wz7 ?_ ?_)<;>intro hh <;> (try replace hh:=vqs hh) <;> (try (exfalso;first | exact hh | omega))))
      refine evB_state bo116 rfl rfl hFa ?_ (fun _ _ h=>h.elim)
      rintro _ H5 ⟨ds5,hH5,-⟩
      have g5:=(vec_at hH5.vK).1
      have f5:=addFree_f (addState n2) n.set.length (p.1 : Int)
      simp only [psD,List.map_cons,List.map_nil,pD] at g5
      have hFb:=hH5.free n.set.length (by show n.set.length < (addState n2).set.length;omega) (n2.set.length : Int) (by show (addState n2).set.length ≤ 100000;omega) (by omega)
      repeat' (first | apply wz1|apply wz2|apply wz3|apply wz4|apply wz5|apply wz6 | simp -dsimp (maxSteps:=999999) (disch:=omega) only[go_sem,simprocAttr, *] | ((first | refine wz8 ?_ ?_|refine wz9 ?_ ?_|refine wz7 ?_ ?_)<;>intro hh <;> (try replace hh:=vqs hh) <;> (try (exfalso;first | exact hh | omega))))
      refine evB_state bo116 rfl rfl hFb ?_ (fun _ _ h=>h.elim)
      rintro _ H6 ⟨ds6,hH6,-⟩
      have g6:=(vec_at hH6.vK).1
      have f6:=addFree_f (addFree (addState n2) n.set.length (p.1 : Int)) n.set.length (n2.set.length : Int)
      simp only [psD,List.map_cons,List.map_nil,pD] at g6
      have hFc:=hH6.free p.2 (by show p.2 < (addState n2).set.length;omega) (n2.set.length : Int) (by show (addState n2).set.length ≤ 100000;omega) (by omega)
      repeat' (first | apply wz1|apply wz2|apply wz3|apply wz4|apply wz5|apply wz6 | simp -dsimp (maxSteps:=999999) (disch:=omega) only[go_sem,simprocAttr, *] | ((first | refine wz8 ?_ ?_|refine wz9 ?_ ?_|refine wz7 ?_ ?_)<;>intro hh <;> (try replace hh:=vqs hh) <;> (try (exfalso;first | exact hh | omega))))
      refine evB_state bo116 rfl rfl hFc ?_ (fun _ _ h=>h.elim)
      rintro _ H7 ⟨ds7,hH7,-⟩
      repeat' (first | apply wz1|apply wz2|apply wz3|apply wz4|apply wz5|apply wz6 | simp -dsimp (maxSteps:=999999) (disch:=omega) only[go_sem,simprocAttr, *] | ((first | refine wz8 ?_ ?_|refine wz9 ?_ ?_|refine wz7 ?_ ?_)<;>intro hh <;> (try replace hh:=vqs hh) <;> (try (exfalso;first | exact hh | omega))))
      exact ⟨rfl,ds7,by simpa [wire,optW] using hH7.ma,hH7.mv⟩
    · simp [h0,h1,h2,h3,h4,h5] at hsh
end Go.Proofs.W
end
section
namespace Go.Proofs.W
open Go Vm Go.Proofs.Zs25
def isA (H : Heap) (r : Nat) (xs : List D) : Prop:=hget H r = .arr xs ∨ hget H r = .fro xs
def Soft (H H' : Heap) : Prop:=∀ r xs,isA H r xs → isA H' r xs
def VecA (d : D) (H : Heap) (xs : List D) : Prop:=(xs = [] ∧ d = .sl true []) ∨ ∃ r,d = .vec r 0 xs.length ∧ isA H r xs ∧ r < H.length
theorem vecIs_a {d : D} {H : Heap} {xs : List D} (h : VecIs d H xs) : VecA d H xs:=by
  rcases h with h | ⟨_,r,h1,h2,h3⟩
  · exact .inl h
  · exact .inr ⟨r,h1,.inl h2,h3⟩
theorem VecA.soft {d : D} {H H' : Heap} {xs : List D} (h : VecA d H xs) (hs : Soft H H') (hl : H.length ≤ H'.length) : VecA d H' xs:=by
  rcases h with h | ⟨r,h1,h2,h3⟩
  · exact .inl h
  · exact .inr ⟨r,h1,hs r xs h2,by omega⟩
theorem Soft.refl {H : Heap} : Soft H H:=fun _ _ h=>h
theorem Soft.trans {H H1 H2 : Heap} (h : Soft H H1) (g : Soft H1 H2) : Soft H H2:=fun r xs k=>g r xs (h r xs k)
theorem Soft.fro {H : Heap} {r : Nat} {xs : List D} (h : hget H r = .arr xs) (hr : r < H.length) : Soft H (H.set r (.fro xs)):=by
  intro k ys hk
  by_cases e : r = k
  · subst e
    rcases hk with hk | hk
    · rw [h] at hk;cases hk;exact .inr (hget_set_eq hr)
    · rw [h] at hk;cases hk
  · unfold isA;rw [hget_set_ne e];exact hk
theorem pur_lift {k : Nat} {H : Heap} {d : D} {xs ys : List D} (h : VecA d H xs) (he : ∀ H1,Soft H H1 → H.length ≤ H1.length → ∃ H2,purL (pur k) H1 xs = some (ys,H2) ∧ Soft H1 H2 ∧ H1.length ≤ H2.length) (hy : xs = [] → ys = []) :
    ∃ H2,pur (k + 1) H d = some (.sl false ys,H2) ∧ Soft H H2 ∧ H.length ≤ H2.length:=by
  rcases h with ⟨h1,rfl⟩ | ⟨r,rfl,h2,h3⟩
  · rw [hy h1]
    exact ⟨H,by simp [pur,strip,stripL],Soft.refl,Nat.le_refl _⟩
  · rw [pur_vec]
    rcases h2 with h2 | h2
    · obtain ⟨H2,g1,g2,g3⟩:=he (H.set r (.fro xs)) (Soft.fro h2 h3) (by simp)
      refine ⟨H2,?_,(Soft.fro h2 h3).trans g2,by simpa using g3⟩
      rw [h2]
      simp only [Nat.zero_add,Nat.le_refl,if_true,List.drop_zero,List.take_length,g1,Option.map_some]
    · obtain ⟨H2,g1,g2,g3⟩:=he H Soft.refl (Nat.le_refl _)
      refine ⟨H2,?_,g2,g3⟩
      rw [h2]
      simp only [Nat.zero_add,Nat.le_refl,if_true,List.drop_zero,List.take_length,g1,Option.map_some]
theorem pur_plainA {k : Nat} {H : Heap} {d : D} {xs : List D} (h : VecA d H xs) (hs : stripL xs = some xs) : ∃ H2,pur (k + 2) H d = some (.sl false xs,H2) ∧ Soft H H2 ∧ H.length ≤ H2.length:=
  pur_lift h (fun H1 _ _=>⟨H1,purL_strip hs,Soft.refl,Nat.le_refl _⟩) (fun h=>h)
theorem pur_rows {k : Nat} : ∀ (fs : List D) (X : List (List Int)) (H : Heap),fs.length = X.length → (∀ i x,X[i]? = some x → VecA (fs.getD i ud) H (x.map (.int .i64))) → ∃ H2,purL (pur (k + 2)) H fs = some (X.map isD,H2) ∧ Soft H H2 ∧ H.length ≤ H2.length
  | [],[],H,_,_=>⟨H,rfl,Soft.refl,Nat.le_refl _⟩
  | [],x :: X,H,h,_=>by simp at h
  | d :: fs,[],H,h,_=>by simp at h
  | d :: fs,x :: X,H,h,hv=>by
    obtain ⟨H1,g1,g2,g3⟩:=pur_plainA (k:=k) (hv 0 x rfl) (strip_ints x)
    obtain ⟨H2,k1,k2,k3⟩:=pur_rows (k:=k) fs X H1 (by simpa using h) fun i y hy=>by
      have:=hv (i + 1) y (by simpa using hy)
      exact VecA.soft (by simpa using this) g2 g3
    refine ⟨H2,?_,g2.trans k2,by omega⟩
    simp only [List.getD_cons_zero] at g1
    simp only [purL,g1,Option.bind_some,k1,Option.map_some,List.map_cons]
    rfl
theorem pur_agg' {k : Nat} {cs : List D} {H : Heap} (h : stripL cs = none) : pur (k + 1) H (.agg cs) = (purL (pur k) H cs).map fun (l,H)=>(.agg l,H):=by
  conv=>lhs;unfold Vm.pur
  simp only [strip,h,Option.map_none]
theorem out_mk {M : Nat} {n : Nfa} {ds : List D} {H : Heap} (h : MkAt M n ds H) (hne : 1 ≤ n.set.length) (e : Int) : outPure H (.tup [.agg (ds.take 4),.int .i64 e]) = some (.tup [nfaD n,.int .i64 e]):=by
  obtain ⟨ms,hM,hdl,lS,lT,lR⟩:=h
  obtain ⟨dF,dS,dT,dR,fs,rfl⟩:=ds_four hdl
  simp only [List.take_succ_cons,List.take_zero,List.drop_succ_cons,List.drop_zero] at ms hM ⊢
  have hfl : fs.length = n.free.length:=by have:=ms.lenX;simp [nfaX] at this;omega
  have vF : VecA dF H fs:=by have:=vecIs_a (ms.v 0 (by simp));simpa [nfaX] using this
  have vS : VecA dS H (n.set.map (.int .u16)):=by have:=vecIs_a (ms.v 1 (by simp));simpa [nfaX] using this
  have vT : VecA dT H (n.to.map (.int .i64)):=by have:=vecIs_a (ms.v 2 (by simp));simpa [nfaX] using this
  have vR : VecA dR H (n.rule.map (.int .i64)):=by have:=vecIs_a (ms.v 3 (by simp));simpa [nfaX] using this
  have vE : ∀ i x,n.free[i]? = some x → VecA (fs.getD i ud) H (x.map (.int .i64)):=fun i x hx=>by
    have hi : i < n.free.length:=by
      rcases Nat.lt_or_ge i n.free.length with h | h
      · exact h
      · rw [List.getElem?_eq_none h] at hx;cases hx
    have:=vecIs_a (ms.v (i + 4) (by simp;omega))
    have e1 : (dF :: dS :: dT :: dR :: fs).getD (i + 4) ud = fs.getD i ud:=by simp
    have e2 : (nfaX n fs).getD (i + 4) [] = x.map (.int .i64):=by
      simp only [nfaX,List.getD_cons_succ]
      simp only [List.getD_eq_getElem?_getD,List.getElem?_map,hx]
      rfl
    rwa [e1,e2] at this
  have hnil : fs = [] → n.free.map isD = []:=fun h=>by
    rw [h] at hfl
    have : n.free = []:=List.length_eq_zero_iff.1 (by simpa using hfl.symm)
    rw [this];rfl
  obtain ⟨H1,p1,s1,l1⟩:=pur_lift (k:=3) vF (fun H1 h1 h2=>pur_rows (k:=1) fs n.free H1 hfl fun i x hx=>(vE i x hx).soft h1 h2) hnil
  obtain ⟨H2,p2,s2,l2⟩:=pur_plainA (k:=2) (vS.soft s1 l1) (strip_u16s _)
  obtain ⟨H3,p3,s3,l3⟩:=pur_plainA (k:=2) (vT.soft (s1.trans s2) (by omega)) (strip_ints _)
  obtain ⟨H4,p4,s4,l4⟩:=pur_plainA (k:=2) (vR.soft ((s1.trans s2).trans s3) (by omega)) (strip_ints _)
  have hnone : stripL [dF,dS,dT,dR] = none:=by
    have : strip dF = none:=by
      rcases vF with ⟨h1,_⟩ | ⟨r,h1,_⟩
      · rw [h1] at hfl;simp at hfl;omega
      · rw [h1];rfl
    simp [stripL,this]
  have hnone2 : stripL [D.agg [dF,dS,dT,dR],.int .i64 e] = none:=by rw [stripL,strip,hnone];rfl
  unfold outPure deepest
  rw [pur_tup hnone2]
  simp only [purL]
  rw [pur_agg' hnone]
  simp only [purL,p1,p2,p3,p4,Option.bind_some,Option.map_some]
  rw [pur_strip (show strip (.int .i64 e) = some (.int .i64 e) from rfl)]
  rfl
end Go.Proofs.W
end
section
namespace Go.Proofs.W
open Go Vm Go.Proofs.Zs25
def setRule (n : Nfa) (o : Nat) (i : Int) : Nfa:={ n with rule:=n.rule.set o i }
def emptyN : Nfa:=⟨[],[],[],[]⟩
def buildFrom : Nat → List Rx → Nfa → Option Nfa
  | _,[],n=>some n
  | i,r :: l,n=>if rightR r then buildFrom (i + 1) l (setRule (addFree (makeN r n).1 0 (makeN r n).2.1) (makeN r n).2.2 i) else none
def buildN (l : List Rx) : Option Nfa:=if 1 ≤ l.length ∧ l.length ≤ 16 then buildFrom 0 l (addState emptyN) else none
def rxsD (l : List Rx) : D:=.sl false (rxDs l)
def builtD : Option Nfa → D
  | some n=>.tup [nfaD n,.int .i64 0]
  | none=>.tup [nfaD emptyN,.int .i64 1]
theorem mk_empty {H : Heap} : MkAt H.length emptyN [.sl true [],.sl true [],.sl true [],.sl true []] (H ++ [.arr [.agg [.sl true [],.sl true [],.sl true [],.sl true []]]]):=by
  refine ⟨⟨fun i hi=>?_,rfl,fun i j hij r hi hj=>?_,by simp⟩,by rw [hget_app0];rfl,by simp,rfl,rfl,rfl⟩
  · match i,hi with
    | 0,_=>exact VecIs.nil
    | 1,_=>exact VecIs.nil
    | 2,_=>exact VecIs.nil
    | 3,_=>exact VecIs.nil
  · match i,j with
    | 0,0=>exact hij rfl
    | 0,1=>cases hj
    | 0,2=>cases hj
    | 0,3=>cases hj
    | 0,4=>cases hj
    | 0,j + 5=>simp [ud,objsD] at hj
    | 1,_=>cases hi
    | 2,_=>cases hi
    | 3,_=>cases hi
    | 4,_=>cases hi
    | i + 5,_=>simp [ud,objsD] at hi
theorem zrN : zeroT Tryz.prog 156 = some (.agg [.sl true [],.sl true [],.sl true [],.sl true []]):=by kernel_rfl
theorem zrM : zeroT Tryz.prog 182 = some (.agg [.sl true [],.sl true [],.sl true [],.sl true []]):=by kernel_rfl
theorem bdN0 : buildD Tryz.prog 156 [] = some (.agg [.sl true [],.sl true [],.sl true [],.sl true []]):=by kernel_rfl
theorem bdM0 : buildD Tryz.prog 182 [] = some (.agg [.sl true [],.sl true [],.sl true [],.sl true []]):=by kernel_rfl
attribute [local go_sem] zrN zrM bdN0 bdM0
set_option maxRecDepth 20000 in
theorem build_okS (l : List Rx) (hl0 : l.length ≤ 16 → ∀ r ∈ l,okR r) (hll : l.length ≤ 100000) : PureF Tryz.prog A 89 [rxsD l] (builtD (buildN l)):=by
  refine evF_inB (n:=55) (rs:=[.cell 2 156,.tmp 3]) Tryz.func89 rfl rfl rfl rfl rfl rfl ?_
  by_cases c1 : l.length = 0
  · have : buildN l = none:=by simp [buildN,c1]
    rw [this]
    repeat' (first | apply wz1|apply wz2|apply wz3|apply wz4|apply wz5|apply wz6 | simp -dsimp (maxSteps:=999999) (disch:=omega) only[go_sem,simprocAttr, *,rxsD] | ((first | refine wz8 (fun hh=>?_) (fun hh=>?_) | refine wz9 (fun hh=>?_) (fun hh=>?_) | refine wpB_cond (by simp -dsimp (maxSteps:=999999) (disch:=omega) only[go_sem,simprocAttr, *,rxsD];exact rfl) (fun hh=>?_) (fun hh=>?_)) <;> (try replace hh:=vqs hh) <;> (try (exfalso;first | exact hh | omega))))
    exact outPure_strip rfl
  by_cases c2 : l.length ≤ 16
  case neg=>
    have : buildN l = none:=by simp [buildN,c2]
    rw [this]
    repeat' (first | apply wz1|apply wz2|apply wz3|apply wz4|apply wz5|apply wz6 | simp -dsimp (maxSteps:=999999) (disch:=omega) only[go_sem,simprocAttr, *,rxsD] | ((first | refine wz8 (fun hh=>?_) (fun hh=>?_) | refine wz9 (fun hh=>?_) (fun hh=>?_) | refine wpB_cond (by simp -dsimp (maxSteps:=999999) (disch:=omega) only[go_sem,simprocAttr, *,rxsD];exact rfl) (fun hh=>?_) (fun hh=>?_)) <;> (try replace hh:=vqs hh) <;> (try (exfalso;first | exact hh | omega))))
    exact outPure_strip rfl
  have hl:=hl0 c2
  clear hl0
  have hb : buildN l = buildFrom 0 (l.drop 0) (addState emptyN):=by
    have : 1 ≤ l.length:=by omega
    simp [buildN,c2,this]
  rw [hb]
  have hS:=state_ok 1 emptyN _ _ (mk_empty (H:=[.arr [.agg [.sl true [],.sl true [],.sl true [],.sl true []]]])) (by simp [emptyN])
  simp only [List.cons_append,List.nil_append,List.length_cons,List.length_nil,Nat.zero_add] at hS
  repeat' (first | apply wz1|apply wz2|apply wz3|apply wz4|apply wz5|apply wz6 | simp -dsimp (maxSteps:=999999) (disch:=omega) only[go_sem,simprocAttr, *,rxsD] | ((first | refine wz8 (fun hh=>?_) (fun hh=>?_) | refine wz9 (fun hh=>?_) (fun hh=>?_) | refine wpB_cond (by simp -dsimp (maxSteps:=999999) (disch:=omega) only[go_sem,simprocAttr, *,rxsD];exact rfl) (fun hh=>?_) (fun hh=>?_)) <;> (try replace hh:=vqs hh) <;> (try (exfalso;first | exact hh | omega))))
  refine evB_state bo114 rfl rfl hS ?_ (fun _ _ h=>h.elim)
  rintro _ H1 ⟨rfl,ds1,hm1,hv1⟩
  repeat' (first | apply wz1|apply wz2|apply wz3|apply wz4|apply wz5|apply wz6 | simp -dsimp (maxSteps:=999999) (disch:=omega) only[go_sem,simprocAttr, *] | ((first | refine wz8 ?_ ?_|refine wz9 ?_ ?_|refine wz7 ?_ ?_)<;>intro hh <;> (try replace hh:=vqs hh) <;> (try (exfalso;first | exact hh | omega))))
  have hv1l:=hv1.len
  simp only [List.length_cons,List.length_nil] at hv1l
  have h00 : hget H1 0 = .arr [.agg [.sl true [],.sl true [],.sl true [],.sl true []]]:=by
    rw [hv1.keep 0 (by simp) (fun ho=>by
      obtain ⟨k,hk⟩:=ho
      match k,hk with
      | 0,hk=>simp [objsD] at hk
      | 1,hk=>cases hk
      | 2,hk=>cases hk
      | 3,hk=>cases hk
      | 4,hk=>cases hk
      | k + 5,hk=>simp [ud,objsD] at hk)]
    rfl
  have hn0 : ¬ own (mkL 1 ds1) 0:=fun ho=>by
    rcases hv1.ow 0 ho with h | h
    · obtain ⟨k,hk⟩:=h
      match k,hk with
      | 0,hk=>simp [objsD] at hk
      | 1,hk=>cases hk
      | 2,hk=>cases hk
      | 3,hk=>cases hk
      | 4,hk=>cases hk
      | k + 5,hk=>simp [ud,objsD] at hk
    · simp at h
  generalize hG : buildFrom 0 (l.drop 0) (addState emptyN) = G
  refine wpB_loop (fun e Hj=>∃ (j : Nat) (nj : Nfa) (dsj : List D),j ≤ l.length ∧ MkAt 1 nj dsj Hj ∧ hget Hj 0 = .arr [.agg [.sl true [],.sl true [],.sl true [],.sl true []]] ∧ ¬ own (mkL 1 dsj) 0 ∧ 1 ≤ kN nj ∧ kN nj ≤ 1 + 200 * j ∧ fN nj ≤ 700 * j ∧ G = buildFrom j (l.drop j) nj
    ∧ e 2 = .ptr 0 0 0 ∧ e 4 = .ptr 1 0 0 ∧ e 22 = rxsD l ∧ e 23 = .int .i64 l.length ∧ e 24 = .int .i64 j) (fun e H=>l.length - natOf (e 24)) ?_ ?_
  · exact ⟨0,_,ds1,by omega,hm1,h00,hn0,by simp [kN,addState,emptyN],by simp [kN,addState,emptyN],by simp [fN,addState,emptyN],hG.symm,gs,gs,by simp -dsimp (maxSteps:=999999) (disch:=omega) only[go_sem,simprocAttr, *,rxsD],by simp -dsimp (maxSteps:=999999) (disch:=omega) only[go_sem,simprocAttr, *,rxsD],gs⟩
  clear hG hS hm1 hv1 h00 hn0 hv1l hb
  rintro e Hj ⟨j,nj,dsj,hj,hmj,h0j,hnj,hk1,hk,hf,hG,e2,e4,e22,e23,e24⟩ R hR
  by_cases hb : j < l.length
  · have hr:=hl l[j] (List.getElem_mem hb)
    have hx : (rxDs l)[j]? = some (rxD l[j]):=by rw [rxDs_at,List.getElem?_eq_getElem hb];rfl
    have q1:=rx_cells l[j]
    have q2:=rx_aggQ l[j]
    have q3:=rx_noTup l[j]
    have hRt:=rightP_ok l[j] hr
    have hst:=strip1 (strip_rx l[j])
    have hM1:=hmj.ms.m
    have hl0:=lt_of_hget h0j
    rw [List.drop_eq_getElem_cons hb,buildFrom] at hG
    cases hrt : rightR l[j] with
    | false=>
      rw [hrt] at hG hRt
      have hG' : G = none:=by simpa using hG
      rw [hG']
      clear hG
      generalize hw : rxD l[j] = dk at *
      have hl1 : 0 < (Hj ++ [Ob.arr [dk]]).length:=by simp
      repeat' (first | apply wz1|apply wz2|apply wz3|apply wz4|apply wz5|apply wz6 | simp -dsimp (maxSteps:=999999) (disch:=omega) only[go_sem,simprocAttr, *,rxsD] | ((first | refine wz8 (fun hh=>?_) (fun hh=>?_) | refine wz9 (fun hh=>?_) (fun hh=>?_) | refine wpB_cond (by simp -dsimp (maxSteps:=999999) (disch:=omega) only[go_sem,simprocAttr, *,rxsD];exact rfl) (fun hh=>?_) (fun hh=>?_)) <;> (try replace hh:=vqs hh) <;> (try (exfalso;first | exact hh | omega))))
      refine evB_plain bo68 rfl rfl hst hRt ?_
      repeat' (first | apply wz1|apply wz2|apply wz3|apply wz4|apply wz5|apply wz6 | simp -dsimp (maxSteps:=999999) (disch:=omega) only[go_sem,simprocAttr, *] | ((first | refine wz8 ?_ ?_|refine wz9 ?_ ?_|refine wz7 ?_ ?_)<;>intro hh <;> (try replace hh:=vqs hh) <;> (try (exfalso;first | exact hh | omega))))
      exact outPure_strip rfl
    | true=>
      rw [hrt] at hG hRt
      have hG' : G = buildFrom (j + 1) (l.drop (j + 1)) (setRule (addFree (makeN l[j] nj).1 0 (makeN l[j] nj).2.1) (makeN l[j] nj).2.2 j):=by simpa using hG
      clear hG
      have hsz : sizeR l[j] ≤ 100 ∧ shapesR l[j] = true:=by
        simp only [rightR,Bool.and_eq_true,decide_eq_true_eq] at hrt
        exact ⟨(nodes_size _).1 hrt.1.2,hrt.2⟩
      have hmk:=make_ok _ l[j] (Nat.le_refl _) hsz.2 hr 1 nj dsj (Hj ++ [Ob.arr [rxD l[j]]]) (hmj.keep (by simp) fun r hr=>hget_app_lt (own_lt hmj.ms hr)) (by omega) (by omega)
      have e1:=makeN_k l[j] nj
      have e2':=makeN_f l[j] nj
      have e3:=makeN_io l[j] nj
      have b1:=hmk
      have hl1 : 0 < (Hj ++ [Ob.arr [rxD l[j]]]).length:=by simp
      generalize hw : rxD l[j] = dk at *
      have u1 : kN (makeN l[j] nj).1 ≤ 1 + 200 * (j + 1):=by omega
      have u2 : fN (makeN l[j] nj).1 + 1 ≤ 700 * (j + 1):=by omega
      have u3 : kN nj + 2 ≤ kN (makeN l[j] nj).1:=by have:=sizeR_pos l[j];omega
      have u4 : (makeN l[j] nj).2.2 < kN (makeN l[j] nj).1:=by rw [e3];show _ < _;omega
      clear e1 e2' e3 b1
      generalize hQ : makeN l[j] nj = Q at *
      obtain ⟨n2,i2,o2⟩:=Q
      simp only at hmk hG' u1 u2 u3 u4
      repeat' (first | apply wz1|apply wz2|apply wz3|apply wz4|apply wz5|apply wz6 | simp -dsimp (maxSteps:=999999) (disch:=omega) only[go_sem,simprocAttr, *,rxsD] | ((first | refine wz8 (fun hh=>?_) (fun hh=>?_) | refine wz9 (fun hh=>?_) (fun hh=>?_) | refine wpB_cond (by simp -dsimp (maxSteps:=999999) (disch:=omega) only[go_sem,simprocAttr, *,rxsD];exact rfl) (fun hh=>?_) (fun hh=>?_)) <;> (try replace hh:=vqs hh) <;> (try (exfalso;first | exact hh | omega))))
      refine evB_plain bo68 rfl rfl hst hRt ?_
      repeat' (first | apply wz1|apply wz2|apply wz3|apply wz4|apply wz5|apply wz6 | simp -dsimp (maxSteps:=999999) (disch:=omega) only[go_sem,simprocAttr, *] | ((first | refine wz8 ?_ ?_|refine wz9 ?_ ?_|refine wz7 ?_ ?_)<;>intro hh <;> (try replace hh:=vqs hh) <;> (try (exfalso;first | exact hh | omega))))
      refine evB_state bo115 rfl rfl hmk ?_ (fun _ _ h=>h.elim)
      rintro _ H2 ⟨rfl,ds2,hm2,hv2⟩
      have hF:=free_ok 1 n2 ds2 H2 hm2 (by simp only [kN] at u1;omega) 0 (by simp only [kN] at u3;omega) (i2 : Int) (by have:=fl_le n2 0;omega)
      have hn2 : ¬ own (mkL 1 ds2) 0:=fun ho=>by
        rcases hv2.ow 0 ho with h | h
        · exact hnj h
        · simp at h
      have h02 : hget H2 0 = .arr [.agg [.sl true [],.sl true [],.sl true [],.sl true []]]:=by
        rw [hv2.keep 0 hl1 hnj,hget_app_lt hl0,h0j]
      have hl2:=lt_of_hget h02
      rw [show ((0 : Nat) : Int) = 0 from rfl] at hF
      repeat' (first | apply wz1|apply wz2|apply wz3|apply wz4|apply wz5|apply wz6 | simp -dsimp (maxSteps:=999999) (disch:=omega) only[go_sem,simprocAttr, *] | ((first | refine wz8 ?_ ?_|refine wz9 ?_ ?_|refine wz7 ?_ ?_)<;>intro hh <;> (try replace hh:=vqs hh) <;> (try (exfalso;first | exact hh | omega))))
      refine evB_state bo116 rfl rfl hF ?_ (fun _ _ h=>h.elim)
      rintro _ H3 ⟨ds3,hm3,hv3⟩
      have hn3 : ¬ own (mkL 1 ds3) 0:=fun ho=>by
        rcases hv3.ow 0 ho with h | h
        · exact hn2 h
        · omega
      have h03 : hget H3 0 = .arr [.agg [.sl true [],.sl true [],.sl true [],.sl true []]]:=by
        rw [hv3.keep 0 hl2 hn2,h02]
      have hf3:=addFree_f n2 0 (i2 : Int)
      generalize hN3 : addFree n2 0 (i2 : Int) = n3 at *
      have hk3 : kN n3 = kN n2:=by rw [← hN3];rfl
      have u5 : o2 < kN n3:=by omega
      have u6 : kN n3 ≤ 1 + 200 * (j + 1):=by omega
      have u7 : 1 ≤ kN n3:=by omega
      clear hk3 hN3
      obtain ⟨ms,hM,hdl,lS,lT,lR⟩:=hm3
      obtain ⟨dF,dS,dT,dR,fs,rfl⟩:=ds_four hdl
      simp only [List.take_succ_cons,List.take_zero,List.drop_succ_cons,List.drop_zero] at ms hM
      have hneR : n3.rule.map (D.int .i64) ≠ []:=by intro e;have:=congrArg List.length e;simp at this;rw [this] at lR;simp only [kN] at u7;simp at lR;omega
      obtain ⟨rR,hdR,hgR,hrR⟩:=vec_get (ms.v 3 (by simp)) (by simpa [nfaX] using hneR)
      simp only [List.getD_cons_zero,List.getD_cons_succ,nfaX,List.length_map] at hdR hgR
      have n3' : rR ≠ 1:=fun e=>ms.notM (i:=3) (by simp [hdR,objsD,e])
      have n4 : rR ≠ 0:=fun e=>hn3 ⟨4,by simp [hdR,objsD,e]⟩
      have voR : vecO (.arr (n3.rule.map (D.int .i64))) 1 = true:=vecO_arr hneR (headInts _)
      have hoR : o2 < n3.rule.length:=by simp only [kN] at u5;omega
      have m1:=ms.setv (p:=3) (r:=rR) (n:=n3.rule.length) (by simp) (by simpa using hdR) (xs:=(n3.rule.set o2 (j : Int)).map (.int .i64)) (by simp) (by omega)
      have hmN : MkAt 1 (setRule n3 o2 j) (dF :: dS :: dT :: dR :: fs) (H3.set rR (.arr ((n3.rule.map (D.int .i64)).set o2 (.int .i64 j)))):=by
        rw [← List.map_set]
        exact ⟨by simpa [nfaX,setRule] using m1,by rw [hget_set_ne n3',hM];rfl,by simp,lS,lT,by simpa [setRule] using lR⟩
      have h0N : hget (H3.set rR (.arr ((n3.rule.map (D.int .i64)).set o2 (.int .i64 j)))) 0 = .arr [.agg [.sl true [],.sl true [],.sl true [],.sl true []]]:=by
        rw [hget_set_ne n4,h03]
      clear m1 hneR lR
      subst hdR
      repeat' (first | apply wz1|apply wz2|apply wz3|apply wz4|apply wz5|apply wz6 | simp -dsimp (maxSteps:=999999) (disch:=omega) only[go_sem,simprocAttr, *] | ((first | refine wz8 ?_ ?_|refine wz9 ?_ ?_|refine wz7 ?_ ?_)<;>intro hh <;> (try replace hh:=vqs hh) <;> (try (exfalso;first | exact hh | omega))))
      refine hR _ _ ⟨j + 1,setRule n3 o2 j,_,by omega,hmN,h0N,hn3,u7,u6,by have : fN (setRule n3 o2 j) = fN n3:=rfl;omega,hG',gs,gs,by simp -dsimp (maxSteps:=999999) (disch:=omega) only[go_sem,simprocAttr, *,rxsD],gs,gs⟩ ?_
      simp -dsimp (maxSteps:=999999) (disch:=omega) only[go_sem,simprocAttr, *,natOf_int]
  · rw [List.drop_eq_nil_of_le (by omega)] at hG
    have hG' : G = some nj:=hG
    have hM:=hmj.hM
    have hl0:=lt_of_hget h0j
    have hout:=fun ob=>out_mk (hmj.keep (H':=Hj.set 0 ob) (by simp) fun r hr=>hget_set_ne fun e=>hnj (e ▸ hr)) hk1 0
    obtain ⟨dF,dS,dT,dR,fs,rfl⟩:=ds_four hmj.len
    simp only [List.take_succ_cons,List.take_zero] at hM hout
    rw [hG']
    repeat' (first | apply wz1|apply wz2|apply wz3|apply wz4|apply wz5|apply wz6 | simp -dsimp (maxSteps:=999999) (disch:=omega) only[go_sem,simprocAttr, *] | ((first | refine wz8 ?_ ?_|refine wz9 ?_ ?_|refine wz7 ?_ ?_)<;>intro hh <;> (try replace hh:=vqs hh) <;> (try (exfalso;first | exact hh | omega))))
    exact hout _
end Go.Proofs.W
end
section
namespace Go.Proofs.W
open Go Vm Go.Proofs.Zs25
structure OkM (n : Nfa) : Prop where
  lF : n.free.length = kN n
  lT : n.to.length = kN n
  lR : n.rule.length = kN n
  fr : ∀ i x,x ∈ n.free.getD i [] → 0 ≤ x ∧ x < kN n
  st : ∀ i,n.set.getD i 0 ≠ 0 → 0 ≤ n.to.getD i 0 ∧ n.to.getD i 0 < kN n
  ru : ∀ i,-1 ≤ n.rule.getD i (-1) ∧ n.rule.getD i (-1) < 16
theorem OkM.addState {n : Nfa} (h : OkM n) : OkM (addState n):=by
  refine ⟨by simp [W.addState,h.lF,kN],by simp [W.addState,h.lT,kN],by simp [W.addState,h.lR,kN],fun i x hx=>?_,fun i hi=>?_,fun i=>?_⟩
  · rw [addState_k]
    simp only [W.addState,getD_push] at hx
    split at hx
    · cases hx
    · have:=h.fr i x hx;omega
  · rw [addState_k]
    simp only [W.addState,getD_push] at hi ⊢
    split at hi
    · exact absurd rfl hi
    · have:=h.st i hi
      split
      · omega
      · omega
  · simp only [W.addState,getD_push]
    split
    · omega
    · exact h.ru i
theorem OkM.addFree {n : Nfa} (h : OkM n) (f : Nat) (t : Int) (ht : 0 ≤ t ∧ t < kN n) : OkM (addFree n f t):=by
  refine ⟨by simp [W.addFree,h.lF,kN],h.lT,h.lR,fun i x hx=>?_,h.st,h.ru⟩
  simp only [W.addFree,getD_set] at hx
  rw [addFree_k]
  split at hx
  · rcases List.mem_append.1 hx with hx | hx
    · exact h.fr f x hx
    · have : x = t:=by simpa using hx
      subst this;exact ht
  · exact h.fr i x hx
theorem OkM.setTo {n : Nfa} (h : OkM n) (i : Nat) (s : Int) (o : Nat) (ho : o < kN n) : OkM (setTo n i s o):=by
  refine ⟨by rw [setTo_k];exact h.lF,by rw [setTo_k];simpa [W.setTo] using h.lT,by rw [setTo_k];exact h.lR,fun j x hx=>by rw [setTo_k];exact h.fr j x hx,fun j hj=>?_,h.ru⟩
  rw [setTo_k]
  simp only [W.setTo,getD_set] at hj ⊢
  by_cases e : i = j ∧ i < n.to.length
  · rw [if_pos e];omega
  · rw [if_neg e]
    rw [if_neg (by rw [h.lT] at e;exact e)] at hj
    exact h.st j hj
theorem OkM.catW (o : Nat) : ∀ (ps : List (Nat × Nat)) (n : Nfa) (last : Nat),OkM n → o < kN n → (∀ p ∈ ps,p.1 < kN n) → OkM (catW o n last ps)
  | [],n,last,h,ho,_=>h.addFree last o ⟨by omega,by omega⟩
  | p :: r,n,last,h,ho,hp=>by
    have:=hp p (by simp)
    exact OkM.catW o r _ p.2 (h.addFree last p.1 ⟨by omega,by omega⟩) ho fun q hq=>hp q (by simp [hq])
theorem OkM.altW (i o : Nat) : ∀ (ps : List (Nat × Nat)) (n : Nfa),OkM n → o < kN n → (∀ p ∈ ps,p.1 < kN n) → OkM (altW i o n ps)
  | [],n,h,ho,_=>h
  | p :: r,n,h,ho,hp=>by
    have:=hp p (by simp)
    exact OkM.altW i o r _ ((h.addFree i p.1 ⟨by omega,by omega⟩).addFree p.2 o ⟨by omega,by rw [addFree_k];omega⟩) ho fun q hq=>hp q (by simp [hq])
theorem OkM.optW {n : Nfa} (h : OkM n) (i o a b : Nat) (ha : a < kN n) (ho : o < kN n) : OkM (optW n i o a b):=
  ((h.addFree i a ⟨by omega,by omega⟩).addFree i o ⟨by omega,by rw [addFree_k];omega⟩).addFree b o ⟨by omega,by rw [addFree_k,addFree_k];omega⟩
theorem OkM.wire {n : Nfa} (h : OkM n) (k s : Int) (i o : Nat) (ps : List (Nat × Nat)) (ho : o < kN n) (hp : ∀ p ∈ ps,p.1 < kN n) : OkM (wire k s i o ps n):=by
  unfold W.wire
  split
  · exact h.addFree i o ⟨by omega,by omega⟩
  split
  · exact h.setTo i s o ho
  split
  · exact OkM.catW o ps n i h ho hp
  split
  · exact OkM.altW i o ps n h ho hp
  split
  · exact h
  · rename_i p r
    have:=hp p (by simp)
    split
    · exact (h.addFree p.2 p.1 ⟨by omega,by omega⟩).optW i o p.1 p.2 (by rw [addFree_k];omega) (by rw [addFree_k];omega)
    split
    · exact h.optW i o p.1 p.2 (by omega) ho
    · exact h
mutual
theorem OkM.makeN : ∀ (r : Rx) (n : Nfa),OkM n → OkM (makeN r n).1
  | .mk k s l,n,h=>by
    have h1:=OkM.kidsN l (W.addState n) h.addState
    have hin:=kidsN_in l (W.addState n)
    have hk:=kidsN_k l (W.addState n)
    simp only [W.makeN]
    refine h1.addState.wire k s _ _ _ ?_ fun p hp=>?_
    · rw [addState_k];simp only [kN];omega
    · have:=hin p hp;rw [addState_k (W.kidsN l (W.addState n)).1];omega
theorem OkM.kidsN : ∀ (l : List Rx) (n : Nfa),OkM n → OkM (kidsN l n).1
  | [],n,h=>h
  | r :: l,n,h=>OkM.kidsN l _ (OkM.makeN r n h)
end
theorem OkM.setRule {n : Nfa} (h : OkM n) (o : Nat) (i : Int) (hi : 0 ≤ i ∧ i < 16) : OkM (setRule n o i):=by
  refine ⟨h.lF,h.lT,by simpa [W.setRule] using h.lR,h.fr,h.st,fun j=>?_⟩
  simp only [W.setRule,getD_set]
  split
  · omega
  · exact h.ru j
theorem sizes {l : List Rx} (h : ∀ r ∈ l,rightR r = true) : ∀ r ∈ l,sizeR r ≤ 100 ∧ shapesR r = true:=fun r hr=>by
  have:=h r hr
  simp only [rightR,Bool.and_eq_true,decide_eq_true_eq] at this
  exact ⟨(nodes_size _).1 this.1.2,this.2⟩
theorem buildFrom_ok : ∀ (l : List Rx) (i : Nat) (n n' : Nfa),OkM n → 1 ≤ kN n → i + l.length ≤ 16 → buildFrom i l n = some n' → OkM n' ∧ kN n' ≤ kN n + 200 * l.length ∧ 1 ≤ kN n' ∧ fN n' ≤ fN n + 700 * l.length
  | [],i,n,n',h,hk,hi,hb=>by
    have : n = n':=by simpa [buildFrom] using hb
    subst this
    exact ⟨h,by simp,hk,by simp⟩
  | r :: l,i,n,n',h,hk,hi,hb=>by
    rw [buildFrom] at hb
    split at hb
    · rename_i hr
      simp only [List.length_cons] at hi ⊢
      have e1:=makeN_k r n
      have e2:=makeN_f r n
      have e3:=makeN_io r n
      have hs:=(sizes (l:=[r]) (by simpa using hr) r (by simp)).1
      have hpos:=sizeR_pos r
      have h1:=OkM.makeN r n h
      have h2:=h1.addFree 0 (W.makeN r n).2.1 (by rw [e3];show 0 ≤ ((kN n : Nat) : Int) ∧ ((kN n : Nat) : Int) < _;omega)
      have h3:=h2.setRule (W.makeN r n).2.2 i ⟨by omega,by omega⟩
      have hf:=addFree_f (W.makeN r n).1 0 (W.makeN r n).2.1
      have hkk : kN (setRule (addFree (W.makeN r n).1 0 (W.makeN r n).2.1) (W.makeN r n).2.2 i) = kN (W.makeN r n).1:=rfl
      have hff : fN (setRule (addFree (W.makeN r n).1 0 (W.makeN r n).2.1) (W.makeN r n).2.2 i) = fN (addFree (W.makeN r n).1 0 (W.makeN r n).2.1):=rfl
      obtain ⟨g1,g2,g3,g4⟩:=buildFrom_ok l (i + 1) _ n' h3 (by omega) (by omega) hb
      exact ⟨g1,by omega,g3,by omega⟩
    · cases hb
theorem getD_def {α : Type} {l : List α} {i : Nat} {d e : α} (h : i < l.length) : l.getD i d = l.getD i e:=by simp [List.getD,h]
theorem build_right {l : List Rx} {n : Nfa} (h : buildN l = some n) : OkM n ∧ OkN n ∧ rightN n = true ∧ l.length ≤ 16:=by
  unfold buildN at h
  split at h
  · rename_i hl
    have h0 : OkM (addState emptyN):=OkM.addState ⟨rfl,rfl,rfl,fun i x hx=>by simp [emptyN] at hx,fun i hi=>by simp [emptyN] at hi,fun i=>by simp [emptyN]⟩
    obtain ⟨g1,g2,g3,g4⟩:=buildFrom_ok l 0 _ n h0 (by simp [kN,addState,emptyN]) (by omega) h
    have e1 : kN (addState emptyN) = 1:=rfl
    have e2 : fN (addState emptyN) = 0:=rfl
    refine ⟨g1,⟨by simp only [kN] at g2 e1 ⊢;omega,fun x hx=>?_⟩,?_,hl.2⟩
    · obtain ⟨i,hi,rfl⟩:=List.mem_iff_getElem.1 hx
      have:=fl_le n i
      simp [List.getD,hi] at this
      omega
    · have hk : 1 ≤ n.set.length ∧ n.set.length ≤ 3300 ∧ n.free.length = n.set.length ∧ n.to.length = n.set.length ∧ n.rule.length = n.set.length:=⟨g3,by simp only [kN] at g2 e1;omega,g1.lF,g1.lT,g1.lR⟩
      simp only [rightN,Bool.and_eq_true,decide_eq_true_eq,allN_iff]
      refine ⟨hk,fun i _ hi=>?_⟩
      have hru:=g1.ru i
      rw [getD_def (d:=-1) (e:=0) (by omega)] at hru
      simp only [rowOk,Bool.and_eq_true,decide_eq_true_eq,List.all_eq_true,isS_iff,Bool.not_eq_true',Bool.and_eq_false_iff,decide_eq_false_iff_not,Bool.not_eq_false']
      refine ⟨⟨⟨?_,hru.1⟩,hru.2⟩,fun x hx=>g1.fr i x hx⟩
      by_cases hs : n.set.getD i 0 = 0
      · exact .inl (by simpa using hs)
      · exact .inr (g1.st i hs)
  · cases h
end Go.Proofs.W
end
section
namespace Go.Proofs.W
open Go Vm Go.Proofs.Zs25
inductive Go1 (n : Nfa) (w : List Int) : Nat × Nat → Nat × Nat → Prop
  | eps {s t p : Nat} : (t : Int) ∈ n.free.getD s [] → Go1 n w (s,p) (t,p)
  | sym {s t p : Nat} {c : Int} : w[p]? = some c → hit n c s = true → n.to.getD s 0 = (t : Int) → Go1 n w (s,p) (t,p + 1)
inductive Path (n : Nfa) (w : List Int) : Nat × Nat → Nat × Nat → Prop
  | refl {x : Nat × Nat} : Path n w x x
  | step {x y z : Nat × Nat} : Path n w x y → Go1 n w y z → Path n w x z
theorem Path.trans {n : Nfa} {w : List Int} {x y z : Nat × Nat} (h : Path n w x y) (g : Path n w y z) : Path n w x z:=by
  induction g with
  | refl=>exact h
  | step _ g ih=>exact .step ih g
theorem Path.one {n : Nfa} {w : List Int} {x y : Nat × Nat} (h : Go1 n w x y) : Path n w x y:=.step .refl h
def FreeOnly (n : Nfa) (s : Nat) (l : List Nat) : Prop:=n.set.getD s 0 = 0 ∧ n.free.getD s [] = l.map fun (t : Nat)=>(t : Int)
theorem hit_zero {n : Nfa} {c : Int} {s : Nat} (h : n.set.getD s 0 = 0) : hit n c s = false:=by
  rw [hit,h];simp [inB,bitZ_zero]
abbrev endOf (r : Rx) (a : Nat) : Nat:=a + 2 * sizeR r - 1
mutual
def Frag (n : Nfa) : Rx → Nat → Prop
  | .mk k s l,a=>
    (if k = 1 then n.set.getD a 0 = s ∧ n.to.getD a 0 = ((endOf (.mk k s l) a : Nat) : Int) ∧ n.free.getD a [] = []
      else FreeOnly n a (if k = 0 then [endOf (.mk k s l) a] else if k = 2 then [a + 1] else if k = 3 then starts l (a + 1) else [a + 1,endOf (.mk k s l) a])) ∧
    FragL n k (a + 1) (endOf (.mk k s l) a) l (a + 1)
def FragL (n : Nfa) (k : Int) (a0 b : Nat) : List Rx → Nat → Prop
  | [],_=>True
  | r :: l,a=>Frag n r a ∧ FreeOnly n (endOf r a) (if k = 2 then [if l.isEmpty then b else a + 2 * sizeR r] else if k = 4 then [a0,b] else [b]) ∧ FragL n k a0 b l (a + 2 * sizeR r)
def starts : List Rx → Nat → List Nat
  | [],_=>[]
  | r :: l,a=>a :: starts l (a + 2 * sizeR r)
end
def at' (l : List Bool) (p : Nat) : Prop:=l.getD p false = true
theorem at_or {a b : List Bool} {N p : Nat} (ha : a.length = N) (hb : b.length = N) : at' (orB a b) p ↔ at' a p ∨ at' b p:=by
  unfold at' orB
  rcases Nat.lt_or_ge p N with h | h
  · simp only [List.getD_eq_getElem?_getD,List.getElem?_zipWith,List.getElem?_eq_getElem (show p < a.length by omega),List.getElem?_eq_getElem (show p < b.length by omega)]
    simp
  · simp only [List.getD_eq_getElem?_getD,List.getElem?_zipWith,List.getElem?_eq_none (show a.length ≤ p by omega),List.getElem?_eq_none (show b.length ≤ p by omega)]
    simp
theorem at_rep {N p : Nat} : ¬ at' (List.replicate N false) p:=by
  unfold at'
  rw [List.getD_eq_getElem?_getD,List.getElem?_replicate]
  split <;> simp
theorem at_step {s : Int} {w : List Int} {fl : List Bool} {q : Nat} (hfl : fl.length = w.length + 1) : at' (stepB s w fl) q ↔ ∃ p c,q = p + 1 ∧ at' fl p ∧ w[p]? = some c ∧ inB s c = true:=by
  unfold at' stepB
  cases q with
  | zero=>simp
  | succ p=>
    simp only [List.getD_eq_getElem?_getD,List.getElem?_cons_succ,List.getElem?_zipWith]
    rcases Nat.lt_or_ge p w.length with h | h
    · rw [List.getElem?_eq_getElem h,List.getElem?_eq_getElem (show p < fl.length by omega)]
      simp only [Option.getD_some,Bool.and_eq_true]
      constructor
      · rintro ⟨h1,h2⟩;exact ⟨p,w[p],rfl,by rw [List.getElem?_eq_getElem (show p < fl.length by omega)];simpa using h1,List.getElem?_eq_getElem h,h2⟩
      · rintro ⟨p',c,h1,h2,h3,h4⟩
        obtain rfl : p' = p:=by omega
        rw [List.getElem?_eq_getElem h] at h3
        cases h3
        rw [List.getElem?_eq_getElem (show p' < fl.length by omega)] at h2
        exact ⟨by simpa using h2,h4⟩
    · rw [List.getElem?_eq_none (show w.length ≤ p by omega)]
      constructor
      · intro h';cases hh : fl[p]? <;> simp [hh] at h'
      · rintro ⟨p',c,h1,h2,h3,h4⟩
        obtain rfl : p' = p:=by omega
        rw [List.getElem?_eq_none (show w.length ≤ p' by omega)] at h3;cases h3
def cfB (l : List Bool) : Nat:=(l.filter (!·)).length
theorem cfB_le (l : List Bool) : cfB l ≤ l.length:=List.length_filter_le _ _
theorem cfB_or : ∀ {a b : List Bool},a.length = b.length → orB a b ≠ a → cfB (orB a b) < cfB a:=by
  have le : ∀ {a b : List Bool},a.length = b.length → cfB (orB a b) ≤ cfB a:=by
    intro a
    induction a with
    | nil=>intro b h;simp [orB,cfB]
    | cons x a ih=>
      intro b h
      cases b with
      | nil=>simp at h
      | cons y b=>
        have:=ih (b:=b) (by simpa using h)
        simp only [orB,cfB,List.zipWith_cons_cons] at this ⊢
        cases x <;> cases y <;> simp at this ⊢ <;> omega
  intro a
  induction a with
  | nil=>intro b h hne;simp [orB] at hne
  | cons x a ih=>
    intro b h hne
    cases b with
    | nil=>simp at h
    | cons y b=>
      have h1:=le (a:=a) (b:=b) (by simpa using h)
      have h2:=ih (b:=b) (by simpa using h)
      simp only [orB,cfB,List.zipWith_cons_cons] at h1 h2 hne ⊢
      cases x <;> cases y <;> simp at h1 h2 hne ⊢
      · exact h2 hne
      · omega
      · exact h2 hne
      · exact h2 hne
theorem cfB_zero : ∀ {a b : List Bool},a.length = b.length → cfB a = 0 → orB a b = a
  | [],[],_,_=>rfl
  | [],_ :: _,h,_=>by simp at h
  | _ :: _,[],h,_=>by simp at h
  | x :: a,y :: b,h,h0=>by
    cases x with
    | false=>simp [cfB] at h0
    | true=>
      have:=cfB_zero (a:=a) (b:=b) (by simpa using h) (by simpa [cfB] using h0)
      simp only [orB,List.zipWith_cons_cons] at this ⊢
      simp [this]
theorem rounds_fix {f : List Bool → List Bool} {N : Nat} (hf : ∀ l,l.length = N → (f l).length = N) : ∀ (m : Nat) (l : List Bool),l.length = N → cfB l ≤ m → orB (roundsB f false m l) (f (roundsB f false m l)) = roundsB f false m l
  | 0,l,h,hc=>by
    simp only [roundsB]
    exact cfB_zero (by rw [h,hf l h]) (by omega)
  | m + 1,l,h,hc=>by
    simp only [roundsB]
    split
    · rename_i hh
      rcases hh with hh | hh
      · cases hh
      · rw [hh,hh]
    · rename_i hh
      have hne : orB l (f l) ≠ l:=fun e=>hh (.inr e)
      have:=cfB_or (by rw [h,hf l h]) hne
      exact rounds_fix hf m _ (orB_len h (hf l h)) (by omega)
theorem rounds_inv {f : List Bool → List Bool} {N : Nat} (hf : ∀ l,l.length = N → (f l).length = N) (P : List Bool → Prop) (hP : ∀ l,l.length = N → P l → P (orB l (f l))) (one : Bool) : ∀ (m : Nat) (l : List Bool),l.length = N → P l → P (roundsB f one m l)
  | 0,l,_,h=>h
  | m + 1,l,hl,h=>by
    simp only [roundsB]
    split
    · exact hP l hl h
    · exact rounds_inv hf P hP one m _ (orB_len hl (hf l hl)) (hP l hl h)
end Go.Proofs.W
end
section
namespace Go.Proofs.W
open Go Vm Go.Proofs.Zs25
theorem go_free {n : Nfa} {w : List Int} {s t p : Nat} {l : List Nat} (h : FreeOnly n s l) (ht : t ∈ l) : Go1 n w (s,p) (t,p):=
  .eps (by rw [h.2];exact List.mem_map.2 ⟨t,ht,rfl⟩)
mutual
theorem sound (n : Nfa) (w : List Int) : ∀ (r : Rx) (a : Nat) (fl : List Bool) (j : Nat),Frag n r a → shapesR r = true → fl.length = w.length + 1 → at' (endsR w r fl) j → ∃ i,at' fl i ∧ Path n w (a,i) (endOf r a,j)
  | .mk k s l,a,fl,j,hf,hs,hfl,he=>by
    obtain ⟨h1,h2⟩:=hf
    simp only [shapesR,Bool.and_eq_true] at hs
    obtain ⟨hs1,hsl⟩:=hs
    simp only [shape1] at hs1
    simp only [endsR] at he
    by_cases h0 : k = 0
    · subst h0
      simp only [if_true] at he
      exact ⟨j,he,Path.one (go_free h1 (by simp))⟩
    rw [if_neg h0] at he
    by_cases hk1 : k = 1
    · subst hk1
      simp only [if_true] at he h1
      obtain ⟨p,c,rfl,g1,g2,g3⟩:=(at_step hfl).1 he
      exact ⟨p,g1,Path.one (.sym g2 (by rw [hit,h1.1];exact g3) h1.2.1)⟩
    rw [if_neg hk1] at he h1
    by_cases hk2 : k = 2
    · subst hk2
      simp only [if_true] at he
      have hne : l ≠ []:=by intro e;subst e;simp at hs1
      obtain ⟨i,g1,g2⟩:=soundCat n w (a + 1) (endOf (.mk 2 s l) a) l (a + 1) fl j h2 hsl hfl hne he
      exact ⟨i,g1,(Path.one (go_free h1 (by simp))).trans g2⟩
    rw [if_neg hk2] at he
    by_cases hk3 : k = 3
    · subst hk3
      simp only [if_true] at he
      obtain h | ⟨i,x,g0,g1,g2⟩:=soundAlt n w (a + 1) (endOf (.mk 3 s l) a) l (a + 1) fl _ j h2 hsl hfl (by simp) he
      · exact absurd h at_rep
      · exact ⟨i,g1,(Path.one (go_free h1 (by simpa using g0))).trans g2⟩
    rw [if_neg hk3] at he
    by_cases hk4 : k = 4 ∨ k = 5
    · rw [if_pos hk4] at he
      obtain ⟨x,rfl⟩ : ∃ x,l = [x]:=by
        have : l.length = 1:=by
          simp only [h0,hk1,hk2,hk3,if_false,or_self,if_pos hk4,Bool.and_eq_true] at hs1
          simpa using hs1.1
        match l,this with
        | [x],_=>exact ⟨x,rfl⟩
      simp only [FragL] at h2
      obtain ⟨hx,hout,-⟩:=h2
      simp only [shapesL,Bool.and_true] at hsl
      simp only [if_neg h0,if_neg hk2,if_neg hk3] at h1
      have hlen : ∀ y,y.length = w.length + 1 → (endsOne w [x] y).length = w.length + 1:=fun y hy=>ends_len w x y hy
      have kid : ∀ y j,y.length = w.length + 1 → at' (endsOne w [x] y) j → ∃ i,at' y i ∧ Path n w (a + 1,i) (endOf x (a + 1),j):=fun y j hy h=>sound n w x (a + 1) y j hx hsl hy h
      have toB : ∀ j,Path n w (endOf x (a + 1),j) (endOf (.mk k s [x]) a,j):=fun j=>Path.one (go_free hout (by rcases hk4 with h | h <;> simp [h]))
      have aB : ∀ j,Path n w (a,j) (endOf (.mk k s [x]) a,j):=fun j=>Path.one (go_free h1 (by simp))
      have aA : ∀ j,Path n w (a,j) (a + 1,j):=fun j=>Path.one (go_free h1 (by simp))
      have fin : (∃ i,at' fl i ∧ (i = j ∨ Path n w (a,i) (endOf x (a + 1),j))) → ∃ i,at' fl i ∧ Path n w (a,i) (endOf (.mk k s [x]) a,j):=by
        rintro ⟨i,g1,rfl | g2⟩
        · exact ⟨i,g1,aB i⟩
        · exact ⟨i,g1,g2.trans (toB j)⟩
      by_cases h4 : k = 4
      · subst h4
        have hback : ∀ j,Path n w (endOf x (a + 1),j) (a + 1,j):=fun j=>Path.one (go_free hout (by simp))
        have hinv:=rounds_inv hlen (fun L=>∀ j,at' L j → ∃ i,at' fl i ∧ (i = j ∨ Path n w (a,i) (endOf x (a + 1),j))) (fun L hL hP j hj=>by
          rcases (at_or hL (hlen L hL)).1 hj with hj | hj
          · exact hP j hj
          · obtain ⟨i',g1,g2⟩:=kid L j hL hj
            obtain ⟨i,g3,rfl | g4⟩:=hP i' g1
            · exact ⟨i,g3,.inr ((aA i).trans g2)⟩
            · exact ⟨i,g3,.inr ((g4.trans (hback i')).trans g2)⟩) (4 == 5) (w.length + 1) fl hfl (fun j hj=>⟨j,hj,.inl rfl⟩)
        exact fin (hinv j he)
      · have h5 : k = 5:=by rcases hk4 with h | h;exact absurd h h4;exact h
        subst h5
        have hone : roundsB (endsOne w [x]) ((5 : Int) == 5) (w.length + 1) fl = orB fl (endsOne w [x] fl):=by simp [roundsB]
        rw [hone] at he
        rcases (at_or hfl (hlen fl hfl)).1 he with hj | hj
        · exact ⟨j,hj,aB j⟩
        · obtain ⟨i,g1,g2⟩:=kid fl j hfl hj
          exact ⟨i,g1,((aA i).trans g2).trans (toB j)⟩
    · rw [if_neg hk4] at he
      exact absurd he at_rep
theorem soundCat (n : Nfa) (w : List Int) (a0 b : Nat) : ∀ (l : List Rx) (a : Nat) (fl : List Bool) (j : Nat),FragL n 2 a0 b l a → shapesL l = true → fl.length = w.length + 1 → l ≠ [] → at' (endsCat w l fl) j → ∃ i,at' fl i ∧ Path n w (a,i) (b,j)
  | [],a,fl,j,_,_,_,hne,_=>absurd rfl hne
  | r :: l,a,fl,j,hf,hs,hfl,_,he=>by
    simp only [FragL,if_true] at hf
    obtain ⟨h1,h2,h3⟩:=hf
    simp only [shapesL,Bool.and_eq_true] at hs
    simp only [endsCat] at he
    by_cases hl : l = []
    · subst hl
      simp only [endsCat] at he
      obtain ⟨i,g1,g2⟩:=sound n w r a fl j h1 hs.1 hfl he
      exact ⟨i,g1,g2.trans (Path.one (go_free h2 (by simp)))⟩
    · obtain ⟨i,g1,g2⟩:=soundCat n w a0 b l _ _ j h3 hs.2 (ends_len w r fl hfl) hl he
      obtain ⟨i',g3,g4⟩:=sound n w r a fl i h1 hs.1 hfl g1
      have hne : l.isEmpty = false:=by cases l with | nil=>exact absurd rfl hl | cons x y=>rfl
      exact ⟨i',g3,(g4.trans (Path.one (go_free h2 (by simp [hne])))).trans g2⟩
theorem soundAlt (n : Nfa) (w : List Int) (a0 b : Nat) : ∀ (l : List Rx) (a : Nat) (fl acc : List Bool) (j : Nat),FragL n 3 a0 b l a → shapesL l = true → fl.length = w.length + 1 → acc.length = w.length + 1 → at' (endsAlt w l fl acc) j → at' acc j ∨ ∃ i x,x ∈ starts l a ∧ at' fl i ∧ Path n w (x,i) (b,j)
  | [],a,fl,acc,j,_,_,_,_,he=>.inl he
  | r :: l,a,fl,acc,j,hf,hs,hfl,hacc,he=>by
    simp only [FragL] at hf
    obtain ⟨h1,h2,h3⟩:=hf
    simp only [shapesL,Bool.and_eq_true] at hs
    simp only [endsAlt] at he
    rcases soundAlt n w a0 b l _ fl _ j h3 hs.2 hfl (orB_len hacc (ends_len w r fl hfl)) he with h | ⟨i,x,g0,g1,g2⟩
    · rcases (at_or hacc (ends_len w r fl hfl)).1 h with h | h
      · exact .inl h
      · obtain ⟨i,g1,g2⟩:=sound n w r a fl j h1 hs.1 hfl h
        exact .inr ⟨i,a,by simp [starts],g1,g2.trans (Path.one (go_free h2 (by simp)))⟩
    · exact .inr ⟨i,x,by simp [starts,g0],g1,g2⟩
end
end Go.Proofs.W
end
section
namespace Go.Proofs.W
open Go Vm Go.Proofs.Zs25
mutual
def Good (w : List Int) : Rx → Nat → List Bool → Nat → Nat → Prop
  | .mk k s l,a,fl,x,p=>(x = a ∧ at' fl p) ∨ (x = endOf (.mk k s l) a ∧ at' (endsR w (.mk k s l) fl) p) ∨ GoodL w k l (a + 1) (if k = 4 then endsR w (.mk k s l) fl else fl) x p
def GoodL (w : List Int) (k : Int) : List Rx → Nat → List Bool → Nat → Nat → Prop
  | [],_,_,_,_=>False
  | r :: l,a,fl,x,p=>Good w r a fl x p ∨ GoodL w k l (a + 2 * sizeR r) (if k = 2 then endsR w r fl else fl) x p
end
mutual
theorem good_rng (w : List Int) : ∀ (r : Rx) (a : Nat) (fl : List Bool) (x p : Nat),Good w r a fl x p → a ≤ x ∧ x ≤ endOf r a
  | .mk k s l,a,fl,x,p,h=>by
    simp only [Good] at h
    have : endOf (.mk k s l) a = a + 2 * sizeL l + 1:=by simp [endOf,sizeR];omega
    rcases h with ⟨rfl,_⟩ | ⟨rfl,_⟩ | h
    · omega
    · omega
    · have:=goodL_rng w k l (a + 1) _ x p h
      omega
theorem goodL_rng (w : List Int) (k : Int) : ∀ (l : List Rx) (a : Nat) (fl : List Bool) (x p : Nat),GoodL w k l a fl x p → a ≤ x ∧ x < a + 2 * sizeL l
  | [],a,fl,x,p,h=>by simp [GoodL] at h
  | r :: l,a,fl,x,p,h=>by
    simp only [GoodL] at h
    have hp:=sizeR_pos r
    simp only [sizeL]
    rcases h with h | h
    · have:=good_rng w r a fl x p h
      simp only [endOf] at this;omega
    · have:=goodL_rng w k l _ _ x p h;omega
end
theorem good_start (w : List Int) (r : Rx) (a : Nat) {fl : List Bool} {p : Nat} (h : at' fl p) : Good w r a fl a p:=by
  cases r;simp only [Good];exact .inl ⟨trivial,h⟩
theorem good_end (w : List Int) (r : Rx) (a : Nat) {fl : List Bool} {p : Nat} (h : Good w r a fl (endOf r a) p) : at' (endsR w r fl) p:=by
  cases r with
  | mk k s l=>
    simp only [Good] at h
    have he : endOf (.mk k s l) a = a + 2 * sizeL l + 1:=by simp [endOf,sizeR];omega
    rcases h with ⟨h,_⟩ | ⟨_,h⟩ | h
    · omega
    · exact h
    · have:=goodL_rng w k l (a + 1) _ _ p h;omega
theorem go_cases {n : Nfa} {w : List Int} {s p : Nat} {y : Nat × Nat} {l : List Nat} (h : FreeOnly n s l) (g : Go1 n w (s,p) y) : ∃ t ∈ l,y = (t,p):=by
  cases g with
  | eps ht=>
    rw [h.2] at ht
    obtain ⟨t',h1,h2⟩:=List.mem_map.1 ht
    exact ⟨t',h1,by rw [show t' = _ from Int.ofNat_inj.1 h2]⟩
  | sym _ hh _=>rw [hit_zero h.1] at hh;cases hh
theorem good_starts (w : List Int) (k : Int) (hk : k ≠ 2) : ∀ (l : List Rx) (a : Nat) {fl : List Bool} {p t : Nat},t ∈ starts l a → at' fl p → GoodL w k l a fl t p
  | [],a,fl,p,t,h,_=>by simp [starts] at h
  | r :: l,a,fl,p,t,h,hp=>by
    simp only [starts,List.mem_cons] at h
    simp only [GoodL,if_neg hk]
    rcases h with rfl | h
    · exact .inl (good_start w r _ hp)
    · exact .inr (good_starts w k hk l _ h hp)
theorem alt_acc (w : List Int) : ∀ (l : List Rx) (fl acc : List Bool) (p : Nat),fl.length = w.length + 1 → acc.length = w.length + 1 → at' acc p → at' (endsAlt w l fl acc) p
  | [],fl,acc,p,_,_,h=>h
  | r :: l,fl,acc,p,hfl,hacc,h=>by
    simp only [endsAlt]
    exact alt_acc w l fl _ p hfl (orB_len hacc (ends_len w r fl hfl)) ((at_or hacc (ends_len w r fl hfl)).2 (.inl h))
theorem alt_mem (w : List Int) : ∀ (l : List Rx) (fl acc : List Bool) (p : Nat),fl.length = w.length + 1 → acc.length = w.length + 1 → (∃ r ∈ l,at' (endsR w r fl) p) → at' (endsAlt w l fl acc) p
  | [],fl,acc,p,_,_,⟨r,h,_⟩=>by cases h
  | r :: l,fl,acc,p,hfl,hacc,⟨r',h,hp⟩=>by
    simp only [endsAlt]
    have hl:=orB_len hacc (ends_len w r fl hfl)
    rcases List.mem_cons.1 h with rfl | h
    · exact alt_acc w l fl _ p hfl hl ((at_or hacc (ends_len w r' fl hfl)).2 (.inr hp))
    · exact alt_mem w l fl _ p hfl hl ⟨r',h,hp⟩
def ExitAt (w : List Int) (k : Int) (l : List Rx) (fl : List Bool) (p : Nat) : Prop:=if k = 2 then at' (endsCat w l fl) p else ∃ r ∈ l,at' (endsR w r fl) p
mutual
theorem good_step (n : Nfa) (w : List Int) : ∀ (r : Rx) (a : Nat) (fl : List Bool) (x p : Nat) (y : Nat × Nat),Frag n r a → shapesR r = true → fl.length = w.length + 1 → Good w r a fl x p → x ≠ endOf r a → Go1 n w (x,p) y → Good w r a fl y.1 y.2
  | .mk k s l,a,fl,x,p,y,hf,hs,hfl,hg,hx,g=>by
    obtain ⟨h1,h2⟩:=hf
    simp only [shapesR,Bool.and_eq_true] at hs
    obtain ⟨hs1,hsl⟩:=hs
    simp only [shape1] at hs1
    have hE:=ends_len w (.mk k s l) fl hfl
    have hlen : ∀ y,y.length = w.length + 1 → (endsOne w l y).length = w.length + 1:=fun y hy=>endsOne_len w l y hy
    have hstar : k = 4 → (∀ p,at' fl p → at' (endsR w (.mk k s l) fl) p) ∧ (∀ p,at' (endsOne w l (endsR w (.mk k s l) fl)) p → at' (endsR w (.mk k s l) fl) p):=by
      rintro rfl
      have e : endsR w (.mk 4 s l) fl = roundsB (endsOne w l) false (w.length + 1) fl:=by rw [endsR];rfl
      rw [e] at hE ⊢
      have hfix:=rounds_fix hlen (w.length + 1) fl hfl (by have:=cfB_le fl;omega)
      refine ⟨fun p hp=>?_,fun p hp=>?_⟩
      · exact rounds_inv hlen (fun L=>at' L p) (fun L hL h=>(at_or hL (hlen L hL)).2 (.inl h)) false _ fl hfl hp
      · rw [← hfix];exact (at_or hE (hlen _ hE)).2 (.inr hp)
    have hopt : k = 5 → endsR w (.mk k s l) fl = orB fl (endsOne w l fl):=by
      rintro rfl
      have e : endsR w (.mk 5 s l) fl = roundsB (endsOne w l) ((5 : Int) == 5) (w.length + 1) fl:=by rw [endsR];rfl
      rw [e];simp [roundsB]
    have hone : k = 4 ∨ k = 5 → ∃ z,l = [z]:=fun hk=>by
      have : l.length = 1:=by
        have e0 : ¬ k = 0:=by omega
        have e1 : ¬ k = 1:=by omega
        have e2 : ¬ (k = 2 ∨ k = 3):=by omega
        simp only [e0,e1,e2,if_false,if_pos hk,Bool.and_eq_true] at hs1
        simpa using hs1.1
      match l,this with
      | [z],_=>exact ⟨z,rfl⟩
    simp only [Good] at hg ⊢
    rcases hg with ⟨rfl,hp⟩ | ⟨h,_⟩ | hg
    · by_cases h0 : k = 0
      · subst h0
        obtain ⟨t,ht,rfl⟩:=go_cases (by simpa using h1) g
        simp at ht;subst ht
        exact .inr (.inl ⟨rfl,by simpa [endsR] using hp⟩)
      by_cases hk1 : k = 1
      · subst hk1
        simp only [if_true] at h1
        cases g with
        | eps ht=>rw [h1.2.2] at ht;cases ht
        | sym g1 g2 g3=>
          rw [h1.2.1] at g3
          refine .inr (.inl ⟨(Int.ofNat_inj.1 g3).symm,?_⟩)
          have : endsR w (.mk 1 s l) fl = stepB s w fl:=by simp [endsR]
          rw [this]
          exact (at_step hfl).2 ⟨p,_,rfl,hp,g1,by rw [hit,h1.1] at g2;exact g2⟩
      rw [if_neg hk1] at h1
      by_cases hk2 : k = 2
      · subst hk2
        obtain ⟨t,ht,rfl⟩:=go_cases (by simpa using h1) g
        simp at ht;subst ht
        cases l with
        | nil=>simp at hs1
        | cons z l=>exact .inr (.inr (by simp only [GoodL];exact .inl (good_start w z _ (by simpa using hp))))
      by_cases hk3 : k = 3
      · subst hk3
        obtain ⟨t,ht,rfl⟩:=go_cases (by simpa using h1) g
        exact .inr (.inr (good_starts w 3 (by omega) l _ ht (by simpa using hp)))
      by_cases hk4 : k = 4 ∨ k = 5
      · obtain ⟨z,rfl⟩:=hone hk4
        simp only [if_neg h0,if_neg hk2,if_neg hk3] at h1
        obtain ⟨t,ht,rfl⟩:=go_cases h1 g
        simp only [List.mem_cons,List.not_mem_nil,or_false] at ht
        have hfl' : at' (if k = 4 then endsR w (.mk k s [z]) fl else fl) p:=by
          by_cases h4 : k = 4
          · rw [if_pos h4];exact (hstar h4).1 p hp
          · rw [if_neg h4];exact hp
        rcases ht with rfl | rfl
        · exact .inr (.inr (by simp only [GoodL];exact .inl (good_start w z _ hfl')))
        · refine .inr (.inl ⟨rfl,?_⟩)
          rcases hk4 with h4 | h5
          · exact (hstar h4).1 p hp
          · rw [hopt h5];exact (at_or hfl (hlen fl hfl)).2 (.inl hp)
      · exfalso
        have e2 : ¬ (k = 2 ∨ k = 3):=by omega
        simp [h0,hk1,e2,hk4] at hs1
    · exact absurd h hx
    · have hin : (if k = 4 then endsR w (.mk k s l) fl else fl).length = w.length + 1:=by split;exact hE;exact hfl
      rcases goodL_step n w k (a + 1) (endOf (.mk k s l) a) l (a + 1) _ x p y h2 hsl hin hg g with h | ⟨q,hy,hex⟩
      · exact .inr (.inr h)
      · by_cases hk2 : k = 2
        · subst hk2
          have hy' : y = (endOf (.mk 2 s l) a,q):=by rcases hy with h | ⟨h,_⟩;exact h;omega
          subst hy'
          refine .inr (.inl ⟨rfl,?_⟩)
          simpa [ExitAt,endsR] using hex
        rw [ExitAt,if_neg hk2] at hex
        by_cases h4 : k = 4
        · obtain ⟨z,rfl⟩:=hone (.inl h4)
          obtain ⟨r,hr,hp⟩:=hex
          obtain rfl : r = z:=by simpa using hr
          rw [if_pos h4] at hp
          have hX:=(hstar h4).2 q hp
          rcases hy with rfl | ⟨_,rfl⟩
          · exact .inr (.inl ⟨rfl,hX⟩)
          · exact .inr (.inr (by simp only [GoodL];exact .inl (good_start w r _ (by rw [if_pos h4];exact hX))))
        · have hy' : y = (endOf (.mk k s l) a,q):=by rcases hy with h | ⟨h,_⟩;exact h;exact absurd h h4
          subst hy'
          rw [if_neg h4] at hex
          refine .inr (.inl ⟨rfl,?_⟩)
          by_cases h5 : k = 5
          · obtain ⟨z,rfl⟩:=hone (.inr h5)
            obtain ⟨r,hr,hp⟩:=hex
            obtain rfl : r = z:=by simpa using hr
            rw [hopt h5]
            exact (at_or hfl (hlen fl hfl)).2 (.inr hp)
          · by_cases h3 : k = 3
            · subst h3
              have e : endsR w (.mk 3 s l) fl = endsAlt w l fl (List.replicate (w.length + 1) false):=by rw [endsR];rfl
              rw [e]
              exact alt_mem w l fl _ q hfl (by simp) hex
            · exfalso
              obtain ⟨r,hr,_⟩:=hex
              by_cases h0 : k = 0
              · subst h0;simp at hs1;rw [hs1.1] at hr;cases hr
              · by_cases h1 : k = 1
                · subst h1;simp at hs1;rw [hs1.1] at hr;cases hr
                · simp [h0,h1,show ¬ (k = 2 ∨ k = 3) by omega,show ¬ (k = 4 ∨ k = 5) by omega] at hs1
theorem goodL_step (n : Nfa) (w : List Int) (k : Int) (a0 b : Nat) : ∀ (l : List Rx) (a : Nat) (fl : List Bool) (x p : Nat) (y : Nat × Nat),FragL n k a0 b l a → shapesL l = true → fl.length = w.length + 1 → GoodL w k l a fl x p → Go1 n w (x,p) y → GoodL w k l a fl y.1 y.2 ∨ ∃ q,(y = (b,q) ∨ (k = 4 ∧ y = (a0,q))) ∧ ExitAt w k l fl q
  | [],a,fl,x,p,y,_,_,_,hg,_=>by simp [GoodL] at hg
  | r :: l,a,fl,x,p,y,hf,hs,hfl,hg,g=>by
    simp only [FragL] at hf
    obtain ⟨h1,h2,h3⟩:=hf
    simp only [shapesL,Bool.and_eq_true] at hs
    simp only [GoodL] at hg ⊢
    rcases hg with hg | hg
    · by_cases hx : x = endOf r a
      · subst hx
        have hp:=good_end w r a hg
        obtain ⟨t,ht,rfl⟩:=go_cases h2 g
        by_cases hk2 : k = 2
        · subst hk2
          simp only [if_true] at ht ⊢
          cases l with
          | nil=>
            simp at ht;subst ht
            exact .inr ⟨p,.inl rfl,by simpa [ExitAt,endsCat] using hp⟩
          | cons z l=>
            simp at ht;subst ht
            exact .inl (.inr (by simp only [GoodL];exact .inl (good_start w z _ hp)))
        · rw [if_neg hk2] at ht
          have hex : ExitAt w k (r :: l) fl p:=by rw [ExitAt,if_neg hk2];exact ⟨r,by simp,hp⟩
          by_cases h4 : k = 4
          · rw [if_pos h4] at ht
            simp at ht
            rcases ht with rfl | rfl
            · exact .inr ⟨p,.inr ⟨h4,rfl⟩,hex⟩
            · exact .inr ⟨p,.inl rfl,hex⟩
          · rw [if_neg h4] at ht
            simp at ht;subst ht
            exact .inr ⟨p,.inl rfl,hex⟩
      · exact .inl (.inl (good_step n w r a fl x p y h1 hs.1 hfl hg hx g))
    · have hl' : (if k = 2 then endsR w r fl else fl).length = w.length + 1:=by split;exact ends_len w r fl hfl;exact hfl
      rcases goodL_step n w k a0 b l _ _ x p y h3 hs.2 hl' hg g with h | ⟨q,hy,hex⟩
      · exact .inl (.inr h)
      · refine .inr ⟨q,hy,?_⟩
        by_cases hk2 : k = 2
        · subst hk2
          simpa [ExitAt,endsCat] using hex
        · rw [ExitAt,if_neg hk2] at hex ⊢
          rw [if_neg hk2] at hex
          obtain ⟨r',hr',h⟩:=hex
          exact ⟨r',by simp [hr'],h⟩
end
end Go.Proofs.W
end
section
namespace Go.Proofs.W
open Go Vm Go.Proofs.Zs25
def SameS (n n' : Nfa) (s : Nat) : Prop:=n'.set.getD s 0 = n.set.getD s 0 ∧ n'.to.getD s 0 = n.to.getD s 0 ∧ n'.free.getD s [] = n.free.getD s []
theorem SameS.refl {n : Nfa} {s : Nat} : SameS n n s:=⟨rfl,rfl,rfl⟩
theorem SameS.trans {n n1 n2 : Nfa} {s : Nat} (h : SameS n n1 s) (g : SameS n1 n2 s) : SameS n n2 s:=⟨g.1.trans h.1,g.2.1.trans h.2.1,g.2.2.trans h.2.2⟩
theorem SameS.only {n n' : Nfa} {s : Nat} {l : List Nat} (h : SameS n n' s) (g : FreeOnly n s l) : FreeOnly n' s l:=⟨by rw [h.1];exact g.1,by rw [h.2.2];exact g.2⟩
theorem endOf_mk (k s : Int) (l : List Rx) (a : Nat) : endOf (.mk k s l) a = a + 2 * sizeL l + 1:=by simp [endOf,sizeR];omega
mutual
theorem frag_keep {n n' : Nfa} : ∀ (r : Rx) (a : Nat),(∀ s,a ≤ s → s < endOf r a → SameS n n' s) → Frag n r a → Frag n' r a
  | .mk k s l,a,h,hf=>by
    rw [endOf_mk] at h
    obtain ⟨h1,h2⟩:=hf
    have ha:=h a (Nat.le_refl _) (by omega)
    refine ⟨?_,fragL_keep k (a + 1) _ l (a + 1) (fun s h3 h4=>h s (by omega) (by omega)) h2⟩
    split at h1
    · rename_i hk
      rw [if_pos hk]
      exact ⟨by rw [ha.1];exact h1.1,by rw [ha.2.1];exact h1.2.1,by rw [ha.2.2];exact h1.2.2⟩
    · rename_i hk
      rw [if_neg hk]
      exact ha.only h1
theorem fragL_keep {n n' : Nfa} (k : Int) (a0 b : Nat) : ∀ (l : List Rx) (a : Nat),(∀ s,a ≤ s → s < a + 2 * sizeL l → SameS n n' s) → FragL n k a0 b l a → FragL n' k a0 b l a
  | [],_,_,_=>trivial
  | r :: l,a,h,hf=>by
    obtain ⟨h1,h2,h3⟩:=hf
    have hp:=sizeR_pos r
    simp only [sizeL] at h
    exact ⟨frag_keep r a (fun s g1 g2=>h s g1 (by simp only [endOf] at g2;omega)) h1,(h (endOf r a) (by simp only [endOf];omega) (by simp only [endOf];omega)).only h2,fragL_keep k a0 b l _ (fun s g1 g2=>h s (by omega) (by omega)) h3⟩
end
def FragR (n : Nfa) : List Rx → Nat → Prop
  | [],_=>True
  | r :: l,a=>Frag n r a ∧ FreeOnly n (endOf r a) [] ∧ FragR n l (a + 2 * sizeR r)
theorem fragR_keep {n n' : Nfa} : ∀ (l : List Rx) (a : Nat),(∀ s,a ≤ s → s < a + 2 * sizeL l → SameS n n' s) → FragR n l a → FragR n' l a
  | [],_,_,_=>trivial
  | r :: l,a,h,hf=>by
    obtain ⟨h1,h2,h3⟩:=hf
    have hp:=sizeR_pos r
    simp only [sizeL] at h
    exact ⟨frag_keep r a (fun s g1 g2=>h s g1 (by simp only [endOf] at g2;omega)) h1,(h (endOf r a) (by simp only [endOf];omega) (by simp only [endOf];omega)).only h2,fragR_keep l _ (fun s g1 g2=>h s (by omega) (by omega)) h3⟩
def posL : List Rx → Nat → List (Nat × Nat)
  | [],_=>[]
  | r :: l,a=>(a,endOf r a) :: posL l (a + 2 * sizeR r)
theorem kids_pos : ∀ (l : List Rx) (n : Nfa),(kidsN l n).2 = posL l (kN n)
  | [],n=>rfl
  | r :: l,n=>by simp only [kidsN,posL,makeN_io,kids_pos l,makeN_k]
theorem addFree_same {n : Nfa} {f : Nat} {t : Int} {s : Nat} (h : s ≠ f) : SameS n (addFree n f t) s:=by
  refine ⟨rfl,rfl,?_⟩
  simp only [addFree,getD_set]
  rw [if_neg (fun e=>h e.1.symm)]
theorem addFree_only {n : Nfa} {f t : Nat} {l : List Nat} (hf : f < n.free.length) (h : FreeOnly n f l) : FreeOnly (addFree n f (t : Int)) f (l ++ [t]):=by
  refine ⟨h.1,?_⟩
  simp only [addFree,getD_set]
  rw [if_pos ⟨trivial,hf⟩,h.2];simp
theorem addState_same {n : Nfa} (h1 : n.free.length = kN n) (h2 : n.to.length = kN n) {s : Nat} (hs : s ≠ kN n) : SameS n (addState n) s:=by
  simp only [kN] at hs h1 h2
  refine ⟨?_,?_,?_⟩ <;> simp only [addState,getD_push]
  · rw [if_neg hs]
  · rw [h2,if_neg hs]
  · rw [h1,if_neg hs]
theorem addState_new {n : Nfa} (h1 : n.free.length = kN n) : FreeOnly (addState n) (kN n) []:=by
  simp only [kN] at h1 ⊢
  refine ⟨?_,?_⟩ <;> simp only [addState,getD_push]
  · simp
  · rw [h1];simp
theorem catW_frag (a0 o : Nat) : ∀ (l : List Rx) (n : Nfa) (last a : Nat),n.free.length = kN n → a + 2 * sizeL l ≤ o → o < kN n → last < a → FreeOnly n last [] → FragR n l a →
    FreeOnly (catW o n last (posL l a)) last [if l.isEmpty then o else a] ∧ FragL (catW o n last (posL l a)) 2 a0 o l a ∧ ∀ s,s ≠ last → (s < a ∨ a + 2 * sizeL l ≤ s) → SameS n (catW o n last (posL l a)) s
  | [],n,last,a,hlen,ho,hon,hl,hF,_=>by
    simp only [posL,catW]
    exact ⟨by simpa using addFree_only (l:=[]) (t:=o) (by omega) hF,trivial,fun s hs _=>addFree_same hs⟩
  | r :: l,n,last,a,hlen,ho,hon,hl,hF,hR=>by
    obtain ⟨r1,r2,r3⟩:=hR
    have hp:=sizeR_pos r
    simp only [sizeL] at ho
    simp only [posL,catW]
    have hsame : ∀ s,s ≠ last → SameS n (addFree n last (a : Int)) s:=fun s hs=>addFree_same hs
    have hlen1 : (addFree n last (a : Int)).free.length = kN (addFree n last (a : Int)):=by rw [addFree_k,(addFree_len n last _).2,hlen]
    obtain ⟨g1,g2,g3⟩:=catW_frag a0 o l (addFree n last (a : Int)) (endOf r a) (a + 2 * sizeR r) hlen1 (by omega) hon (by simp only [endOf];omega) ((hsame _ (by simp only [endOf];omega)).only r2) (fragR_keep l _ (fun s h1 h2=>hsame s (by omega)) r3)
    have hlast:=g3 last (by simp only [endOf];omega) (.inl (by omega))
    refine ⟨?_,⟨frag_keep r a (fun s h1 h2=>(hsame s (by omega)).trans (g3 s (by omega) (.inl (by simp only [endOf] at h2;omega)))) r1,?_,g2⟩,fun s hs h=>?_⟩
    · have:=addFree_only (t:=a) (l:=[]) (by omega) hF
      simpa using hlast.only this
    · simpa using g1
    · simp only [sizeL] at h
      exact (hsame s hs).trans (g3 s (by simp only [endOf];omega) (by omega))
theorem altW_frag (a0 i o : Nat) : ∀ (l : List Rx) (n : Nfa) (a : Nat) (F : List Nat),n.free.length = kN n → a + 2 * sizeL l ≤ o → o < kN n → i < a → FreeOnly n i F → FragR n l a →
    FreeOnly (altW i o n (posL l a)) i (F ++ starts l a) ∧ FragL (altW i o n (posL l a)) 3 a0 o l a ∧ ∀ s,s ≠ i → (s < a ∨ a + 2 * sizeL l ≤ s) → SameS n (altW i o n (posL l a)) s
  | [],n,a,F,hlen,ho,hon,hi,hF,_=>by
    simp only [posL,altW,starts,List.append_nil]
    exact ⟨hF,trivial,fun s _ _=>SameS.refl⟩
  | r :: l,n,a,F,hlen,ho,hon,hi,hF,hR=>by
    obtain ⟨r1,r2,r3⟩:=hR
    have hp:=sizeR_pos r
    simp only [sizeL] at ho
    simp only [posL,altW]
    have hne : endOf r a ≠ i:=by simp only [endOf];omega
    have hs1 : ∀ s,s ≠ i → SameS n (addFree n i (a : Int)) s:=fun s hs=>addFree_same hs
    have hs2 : ∀ s,s ≠ endOf r a → SameS (addFree n i (a : Int)) (addFree (addFree n i (a : Int)) (endOf r a) (o : Int)) s:=fun s hs=>addFree_same hs
    have hlen1 : (addFree n i (a : Int)).free.length = kN n:=by rw [(addFree_len n i _).2,hlen]
    have hlen2 : (addFree (addFree n i (a : Int)) (endOf r a) (o : Int)).free.length = kN n:=by rw [(addFree_len _ _ _).2,hlen1]
    have hFi : FreeOnly (addFree (addFree n i (a : Int)) (endOf r a) (o : Int)) i (F ++ [a]):=(hs2 i (fun e=>hne e.symm)).only (addFree_only (by omega) hF)
    have hEo : FreeOnly (addFree (addFree n i (a : Int)) (endOf r a) (o : Int)) (endOf r a) [o]:=by
      have:=addFree_only (t:=o) (l:=[]) (by rw [hlen1];simp only [endOf];omega) ((hs1 _ hne).only r2)
      simpa using this
    generalize hN : addFree (addFree n i (a : Int)) (endOf r a) (o : Int) = N at *
    have hkN : kN N = kN n:=by rw [← hN];rfl
    obtain ⟨g1,g2,g3⟩:=altW_frag a0 i o l N (a + 2 * sizeR r) (F ++ [a]) (by rw [hlen2,hkN]) (by omega) (by omega) (by omega) hFi (fragR_keep l _ (fun s h1 h2=>(hs1 s (by omega)).trans (hs2 s (by simp only [endOf];omega))) r3)
    refine ⟨by simpa [starts] using g1,⟨frag_keep r a (fun s h1 h2=>((hs1 s (by omega)).trans (hs2 s (by omega))).trans (g3 s (by omega) (.inl (by simp only [endOf] at h2;omega)))) r1,?_,g2⟩,fun s hs h=>?_⟩
    · have:=(g3 (endOf r a) hne (.inl (by simp only [endOf];omega))).only hEo
      simpa using this
    · simp only [sizeL] at h
      exact ((hs1 s hs).trans (hs2 s (by simp only [endOf];omega))).trans (g3 s hs (by omega))
mutual
theorem make_frag : ∀ (r : Rx) (n : Nfa),OkM n → shapesR r = true → Frag (makeN r n).1 r (kN n) ∧ FreeOnly (makeN r n).1 (endOf r (kN n)) [] ∧ ∀ s,s < kN n → SameS n (makeN r n).1 s
  | .mk k s l,n,hn,hs=>by
    simp only [shapesR,Bool.and_eq_true] at hs
    obtain ⟨hs1,hsl⟩:=hs
    have hn1:=hn.addState
    obtain ⟨hR,hkeep⟩:=kids_frag l (addState n) hn1 hsl
    have hk:=kidsN_k l (addState n)
    have hn2:=OkM.kidsN l (addState n) hn1
    have hpos:=kids_pos l (addState n)
    rw [addState_k] at hk hR hkeep hpos
    have hN3:=hn2.addState
    have hk3:=addState_k (kidsN l (addState n)).1
    have hend : endOf (.mk k s l) (kN n) = kN (kidsN l (addState n)).1:=by rw [endOf_mk,hk];omega
    have hsame2 : ∀ x,x ≠ kN (kidsN l (addState n)).1 → SameS (kidsN l (addState n)).1 (addState (kidsN l (addState n)).1) x:=fun x hx=>addState_same hn2.lF hn2.lT hx
    have ha : FreeOnly (addState (kidsN l (addState n)).1) (kN n) []:=(hsame2 _ (by omega)).only ((hkeep _ (by omega)).only (addState_new hn.lF))
    have hb : FreeOnly (addState (kidsN l (addState n)).1) (endOf (.mk k s l) (kN n)) []:=by rw [hend];exact addState_new hn2.lF
    have hR3 : FragR (addState (kidsN l (addState n)).1) l (kN n + 1):=fragR_keep l _ (fun x h1 h2=>hsame2 x (by omega)) hR
    have hold : ∀ x,x < kN n → SameS n (addState (kidsN l (addState n)).1) x:=fun x hx=>((addState_same hn.lF hn.lT (by omega)).trans (hkeep x (by omega))).trans (hsame2 x (by omega))
    have hmk : (makeN (.mk k s l) n).1 = wire k s (kN n) (endOf (.mk k s l) (kN n)) (posL l (kN n + 1)) (addState (kidsN l (addState n)).1):=by
      rw [makeN,hend];simp only [hpos]
    rw [hmk]
    have hlenF:=hN3.lF
    generalize hN : addState (kidsN l (addState n)).1 = N at *
    have hkN : kN N = kN n + 1 + 2 * sizeL l + 1:=by omega
    rw [endOf_mk] at hb hend ⊢
    clear hmk hpos hsame2 hkeep hR hn1 hn2 hk3 hk hend
    have hEN : kN n + 2 * sizeL l + 1 < kN N:=by omega
    simp only [shape1] at hs1
    unfold wire
    simp only [Frag,endOf_mk]
    have hAB : kN n + 2 * sizeL l + 1 ≠ kN n:=by omega
    by_cases h0 : k = 0
    · subst h0
      have hl : l = []:=by simp at hs1;exact hs1.1
      subst hl
      simp only [if_true,if_neg (show ¬ (0 : Int) = 1 by omega)]
      have h1:=addFree_only (t:=kN n + 2 * sizeL [] + 1) (by omega) ha
      exact ⟨⟨h1,trivial⟩,(addFree_same hAB).only hb,fun x hx=>(hold x hx).trans (addFree_same (by omega))⟩
    rw [if_neg h0]
    by_cases hk1 : k = 1
    · subst hk1
      have hl : l = []:=by simp at hs1;exact hs1.1
      subst hl
      simp only [if_true]
      have hlT:=hN3.lT
      have hget : ∀ x,x ≠ kN n → SameS N (setTo N (kN n) s (kN n + 2 * sizeL [] + 1)) x:=fun x hx=>by
        refine ⟨?_,?_,rfl⟩ <;> simp only [setTo,getD_set]
        · rw [if_neg (fun e=>hx e.1.symm)]
        · rw [if_neg (fun e=>hx e.1.symm)]
      refine ⟨⟨⟨?_,?_,?_⟩,trivial⟩,(hget _ hAB).only hb,fun x hx=>(hold x hx).trans (hget x (by omega))⟩
      · simp only [setTo,getD_set];rw [if_pos ⟨trivial,by simp only [kN] at hkN ⊢;omega⟩]
      · simp only [setTo,getD_set];rw [if_pos ⟨trivial,by simp only [kN] at hkN hlT ⊢;omega⟩]
      · have:=ha.2;simpa [setTo] using this
    rw [if_neg hk1,if_neg hk1]
    by_cases hk2 : k = 2
    · subst hk2
      simp only [if_true,if_neg (show ¬ (2 : Int) = 0 by omega)]
      have hne : l ≠ []:=by intro e;subst e;simp at hs1
      have hem : l.isEmpty = false:=by cases l with | nil=>exact absurd rfl hne | cons x y=>rfl
      obtain ⟨g1,g2,g3⟩:=catW_frag (kN n + 1) (kN n + 2 * sizeL l + 1) l N (kN n) (kN n + 1) hlenF (by omega) (by omega) (by omega) ha hR3
      rw [hem] at g1
      exact ⟨⟨by simpa using g1,g2⟩,(g3 _ hAB (.inr (by omega))).only hb,fun x hx=>(hold x hx).trans (g3 x (by omega) (.inl (by omega)))⟩
    rw [if_neg hk2]
    by_cases hk3 : k = 3
    · subst hk3
      simp only [if_true,if_neg (show ¬ (3 : Int) = 0 by omega),if_neg (show ¬ (3 : Int) = 2 by omega)]
      obtain ⟨g1,g2,g3⟩:=altW_frag (kN n + 1) (kN n) (kN n + 2 * sizeL l + 1) l N (kN n + 1) [] hlenF (by omega) (by omega) (by omega) ha hR3
      exact ⟨⟨by simpa using g1,g2⟩,(g3 _ hAB (.inr (by omega))).only hb,fun x hx=>(hold x hx).trans (g3 x (by omega) (.inl (by omega)))⟩
    rw [if_neg hk3]
    have hk45 : k = 4 ∨ k = 5:=by
      by_cases h : k = 4 ∨ k = 5
      · exact h
      · simp [h0,hk1,show ¬ (k = 2 ∨ k = 3) by omega,h] at hs1
    obtain ⟨z,rfl⟩ : ∃ z,l = [z]:=by
      have : l.length = 1:=by
        simp only [h0,hk1,if_false,show ¬ (k = 2 ∨ k = 3) by omega,if_pos hk45,Bool.and_eq_true] at hs1
        simpa using hs1.1
      match l,this with
      | [z],_=>exact ⟨z,rfl⟩
    obtain ⟨r1,r2,-⟩:=hR3
    have hp:=sizeR_pos z
    simp only [posL,sizeL,Nat.add_zero] at hkN hb hAB hEN hlenF ⊢
    simp only [if_neg h0,if_neg hk2,if_neg hk3]
    have hne : endOf z (kN n + 1) ≠ kN n:=by simp only [endOf];omega
    have opt : ∀ (N' : Nfa) (F : List Nat),N'.free.length = kN N → FreeOnly N' (kN n) [] → FreeOnly N' (endOf z (kN n + 1)) F → (∀ x,x ≠ endOf z (kN n + 1) → SameS N N' x) →
        FreeOnly (optW N' (kN n) (kN n + 2 * sizeR z + 1) (kN n + 1) (endOf z (kN n + 1))) (kN n) [kN n + 1,kN n + 2 * sizeR z + 1] ∧ FreeOnly (optW N' (kN n) (kN n + 2 * sizeR z + 1) (kN n + 1) (endOf z (kN n + 1))) (endOf z (kN n + 1)) (F ++ [kN n + 2 * sizeR z + 1]) ∧ ∀ x,x ≠ kN n → x ≠ endOf z (kN n + 1) → SameS N (optW N' (kN n) (kN n + 2 * sizeR z + 1) (kN n + 1) (endOf z (kN n + 1))) x:=by
      intro N' F hl hA hE hS
      have q1:=addFree_only (t:=kN n + 1) (by rw [hl];omega) hA
      have l1 : (addFree N' (kN n) ((kN n + 1 : Nat) : Int)).free.length = kN N:=by rw [(addFree_len _ _ _).2,hl]
      have q2:=addFree_only (t:=kN n + 2 * sizeR z + 1) (by rw [l1];omega) q1
      have l2 : (addFree (addFree N' (kN n) ((kN n + 1 : Nat) : Int)) (kN n) ((kN n + 2 * sizeR z + 1 : Nat) : Int)).free.length = kN N:=by rw [(addFree_len _ _ _).2,l1]
      have e2 : FreeOnly (addFree (addFree N' (kN n) ((kN n + 1 : Nat) : Int)) (kN n) ((kN n + 2 * sizeR z + 1 : Nat) : Int)) (endOf z (kN n + 1)) F:=((addFree_same hne).trans (addFree_same hne)).only hE
      have q3:=addFree_only (t:=kN n + 2 * sizeR z + 1) (by rw [l2];simp only [endOf];omega) e2
      exact ⟨by simpa [optW] using (addFree_same (fun e=>hne e.symm)).only q2,q3,fun x hx hx2=>(((hS x hx2).trans (addFree_same hx)).trans (addFree_same hx)).trans (addFree_same hx2)⟩
    have fin : ∀ (N' : Nfa),(∀ x,x ≠ kN n → x ≠ endOf z (kN n + 1) → SameS N N' x) → Frag N' z (kN n + 1) ∧ FreeOnly N' (kN n + 2 * sizeR z + 1) [] ∧ ∀ x,x < kN n → SameS n N' x:=fun N' hS=>
      ⟨frag_keep z _ (fun x h1 h2=>hS x (by omega) (by omega)) r1,(hS _ (by omega) (by simp only [endOf];omega)).only hb,fun x hx=>(hold x hx).trans (hS x (by omega) (by simp only [endOf];omega))⟩
    by_cases h4 : k = 4
    · subst h4
      simp only [if_true]
      obtain ⟨o1,o2,o3⟩:=opt (addFree N (endOf z (kN n + 1)) ((kN n + 1 : Nat) : Int)) [kN n + 1] (by rw [(addFree_len _ _ _).2];exact hlenF) ((addFree_same (fun e=>hne e.symm)).only ha) (by simpa using addFree_only (t:=kN n + 1) (l:=[]) (by rw [hlenF];simp only [endOf];omega) r2) (fun x hx=>addFree_same hx)
      obtain ⟨f1,f2,f3⟩:=fin _ o3
      exact ⟨⟨o1,f1,by simpa using o2,trivial⟩,f2,f3⟩
    · have h5 : k = 5:=by omega
      subst h5
      simp only [if_true,if_neg (show ¬ (5 : Int) = 4 by omega)]
      obtain ⟨o1,o2,o3⟩:=opt N [] hlenF ha r2 (fun x _=>SameS.refl)
      obtain ⟨f1,f2,f3⟩:=fin _ o3
      exact ⟨⟨o1,f1,by simpa using o2,trivial⟩,f2,f3⟩
theorem kids_frag : ∀ (l : List Rx) (n : Nfa),OkM n → shapesL l = true → FragR (kidsN l n).1 l (kN n) ∧ ∀ s,s < kN n → SameS n (kidsN l n).1 s
  | [],n,_,_=>⟨trivial,fun _ _=>SameS.refl⟩
  | r :: l,n,hn,hs=>by
    simp only [shapesL,Bool.and_eq_true] at hs
    obtain ⟨h1,h2,h3⟩:=make_frag r n hn hs.1
    have hk:=makeN_k r n
    obtain ⟨g1,g2⟩:=kids_frag l (makeN r n).1 (OkM.makeN r n hn) hs.2
    have hp:=sizeR_pos r
    rw [hk] at g1 g2
    simp only [kidsN]
    exact ⟨⟨frag_keep r _ (fun s _ h=>g2 s (by simp only [endOf] at h;omega)) h1,(g2 _ (by simp only [endOf];omega)).only h2,g1⟩,fun s hs=>(h3 s hs).trans (g2 s (by omega))⟩
end
end Go.Proofs.W
end
section
namespace Go.Proofs.W
open Go Vm Go.Proofs.Zs25
theorem catW_rule (o : Nat) : ∀ (ps : List (Nat × Nat)) (n : Nfa) (last : Nat),(catW o n last ps).rule = n.rule
  | [],_,_=>rfl
  | p :: r,n,last=>by rw [catW,catW_rule o r];rfl
theorem altW_rule (i o : Nat) : ∀ (ps : List (Nat × Nat)) (n : Nfa),(altW i o n ps).rule = n.rule
  | [],_=>rfl
  | p :: r,n=>by rw [altW,altW_rule i o r];rfl
theorem wire_rule (k s : Int) (i o : Nat) (ps : List (Nat × Nat)) (n : Nfa) : (wire k s i o ps n).rule = n.rule:=by
  unfold wire
  split
  · rfl
  split
  · rfl
  split
  · exact catW_rule ..
  split
  · exact altW_rule ..
  split
  · rfl
  split
  · rfl
  split
  · rfl
  · rfl
mutual
theorem makeN_rule : ∀ (r : Rx) (n : Nfa),(makeN r n).1.rule = n.rule ++ List.replicate (2 * sizeR r) (-1)
  | .mk k s l,n=>by
    have:=kidsN_rule l (addState n)
    simp only [makeN,wire_rule,addState,sizeR] at this ⊢
    rw [this,List.append_assoc,List.append_assoc]
    congr 1
    rw [show [(-1 : Int)] = List.replicate 1 (-1) from rfl,List.replicate_append_replicate,List.replicate_append_replicate]
    congr 1;omega
theorem kidsN_rule : ∀ (l : List Rx) (n : Nfa),(kidsN l n).1.rule = n.rule ++ List.replicate (2 * sizeL l) (-1)
  | [],n=>by simp [kidsN,sizeL]
  | r :: l,n=>by
    simp only [kidsN,kidsN_rule l,makeN_rule r,sizeL,List.append_assoc]
    rw [List.replicate_append_replicate]
    congr 2;omega
end
def endsP : List Rx → Nat → List Nat
  | [],_=>[]
  | r :: l,a=>endOf r a :: endsP l (a + 2 * sizeR r)
theorem endsP_len : ∀ (l : List Rx) (a : Nat),(endsP l a).length = l.length
  | [],_=>rfl
  | r :: l,a=>by simp [endsP,endsP_len l]
theorem endsP_app (r : Rx) : ∀ (l : List Rx) (a : Nat),endsP (l ++ [r]) a = endsP l a ++ [endOf r (a + 2 * sizeL l)]
  | [],a=>by simp [endsP,sizeL]
  | x :: l,a=>by simp only [List.cons_append,endsP,endsP_app r l,sizeL];rw [show a + 2 * sizeR x + 2 * sizeL l = a + 2 * (sizeR x + sizeL l) by omega]
theorem endsP_rng : ∀ (l : List Rx) (a : Nat),∀ s ∈ endsP l a,a < s ∧ s < a + 2 * sizeL l
  | [],a,s,h=>by cases h
  | r :: l,a,s,h=>by
    have hp:=sizeR_pos r
    simp only [endsP,List.mem_cons] at h
    simp only [sizeL]
    rcases h with rfl | h
    · simp only [endOf];omega
    · have:=endsP_rng l _ s h;omega
theorem starts_app (r : Rx) : ∀ (l : List Rx) (a : Nat),starts (l ++ [r]) a = starts l a ++ [a + 2 * sizeL l]
  | [],a=>by simp [starts,sizeL]
  | x :: l,a=>by simp only [List.cons_append,starts,starts_app r l,sizeL];rw [show a + 2 * sizeR x + 2 * sizeL l = a + 2 * (sizeR x + sizeL l) by omega]
theorem fragR_app {n : Nfa} (r : Rx) : ∀ (l : List Rx) (a : Nat),FragR n l a → Frag n r (a + 2 * sizeL l) → FreeOnly n (endOf r (a + 2 * sizeL l)) [] → FragR n (l ++ [r]) a
  | [],a,_,h1,h2=>⟨by simpa [sizeL] using h1,by simpa [sizeL] using h2,trivial⟩
  | x :: l,a,h,h1,h2=>by
    simp only [sizeL] at h1 h2
    have e : a + 2 * (sizeR x + sizeL l) = a + 2 * sizeR x + 2 * sizeL l:=by omega
    rw [e] at h1 h2
    exact ⟨h.1,h.2.1,fragR_app r l _ h.2.2 h1 h2⟩
structure Pre (n : Nfa) (l : List Rx) : Prop where
  ok : OkM n
  k : kN n = 1 + 2 * sizeL l
  s0 : FreeOnly n 0 (starts l 1)
  fr : FragR n l 1
  ru : ∀ (s i : Nat),n.rule.getD s (-1) = (i : Int) ↔ (endsP l 1)[i]? = some s
theorem pre_zero : Pre (addState emptyN) []:=by
  refine ⟨OkM.addState ⟨rfl,rfl,rfl,fun i x hx=>by simp [emptyN] at hx,fun i hi=>by simp [emptyN] at hi,fun i=>by simp [emptyN]⟩,rfl,⟨rfl,rfl⟩,trivial,fun s i=>?_⟩
  simp only [addState,emptyN,endsP,List.nil_append]
  cases s with
  | zero=>simp
  | succ s=>simp
theorem pre_step {n : Nfa} {l : List Rx} (h : Pre n l) (r : Rx) (hs : shapesR r = true) (hl : l.length < 16) : Pre (setRule (addFree (makeN r n).1 0 (makeN r n).2.1) (makeN r n).2.2 (l.length : Int)) (l ++ [r]):=by
  obtain ⟨m1,m2,m3⟩:=make_frag r n h.ok hs
  have hk:=makeN_k r n
  have hru:=makeN_rule r n
  have hok:=OkM.makeN r n h.ok
  have hp:=sizeR_pos r
  have hsz:=sizeL_app [r] l
  simp only [sizeL,Nat.add_zero] at hsz
  rw [makeN_io]
  simp only
  have hsame : ∀ s,s ≠ 0 → SameS (makeN r n).1 (setRule (addFree (makeN r n).1 0 ((kN n : Nat) : Int)) (endOf r (kN n)) (l.length : Int)) s:=fun s hs=>(addFree_same hs).trans ⟨rfl,rfl,rfl⟩
  have hk0 : kN n = 1 + 2 * sizeL l:=h.k
  refine ⟨(hok.addFree 0 _ ⟨by omega,by omega⟩).setRule _ _ ⟨by omega,by omega⟩,?_,?_,?_,fun s i=>?_⟩
  · show kN (makeN r n).1 = _
    rw [hk,hsz,hk0];omega
  · have:=addFree_only (t:=kN n) (by rw [hok.lF];omega) ((m3 0 (by omega)).only h.s0)
    rw [starts_app,← hk0]
    exact ⟨this.1,this.2⟩
  · refine fragR_app r l 1 (fragR_keep l 1 (fun s h1 h2=>(m3 s (by omega)).trans (hsame s (by omega))) h.fr) ?_ ?_
    · rw [← hk0];exact frag_keep r _ (fun s h1 h2=>hsame s (by omega)) m1
    · rw [← hk0];exact (hsame _ (by simp only [endOf];omega)).only m2
  · have hend : endOf r (kN n) = (endsP (l ++ [r]) 1).getD l.length 0:=by
      rw [endsP_app,List.getD_eq_getElem?_getD,List.getElem?_append_right (by rw [endsP_len];omega),endsP_len,← hk0];simp
    simp only [setRule,addFree,hru,getD_set]
    have hlenR : (n.rule ++ List.replicate (2 * sizeR r) (-1)).length = kN n + 2 * sizeR r:=by simp [h.ok.lR]
    rw [hlenR]
    have hold : (n.rule ++ List.replicate (2 * sizeR r) (-1)).getD s (-1) = n.rule.getD s (-1):=by
      simp only [List.getD_eq_getElem?_getD]
      rcases Nat.lt_or_ge s n.rule.length with h' | h'
      · rw [List.getElem?_append_left h']
      · rw [List.getElem?_append_right h',List.getElem?_eq_none h',List.getElem?_replicate]
        split <;> rfl
    rw [hold,endsP_app,← hk0]
    by_cases hs : endOf r (kN n) = s
    · rw [if_pos ⟨hs,by show kN n + 2 * sizeR r - 1 < _;omega⟩]
      constructor
      · intro e
        have : l.length = i:=by omega
        subst this
        rw [List.getElem?_append_right (by rw [endsP_len];omega),endsP_len,hs];simp
      · intro e
        rcases Nat.lt_or_ge i l.length with h' | h'
        · rw [List.getElem?_append_left (by rw [endsP_len];omega)] at e
          have:=endsP_rng l 1 s (List.mem_of_getElem? e)
          simp only [endOf] at hs;omega
        · rw [List.getElem?_append_right (by rw [endsP_len];omega),endsP_len] at e
          cases hx : i - l.length with
          | zero=>omega
          | succ m=>rw [hx] at e;simp at e
    · rw [if_neg (fun e=>hs e.1),h.ru]
      rcases Nat.lt_or_ge i l.length with h' | h'
      · rw [List.getElem?_append_left (by rw [endsP_len];omega)]
      · rw [List.getElem?_append_right (by rw [endsP_len];omega),endsP_len,List.getElem?_eq_none (by rw [endsP_len];omega)]
        cases hx : i - l.length with
        | zero=>simpa using hs
        | succ m=>simp
theorem build_pre : ∀ (l done : List Rx) (n n' : Nfa),Pre n done → done.length + l.length ≤ 16 → buildFrom done.length l n = some n' → Pre n' (done ++ l) ∧ ∀ r ∈ l,rightR r = true
  | [],done,n,n',h,_,hb=>by
    have : n = n':=by simpa [buildFrom] using hb
    subst this
    exact ⟨by simpa using h,by simp⟩
  | r :: l,done,n,n',h,hl,hb=>by
    rw [buildFrom] at hb
    split at hb
    · rename_i hr
      have hsh:=(sizes (l:=[r]) (by simpa using hr) r (by simp)).2
      simp only [List.length_cons] at hl
      have:=pre_step h r hsh (by omega)
      have e : done.length + 1 = (done ++ [r]).length:=by simp
      rw [e] at hb
      obtain ⟨g1,g2⟩:=build_pre l (done ++ [r]) _ n' this (by simp;omega) hb
      refine ⟨by simpa using g1,fun x hx=>?_⟩
      rcases List.mem_cons.1 hx with rfl | hx
      · exact hr
      · exact g2 x hx
    · cases hb
theorem buildN_pre {l : List Rx} {n : Nfa} (h : buildN l = some n) : Pre n l ∧ ∀ r ∈ l,rightR r = true:=by
  unfold buildN at h
  split at h
  · rename_i hl
    exact build_pre l [] _ n pre_zero (by simpa using hl.2) h
  · cases h
end Go.Proofs.W
end
