/- Texts that stand behind this claim, one after the other. -/
import Derived.Test.YtiaonafhegbhjaaGreatDoorM6
import Derived.Test.YtiaonafhegbhjaaGreatDoorM8
import Derived.Test.YtiaonafhegbhjaaGreatDoorM7
import Derived.Shelf.SlLaysN
import Derived.Shelf.RegionOpenPlain
import Derived.WalkKit
import Derived.Deep.LoopGhost
import Derived.Lib.Walk
import Derived.Lib.SliceRun
set_option maxHeartbeats 4000000
set_option linter.unusedVariables false
set_option linter.unusedSimpArgs false
section
namespace Go.Proofs.W
open Go Vm Go.Proofs.Zso
def matchD (d : Dfa) (w : List Int) : Int:=if rightD d then (if runD d 0 w < 0 then -1 else ruleAt d (runD d 0 w)) else -1
end Go.Proofs.W
end
section
namespace Go.Proofs.W
open Go Vm Go.Proofs.Zso
noncomputable def leadN (n : Nfa) (c : Int) (s : List Int) : List Int:=clos n (stp n c s)
noncomputable def rowTo (n : Nfa) (s : List Int) (ls : List (List Int)) : Nat -> List Int × List (List Int)
  | 0=>([],ls)
  | c + 1=>((rowTo n s ls c).1 ++ [(addS (rowTo n s ls c).2 (leadN n c s)).1],(addS (rowTo n s ls c).2 (leadN n c s)).2)
noncomputable def runB (n : Nfa) : Nat -> Nat -> List (List Int) -> List (List Int) -> Option (List (List Int) × List (List Int))
  | 0,_,_,_=>none
  | k + 1,i,ls,nx=>if i < ls.length then
      (if 200 < (rowTo n (ls.getD i []) ls 16).2.length then none else runB n k (i + 1) (rowTo n (ls.getD i []) ls 16).2 (nx ++ [(rowTo n (ls.getD i []) ls 16).1]))
    else some (ls,nx)
theorem jkC (n : Nfa) : clos n [] = []:=by
  rcases h : clos n [] with _ | ⟨x,l⟩
  · rfl
  · have hx : x ∈ clos n []:=by rw [h];simp
    unfold clos at hx
    obtain ⟨i,h1,h2,h3⟩:=mem_listZ.1 hx
    rw [clo_iff] at h2
    exfalso
    clear h h3 hx h1
    induction h2 with
    | base h=>simp [inS] at h
    | step _ _ ih=>exact ih
theorem jwi (n : Nfa) (c : Int) : stp n c [] = []:=by
  rcases h : stp n c [] with _ | ⟨x,l⟩
  · rfl
  · have hx : x ∈ stp n c []:=by rw [h];simp
    unfold stp at hx
    obtain ⟨i,h1,h2,h3⟩:=mem_listZ.1 hx
    simp [stepTo] at h2
theorem jve (n : Nfa) {c : Int} (s : List Int) (hc : c < 0 ∨ 16 <= c) : stp n c s = []:=by
  rcases h : stp n c s with _ | ⟨x,l⟩
  · rfl
  · have hx : x ∈ stp n c s:=by rw [h];simp
    unfold stp at hx
    obtain ⟨i,h1,h2,h3⟩:=mem_listZ.1 hx
    simp only [stepTo,List.any_eq_true,Bool.and_eq_true] at h2
    obtain ⟨y,-,⟨-,h4⟩,-⟩:=h2
    simp only [hit,inB,Bool.and_eq_true,decide_eq_true_eq] at h4
    omega
theorem jrZ (n : Nfa) (c : Int) : leadN n c [] = []:=by rw [leadN,jwi,jkC]
theorem jsq (n : Nfa) {c : Int} (s : List Int) (hc : c < 0 ∨ 16 <= c) : leadN n c s = []:=by rw [leadN,jve n s hc,jkC]
def Code (ls : List (List Int)) (x : Int) (s : List Int) : Prop:=(s = [] /\ x = -1) ∨ (s ≠ [] /\ ∃ j : Nat,x = j /\ ls[j]? = some s)
theorem jsD (ls : List (List Int)) (l : List Int) : Code (addS ls l).2 (addS ls l).1 l:=by
  by_cases h : l = []
  · exact .inl ⟨h,by simp [addS,h]⟩
  · exact .inr ⟨h,jvM h⟩
theorem Code.old {ls : List (List Int)} {x : Int} {s : List Int} (h : Code ls x s) {ls' : List (List Int)} (k : ∀ (j : Nat) q,ls[j]? = some q -> ls'[j]? = some q) : Code ls' x s:=by
  rcases h with h | ⟨h1,j,h2,h3⟩
  · exact .inl h
  · exact .inr ⟨h1,j,h2,k j s h3⟩
theorem Code.rng {ls : List (List Int)} {x : Int} {s : List Int} (h : Code ls x s) : -1 <= x /\ x < ls.length:=by
  rcases h with ⟨_,rfl⟩ | ⟨_,j,rfl,h3⟩
  · omega
  · have:=(List.getElem?_eq_some_iff.1 h3).1
    omega
theorem jt1 {ls : List (List Int)} {l q : List Int} (h : q ∈ (addS ls l).2) : q ∈ ls ∨ (q = l /\ l ≠ []):=by
  unfold addS at h
  split at h
  · exact .inl h
  · rename_i hl
    split at h
    · exact .inl h
    · rcases List.mem_append.1 h with h | h
      · exact .inl h
      · exact .inr ⟨by simpa using h,hl⟩
theorem jt7 (ls : List (List Int)) (l : List Int) : ls.length <= (addS ls l).2.length /\ (addS ls l).2.length <= ls.length + 1:=by
  unfold addS
  split
  · simp
  · split <;> simp
def GoodS (n : Nfa) (q : List Int) : Prop:=q ≠ [] /\ ∃ l,q = clos n l
theorem jfr (n : Nfa) (s : List Int) (ls : List (List Int)) : ∀ (c j : Nat) (q : List Int),ls[j]? = some q -> (rowTo n s ls c).2[j]? = some q
  | 0,j,q,h=>h
  | c + 1,j,q,h=>jjL (jfr n s ls c j q h)
theorem jdw (n : Nfa) (s : List Int) (ls : List (List Int)) : ∀ c,(rowTo n s ls c).1.length = c /\ ls.length <= (rowTo n s ls c).2.length /\ (rowTo n s ls c).2.length <= ls.length + c
  | 0=>⟨rfl,Nat.le_refl _,Nat.le_refl _⟩
  | c + 1=>by
    have ih:=jdw n s ls c
    have:=jt7 (rowTo n s ls c).2 (leadN n c s)
    refine ⟨by simp [rowTo,ih.1],?_,?_⟩
    · simp only [rowTo];omega
    · simp only [rowTo];omega
theorem jej {n : Nfa} {s : List Int} {ls : List (List Int)} (h : ∀ q ∈ ls,GoodS n q) : ∀ c,∀ q ∈ (rowTo n s ls c).2,GoodS n q
  | 0,q,hq=>h q hq
  | c + 1,q,hq=>by
    rcases jt1 hq with h1 | ⟨rfl,h2⟩
    · exact jej h c q h1
    · exact ⟨h2,_,rfl⟩
theorem jgZ (n : Nfa) (s : List Int) (ls : List (List Int)) : ∀ (c k : Nat),k < c -> Code (rowTo n s ls c).2 ((rowTo n s ls c).1.getD k 0) (leadN n k s)
  | 0,k,h=>by omega
  | c + 1,k,h=>by
    have hl:=(jdw n s ls c).1
    by_cases e : k = c
    · subst e
      have : (rowTo n s ls (k + 1)).1.getD k 0 = (addS (rowTo n s ls k).2 (leadN n k s)).1:=by
        simp only [rowTo,List.getD_eq_getElem?_getD]
        rw [List.getElem?_append_right (by omega),hl];simp
      rw [this]
      exact jsD _ _
    · have : (rowTo n s ls (c + 1)).1.getD k 0 = (rowTo n s ls c).1.getD k 0:=by
        simp only [rowTo,List.getD_eq_getElem?_getD]
        rw [List.getElem?_append_left (by omega)]
      rw [this]
      exact (jgZ n s ls c k (by omega)).old fun j q hq=>jjL hq
structure DoneI (n : Nfa) (i : Nat) (ls nx : List (List Int)) : Prop where
  len : nx.length = i
  le : i <= ls.length
  good : ∀ q ∈ ls,GoodS n q
  z : ls[0]? = some (clos n [0])
  row : ∀ j,j < i -> (nx.getD j []).length = 16 /\ ∀ k : Nat,k < 16 -> Code ls ((nx.getD j []).getD k 0) (leadN n k (ls.getD j []))
theorem DoneI.step {n : Nfa} {i : Nat} {ls nx : List (List Int)} (h : DoneI n i ls nx) (hi : i < ls.length) : DoneI n (i + 1) (rowTo n (ls.getD i []) ls 16).2 (nx ++ [(rowTo n (ls.getD i []) ls 16).1]):=by
  have hold:=jfr n (ls.getD i []) ls 16
  have hlen:=jdw n (ls.getD i []) ls 16
  have same : ∀ j,j < ls.length -> (rowTo n (ls.getD i []) ls 16).2.getD j [] = ls.getD j []:=fun j hj=>by
    have:=hold j ls[j] (List.getElem?_eq_getElem hj)
    rw [List.getD_eq_getElem?_getD,this,List.getD_eq_getElem?_getD,List.getElem?_eq_getElem hj]
  refine ⟨by simp [h.len],by omega,jej h.good 16,hold _ _ h.z,fun j hj=>?_⟩
  by_cases e : j = i
  · subst e
    have e1 : (nx ++ [(rowTo n (ls.getD j []) ls 16).1]).getD j [] = (rowTo n (ls.getD j []) ls 16).1:=by
      simp only [List.getD_eq_getElem?_getD]
      rw [List.getElem?_append_right (by rw [h.len];omega),h.len];simp
    rw [e1,same j hi]
    exact ⟨hlen.1,fun k hk=>jgZ _ _ _ 16 k hk⟩
  · have e1 : (nx ++ [(rowTo n (ls.getD i []) ls 16).1]).getD j [] = nx.getD j []:=by
      simp only [List.getD_eq_getElem?_getD]
      rw [List.getElem?_append_left (by rw [h.len];omega)]
    rw [e1,same j (by omega)]
    obtain ⟨g1,g2⟩:=h.row j (by omega)
    exact ⟨g1,fun k hk=>(g2 k hk).old hold⟩
theorem jie {n : Nfa} : ∀ (k i : Nat) (ls nx ls' nx' : List (List Int)),DoneI n i ls nx -> ls.length <= 200 -> runB n k i ls nx = some (ls',nx') -> DoneI n ls'.length ls' nx' /\ ls'.length <= 200
  | 0,i,ls,nx,ls',nx',h,hl,hr=>by simp [runB] at hr
  | k + 1,i,ls,nx,ls',nx',h,hl,hr=>by
    rw [runB] at hr
    split at hr
    · rename_i hi
      split at hr
      · cases hr
      · exact jie k (i + 1) _ _ ls' nx' (h.step hi) (by omega) hr
    · cases hr
      have : i = ls.length:=by have:=h.le;omega
      subst this
      exact ⟨h,hl⟩
theorem jix {n : Nfa} (h : clos n [0] ≠ []) : DoneI n 0 [clos n [0]] []:=
  ⟨rfl,by simp,fun q hq=>by rw [List.mem_singleton.1 hq];exact ⟨h,_,rfl⟩,rfl,fun j hj=>by omega⟩
theorem jiy {n : Nfa} (hk : 1 <= n.set.length) : clos n [0] ≠ []:=by
  intro h
  have : (0 : Int) ∈ clos n [0]:=by
    unfold clos
    exact mem_listZ.2 ⟨0,by omega,clo_iff.2 (.base ⟨by omega,by simp⟩),rfl⟩
  rw [h] at this
  cases this
def mkDfa (n : Nfa) (ls nx : List (List Int)) : Dfa:=⟨nx,ls.map (endsZ n)⟩
theorem jrC {n : Nfa} (hn : rightN n = true) {l : List Int} (hl : ∀ s ∈ l,0 <= s /\ s < n.set.length) : -1 <= endsZ n l /\ endsZ n l < 16:=by
  obtain ⟨hk,hk2,hf,ht,hr,hrow⟩:=jaX hn
  have hall : ∀ r ∈ l.map (fun s=>n.rule.getD s.toNat 0),r < 16:=fun r h=>by
    obtain ⟨s,hs,rfl⟩:=List.mem_map.1 h
    have:=hl s hs
    have:=hrow s.toNat (by omega)
    simp only [rowOk,Bool.and_eq_true,decide_eq_true_eq] at this
    omega
  obtain ⟨h1,h2,h3,h4⟩:=jcc (l.map fun s=>n.rule.getD s.toNat 0) (-1) (by omega)
  refine ⟨h1,?_⟩
  unfold endsZ
  rcases h4 with h4 | h4
  · omega
  · exact hall _ h4
theorem jjW {n : Nfa} (hn : rightN n = true) {ls nx : List (List Int)} (h : DoneI n ls.length ls nx) (hl : ls.length <= 200) : rightD (mkDfa n ls nx) = true:=by
  have h0:=(List.getElem?_eq_some_iff.1 h.z).1
  simp only [rightD,mkDfa,Bool.and_eq_true,decide_eq_true_eq,h.len,List.length_map,allN_iff]
  refine ⟨⟨by omega,hl,trivial⟩,fun i _ hi=>?_⟩
  have hi' : i < ls.length:=by omega
  have e : (ls.map (endsZ n)).getD i 0 = endsZ n ls[i]:=by simp [List.getD_eq_getElem?_getD,hi']
  obtain ⟨g1,l,g2⟩:=h.good ls[i] (List.getElem_mem hi')
  have hr:=jrC hn (l:=ls[i]) (fun s hs=>jdU (l:=l) (by rw [<- g2];exact hs))
  simp only [rowOkD,e,Bool.and_eq_true,decide_eq_true_eq,List.all_eq_true,toOk]
  refine ⟨hr,fun x hx=>?_⟩
  obtain ⟨k1,k2⟩:=h.row i hi'
  obtain ⟨k,hk,rfl⟩:=List.mem_iff_getElem.1 hx
  have:=(k2 k (by omega)).rng
  have e2 : (nx.getD i []).getD k 0 = (nx.getD i [])[k]:=by rw [List.getD_eq_getElem?_getD,List.getElem?_eq_getElem hk];rfl
  rw [e2,<- h.len] at this
  exact this
theorem mk_ty {n : Nfa} {ls nx : List (List Int)} (h : DoneI n ls.length ls nx) : tyM (mkDfa n ls nx):=fun r hr=>by
  obtain ⟨j,hj,rfl⟩:=List.mem_iff_getElem.1 hr
  have hj' : j < nx.length:=hj
  have:=(h.row j (by rw [<- h.len];exact hj)).1
  rw [List.getD_eq_getElem?_getD,List.getElem?_eq_getElem hj'] at this
  exact this
theorem juX {n : Nfa} {ls nx : List (List Int)} (h : DoneI n ls.length ls nx) {j : Nat} {q : List Int} (hj : ls[j]? = some q) (c : Int) : Code ls (nextD (mkDfa n ls nx) j c) (leadN n c q):=by
  have hjl:=(List.getElem?_eq_some_iff.1 hj).1
  unfold nextD
  split
  · rename_i hc
    rw [jsq n q hc];exact .inl ⟨rfl,rfl⟩
  · rename_i hc
    have:=(h.row j hjl).2 c.toNat (by omega)
    rw [show ls.getD j [] = q by simp [List.getD_eq_getElem?_getD,hj],show ((c.toNat : Nat) : Int) = c by omega] at this
    simpa [mkDfa] using this
theorem jo7 {n : Nfa} {ls nx : List (List Int)} (h : DoneI n ls.length ls nx) : ∀ (w : List Int) (j : Nat) (q : List Int),ls[j]? = some q -> q ≠ [] -> Code ls (runD (mkDfa n ls nx) j w) (w.foldl (fun a c=>leadN n c a) q)
  | [],j,q,hj,hq=>.inr ⟨hq,j,rfl,hj⟩
  | c :: w,j,q,hj,hq=>by
    rw [runD,List.foldl_cons]
    rcases juX h hj c with ⟨h1,h2⟩ | ⟨h1,m,h2,h3⟩
    · rw [h2,if_pos (by omega),h1]
      have : ∀ w : List Int,w.foldl (fun a c=>leadN n c a) [] = []:=by
        intro w
        induction w with
        | nil=>rfl
        | cons c w ih=>rw [List.foldl_cons,jrZ,ih]
      exact .inl ⟨this w,rfl⟩
    · rw [h2,if_neg (by omega)]
      exact jo7 h w m _ h3 h1
theorem jsa {n : Nfa} (hn : rightN n = true) {ls nx : List (List Int)} (h : DoneI n ls.length ls nx) (hl : ls.length <= 200) (w : List Int) : matchD (mkDfa n ls nx) w = matchN n w:=by
  have hq:=(h.good _ (List.mem_of_getElem? h.z)).1
  have hrun:=jo7 h w 0 _ h.z hq
  have e : w.foldl (fun a c=>leadN n c a) (clos n [0]) = atN n w:=rfl
  rw [e] at hrun
  unfold matchD matchN
  rw [if_pos (jjW hn h hl),if_pos hn]
  rcases hrun with ⟨h1,h2⟩ | ⟨h1,m,h2,h3⟩
  · rw [show ((0 : Nat) : Int) = 0 from rfl] at h2
    rw [h2,if_pos (by omega),h1];rfl
  · rw [show ((0 : Nat) : Int) = 0 from rfl] at h2
    rw [h2,if_neg (by omega)]
    simp [ruleAt,mkDfa,h3]
def lastP (f : Nat -> Int) : Nat -> Int × Int
  | 0=>(-1,-1)
  | m + 1=>if 0 <= f (m + 1) then (((m + 1 : Nat) : Int),f (m + 1)) else lastP f m
theorem jp6 {d : Dfa} (hr : rightD d = true) (ht : tyM d) (w : List Int) : longD d w 0 = lastP (fun m=>matchD d (w.take m)) w.length:=by
  have hl:=jaA hr
  rw [long0 hr,jj1 _ _ _ _ _ (by omega)]
  have key : ∀ m,(match refA d 0 w m with
      | none=>(-1,-1)
      | some m=>((0 : Int) + (m : Int),ruleAt d (runD d 0 (w.take m)))) = lastP (fun m=>matchD d (w.take m)) m:=by
    intro m
    induction m with
    | zero=>rfl
    | succ m ih=>
      rw [refA,lastP]
      have hin:=jm3 hr ht (w:=w.take (m + 1)) (a:=0) (by omega) (by omega)
      have hg : goodD d 0 (w.take (m + 1)) = decide (0 <= matchD d (w.take (m + 1))):=by
        unfold goodD matchD
        rw [if_pos hr]
        by_cases hc : runD d 0 (w.take (m + 1)) < 0
        · rw [if_pos hc];simp;omega
        · rw [if_neg hc];simp;omega
      rw [hg]
      by_cases hc : 0 <= matchD d (w.take (m + 1))
      · rw [if_pos hc]
        simp only [hc,decide_true,if_true]
        refine Prod.ext (by simp) ?_
        unfold matchD at hc ⊢
        rw [if_pos hr] at hc ⊢
        split at hc
        · omega
        · rename_i h1;rw [if_neg h1]
      · rw [if_neg hc]
        simp only [hc,decide_false,Bool.false_eq_true,if_false]
        exact ih
  exact key w.length
end Go.Proofs.W
end
section
namespace Go.Proofs.W
open Go Vm Go.Proofs.Zso
theorem jjt           {t e : TypeId} {n w m : Nat} {z d y : D} {H H1 : Heap} {xs ys : List D} (he : elemT Tryz.prog t = some e) (hn : sizeT Tryz.prog e = some n) (hw : bytesT Tryz.prog e = some w) (hz : zeroT Tryz.prog e = some z) (hzn : z.cells.length = n) (hw0 : w ≠ 0)
    (h : VecAt m d H xs) (hl : H.length <= H1.length) (hk : ∀ r,r < H.length -> hget H1 r = hget H r) (hadd : addedD H1 y = some (ys,H1)) (hy : ys ≠ []) (hys : headSize n ys = true) (hx : headSize n xs = true) (hm : (xs.length + ys.length) * w <= 140737488355328) :
    ∃ d' H',appendD Tryz.prog t H1 d y = some (d',H') /\ VecAt m d' H' (xs ++ ys) /\ Same m H H':=by
  have hye : ys.isEmpty = false:=by simpa using hy
  obtain ⟨h0,⟨rfl,rfl⟩ | ⟨h1,r,h2,h4,rfl,h3⟩⟩:=h
  · refine ⟨.vec H1.length 0 (0 + ys.length),H1 ++ [Ob.arr ([] ++ ys)],?_,⟨by simp;omega,.inr ⟨by simpa using hy,H1.length,by omega,by simp,by simp,?_⟩⟩,⟨by simp;omega,fun k hk'=>?_⟩⟩
    · simp only [appendD,he,hn,hw,hz,Option.bind_some,hadd,hzn]
      have hm' : ys.length * w <= 140737488355328:=by simpa using hm
      have h0s : headSize n ([] : List D) = true:=rfl
      simp [hw0,hys,hye,h0s,mostBytes,hm']
    · rw [jap];rfl
    · rw [jac (by omega),hk k (by omega)]
  · have hg : hget H1 r = .arr xs:=by rw [hk r h4,h3]
    have hne : xs.isEmpty = false:=by simpa using h1
    refine ⟨.vec H1.length 0 (xs.length + ys.length),H1.set r Ob.dead ++ [Ob.arr (xs ++ ys)],?_,⟨by simp;omega,.inr ⟨by simp [h1],H1.length,by omega,by simp,by simp,?_⟩⟩,⟨by simp;omega,fun k hk'=>?_⟩⟩
    · simp only [appendD,he,hn,hw,hz,Option.bind_some,hadd,hzn]
      simp [hw0,hys,hye,hg,hx,hne,hm,mostBytes]
    · have:=jap (H:=H1.set r Ob.dead) (L:=[Ob.arr (xs ++ ys)])
      rw [List.length_set] at this
      rw [this];rfl
    · rw [jac (by simp;omega),jaa (by omega),hk k (by omega)]
theorem jl3 {m : Nat} {d : D} {H : Heap} {xs : List D} (h : VecAt m d H xs) : Vm.elems H d = some xs:=by
  obtain ⟨h0,⟨rfl,rfl⟩ | ⟨h1,r,h2,h4,rfl,h3⟩⟩:=h
  · rfl
  · simp [Vm.elems,h3]
end Go.Proofs.W
end
section
namespace Go.Proofs.W
open Go Vm Go.Proofs.Zso
theorem juZ {H : Heap} {a b : D} (ha : strip a = some a) (hb : strip b = some b) : addedD (H ++ [.arr [a,b]]) (.vec H.length 0 2) = some ([a,b],H ++ [.arr [a,b]]):=by
  have : pures (H ++ [.arr [a,b]]) [a,b] = some ([a,b],H ++ [.arr [a,b]]):=jaz (by simp [stripL,ha,hb])
  simp [addedD,elems,jap,jbQ,this,puresA,jcw ha]
theorem jjQ (s : List UInt8) : bytesBack (bytesOf s) = some s:=by
  induction s with
  | nil=>rfl
  | cons b s ih=>
    simp only [bytesOf,List.map_cons,bytesBack] at ih ⊢
    rw [ih]
    simp
theorem jp1 (s : List UInt8) : headSize 1 (bytesOf s) = true:=by cases s <;> rfl
theorem jkP (s : Int) : ∀ (l : List Int),keyS (l ++ [s]) = keyS l ++ [UInt8.ofNat (s.toNat / 256),UInt8.ofNat (s.toNat % 256)]
  | []=>rfl
  | x :: l=>by simp only [List.cons_append,keyS,jkP s l]
theorem jks : ∀ l : List Int,(keyS l).length = 2 * l.length
  | []=>rfl
  | x :: l=>by simp only [keyS,List.length_cons,jks l];omega
theorem jrd (a b : List UInt8) : bytesOf (a ++ b) = bytesOf a ++ bytesOf b:=by simp [bytesOf]
theorem jqU (a : List UInt8) : (bytesOf a).length = a.length:=by simp [bytesOf]
theorem jgV (n : Nfa) : ∀ (l : List Int) (o : Int),(∀ s ∈ l,0 <= s /\ s < n.rule.length) -> ruleL (n.rule.map (.int .i64)) (l.map (.int .i64)) o = some (bestFrom o (l.map fun s=>n.rule.getD s.toNat 0))
  | [],o,h=>rfl
  | s :: l,o,h=>by
    have hs:=h s (by simp)
    obtain ⟨t,ht1,ht2⟩:=ex_at (l:=n.rule) (i:=s.toNat) 0 (by omega)
    have ih:=jgV n l
    simp only [List.map_cons,ruleL,hs.1,if_true,List.getElem?_map,ht1,Option.map_some,jey,ht2]
    exact ih _ fun x hx=>h x (by simp [hx])
abbrev dkL (M rm : Nat) (ds : List D) : List D:=.ptr M 0 0 :: .map rm :: ds
structure DkAt (M rm : Nat) (n : Nfa) (nx ls : List (List Int)) (ds : List D) (H : Heap) : Prop where
  ms : Ms M ds [nx.map rowD,(ls.map (endsZ n)).map (.int .i64),ls.map isD] H
  hM : hget H M = .arr [.agg [.sl false (n.free.map isD),.sl false (n.set.map (.int .u16)),.sl false (n.to.map (.int .i64)),.sl false (n.rule.map (.int .i64)),ds.getD 0 ud,ds.getD 1 ud,.map rm,ds.getD 2 ud]]
  hm : hget H rm = .map (ents 0 ls)
  rM : rm ≠ M
  ro : ∀ i,rm ∉ objsD (ds.getD i ud)
  rl : rm < H.length
theorem DkAt.keep {M rm : Nat} {n : Nfa} {nx ls : List (List Int)} {ds : List D} {H H' : Heap} (h : DkAt M rm n nx ls ds H) (hl : H.length <= H'.length) (hk : ∀ r,own (dkL M rm ds) r -> hget H' r = hget H r) : DkAt M rm n nx ls ds H':=
  ⟨⟨fun i hi=>jaQ (h.ms.v i hi) hl fun r hr=>hk r ⟨i + 2,by simpa using hr⟩,h.ms.lenX,h.ms.ap,by have:=h.ms.m;omega⟩,by rw [hk M ⟨0,by simp [objsD]⟩];exact h.hM,by rw [hk rm ⟨1,by simp [objsD]⟩];exact h.hm,h.rM,h.ro,by have:=h.rl;omega⟩
theorem DkAt.lt {M rm : Nat} {n : Nfa} {nx ls : List (List Int)} {ds : List D} {H : Heap} (h : DkAt M rm n nx ls ds H) {r : Nat} (hr : own (dkL M rm ds) r) : r < H.length:=by
  obtain ⟨k,hk⟩:=hr
  match k,hk with
  | 0, hk => have : r = M := by simpa [objsD] using hk
             subst this;exact h.ms.m
  | 1, hk => have : r = rm := by simpa [objsD] using hk
             subst this;exact h.rl
  | k + 2,hk=>exact h.ms.lt (i:=k) (by simpa using hk)
theorem jgy {ds : List D} (h : 3 = ds.length) : ∃ a b c,ds = [a,b,c]:=by
  match ds,h with
  | [a,b,c],_=>exact ⟨a,b,c,rfl⟩
theorem ju9 {H : Heap} {rm : Nat} {es : List (D × D)} {s : List UInt8} {i : Nat} {v : D} (hm : hget H rm = .map es) (hf : findE (.str s) es 0 = some (some (i,v))) : lookupD Tryz.prog 133 H (.map rm) (.str s) true = some (.tup [v,.bool true]):=by
  have hu : Tryz.prog.underlying 133 = some (.map 9 3):=un133
  have hk : keyOk Tryz.prog 9 (.str s) = true:=by simp only [keyOk,un9]
  simp only [lookupD,hu,hk,Bool.true_eq_false,if_false,hm,hf,Option.bind_some,Option.map_some,if_true]
theorem jv8 {H : Heap} {rm : Nat} {es : List (D × D)} {s : List UInt8} (hm : hget H rm = .map es) (hf : findE (.str s) es 0 = some none) : lookupD Tryz.prog 133 H (.map rm) (.str s) true = some (.tup [.int .i64 0,.bool false]):=by
  have hu : Tryz.prog.underlying 133 = some (.map 9 3):=un133
  have hk : keyOk Tryz.prog 9 (.str s) = true:=by simp only [keyOk,un9]
  have hz : zeroT Tryz.prog 3 = some (.int .i64 0):=zr3
  simp only [lookupD,hu,hk,Bool.true_eq_false,if_false,hm,hf,Option.bind_some,hz,Option.map_some,if_true]
theorem jvc {H : Heap} {rm : Nat} {es : List (D × D)} {s : List UInt8} {v : D} (hm : hget H rm = .map es) (hf : findE (.str s) es 0 = some none) : updateD Tryz.prog 133 H (.map rm) (.str s) v = some (H.set rm (.map (es ++ [(.str s,v)]))):=by
  have hu : Tryz.prog.underlying 133 = some (.map 9 3):=un133
  have hk : keyOk Tryz.prog 9 (.str s) = true:=by simp only [keyOk,un9]
  simp only [updateD,hu,hk,Bool.true_eq_false,if_false,hm,hf,Option.map_some]
theorem jrq (ls : List (List Int)) : headSize 1 (ls.map isD) = true:=by cases ls <;> rfl
theorem jsF (ls : List (List Int)) (h : ∀ r ∈ ls,r.length = 16) : headSize 16 (ls.map rowD) = true:=by
  cases ls with
  | nil=>rfl
  | cons r l=>simp [headSize,rowD,D.cells,h r (by simp)]
theorem jfC {d : D} {H : Heap} {xs : List D} (h : VecIs d H xs) {e : TypeId} (HH : Heap) : lenU (some (.slice e)) HH d = some xs.length:=by
  rcases h with ⟨rfl,rfl⟩ | ⟨_,r,rfl,_,_⟩ <;> rfl
end Go.Proofs.W
end
section
namespace Go.Proofs.W
open Go Vm Go.Proofs.Zso
theorem sh8' {s : Int} (h0 : 0 <= s) (h1 : s < 65536) : IntKind.u8.wrap (s.fdiv 256) = ((UInt8.ofNat (s.toNat / 256)).toNat : Int):=by
  have e : s.fdiv 256 = s / 256:=Int.fdiv_eq_ediv_of_nonneg s (by decide)
  have e2 : (UInt8.ofNat (s.toNat / 256)).toNat = s.toNat / 256:=by rw [UInt8.toNat_ofNat'];omega
  rw [e,e2,IntKind.wrap_u8]
  omega
theorem sh8q {s : Int} (h0 : 0 <= s) (h1 : s < 65536) : IntKind.u8.wrap (s.fdiv (2 ^ min 8 64)) = ((UInt8.ofNat (s.toNat / 256)).toNat : Int):=sh8' h0 h1
theorem lo8 {s : Int} (h0 : 0 <= s) (h1 : s < 65536) : IntKind.u8.wrap s = ((UInt8.ofNat (s.toNat % 256)).toNat : Int):=by
  have e2 : (UInt8.ofNat (s.toNat % 256)).toNat = s.toNat % 256:=by rw [UInt8.toNat_ofNat'];omega
  rw [e2,IntKind.wrap_u8]
  omega
theorem jiq (M rm : Nat) (n : Nfa) (nx ls : List (List Int)) (ds : List D) (H : Heap) (l : List Int) (h : DkAt M rm n nx ls ds H) (hn : rightN n = true) (hl : ∀ s ∈ l,0 <= s /\ s < n.set.length) (hsm : ∀ q ∈ ls,small q) (hll : l.length <= 3300) (hls : ls.length <= 1000) :
    EvF Tryz.prog A 66 [.ptr M 0 0,isD l] H (fun d H'=>d = .int .i64 (addS ls l).1 /\ ∃ ds',DkAt M rm n nx (addS ls l).2 ds' H' /\ Mv6 (dkL M rm ds) H (dkL M rm ds') H') (fun _ _=>False):=by
  have hrr:=jaX hn
  have hsl : small l:=fun s hs=>by have:=hl s hs;omega
  have ew : isD l = .sl false (l.map (.int .i64)):=rfl
  refine jaj (n:=78) (rs:=[.tmp 4]) Tryz.func66 rfl rfl rfl rfl rfl rfl ?_
  by_cases hne : l = []
  · subst hne
    have e1 : (addS ls []).1 = -1:=by simp [addS]
    have e2 : (addS ls []).2 = ls:=by simp [addS]
    rw [e1,e2]
    clear e1 e2 hsl hl
    repeat' (first | apply wz1|apply wz2|apply wz3|apply wz4|apply wz5|apply wz6 | simp -dsimp (maxSteps:=999999) (disch:=omega) only[go_sem,simprocAttr, *] | ((first | refine wz8 ?_ ?_|refine wz9 ?_ ?_|refine wz7 ?_ ?_)<;>intro hh <;> (try replace hh:=vqs hh) <;> (try (exfalso;first | exact hh | omega))))
    exact ⟨ds,h,Mv6.refl⟩
  have hpos : 0 < l.length:=by cases l with | nil=>exact absurd rfl hne | cons _ _=>simp
  repeat' (first | apply wz1|apply wz2|apply wz3|apply wz4|apply wz5|apply wz6 | simp -dsimp (maxSteps:=999999) (disch:=omega) only[go_sem,simprocAttr, *] | ((first | refine wz8 ?_ ?_|refine wz9 ?_ ?_|refine wz7 ?_ ?_)<;>intro hh <;> (try replace hh:=vqs hh) <;> (try (exfalso;first | exact hh | omega))))
  refine jae (fun e H1=>∃ (j : Nat) (db : D),j <= l.length /\ VecAt H.length db H1 (bytesOf (keyS (l.take j))) /\ Same H.length H H1 /\ e 0 = .ptr M 0 0 /\ e 1 = isD l /\ e 5 = db /\ e 14 = isD l /\ e 15 = .int .i64 l.length /\ e 16 = .int .i64 j) (fun e H=>l.length - natOf (e 16)) ?_ ?_
  · exact ⟨0,_,by omega,VecAt.nil (Nat.le_refl _),Same.refl,gs,gs,gs,gs,gs,gs⟩
  rintro e H1 ⟨j,db,hj,hv,hs,e0,e1,e5,e14,e15,e16⟩ R hR
  by_cases hb : j < l.length
  · obtain ⟨b0,b1⟩:=hsl l[j] (List.getElem_mem hb)
    have hx : (l.map (D.int .i64))[j]? = some (.int .i64 l[j]):=by simp [hb]
    have htk : keyS (l.take (j + 1)) = keyS (l.take j) ++ [UInt8.ofNat (l[j].toNat / 256),UInt8.ofNat (l[j].toNat % 256)]:=by rw [ja1 hb,jkP]
    have hkl : (bytesOf (keyS (l.take j))).length <= 6600:=by rw [jqU,jks,List.length_take];omega
    have ha:=jjt (t:=156) (H1:=H1 ++ [.arr [.int .u8 ((UInt8.ofNat (l[j].toNat / 256)).toNat : Int),.int .u8 ((UInt8.ofNat (l[j].toNat % 256)).toNat : Int)]]) el156 sz5 by5 zr5 rfl (by decide) hv (by simp) (fun r hr=>jac hr) (juZ rfl rfl) (by simp) rfl (jp1 _) (by simp;omega)
    rw [show bytesOf (keyS (l.take j)) ++ [D.int .u8 ((UInt8.ofNat (l[j].toNat / 256)).toNat : Int),D.int .u8 ((UInt8.ofNat (l[j].toNat % 256)).toNat : Int)] = bytesOf (keyS (l.take (j + 1))) by rw [htk,jrd];rfl,<- sh8q b0 b1,<- lo8 b0 b1] at ha
    obtain ⟨d',H2,ha,hv2,hs2⟩:=ha
    have hs3:=hs.trans hs2
    clear hs2 hv htk hsl hl hsm h hrr
    generalize l[j] = x at *
    repeat' (first | apply wz1|apply wz2|apply wz3|apply wz4|apply wz5|apply wz6 | simp -dsimp (maxSteps:=999999) (disch:=omega) only[go_sem,simprocAttr, *] | ((first | refine wz8 ?_ ?_|refine wz9 ?_ ?_|refine wz7 ?_ ?_)<;>intro hh <;> (try replace hh:=vqs hh) <;> (try (exfalso;first | exact hh | omega))))
    refine hR _ _ ⟨j + 1,d',by omega,hv2,hs3,gs,gs,gs,gs,gs,gs⟩ ?_
    simp -dsimp (maxSteps:=999999) (disch:=omega) only[go_sem,simprocAttr, *,jab]
  rw [List.take_of_length_le (by omega)] at hv
  have hel:=jl3 hv
  have hbb:=jjQ (keyS l)
  have hk : DkAt M rm n nx ls ds H1:=h.keep hs.1 fun r hr=>hs.2 r (h.lt hr)
  have hmv : Mv6 (dkL M rm ds) H (dkL M rm ds) H1:=⟨fun r hr _=>hs.2 r hr,hs.1,fun _ h=>.inl h⟩
  have hf:=jiv hsl ls 0 0 hsm
  clear hv hs h
  cases hp : placeS l 0 ls with
  | some j=>
    rw [hp] at hf
    simp only [Option.map_some] at hf
    have hlk:=ju9 hk.hm hf
    have e1 : addS ls l = ((j : Int),ls):=by simp [addS,hne,hp]
    rw [e1]
    have hM:=hk.hM
    clear hf hp e1
    repeat' (first | apply wz1|apply wz2|apply wz3|apply wz4|apply wz5|apply wz6 | simp -dsimp (maxSteps:=999999) (disch:=omega) only[go_sem,simprocAttr, *] | ((first | refine wz8 ?_ ?_|refine wz9 ?_ ?_|refine wz7 ?_ ?_)<;>intro hh <;> (try replace hh:=vqs hh) <;> (try (exfalso;first | exact hh | omega))))
    exact ⟨ds,hk,hmv⟩
  | none=>
    rw [hp] at hf
    simp only [Option.map_none] at hf
    have hlk:=jv8 hk.hm hf
    have hup:=jvc (v:=.int .i64 ls.length) hk.hm hf
    have e1 : addS ls l = ((ls.length : Int),ls ++ [l]):=by simp [addS,hne,hp]
    have e2:=jkz ls 0 l
    rw [Nat.zero_add] at e2
    rw [e1]
    rw [<- e2] at hup
    obtain ⟨dN,dR,dS,rfl⟩:=jgy hk.ms.lenX
    have hM:=hk.hM
    simp only [List.getD_cons_zero,List.getD_cons_succ] at hM
    have hlen:=fun HH=>jfC (e:=23) (hk.ms.v 2 (by simp)) HH
    simp only [List.getD_cons_zero,List.getD_cons_succ,List.length_map] at hlen
    have g1 : Ms M [dN,dR,dS] [nx.map rowD,(ls.map (endsZ n)).map (.int .i64),ls.map isD] (H1.set rm (.map (ents 0 (ls ++ [l])))):=
      ⟨fun i hi=>jaQ (hk.ms.v i hi) (by simp) fun r hr=>jaa (fun e=>hk.ro i (e ▸ hr)),hk.ms.lenX,hk.ms.ap,by simpa using hk.ms.m⟩
    have g2 : hget (H1.set rm (.map (ents 0 (ls ++ [l])))) M = _:=(jaa hk.rM).trans hM
    have g3 : hget (H1.set rm (.map (ents 0 (ls ++ [l])))) rm = .map (ents 0 (ls ++ [l])):=jad hk.rl
    have g4 : (H1.set rm (.map (ents 0 (ls ++ [l])))).length = H1.length:=by simp
    have g5 : ∀ r,r ≠ rm -> hget (H1.set rm (.map (ents 0 (ls ++ [l])))) r = hget H1 r:=fun r h=>jaa (Ne.symm h)
    generalize hG2 : H1.set rm (.map (ents 0 (ls ++ [l]))) = H2 at *
    obtain ⟨d3,H3,a3,m3,M3,l3,k3,f3,o1,o2,o3⟩:=g1.app (p:=2) (by simp) (H1:=H2 ++ [.arr [.sl false (l.map (.int .i64))]]) el126 sz23 by23 zr23 rfl (by decide) (by simp) (fun r hr=>jac hr) (jbZ (.inl (jaJ l))) rfl (jrq ls) (by simp;omega)
    rw [g2] at M3
    simp only [List.set_cons_zero,List.set_cons_succ,List.getD_cons_zero,List.getD_cons_succ] at m3 a3 k3
    have w3:=m3.m
    have c3 : hget (H3.set M (.arr [.agg [.sl false (n.free.map isD),.sl false (n.set.map (.int .u16)),.sl false (n.to.map (.int .i64)),.sl false (n.rule.map (.int .i64)),dN,dR,.map rm,d3]])) M = .arr [.agg [.sl false (n.free.map isD),.sl false (n.set.map (.int .u16)),.sl false (n.to.map (.int .i64)),.sl false (n.rule.map (.int .i64)),dN,dR,.map rm,d3]]:=jad w3
    have e3 : (H3.set M (.arr [.agg [.sl false (n.free.map isD),.sl false (n.set.map (.int .u16)),.sl false (n.to.map (.int .i64)),.sl false (n.rule.map (.int .i64)),dN,dR,.map rm,d3]])).length = H3.length:=by simp
    have z3 : ∀ r,r ≠ M -> hget (H3.set M (.arr [.agg [.sl false (n.free.map isD),.sl false (n.set.map (.int .u16)),.sl false (n.to.map (.int .i64)),.sl false (n.rule.map (.int .i64)),dN,dR,.map rm,d3]])) r = hget H3 r:=fun r h=>jaa (Ne.symm h)
    replace m3:=m3.setM (.arr [.agg [.sl false (n.free.map isD),.sl false (n.set.map (.int .u16)),.sl false (n.to.map (.int .i64)),.sl false (n.rule.map (.int .i64)),dN,dR,.map rm,d3]])
    generalize hG3 : H3.set M (.arr [.agg [.sl false (n.free.map isD),.sl false (n.set.map (.int .u16)),.sl false (n.to.map (.int .i64)),.sl false (n.rule.map (.int .i64)),dN,dR,.map rm,d3]]) = J3 at m3 c3 e3 z3
    have hru : ruleG [.ptr M 0 0,.sl false (l.map (.int .i64))] (([D.ptr M 0 0,.sl false (l.map (.int .i64))].flatMap objsD).map (hget J3)) = some (.int .i64 (endsZ n l)):=by
      have e:=jgV n l (-1) (fun s hs=>by have:=hl s hs;omega)
      have e0 : ([D.ptr M 0 0,.sl false (l.map (.int .i64))].flatMap objsD).map (hget J3) = [hget J3 M]:=rfl
      rw [e0,c3]
      simp only [ruleG]
      rw [if_pos (by simp;omega),e];rfl
    obtain ⟨d4,H4,a4,m4,M4,l4,k4,f4,p1,p2,p3⟩:=m3.app (p:=1) (by simp) (H1:=J3) (y:=.sl false [.int .i64 (endsZ n l)]) el23 sz3 by3 zr3 rfl (by decide) (Nat.le_refl _) (fun r hr=>rfl) (jh6 rfl) rfl (jba _) (by simp;omega)
    rw [c3] at M4
    simp only [List.set_cons_zero,List.set_cons_succ,List.getD_cons_zero,List.getD_cons_succ] at m4 a4 k4
    have w4:=m4.m
    have hend : DkAt M rm n nx (ls ++ [l]) [dN,d4,d3] (H4.set M (.arr [.agg [.sl false (n.free.map isD),.sl false (n.set.map (.int .u16)),.sl false (n.to.map (.int .i64)),.sl false (n.rule.map (.int .i64)),dN,d4,.map rm,d3]])) /\ Mv6 (dkL M rm [dN,dR,dS]) H (dkL M rm [dN,d4,d3]) (H4.set M (.arr [.agg [.sl false (n.free.map isD),.sl false (n.set.map (.int .u16)),.sl false (n.to.map (.int .i64)),.sl false (n.rule.map (.int .i64)),dN,d4,.map rm,d3]])):=by
      have hrl:=hk.rl
      simp only [List.length_append,List.length_cons,List.length_nil] at l3
      have ro : ∀ i,rm ∉ objsD ([dN,d4,d3].getD i ud):=fun i hi=>by
        match i,hi with
        | 0,hi=>exact hk.ro 0 hi
        | 1,hi=>have:=f4 rm (by simpa using hi);omega
        | 2,hi=>have:=f3 rm (by simpa using hi);omega
        | i + 3,hi=>simp [ud,objsD] at hi
      refine ⟨⟨by simpa using m4.setM _,by rw [jad w4];rfl,?_,hk.rM,ro,by simp;omega⟩,hmv.trans ⟨fun r hr ho=>?_,by simp;omega,fun r ho=>?_⟩⟩
      · rw [jaa (Ne.symm hk.rM),k4 rm (by omega) (hk.ro 1),z3 rm hk.rM,k3 rm (by omega) (hk.ro 2),g3]
      · have h0 : r ≠ M:=fun e=>ho ⟨0,by simp [objsD,e]⟩
        have h1 : r ≠ rm:=fun e=>ho ⟨1,by simp [objsD,e]⟩
        have h2 : r ∉ objsD dR:=fun e=>ho ⟨3,e⟩
        have h3 : r ∉ objsD dS:=fun e=>ho ⟨4,e⟩
        rw [jaa (Ne.symm h0),k4 r (by omega) h2,z3 r h0,k3 r (by omega) h3,g5 r h1]
      · obtain ⟨k,hk'⟩:=ho
        match k,hk' with
        | 0,hk'=>exact .inl ⟨0,hk'⟩
        | 1,hk'=>exact .inl ⟨1,hk'⟩
        | 2,hk'=>exact .inl ⟨2,hk'⟩
        | 3,hk'=>have:=f4 r (by simpa using hk');exact .inr (by omega)
        | 4,hk'=>have:=f3 r (by simpa using hk');exact .inr (by omega)
        | k + 5,hk'=>simp [ud,objsD] at hk'
    clear m3 m4 k3 k4 f3 f4 e3 z3 l3 l4 w3 w4 g1 g3 g4 g5 e1 e2 hf hp hmv hk hl hsl hsm hrr
    repeat' (first | apply wz1|apply wz2|apply wz3|apply wz4|apply wz5|apply wz6 | simp -dsimp (maxSteps:=999999) (disch:=omega) only[go_sem,simprocAttr, *] | ((first | refine wz8 ?_ ?_|refine wz9 ?_ ?_|refine wz7 ?_ ?_)<;>intro hh <;> (try replace hh:=vqs hh) <;> (try (exfalso;first | exact hh | omega))))
    refine jao (prs:=[]) (by kernel_rfl) rfl (by kernel_rfl) ?_;simp -dsimp (maxSteps:=999999) (disch:=omega) only[go_sem,simprocAttr, *]
    refine ⟨fun h=>Bool.noConfusion (show false = true from h),jfh (g:=ruleG) bo88 rfl hru ?_⟩
    clear hru
    repeat' (first | apply wz1|apply wz2|apply wz3|apply wz4|apply wz5|apply wz6 | simp -dsimp (maxSteps:=999999) (disch:=omega) only[go_sem,simprocAttr, *] | ((first | refine wz8 ?_ ?_|refine wz9 ?_ ?_|refine wz7 ?_ ?_)<;>intro hh <;> (try replace hh:=vqs hh) <;> (try (exfalso;first | exact hh | omega))))
    refine ⟨rfl,?_⟩
    repeat' (first | apply wz1|apply wz2|apply wz3|apply wz4|apply wz5|apply wz6 | simp -dsimp (maxSteps:=999999) (disch:=omega) only[go_sem,simprocAttr, *] | ((first | refine wz8 ?_ ?_|refine wz9 ?_ ?_|refine wz7 ?_ ?_)<;>intro hh <;> (try replace hh:=vqs hh) <;> (try (exfalso;first | exact hh | omega))))
    exact ⟨_,hend⟩
end Go.Proofs.W
end
section
namespace Go.Proofs.W
open Go Vm Go.Proofs.Zso
theorem jmk (l : List Rx) : stripL [rxsD l] = some [rxsD l]:=jaH (by simp [rxsD,strip,jcR])
noncomputable def dbuild (l : List Rx) : Dfa × Int:=
  match buildN l with
  | none=>(⟨[],[]⟩,1)
  | some n=>match runB n 202 0 [clos n [0]] [] with
    | none=>(⟨[],[]⟩,7)
    | some (ls,nx)=>(mkDfa n ls nx,0)
def dbD (x : Dfa × Int) : D:=.tup [dfaD x.1,.int .i64 x.2]
theorem jxh {dN dR : D} {H : Heap} {nx : List (List Int)} {rl : List Int} (hN : VecIs dN H (nx.map rowD)) (hR : VecIs dR H (rl.map (.int .i64))) (e : Int) : outPure H (.tup [.agg [dN,dR],.int .i64 e]) = some (dbD (⟨nx,rl⟩,e)):=by
  have vN:=jbU hN
  have vR:=jbU hR
  have hz : ∀ {d : D} {xs : List D},VecA d H xs -> strip d = none ∨ (d = .sl true [] /\ xs = []):=fun {d xs} h=>by
    rcases h with ⟨h1,h2⟩ | ⟨r,h1,_⟩
    · exact .inr ⟨h2,h1⟩
    · exact .inl (by rw [h1];rfl)
  by_cases hn : stripL [dN,dR] = none
  · obtain ⟨H1,p1,s1,l1⟩:=jbk (k:=2) vN (jcy nx)
    obtain ⟨H2,p2,s2,l2⟩:=jbk (k:=2) (vR.soft s1 l1) (jaM rl)
    have hnone2 : stripL [D.agg [dN,dR],.int .i64 e] = none:=by rw [stripL,strip,hn];rfl
    unfold outPure deepest
    rw [jh7 hnone2]
    simp only [purL]
    rw [jgC hn]
    simp only [purL,p1,p2,Option.bind_some,Option.map_some]
    rw [jcY (show strip (.int .i64 e) = some (.int .i64 e) from rfl)]
    rfl
  · rcases hz vN with h1 | ⟨rfl,h1⟩
    · exact absurd (by simp [stripL,h1]) hn
    · rcases hz vR with h2 | ⟨rfl,h2⟩
      · exact absurd (by simp [stripL,h2,strip]) hn
      · have e1 : nx = []:=by simpa using h1
        have e2 : rl = []:=by simpa using h2
        subst e1;subst e2
        rfl
theorem js1 {n : Nfa} (hn : rightN n = true) (c : Int) (l : List Int) : stepN n c l = stp n c l:=by rw [stepN,if_pos hn]
theorem jiI {n : Nfa} (hn : rightN n = true) (l : List Int) : closeN n l = clos n l:=by rw [closeN,if_pos hn]
def rowZ (r : List Int) (j : Nat) : List Int:=r ++ List.replicate (16 - j) 0
theorem jt4 {r : List Int} {j : Nat} (h : r.length = j) (hj : j <= 16) : (rowZ r j).length = 16:=by simp [rowZ,h];omega
theorem jux {r : List Int} {j : Nat} (h : r.length = j) (hj : j < 16) (x : Int) : (rowZ r j).take j ++ x :: (rowZ r j).drop (j + 1) = rowZ (r ++ [x]) (j + 1):=by
  subst h
  unfold rowZ
  rw [List.take_append_of_le_length (Nat.le_refl _),List.take_length,List.drop_append,List.drop_of_length_le (by omega)]
  simp only [List.nil_append,List.drop_replicate,List.append_assoc,List.cons_append]
  congr 3
  omega
theorem jol {n : Nfa} (hn : rightN n = true) {q : List Int} (h : GoodS n q) : small q:=fun s hs=>by
  obtain ⟨_,l,rfl⟩:=h
  have:=jdU hs
  have:=jaX hn
  omega
theorem zrN7 : zeroT Tryz.prog 129 = some (.agg [.sl true [],.sl true [],.sl true [],.sl true []]):=by kernel_rfl
theorem zrD7 : zeroT Tryz.prog 67 = some (.agg [.sl true [],.sl true []]):=by kernel_rfl
theorem zrR7 : zeroT Tryz.prog 90 = some (rowD (rowZ [] 0)):=by kernel_rfl
theorem zrM7 : zeroT Tryz.prog 135 = some (.agg [.sl true [],.sl true [],.sl true [],.sl true [],.sl true [],.sl true [],.nilm,.sl true []]):=by kernel_rfl
theorem jec {k : Nat} (hk : k ≠ 2 /\ k ≠ 3) : ¬ own (dkL 3 2 [.sl true [],.sl true [],.sl true []]) k:=by
  rintro ⟨i,hi⟩
  match i,hi with
  | 0, hi => have : k = 3 := by simpa [objsD] using hi
             omega
  | 1, hi => have : k = 2 := by simpa [objsD] using hi
             omega
  | 2,hi=>cases hi
  | 3,hi=>cases hi
  | 4,hi=>cases hi
  | i + 5,hi=>simp [ud,objsD] at hi
theorem jvx (n : Nfa) (L : Heap) (a b : Ob) : DkAt 3 2 n [] [] [.sl true [],.sl true [],.sl true []] (a :: b :: .map [] :: .arr [.agg [.sl false (n.free.map isD),.sl false (n.set.map (.int .u16)),.sl false (n.to.map (.int .i64)),.sl false (n.rule.map (.int .i64)),.sl true [],.sl true [],.map 2,.sl true []]] :: L):=by
  refine ⟨⟨fun i hi=>?_,rfl,fun i j hij r hi hj=>?_,by simp⟩,rfl,rfl,by omega,fun i hi=>?_,by simp⟩
  · match i,hi with
    | 0,_=>exact VecIs.nil
    | 1,_=>exact VecIs.nil
    | 2,_=>exact VecIs.nil
  · match i,j with
    | 0,0=>exact hij rfl
    | 0,1=>cases hj
    | 0,2=>cases hj
    | 0,3=>cases hj
    | 0,j + 4=>simp [ud,objsD] at hj
    | 1,_=>cases hi
    | 2,_=>cases hi
    | 3,_=>cases hi
    | i + 4,_=>simp [ud,objsD] at hi
  · match i,hi with
    | 0,hi=>cases hi
    | 1,hi=>cases hi
    | 2,hi=>cases hi
    | i + 3,hi=>simp [ud,objsD] at hi
theorem jpN (H : Heap) : makeMapD Tryz.prog 133 none H = some (.map H.length,H ++ [.map []]):=by
  simp only [makeMapD,un133]
theorem bdD0 : buildD Tryz.prog 67 [] = some (.agg [.sl true [],.sl true []]):=by kernel_rfl
theorem bdM7 (n : Nfa) : buildD Tryz.prog 135 [(0,nfaD n),(2,D.map 2)] = some (.agg [.sl false (n.free.map isD),.sl false (n.set.map (.int .u16)),.sl false (n.to.map (.int .i64)),.sl false (n.rule.map (.int .i64)),.sl true [],.sl true [],.map 2,.sl true []]):=by kernel_rfl
set_option maxRecDepth 20000 in
theorem jfa (l : List Rx) (hl : l.length <= 16 -> ∀ r ∈ l,okR r) (hll : l.length <= 100000) : PureF Tryz.prog A 51 [rxsD l] (dbD (dbuild l)):=by
  have hB:=jpi l hl hll
  refine jaj (n:=80) (rs:=[.cell 2 67,.tmp 3]) Tryz.func51 rfl rfl rfl rfl rfl rfl ?_
  repeat' (first | apply wz1|apply wz2|apply wz3|apply wz4|apply wz5|apply wz6 | simp -dsimp (maxSteps:=999999) (disch:=omega) only[go_sem,simprocAttr, *,zrN7,zrD7] | ((first | refine wz8 (fun hh=>?_) (fun hh=>?_) | refine wz9 (fun hh=>?_) (fun hh=>?_) | refine jak (by simp -dsimp (maxSteps:=999999) (disch:=omega) only[go_sem,simprocAttr, *,zrN7,zrD7];exact rfl) (fun hh=>?_) (fun hh=>?_)) <;> (try replace hh:=vqs hh) <;> (try (exfalso;first | exact hh | omega))))
  refine jal bo65 rfl rfl (jmk l) hB ?_
  unfold dbuild
  cases hb : buildN l with
  | none=>
    have a1:=jdA emptyN
    have a2 : (nfaD emptyN).cells = [.sl false (emptyN.free.map isD),.sl false (emptyN.set.map (.int .u16)),isD emptyN.to,isD emptyN.rule]:=rfl
    have a3:=jeh emptyN
    repeat' (first | apply wz1|apply wz2|apply wz3|apply wz4|apply wz5|apply wz6 | simp -dsimp (maxSteps:=999999) (disch:=omega) only[go_sem,simprocAttr, *,builtD,zrN7,zrD7,bdD0] | ((first | refine wz8 (fun hh=>?_) (fun hh=>?_) | refine wz9 (fun hh=>?_) (fun hh=>?_) | refine jak (by simp -dsimp (maxSteps:=999999) (disch:=omega) only[go_sem,simprocAttr, *,builtD,zrN7,zrD7,bdD0];exact rfl) (fun hh=>?_) (fun hh=>?_)) <;> (try replace hh:=vqs hh) <;> (try (exfalso;first | exact hh | omega))))
    exact jaF rfl
  | some n=>
    obtain ⟨-,g2,g3,g4⟩:=jfP hb
    have a1:=jdA n
    have a2 : (nfaD n).cells = [.sl false (n.free.map isD),.sl false (n.set.map (.int .u16)),.sl false (n.to.map (.int .i64)),.sl false (n.rule.map (.int .i64))]:=rfl
    have a3:=jeh n
    have hC0:=jjN n [0] g2 (by simp)
    rw [jiI g3] at hC0
    have hrr:=jaX g3
    clear hB hl hb
    simp only
    generalize hG : runB n 202 0 [clos n [0]] [] = G
    replace hG : Hid (runB n 202 0 [clos n [0]] [] = G):=hG
    repeat' (first | apply wz1|apply wz2|apply wz3|apply wz4|apply wz5|apply wz6 | simp -dsimp (maxSteps:=999999) (disch:=omega) only[go_sem,simprocAttr, *,builtD,zrN7,zrD7,zrM7,jpN,bdM7] | ((first | refine wz8 (fun hh=>?_) (fun hh=>?_) | refine wz9 (fun hh=>?_) (fun hh=>?_) | refine jak (by simp -dsimp (maxSteps:=999999) (disch:=omega) only[go_sem,simprocAttr, *,builtD,zrN7,zrD7,zrM7,jpN,bdM7];exact rfl) (fun hh=>?_) (fun hh=>?_)) <;> (try replace hh:=vqs hh) <;> (try (exfalso;first | exact hh | omega))))
    refine jqQ bo67 rfl rfl (jpn (H:=[Ob.arr [D.agg [D.sl true [],D.sl true []]],Ob.arr [nfaD n],Ob.map [],Ob.arr [.agg [.sl false (n.free.map isD),.sl false (n.set.map (.int .u16)),.sl false (n.to.map (.int .i64)),.sl false (n.rule.map (.int .i64)),.sl true [],.sl true [],.map 2,.sl true []]]]) (jdC n) rfl rfl) hC0 ?_
    intro H1 hH1
    obtain ⟨ob,rfl⟩ : ∃ ob,H1 = [Ob.arr [D.agg [D.sl true [],D.sl true []]],Ob.arr [nfaD n],Ob.map [],Ob.arr [.agg [.sl false (n.free.map isD),.sl false (n.set.map (.int .u16)),.sl false (n.to.map (.int .i64)),.sl false (n.rule.map (.int .i64)),.sl true [],.sl true [],.map 2,.sl true []]],ob]:=by
      rcases hH1 with rfl | rfl <;> exact ⟨_,rfl⟩
    clear hH1 hC0
    have hz:=jiy (n:=n) (by omega)
    have hS:=jiq 3 2 n [] [] _ _ (clos n [0]) (jvx n [ob] (Ob.arr [D.agg [D.sl true [],D.sl true []]]) (Ob.arr [nfaD n])) g3 (fun s hs=>jdU hs) (by simp) (by have:=jgp n [0];omega) (by simp)
    have hfst : addS [] (clos n [0]) = (0,[clos n [0]]):=by simp [addS,hz,placeS]
    rw [hfst] at hS
    repeat' (first | apply wz1|apply wz2|apply wz3|apply wz4|apply wz5|apply wz6 | simp -dsimp (maxSteps:=999999) (disch:=omega) only[go_sem,simprocAttr, *] | ((first | refine wz8 ?_ ?_|refine wz9 ?_ ?_|refine wz7 ?_ ?_)<;>intro hh <;> (try replace hh:=vqs hh) <;> (try (exfalso;first | exact hh | omega))))
    refine jag bo66 rfl rfl hS ?_ (fun _ _ h=>h.elim)
    rintro _ H1 ⟨rfl,ds1,hd1,hv1⟩
    have hI:=jix hz
    have h01 : hget H1 0 = .arr [.agg [.sl true [],.sl true []]]:=by rw [hv1.keep 0 (by simp) (jec (by omega))];rfl
    have h11 : hget H1 1 = .arr [nfaD n]:=by rw [hv1.keep 1 (by simp) (jec (by omega))];rfl
    have hn0 : ¬ own (dkL 3 2 ds1) 0:=fun ho=>by
      rcases hv1.ow 0 ho with h | h
      · exact jec (by omega) h
      · simp at h
    have hn1 : ¬ own (dkL 3 2 ds1) 1:=fun ho=>by
      rcases hv1.ow 1 ho with h | h
      · exact jec (by omega) h
      · simp at h
    clear hv1 hS hfst
    repeat' (first | apply wz1|apply wz2|apply wz3|apply wz4|apply wz5|apply wz6 | simp -dsimp (maxSteps:=999999) (disch:=omega) only[go_sem,simprocAttr, *] | ((first | refine wz8 ?_ ?_|refine wz9 ?_ ?_|refine wz7 ?_ ?_)<;>intro hh <;> (try replace hh:=vqs hh) <;> (try (exfalso;first | exact hh | omega))))
    refine jae (fun e Hi=>∃ (k i : Nat) (ls nx : List (List Int)) (ds : List D),k + i = 202 /\ DoneI n i ls nx /\ ls.length <= 200 /\ DkAt 3 2 n nx ls ds Hi /\ hget Hi 0 = .arr [.agg [.sl true [],.sl true []]] /\ hget Hi 1 = .arr [nfaD n] /\ ¬ own (dkL 3 2 ds) 0 /\ ¬ own (dkL 3 2 ds) 1 /\ G = runB n k i ls nx /\ e 2 = .ptr 0 0 0 /\ e 4 = .ptr 1 0 0 /\ e 6 = .ptr 3 0 0 /\ e 7 = .int .i64 i) (fun e H=>202 - natOf (e 7)) ?_ ?_
    · exact ⟨202,0,_,_,ds1,by omega,hI,by simp,hd1,h01,h11,hn0,hn1,Eq.symm hG,gs,gs,gs,gs⟩
    clear hG hI hd1 h01 h11 hn0 hn1 hz
    rintro e Hi ⟨k,i,ls,nx,ds,hk,hI,hls,hd,h0,h1,hn0,hn1,hG,e2,e4,e6,e7⟩ R hR
    obtain ⟨k,rfl⟩ : ∃ k',k = k' + 1:=⟨k - 1,by have:=hI.le;omega⟩
    obtain ⟨dN,dR,dS,rfl⟩:=jgy hd.ms.lenX
    have hM:=hd.hM
    simp only [List.getD_cons_zero,List.getD_cons_succ] at hM
    have hlen:=fun HH=>jfC (e:=23) (hd.ms.v 2 (by simp)) HH
    simp only [List.getD_cons_zero,List.getD_cons_succ,List.length_map] at hlen
    rw [runB] at hG
    by_cases hb : i < ls.length
    case neg=>
      rw [if_neg hb] at hG
      subst hG
      have hvN:=hd.ms.v 0 (by simp)
      have hvR:=hd.ms.v 1 (by simp)
      simp only [List.getD_cons_zero,List.getD_cons_succ] at hvN hvR
      have hl0:=jah h0
      have k1 : ∀ ob,VecIs dN (Hi.set 0 ob) (nx.map rowD):=fun ob=>jaQ hvN (by simp) fun r hr=>jaa fun e=>hn0 (e ▸ ⟨2,by simpa using hr⟩)
      have k2 : ∀ ob,VecIs dR (Hi.set 0 ob) ((ls.map (endsZ n)).map (.int .i64)):=fun ob=>jaQ hvR (by simp) fun r hr=>jaa fun e=>hn0 (e ▸ ⟨3,by simpa using hr⟩)
      have hout:=fun ob=>jxh (k1 ob) (k2 ob) 0
      clear k1 k2 hvN hvR hd
      repeat' (first | apply wz1|apply wz2|apply wz3|apply wz4|apply wz5|apply wz6 | simp -dsimp (maxSteps:=999999) (disch:=omega) only[go_sem,simprocAttr, *] | ((first | refine wz8 ?_ ?_|refine wz9 ?_ ?_|refine wz7 ?_ ?_)<;>intro hh <;> (try replace hh:=vqs hh) <;> (try (exfalso;first | exact hh | omega))))
      exact hout _
    rw [if_pos hb] at hG
    obtain ⟨q,hq⟩ : ∃ q,ls[i]? = some q:=⟨_,List.getElem?_eq_getElem hb⟩
    have hqd : ls.getD i [] = q:=by simp [List.getD_eq_getElem?_getD,hq]
    rw [hqd] at hG
    have hIs:=hI.step hb
    rw [hqd] at hIs
    repeat' (first | apply wz1|apply wz2|apply wz3|apply wz4|apply wz5|apply wz6 | simp -dsimp (maxSteps:=999999) (disch:=omega) only[go_sem,simprocAttr, *,zrR7] | ((first | refine wz8 (fun hh=>?_) (fun hh=>?_) | refine wz9 (fun hh=>?_) (fun hh=>?_) | refine jak (by simp -dsimp (maxSteps:=999999) (disch:=omega) only[go_sem,simprocAttr, *,zrR7];exact rfl) (fun hh=>?_) (fun hh=>?_)) <;> (try replace hh:=vqs hh) <;> (try (exfalso;first | exact hh | omega))))
    have hrl : hget (Hi ++ [Ob.arr [rowD (rowZ [] 0)]]) Hi.length = .arr [rowD (rowZ [] 0)]:=jkM
    have hdr : DkAt 3 2 n nx ls [dN,dR,dS] (Hi ++ [Ob.arr [rowD (rowZ [] 0)]]):=hd.keep (by simp) fun r hr=>jac (hd.lt hr)
    have hnr : ¬ own (dkL 3 2 [dN,dR,dS]) Hi.length:=fun ho=>by have:=hd.lt ho;omega
    have h0r : hget (Hi ++ [Ob.arr [rowD (rowZ [] 0)]]) 0 = .arr [.agg [.sl true [],.sl true []]]:=by rw [jac (jah h0),h0]
    have h1r : hget (Hi ++ [Ob.arr [rowD (rowZ [] 0)]]) 1 = .arr [nfaD n]:=by rw [jac (jah h1),h1]
    have hr0 : Hi.length ≠ 0:=by have:=jah h0;omega
    have hr1 : Hi.length ≠ 1:=by have:=jah h1;omega
    have hrl2 : Hi.length < (Hi ++ [Ob.arr [rowD (rowZ [] 0)]]).length:=by simp
    generalize hrr8 : Hi.length = r8 at *
    generalize Hi ++ [Ob.arr [rowD (rowZ [] 0)]] = Hr at *
    have hgood:=jej (s:=q) hI.good
    have hold:=jfr n q ls
    have hlen2:=jdw n q ls
    refine jae (fun e Hj=>∃ (j : Nat) (ds : List D),j <= 16 /\ DkAt 3 2 n nx (rowTo n q ls j).2 ds Hj /\ hget Hj 0 = .arr [.agg [.sl true [],.sl true []]] /\ hget Hj 1 = .arr [nfaD n] /\ hget Hj r8 = .arr [rowD (rowZ (rowTo n q ls j).1 j)] /\ ¬ own (dkL 3 2 ds) 0 /\ ¬ own (dkL 3 2 ds) 1 /\ ¬ own (dkL 3 2 ds) r8 /\ e 2 = .ptr 0 0 0 /\ e 4 = .ptr 1 0 0 /\ e 6 = .ptr 3 0 0 /\ e 7 = .int .i64 i /\ e 8 = .ptr r8 0 0 /\ e 37 = .int .i64 j) (fun e H=>16 - natOf (e 37)) ?_ ?_
    · exact ⟨0,_,by omega,hdr,h0r,h1r,hrl,hn0,hn1,hnr,gs,gs,gs,gs,gs,gs⟩
    have e7o:=e7
    clear hdr hrl h0r h1r hn0 hn1 hnr hrl2 hM hlen hd h0 h1 e2 e4 e6 e7
    rintro e Hj ⟨j,ds,hj,hd,h0,h1,h8,hn0,hn1,hn8,e2,e4,e6,e7,e8,e37⟩ R2 hR2
    obtain ⟨dN,dR,dS,rfl⟩:=jgy hd.ms.lenX
    have hM:=hd.hM
    simp only [List.getD_cons_zero,List.getD_cons_succ] at hM
    have hlj:=hlen2 j
    by_cases hbj : j < 16
    · have hqj:=hold j i q hq
      have hnz : (rowTo n q ls j).2 ≠ []:=by intro e;have k1:=hlj.2.1;have k2:=congrArg List.length e;simp only [List.length_nil] at k2;omega
      obtain ⟨rS,hdS,hgS,hrS⟩:=jb0 (hd.ms.v 2 (by simp)) (by simpa using hnz)
      simp only [List.getD_cons_zero,List.getD_cons_succ,List.length_map] at hdS hgS
      have hil : i < (rowTo n q ls j).2.length:=(List.getElem?_eq_some_iff.1 hqj).1
      have hvs : vecSize Hj rS 1 = true:=jep hgS (by simpa using hnz) (jrq _)
      have hqm : ((rowTo n q ls j).2.map isD)[i]? = some (isD q):=by simp [hqj]
      obtain ⟨-,lq,hlq⟩:=hI.good q (List.mem_of_getElem? hq)
      have hqlen : q.length <= 3300:=by have:=jgp n lq;rw [<- hlq] at this;omega
      have hst:=jsG n q j g2 (by omega)
      rw [js1 g3] at hst
      have hcl:=jjN n (stp n j q) g2 (by have:=juR n j q;omega)
      rw [jiI g3] at hcl
      have hs1:=jjM n q j
      have hs2:=jmD n (stp n j q)
      have hS:=jiq 3 2 n nx _ _ Hj (clos n (stp n j q)) hd g3 (fun s hs=>jdU hs) (fun q' hq'=>jol g3 (hgood j q' hq')) (by have:=jgp n (stp n j q);omega) (by omega)
      have hlead : leadN n j q = clos n (stp n j q):=rfl
      have hre1 : (rowTo n q ls (j + 1)).1 = (rowTo n q ls j).1 ++ [(addS (rowTo n q ls j).2 (clos n (stp n j q))).1]:=rfl
      have hre2 : (rowTo n q ls (j + 1)).2 = (addS (rowTo n q ls j).2 (clos n (stp n j q))).2:=rfl
      rw [<- hre2] at hS
      clear hlead hnz hlq hgood hold hlen2 hG hIs
      repeat' (first | apply wz1|apply wz2|apply wz3|apply wz4|apply wz5|apply wz6 | simp -dsimp (maxSteps:=999999) (disch:=omega) only[go_sem,simprocAttr, *] | ((first | refine wz8 ?_ ?_|refine wz9 ?_ ?_|refine wz7 ?_ ?_)<;>intro hh <;> (try replace hh:=vqs hh) <;> (try (exfalso;first | exact hh | omega))))
      refine jao (prs:=[]) (by kernel_rfl) rfl (by kernel_rfl) ?_
      simp -dsimp (maxSteps:=999999) (disch:=omega) only[go_sem,simprocAttr, *,isD]
      refine ⟨fun _=>congrArg Option.isSome hs1,jal bo68 rfl rfl hs1 hst ?_⟩
      simp -dsimp (maxSteps:=999999) (disch:=omega) only[go_sem,simprocAttr, *]
      refine ⟨fun _=>rfl,jal bo67 rfl rfl hs2 hcl ?_⟩
      simp -dsimp (maxSteps:=999999) (disch:=omega) only[go_sem,simprocAttr, *]
      refine ⟨fun h=>Bool.noConfusion (show false = true from h),jag bo66 rfl rfl hS ?_ (fun _ _ h=>h.elim)⟩
      rintro _ H3 ⟨rfl,ds3,hd3,hv3⟩
      have h83:=(hv3.keep r8 (jah h8) hn8).trans h8
      have h03:=(hv3.keep 0 (jah h0) hn0).trans h0
      have h13:=(hv3.keep 1 (jah h1) hn1).trans h1
      have hn03 : ¬ own (dkL 3 2 ds3) 0:=fun ho=>by
        rcases hv3.ow 0 ho with h | h
        · exact hn0 h
        · have:=jah h0;omega
      have hn13 : ¬ own (dkL 3 2 ds3) 1:=fun ho=>by
        rcases hv3.ow 1 ho with h | h
        · exact hn1 h
        · have:=jah h1;omega
      have hn83 : ¬ own (dkL 3 2 ds3) r8:=fun ho=>by
        rcases hv3.ow r8 ho with h | h
        · exact hn8 h
        · have:=jah h8;omega
      have hz8:=jt4 hlj.1 (by omega : j <= 16)
      have hz9:=jux hlj.1 hbj (addS (rowTo n q ls j).2 (clos n (stp n j q))).1
      rw [<- hre1] at hz9
      clear hS hst hcl hs1 hs2 hv3 hd hM hgS hrS hvs hqm hre1 hre2
      generalize rowZ (rowTo n q ls j).1 j = z at *
      generalize hz2 : rowZ (rowTo n q ls (j + 1)).1 (j + 1) = z2 at *
      generalize (addS (rowTo n q ls j).2 (clos n (stp n j q))).1 = x at *
      have b1:=jbv z
      have b2:=jbl z
      have b3:=jbN z
      have hob : (D.agg (List.take (j * 1) (List.map (D.int .i64) z) ++ [D.int .i64 x] ++ List.drop (j * 1 + 1) (List.map (D.int .i64) z))) = rowD z2:=by
        rw [<- hz9,Nat.mul_one];simp [rowD,List.map_append,List.map_take,List.map_drop]
      have hl8:=jah h83
      have q0 : hget (H3.set r8 (.arr [rowD z2])) 0 = _:=(jaa hr0).trans h03
      have q1 : hget (H3.set r8 (.arr [rowD z2])) 1 = _:=(jaa hr1).trans h13
      have q8 : hget (H3.set r8 (.arr [rowD z2])) r8 = .arr [rowD z2]:=jad hl8
      have qd : DkAt 3 2 n nx (rowTo n q ls (j + 1)).2 ds3 (H3.set r8 (.arr [rowD z2])):=hd3.keep (by simp) fun r hr=>jaa fun e=>hn83 (e ▸ hr)
      simp -dsimp (maxSteps:=999999) (disch:=omega) only[go_sem,simprocAttr, *]
      clear hob hz9 b1 b2 b3 hd3
      generalize H3.set r8 (.arr [rowD z2]) = H4 at *
      repeat' (first | apply wz1|apply wz2|apply wz3|apply wz4|apply wz5|apply wz6 | simp -dsimp (maxSteps:=999999) (disch:=omega) only[go_sem,simprocAttr, *] | ((first | refine wz8 ?_ ?_|refine wz9 ?_ ?_|refine wz7 ?_ ?_)<;>intro hh <;> (try replace hh:=vqs hh) <;> (try (exfalso;first | exact hh | omega))))
      refine hR2 _ _ ⟨j + 1,ds3,by omega,qd,q0,q1,by rw [hz2];exact q8,hn03,hn13,hn83,gs,gs,gs,gs,gs,gs⟩ ?_
      simp -dsimp (maxSteps:=999999) (disch:=omega) only[go_sem,simprocAttr, *,jab]
    · obtain rfl : j = 16:=by omega
      have hlen:=fun HH=>jfC (e:=23) (hd.ms.v 2 (by simp)) HH
      simp only [List.getD_cons_zero,List.getD_cons_succ,List.length_map] at hlen
      by_cases hbig : 200 < (rowTo n q ls 16).2.length
      · rw [if_pos hbig] at hG
        subst hG
        have hl0:=jah h0
        clear hlen2 hold hgood hI hIs hd hlj
        repeat' (first | apply wz1|apply wz2|apply wz3|apply wz4|apply wz5|apply wz6 | simp -dsimp (maxSteps:=999999) (disch:=omega) only[go_sem,simprocAttr, *,bdD0] | ((first | refine wz8 (fun hh=>?_) (fun hh=>?_) | refine wz9 (fun hh=>?_) (fun hh=>?_) | refine jak (by simp -dsimp (maxSteps:=999999) (disch:=omega) only[go_sem,simprocAttr, *,bdD0];exact rfl) (fun hh=>?_) (fun hh=>?_)) <;> (try replace hh:=vqs hh) <;> (try (exfalso;first | exact hh | omega))))
        exact jaF rfl
      · rw [if_neg hbig] at hG
        have hz8 : rowZ (rowTo n q ls 16).1 16 = (rowTo n q ls 16).1:=by simp [rowZ]
        rw [hz8] at h8
        have hr16:=hlj.1
        have hnl:=hI.len
        clear hlen2 hold hgood hz8
        generalize hrow : (rowTo n q ls 16).1 = row at *
        generalize hls2 : (rowTo n q ls 16).2 = ls2 at *
        have b1:=jbv row
        have b2:=jbl row
        have b3:=jbN row
        obtain ⟨d4,H4,a4,m4,M4,l4,k4,f4,p1,p2,p3⟩:=hd.ms.app (p:=0) (by simp) (H1:=Hj ++ [.arr [rowD row]]) el65 sz90 by90 zrR7 rfl (by decide) (by simp) (fun r hr=>jac hr) (jbZ (.inl (jcT row))) (by rw [jbl];simp [hr16]) (jsF nx (fun r hr=>by
          obtain ⟨j,hj,rfl⟩:=List.mem_iff_getElem.1 hr
          have:=(hI.row j (by omega)).1
          rwa [List.getD_eq_getElem?_getD,List.getElem?_eq_getElem hj] at this)) (by simp;have:=hI.le;omega)
        simp only [List.set_cons_zero,List.set_cons_succ,List.getD_cons_zero,List.getD_cons_succ] at m4 a4 k4
        simp only [List.length_append,List.length_cons,List.length_nil] at l4
        have hM4:=M4.trans hM
        have w4:=m4.m
        have hrl:=hd.rl
        have ro : ∀ i,2 ∉ objsD ([d4,dR,dS].getD i ud):=fun i hi=>by
          match i,hi with
          | 0,hi=>have:=f4 2 (by simpa using hi);omega
          | 1,hi=>exact hd.ro 1 hi
          | 2,hi=>exact hd.ro 2 hi
          | i + 3,hi=>simp [ud,objsD] at hi
        have no : ∀ r,r < Hj.length -> ¬ own (dkL 3 2 [dN,dR,dS]) r -> ¬ own (dkL 3 2 [d4,dR,dS]) r:=fun r hr hn ⟨i,hi⟩=>by
          match i,hi with
          | 0,hi=>exact hn ⟨0,hi⟩
          | 1,hi=>exact hn ⟨1,hi⟩
          | 2,hi=>have:=f4 r (by simpa using hi);omega
          | 3,hi=>exact hn ⟨3,hi⟩
          | 4,hi=>exact hn ⟨4,hi⟩
          | i + 5,hi=>simp [ud,objsD] at hi
        have hsame : ∀ r ob,r < Hj.length -> ¬ own (dkL 3 2 [dN,dR,dS]) r -> hget (H4.set 3 ob) r = hget Hj r:=fun r ob hr hn=>by
          rw [jaa (fun e=>hn ⟨0,by simp [objsD,e]⟩),k4 r hr (fun h=>hn ⟨2,h⟩)]
        have hD : DkAt 3 2 n (nx ++ [row]) ls2 [d4,dR,dS] (H4.set 3 (.arr [.agg [.sl false (n.free.map isD),.sl false (n.set.map (.int .u16)),.sl false (n.to.map (.int .i64)),.sl false (n.rule.map (.int .i64)),d4,dR,.map 2,dS]])):=by
          refine ⟨by simpa using m4.setM _,by rw [jad w4];rfl,?_,hd.rM,ro,by simp;omega⟩
          rw [jaa (by omega),k4 2 hrl (hd.ro 0),hd.hm]
        have q0:=(hsame 0 (.arr [.agg [.sl false (n.free.map isD),.sl false (n.set.map (.int .u16)),.sl false (n.to.map (.int .i64)),.sl false (n.rule.map (.int .i64)),d4,dR,.map 2,dS]]) (jah h0) hn0).trans h0
        have q1:=(hsame 1 (.arr [.agg [.sl false (n.free.map isD),.sl false (n.set.map (.int .u16)),.sl false (n.to.map (.int .i64)),.sl false (n.rule.map (.int .i64)),d4,dR,.map 2,dS]]) (jah h1) hn1).trans h1
        have n0:=no 0 (jah h0) hn0
        have n1:=no 1 (jah h1) hn1
        have hr8l:=jah h8
        have hsr : stripL [rowD row] = some [rowD row]:=jaH (jcT row)
        have hne3 : Hj.length ≠ 3:=by have:=hd.ms.m;omega
        clear hsame no ro k4 f4 m4 hd l4 hI hlj M4
        repeat' (first | apply wz1|apply wz2|apply wz3|apply wz4|apply wz5|apply wz6 | simp -dsimp (maxSteps:=999999) (disch:=omega) only[go_sem,simprocAttr, *] | ((first | refine wz8 ?_ ?_|refine wz9 ?_ ?_|refine wz7 ?_ ?_)<;>intro hh <;> (try replace hh:=vqs hh) <;> (try (exfalso;first | exact hh | omega))))
        refine jao (prs:=[([71],[68])]) (by kernel_rfl) rfl (by kernel_rfl) ?_;simp -dsimp (maxSteps:=999999) (disch:=omega) only[go_sem,simprocAttr, *]
        refine ⟨rfl,?_⟩
        generalize H4.set 3 (.arr [.agg [.sl false (n.free.map isD),.sl false (n.set.map (.int .u16)),.sl false (n.to.map (.int .i64)),.sl false (n.rule.map (.int .i64)),d4,dR,.map 2,dS]]) = J at *
        repeat' (first | apply wz1|apply wz2|apply wz3|apply wz4|apply wz5|apply wz6 | simp -dsimp (maxSteps:=999999) (disch:=omega) only[go_sem,simprocAttr, *] | ((first | refine wz8 ?_ ?_|refine wz9 ?_ ?_|refine wz7 ?_ ?_)<;>intro hh <;> (try replace hh:=vqs hh) <;> (try (exfalso;first | exact hh | omega))))
        refine hR _ _ ⟨k,i + 1,ls2,nx ++ [row],_,by omega,hIs,by omega,hD,q0,q1,n0,n1,hG,gs,gs,gs,gs⟩ ?_
        simp -dsimp (maxSteps:=999999) (disch:=omega) only[go_sem,simprocAttr, *,jab]
end Go.Proofs.W
end
section
namespace Go.Proofs.W
open Go Vm Go.Proofs.Zso
def force {α : Type} (m : Nat) (f : Nat -> α) : α:=match m with
  | 0=>f 0
  | n + 1=>f (n + 1)
theorem jkL {α : Type} (m : Nat) (f : Nat -> α) : force m f = f m:=by cases m <;> rfl
def forceL {α : Type} : List Nat -> (List Nat -> α) -> α
  | [],f=>f []
  | x :: r,f=>force x fun y=>forceL r fun t=>f (y :: t)
theorem jdy {α : Type} : ∀ (l : List Nat) (f : List Nat -> α),forceL l f = f l
  | [],_=>rfl
  | x :: r,f=>by rw [forceL,jkL,jdy r]
def ofM (k m : Nat) : List Int:=listZ k fun s=>m.testBit s
def below (k m : Nat) : Prop:=∀ t,m.testBit t = true -> t < k
theorem jfw {k m : Nat} (h : below k m) {t : Nat} : (t : Int) ∈ ofM k m ↔ m.testBit t = true:=by
  unfold ofM
  rw [mem_listZ]
  constructor
  · rintro ⟨i,_,h2,h3⟩
    have : t = i:=by omega
    rw [this];exact h2
  · intro ht;exact ⟨t,h t ht,ht,rfl⟩
theorem jmS {k a b : Nat} (ha : below k a) (hb : below k b) (h : ofM k a = ofM k b) : a = b:=by
  apply Nat.eq_of_testBit_eq
  intro t
  rw [Bool.eq_iff_iff,<- jfw ha,<- jfw hb,h]
theorem jkT (k : Nat) : ofM k 0 = []:=by
  unfold ofM listZ
  rw [List.filter_eq_nil_iff.2 (fun t _=>by simp)]
  rfl
theorem jmJ {k m : Nat} (h : below k m) : ofM k m = [] ↔ m = 0:=
  ⟨fun e=>jmS h (fun t ht=>by simp at ht) (by rw [e,jkT]),fun e=>by rw [e,jkT]⟩
def stepT (n : Nfa) (T : List Nat) : List Nat:=(List.range n.set.length).map fun s=>(n.free.getD s []).foldl (fun m t=>m ||| T.getD t.toNat 0) (T.getD s 0)
def iterT (n : Nfa) : Nat -> List Nat -> List Nat
  | 0,T=>T
  | i + 1,T=>forceL (stepT n T) (iterT n i)
def initT (k : Nat) : List Nat:=(List.range k).map fun s=>1 <<< s
def Snd (n : Nfa) (T : List Nat) : Prop:=∀ s,s < n.set.length -> ∀ t,(T.getD s 0).testBit t = true -> t < n.set.length /\ Reach n (· = s) t
def okT (n : Nfa) (R : List Nat) : Bool:=(List.range n.set.length).all fun s=>(R.getD s 0).testBit s && (n.free.getD s []).all fun t=>(R.getD t.toNat 0 ||| R.getD s 0) == R.getD s 0
theorem jtG (n : Nfa) : Snd n (initT n.set.length):=fun s hs t ht=>by
  have e : (initT n.set.length).getD s 0 = 1 <<< s:=by simp [initT,List.getD_eq_getElem?_getD,hs]
  rw [e,Nat.one_shiftLeft,Nat.testBit_two_pow] at ht
  have : s = t:=by simpa using ht
  subst this
  exact ⟨hs,.base rfl⟩
theorem jkF (f : Int -> Nat) : ∀ (l : List Int) (m t : Nat),(l.foldl (fun m x=>m ||| f x) m).testBit t = true ↔ m.testBit t = true ∨ ∃ x ∈ l,(f x).testBit t = true
  | [],m,t=>by simp
  | y :: r,m,t=>by
    rw [List.foldl_cons,jkF f r,Nat.testBit_or,Bool.or_eq_true]
    simp only [List.mem_cons,exists_eq_or_imp]
    exact or_assoc
theorem jsw {n : Nfa} (hn : rightN n = true) {T : List Nat} (h : Snd n T) : Snd n (stepT n T):=fun s hs t ht=>by
  have e : (stepT n T).getD s 0 = (n.free.getD s []).foldl (fun m t=>m ||| T.getD t.toNat 0) (T.getD s 0):=by simp [stepT,List.getD_eq_getElem?_getD,hs]
  rw [e,jkF (fun t=>T.getD t.toNat 0)] at ht
  rcases ht with ht | ⟨x,hx,ht⟩
  · exact h s hs t ht
  · obtain ⟨h0,h1⟩:=jct hn hs hx
    obtain ⟨g1,g2⟩:=h x.toNat (by omega) t ht
    refine ⟨g1,g2.sub fun y hy=>?_⟩
    subst hy
    exact .step (.base rfl) (by rwa [Int.toNat_of_nonneg h0])
theorem jke {n : Nfa} (hn : rightN n = true) : ∀ (i : Nat) (T : List Nat),Snd n T -> Snd n (iterT n i T)
  | 0,_,h=>h
  | i + 1,T,h=>by rw [iterT,jdy];exact jke hn i _ (jsw hn h)
theorem jdu {n : Nfa} (hn : rightN n = true) {R : List Nat} (hS : Snd n R) (hO : okT n R = true) {s : Nat} (hs : s < n.set.length) {t : Nat} : (R.getD s 0).testBit t = true ↔ Reach n (· = s) t:=by
  have hO' : ∀ s,s < n.set.length -> (R.getD s 0).testBit s = true /\ ∀ x ∈ n.free.getD s [],∀ t,(R.getD x.toNat 0).testBit t = true -> (R.getD s 0).testBit t = true:=fun s hs=>by
    have:=List.all_eq_true.1 hO s (List.mem_range.2 hs)
    simp only [Bool.and_eq_true,List.all_eq_true,beq_iff_eq] at this
    refine ⟨this.1,fun x hx t ht=>?_⟩
    rw [<- this.2 x hx,Nat.testBit_or,ht];rfl
  refine ⟨fun h=>(hS s hs t h).2,fun h=>?_⟩
  have key : t < n.set.length /\ ∀ u,(R.getD t 0).testBit u = true -> (R.getD s 0).testBit u = true:=by
    induction h with
    | base h=>subst h;exact ⟨hs,fun u hu=>hu⟩
    | @step a b _ hb ih=>
      obtain ⟨ha,ih⟩:=ih
      obtain ⟨h0,h1⟩:=jct hn ha hb
      exact ⟨by omega,fun u hu=>ih u ((hO' a ha).2 b hb u (by simpa using hu))⟩
  exact key.2 t (hO' t key.1).1
def stepM (n : Nfa) (R : List Nat) (c : Int) (q : Nat) : List Nat -> Nat
  | []=>0
  | s :: r=>if q.testBit s && hit n c s then R.getD (n.to.getD s 0).toNat 0 ||| stepM n R c q r else stepM n R c q r
theorem stepM_bit {n : Nfa} {R : List Nat} {c : Int} {q t : Nat} : ∀ {l : List Nat},(stepM n R c q l).testBit t = true ↔ ∃ s ∈ l,q.testBit s = true /\ hit n c s = true /\ (R.getD (n.to.getD s 0).toNat 0).testBit t = true
  | []=>by simp [stepM]
  | s :: r=>by
    rw [stepM]
    split
    · rename_i h
      rw [Bool.and_eq_true] at h
      rw [Nat.testBit_or,Bool.or_eq_true,stepM_bit]
      simp only [List.mem_cons,exists_eq_or_imp,h.1,h.2,true_and]
    · rename_i h
      rw [Bool.and_eq_true] at h
      rw [stepM_bit]
      simp only [List.mem_cons,exists_eq_or_imp]
      constructor
      · exact .inr
      · rintro (⟨h1,h2,_⟩ | h1)
        · exact absurd ⟨h1,h2⟩ h
        · exact h1
theorem Reach.from {n : Nfa} {p : Nat -> Prop} {t : Nat} (h : Reach n p t) : ∃ b,p b /\ Reach n (· = b) t:=by
  induction h with
  | base h=>exact ⟨_,h,.base rfl⟩
  | step _ h ih=>
    obtain ⟨b,h1,h2⟩:=ih
    exact ⟨b,h1,.step h2 h⟩
theorem jm8 {n : Nfa} {R : List Nat} {c : Int} {q : Nat} (hn : rightN n = true) (hS : Snd n R) (hlen : R.length <= n.set.length) {l : List Nat} : below n.set.length (stepM n R c q l):=fun t ht=>by
  obtain ⟨s,_,_,_,h⟩:=stepM_bit.1 ht
  by_cases hs : (n.to.getD s 0).toNat < n.set.length
  · exact (hS _ hs t h).1
  · rw [List.getD_eq_getElem?_getD,List.getElem?_eq_none (by omega)] at h
    simp at h
theorem jwf {n : Nfa} {R : List Nat} (hn : rightN n = true) (hS : Snd n R) (hO : okT n R = true) (c : Int) {q : Nat} (hq : below n.set.length q) : leadN n c (ofM n.set.length q) = ofM n.set.length (stepM n R c q (List.range n.set.length)):=by
  refine jby (jbs _ _) (jbs _ _) fun x=>?_
  unfold leadN clos
  rw [mem_listZ]
  unfold ofM
  rw [mem_listZ]
  have hto : ∀ s,s < n.set.length -> hit n c s = true -> 0 <= n.to.getD s 0 /\ n.to.getD s 0 < n.set.length:=fun s hs hh=>by
    have:=(jaX hn).2.2.2.2.2 s hs
    simp only [rowOk,Bool.and_eq_true,Bool.not_eq_true',Bool.and_eq_false_iff,decide_eq_false_iff_not,Bool.not_eq_false'] at this
    rcases this.1.1.1 with h0 | h0
    · have h0' : n.set.getD s 0 = 0:=by simpa using h0
      rw [hit,inB,h0',je9] at hh
      simp at hh
    · exact isS_iff.1 h0
  constructor
  · rintro ⟨i,h1,h2,h3⟩
    obtain ⟨b,⟨hb1,hb2⟩,hb3⟩:=Reach.from (clo_iff.1 h2)
    unfold stp at hb2
    obtain ⟨b',g1,g2,g3⟩:=mem_listZ.1 hb2
    obtain rfl : b = b':=by omega
    unfold stepTo at g2
    obtain ⟨s,g4,g5⟩:=List.any_eq_true.1 g2
    simp only [Bool.and_eq_true,decide_eq_true_eq] at g5
    have hs:=List.mem_range.1 g4
    refine ⟨i,h1,stepM_bit.2 ⟨s,g4,(jfw hq).1 g5.1.1,g5.1.2,?_⟩,h3⟩
    rw [g5.2,Int.toNat_natCast]
    exact (jdu hn hS hO hb1).2 hb3
  · rintro ⟨i,h1,h2,h3⟩
    obtain ⟨s,g4,g5,g6,g7⟩:=stepM_bit.1 h2
    have hs:=List.mem_range.1 g4
    obtain ⟨t0,t1⟩:=hto s hs g6
    have hr:=(jdu hn hS hO (by omega)).1 g7
    refine ⟨i,h1,clo_iff.2 (hr.sub fun y hy=>?_),h3⟩
    subst hy
    refine .base ⟨by omega,?_⟩
    unfold stp
    refine mem_listZ.2 ⟨(n.to.getD s 0).toNat,by omega,?_,rfl⟩
    unfold stepTo
    refine List.any_eq_true.2 ⟨s,g4,?_⟩
    simp only [Bool.and_eq_true,decide_eq_true_eq]
    exact ⟨⟨(jfw hq).2 g5,g6⟩,by rw [Int.toNat_of_nonneg t0]⟩
theorem jti {n : Nfa} {R : List Nat} (hn : rightN n = true) (hS : Snd n R) (hO : okT n R = true) : clos n [0] = ofM n.set.length (R.getD 0 0):=by
  have hk:=(jaX hn).1
  refine jby (jbs _ _) (jbs _ _) fun x=>?_
  unfold clos
  rw [mem_listZ]
  unfold ofM
  rw [mem_listZ]
  constructor
  · rintro ⟨i,h1,h2,h3⟩
    refine ⟨i,h1,(jdu hn hS hO (by omega)).2 ((clo_iff.1 h2).sub fun y hy=>.base ?_),h3⟩
    have:=hy.2
    simp at this
    omega
  · rintro ⟨i,h1,h2,h3⟩
    refine ⟨i,h1,clo_iff.2 (((jdu hn hS hO (by omega)).1 h2).sub fun y hy=>.base ⟨by omega,by simp [hy]⟩),h3⟩
def placeM (m : Nat) : Nat -> List Nat -> Option Nat
  | _,[]=>none
  | i,q :: ls=>if m = q then some i else placeM m (i + 1) ls
def addM (ls : List Nat) (m : Nat) : Int × List Nat:=if m = 0 then (-1,ls) else match placeM m 0 ls with
  | some j=>(j,ls)
  | none=>(ls.length,ls ++ [m])
theorem jlg {k m : Nat} (hm : below k m) : ∀ (ls : List Nat) (i : Nat),(∀ q ∈ ls,below k q) -> placeS (ofM k m) i (ls.map (ofM k)) = placeM m i ls
  | [],_,_=>rfl
  | q :: ls,i,h=>by
    rw [List.map_cons,placeS,placeM,jlg hm ls (i + 1) fun x hx=>h x (List.mem_cons_of_mem _ hx)]
    by_cases e : m = q
    · rw [if_pos e,if_pos (by rw [e])]
    · rw [if_neg e,if_neg fun h'=>e (jmS hm (h q List.mem_cons_self) h')]
theorem jwh {k m : Nat} (hm : below k m) {ls : List Nat} (h : ∀ q ∈ ls,below k q) : addS (ls.map (ofM k)) (ofM k m) = ((addM ls m).1,(addM ls m).2.map (ofM k)) /\ ∀ q ∈ (addM ls m).2,below k q:=by
  unfold addS addM
  by_cases e : m = 0
  · rw [if_pos e,if_pos ((jmJ hm).2 e)]
    exact ⟨rfl,h⟩
  · rw [if_neg e,if_neg fun h'=>e ((jmJ hm).1 h'),jlg hm ls 0 h]
    cases placeM m 0 ls with
    | some j=>exact ⟨rfl,h⟩
    | none=>
      refine ⟨by simp,fun q hq=>?_⟩
      rcases List.mem_append.1 hq with hq | hq
      · exact h q hq
      · rw [List.mem_singleton.1 hq];exact hm
def rowM (n : Nfa) (R : List Nat) (q : Nat) : Nat -> Nat -> List Int -> List Nat -> List Int × List Nat
  | 0,_,r,ls=>(r,ls)
  | f + 1,c,r,ls=>force (stepM n R c q (List.range n.set.length)) fun m=>match addM ls m with
    | (j,ls')=>rowM n R q f (c + 1) (r ++ [j]) ls'
theorem jmN {n : Nfa} {R : List Nat} (hn : rightN n = true) (hS : Snd n R) (hO : okT n R = true) (hlen : R.length <= n.set.length) {q : Nat} (hq : below n.set.length q) (ls0 : List (List Int)) : ∀ (f c : Nat) (r : List Int) (ls : List Nat),(∀ x ∈ ls,below n.set.length x) -> rowTo n (ofM n.set.length q) ls0 c = (r,ls.map (ofM n.set.length)) ->
    rowTo n (ofM n.set.length q) ls0 (c + f) = ((rowM n R q f c r ls).1,(rowM n R q f c r ls).2.map (ofM n.set.length)) /\ ∀ x ∈ (rowM n R q f c r ls).2,below n.set.length x
  | 0,c,r,ls,hb,h=>⟨h,hb⟩
  | f + 1,c,r,ls,hb,h=>by
    rw [rowM,jkL]
    have hl:=jwf hn hS hO c hq
    have hbm : below n.set.length (stepM n R c q (List.range n.set.length)):=jm8 hn hS hlen
    generalize stepM n R c q (List.range n.set.length) = m at *
    obtain ⟨g1,g2⟩:=jwh hbm hb
    have hre : rowTo n (ofM n.set.length q) ls0 (c + 1) = (r ++ [(addM ls m).1],(addM ls m).2.map (ofM n.set.length)):=by
      rw [rowTo,h]
      simp only
      rw [hl,g1]
    have ih:=jmN hn hS hO hlen hq ls0 f (c + 1) _ _ g2 hre
    rw [show c + (f + 1) = c + 1 + f by omega]
    exact ih
def runM (n : Nfa) (R : List Nat) : Nat -> Nat -> List Nat -> List (List Int) -> Option (List Nat × List (List Int))
  | 0,_,_,_=>none
  | k + 1,i,ls,nx=>match ls[i]? with
    | none=>some (ls,nx)
    | some q=>match rowM n R q 16 0 [] ls with
      | (r,ls')=>if 200 < ls'.length then none else runM n R k (i + 1) ls' (nx ++ [r])
theorem jmF {n : Nfa} {R : List Nat} (hn : rightN n = true) (hS : Snd n R) (hO : okT n R = true) (hlen : R.length <= n.set.length) : ∀ (k i : Nat) (ls : List Nat) (nx : List (List Int)),(∀ x ∈ ls,below n.set.length x) -> runB n k i (ls.map (ofM n.set.length)) nx = (runM n R k i ls nx).map fun p=>(p.1.map (ofM n.set.length),p.2)
  | 0,_,_,_,_=>rfl
  | k + 1,i,ls,nx,hb=>by
    rw [runB,runM]
    by_cases hi : i < ls.length
    · have hq : ls[i]? = some ls[i]:=List.getElem?_eq_getElem hi
      have hqd : (ls.map (ofM n.set.length)).getD i [] = ofM n.set.length ls[i]:=by simp [List.getD_eq_getElem?_getD,hi]
      rw [if_pos (by simpa using hi),hq,hqd]
      simp only
      obtain ⟨h1,h2⟩:=jmN hn hS hO hlen (hb _ (List.getElem_mem hi)) (ls.map (ofM n.set.length)) 16 0 [] ls hb rfl
      rw [Nat.zero_add] at h1
      rw [h1]
      simp only [List.length_map]
      split
      · rfl
      · exact jmF hn hS hO hlen k (i + 1) _ _ h2
    · rw [if_neg (by simpa using hi),List.getElem?_eq_none (by omega)]
      rfl
def compM (n : Nfa) (N : Nat) : Option (List (List Int) × List Int):=
  if rightN n = true then forceL (iterT n N (initT n.set.length)) fun R=>if okT n R = true then
    (runM n R 202 0 [R.getD 0 0] []).map fun p=>(p.2,p.1.map fun m=>endsZ n (ofM n.set.length m)) else none else none
theorem jkh (n : Nfa) : ∀ (i : Nat) (T : List Nat),T.length = n.set.length -> (iterT n i T).length = n.set.length
  | 0,_,h=>h
  | i + 1,T,_=>by rw [iterT,jdy];exact jkh n i _ (by simp [stepT])
theorem jl6 {l : List Rx} {n : Nfa} {N : Nat} {nx : List (List Int)} {rl : List Int} (hb : buildN l = some n) (h : compM n N = some (nx,rl)) : dbuild l = (⟨nx,rl⟩,0):=by
  unfold compM at h
  rw [jdy] at h
  split at h
  · rename_i hn
    split at h
    · rename_i hO
      have hS:=jke hn N _ (jtG n)
      have hlen:=jkh n N (initT n.set.length) (by simp [initT])
      generalize iterT n N (initT n.set.length) = R at *
      have hk:=(jaX hn).1
      have hb0 : below n.set.length (R.getD 0 0):=fun t ht=>(hS 0 (by omega) t ht).1
      have hr:=jmF hn hS hO (by omega) 202 0 [R.getD 0 0] [] (fun x hx=>by rw [List.mem_singleton.1 hx];exact hb0)
      rw [List.map_cons,List.map_nil,<- jti hn hS hO] at hr
      cases hq : runM n R 202 0 [R.getD 0 0] [] with
      | none=>rw [hq] at h;cases h
      | some p=>
        rw [hq] at h hr
        obtain ⟨ls,nx'⟩:=p
        simp only [Option.map_some,Option.some.injEq,Prod.mk.injEq] at h hr
        obtain ⟨rfl,rfl⟩:=h
        unfold dbuild
        rw [hb]
        simp only
        rw [hr]
        simp [mkDfa]
    · cases h
  · cases h
end Go.Proofs.W
end
section
namespace Go.Proofs.W
open Go Vm Go.Proofs.Zso
def gr1 : List Rx:=[.mk 2 0 [.mk 1 2 [],.mk 4 0 [.mk 2 0 [.mk 1 16 [],.mk 1 2 []]]],.mk 2 0 [.mk 1 24 [],.mk 4 0 [.mk 1 24 []]]]
def nf1 : Nfa:=⟨[[1,13],[2],[],[4],[5,11],[6],[],[8],[],[10],[5,11],[12],[],[14],[],[16],[17,19],[],[17,19],[20],[]],[0,0,2,0,0,0,16,0,2,0,0,0,0,0,24,0,0,24,0,0,0],[0,0,3,0,0,0,7,0,9,0,0,0,0,0,15,0,0,18,0,0,0],[-1,-1,-1,-1,-1,-1,-1,-1,-1,-1,-1,-1,0,-1,-1,-1,-1,-1,-1,-1,1]⟩
def nx1 : List (List Int):=[[-1,1,-1,2,2,-1,-1,-1,-1,-1,-1,-1,-1,-1,-1,-1],[-1,-1,-1,-1,3,-1,-1,-1,-1,-1,-1,-1,-1,-1,-1,-1],[-1,-1,-1,4,4,-1,-1,-1,-1,-1,-1,-1,-1,-1,-1,-1],[-1,5,-1,-1,-1,-1,-1,-1,-1,-1,-1,-1,-1,-1,-1,-1],[-1,-1,-1,4,4,-1,-1,-1,-1,-1,-1,-1,-1,-1,-1,-1],[-1,-1,-1,-1,3,-1,-1,-1,-1,-1,-1,-1,-1,-1,-1,-1]]
def rl1 : List Int:=[-1,0,1,-1,1,0]
theorem bld1 : buildN gr1 = some nf1:=by kernel_rfl
theorem cmp1 : compM nf1 60 = some (nx1,rl1):=by kernel_rfl
theorem okg1 : ∀ r ∈ gr1,okR r:=fun r hr=>jbq (l:=gr1) (by simp [gr1,okL,okR]) r hr
theorem told1 : PureF Tryz.prog A 51 [rxsD gr1] (.tup [dfaD ⟨nx1,rl1⟩,.int .i64 0]):=by
  have h:=jfa gr1 (fun _=>okg1) (by decide)
  rw [jl6 bld1 cmp1] at h
  exact h
end Go.Proofs.W
end
section
namespace Vm
open Go
def tabF (bs : List D) : List (List D × D) -> Option D
  | []=>none
  | (al,d) :: t=>if eqPlL bs al = true then some d else tabF bs t
def tabP (t : List (List D × D)) : List D -> Heap -> Option R:=fun args H=>(pures H args).bind fun (bs,H')=>(tabF bs t).map fun d=>.ok d (if flat d then H else H')
theorem jkR {bs : List D} {d : D} : ∀ {t : List (List D × D)},tabF bs t = some d -> (bs,d) ∈ t
  | [],h=>by cases h
  | (al,d') :: t,h=>by
    simp only [tabF] at h
    split at h
    · rename_i he
      cases h
      rw [jdr he]
      exact List.mem_cons_self
    · exact List.mem_cons_of_mem _ (jkR h)
theorem jqH [Base] {P : Program} {A : Ann} {f : FuncId} {t : List (List D × D)} {args : List D} {H : Heap} {r : R} (hmo : P.follows .mixedOrders = true) (hA : PrimOk P A) (hb : bodied P f = true) (hq : primQ A f = false) (hm : A.mode f = .pure) (hp : ∀ x ∈ t,PureF P A f x.1 x.2) (h : tabP t args H = some r)
    {ρ : Rho} {im : Im} {w : World} {vs : List Value} (hR : Rel ρ im H w) (hvs : RepA ρ H.length im vs args) : Calls P f ⟨vs⟩ w (OutR ρ im H w r):=by
  unfold tabP at h
  obtain ⟨⟨bs,H'⟩,h1,h2⟩:=bind_some h
  simp only at h2
  cases hf : tabF bs t with
  | none=>rw [hf] at h2;cases h2
  | some d=>
    rw [hf] at h2
    cases h2
    have hpd : PureF P A f bs d:=hp _ (jkR hf)
    obtain ⟨k,res,h3,h4⟩:=hpd
    cases res with
    | pan d' H'=>exact h4.elim
    | ok d' Hc=>
      have hc : callD P A (runF P A k) f args H = some (.ok d (if flat d then H else H')):=by
        simp only [callD,hb,Bool.true_eq_false,if_false,(ja7 hq).1,(ja7 hq).2,hm,h1,Option.bind_some,h3]
        rw [if_neg (by decide),h4]
        rfl
      rcases jei hA (jdd hmo hA k) hR hvs hc with ⟨_,hcalls⟩ | ⟨_,_,_,_,_,hx,_⟩
      · exact hcalls
      · rw [jbo hb] at hx
        cases hx
end Vm
end
section
namespace Vm
open Go
theorem jqE {P : Program} {A : Ann} {f : FuncId} {args : List D} {d d' : D} (h : PureF P A f args d) (g : PureF P A f args d') : d = d':=by
  obtain ⟨k,r,h1,h2⟩:=h
  obtain ⟨k',r',g1,g2⟩:=g
  have e1:=ja9 (Nat.le_max_left k k') _ _ _ _ h1
  have e2:=ja9 (Nat.le_max_right k k') _ _ _ _ g1
  rw [e1] at e2
  cases e2
  cases r with
  | pan d H=>exact h2.elim
  | ok d0 H=>
    have h3 : outPure H d0 = some d:=h2
    have g3 : outPure H d0 = some d':=g2
    rw [h3] at g3
    exact Option.some.inj g3
open Classical in
noncomputable def toldP (P : Program) (A : Ann) (f : FuncId) : List D -> Heap -> Option R:=fun args H=>(pures H args).bind fun (bs,H')=>
  if h : ∃ d,PureF P A f bs d then some (.ok (choose h) (if flat (choose h) then H else H')) else none
theorem ja4 [Base] {P : Program} {A : Ann} {f : FuncId} {args : List D} {H : Heap} {r : R} (hmo : P.follows .mixedOrders = true) (hA : PrimOk P A) (hb : bodied P f = true) (hq : primQ A f = false) (hm : A.mode f = .pure) (h : toldP P A f args H = some r)
    {ρ : Rho} {im : Im} {w : World} {vs : List Value} (hR : Rel ρ im H w) (hvs : RepA ρ H.length im vs args) : Calls P f ⟨vs⟩ w (OutR ρ im H w r):=by
  unfold toldP at h
  obtain ⟨⟨bs,H'⟩,h1,h2⟩:=bind_some h
  simp only at h2
  split at h2
  · rename_i he
    cases h2
    have hpd:=Classical.choose_spec he
    generalize Classical.choose he = d at hpd
    obtain ⟨k,res,h3,h4⟩:=hpd
    cases res with
    | pan d' H'=>exact h4.elim
    | ok d' Hc=>
      have hc : callD P A (runF P A k) f args H = some (.ok d (if flat d then H else H')):=by
        simp only [callD,hb,Bool.true_eq_false,if_false,(ja7 hq).1,(ja7 hq).2,hm,h1,Option.bind_some,h3]
        rw [if_neg (by decide),h4]
        rfl
      rcases jei hA (jdd hmo hA k) hR hvs hc with ⟨_,hcalls⟩ | ⟨_,_,_,_,_,hx,_⟩
      · exact hcalls
      · rw [jbo hb] at hx
        cases hx
  · cases h2
theorem jmK {P : Program} {A : Ann} {f : FuncId} {args bs : List D} {H H' : Heap} {d : D} (ha : pures H args = some (bs,H')) (h : PureF P A f bs d) : toldP P A f args H = some (.ok d (if flat d then H else H')):=by
  have he : ∃ d,PureF P A f bs d:=⟨d,h⟩
  unfold toldP
  rw [ha,Option.bind_some]
  simp only
  rw [dif_pos he,jqE (Classical.choose_spec he) h]
theorem jbe {P : Program} {A B : Ann} {f : FuncId} {args : List D} {d : D} {H : Heap} {K Kp : D -> Heap -> Prop} (hb : bodied P f = true) (hp : B.prim f = some (toldP P A f)) (h0 : B.rd f = none) (ha : stripL args = some args) (h : PureF P A f args d) (k : PP (K d H)) : EvB P B f args H K Kp:=
  jdp hb hp (jmK (jaz ha) h) (by rw [ite_self];exact k) h0
theorem jis {P : Program} {A B : Ann} {f : FuncId} {args bs : List D} {d : D} {H H' : Heap} {K Kp : D -> Heap -> Prop} (hb : bodied P f = true) (hp : B.prim f = some (toldP P A f)) (h0 : B.rd f = none) (ha : pures H args = some (bs,H')) (h : PureF P A f bs d) (k : PP (K d (if flat d then H else H'))) : EvB P B f args H K Kp:=
  jdp hb hp (jmK ha h) k h0
end Vm
end
section
namespace Go.Proofs.W
open Go Vm Go.Proofs.Zso
def dbT : List (List D × D):=[([rxsD gr1],.tup [dfaD ⟨nx1,rl1⟩,.int .i64 0])]
def B : Ann:={ mode:=A.mode,prim:=fun f=>if f = 51 then some (tabP dbT) else A.prim f,fz:=A.fz,bl:=A.bl,rd:=A.rd }
theorem B_fz (t : TypeId) : B.fz t = (t == 23):=rfl
attribute [go_sem] B_fz
theorem jpQ : okTrue (runF Tryz.prog B 300 4 [] []) = true:=by kernel_rfl
end Go.Proofs.W
end
section
namespace Go.Proofs.W
open Go Vm Go.Proofs.Zso
theorem jxp : ∀ x ∈ dbT,PureF Tryz.prog A 51 x.1 x.2:=fun x hx=>by
  simp only [dbT,List.mem_cons,List.not_mem_nil,or_false] at hx
  subst hx
  exact told1
theorem primB [Base] (hB : ∃ m,Base.B 0 0 = some (.int .i64 m)) : PrimOk Tryz.prog B:=by
  have h0:=primA hB
  refine ⟨h0.ext,h0.rd,fun f p h args H r hr ρ im w vs hR hvs=>?_⟩
  simp only [B] at h
  split at h
  · rename_i e;subst e;cases h
    exact jqH mixed h0 bo51 rfl rfl jxp hr hR hvs
  · exact h0.ok f p h args H r hr ρ im w vs hR hvs
theorem jvr : PureF Tryz.prog B 4 [] (.bool true):=by
  have h:=jpQ
  cases hr : runF Tryz.prog B 300 4 [] [] with
  | none=>rw [hr] at h;cases h
  | some r=>
    rw [hr] at h
    refine ⟨300,r,hr,?_⟩
    cases r with
    | pan d H=>cases h
    | ok d H=>
      cases d <;> simp only [okTrue] at h <;> try (cases h;done)
      subst h;rfl
end Go.Proofs.W
end
section
namespace Vm
open Go
def bareAll (o : Op) (e : Env) : Bool:=o.operands.toList.all (bareX e)
section
variable {P : Program} {A : Ann} {N : Nat}
def vOpP (P : Program) (A : Ann) (b : Bool) (p : Nat) (o : Op) (e : Env) (H : Heap) (K : D -> Heap -> Prop) : Prop:=
  if b = true then bareAll o e = true /\ (match placeR (stepOp P A noCall o e []) H p with
    | some (.ok d H')=>K d H'
    | _=>False)
  else vOpX A o e H (fun _ _=>True) /\ vOpZ P A o e H K
def upB (b : Bool) (p : Nat) : Nat:=p + if b then 1 else 0
def bareO : Option D -> Bool
  | some d=>bareD d
  | none=>false
theorem jsS {e : Env} {x : Operand} : bareX e x = bareO (evalO e x):=by unfold bareX bareO;cases evalO e x <;> rfl
theorem jot {d : D} : bareO (some d) = bareD d:=rfl
def bareR (e : Env) : Option Operand -> Bool
  | none=>true
  | some x=>bareX e x
theorem joo {e : Env} : bareR e none = true:=rfl
theorem joM {e : Env} {x : Operand} : bareR e (some x) = bareX e x:=rfl
def bareP (e : Env) : List (Nat × Operand) -> Bool
  | []=>true
  | q :: r=>bareX e q.2 && bareP e r
theorem jo5 {e : Env} : bareP e [] = true:=rfl
theorem jn4 {e : Env} {i : Nat} {x : Operand} {r : List (Nat × Operand)} : bareP e ((i,x) :: r) = (bareX e x && bareP e r):=rfl
theorem jle (x : Operand) : placedO A (.move x) = false:=rfl
theorem jh0 (x : Operand) : placedO A (.assign x) = false:=rfl
theorem jjV (x y z : Operand) : placedO A (.pick x y z) = false:=rfl
theorem jjq (t : TypeId) (ps : Array (Nat × Operand)) : placedO A (.build t ps) = false:=rfl
theorem jkU (t : TypeId) (x : Operand) : placedO A (.load t x) = false:=rfl
theorem jjh (t : TypeId) (x y : Operand) : placedO A (.store t x y) = false:=rfl
theorem jgK (x : Operand) : placedO A (.nilCheck x) = false:=rfl
theorem jjo (o : BinOp) (t : TypeId) (x y : Operand) (s : TypeId) : placedO A (.binOp o t x y s) = false:=rfl
theorem jkt (o : UnOp) (t : TypeId) (x : Operand) : placedO A (.unOp o t x) = false:=rfl
theorem jhd (s t : TypeId) (x : Operand) : placedO A (.convert s t x) = false:=rfl
theorem jdW (t : TypeId) (x : Operand) : placedO A (.makeInterface t x) = false:=rfl
theorem jgD (f : Fn) (x y : Array Operand) : placedO A (.makeFunc f x y) = false:=rfl
theorem jjg (t : TypeId) (x : Operand) (l h m : Option Operand) : placedO A (.slice t x l h m) = false:=rfl
theorem jfH (t : TypeId) (x : Operand) (f : Nat) : placedO A (.fieldAddr t x f) = false:=rfl
theorem jjz (t : TypeId) (x : Operand) (f : Nat) : placedO A (.field t x f) = false:=rfl
theorem jfD (t : TypeId) (x y : Operand) : placedO A (.indexAddr t x y) = false:=rfl
theorem jjp (t : TypeId) (x y : Operand) : placedO A (.index t x y) = false:=rfl
theorem jh2 (t : TypeId) (x y : Operand) (b : Bool) : placedO A (.lookup t x y b) = false:=rfl
theorem jfE (t : TypeId) (x y z : Operand) : placedO A (.mapUpdate t x y z) = false:=rfl
theorem jeU (x : Operand) (s t : TypeId) (b : Bool) : placedO A (.typeAssert x s t b) = false:=rfl
theorem jg7 (x : Operand) (i : Nat) : placedO A (.extract x i) = false:=rfl
theorem jjv (x : Operand) : placedO A (.panic x) = false:=rfl
theorem jkv (c : Call) : placedO A (.call c) = false:=rfl
theorem jjC (t : TypeId) : placedO A (.alloc t) = true:=rfl
theorem jmi (t : TypeId) (x : Operand) : placedO A (.box t x) = true:=rfl
theorem jfI (t : TypeId) (x y : Operand) : placedO A (.makeSlice t x y) = true:=rfl
theorem jhD (t : TypeId) (r : Option Operand) : placedO A (.makeMap t r) = true:=rfl
theorem je5 (t : TypeId) (n : Nat) (ps : Array (Nat × Operand)) : placedO A (.buildSlice t n ps) = !A.fz t:=rfl
theorem jjf (t : TypeId) {e : Env} : bareAll (.alloc t) e = true:=rfl
theorem jlN (t : TypeId) (x : Operand) {e : Env} : bareAll (.box t x) e = bareX e x:=by simp [bareAll,Op.operands]
theorem jfG (t : TypeId) (x y : Operand) {e : Env} : bareAll (.makeSlice t x y) e = (bareX e x && bareX e y):=by simp [bareAll,Op.operands]
theorem jhb (t : TypeId) (r : Option Operand) {e : Env} : bareAll (.makeMap t r) e = bareR e r:=by cases r <;> simp [bareAll,Op.operands,bareR]
theorem jeX (t : TypeId) (n : Nat) (ps : Array (Nat × Operand)) {e : Env} : bareAll (.buildSlice t n ps) e = bareP e ps.toList:=by
  simp only [bareAll,Op.operands]
  induction ps.toList with
  | nil=>rfl
  | cons q r ih=>simp only [List.map_cons,List.all_cons,bareP,ih]
def vOpPB (b : Bool) (P : Program) (A : Ann) (p : Nat) (o : Op) (e : Env) (H : Heap) (K : D -> Heap -> Prop) : TyP K:=vOpP P A b p o e H K
theorem jg9 {p : Nat} {o : Op} {e : Env} {H : Heap} {K : D -> Heap -> Prop} : @Eq Prop (vOpPB true P A p o e H K) (bareAll o e = true /\ outB (placeR (stepOp P A noCall o e []) H p) K (fun _ _=>False)):=by
  show (bareAll o e = true /\ (match placeR (stepOp P A noCall o e []) H p with
    | some (.ok d H')=>K d H'
    | _=>False)) = _
  unfold outB
  cases placeR (stepOp P A noCall o e []) H p with
  | none=>rfl
  | some r=>cases r <;> rfl
theorem jgd {p : Nat} {o : Op} {e : Env} {H : Heap} {K : D -> Heap -> Prop} : @Eq Prop (vOpPB false P A p o e H K) (plainX A o e H /\ vOpZB P A o e H K):=by
  show (vOpX A o e H (fun _ _=>True) /\ vOpZ P A o e H K) = _
  rw [jiV]
  unfold vOpZB
  rfl
theorem jlY (t : TypeId) (ps : Array (Nat × Operand)) {e : Env} {H : Heap} {K : D -> Heap -> Prop} : @Eq Prop (vOpZB P A (.build t ps) e H K) (vOpB P A (.build t ps) e H K (fun _ _=>False)):=by
  unfold vOpZB vOpB
  rfl
theorem juj {p : Nat} : upB true p = p + 1:=rfl
theorem jqL {p : Nat} : upB false p = p:=rfl
def placeD (b : Bool) (d : Option D) (H : Heap) (p : Nat) (ob : Ob) : Option R:=if b then d.map fun d=>.ok d (H.set p ob) else none
theorem jlp {d : D} {H : Heap} {p : Nat} {ob : Ob} : placeD true (some d) H p ob = some (.ok d (H.set p ob)):=rfl
theorem jnw {d : D} {ob : Ob} {H : Heap} {p : Nat} : placeR (some (.ok d [ob])) H p = placeD (bareOb ob && decide (p < H.length) && deadQ (hget H p)) (moveTo p d) H p ob:=by
  show (if bareOb ob = true /\ p < H.length /\ deadQ (hget H p) = true then (moveTo p d).map fun d=>R.ok d (H.set p ob) else none) = _
  unfold placeD
  by_cases h : bareOb ob = true /\ p < H.length /\ deadQ (hget H p) = true
  · rw [if_pos h];simp [h.1,h.2.1,h.2.2]
  · rw [if_neg h,if_neg]
    intro h'
    simp only [Bool.and_eq_true,decide_eq_true_eq] at h'
    exact h ⟨h'.1.1,h'.1.2,h'.2⟩
def placeS (b : Bool) (d : D) (H : Heap) : Option R:=if b then some (.ok d H) else none
theorem jlx {d : D} {H : Heap} : placeS true d H = some (.ok d H):=rfl
theorem jlA {d : D} {H : Heap} {p : Nat} : placeR (some (.ok d [])) H p = placeS (bareD d) d H:=by
  unfold placeR placeS;rfl
theorem jrv {n : Nat} {z : D} (h : bareD z = true) : bareL (List.replicate n z) = true:=by
  induction n with
  | zero=>rfl
  | succ n ih=>simp only [List.replicate_succ,bareL,h,ih,Bool.and_self]
theorem jqi {k : IntKind} {n : Int} : bareD (.int k n) = true:=rfl
theorem jok {b : Bool} : bareD (.bool b) = true:=rfl
theorem jpf {s : List UInt8} : bareD (.str s) = true:=rfl
theorem jtQ {f : Bool} {xs : List D} : bareD (.sl f xs) = bareL xs:=rfl
theorem jp8 {xs : List D} : bareD (.agg xs) = bareL xs:=rfl
theorem jm9 : bareD .nilm = true:=rfl
theorem jnJ : bareD .nilp = true:=rfl
theorem jo0 : bareD .nili = true:=rfl
theorem jn3 : bareD .niln = true:=rfl
theorem jqy : bareL [] = true:=rfl
theorem jnV {d : D} {r : List D} : bareL (d :: r) = (bareD d && bareL r):=rfl
theorem jnP {xs : List D} : bareOb (.arr xs) = bareL xs:=rfl
theorem jnu : deadQ .dead = true:=rfl
theorem jnF {p o n : Nat} : moveTo p (.vec 0 o n) = some (.vec p o n):=rfl
theorem joQ {p i j : Nat} : moveTo p (.ptr 0 i j) = some (.ptr p i j):=rfl
theorem joB {p : Nat} : moveTo p (.map 0) = some (.map p):=rfl
def vOpsPC (P : Program) (A : Ann) (N : Nat) (S : List (Option Nat)) (prs : List (List Nat × List Nat)) : Nat -> List Oper -> Env -> Heap -> (Env -> Heap -> Prop) -> Prop
  | _,[],e,H,K=>pairsP e prs /\ K e H
  | p,o :: rest,e,H,K=>dstOk N o.dst = true /\ match wantG S e o.guard with
    | some true=>vOpP P A (placedO A o.op) p o.op e H (fun d H'=>vOpsPC P A N S prs (upB (placedO A o.op) p) rest (putO e o.dst d) H' K)
    | some false=>vOpsPC P A N S prs (upB (placedO A o.op) p) rest (putO e o.dst ud) H K
    | none=>False
def vOpsPB (P : Program) (A : Ann) (N : Nat) (S : List (Option Nat)) (prs : List (List Nat × List Nat)) (p : Nat) (l : List Oper) (e : Env) (H : Heap) (K : Env -> Heap -> Prop) : TyP (S,prs,l,K):=vOpsPC P A N S prs p l e H K
def stepsPB (w : Option Bool) (P : Program) (A : Ann) (N : Nat) (S : List (Option Nat)) (prs : List (List Nat × List Nat)) (p : Nat) (o : Oper) (rest : List Oper) (e : Env) (H : Heap) (K : Env -> Heap -> Prop) : TyP (S,prs,o,rest,K):=
  match w with
  | some true=>vOpP P A (placedO A o.op) p o.op e H (fun d H'=>vOpsPC P A N S prs (upB (placedO A o.op) p) rest (putO e o.dst d) H' K)
  | some false=>vOpsPC P A N S prs (upB (placedO A o.op) p) rest (putO e o.dst ud) H K
  | none=>False
section
variable {S : List (Option Nat)} {prs : List (List Nat × List Nat)} {o : Oper} {rest : List Oper} {e : Env} {H : Heap} {K : Env -> Heap -> Prop} {p : Nat}
theorem jhx : @Eq Prop (vOpsPB P A N S prs p [] e H K) (pairsP e prs /\ K e H):=rfl
theorem jf8 : @Eq Prop (vOpsPB P A N S prs p (o :: rest) e H K) ((dstOk N o.dst = true /\ stepsPB (wantG S e o.guard) P A N S prs p o rest e H K)):=rfl
theorem jf5 : @Eq Prop (stepsPB (some true) P A N S prs p o rest e H K) (vOpPB (placedO A o.op) P A p o.op e H (fun d H'=>vOpsPB P A N S prs (upB (placedO A o.op) p) rest (putO e o.dst d) H' K)):=rfl
theorem jfm : @Eq Prop (stepsPB (some false) P A N S prs p o rest e H K) (vOpsPB P A N S prs (upB (placedO A o.op) p) rest (putO e o.dst ud) H K):=rfl
end
end
attribute [irreducible] vOpPB vOpsPB stepsPB
attribute [go_sem ↓] jg9 jgd jhx jf8 jf5 jfm
attribute [go_sem] jlY jsS jot joo joM jo5 jn4 juj jqL jlp jnw jlx jlA jrv jqi jok jpf jtQ jp8 jm9 jnJ jo0 jn3 jqy jnV jnP jnu jnF joQ joB jle jh0 jjV jjq jkU jjh jgK jjo jkt jhd jdW jgD jjg jfH jjz jfD jjp jh2 jfE jeU jg7 jjv jkv jjC jmi jfI jhD je5 jjf jlN jfG jhb jeX
attribute [go_sem] jg9 jgd jhx jf8 jf5 jfm
end Vm
end
section
namespace Vm
open Go
theorem jbt {P : Program} {A : Ann} {f : FuncId} {args : List D} {d : D} {H H' : Heap} {k : ExtK} {K Kp : D -> Heap -> Prop} (hb : bodied P f = false) (h0 : A.rd f = none) (hk : A.bl f = some k) (h : extD k args H = some (d,H')) (c : PP (K d H')) : EvB P A f args H K Kp:=by
  rw [<- jkB]
  exact ⟨0,.ok d H',by simp only [callD,hb,if_true,h0,Option.isSome_none,Bool.false_eq_true,if_false,hk,Option.bind_some,h,Option.map_some],c⟩
theorem jpu {P : Program} {A : Ann} {f : FuncId} {args : List D} {d : D} {H H' : Heap} {K Kp : D -> Heap -> Prop} (hb : bodied P f = true) (hq : primQ A f = false) (hm : A.mode f = .fresh) (ha : stripL args = some args) (h : EvF P A f args [] (fun d' Hc=>freshR d' Hc H = some (.ok d H')) (fun _ _=>False)) (c : PP (K d H')) : EvB P A f args H K Kp:=by
  rw [<- jkB]
  obtain ⟨k,r,h1,h2⟩:=h
  cases r with
  | pan d' Hc=>exact h2.elim
  | ok d' Hc=>
    refine ⟨k,.ok d H',?_,c⟩
    simp only [callD,hb,Bool.true_eq_false,if_false,(ja7 hq).1,(ja7 hq).2,hm,jaz ha,Option.bind_some,h1,if_true]
    exact h2
theorem jvl {P : Program} {A : Ann} {f : FuncId} {args : List D} {H : Heap} {K Kp K' Kp' : D -> Heap -> Prop} (h : EvB P A f args H K' Kp') (h1 : ∀ d H',K' d H' -> PP (K d H')) (h2 : ∀ d H',Kp' d H' -> PP (Kp d H')) : EvB P A f args H K Kp:=by
  rw [<- jkB] at h ⊢
  exact h.mono h1 h2
theorem jqg {P : Program} {A : Ann} {N i : Nat} {e : Env} {H : Heap} {Q : Ex -> Env -> Heap -> Prop} (h : Q .norm e H) : WpB P A N (.label i) e H Q:=by
  rw [<- jxo]
  exact ⟨0,⟨.norm,e,H⟩,rfl,h⟩
def pnE (u : Option TypeDesc) (b : Bool) : Option D:=
  match u with
  | some (.pointer _)=>some (.bool b)
  | _=>none
def ppS (n : Option Nat) (b : Bool) : Option D:=
  match n with
  | some _=>some (.bool b)
  | none=>none
theorem jsC {n : Nat} {b : Bool} : ppS (some n) b = some (.bool b):=rfl
def ppE (P : Program) (u : Option TypeDesc) (b : Bool) : Option D:=
  match u with
  | some (.pointer e)=>ppS (orS (sizeT P e) (sizeZ P e)) b
  | _=>none
theorem jvA {P : Program} {e : TypeId} {b : Bool} : ppE P (some (.pointer e)) b = ppS (orS (sizeT P e) (sizeZ P e)) b:=rfl
theorem jv2 {e : TypeId} {b : Bool} : pnE (some (.pointer e)) b = some (.bool b):=rfl
section
variable {P : Program} {t : TypeId} {r i j : Nat}
theorem juJ : binD P .eql t (.ptr r i j) .nilp = pnE (P.underlying t) false:=by
  show (eqD P t (.ptr r i j) .nilp).map D.bool = _
  unfold eqD pnE;cases h : P.underlying t with
  | none=>rfl
  | some u=>cases u <;> rfl
theorem jtM : binD P .neq t (.ptr r i j) .nilp = pnE (P.underlying t) true:=by
  show (eqD P t (.ptr r i j) .nilp).map (fun b=>D.bool (!b)) = _
  unfold eqD pnE;cases h : P.underlying t with
  | none=>rfl
  | some u=>cases u <;> rfl
theorem jwo : binD P .eql t .nilp .nilp = pnE (P.underlying t) true:=by
  show (eqD P t .nilp .nilp).map D.bool = _
  unfold eqD pnE;cases h : P.underlying t with
  | none=>rfl
  | some u=>cases u <;> rfl
theorem jtY : binD P .neq t .nilp .nilp = pnE (P.underlying t) false:=by
  show (eqD P t .nilp .nilp).map (fun b=>D.bool (!b)) = _
  unfold eqD pnE;cases h : P.underlying t with
  | none=>rfl
  | some u=>cases u <;> rfl
theorem juF : binD P .eql t (.ptr r i j) (.ptr r i j) = ppE P (P.underlying t) true:=by
  show (eqD P t (.ptr r i j) (.ptr r i j)).map D.bool = _
  unfold eqD ppE ppS
  cases h : P.underlying t with
  | none=>rfl
  | some u=>
    cases u <;> try rfl
    rename_i e
    show Option.map D.bool (if r = r /\ i = i /\ j = j /\ (sizeS P e).isSome then some true else none) = match sizeS P e with | some _=>some (.bool true) | none=>none
    cases sizeS P e <;> simp
theorem jt0 : binD P .neq t (.ptr r i j) (.ptr r i j) = ppE P (P.underlying t) false:=by
  show (eqD P t (.ptr r i j) (.ptr r i j)).map (fun b=>D.bool (!b)) = _
  unfold eqD ppE ppS
  cases h : P.underlying t with
  | none=>rfl
  | some u=>
    cases u <;> try rfl
    rename_i e
    show Option.map (fun b=>D.bool (!b)) (if r = r /\ i = i /\ j = j /\ (sizeS P e).isSome then some true else none) = match sizeS P e with | some _=>some (.bool false) | none=>none
    cases sizeS P e <;> simp
end
attribute [go_sem] jv2 jsC jvA juJ jtM jwo jtY juF jt0
abbrev Cells (H : Heap) (p : Nat) (cs : List D) : Prop:=hget H p = .arr [.agg cs] /\ p < H.length
theorem Cells.set {H : Heap} {p : Nat} {cs ds : List D} (h : Cells H p cs) : Cells (H.set p (.arr [.agg ds])) p ds:=⟨jad h.2,by simpa using h.2⟩
theorem jd6 {H : Heap} {p j : Nat} {cs : List D} {k : IntKind} {n : Int} (h : Cells H p cs) (hc : cs[j]? = some (.int k n)) : cellD H p 0 j = some (k,n):=by
  simp [cellD,h.1,hc,D.cells]
theorem jcC {cs : List D} {j : Nat} {v : D} (h : j < cs.length) : spliceL cs j [v] = cs.set j v:=by
  rw [List.set_eq_take_append_cons_drop,if_pos h]
  simp [spliceL]
theorem jc8 {H : Heap} {p j : Nat} {cs : List D} {k : IntKind} {n : Int} (h : Cells H p cs) (hj : j < cs.length) : cellSet H p 0 j (.int k n) = some (H.set p (.arr [.agg (cs.set j (.int k n))])):=by
  simp only [cellSet,h.1,List.getElem?_cons_zero,Option.bind_some]
  have : setE (.agg cs) j (.int k n) = some (.agg (cs.set j (.int k n))):=by
    simp only [setE,noTup,D.cells,aggQ,Bool.true_eq_false,if_false,List.length_singleton,Bool.false_eq_true,and_false]
    rw [if_pos ⟨by omega,trivial⟩,jcC hj]
  rw [this]
  rfl
theorem js9 {P : Program} {t : TypeId} {H : Heap} {p j n : Nat} {cs : List D} (h : Cells H p cs) (hj : j < cs.length) (hs : sizeT P t = some n) : convU P (some (.pointer t)) (some .unsafePointer) (.ptr p 0 j) H = some (.ptr p 0 j,H):=by
  simp [convU,h.1,D.cells,hj,hs]
mutual
theorem jhc : ∀ {d d' : D},strip d = some d' -> bareD d = true
  | .bool _,_,_ | .int ..,_,_ | .str _,_,_ | .nilp,_,_ | .nilm,_,_ | .niln,_,_ | .nili,_,_=>rfl
  | .sl _ xs,_,h=>by
    simp only [strip,Option.map_eq_some_iff] at h
    obtain ⟨ys,hy,_⟩:=h
    exact jcM hy
  | .agg xs,_,h=>by
    simp only [strip,Option.map_eq_some_iff] at h
    obtain ⟨ys,hy,_⟩:=h
    exact jcM hy
  | .tup xs,_,h=>by
    simp only [strip,Option.map_eq_some_iff] at h
    obtain ⟨ys,hy,_⟩:=h
    exact jcM hy
  | .ptr ..,_,h | .ept ..,_,h | .vec ..,_,h | .map _,_,h | .fn ..,_,h | .bfn ..,_,h | .iface ..,_,h | .yld _,_,h=>by simp [strip] at h
theorem jcM : ∀ {l l' : List D},stripL l = some l' -> bareL l = true
  | [],_,_=>rfl
  | d :: r,_,h=>by
    simp only [stripL] at h
    obtain ⟨x,hx,h⟩:=bind_some h
    obtain ⟨y,hy,_⟩:=Option.map_eq_some_iff.1 h
    simp only [bareL,jhc hx,jcM hy,Bool.and_self]
end
end Vm
end
section
namespace Go.Proofs
open Go.Shelf Go.RowKit Go.Lib
variable {P : Program} {ρ : Ren} {zv : Value} {sz bs : Nat}
structure CloneL (P : Program) (ρ : Ren) (zv : Value) (sz bs : Nat) : Prop where
  mixed : P.follows .mixedOrders = true
  f41 : Bears P (ρ.f 41) (SlBodyN.n41 ρ)
  t4 : P.underlying (ρ.t 4) = some (TypeDesc.bool)
  a4 : ∀ w,(isAgg (ρ.t 4)).run P w = .ok false w
  z4 : ∀ w,(Go.sizeOf (ρ.t 4)).run P w = .ok 1 w
  v4 : ∀ w,(zeroValue (ρ.t 4)).run P w = .ok (Value.bool false) w
  t22 : P.underlying (ρ.t 22) = some (TypeDesc.slice (ρ.t 23))
  a22 : ∀ w,(isAgg (ρ.t 22)).run P w = .ok false w
  z22 : ∀ w,(Go.sizeOf (ρ.t 22)).run P w = .ok 1 w
  v22 : ∀ w,(zeroValue (ρ.t 22)).run P w = .ok (Value.slice none 0 0) w
  z23 : ∀ w,(Go.sizeOf (ρ.t 23)).run P w = .ok sz w
  i23 : (P.info? (ρ.t 23)).map (fun i=>(i.zero,i.size,i.bytes)) = some (some zv,sz,bs)
  zc : zv.cells.size = sz
  sz0 : 0 < sz
set_option maxHeartbeats 1000000 in
theorem jpk (L : CloneL P ρ zv sz bs) (n c : Nat) (w : World) :
    Calls P (ρ.f 41) #[.slice none n c] w fun e w'=>e = .returned (.slice none 0 0) /\ w' = w:=by
  have mixed:=L.mixed;have t4:=L.t4;have a4:=L.a4;have z4:=L.z4;have v4:=L.v4;have t22:=L.t22;have a22:=L.a22;have z22:=L.z22;have v22:=L.v22
  have q22 : ∀ (w : World) (a : Option Addr) (n c n' c' : Nat),(binOp .eql (ρ.t 22) (.slice a n c) (.slice none n' c')).run P w = .ok (.bool a.isNone) w:=fun w a n c n' c'=>Lib.run_eql_slice_nil w _ _ a n c n' c' L.t22
  obtain ⟨_,_,FG⟩:=L.f41
  go_enter FG,SlBodyN.n41_ntmps ρ
  go_wp2
  go_ret
  exact ⟨rfl,rfl⟩
set_option maxHeartbeats 2000000 in
set_option maxRecDepth 100000 in
theorem jnl (L : CloneL P ρ zv sz bs) (a : Addr) (c : Nat) (w : World) :
    Calls P (ρ.f 41) #[.slice (some a) 0 c] w fun e w'=>e = .returned (.slice (some ⟨w.heap.size,0,none⟩) 0 0) /\ w' = w.alloc (.cells #[] (ρ.t 23)):=by
  have mixed:=L.mixed;have t4:=L.t4;have a4:=L.a4;have z4:=L.z4;have v4:=L.v4;have t22:=L.t22;have a22:=L.a22;have z22:=L.z22;have v22:=L.v22;have z23:=L.z23
  obtain ⟨i0,hi,hz0,hz1,hz2⟩:=info_parts L.i23
  have q22 : ∀ (w : World) (a : Option Addr) (n c n' c' : Nat),(binOp .eql (ρ.t 22) (.slice a n c) (.slice none n' c')).run P w = .ok (.bool a.isNone) w:=fun w a n c n' c'=>Lib.run_eql_slice_nil w _ _ a n c n' c' L.t22
  have u22 : ∀ w,Sem.run P (underlying (ρ.t 22)) w = .ok (TypeDesc.slice (ρ.t 23)) w:=run_underlying t22
  obtain ⟨_,_,FG⟩:=L.f41
  go_enter FG,SlBodyN.n41_ntmps ρ
  go_wp2
  go_ret
  exact ⟨rfl,rfl⟩
end Go.Proofs
namespace Vm
open Go Go.Proofs
def pCloneE (p : List D -> Heap -> Option R) : List D -> Heap -> Option R
  | [.sl _ []],H=>some (.ok (.sl true []) H)
  | args,H=>p args H
theorem jiY [Base] {P : Program} {ρ : Go.Shelf.Ren} {zv : Value} {sz bs : Nat} (L : CloneL P ρ zv sz bs) {p : List D -> Heap -> Option R} (hp : PrimAt P (ρ.f 41) p) : PrimAt P (ρ.f 41) (pCloneE p):=by
  intro args H r h ρ' im w vs hR hvs
  unfold pCloneE at h
  split at h
  · cases h
    have key : ∀ (a : Option Addr) (cap : Nat),Calls P (ρ.f 41) #[.slice a 0 cap] w (OutR ρ' im H w (.ok (.sl true []) H)):=fun a cap=>by
      cases a with
      | none=>
        refine (jpk L 0 cap w).mono ?_
        rintro e w' ⟨rfl,rfl⟩
        exact OutR.same hR (.sl0 _ _ _ (fun _=>rfl))
      | some a=>
        refine (jnl L a cap w).mono ?_
        rintro e w' ⟨rfl,rfl⟩
        exact .ok ρ' im _ _ _ _ ⟨hR.world fun b hb=>jax hb,ImLe.refl _,Tr.world (fun b hb=>jax hb) (by simp) rfl rfl rfl,fun _ _ _ h=>.inl h⟩ (.sl0 _ _ _ (fun _=>rfl))
    cases hvs with
    | cons v d vs ds hv hr=>
      cases hr
      cases hv with
      | sl0 a cap f hf=>exact key a cap
      | sl b o sz cap f xs vs hs hc' h hf hcap=>exact key _ cap
  · exact hp args H r h ρ' im w vs hR hvs
end Vm
end
section
-- use:
namespace Go.Proofs.W
open Go Vm Go.Proofs.Zso
def renC (f sl el : Nat) : Shelf.Ren:=⟨fun x=>if x = 41 then f else x,fun x=>if x = 4 then 4 else if x = 22 then sl else if x = 23 then el else x,fun x=>x⟩
theorem jwg : CloneL Tryz.prog (renC 35 23 3) (.int .i64 0) 1 8 where
  mixed:=by kernel_rfl
  f41:=⟨"slices.Clone[[]int,int]", by decide,Tryz.func35.trans (congrArg some (by kernel_rfl))⟩
  t4:=Tryz.underlying4
  a4:=Tryz.isAgg4
  z4:=Tryz.sizeOf4
  v4:=Tryz.zeroValue4
  t22:=Tryz.underlying23
  a22:=Tryz.isAgg23
  z22:=Tryz.sizeOf23
  v22:=Tryz.zeroValue23
  z23:=Tryz.sizeOf3
  i23:=by kernel_rfl
  zc:=rfl
  sz0:=by decide
theorem jwj : CloneL Tryz.prog (renC 34 65 90) (.agg (Array.replicate 16 (.int .i64 0))) 16 128 where
  mixed:=by kernel_rfl
  f41:=⟨"slices.Clone[[][16]int,[16]int]", by decide,Tryz.func34.trans (congrArg some (by kernel_rfl))⟩
  t4:=Tryz.underlying4
  a4:=Tryz.isAgg4
  z4:=Tryz.sizeOf4
  v4:=Tryz.zeroValue4
  t22:=Tryz.underlying65
  a22:=Tryz.isAgg65
  z22:=Tryz.sizeOf65
  v22:=Tryz.zeroValue65
  z23:=Tryz.sizeOf90
  i23:=by kernel_rfl
  zc:=by kernel_rfl
  sz0:=by decide
theorem jre [Base] {p : List D -> Heap -> Option R} (hp : PrimAt Tryz.prog 35 p) : PrimAt Tryz.prog 35 (pCloneE p):=jiY jwg hp
theorem jrc [Base] {p : List D -> Heap -> Option R} (hp : PrimAt Tryz.prog 34 p) : PrimAt Tryz.prog 34 (pCloneE p):=jiY jwj hp
end Go.Proofs.W
end
section
namespace Go.Proofs.W
open Go Vm Go.Proofs.Zso
structure Rule where
  nm : List UInt8
  rx : Rx
  br : Bool
def ruleD (r : Rule) : D:=.agg [.str r.nm,.int .u8 r.rx.k,.int .u16 r.rx.s,.sl false (rxDs r.rx.kids),.bool r.br]
theorem jfB : zeroT Tryz.prog 48 = some (.agg [.str [],.int .u8 0,.int .u16 0,.sl true [],.bool false]):=by kernel_rfl
theorem jd3 (r : Rule) : (ruleD r).cells.length = 5:=rfl
theorem jqo (r : Rule) : aggQ (ruleD r) = true:=rfl
theorem jnZ (r : Rule) : noTup (ruleD r) = true:=rfl
theorem jhe (r : Rule) : strip (ruleD r) = some (ruleD r):=by simp [ruleD,strip,stripL,jcR]
theorem jb8 (l : List Rule) : stripL (l.map ruleD) = some (l.map ruleD):=by
  induction l with
  | nil=>rfl
  | cons r l ih=>simp [stripL,ih,jhe]
theorem jdY (r : Rule) : rxD r.rx = .agg [.int .u8 r.rx.k,.int .u16 r.rx.s,.sl false (rxDs r.rx.kids)]:=by cases r with | mk a x b=>cases x;rfl
def rulesD (l : List Rule) : D:=.sl false (l.map ruleD)
theorem jcD (l : List Rule) : strip (rulesD l) = some (rulesD l):=by simp [rulesD,strip,jb8]
theorem jgM {l : List Rule} {j : Nat} (h : j < l.length) : (l.map ruleD)[j]? = some (.agg [.str l[j].nm,.int .u8 l[j].rx.k,.int .u16 l[j].rx.s,.sl false (rxDs l[j].rx.kids),.bool l[j].br]):=by simp [h,ruleD]
end Go.Proofs.W
end
section
namespace Go.Proofs.W
open Go Vm Go.Proofs.Zso
theorem jgN      {t e : TypeId} {n w : Nat} {z : D} (he : elemT Tryz.prog t = some e) (hn : sizeT Tryz.prog e = some n) (hw : bytesT Tryz.prog e = some w) (hz : zeroT Tryz.prog e = some z) (hzn : z.cells.length = n) (hw0 : w ≠ 0)
    {xs : List D} (hx : xs ≠ []) (hs : stripL xs = some xs) (hh : headSize n xs = true) (hm : xs.length * w <= 140737488355328) (H : Heap) : appendD Tryz.prog t H (.sl true []) (.sl false xs) = some (.vec H.length 0 xs.length,H ++ [.arr xs]):=by
  have hadd : addedD H (.sl false xs) = some (xs,H):=by
    have : pures H xs = some (xs,H):=jaz hs
    simp [addedD,elems,this,puresA]
  have hxe : xs.isEmpty = false:=by simpa using hx
  have h0 : headSize n ([] : List D) = true:=rfl
  simp only [appendD,he,hn,hw,hz,Option.bind_some,hadd]
  simp [hh,hxe,hzn,hw0,h0,mostBytes,hm]
theorem jmm {x : D} {xs : List D} (hs : stripL (x :: xs) = some (x :: xs)) (hh : headSize 1 (x :: xs) = true) (hm : (x :: xs).length * 8 <= 140737488355328) : PureF Tryz.prog A 35 [.sl false (x :: xs)] (.sl false (x :: xs)):=by
  have happ:=fun H=>jgN el23 sz3 by3 zr3 rfl (by decide) (xs:=x :: xs) (by simp) hs hh hm H
  simp only [List.length_cons] at happ
  refine jaj (n:=8) (rs:=[.tmp 2]) Tryz.func35 rfl rfl rfl rfl rfl rfl ?_
  repeat' (first | apply wz1|apply wz2|apply wz3|apply wz4|apply wz5|apply wz6 | simp -dsimp (maxSteps:=999999) (disch:=omega) only[go_sem,simprocAttr, *] | ((first | refine wz8 ?_ ?_|refine wz9 ?_ ?_|refine wz7 ?_ ?_)<;>intro hh <;> (try replace hh:=vqs hh) <;> (try (exfalso;first | exact hh | omega))))
  have hv : VecAt 0 (.vec 0 0 (xs.length + 1)) [Ob.arr (x :: xs)] (x :: xs):=⟨by simp,.inr ⟨by simp,0,by omega,by simp,by simp,rfl⟩⟩
  exact hv.out hs
theorem jll {x : D} {xs : List D} (hs : stripL (x :: xs) = some (x :: xs)) (hh : headSize 16 (x :: xs) = true) (hm : (x :: xs).length * 128 <= 140737488355328) : PureF Tryz.prog A 34 [.sl false (x :: xs)] (.sl false (x :: xs)):=by
  have happ:=fun H=>jgN el65 sz90 by90 zr90 rfl (by decide) (xs:=x :: xs) (by simp) hs hh hm H
  simp only [List.length_cons] at happ
  refine jaj (n:=8) (rs:=[.tmp 2]) Tryz.func34 rfl rfl rfl rfl rfl rfl ?_
  repeat' (first | apply wz1|apply wz2|apply wz3|apply wz4|apply wz5|apply wz6 | simp -dsimp (maxSteps:=999999) (disch:=omega) only[go_sem,simprocAttr, *] | ((first | refine wz8 ?_ ?_|refine wz9 ?_ ?_|refine wz7 ?_ ?_)<;>intro hh <;> (try replace hh:=vqs hh) <;> (try (exfalso;first | exact hh | omega))))
  have hv : VecAt 0 (.vec 0 0 (xs.length + 1)) [Ob.arr (x :: xs)] (x :: xs):=⟨by simp,.inr ⟨by simp,0,by omega,by simp,by simp,rfl⟩⟩
  exact hv.out hs
open Classical in
noncomputable def cloneG (n w : Nat) : List D -> List Ob -> Option D
  | [.sl _ []],_=>some (.sl true [])
  | [.sl false (x :: xs)],_=>if stripL (x :: xs) = some (x :: xs) /\ headSize n (x :: xs) = true /\ (x :: xs).length * w <= 140737488355328 then some (.sl false (x :: xs)) else none
  | _,_=>none
theorem jic {n w : Nat} {xs : List D} (hx : xs ≠ []) (hs : stripL xs = some xs) (hh : headSize n xs = true) (hm : xs.length * w <= 140737488355328) (o : List Ob) : cloneG n w [.sl false xs] o = some (.sl false xs):=by
  cases xs with
  | nil=>exact absurd rfl hx
  | cons x xs=>
    simp only [cloneG]
    rw [if_pos ⟨hs,hh,hm⟩]
theorem jha {n w : Nat} {f : Bool} (o : List Ob) : cloneG n w [.sl f []] o = some (.sl true []):=by simp only [cloneG]
theorem jtE [Base] (hA : PrimOk Tryz.prog A) {args : List D} {H : Heap} {d : D} {o : List Ob} (h : cloneG 1 8 args o = some d) {ρ : Rho} {im : Im} {w : World} {vs : List Value} (hR : Rel ρ im H w) (hvs : RepA ρ H.length im vs args) : Calls Tryz.prog 35 ⟨vs⟩ w (OutR ρ im H w (.ok d H)):=by
  unfold cloneG at h
  split at h
  · cases h
    exact jre (p:=fun _ _=>none) (fun _ _ _ h=>by cases h) _ H _ rfl ρ im w vs hR hvs
  · split at h
    · rename_i hc
      cases h
      exact jeu mixed hA bo35 (jmm hc.1 hc.2.1 hc.2.2) (jaH (by simp only [strip,hc.1,Option.map_some])) hR hvs
    · cases h
  · cases h
theorem js0 [Base] (hA : PrimOk Tryz.prog A) {args : List D} {H : Heap} {d : D} {o : List Ob} (h : cloneG 16 128 args o = some d) {ρ : Rho} {im : Im} {w : World} {vs : List Value} (hR : Rel ρ im H w) (hvs : RepA ρ H.length im vs args) : Calls Tryz.prog 34 ⟨vs⟩ w (OutR ρ im H w (.ok d H)):=by
  unfold cloneG at h
  split at h
  · cases h
    exact jrc (p:=fun _ _=>none) (fun _ _ _ h=>by cases h) _ H _ rfl ρ im w vs hR hvs
  · split at h
    · rename_i hc
      cases h
      exact jeu mixed hA bo34 (jll hc.1 hc.2.1 hc.2.2) (jaH (by simp only [strip,hc.1,Option.map_some])) hR hvs
    · cases h
  · cases h
end Go.Proofs.W
end
section
namespace Go.Proofs.W
open Go Vm Go.Proofs.Zso
noncomputable def Am : Ann:={ mode:=A.mode,prim:=fun f=>if f = 4 then some (toldP Tryz.prog B 4) else if [21,11,10,12,5,6,7,51,52,19].contains f then some (toldP Tryz.prog A f) else A.prim f,fz:=A.fz,bl:=A.bl,rd:=fun f=>if f = 35 then some (cloneG 1 8) else if f = 34 then some (cloneG 16 128) else A.rd f }
theorem Am_fz (t : TypeId) : Am.fz t = (t == 23):=rfl
attribute [go_sem] Am_fz
theorem primAm [Base] (hB : ∃ m,Base.B 0 0 = some (.int .i64 m)) : PrimOk Tryz.prog Am:=by
  have h0:=primB hB
  have hA:=primA hB
  refine ⟨hA.ext,fun f g h args H d hd ρ im w vs hR hvs=>?_,fun f p h=>?_⟩
  · simp only [Am] at h
    split at h
    · rename_i e;subst e;cases h
      exact jtE hA hd hR hvs
    split at h
    · rename_i e;subst e;cases h
      exact js0 hA hd hR hvs
    · exact hA.rd f g h args H d hd ρ im w vs hR hvs
  simp only [Am] at h
  split at h
  · rename_i e;subst e;cases h
    exact fun args H r hr ρ im w vs hR hvs=>ja4 mixed h0 bo4 rfl rfl hr hR hvs
  split at h
  · rename_i e;cases h
    have hm : f = 21 ∨ f = 11 ∨ f = 10 ∨ f = 12 ∨ f = 5 ∨ f = 6 ∨ f = 7 ∨ f = 51 ∨ f = 52 ∨ f = 19:=by simpa using e
    intro args H r hr ρ im w vs hR hvs
    rcases hm with rfl | rfl | rfl | rfl | rfl | rfl | rfl | rfl | rfl | rfl
    · exact ja4 mixed hA bo21 rfl rfl hr hR hvs
    · exact ja4 mixed hA bo11 rfl rfl hr hR hvs
    · exact ja4 mixed hA bo10 rfl rfl hr hR hvs
    · exact ja4 mixed hA bo12 rfl rfl hr hR hvs
    · exact ja4 mixed hA bo5 rfl rfl hr hR hvs
    · exact ja4 mixed hA bo6 rfl rfl hr hR hvs
    · exact ja4 mixed hA bo7 rfl rfl hr hR hvs
    · exact ja4 mixed hA bo51 rfl rfl hr hR hvs
    · exact ja4 mixed hA bo52 rfl rfl hr hR hvs
    · exact ja4 mixed hA bo19 rfl rfl hr hR hvs
  · exact hA.ok f p h
end Go.Proofs.W
end
section
namespace Go.Proofs.W
open Go Vm Go.Proofs.Zso
theorem jkw {H : Heap} {p j : Nat} {cs : List D} {n : Int} (h : Cells H p cs) (hc : cs[j]? = some (.int .u32 n)) : EvF Tryz.prog Am 49 [.ptr p 0 j] H (fun d H'=>d = .bool (n != 0) /\ H' = H) (fun _ _=>False):=by
  refine jaj (n:=8) (rs:=[.tmp 2]) Tryz.func49 rfl rfl rfl rfl rfl rfl ?_
  repeat' (first | apply wz1|apply wz2|apply wz3|apply wz4|apply wz5|apply wz6 | simp -dsimp (maxSteps:=999999) (disch:=omega) only[go_sem,simprocAttr, *] | ((first | refine wz8 ?_ ?_|refine wz9 ?_ ?_|refine wz7 ?_ ?_)<;>intro hh <;> (try replace hh:=vqs hh) <;> (try (exfalso;first | exact hh | omega))))
  refine jbt (k:=.load .u32) (by kernel_rfl) rfl rfl (d:=.int .u32 n) (H':=H) (by simp [extD,jd6 h hc]) ?_
  repeat' (first | apply wz1|apply wz2|apply wz3|apply wz4|apply wz5|apply wz6 | simp -dsimp (maxSteps:=999999) (disch:=omega) only[go_sem,simprocAttr, *] | ((first | refine wz8 ?_ ?_|refine wz9 ?_ ?_|refine wz7 ?_ ?_)<;>intro hh <;> (try replace hh:=vqs hh) <;> (try (exfalso;first | exact hh | omega))))
theorem jxR : PureF Tryz.prog Am 84 [.bool true] (.int .u32 1):=jnL (k:=5) (by kernel_rfl)
theorem unUP : Tryz.prog.underlying 169 = some .unsafePointer:=by kernel_rfl
theorem jmL {H : Heap} {p j : Nat} {cs : List D} (h : Cells H p cs) (hj : j < cs.length) : convU Tryz.prog (some (.pointer 60)) (some .unsafePointer) (.ptr p 0 j) H = some (.ptr p 0 j,H):=js9 h hj sz60
attribute [go_sem] unUP
theorem jtl {H : Heap} {p j : Nat} {cs : List D} (h : Cells H p cs) (hc : cs[j]? = some (.int .i32 0)) : EvF Tryz.prog Am 81 [.ptr p 0 j] H (fun _ H'=>H' = H.set p (.arr [.agg (cs.set j (.int .i32 1))])) (fun _ _=>False):=by
  have hj : j < cs.length:=by
    rcases Nat.lt_or_ge j cs.length with h' | h'
    · exact h'
    · rw [List.getElem?_eq_none h'] at hc;cases hc
  have hu:=jmL (Cells.set (ds:=cs.set j (.int .i32 1)) h) (j:=j) (by simpa using hj)
  refine jaj (n:=13) (rs:=[]) Tryz.func81 rfl rfl rfl rfl rfl rfl ?_
  repeat' (first | apply wz1|apply wz2|apply wz3|apply wz4|apply wz5|apply wz6 | simp -dsimp (maxSteps:=999999) (disch:=omega) only[go_sem,simprocAttr, *] | ((first | refine wz8 ?_ ?_|refine wz9 ?_ ?_|refine wz7 ?_ ?_)<;>intro hh <;> (try replace hh:=vqs hh) <;> (try (exfalso;first | exact hh | omega))))
  refine jbt (k:=.mark0) (by kernel_rfl) rfl rfl (d:=.tup []) (H':=H) rfl ?_
  repeat' (first | apply wz1|apply wz2|apply wz3|apply wz4|apply wz5|apply wz6 | simp -dsimp (maxSteps:=999999) (disch:=omega) only[go_sem,simprocAttr, *] | ((first | refine wz8 ?_ ?_|refine wz9 ?_ ?_|refine wz7 ?_ ?_)<;>intro hh <;> (try replace hh:=vqs hh) <;> (try (exfalso;first | exact hh | omega))))
  refine jbt (k:=.cas .i32) (by kernel_rfl) rfl rfl (d:=.bool true) (H':=H.set p (.arr [.agg (cs.set j (.int .i32 1))])) (by simp [extD,jd6 h hc,jc8 h hj]) ?_
  repeat' (first | apply wz1|apply wz2|apply wz3|apply wz4|apply wz5|apply wz6 | simp -dsimp (maxSteps:=999999) (disch:=omega) only[go_sem,simprocAttr, *] | ((first | refine wz8 ?_ ?_|refine wz9 ?_ ?_|refine wz7 ?_ ?_)<;>intro hh <;> (try replace hh:=vqs hh) <;> (try (exfalso;first | exact hh | omega))))
  refine jbt (k:=.mark0) (by kernel_rfl) rfl rfl (d:=.tup []) (H':=_) rfl ?_
  repeat' (first | apply wz1|apply wz2|apply wz3|apply wz4|apply wz5|apply wz6 | simp -dsimp (maxSteps:=999999) (disch:=omega) only[go_sem,simprocAttr, *] | ((first | refine wz8 ?_ ?_|refine wz9 ?_ ?_|refine wz7 ?_ ?_)<;>intro hh <;> (try replace hh:=vqs hh) <;> (try (exfalso;first | exact hh | omega))))
  refine jbt (k:=.mark1) (by kernel_rfl) rfl rfl (d:=.tup []) (H':=_) rfl ?_
  repeat' (first | apply wz1|apply wz2|apply wz3|apply wz4|apply wz5|apply wz6 | simp -dsimp (maxSteps:=999999) (disch:=omega) only[go_sem,simprocAttr, *] | ((first | refine wz8 ?_ ?_|refine wz9 ?_ ?_|refine wz7 ?_ ?_)<;>intro hh <;> (try replace hh:=vqs hh) <;> (try (exfalso;first | exact hh | omega))))
theorem jwv {H : Heap} {p j : Nat} {cs : List D} (h : Cells H p cs) (hc : cs[j]? = some (.int .i32 0)) : EvF Tryz.prog Am 62 [.ptr p 0 j] H (fun _ H'=>H' = H.set p (.arr [.agg (cs.set j (.int .i32 1))])) (fun _ _=>False):=by
  refine jaj (n:=6) (rs:=[]) Tryz.func62 rfl rfl rfl rfl rfl rfl ?_
  repeat' (first | apply wz1|apply wz2|apply wz3|apply wz4|apply wz5|apply wz6 | simp -dsimp (maxSteps:=999999) (disch:=omega) only[go_sem,simprocAttr, *] | ((first | refine wz8 ?_ ?_|refine wz9 ?_ ?_|refine wz7 ?_ ?_)<;>intro hh <;> (try replace hh:=vqs hh) <;> (try (exfalso;first | exact hh | omega))))
  refine jag bo81 rfl rfl (jtl h hc) ?_ (fun _ _ h=>h.elim)
  rintro _ _ rfl
  repeat' (first | apply wz1|apply wz2|apply wz3|apply wz4|apply wz5|apply wz6 | simp -dsimp (maxSteps:=999999) (disch:=omega) only[go_sem,simprocAttr, *] | ((first | refine wz8 ?_ ?_|refine wz9 ?_ ?_|refine wz7 ?_ ?_)<;>intro hh <;> (try replace hh:=vqs hh) <;> (try (exfalso;first | exact hh | omega))))
theorem jom {H : Heap} {p j : Nat} {cs : List D} (h : Cells H p cs) (hc : cs[j]? = some (.int .i32 1)) : EvF Tryz.prog Am 82 [.ptr p 0 j] H (fun _ H'=>H' = H.set p (.arr [.agg (cs.set j (.int .i32 0))])) (fun _ _=>False):=by
  have hj : j < cs.length:=by
    rcases Nat.lt_or_ge j cs.length with h' | h'
    · exact h'
    · rw [List.getElem?_eq_none h'] at hc;cases hc
  have hu:=jmL h (j:=j) hj
  have hw0 : IntKind.i32.wrap 0 = 0:=by decide
  obtain ⟨h1,h2⟩:=h
  refine jaj (n:=21) (rs:=[]) Tryz.func82 rfl rfl rfl rfl rfl rfl ?_
  repeat' (first | apply wz1|apply wz2|apply wz3|apply wz4|apply wz5|apply wz6 | simp -dsimp (maxSteps:=999999) (disch:=omega) only[go_sem,simprocAttr, *] | ((first | refine wz8 ?_ ?_|refine wz9 ?_ ?_|refine wz7 ?_ ?_)<;>intro hh <;> (try replace hh:=vqs hh) <;> (try (exfalso;first | exact hh | omega))))
  refine jbt (k:=.mark1) (by kernel_rfl) rfl rfl (d:=.tup []) (H':=H) rfl ?_
  repeat' (first | apply wz1|apply wz2|apply wz3|apply wz4|apply wz5|apply wz6 | simp -dsimp (maxSteps:=999999) (disch:=omega) only[go_sem,simprocAttr, *] | ((first | refine wz8 ?_ ?_|refine wz9 ?_ ?_|refine wz7 ?_ ?_)<;>intro hh <;> (try replace hh:=vqs hh) <;> (try (exfalso;first | exact hh | omega))))
  refine jbt (k:=.mark0) (by kernel_rfl) rfl rfl (d:=.tup []) (H':=H) rfl ?_
  repeat' (first | apply wz1|apply wz2|apply wz3|apply wz4|apply wz5|apply wz6 | simp -dsimp (maxSteps:=999999) (disch:=omega) only[go_sem,simprocAttr, *] | ((first | refine wz8 ?_ ?_|refine wz9 ?_ ?_|refine wz7 ?_ ?_)<;>intro hh <;> (try replace hh:=vqs hh) <;> (try (exfalso;first | exact hh | omega))))
  refine jbt (k:=.add .i32) (by kernel_rfl) rfl rfl (d:=.int .i32 0) (H':=H.set p (.arr [.agg (cs.set j (.int .i32 0))])) (by simp [extD,jd6 ⟨h1,h2⟩ hc,jc8 ⟨h1,h2⟩ hj,hw0]) ?_
  repeat' (first | apply wz1|apply wz2|apply wz3|apply wz4|apply wz5|apply wz6 | simp -dsimp (maxSteps:=999999) (disch:=omega) only[go_sem,simprocAttr, *] | ((first | refine wz8 ?_ ?_|refine wz9 ?_ ?_|refine wz7 ?_ ?_)<;>intro hh <;> (try replace hh:=vqs hh) <;> (try (exfalso;first | exact hh | omega))))
  refine jbt (k:=.mark0) (by kernel_rfl) rfl rfl (d:=.tup []) (H':=_) rfl ?_
  repeat' (first | apply wz1|apply wz2|apply wz3|apply wz4|apply wz5|apply wz6 | simp -dsimp (maxSteps:=999999) (disch:=omega) only[go_sem,simprocAttr, *] | ((first | refine wz8 ?_ ?_|refine wz9 ?_ ?_|refine wz7 ?_ ?_)<;>intro hh <;> (try replace hh:=vqs hh) <;> (try (exfalso;first | exact hh | omega))))
theorem jwu {H : Heap} {p j : Nat} {cs : List D} {n m : Int} (h : Cells H p cs) (hc : cs[j]? = some (.int .i64 n)) (h0 : 0 <= n + m) (h1 : n + m <= 1000000000) : EvF Tryz.prog Am 22 [.ptr p 0 j,.int .i64 m] H (fun _ H'=>H' = H.set p (.arr [.agg (cs.set j (.int .i64 (n + m)))])) (fun _ _=>False):=by
  have hj : j < cs.length:=by
    rcases Nat.lt_or_ge j cs.length with h' | h'
    · exact h'
    · rw [List.getElem?_eq_none h'] at hc;cases hc
  have hw : IntKind.i64.wrap (n + m) = n + m:=wi64 (by omega) (by omega)
  refine jaj (n:=10) (rs:=[.tmp 4]) Tryz.func22 rfl rfl rfl rfl rfl rfl ?_
  repeat' (first | apply wz1|apply wz2|apply wz3|apply wz4|apply wz5|apply wz6 | simp -dsimp (maxSteps:=999999) (disch:=omega) only[go_sem,simprocAttr, *] | ((first | refine wz8 ?_ ?_|refine wz9 ?_ ?_|refine wz7 ?_ ?_)<;>intro hh <;> (try replace hh:=vqs hh) <;> (try (exfalso;first | exact hh | omega))))
  refine jbt (k:=.add .i64) (by kernel_rfl) rfl rfl (d:=.int .i64 (n + m)) (H':=H.set p (.arr [.agg (cs.set j (.int .i64 (n + m)))])) (by simp [extD,jd6 h hc,hw,jc8 h hj]) ?_
  repeat' (first | apply wz1|apply wz2|apply wz3|apply wz4|apply wz5|apply wz6 | simp -dsimp (maxSteps:=999999) (disch:=omega) only[go_sem,simprocAttr, *] | ((first | refine wz8 ?_ ?_|refine wz9 ?_ ?_|refine wz7 ?_ ?_)<;>intro hh <;> (try replace hh:=vqs hh) <;> (try (exfalso;first | exact hh | omega))))
def OnceQ (p j : Nat) (Q : Heap -> List D -> Prop) (H' : Heap) : Prop:=∃ H2 ds,Cells H2 p ds /\ j + 1 < ds.length /\ Q H2 ds /\ H' = H2.set p (.arr [.agg ((ds.set j (.int .u32 1)).set (j + 1) (.int .i32 0))])
theorem jrm {H : Heap} {p j : Nat} {cs ag : List D} {g : FuncId} {F : D} {Q : Heap -> List D -> Prop} (h : Cells H p cs) (hc : cs[j]? = some (.int .u32 0)) (hc1 : cs[j + 1]? = some (.int .i32 0)) (hF : F = .fn g ag ∨ F = .bfn g ag)
    (hf : EvB Tryz.prog Am g ag (H.set p (.arr [.agg (cs.set (j + 1) (.int .i32 1))])) (fun _ H2=>∃ ds,Cells H2 p ds /\ ds[j + 1]? = some (.int .i32 1) /\ Q H2 ds) (fun _ _=>False)) : EvF Tryz.prog Am 50 [.ptr p 0 j,F] H (fun _ H'=>OnceQ p j Q H') (fun _ _=>False):=by
  have hb1:=bo63
  have hb2:=bo64
  have hk1 : Cells (H.set p (.arr [.agg (cs.set (j + 1) (.int .i32 1))])) p (cs.set (j + 1) (.int .i32 1)):=h.set
  have hk2 : (cs.set (j + 1) (.int .i32 1))[j]? = some (.int .u32 0):=by rw [List.getElem?_set_ne (by omega)];exact hc
  have hz : ((0 : Int) != 0) = false:=by decide
  rcases hF with rfl | rfl
  all_goals
    refine jng (n:=21) (rs:=[]) Tryz.func50 rfl rfl rfl rfl rfl ?_
    repeat' (first | apply wz1|apply wz2|apply wz3|apply wz4|apply wz5|apply wz6 | simp -dsimp (maxSteps:=999999) (disch:=omega) only[go_sem,simprocAttr, *] | ((first | refine wz8 ?_ ?_|refine wz9 ?_ ?_|refine wz7 ?_ ?_)<;>intro hh <;> (try replace hh:=vqs hh) <;> (try (exfalso;first | exact hh | omega))))
    refine jag bo62 rfl rfl (jwv h hc1) ?_ (fun _ _ h=>h.elim)
    rintro _ _ rfl
    repeat' (first | apply wz1|apply wz2|apply wz3|apply wz4|apply wz5|apply wz6 | simp -dsimp (maxSteps:=999999) (disch:=omega) only[go_sem,simprocAttr, *] | ((first | refine wz8 ?_ ?_|refine wz9 ?_ ?_|refine wz7 ?_ ?_)<;>intro hh <;> (try replace hh:=vqs hh) <;> (try (exfalso;first | exact hh | omega))))
    refine jag bo49 rfl rfl (jkw hk1 hk2) ?_ (fun _ _ h=>h.elim)
    rintro _ _ ⟨rfl,rfl⟩
    repeat' (first | apply wz1|apply wz2|apply wz3|apply wz4|apply wz5|apply wz6 | simp -dsimp (maxSteps:=999999) (disch:=omega) only[go_sem,simprocAttr, *] | ((first | refine wz8 ?_ ?_|refine wz9 ?_ ?_|refine wz7 ?_ ?_)<;>intro hh <;> (try replace hh:=vqs hh) <;> (try (exfalso;first | exact hh | omega))))
    refine jvl hf ?_ (fun _ _ h=>h.elim)
    rintro d H2 ⟨ds,k1,k2,k3⟩
    have hj1 : j + 1 < ds.length:=by
      rcases Nat.lt_or_ge (j + 1) ds.length with h' | h'
      · exact h'
      · rw [List.getElem?_eq_none h'] at k2;cases k2
    have k4 : Cells (H2.set p (.arr [.agg (ds.set j (.int .u32 1))])) p (ds.set j (.int .u32 1)):=k1.set
    have k5 : (ds.set j (.int .u32 1))[j + 1]? = some (.int .i32 1):=by rw [List.getElem?_set_ne (by omega)];exact k2
    repeat' (first | apply wz1|apply wz2|apply wz3|apply wz4|apply wz5|apply wz6 | simp -dsimp (maxSteps:=999999) (disch:=omega) only[go_sem,simprocAttr, *] | ((first | refine wz8 ?_ ?_|refine wz9 ?_ ?_|refine wz7 ?_ ?_)<;>intro hh <;> (try replace hh:=vqs hh) <;> (try (exfalso;first | exact hh | omega))))
    refine jlL rfl ?_
    refine jkX (n:=10) Tryz.func64 rfl rfl rfl rfl rfl (Vm.wpS_calm rfl ?_)
    repeat' (first | apply wz1|apply wz2|apply wz3|apply wz4|apply wz5|apply wz6 | simp -dsimp (maxSteps:=999999) (disch:=omega) only[go_sem,simprocAttr, *] | ((first | refine wz8 ?_ ?_|refine wz9 ?_ ?_|refine wz7 ?_ ?_)<;>intro hh <;> (try replace hh:=vqs hh) <;> (try (exfalso;first | exact hh | omega))))
    refine jao (prs:=[]) (by kernel_rfl) rfl (by kernel_rfl) ?_;simp -dsimp (maxSteps:=999999) (disch:=omega) only[go_sem,simprocAttr, *]
    refine ⟨fun _=>rfl,jal bo84 rfl rfl rfl jxR ?_⟩
    simp -dsimp (maxSteps:=999999) (disch:=omega) only[go_sem,simprocAttr, *]
    refine ⟨fun h=>absurd h (by decide),jbt (k:=.store) (by kernel_rfl) rfl rfl (d:=.tup []) (H':=H2.set p (.arr [.agg (ds.set j (.int .u32 1))])) (by simp [extD,jc8 k1 (Nat.lt_of_succ_lt hj1)]) ?_⟩
    repeat' (first | apply wz1|apply wz2|apply wz3|apply wz4|apply wz5|apply wz6 | simp -dsimp (maxSteps:=999999) (disch:=omega) only[go_sem,simprocAttr, *] | ((first | refine wz8 ?_ ?_|refine wz9 ?_ ?_|refine wz7 ?_ ?_)<;>intro hh <;> (try replace hh:=vqs hh) <;> (try (exfalso;first | exact hh | omega))))
    refine jkX (n:=6) Tryz.func63 rfl rfl rfl rfl rfl (Vm.wpS_calm rfl ?_)
    repeat' (first | apply wz1|apply wz2|apply wz3|apply wz4|apply wz5|apply wz6 | simp -dsimp (maxSteps:=999999) (disch:=omega) only[go_sem,simprocAttr, *] | ((first | refine wz8 ?_ ?_|refine wz9 ?_ ?_|refine wz7 ?_ ?_)<;>intro hh <;> (try replace hh:=vqs hh) <;> (try (exfalso;first | exact hh | omega))))
    refine jag bo82 rfl rfl (jom k4 k5) ?_ (fun _ _ h=>h.elim)
    rintro _ _ rfl
    repeat' (first | apply wz1|apply wz2|apply wz3|apply wz4|apply wz5|apply wz6 | simp -dsimp (maxSteps:=999999) (disch:=omega) only[go_sem,simprocAttr, *] | ((first | refine wz8 ?_ ?_|refine wz9 ?_ ?_|refine wz7 ?_ ?_)<;>intro hh <;> (try replace hh:=vqs hh) <;> (try (exfalso;first | exact hh | omega))))
    refine jwn (ds:=[]) rfl ⟨H2,ds,k1,hj1,k3,?_⟩
    rw [List.set_set]
theorem jue {H : Heap} {p j : Nat} {cs ag : List D} {g : FuncId} {F : D} {Q : Heap -> List D -> Prop} (h : Cells H p cs) (hc : cs[j]? = some (.int .u32 0)) (hc1 : cs[j + 1]? = some (.int .i32 0)) (hF : F = .fn g ag ∨ F = .bfn g ag)
    (hf : EvB Tryz.prog Am g ag (H.set p (.arr [.agg (cs.set (j + 1) (.int .i32 1))])) (fun _ H2=>∃ ds,Cells H2 p ds /\ ds[j + 1]? = some (.int .i32 1) /\ Q H2 ds) (fun _ _=>False)) : EvF Tryz.prog Am 32 [.ptr p 0 j,F] H (fun _ H'=>OnceQ p j Q H') (fun _ _=>False):=by
  have hz : ((0 : Int) != 0) = false:=by decide
  refine jaj (n:=12) (rs:=[]) Tryz.func32 rfl rfl rfl rfl rfl rfl ?_
  repeat' (first | apply wz1|apply wz2|apply wz3|apply wz4|apply wz5|apply wz6 | simp -dsimp (maxSteps:=999999) (disch:=omega) only[go_sem,simprocAttr, *] | ((first | refine wz8 ?_ ?_|refine wz9 ?_ ?_|refine wz7 ?_ ?_)<;>intro hh <;> (try replace hh:=vqs hh) <;> (try (exfalso;first | exact hh | omega))))
  refine jag bo49 rfl rfl (jkw h hc) ?_ (fun _ _ h=>h.elim)
  rintro _ _ ⟨rfl,rfl⟩
  repeat' (first | apply wz1|apply wz2|apply wz3|apply wz4|apply wz5|apply wz6 | simp -dsimp (maxSteps:=999999) (disch:=omega) only[go_sem,simprocAttr, *] | ((first | refine wz8 ?_ ?_|refine wz9 ?_ ?_|refine wz7 ?_ ?_)<;>intro hh <;> (try replace hh:=vqs hh) <;> (try (exfalso;first | exact hh | omega))))
  refine jag bo50 rfl rfl (jrm h hc hc1 hF hf) ?_ (fun _ _ h=>h.elim)
  intro d H' hq
  repeat' (first | apply wz1|apply wz2|apply wz3|apply wz4|apply wz5|apply wz6 | simp -dsimp (maxSteps:=999999) (disch:=omega) only[go_sem,simprocAttr, *] | ((first | refine wz8 ?_ ?_|refine wz9 ?_ ?_|refine wz7 ?_ ?_)<;>intro hh <;> (try replace hh:=vqs hh) <;> (try (exfalso;first | exact hh | omega))))
end Go.Proofs.W
end
section
namespace Go.Proofs.W
open Go Vm Go.Proofs.Zso
structure Pc where
  f : Int
  t : Int
  r : Int
def pcD (p : Pc) : D:=.agg [.int .i64 p.f,.int .i64 p.t,.int .i64 p.r]
def pcsD (l : List Pc) : D:=.sl false (l.map pcD)
theorem jkQ (p : Pc) : strip (pcD p) = some (pcD p):=rfl
theorem jdv (l : List Pc) : stripL (l.map pcD) = some (l.map pcD):=by
  induction l with
  | nil=>rfl
  | cons q r ih=>simp [stripL,ih,jkQ]
theorem jeq (l : List Pc) : strip (pcsD l) = some (pcsD l):=by simp [pcsD,strip,jdv]
theorem jwt (l : List Pc) : headSize 3 (l.map pcD) = true:=by cases l <;> rfl
theorem jjJ {m : Nat} {d : D} {H : Heap} {l : List Pc} (h : VecAt m d H (l.map pcD)) (x : Pc) (hl : l.length <= 1000000) : ∃ d' H',appendD Tryz.prog 29 (H ++ [Ob.arr [.agg [.int .i64 x.f,.int .i64 x.t,.int .i64 x.r]]]) d (.vec H.length 0 1) = some (d',H') /\ VecAt m d' H' ((l ++ [x]).map pcD) /\ Same m H H':=by
  have:=VecAt.append el29 sz40 by40 zr40 rfl (by decide) h (q:=pcD x) rfl rfl (jwt l) (by simp;omega)
  simp only [List.map_append,List.map_cons,List.map_nil]
  exact this
theorem jqt {l : List Pc} {i : Nat} (h : i < l.length) : (l.map pcD)[i]? = some (.agg [.int .i64 l[i].f,.int .i64 l[i].t,.int .i64 l[i].r]):=by simp [h,pcD]
def cutL (d : Dfa) (w : List Int) : Nat -> Int -> List Pc
  | 0,_=>[]
  | n + 1,a=>if a < w.length then ⟨a,if (longD d w a).1 < 0 then a + 1 else (longD d w a).1,(longD d w a).2⟩ :: cutL d w n (if (longD d w a).1 < 0 then a + 1 else (longD d w a).1) else []
theorem jjX (d : Dfa) : ∀ (w : List Int) (a p : Int) (er : Int × Int),lgD d a p w er = er ∨ (p < (lgD d a p w er).1 /\ (lgD d a p w er).1 <= p + w.length /\ 0 <= (lgD d a p w er).2)
  | [],a,p,er=>.inl rfl
  | c :: w,a,p,er=>by
    rw [lgD]
    split
    · exact .inl rfl
    · rcases jjX d w (nextD d a c) (p + 1) (if 0 <= ruleAt d (nextD d a c) then (p + 1,ruleAt d (nextD d a c)) else er) with h | ⟨h1,h2,h3⟩
      · rw [h]
        split
        · refine .inr ⟨by simp;omega,by simp only [List.length_cons];omega,by assumption⟩
        · exact .inl rfl
      · exact .inr ⟨by omega,by simp only [List.length_cons];omega,h3⟩
theorem jee (d : Dfa) (w : List Int) (f : Int) (h0 : 0 <= f) (h1 : f <= w.length) : ((longD d w f).1 = -1 /\ (longD d w f).2 = -1) ∨ (f < (longD d w f).1 /\ (longD d w f).1 <= w.length):=by
  unfold longD
  split
  · rcases jjX d (w.drop f.toNat) 0 f (-1,-1) with h | ⟨h2,h3,_⟩
    · rw [h];exact .inl ⟨rfl,rfl⟩
    · rw [List.length_drop] at h3
      exact .inr ⟨h2,by omega⟩
  · exact .inl ⟨rfl,rfl⟩
theorem jvs (d : Dfa) (w : List Int) (ht : tyM d) (hs : d.next.length <= 1000000) (hs2 : d.rule.length <= 9223372036854775807) (hw : w.length <= 100000) : PureF Tryz.prog A 21 [dfaD d,isD w] (pcsD (if rightD d then cutL d w w.length 0 else [])):=by
  have a1:=jaS d
  have a2:=jaT d
  have a3:=ja5 d
  have ew : isD w = .sl false (w.map (.int .i64)):=rfl
  refine jaj (n:=36) (rs:=[.tmp 4]) Tryz.func21 rfl rfl rfl rfl rfl rfl ?_
  repeat' (first | apply wz1|apply wz2|apply wz3|apply wz4|apply wz5|apply wz6 | simp -dsimp (maxSteps:=999999) (disch:=omega) only[go_sem,simprocAttr, *] | ((first | refine wz8 ?_ ?_|refine wz9 ?_ ?_|refine wz7 ?_ ?_)<;>intro hh <;> (try replace hh:=vqs hh) <;> (try (exfalso;first | exact hh | omega))))
  refine jal bo36 rfl rfl (jdq d) (jdz d ht hs hs2) ?_
  cases hr : rightD d with
  | false=>
    repeat' (first | apply wz1|apply wz2|apply wz3|apply wz4|apply wz5|apply wz6 | simp -dsimp (maxSteps:=999999) (disch:=omega) only[go_sem,simprocAttr, *,pcsD] | ((first | refine wz8 (fun hh=>?_) (fun hh=>?_) | refine wz9 (fun hh=>?_) (fun hh=>?_) | refine jak (by simp -dsimp (maxSteps:=999999) (disch:=omega) only[go_sem,simprocAttr, *,pcsD];exact rfl) (fun hh=>?_) (fun hh=>?_)) <;> (try replace hh:=vqs hh) <;> (try (exfalso;first | exact hh | omega))))
    rfl
  | true=>
    have hl:=jaA hr
    rw [if_pos rfl]
    generalize hG : cutL d w w.length 0 = G
    replace hG : Hid (G = [] ++ cutL d w w.length 0):=hG.symm
    repeat' (first | apply wz1|apply wz2|apply wz3|apply wz4|apply wz5|apply wz6 | simp -dsimp (maxSteps:=999999) (disch:=omega) only[go_sem,simprocAttr, *] | ((first | refine wz8 ?_ ?_|refine wz9 ?_ ?_|refine wz7 ?_ ?_)<;>intro hh <;> (try replace hh:=vqs hh) <;> (try (exfalso;first | exact hh | omega))))
    refine jae (fun e H=>∃ (n : Nat) (a : Int) (out : List Pc),0 <= a /\ a <= w.length /\ w.length <= a + n /\ out.length <= a /\ hget H 0 = .arr [dfaD d] /\ e 1 = isD w /\ e 2 = .ptr 0 0 0 /\ VecAt 1 (e 5) H (out.map pcD) /\ e 6 = .int .i64 a /\ G = out ++ cutL d w n a) (fun e H=>w.length - natOf (e 6)) ?_ ?_
    · exact ⟨w.length,0,[],by omega,by omega,by omega,by simp,rfl,gs,gs,VecAt.nil (by simp),gs,hG⟩
    clear hG
    rintro e H ⟨n,a,out,ha0,ha1,hn,ho,h0,e1,e2,hv,e6,hG⟩ R hR
    by_cases hb : a < w.length
    case neg=>
      have hz : cutL d w n a = []:=by cases n <;> simp [cutL,hb]
      rw [hz,List.append_nil] at hG
      subst hG
      repeat' (first | apply wz1|apply wz2|apply wz3|apply wz4|apply wz5|apply wz6 | simp -dsimp (maxSteps:=999999) (disch:=omega) only[go_sem,simprocAttr, *] | ((first | refine wz8 ?_ ?_|refine wz9 ?_ ?_|refine wz7 ?_ ?_)<;>intro hh <;> (try replace hh:=vqs hh) <;> (try (exfalso;first | exact hh | omega))))
      exact hv.out (jdv _)
    obtain ⟨n,rfl⟩ : ∃ x,n = x + 1:=⟨n - 1,by omega⟩
    rw [cutL,if_pos hb] at hG
    have hlo:=jsX d w a ht hs hs2 (by omega)
    have hlc:=jee d w a ha0 ha1
    generalize longD d w a = x at hlo hlc hG
    obtain ⟨x,y⟩:=x
    simp only at hlc hG
    replace hG : Hid (G = out ++ (⟨a,if x < 0 then a + 1 else x,y⟩ :: cutL d w n (if x < 0 then a + 1 else x))):=hG
    have hst:=jtB d w a
    repeat' (first | apply wz1|apply wz2|apply wz3|apply wz4|apply wz5|apply wz6 | simp -dsimp (maxSteps:=999999) (disch:=omega) only[go_sem,simprocAttr, *] | ((first | refine wz8 ?_ ?_|refine wz9 ?_ ?_|refine wz7 ?_ ?_)<;>intro hh <;> (try replace hh:=vqs hh) <;> (try (exfalso;first | exact hh | omega))))
    refine jal bo37 rfl rfl hst hlo ?_
    by_cases hx : x < 0
    · unfold Hid at hG
      rw [if_pos hx] at hG
      obtain ⟨d',H',hap,hv',hsm⟩:=jjJ hv ⟨a,a + 1,y⟩ (by omega)
      have h0':=hsm.2 0 (by omega)
      rw [h0] at h0'
      replace hG : Hid (G = out ++ (⟨a,a + 1,y⟩ :: cutL d w n (a + 1))):=hG
      repeat' (first | apply wz1|apply wz2|apply wz3|apply wz4|apply wz5|apply wz6 | simp -dsimp (maxSteps:=999999) (disch:=omega) only[go_sem,simprocAttr, *,pairD] | ((first | refine wz8 (fun hh=>?_) (fun hh=>?_) | refine wz9 (fun hh=>?_) (fun hh=>?_) | refine jak (by simp -dsimp (maxSteps:=999999) (disch:=omega) only[go_sem,simprocAttr, *,pairD];exact rfl) (fun hh=>?_) (fun hh=>?_)) <;> (try replace hh:=vqs hh) <;> (try (exfalso;first | exact hh | omega))))
      refine hR _ _ ⟨n,a + 1,out ++ [⟨a,a + 1,y⟩],by omega,by omega,by omega,by simp;omega,h0',gs,gs,?_,gs,?_⟩ ?_
      · show VecAt 1 d' H' _
        exact hv'
      · rw [show G = _ from hG];simp
      · simp -dsimp (maxSteps:=999999) (disch:=omega) only[go_sem,simprocAttr, *,jab]
    · unfold Hid at hG
      rw [if_neg hx] at hG
      obtain ⟨d',H',hap,hv',hsm⟩:=jjJ hv ⟨a,x,y⟩ (by omega)
      have h0':=hsm.2 0 (by omega)
      rw [h0] at h0'
      replace hG : Hid (G = out ++ (⟨a,x,y⟩ :: cutL d w n x)):=hG
      have hx1 : a < x:=by omega
      have hx2 : x <= w.length:=by omega
      clear hlc
      repeat' (first | apply wz1|apply wz2|apply wz3|apply wz4|apply wz5|apply wz6 | simp -dsimp (maxSteps:=999999) (disch:=omega) only[go_sem,simprocAttr, *,pairD] | ((first | refine wz8 (fun hh=>?_) (fun hh=>?_) | refine wz9 (fun hh=>?_) (fun hh=>?_) | refine jak (by simp -dsimp (maxSteps:=999999) (disch:=omega) only[go_sem,simprocAttr, *,pairD];exact rfl) (fun hh=>?_) (fun hh=>?_)) <;> (try replace hh:=vqs hh) <;> (try (exfalso;first | exact hh | omega))))
      refine hR _ _ ⟨n,x,out ++ [⟨a,x,y⟩],by omega,by omega,by omega,by simp;omega,h0',gs,gs,?_,gs,?_⟩ ?_
      · show VecAt 1 d' H' _
        exact hv'
      · rw [show G = _ from hG];simp
      · simp -dsimp (maxSteps:=999999) (disch:=omega) only[go_sem,simprocAttr, *,jab]
end Go.Proofs.W
end
section
namespace Go.Proofs.W
open Go Vm Go.Proofs.Zso
theorem zrDfa : zeroT Tryz.prog 67 = some (.agg [.sl true [],.sl true []]):=by kernel_rfl
theorem bdDfa (ps : List (Nat × D)) : buildD Tryz.prog 67 ps = (fillD (fun i=>([(0,1),(1,1)] : List (Nat × Nat))[i]?) (D.cells (.agg [.sl true [],.sl true []])) ps).map .agg:=by kernel_rfl
attribute [go_sem] zrDfa bdDfa
end Go.Proofs.W
end
section
namespace Go.Proofs.W
open Go Vm Go.Proofs.Zso
def Kp1 (p : Nat) (H H' : Heap) : Prop:=H.length <= H'.length /\ ∀ k,k < H.length -> k ≠ p -> hget H' k = hget H k
theorem Kp1.refl {p : Nat} {H : Heap} : Kp1 p H H:=⟨Nat.le_refl _,fun _ _ _=>rfl⟩
theorem Kp1.trans {p : Nat} {H H' H'' : Heap} (h : Kp1 p H H') (g : Kp1 p H' H'') : Kp1 p H H'':=⟨Nat.le_trans h.1 g.1,fun k hk hp=>by rw [g.2 k (Nat.lt_of_lt_of_le hk h.1) hp,h.2 k hk hp]⟩
theorem Kp1.set {p : Nat} {H : Heap} {o : Ob} : Kp1 p H (H.set p o):=⟨by simp,fun k _ hp=>jaa (by omega)⟩
theorem Kp1.app {p : Nat} {H L : Heap} : Kp1 p H (H ++ L):=⟨by simp,fun k hk _=>jac hk⟩
theorem Kp1.same {p : Nat} {H H' : Heap} (h : Same H.length H H') : Kp1 p H H':=⟨h.1,fun k hk _=>h.2 k hk⟩
def scC (rs : D) (dn st : Int) (nx rl : D) (e c : Int) : List D:=[rs,.int .u32 dn,.int .i32 st,.int .u32 0,nx,rl,.int .i64 e,.int .i64 c]
theorem jnW {k q : Nat} {H : Heap} {xs ys : List D} (h : hget H q = .arr xs) (hs : stripL xs = some ys) : pur (k + 2) H (.vec q 0 xs.length) = some (.sl false ys,H.set q (.fro xs)):=by
  rw [jdZ,h]
  simp only [Nat.zero_add,Nat.le_refl,if_true,List.drop_zero,List.take_length]
  rw [jbd hs];rfl
theorem jnk {m : Nat} {v : D} {H : Heap} {xs : List D} (h : VecAt m v H xs) (hs : stripL xs = some xs) : ∃ H',pures H [v] = some ([.sl false xs],H') /\ Same m H H':=by
  obtain ⟨h0,⟨rfl,rfl⟩ | ⟨h1,r,h2,h3,rfl,h4⟩⟩:=h
  · exact ⟨H,jaz (by simp [stripL,strip]),Same.refl⟩
  · refine ⟨H.set r (.fro xs),?_,Same.set h2⟩
    simp only [pures,deepest,purL]
    rw [show (6 : Nat) = 4 + 2 from rfl,jnW h4 hs]
    rfl
attribute [go_sem] jfB
theorem jxx (l : List Rx) : headSize 3 (l.map rxD) = true:=by cases l with
  | nil=>rfl
  | cons a l=>simp [headSize,jbf]
theorem jpb (l : List Rx) : stripL (l.map rxD) = some (l.map rxD):=by rw [<- jcI];exact jcR l
theorem jxi {m : Nat} {d : D} {H : Heap} {l : List Rx} (h : VecAt m d H (l.map rxD)) (x : Rx) (hl : l.length <= 100000) : ∃ d' H',appendD Tryz.prog 44 (H ++ [Ob.arr [rxD x]]) d (.vec H.length 0 1) = some (d',H') /\ VecAt m d' H' ((l ++ [x]).map rxD) /\ Same m H H':=by
  have:=VecAt.append el44 sz46 by46 zr46 rfl (by decide) h (q:=rxD x) (jbf x) (jaW x) (jxx l) (by simp;omega)
  simpa using this
theorem jsZ {l : List Rule} {d m : Dfa} {e : Int} (hl : l.length <= 1000) (hB : ∀ (H H' : Heap) (v : D) (K Kp : D -> Heap -> Prop),pures H [v] = some ([.sl false ((l.map Rule.rx).map rxD)],H') -> PP (K (.tup [dfaD d,.int .i64 e]) H') -> EvB Tryz.prog Am 51 [v] H K Kp)
    (hS : e = 0 -> ∀ (H : Heap) (K Kp : D -> Heap -> Prop),PP (K (dfaD m) H) -> EvB Tryz.prog Am 52 [dfaD d] H K Kp) {H : Heap} {p : Nat} {dn st e0 c : Int} {nx rl : D} (h : Cells H p (scC (rulesD l) dn st nx rl e0 c)) :
    EvF Tryz.prog Am 33 [.ptr p 0 0] H (fun _ H'=>Cells H' p (if e = 0 then scC (rulesD l) dn st (rowsD m.next) (isD m.rule) 0 c else scC (rulesD l) dn st nx rl e c) /\ Kp1 p H H') (fun _ _=>False):=by
  have a1:=jaS d
  have a2:=jaT d
  have a3:=ja5 d
  have b1:=jaS m
  have b2:=jaT m
  have b3:=ja5 m
  obtain ⟨h1,h2⟩:=h
  refine jaj (n:=38) (rs:=[]) Tryz.func33 rfl rfl rfl rfl rfl rfl ?_
  repeat' (first | apply wz1|apply wz2|apply wz3|apply wz4|apply wz5|apply wz6 | simp -dsimp (maxSteps:=999999) (disch:=omega) only[go_sem,simprocAttr, *,scC,rulesD] | ((first | refine wz8 (fun hh=>?_) (fun hh=>?_) | refine wz9 (fun hh=>?_) (fun hh=>?_) | refine jak (by simp -dsimp (maxSteps:=999999) (disch:=omega) only[go_sem,simprocAttr, *,scC,rulesD];exact rfl) (fun hh=>?_) (fun hh=>?_)) <;> (try replace hh:=vqs hh) <;> (try (exfalso;first | exact hh | omega))))
  refine jae (fun e Hx=>∃ (j : Nat),j <= l.length /\ Same H.length H Hx /\ e 0 = .ptr p 0 0 /\ VecAt H.length (e 2) Hx (((l.take j).map Rule.rx).map rxD) /\ e 10 = .sl false (l.map ruleD) /\ e 11 = .int .i64 l.length /\ e 12 = .int .i64 j) (fun e H=>l.length - natOf (e 12)) ?_ ?_
  · exact ⟨0,by omega,Same.refl,gs,VecAt.nil (by simp),gs,gs,gs⟩
  rintro f Hx ⟨j,hj,hsm,e0',e2,e10,e11,e12⟩ R hR
  by_cases hb : j < l.length
  case neg=>
    rw [List.take_of_length_le (by omega)] at e2
    obtain ⟨H2,hp1,hp2⟩:=jnk e2 (jpb _)
    have k1 : hget H2 p = .arr [.agg (scC (rulesD l) dn st nx rl e0 c)]:=by rw [(hsm.trans hp2).2 p h2,h1]
    have k2 : p < H2.length:=Nat.lt_of_lt_of_le h2 (hsm.trans hp2).1
    have k3 : Kp1 p H H2:=Kp1.same (hsm.trans hp2)
    have hB':=hB Hx H2 (f 2)
    clear hsm hp2 hB e2 h1 h2 hR
    repeat' (first | apply wz1|apply wz2|apply wz3|apply wz4|apply wz5|apply wz6 | simp -dsimp (maxSteps:=999999) (disch:=omega) only[go_sem,simprocAttr, *] | ((first | refine wz8 ?_ ?_|refine wz9 ?_ ?_|refine wz7 ?_ ?_)<;>intro hh <;> (try replace hh:=vqs hh) <;> (try (exfalso;first | exact hh | omega))))
    refine hB' _ _ hp1 ?_
    have hst : ∀ o X,hget ((H2 ++ [X]).set p o) p = o:=fun o X=>jad (by simp;omega)
    have fin : ∀ o X,Cells ((H2 ++ [X]).set p (.arr [.agg o])) p o /\ Kp1 p H ((H2 ++ [X]).set p (.arr [.agg o])):=fun o X=>⟨⟨jad (by simp;omega),by simp;omega⟩,k3.trans (Kp1.app.trans Kp1.set)⟩
    by_cases he : e = 0
    · subst he
      have hS':=hS rfl
      clear hS
      repeat' (first | apply wz1|apply wz2|apply wz3|apply wz4|apply wz5|apply wz6 | simp -dsimp (maxSteps:=999999) (disch:=omega) only[go_sem,simprocAttr, *,scC] | ((first | refine wz8 (fun hh=>?_) (fun hh=>?_) | refine wz9 (fun hh=>?_) (fun hh=>?_) | refine jak (by simp -dsimp (maxSteps:=999999) (disch:=omega) only[go_sem,simprocAttr, *,scC];exact rfl) (fun hh=>?_) (fun hh=>?_)) <;> (try replace hh:=vqs hh) <;> (try (exfalso;first | exact hh | omega))))
      refine hS' _ _ _ ?_
      repeat' (first | apply wz1|apply wz2|apply wz3|apply wz4|apply wz5|apply wz6 | simp -dsimp (maxSteps:=999999) (disch:=omega) only[go_sem,simprocAttr, *,scC] | ((first | refine wz8 (fun hh=>?_) (fun hh=>?_) | refine wz9 (fun hh=>?_) (fun hh=>?_) | refine jak (by simp -dsimp (maxSteps:=999999) (disch:=omega) only[go_sem,simprocAttr, *,scC];exact rfl) (fun hh=>?_) (fun hh=>?_)) <;> (try replace hh:=vqs hh) <;> (try (exfalso;first | exact hh | omega))))
      rw [List.set_set]
      exact fin _ _
    · repeat' (first | apply wz1|apply wz2|apply wz3|apply wz4|apply wz5|apply wz6 | simp -dsimp (maxSteps:=999999) (disch:=omega) only[go_sem,simprocAttr, *,scC] | ((first | refine wz8 (fun hh=>?_) (fun hh=>?_) | refine wz9 (fun hh=>?_) (fun hh=>?_) | refine jak (by simp -dsimp (maxSteps:=999999) (disch:=omega) only[go_sem,simprocAttr, *,scC];exact rfl) (fun hh=>?_) (fun hh=>?_)) <;> (try replace hh:=vqs hh) <;> (try (exfalso;first | exact hh | omega))))
      all_goals first | exact fin _ _ | exact (fin _ _).1 | exact (fin _ _).2
  have hrg:=jgM hb
  have hrx:=jdY l[j]
  have htk : l.take (j + 1) = l.take j ++ [l[j]]:=ja1 hb
  generalize l[j] = r at *
  have hsa : Same H.length H (Hx ++ [Ob.arr [ruleD r]]):=hsm.trans (Same.app hsm.1)
  obtain ⟨d',H',hap,hv',hs'⟩:=jxi (e2.app (L:=[Ob.arr [ruleD r]])) r.rx (by simp;omega)
  rw [hrx] at hap
  have q1:=jd3 r
  have hed : ruleD r = .agg [.str r.nm,.int .u8 r.rx.k,.int .u16 r.rx.s,.sl false (rxDs r.rx.kids),.bool r.br]:=rfl
  rw [show (Hx ++ [Ob.arr [ruleD r]]).length = Hx.length + 1 by simp] at hap
  rw [hed] at hap hsa
  clear hB hS hed
  repeat' (first | apply wz1|apply wz2|apply wz3|apply wz4|apply wz5|apply wz6 | simp -dsimp (maxSteps:=999999) (disch:=omega) only[go_sem,simprocAttr, *] | ((first | refine wz8 ?_ ?_|refine wz9 ?_ ?_|refine wz7 ?_ ?_)<;>intro hh <;> (try replace hh:=vqs hh) <;> (try (exfalso;first | exact hh | omega))))
  refine hR _ _ ⟨j + 1,by omega,hsa.trans hs',gs,?_,gs,gs,gs⟩ ?_
  · show VecAt H.length d' H' (((l.take (j + 1)).map Rule.rx).map rxD)
    rw [htk,List.map_append]
    exact hv'
  · simp -dsimp (maxSteps:=999999) (disch:=omega) only[go_sem,simprocAttr, *,jab]
theorem jgl {l : List Rule} {d m : Dfa} {e : Int} (hl : l.length <= 1000) (hB : ∀ (H H' : Heap) (v : D) (K Kp : D -> Heap -> Prop),pures H [v] = some ([.sl false ((l.map Rule.rx).map rxD)],H') -> PP (K (.tup [dfaD d,.int .i64 e]) H') -> EvB Tryz.prog Am 51 [v] H K Kp)
    (hS : e = 0 -> ∀ (H : Heap) (K Kp : D -> Heap -> Prop),PP (K (dfaD m) H) -> EvB Tryz.prog Am 52 [dfaD d] H K Kp) {H : Heap} {p : Nat} {e0 c : Int} {nx rl : D} (h : Cells H p (scC (rulesD l) 0 0 nx rl e0 c)) :
    EvF Tryz.prog Am 32 [.ptr p 0 1,.bfn 33 [.ptr p 0 0]] H (fun _ H'=>Cells H' p (if e = 0 then scC (rulesD l) 1 0 (rowsD m.next) (isD m.rule) 0 c else scC (rulesD l) 1 0 nx rl e c) /\ Kp1 p H H') (fun _ _=>False):=by
  refine EvF.mono (jue (Q:=fun H' ds=>ds = (if e = 0 then scC (rulesD l) 0 1 (rowsD m.next) (isD m.rule) 0 c else scC (rulesD l) 0 1 nx rl e c) /\ Kp1 p H H') h rfl rfl (.inr rfl) ?_) ?_ (fun _ _ h=>h)
  · have hr:=jsZ hl hB hS (H:=H.set p (.arr [.agg (scC (rulesD l) 0 1 nx rl e0 c)])) (p:=p) (c:=c) ⟨jad h.2,by simpa using h.2⟩
    refine jag bo33 rfl rfl hr ?_ (fun _ _ h=>h.elim)
    rintro _ H2 ⟨h1,h2⟩
    refine ⟨_,h1,?_,rfl,Kp1.set.trans h2⟩
    split <;> rfl
  · rintro _ _ ⟨H2,ds,h1,h2,⟨rfl,h3⟩,rfl⟩
    have hd : ((if e = 0 then scC (rulesD l) 0 1 (rowsD m.next) (isD m.rule) 0 c else scC (rulesD l) 0 1 nx rl e c).set 1 (.int .u32 1)).set (1 + 1) (.int .i32 0) = (if e = 0 then scC (rulesD l) 1 0 (rowsD m.next) (isD m.rule) 0 c else scC (rulesD l) 1 0 nx rl e c):=by split <;> rfl
    rw [hd]
    exact ⟨h1.set,h3.trans Kp1.set⟩
end Go.Proofs.W
end
section
namespace Go.Proofs.W
open Go Vm Go.Proofs.Zso
def simT (f : List Int) (t : Int) : Int:=if t < 0 then -1 else f.getD t.toNat 0
def simRow (d m : Dfa) (f : List Int) (s : Nat) : Bool:=
  if f.getD s 0 < 0 then decide (d.rule.getD s 0 < 0) && (List.range 16).all fun c=>decide (simT f ((d.next.getD s []).getD c 0) < 0)
  else m.rule.getD (f.getD s 0).toNat 0 == d.rule.getD s 0 && (List.range 16).all fun c=>(m.next.getD (f.getD s 0).toNat []).getD c 0 == simT f ((d.next.getD s []).getD c 0)
def outD (d : Dfa) (a : Int) (w : List Int) : Int:=if runD d a w < 0 then -1 else ruleAt d (runD d a w)
theorem jsk {d : Dfa} (hr : rightD d = true) {s : Nat} (h : s < d.next.length) (c : Int) : -1 <= nextD d s c /\ nextD d s c < d.next.length:=by
  unfold nextD
  split
  · have:=jaA hr;omega
  · rename_i hc
    have hrow:=(jb9 hr h).2.2
    rw [Int.toNat_natCast]
    have:=jaA hr
    by_cases hl : c.toNat < (d.next.getD s []).length
    · have e : (d.next.getD s []).getD c.toNat 0 = (d.next.getD s [])[c.toNat]:=by
        rw [List.getD_eq_getElem?_getD (l:=d.next.getD s []),List.getElem?_eq_getElem hl];rfl
      rw [e]
      exact hrow _ (List.getElem_mem hl)
    · have e : (d.next.getD s []).getD c.toNat 0 = 0:=by
        rw [List.getD_eq_getElem?_getD,List.getElem?_eq_none (by omega)];rfl
      rw [e];omega
theorem jtr {d m : Dfa} {f : List Int} {s : Nat} (h : simRow d m f s = true) (c : Int) :
    (f.getD s 0 < 0 -> simT f (nextD d s c) < 0) /\ (¬ f.getD s 0 < 0 -> nextD m (f.getD s 0) c = simT f (nextD d s c)):=by
  unfold simRow at h
  unfold nextD
  by_cases hc : c < 0 ∨ 16 <= c
  · rw [if_pos hc,if_pos hc]
    exact ⟨fun _=>by simp [simT],fun _=>by simp [simT]⟩
  · rw [if_neg hc,if_neg hc]
    have hm : c.toNat ∈ List.range 16:=List.mem_range.2 (by omega)
    split at h
    · rename_i hd
      simp only [Bool.and_eq_true,List.all_eq_true,decide_eq_true_eq] at h
      exact ⟨fun _=>h.2 _ hm,fun hn=>absurd hd hn⟩
    · rename_i hd
      simp only [Bool.and_eq_true,List.all_eq_true,beq_iff_eq] at h
      exact ⟨fun hn=>absurd hn hd,fun _=>h.2 _ hm⟩
theorem jmG {d m : Dfa} {f : List Int} (hr : rightD d = true) (h : allN (simRow d m f) 0 d.next.length = true) : ∀ (w : List Int) (s : Nat),s < d.next.length -> (f.getD s 0 < 0 -> outD d s w = -1) /\ (0 <= f.getD s 0 -> outD m (f.getD s 0) w = outD d s w)
  | [],s,hs=>by
    have hrow:=allN_iff.1 h s (by omega) (by omega)
    have hrl:=(jb9 hr hs).1
    unfold simRow at hrow
    unfold outD runD
    rw [if_neg (by omega)]
    have e : ruleAt d (s : Int) = d.rule.getD s 0:=by unfold ruleAt;rw [Int.toNat_natCast]
    rw [e]
    split at hrow
    · rename_i hd
      simp only [Bool.and_eq_true,decide_eq_true_eq] at hrow
      exact ⟨fun _=>by omega,fun hn=>by omega⟩
    · rename_i hd
      simp only [Bool.and_eq_true,beq_iff_eq] at hrow
      refine ⟨fun hn=>absurd hn hd,fun _=>?_⟩
      rw [if_neg hd]
      exact hrow.1
  | c :: w,s,hs=>by
    have hrow:=allN_iff.1 h s (by omega) (by omega)
    obtain ⟨h1,h2⟩:=jtr hrow c
    obtain ⟨n1,n2⟩:=jsk hr hs c
    have step : ∀ (d : Dfa) (a : Int),outD d a (c :: w) = if nextD d a c < 0 then -1 else outD d (nextD d a c) w:=fun d a=>by
      unfold outD
      rw [runD]
      by_cases hn : nextD d a c < 0
      · rw [if_pos hn,if_pos (by omega),if_pos hn]
      · rw [if_neg hn,if_neg hn]
    rw [step d,step m]
    by_cases hn : nextD d s c < 0
    · rw [if_pos hn]
      refine ⟨fun _=>rfl,fun h0=>?_⟩
      rw [h2 (by omega),if_pos (by simp [simT,hn])]
    · rw [if_neg hn]
      obtain ⟨t,ht⟩ : ∃ t : Nat,nextD d s c = t:=⟨(nextD d s c).toNat,by omega⟩
      rw [ht] at n2 h1 h2 ⊢
      obtain ⟨i1,i2⟩:=jmG hr h w t (by omega)
      have hT : simT f (t : Int) = f.getD t 0:=by simp [simT];omega
      rw [hT] at h1 h2
      refine ⟨fun h0=>i1 (h1 h0),fun h0=>?_⟩
      rw [h2 (by omega)]
      by_cases hx : f.getD t 0 < 0
      · rw [if_pos hx,i1 hx]
      · rw [if_neg hx]
        exact i2 (by omega)
end Go.Proofs.W
end
section
namespace Go.Proofs.W
open Go Vm Go.Proofs.Zso
inductive Live (d : Dfa) : Nat -> Prop
  | here {i : Nat} : 0 <= d.rule.getD i 0 -> Live d i
  | step {i c t : Nat} : c < 16 -> (d.next.getD i []).getD c 0 = (t : Int) -> Live d t -> Live d i
open Classical in
noncomputable def deadB (d : Dfa) (i : Nat) : Bool:=decide (¬ Live d i)
noncomputable def deadL (d : Dfa) : List Bool:=(List.range d.next.length).map (deadB d)
theorem deadB_iff {d : Dfa} {i : Nat} : deadB d i = true ↔ ¬ Live d i:=by simp [deadB]
noncomputable def cutT (d : Dfa) (i : Nat) (t : Int) : Int:=if deadB d i = true ∨ 0 <= t /\ deadB d t.toNat = true then -1 else t
noncomputable def aliveM (d : Dfa) : Dfa:=⟨(List.range d.next.length).map fun i=>(d.next.getD i []).map (cutT d i),d.rule⟩
theorem jcW (d : Dfa) : (aliveM d).next.length = d.next.length:=by simp [aliveM]
theorem jeQ {d : Dfa} {i : Nat} (h : i < d.next.length) : (aliveM d).next.getD i [] = (d.next.getD i []).map (cutT d i):=by
  simp [aliveM,List.getD_eq_getElem?_getD,h]
theorem jbu {d : Dfa} (ht : tyM d) {i : Nat} (h : i < d.next.length) : (d.next.getD i []).length = 16:=by
  have e : d.next.getD i [] = d.next[i]:=by simp [List.getD_eq_getElem?_getD,h]
  rw [e];exact ht _ (List.getElem_mem h)
theorem jk3 {d : Dfa} (ht : tyM d) {i c : Nat} (h : i < d.next.length) (hc : c < 16) : ((aliveM d).next.getD i []).getD c 0 = cutT d i ((d.next.getD i []).getD c 0):=by
  have hl:=jbu ht h
  rw [jeQ h]
  generalize d.next.getD i [] = r at *
  simp [List.getD_eq_getElem?_getD,show c < r.length by omega]
theorem jel {d : Dfa} (ht : tyM d) : tyM (aliveM d):=fun r hr=>by
  obtain ⟨i,hi,rfl⟩:=List.mem_map.1 hr
  rw [List.length_map]
  exact jbu ht (List.mem_range.1 hi)
theorem jv7 {d : Dfa} {i : Nat} {t : Int} {n : Nat} (h : -1 <= t /\ t < n) : -1 <= cutT d i t /\ cutT d i t < n:=by
  unfold cutT;split <;> omega
theorem jcP {d : Dfa} (hr : rightD d = true) : rightD (aliveM d) = true:=by
  have hl:=jaA hr
  simp only [rightD,Bool.and_eq_true,decide_eq_true_eq,allN_iff,jcW]
  refine ⟨⟨hl.1,hl.2.1,show d.rule.length = _ by omega⟩,fun i _ hi=>?_⟩
  obtain ⟨h1,h2,h3⟩:=jb9 hr (show i < d.next.length by omega)
  have hrw:=jeQ (show i < d.next.length by omega)
  unfold rowOkD
  rw [jcW,hrw]
  simp only [Bool.and_eq_true,decide_eq_true_eq,List.all_eq_true,toOk]
  refine ⟨⟨h1,h2⟩,fun t ht=>?_⟩
  obtain ⟨t',ht',rfl⟩:=List.mem_map.1 ht
  exact jv7 (h3 t' ht')
noncomputable def liveF (d : Dfa) : List Int:=(List.range d.next.length).map fun i=>if deadB d i = true then -1 else (i : Int)
theorem jgO {d : Dfa} {i : Nat} (h : i < d.next.length) : (liveF d).getD i 0 = if deadB d i = true then -1 else (i : Int):=by
  simp [liveF,List.getD_eq_getElem?_getD,h]
theorem jim {d : Dfa} (t : Int) (ht : -1 <= t /\ t < d.next.length) : simT (liveF d) t = if 0 <= t /\ deadB d t.toNat = true then -1 else t:=by
  unfold simT
  by_cases h : t < 0
  · rw [if_pos h,if_neg (by omega)];omega
  · rw [if_neg h,jgO (by omega)]
    by_cases hd : deadB d t.toNat = true
    · rw [if_pos hd,if_pos ⟨by omega,hd⟩]
    · rw [if_neg hd,if_neg (fun h=>hd h.2)];omega
theorem jb3 {d : Dfa} (hr : rightD d = true) (ht : tyM d) {i c : Nat} (hi : i < d.next.length) (hc : c < 16) : -1 <= (d.next.getD i []).getD c 0 /\ (d.next.getD i []).getD c 0 < d.next.length:=by
  have h3:=(jb9 hr hi).2.2
  have hl:=jbu ht hi
  have e : (d.next.getD i []).getD c 0 = (d.next.getD i [])[c]:=by
    rw [List.getD_eq_getElem?_getD (l:=d.next.getD i []),List.getElem?_eq_getElem (by omega)];rfl
  rw [e]
  exact h3 _ (List.getElem_mem (by omega))
theorem jpe {d : Dfa} (hr : rightD d = true) (ht : tyM d) : allN (simRow d (aliveM d) (liveF d)) 0 d.next.length = true:=by
  rw [allN_iff]
  intro i _ hi
  have hi' : i < d.next.length:=by omega
  unfold simRow
  rw [jgO hi']
  by_cases hd : deadB d i = true
  · rw [if_pos hd,if_pos (by omega)]
    have hn:=deadB_iff.1 hd
    simp only [Bool.and_eq_true,decide_eq_true_eq,List.all_eq_true,List.mem_range]
    refine ⟨by
      rcases Int.lt_or_le (d.rule.getD i 0) 0 with h | h
      · exact h
      · exact absurd (.here h) hn,fun c hc=>?_⟩
    have hb:=jb3 hr ht hi' hc
    rw [jim _ hb]
    split
    · omega
    · rename_i hne
      rcases Int.lt_or_le ((d.next.getD i []).getD c 0) 0 with h | h
      · exact h
      · exfalso
        apply hne
        refine ⟨h,deadB_iff.2 fun hlv=>hn (.step hc (t:=((d.next.getD i []).getD c 0).toNat) (by omega) hlv)⟩
  · rw [if_neg hd,if_neg (by omega)]
    simp only [Bool.and_eq_true,beq_iff_eq,List.all_eq_true,List.mem_range,Int.toNat_natCast]
    refine ⟨rfl,fun c hc=>?_⟩
    rw [jk3 ht hi' hc,jim _ (jb3 hr ht hi' hc)]
    unfold cutT
    by_cases h : 0 <= (d.next.getD i []).getD c 0 /\ deadB d ((d.next.getD i []).getD c 0).toNat = true
    · rw [if_pos (.inr h),if_pos h]
    · rw [if_neg (fun hh=>hh.elim hd h),if_neg h]
theorem jo2 {d : Dfa} (hr : rightD d = true) (ht : tyM d) (w : List Int) {s : Nat} (hs : s < d.next.length) : outD (aliveM d) s w = outD d s w:=by
  obtain ⟨h1,h2⟩:=jmG hr (jpe hr ht) w s hs
  rw [jgO hs] at h1 h2
  by_cases hd : deadB d s = true
  · rw [if_pos hd] at h1
    rw [h1 (by omega)]
    have hn:=deadB_iff.1 hd
    have hrl:=(jb9 hr hs).1
    have hrule : d.rule.getD s 0 < 0:=by
      rcases Int.lt_or_le (d.rule.getD s 0) 0 with h | h
      · exact h
      · exact absurd (.here h) hn
    cases w with
    | nil=>
      unfold outD runD
      rw [if_neg (by omega)]
      show (aliveM d).rule.getD (s : Int).toNat 0 = -1
      rw [Int.toNat_natCast]
      show d.rule.getD s 0 = -1
      omega
    | cons c w=>
      have hnx : nextD (aliveM d) s c = -1:=by
        unfold nextD
        split
        · rfl
        · rename_i hc
          rw [Int.toNat_natCast,jk3 ht hs (by omega)]
          unfold cutT
          rw [if_pos (.inl hd)]
      unfold outD
      rw [runD,hnx,if_pos (by omega)]
  · rw [if_neg hd] at h2
    exact h2 (by omega)
end Go.Proofs.W
end
section
namespace Go.Proofs.W
open Go Vm Go.Proofs.Zso
def idxK (k : List Int) : List (List Int) -> Nat -> Option Nat
  | [],_=>none
  | x :: l,i=>if k = x then some i else idxK k l (i + 1)
def numL : List (List Int) -> List (List Int) -> List Int × List (List Int)
  | [],seen=>([],seen)
  | k :: r,seen=>match idxK k seen 0 with
    | some j=>((j : Int) :: (numL r seen).1,(numL r seen).2)
    | none=>((seen.length : Int) :: (numL r (seen ++ [k])).1,(numL r (seen ++ [k])).2)
theorem jbm (k : List Int) : ∀ (l : List (List Int)) (i : Nat),(idxK k l i = none /\ k ∉ l) ∨ ∃ j,idxK k l i = some (i + j) /\ l[j]? = some k /\ ∀ j',j' < j -> l[j']? ≠ some k
  | [],i=>.inl ⟨rfl,by simp⟩
  | x :: l,i=>by
    rw [idxK]
    by_cases h : k = x
    · subst h
      rw [if_pos rfl]
      exact .inr ⟨0,rfl,rfl,fun j' h=>by omega⟩
    · rw [if_neg h]
      rcases jbm k l (i + 1) with ⟨h1,h2⟩ | ⟨j,h1,h2,h3⟩
      · exact .inl ⟨h1,by simp [h,h2]⟩
      · refine .inr ⟨j + 1,by rw [h1];congr 1;omega,h2,fun j' hj=>?_⟩
        cases j' with
        | zero=>simpa using fun e=>h e.symm
        | succ j'=>exact h3 j' (by omega)
theorem jja {k : List Int} {l : List (List Int)} {i : Nat} (h : k ∉ l) : idxK k l i = none:=by
  rcases jbm k l i with ⟨h1,_⟩ | ⟨j,_,h2,_⟩
  · exact h1
  · exact absurd (List.mem_of_getElem? h2) h
theorem jgJ : ∀ (K seen : List (List Int)),(numL K seen).1.length = K.length
  | [],seen=>rfl
  | k :: r,seen=>by
    rw [numL]
    split
    · simp [jgJ r seen]
    · simp [jgJ r (seen ++ [k])]
theorem jcX : ∀ (K seen : List (List Int)),∃ l,(numL K seen).2 = seen ++ l /\ l.length <= K.length
  | [],seen=>⟨[],by simp [numL],by simp⟩
  | k :: r,seen=>by
    rw [numL]
    split
    · obtain ⟨l,h1,h2⟩:=jcX r seen
      exact ⟨l,h1,by simp;omega⟩
    · obtain ⟨l,h1,h2⟩:=jcX r (seen ++ [k])
      exact ⟨k :: l,by rw [h1];simp,by simp;omega⟩
theorem jeg : ∀ (K seen : List (List Int)),seen.Nodup -> (numL K seen).2.Nodup
  | [],seen,h=>h
  | k :: r,seen,h=>by
    rw [numL]
    rcases jbm k seen 0 with ⟨h1,h2⟩ | ⟨j,h1,h2,_⟩
    · rw [h1]
      exact jeg r (seen ++ [k]) (List.nodup_append.2 ⟨h,by simp,fun a ha b hb e=>by
        rw [List.mem_singleton] at hb
        subst hb;subst e;exact h2 ha⟩)
    · rw [h1]
      exact jeg r seen h
theorem jdV : ∀ (K seen : List (List Int)) (i : Nat) (k : List Int),K[i]? = some k -> ∃ j : Nat,(numL K seen).1[i]? = some (j : Int) /\ (numL K seen).2[j]? = some k
  | [],seen,i,k,h=>by simp at h
  | x :: r,seen,i,k,h=>by
    rw [numL]
    rcases jbm x seen 0 with ⟨h1,h2⟩ | ⟨j,h1,h2,_⟩
    · rw [h1]
      cases i with
      | zero=>
        have e : x = k:=by simpa using h
        subst e
        obtain ⟨l,g1,_⟩:=jcX r (seen ++ [x])
        refine ⟨seen.length,rfl,?_⟩
        simp only
        rw [g1,List.append_assoc,List.getElem?_append_right (Nat.le_refl _)]
        simp
      | succ i=>
        obtain ⟨j,a,b⟩:=jdV r (seen ++ [x]) i k (by simpa using h)
        exact ⟨j,by simpa using a,b⟩
    · rw [h1]
      cases i with
      | zero=>
        have e : x = k:=by simpa using h
        subst e
        obtain ⟨l,g1,_⟩:=jcX r seen
        refine ⟨0 + j,rfl,?_⟩
        simp only
        rw [g1,Nat.zero_add,List.getElem?_append_left (List.getElem?_eq_some_iff.1 h2).1]
        exact h2
      | succ i=>
        obtain ⟨j,a,b⟩:=jdV r seen i k (by simpa using h)
        exact ⟨j,by simpa using a,b⟩
theorem jrN {l : List (List Int)} (h : l.Nodup) {i j : Nat} {k : List Int} (h1 : l[i]? = some k) (h2 : l[j]? = some k) : i = j:=by
  obtain ⟨a1,a2⟩:=List.getElem?_eq_some_iff.1 h1
  obtain ⟨b1,b2⟩:=List.getElem?_eq_some_iff.1 h2
  exact (List.getElem_inj h).1 (a2.trans b2.symm)
theorem jvk {K : List (List Int)} {i j : Nat} {a b : List Int} (h1 : K[i]? = some a) (h2 : K[j]? = some b) : (numL K []).1[i]? = (numL K []).1[j]? ↔ a = b:=by
  obtain ⟨x,p1,p2⟩:=jdV K [] i a h1
  obtain ⟨y,q1,q2⟩:=jdV K [] j b h2
  rw [p1,q1]
  constructor
  · intro h
    have e : x = y:=by
      have : (x : Int) = y:=by simpa using h
      omega
    subst e
    rw [p2] at q2
    exact Option.some.inj q2
  · rintro rfl
    rw [jrN (jeg K [] List.nodup_nil) p2 q2]
def cntF1 : Nat -> List Int -> Nat
  | m,[]=>m
  | m,c :: r=>if c = m then cntF1 (m + 1) r else cntF1 m r
def firstN : Nat -> List Int -> Prop
  | _,[]=>True
  | m,c :: r=>0 <= c /\ c <= m /\ firstN (if c = m then m + 1 else m) r
theorem jc4 : ∀ (K seen : List (List Int)),firstN seen.length (numL K seen).1 /\ cntF1 seen.length (numL K seen).1 = (numL K seen).2.length
  | [],seen=>⟨trivial,rfl⟩
  | k :: r,seen=>by
    rw [numL]
    rcases jbm k seen 0 with ⟨h1,h2⟩ | ⟨j,h1,h2,_⟩
    · rw [h1]
      have ih:=jc4 r (seen ++ [k])
      rw [List.length_append,List.length_singleton] at ih
      simp only [firstN,cntF1,if_true]
      exact ⟨⟨by omega,by omega,ih.1⟩,ih.2⟩
    · rw [h1]
      have hj:=(List.getElem?_eq_some_iff.1 h2).1
      have ih:=jc4 r seen
      simp only [firstN,cntF1]
      rw [if_neg (by omega),if_neg (by omega)]
      exact ⟨⟨by omega,by omega,ih.1⟩,ih.2⟩
theorem jcx (f : List Int -> Int) : ∀ (K seen : List (List Int)) (m : Nat),firstN m (K.map f) -> (∀ k ∈ seen,f k < m) -> seen.length + cntF1 m (K.map f) <= (numL K seen).2.length + m
  | [],seen,m,_,_=>by simp [numL,cntF1]
  | k :: r,seen,m,h,hs=>by
    rw [List.map_cons] at h ⊢
    obtain ⟨h0,h1,h2⟩:=h
    rw [numL,cntF1]
    by_cases e : f k = m
    · rw [if_pos e] at h2 ⊢
      have hn : k ∉ seen:=fun hm=>by have:=hs k hm;omega
      rw [jja hn]
      have:=jcx f r (seen ++ [k]) (m + 1) h2 (fun x hx=>by
        rcases List.mem_append.1 hx with hx | hx
        · have:=hs x hx;omega
        · rw [List.mem_singleton.1 hx];omega)
      simp only [List.length_append,List.length_singleton] at this
      simp only
      omega
    · rw [if_neg e] at h2 ⊢
      rcases jbm k seen 0 with ⟨g1,g2⟩ | ⟨j,g1,g2,_⟩
      · rw [g1]
        have:=jcx f r (seen ++ [k]) m h2 (fun x hx=>by
          rcases List.mem_append.1 hx with hx | hx
          · exact hs x hx
          · rw [List.mem_singleton.1 hx];omega)
        simp only [List.length_append,List.length_singleton] at this
        simp only
        omega
      · rw [g1]
        exact jcx f r seen m h2 hs
theorem jeR (f : List Int -> Int) : ∀ (K seen : List (List Int)) (m : Nat),firstN m (K.map f) -> seen.length = m -> (∀ (j : Nat) (k : List Int),seen[j]? = some k -> f k = j) -> (numL K seen).2.length = cntF1 m (K.map f) -> (numL K seen).1 = K.map f
  | [],seen,m,_,_,_,_=>rfl
  | k :: r,seen,m,h,hl,hs,hc=>by
    rw [List.map_cons] at h hc ⊢
    obtain ⟨h0,h1,h2⟩:=h
    rw [numL] at hc ⊢
    rw [cntF1] at hc
    by_cases e : f k = m
    · rw [if_pos e] at h2 hc
      have hn : k ∉ seen:=fun hm=>by
        obtain ⟨j,hj⟩:=List.getElem?_of_mem hm
        have:=hs j k hj
        have:=(List.getElem?_eq_some_iff.1 hj).1
        omega
      rw [jja hn] at hc ⊢
      simp only at hc ⊢
      rw [jeR f r (seen ++ [k]) (m + 1) h2 (by simp;omega) (fun j x hx=>by
        rcases Nat.lt_trichotomy j seen.length with hj | hj | hj
        · rw [List.getElem?_append_left hj] at hx
          exact hs j x hx
        · subst hj
          rw [List.getElem?_append_right (Nat.le_refl _)] at hx
          have : x = k:=by simpa using hx.symm
          subst this
          omega
        · rw [List.getElem?_eq_none (by simp;omega)] at hx
          cases hx) hc]
      congr 1
      omega
    · rw [if_neg e] at h2 hc
      rcases jbm k seen 0 with ⟨g1,g2⟩ | ⟨j,g1,g2,_⟩
      · exfalso
        rw [g1] at hc
        simp only at hc
        have:=jcx f r (seen ++ [k]) m h2 (fun x hx=>by
          rcases List.mem_append.1 hx with hx | hx
          · obtain ⟨j,hj⟩:=List.getElem?_of_mem hx
            have a:=hs j x hj
            have b:=(List.getElem?_eq_some_iff.1 hj).1
            omega
          · rw [List.mem_singleton.1 hx];omega)
        simp only [List.length_append,List.length_singleton] at this
        omega
      · rw [g1] at hc ⊢
        simp only at hc ⊢
        rw [jeR f r seen m h2 hl hs hc,Nat.zero_add]
        congr 1
        exact (hs j k g2).symm
def keyOf (a : Dfa) (cl : List Int) (i : Nat) : List Int:=((a.next.getD i []).map fun t=>if 0 <= t then cl.getD t.toNat 0 else -1) ++ [cl.getD i 0]
def refineL (a : Dfa) (cl : List Int) : List Int × Int:=((numL ((List.range a.next.length).map (keyOf a cl)) []).1,((numL ((List.range a.next.length).map (keyOf a cl)) []).2.length : Int))
def clsR (a : Dfa) : Nat -> List Int -> Int -> List Int
  | 0,cl,_=>cl
  | f + 1,cl,n=>if (refineL a cl).2 = n then (refineL a cl).1 else clsR a f (refineL a cl).1 (refineL a cl).2
def classesM (a : Dfa) : List Int:=clsR a (a.next.length + 2) a.rule 0
def posC (cl : List Int) : Prop:=∀ i,0 <= cl.getD i 0
theorem jiG : ∀ (m : Nat) (l : List Int),firstN m l -> ∀ x ∈ l,0 <= x
  | _,[],_,x,h=>by cases h
  | m,c :: r,h,x,hx=>by
    obtain ⟨h0,_,h2⟩:=h
    rcases List.mem_cons.1 hx with rfl | hx
    · exact h0
    · exact jiG _ r h2 x hx
theorem jof (a : Dfa) (cl : List Int) : posC (refineL a cl).1:=fun i=>by
  have h:=(jc4 ((List.range a.next.length).map (keyOf a cl)) []).1
  rw [List.getD_eq_getElem?_getD]
  cases hx : (refineL a cl).1[i]? with
  | none=>simp
  | some x=>exact jiG _ _ h x (List.mem_of_getElem? hx)
structure Stable (a : Dfa) (cl : List Int) : Prop where
  len : cl.length = a.next.length
  rule : ∀ i j,i < a.next.length -> j < a.next.length -> cl.getD i 0 = cl.getD j 0 -> a.rule.getD i 0 = a.rule.getD j 0
  key : ∀ i j,i < a.next.length -> j < a.next.length -> cl.getD i 0 = cl.getD j 0 -> keyOf a cl i = keyOf a cl j
  pos : posC cl
theorem jho (a : Dfa) (cl : List Int) : (refineL a cl).1.length = a.next.length:=by simp [refineL,jgJ]
theorem jjd {a : Dfa} {cl : List Int} {i j : Nat} (hi : i < a.next.length) (hj : j < a.next.length) : (refineL a cl).1.getD i 0 = (refineL a cl).1.getD j 0 ↔ keyOf a cl i = keyOf a cl j:=by
  have h1 : ((List.range a.next.length).map (keyOf a cl))[i]? = some (keyOf a cl i):=by simp [hi]
  have h2 : ((List.range a.next.length).map (keyOf a cl))[j]? = some (keyOf a cl j):=by simp [hj]
  rw [<- jvk h1 h2]
  have l:=jho a cl
  unfold refineL at l ⊢
  simp only at l ⊢
  rw [List.getD_eq_getElem?_getD,List.getD_eq_getElem?_getD,List.getElem?_eq_getElem (by omega),List.getElem?_eq_getElem (by omega)]
  simp
theorem jrJ {a : Dfa} {cl : List Int} {i j : Nat} (h : keyOf a cl i = keyOf a cl j) : cl.getD i 0 = cl.getD j 0:=by
  have:=congrArg (fun l=>l.getLast?) h
  simpa [keyOf] using this
structure RoundI (a : Dfa) (cl : List Int) (n : Int) : Prop where
  len : cl.length = a.next.length
  rule : ∀ i j,i < a.next.length -> j < a.next.length -> cl.getD i 0 = cl.getD j 0 -> a.rule.getD i 0 = a.rule.getD j 0
  num : n = 0 ∨ firstN 0 cl /\ n = cntF1 0 cl
theorem jk5 {a : Dfa} {cl : List Int} (h : cl.length = a.next.length) : ((List.range a.next.length).map (keyOf a cl)).map (fun k=>k.getLastD 0) = cl:=by
  rw [List.map_map]
  apply List.ext_getElem (by simp [h])
  intro i h1 h2
  simp [keyOf,List.getD_eq_getElem?_getD,h2]
theorem jed {a : Dfa} {cl : List Int} {n : Int} (h : RoundI a cl n) : RoundI a (refineL a cl).1 (refineL a cl).2:=by
  refine ⟨jho a cl,fun i j hi hj he=>?_,.inr ?_⟩
  · exact h.rule i j hi hj (jrJ ((jjd hi hj).1 he))
  · have:=jc4 ((List.range a.next.length).map (keyOf a cl)) []
    exact ⟨this.1,by show ((_ : Nat) : Int) = _;rw [show cntF1 0 (refineL a cl).1 = _ from this.2]⟩
theorem jd8 {a : Dfa} {cl : List Int} {n : Int} (h : RoundI a cl n) : n <= (refineL a cl).2 /\ (refineL a cl).2 <= a.next.length:=by
  obtain ⟨l,h1,h2⟩:=jcX ((List.range a.next.length).map (keyOf a cl)) []
  have hle : (refineL a cl).2 <= a.next.length:=by
    show ((_ : Nat) : Int) <= _
    rw [h1]
    simp at h2 ⊢
    omega
  refine ⟨?_,hle⟩
  rcases h.num with h0 | ⟨h3,h4⟩
  · subst h0;show (0 : Int) <= ((_ : Nat) : Int);omega
  · have hm:=jk5 h.len
    have:=jcx (fun k=>k.getLastD 0) ((List.range a.next.length).map (keyOf a cl)) [] 0 (by rw [hm];exact h3) (by simp)
    rw [hm] at this
    simp only [List.length_nil,Nat.zero_add,Nat.add_zero] at this
    rw [h4]
    show ((_ : Nat) : Int) <= ((_ : Nat) : Int)
    omega
theorem jqz {a : Dfa} {cl : List Int} {n : Int} (h : RoundI a cl n) (hn : 1 <= a.next.length) (he : (refineL a cl).2 = n) : Stable a (refineL a cl).1:=by
  have hr:=jed h
  have hsame : (refineL a cl).1 = cl:=by
    rcases h.num with h0 | ⟨h3,h4⟩
    · exfalso
      subst h0
      obtain ⟨j,h1,h2⟩:=jdV ((List.range a.next.length).map (keyOf a cl)) [] 0 (keyOf a cl 0) (by simp [show 0 < a.next.length by omega])
      have:=(List.getElem?_eq_some_iff.1 h2).1
      have e : (((numL ((List.range a.next.length).map (keyOf a cl)) []).2.length : Nat) : Int) = 0:=he
      omega
    · have hm:=jk5 h.len
      have e : (((numL ((List.range a.next.length).map (keyOf a cl)) []).2.length : Nat) : Int) = n:=he
      have:=jeR (fun k=>k.getLastD 0) ((List.range a.next.length).map (keyOf a cl)) [] 0 (by rw [hm];exact h3) rfl (by simp) (by rw [hm];omega)
      rw [hm] at this
      exact this
  refine ⟨hr.len,hr.rule,fun i j hi hj hij=>?_,jof a cl⟩
  have:=(jjd hi hj).1 hij
  rw [hsame]
  exact this
theorem jg0 {a : Dfa} (hn : 1 <= a.next.length) : ∀ (f : Nat) (cl : List Int) (n : Int),RoundI a cl n -> 0 <= n -> a.next.length + 1 <= f + n -> Stable a (clsR a f cl n)
  | 0,cl,n,h,h0,hf=>by
    have:=jd8 h
    omega
  | f + 1,cl,n,h,h0,hf=>by
    have hm:=jd8 h
    rw [clsR]
    by_cases e : (refineL a cl).2 = n
    · rw [if_pos e]
      exact jqz h hn e
    · rw [if_neg e]
      exact jg0 hn f _ _ (jed h) (by omega) (by omega)
theorem jdR {a : Dfa} (hr : rightD a = true) : Stable a (classesM a):=by
  have hl:=jaA hr
  refine jg0 hl.1 _ _ _ ⟨by omega,fun i j _ _ h=>h,.inl rfl⟩ (by omega) (by simp)
end Go.Proofs.W
end
section
namespace Go.Proofs.W
open Go Vm Go.Proofs.Zso
def idxZ (c : Int) : List Int -> Nat -> Option Nat
  | [],_=>none
  | x :: l,i=>if c = x then some i else idxZ c l (i + 1)
def rowS (cl : List Int) : List Int -> List Int -> List Int × List Int
  | [],fs=>([],fs)
  | t :: r,fs=>if t < 0 then (t :: (rowS cl r fs).1,(rowS cl r fs).2) else match idxZ (cl.getD t.toNat 0) (fs.map fun s=>cl.getD s.toNat 0) 0 with
    | some k=>((k : Int) :: (rowS cl r fs).1,(rowS cl r fs).2)
    | none=>((fs.length : Int) :: (rowS cl r (fs ++ [t])).1,(rowS cl r (fs ++ [t])).2)
def runS (a : Dfa) (cl : List Int) : Nat -> Nat -> List Int -> List (List Int) -> List Int -> Dfa
  | 0,_,_,nx,rl=>⟨nx,rl⟩
  | f + 1,i,fs,nx,rl=>match fs[i]? with
    | none=>⟨nx,rl⟩
    | some s=>runS a cl f (i + 1) (rowS cl (a.next.getD s.toNat []) fs).2 (nx ++ [(rowS cl (a.next.getD s.toNat []) fs).1]) (rl ++ [a.rule.getD s.toNat 0])
theorem jdF (c : Int) : ∀ (l : List Int) (i : Nat),(idxZ c l i = none /\ c ∉ l) ∨ ∃ j,idxZ c l i = some (i + j) /\ l[j]? = some c
  | [],i=>.inl ⟨rfl,by simp⟩
  | x :: l,i=>by
    rw [idxZ]
    by_cases h : c = x
    · subst h
      rw [if_pos rfl]
      exact .inr ⟨0,rfl,rfl⟩
    · rw [if_neg h]
      rcases jdF c l (i + 1) with ⟨h1,h2⟩ | ⟨j,h1,h2⟩
      · exact .inl ⟨h1,by simp [h,h2]⟩
      · exact .inr ⟨j + 1,by rw [h1];congr 1;omega,h2⟩
structure FoundI (a : Dfa) (cl : List Int) (fs : List Int) : Prop where
  rng : ∀ s ∈ fs,0 <= s /\ s < a.next.length
  nd : (fs.map fun s=>cl.getD s.toNat 0).Nodup
def CellI (cl : List Int) (fs : List Int) (t x : Int) : Prop:=(t < 0 /\ x = t) ∨ (0 <= t /\ 0 <= x /\ ∃ s,fs[x.toNat]? = some s /\ cl.getD s.toNat 0 = cl.getD t.toNat 0)
theorem CellI.more {cl fs l : List Int} {t x : Int} (h : CellI cl fs t x) : CellI cl (fs ++ l) t x:=by
  rcases h with h | ⟨h1,h2,s,h3,h4⟩
  · exact .inl h
  · exact .inr ⟨h1,h2,s,by rw [List.getElem?_append_left (List.getElem?_eq_some_iff.1 h3).1];exact h3,h4⟩
theorem jcU {a : Dfa} {cl : List Int} : ∀ (r fs : List Int),FoundI a cl fs -> (∀ t ∈ r,t < a.next.length) -> (∃ l,(rowS cl r fs).2 = fs ++ l) /\ FoundI a cl (rowS cl r fs).2 /\ (rowS cl r fs).1.length = r.length /\ ∀ (i : Nat) (t : Int),r[i]? = some t -> ∃ x,(rowS cl r fs).1[i]? = some x /\ CellI cl (rowS cl r fs).2 t x
  | [],fs,h,_=>⟨⟨[],by simp [rowS]⟩,h,rfl,fun i t ht=>by simp at ht⟩
  | t :: r,fs,h,hr=>by
    have hr' : ∀ t ∈ r,t < a.next.length:=fun x hx=>hr x (List.mem_cons_of_mem _ hx)
    rw [rowS]
    by_cases hn : t < 0
    · rw [if_pos hn]
      obtain ⟨h1,h2,h3,h4⟩:=jcU r fs h hr'
      refine ⟨h1,h2,by simp [h3],fun i u hu=>?_⟩
      cases i with
      | zero=>
        have e : t = u:=by simpa using hu
        subst e
        exact ⟨t,rfl,.inl ⟨hn,rfl⟩⟩
      | succ i=>exact h4 i u (by simpa using hu)
    · rw [if_neg hn]
      rcases jdF (cl.getD t.toNat 0) (fs.map fun s=>cl.getD s.toNat 0) 0 with ⟨g1,g2⟩ | ⟨k,g1,g2⟩
      · rw [g1]
        have hf : FoundI a cl (fs ++ [t]):=by
          refine ⟨fun s hs=>?_,?_⟩
          · rcases List.mem_append.1 hs with hs | hs
            · exact h.rng s hs
            · rw [List.mem_singleton.1 hs]
              exact ⟨by omega,hr t List.mem_cons_self⟩
          · rw [List.map_append]
            refine List.nodup_append.2 ⟨h.nd,by simp,fun x hx y hy e=>?_⟩
            have : y = cl.getD t.toNat 0:=by simpa using hy
            subst this;subst e
            exact g2 hx
        obtain ⟨⟨l,h1⟩,h2,h3,h4⟩:=jcU r (fs ++ [t]) hf hr'
        refine ⟨⟨t :: l,by rw [h1];simp⟩,h2,by simp [h3],fun i u hu=>?_⟩
        cases i with
        | zero=>
          have e : t = u:=by simpa using hu
          subst e
          refine ⟨_,rfl,?_⟩
          simp only
          rw [h1]
          exact CellI.more (.inr ⟨by omega,by omega,t,by simp,rfl⟩)
        | succ i=>exact h4 i u (by simpa using hu)
      · rw [g1]
        obtain ⟨⟨l,h1⟩,h2,h3,h4⟩:=jcU r fs h hr'
        refine ⟨⟨l,h1⟩,h2,by simp [h3],fun i u hu=>?_⟩
        cases i with
        | zero=>
          have e : t = u:=by simpa using hu
          subst e
          refine ⟨_,rfl,?_⟩
          simp only
          rw [h1]
          rw [List.getElem?_map] at g2
          cases hk : fs[k]? with
          | none=>rw [hk] at g2;simp at g2
          | some s=>
            rw [hk] at g2
            exact CellI.more (.inr ⟨by omega,by omega,s,by simpa using hk,by simpa using g2⟩)
        | succ i=>exact h4 i u (by simpa using hu)
theorem jgq : ∀ (N : Nat) (l : List Int),l.Nodup -> (∀ x ∈ l,0 <= x /\ x < N) -> l.length <= N
  | 0,l,_,h=>by
    cases l with
    | nil=>simp
    | cons x l=>have:=h x List.mem_cons_self;omega
  | N + 1,l,hd,h=>by
    by_cases hm : (N : Int) ∈ l
    · have:=jgq N (l.erase (N : Int)) (hd.erase _) (fun x hx=>by
        have h1:=(hd.mem_erase_iff).1 hx
        have h2:=h x h1.2
        have : x ≠ N:=h1.1
        omega)
      rw [List.length_erase_of_mem hm] at this
      omega
    · have:=jgq N l hd (fun x hx=>by
        have h2:=h x hx
        have : x ≠ N:=fun e=>hm (e ▸ hx)
        omega)
      omega
theorem FoundI.le {a : Dfa} {cl fs : List Int} (h : FoundI a cl fs) : fs.length <= a.next.length:=by
  refine jgq _ fs ?_ h.rng
  exact List.Pairwise.of_map _ (fun x y hxy e=>hxy (by rw [e])) h.nd
structure RunI (a : Dfa) (cl : List Int) (i : Nat) (fs : List Int) (nx : List (List Int)) (rl : List Int) : Prop where
  found : FoundI a cl fs
  zero : fs[0]? = some 0
  ln : nx.length = i
  lr : rl.length = i
  le : i <= fs.length
  row : ∀ k,k < i -> ∃ s r,fs[k]? = some s /\ rl[k]? = some (a.rule.getD s.toNat 0) /\ nx[k]? = some r /\ r.length = (a.next.getD s.toNat []).length /\ ∀ (c : Nat) (t : Int),(a.next.getD s.toNat [])[c]? = some t -> ∃ x,r[c]? = some x /\ CellI cl fs t x
theorem jlk {a : Dfa} {cl : List Int} {i : Nat} {fs : List Int} {nx : List (List Int)} {rl : List Int} (hr : rightD a = true) (h : RunI a cl i fs nx rl) {s : Int} (hs : fs[i]? = some s) :
    RunI a cl (i + 1) (rowS cl (a.next.getD s.toNat []) fs).2 (nx ++ [(rowS cl (a.next.getD s.toNat []) fs).1]) (rl ++ [a.rule.getD s.toNat 0]):=by
  obtain ⟨hi,hs'⟩:=List.getElem?_eq_some_iff.1 hs
  have hsr:=h.found.rng s (List.mem_of_getElem? hs)
  have hrow:=(jb9 hr (show s.toNat < a.next.length by omega)).2.2
  obtain ⟨⟨l,h1⟩,h2,h3,h4⟩:=jcU (a:=a) (cl:=cl) (a.next.getD s.toNat []) fs h.found (fun t ht=>(hrow t ht).2)
  have hz:=List.getElem?_eq_some_iff.1 h.zero
  refine ⟨h2,by rw [h1,List.getElem?_append_left hz.1];exact h.zero,by simp [h.ln],by simp [h.lr],by rw [h1];simp;omega,fun k hk=>?_⟩
  by_cases e : k = i
  · subst e
    refine ⟨s,(rowS cl (a.next.getD s.toNat []) fs).1,by rw [h1,List.getElem?_append_left hi];exact hs,by rw [List.getElem?_append_right (by rw [h.lr];exact Nat.le_refl _),h.lr];simp,by rw [List.getElem?_append_right (by rw [h.ln];exact Nat.le_refl _),h.ln];simp,h3,h4⟩
  · obtain ⟨s',r,g1,g2,g3,g4,g5⟩:=h.row k (by omega)
    refine ⟨s',r,by rw [h1,List.getElem?_append_left (List.getElem?_eq_some_iff.1 g1).1];exact g1,by rw [List.getElem?_append_left (by rw [h.lr];omega)];exact g2,by rw [List.getElem?_append_left (by rw [h.ln];omega)];exact g3,g4,fun c t hc=>?_⟩
    obtain ⟨x,y1,y2⟩:=g5 c t hc
    exact ⟨x,y1,by rw [h1];exact y2.more⟩
theorem jk2 {a : Dfa} {cl : List Int} (hr : rightD a = true) : ∀ (f i : Nat) (fs : List Int) (nx : List (List Int)) (rl : List Int),RunI a cl i fs nx rl -> a.next.length + 1 <= f + i -> ∃ fs' nx' rl',RunI a cl fs'.length fs' nx' rl' /\ runS a cl f i fs nx rl = ⟨nx',rl'⟩
  | 0,i,fs,nx,rl,h,hf=>by
    have:=h.found.le
    have:=h.le
    omega
  | f + 1,i,fs,nx,rl,h,hf=>by
    rw [runS]
    cases hs : fs[i]? with
    | none=>
      have : i = fs.length:=by
        have:=h.le
        rcases Nat.lt_or_ge i fs.length with h' | h'
        · rw [List.getElem?_eq_getElem h'] at hs;cases hs
        · omega
      subst this
      exact ⟨fs,nx,rl,h,rfl⟩
    | some s=>exact jk2 hr f (i + 1) _ _ _ (jlk hr h hs) (by omega)
def smallOf (a : Dfa) (cl : List Int) : Dfa:=runS a cl (a.next.length + 1) 0 [0] [] []
theorem jky (d : Dfa) (a c : Int) (w : List Int) : outD d a (c :: w) = if nextD d a c < 0 then -1 else outD d (nextD d a c) w:=by
  unfold outD
  rw [runD]
  by_cases hn : nextD d a c < 0
  · rw [if_pos hn,if_pos (by omega),if_pos hn]
  · rw [if_neg hn,if_neg hn]
theorem jk9 (d : Dfa) (s : Nat) : outD d s [] = d.rule.getD s 0:=by
  unfold outD runD
  rw [if_neg (by omega)]
  show d.rule.getD (s : Int).toNat 0 = _
  rw [Int.toNat_natCast]
theorem jwK {a : Dfa} {cl : List Int} {i j c : Nat} {t u : Int} (h : keyOf a cl i = keyOf a cl j) (hl : (a.next.getD i []).length = (a.next.getD j []).length) (h1 : (a.next.getD i [])[c]? = some t) (h2 : (a.next.getD j [])[c]? = some u) : (if 0 <= t then cl.getD t.toNat 0 else -1) = (if 0 <= u then cl.getD u.toNat 0 else -1):=by
  have:=congrArg (fun l=>l[c]?) h
  simp only [keyOf] at this
  have c1:=(List.getElem?_eq_some_iff.1 h1).1
  have c2:=(List.getElem?_eq_some_iff.1 h2).1
  rw [List.getElem?_append_left (by simpa using c1),List.getElem?_append_left (by simpa using c2),List.getElem?_map,List.getElem?_map,h1,h2] at this
  simpa using this
theorem jrW {a : Dfa} {cl : List Int} (hr : rightD a = true) (ht : tyM a) (hs : Stable a cl) : rightD (smallOf a cl) = true /\ tyM (smallOf a cl) /\ ∀ w,outD (smallOf a cl) 0 w = outD a 0 w:=by
  have hl:=jaA hr
  have h0 : RunI a cl 0 [0] [] []:=⟨⟨fun s hs=>by rw [List.mem_singleton.1 hs];omega,by simp⟩,rfl,rfl,rfl,by omega,fun k hk=>by omega⟩
  obtain ⟨fs,nx,rl,h,he⟩:=jk2 hr (a.next.length + 1) 0 [0] [] [] h0 (by omega)
  unfold smallOf
  rw [he]
  have hfl:=h.found.le
  have hz:=(List.getElem?_eq_some_iff.1 h.zero).1
  have hst : ∀ (k : Nat) (s : Int),fs[k]? = some s -> 0 <= s /\ s.toNat < a.next.length:=fun k s hk=>by
    have:=h.found.rng s (List.mem_of_getElem? hk)
    omega
  have hcell : ∀ (t x : Int),CellI cl fs t x -> -1 <= t -> -1 <= x /\ x < fs.length:=fun t x hc ht'=>by
    rcases hc with ⟨h1,rfl⟩ | ⟨h1,h2,s,h3,h4⟩
    · omega
    · have:=(List.getElem?_eq_some_iff.1 h3).1
      omega
  have hrow : ∀ k : Nat,k < fs.length -> ∃ (s : Int) (r : List Int),fs[k]? = some s /\ rl.getD k 0 = a.rule.getD s.toNat 0 /\ nx.getD k [] = r /\ r.length = 16 /\ ∀ (c : Nat),c < 16 -> CellI cl fs ((a.next.getD s.toNat []).getD c 0) (r.getD c 0):=fun k hk=>by
    obtain ⟨s,r,g1,g2,g3,g4,g5⟩:=h.row k hk
    have h16:=jbu ht (hst k s g1).2
    refine ⟨s,r,g1,by rw [List.getD_eq_getElem?_getD,g2];rfl,by rw [List.getD_eq_getElem?_getD,g3];rfl,by omega,fun c hc=>?_⟩
    have hg : (a.next.getD s.toNat [])[c]? = some ((a.next.getD s.toNat []).getD c 0):=by
      rw [List.getD_eq_getElem?_getD (l:=a.next.getD s.toNat []),List.getElem?_eq_getElem (by omega)];rfl
    obtain ⟨x,y1,y2⟩:=g5 c _ hg
    rw [show r.getD c 0 = x by rw [List.getD_eq_getElem?_getD,y1];rfl]
    exact y2
  refine ⟨?_,?_,?_⟩
  · simp only [rightD,Bool.and_eq_true,decide_eq_true_eq,allN_iff,h.ln,h.lr]
    refine ⟨⟨by omega,by omega,trivial⟩,fun k _ hk=>?_⟩
    obtain ⟨s,r,g1,g2,g3,g4,g5⟩:=hrow k (by omega)
    obtain ⟨q1,q2⟩:=hst k s g1
    obtain ⟨r1,r2,r3⟩:=jb9 hr q2
    unfold rowOkD
    simp only [Bool.and_eq_true,decide_eq_true_eq,List.all_eq_true,toOk,h.ln]
    rw [g2,g3]
    refine ⟨⟨r1,r2⟩,fun x hx=>?_⟩
    obtain ⟨c,hc,rfl⟩:=List.mem_iff_getElem.1 hx
    have:=g5 c (by omega)
    rw [show r.getD c 0 = r[c] by simp [List.getD_eq_getElem?_getD,hc]] at this
    exact hcell _ _ this (jb3 hr ht q2 (by omega)).1
  · intro r hr'
    obtain ⟨k,hk,rfl⟩:=List.mem_iff_getElem.1 hr'
    have hk' : k < nx.length:=hk
    obtain ⟨s,r,g1,g2,g3,g4,g5⟩:=hrow k (by rw [<- h.ln];exact hk')
    rw [List.getD_eq_getElem?_getD,List.getElem?_eq_getElem hk'] at g3
    have e : nx[k] = r:=g3
    show nx[k].length = 16
    rw [e];exact g4
  · have key : ∀ (w : List Int) (k : Nat) (s u : Int),fs[k]? = some s -> 0 <= u -> u.toNat < a.next.length -> cl.getD s.toNat 0 = cl.getD u.toNat 0 -> outD ⟨nx,rl⟩ k w = outD a u w:=by
      intro w
      induction w with
      | nil=>
        intro k s u hk hu0 hu1 hcl
        obtain ⟨s',r,g1,g2,g3,g4,g5⟩:=hrow k (List.getElem?_eq_some_iff.1 hk).1
        rw [hk] at g1;cases g1
        have:=hs.rule _ _ (hst k s hk).2 hu1 hcl
        rw [jk9,show u = ((u.toNat : Nat) : Int) by omega,jk9]
        show rl.getD k 0 = _
        rw [g2,this]
      | cons c w ih=>
        intro k s u hk hu0 hu1 hcl
        obtain ⟨s',r,g1,g2,g3,g4,g5⟩:=hrow k (List.getElem?_eq_some_iff.1 hk).1
        rw [hk] at g1;cases g1
        obtain ⟨q1,q2⟩:=hst k s hk
        rw [jky,jky]
        by_cases hc : c < 0 ∨ 16 <= c
        · have e1 : nextD ⟨nx,rl⟩ k c = -1:=by simp [nextD,hc]
          have e2 : nextD a u c = -1:=by simp [nextD,hc]
          rw [e1,e2,if_pos (by omega),if_pos (by omega)]
        · have e1 : nextD ⟨nx,rl⟩ k c = r.getD c.toNat 0:=by
            unfold nextD
            rw [if_neg hc,Int.toNat_natCast]
            show (nx.getD k []).getD c.toNat 0 = _
            rw [g3]
          have e2 : nextD a u c = (a.next.getD u.toNat []).getD c.toNat 0:=by
            unfold nextD
            rw [if_neg hc]
          rw [e1,e2]
          have hx:=g5 c.toNat (by omega)
          have hks:=hs.key _ _ q2 hu1 hcl
          have hl1:=jbu ht q2
          have hl2:=jbu ht hu1
          have hb:=jb3 hr ht hu1 (show c.toNat < 16 by omega)
          have hka:=jwK (c:=c.toNat) (t:=(a.next.getD s.toNat []).getD c.toNat 0) (u:=(a.next.getD u.toNat []).getD c.toNat 0) hks (by omega)
            (by rw [List.getD_eq_getElem?_getD (l:=a.next.getD s.toNat []),List.getElem?_eq_getElem (by omega)];rfl) (by rw [List.getD_eq_getElem?_getD (l:=a.next.getD u.toNat []),List.getElem?_eq_getElem (by omega)];rfl)
          generalize (a.next.getD s.toNat []).getD c.toNat 0 = t at hx hka
          generalize (a.next.getD u.toNat []).getD c.toNat 0 = v at hb hka ⊢
          generalize r.getD c.toNat 0 = x at hx ⊢
          have hpt:=hs.pos t.toNat
          have hpv:=hs.pos v.toNat
          rcases hx with ⟨h1,rfl⟩ | ⟨h1,h2,s',h3,h4⟩
          · rw [if_neg (by omega)] at hka
            have hv : ¬ 0 <= v:=fun h'=>by rw [if_pos h'] at hka;omega
            rw [if_pos h1,if_pos (by omega)]
          · rw [if_pos h1] at hka
            have hv : 0 <= v:=by
              rcases Int.lt_or_le v 0 with h' | h'
              · rw [if_neg (by omega)] at hka;omega
              · exact h'
            rw [if_pos hv] at hka
            rw [if_neg (by omega),if_neg (by omega)]
            have:=ih x.toNat s' v h3 hv (by omega) (by rw [h4,hka])
            rwa [Int.toNat_of_nonneg h2] at this
    intro w
    exact key w 0 0 0 h.zero (by omega) (by have:=hl.1;simp;omega) rfl
theorem jfQ {d : Dfa} (hr : rightD d = true) (ht : tyM d) : rightD (smallOf (aliveM d) (classesM (aliveM d))) = true /\ tyM (smallOf (aliveM d) (classesM (aliveM d))) /\ ∀ w,matchD (smallOf (aliveM d) (classesM (aliveM d))) w = matchD d w:=by
  have hl:=jaA hr
  obtain ⟨h1,h2,h3⟩:=jrW (jcP hr) (jel ht) (jdR (jcP hr))
  refine ⟨h1,h2,fun w=>?_⟩
  have:=(h3 w).trans (jo2 hr ht w (s:=0) (by omega))
  unfold matchD
  rw [if_pos h1,if_pos hr]
  exact this
noncomputable def smallM (d : Dfa) : Dfa:=smallOf (aliveM d) (classesM (aliveM d))
end Go.Proofs.W
end
