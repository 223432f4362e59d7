/- Texts that stand behind this claim, one after the other. -/
import Derived.Test.YtiaonafhegbhjaaGreatDoorM2
import Derived.TacticsIn
import Derived.OrdersIn
set_option maxHeartbeats 4000000
set_option linter.unusedVariables false
set_option linter.unusedSimpArgs false
section
namespace Vm
open Go Go.RowKit
section
variable {P : Program} {A : Ann} {call : CallF} {N : Nat} {ops : Array Oper}
theorem jbd {k : Nat} : ∀ {l l' : List D} {H : Heap},stripL l = some l' -> purL (pur (k + 1)) H l = some (l',H)
  | [],l',H,h=>by simp [stripL] at h;subst h;rfl
  | d :: r,l',H,h=>by
    obtain ⟨d',r',h0,h1,rfl⟩:=jaY h
    have hp : pur (k + 1) H d = some (d',H):=by simp only [pur,h0]
    have ih:=jbd (k:=k) (H:=H) h1
    simp only [purL,hp,Option.bind_some,ih,Option.map_some]
theorem jaz {l l' : List D} {H : Heap} (h : stripL l = some l') : pures H l = some (l',H):=jbd h
theorem jcw {q : D} (h : strip q = some q) : nilE q = false:=by
  unfold nilE
  split
  · simp [strip,stripL] at h
  · rfl
def fzO (A : Ann) : Op -> Bool
  | .buildSlice t _ _=>A.fz t
  | _=>false
theorem jli {o : Op} {e : Env} {H : Heap} {r : R} (hz : fzO A o = false) (h : stepX P A call o e H = some r) : stepOp P A call o e H = some r:=by
  unfold stepX at h
  split at h
  · rename_i c
    split at h
    · split at h
      · obtain ⟨args,h1,h2⟩:=bind_some h
        split at h2
        · exact h2
        · cases h2
      · exact h
    · obtain ⟨args,h1,h2⟩:=bind_some h
      split at h2
      · exact h2
      · cases h2
    · exact h
  · rename_i t n ps
    have hz' : A.fz t = false:=hz
    rw [if_neg (by simp [hz'])] at h
    exact h
  · exact h
theorem jkK {x : Option (D × Heap)} {H : Heap} {r : R} (h : fzR x H = some r) : (∃ n xs ys,x = some (.vec 0 0 n,[.arr xs]) /\ n = xs.length /\ stripL xs = some ys /\ r = .ok (.sl false ys) H) ∨ (∃ f,x = some (.sl f [],[]) /\ r = .ok (.sl false []) H):=by
  unfold fzR at h
  split at h
  · split at h
    · rename_i hn
      obtain ⟨ys,h1,rfl⟩:=map_some h
      exact .inl ⟨_,_,ys,rfl,hn,h1,rfl⟩
    · cases h
  · rename_i f
    cases h
    exact .inr ⟨f,rfl,rfl⟩
  · cases h
theorem jaf {e e' : Env} {x : Operand} (h : ∀ t,x = .tmp t -> e t = e' t) : evalO e x = evalO e' x:=by
  cases x <;> simp only [evalO]
  exact congrArg some (h _ rfl)
theorem jbP {e e' : Env} : ∀ {l : List Operand},(∀ t,Operand.tmp t ∈ l -> e t = e' t) -> evalOs e l = evalOs e' l
  | [],_=>rfl
  | x :: r,h=>by
    simp only [evalOs]
    rw [jaf (fun t ht=>h t (by simp [ht])),jbP (fun t ht=>h t (by simp [ht]))]
theorem jcn {e e' : Env} {x : Option Operand} (h : ∀ t,x = some (.tmp t) -> e t = e' t) : evalOo e x = evalOo e' x:=by
  cases x with
  | none=>rfl
  | some x=>simp only [evalOo];rw [jaf (fun t ht=>h t (by rw [ht]))]
theorem jcs {e e' : Env} : ∀ {l : List (Nat × Operand)},(∀ t,Operand.tmp t ∈ l.map (·.2) -> e t = e' t) -> partsD e l = partsD e' l
  | [],_=>rfl
  | (i,x) :: r,h=>by
    simp only [partsD]
    rw [jaf (fun t ht=>h t (by simp [ht])),jcs (fun t ht=>h t (by simp at ht ⊢;exact .inr ht))]
theorem jeT {o : Op} {e e' : Env} {H : Heap} (h : ∀ t,Operand.tmp t ∈ o.operands.toList -> e t = e' t) : stepOp P A call o e H = stepOp P A call o e' H:=by
  cases o <;> simp only [Op.operands] at h <;> simp only [stepOp] <;> first | rfl | skip
  case build t ps=>rw [jcs (e':=e') (fun t ht=>h t (by simpa using ht))]
  case buildSlice t n ps=>rw [jcs (e':=e') (fun t ht=>h t (by simpa using ht))]
  case makeFunc fn fs cs=>
    cases fn <;> simp only
    rw [jbP (e':=e') (l:=cs.toList) (fun t ht=>h t (by simp;right;simpa using ht)),jbP (e':=e') (l:=fs.toList) (fun t ht=>h t (by simp;left;simpa using ht))]
  case slice t x lo hi mx=>
    rw [jaf (e':=e') (x:=x) (fun t ht=>h t (by simp [ht])),jcn (e':=e') (x:=lo) (fun t ht=>h t (by simp [ht])),jcn (e':=e') (x:=hi) (fun t ht=>h t (by simp [ht])),jcn (e':=e') (x:=mx) (fun t ht=>h t (by simp [ht]))]
  case call c=>
    rw [jbP (e':=e') (fun t ht=>h t (by simp [Call.operands] at ht ⊢;exact .inr ht))]
    cases hc : c.callee with
    | builtin b=>rfl
    | invoke x y=>rfl
    | value f=>simp only;rw [jaf (e':=e') (x:=f) (fun t ht=>h t (by simp [Call.operands,hc,ht]))]
  case makeMap t x=>rw [jcn (e':=e') (x:=x) (fun t ht=>h t (by simp [ht]))]
  case lookup t x y z=>rw [jaf (e':=e') (x:=x) (fun t ht=>h t (by simp [ht])),jaf (e':=e') (x:=y) (fun t ht=>h t (by simp [ht]))]
  case mapUpdate t x y z=>rw [jaf (e':=e') (x:=x) (fun t ht=>h t (by simp [ht])),jaf (e':=e') (x:=y) (fun t ht=>h t (by simp [ht])),jaf (e':=e') (x:=z) (fun t ht=>h t (by simp [ht]))]
  case insert t x y z=>rw [jaf (e':=e') (x:=x) (fun t ht=>h t (by simp [ht])),jaf (e':=e') (x:=y) (fun t ht=>h t (by simp [ht])),jaf (e':=e') (x:=z) (fun t ht=>h t (by simp [ht]))]
  case pick c x y=>
    rw [jaf (e':=e') (x:=c) (fun t ht=>h t (by simp [ht])),jaf (e':=e') (x:=x) (fun t ht=>h t (by simp [ht])),jaf (e':=e') (x:=y) (fun t ht=>h t (by simp [ht]))]
  case load t x=>rw [jaf (e':=e') (x:=x) (fun t ht=>h t (by simp [ht]))]
  case box t x=>rw [jaf (e':=e') (x:=x) (fun t ht=>h t (by simp [ht]))]
  case move x=>rw [jaf (e':=e') (x:=x) (fun t ht=>h t (by simp [ht]))]
  case assign x=>rw [jaf (e':=e') (x:=x) (fun t ht=>h t (by simp [ht]))]
  case nilCheck x=>rw [jaf (e':=e') (x:=x) (fun t ht=>h t (by simp [ht]))]
  case unOp o t x=>rw [jaf (e':=e') (x:=x) (fun t ht=>h t (by simp [ht]))]
  case convert s t x=>rw [jaf (e':=e') (x:=x) (fun t ht=>h t (by simp [ht]))]
  case makeInterface t x=>rw [jaf (e':=e') (x:=x) (fun t ht=>h t (by simp [ht]))]
  case fieldAddr t x f=>rw [jaf (e':=e') (x:=x) (fun t ht=>h t (by simp [ht]))]
  case field t x f=>rw [jaf (e':=e') (x:=x) (fun t ht=>h t (by simp [ht]))]
  case extract x i=>rw [jaf (e':=e') (x:=x) (fun t ht=>h t (by simp [ht]))]
  case typeAssert x xt t ok=>rw [jaf (e':=e') (x:=x) (fun t ht=>h t (by simp [ht]))]
  case panic x=>rw [jaf (e':=e') (x:=x) (fun t ht=>h t (by simp [ht]))]
  case store t x y=>rw [jaf (e':=e') (x:=x) (fun t ht=>h t (by simp [ht])),jaf (e':=e') (x:=y) (fun t ht=>h t (by simp [ht]))]
  case binOp o t x y yt=>rw [jaf (e':=e') (x:=x) (fun t ht=>h t (by simp [ht])),jaf (e':=e') (x:=y) (fun t ht=>h t (by simp [ht]))]
  case makeSlice t x y=>rw [jaf (e':=e') (x:=x) (fun t ht=>h t (by simp [ht])),jaf (e':=e') (x:=y) (fun t ht=>h t (by simp [ht]))]
  case indexAddr t x y=>rw [jaf (e':=e') (x:=x) (fun t ht=>h t (by simp [ht])),jaf (e':=e') (x:=y) (fun t ht=>h t (by simp [ht]))]
  case index t x y=>rw [jaf (e':=e') (x:=x) (fun t ht=>h t (by simp [ht])),jaf (e':=e') (x:=y) (fun t ht=>h t (by simp [ht]))]
theorem jfY {o : Op} {e e' : Env} {H : Heap} (h : ∀ t,Operand.tmp t ∈ o.operands.toList -> e t = e' t) : stepX P A call o e H = stepX P A call o e' H:=by
  have h0:=jeT (P:=P) (A:=A) (call:=call) (H:=H) h
  cases o <;> simp only [stepX] <;> first | exact h0 | skip
  case buildSlice t n ps=>
    have h2 : partsD e ps.toList = partsD e' ps.toList:=jcs fun t ht=>h t (by simpa [Op.operands] using ht)
    rw [h0,h2]
  rename_i c
  have h1 : evalOs e c.args.toList = evalOs e' c.args.toList:=jbP (fun t ht=>h t (by simp [Op.operands,Call.operands] at ht ⊢;exact .inr ht))
  rw [h0,h1]
theorem jbg {e : Env} {x : Operand} {p : D} (h : evalO e x = some p) {l : List Operand} (hx : x ∈ l) : ∀ r ∈ objsD p,r ∈ objsE e (slotsO l):=by
  intro r hr
  cases x with
  | tmp t=>
    simp only [evalO,Option.some.injEq] at h
    exact List.mem_flatMap.2 ⟨t,List.mem_filterMap.2 ⟨.tmp t,hx,rfl⟩,by rw [h];exact hr⟩
  | const v=>
    simp only [evalO] at h
    have : objsD p = []:=by
      unfold ofV at h
      split at h <;> first | (cases h;done) | (cases h;rfl) | skip
      split at h
      · obtain ⟨_,_,rfl⟩:=map_some h;rfl
      · cases h
    rw [this] at hr;cases hr
  | global g=>simp [evalO] at h
  | func f=>simp only [evalO,Option.some.injEq] at h;subst h;cases hr
theorem jjI {e : Env} : ∀ {l : List Operand} {args : List D},evalOs e l = some args -> ∀ r ∈ args.flatMap objsD,r ∈ objsE e (slotsO l)
  | [],args,h,r,hr=>by simp [evalOs] at h;subst h;simp at hr
  | x :: l,args,h,r,hr=>by
    simp only [evalOs] at h
    obtain ⟨d,h1,h2⟩:=bind_some h
    obtain ⟨ds,h3,rfl⟩:=map_some h2
    simp only [List.flatMap_cons,List.mem_append] at hr
    rcases hr with hr | hr
    · exact jbg h1 (by simp) r hr
    · have:=jjI h3 r hr
      obtain ⟨t,ht1,ht2⟩:=List.mem_flatMap.1 this
      obtain ⟨y,hy1,hy2⟩:=List.mem_filterMap.1 ht1
      exact List.mem_flatMap.2 ⟨t,List.mem_filterMap.2 ⟨y,by simp [hy1],hy2⟩,ht2⟩
theorem jtD {t : TypeId} {H H2 : Heap} {p : D} (h : ∀ r ∈ objsD p,hget H2 r = hget H r) : loadD P t H2 p = loadD P t H p:=by
  cases p <;> simp only [loadD]
  rw [h _ (by simp [objsD])]
theorem jlj {H H2 : Heap} {p : D} (h : ∀ r ∈ objsD p,hget H2 r = hget H r) : elems H2 p = elems H p:=by
  cases p <;> simp only [elems]
  rw [h _ (by simp [objsD])]
theorem jhI {H H2 : Heap} {r n : Nat} (h : hget H2 r = hget H r) : vecSize H2 r n = vecSize H r n:=by unfold vecSize;rw [h]
theorem jjl {t : TypeId} {H H2 : Heap} {x i : D} (h : ∀ r ∈ objsD x,hget H2 r = hget H r) : indexAddrD P t H2 x i = indexAddrD P t H x i:=by
  unfold indexAddrD
  cases x
  case vec r o n=>
    have hv : ∀ z,vecSize H2 r z = vecSize H r z:=fun z=>jhI (h r (by simp [objsD]))
    cases P.underlying t with | none=>rfl | some u=>cases u <;> first | rfl | (dsimp only;simp only [hv])
  all_goals (cases P.underlying t with | none=>rfl | some u=>cases u <;> rfl)
theorem jpY {t : TypeId} {H H2 : Heap} {x : D} {lo hi mx : Option D} (h : ∀ r ∈ objsD x,hget H2 r = hget H r) : sliceD P t H2 x lo hi mx = sliceD P t H x lo hi mx:=by
  unfold sliceD
  cases x
  case vec r o n=>
    have hv : ∀ z,vecSize H2 r z = vecSize H r z:=fun z=>jhI (h r (by simp [objsD]))
    cases P.underlying t with | none=>rfl | some u=>cases u <;> cases mx <;> first | rfl | (dsimp only;simp only [hv])
  all_goals (cases P.underlying t with | none=>rfl | some u=>cases u <;> cases mx <;> rfl)
theorem jvD {t : TypeId} {H H2 : Heap} {x : D} (h : ∀ r ∈ objsD x,hget H2 r = hget H r) : lenD P t H2 x = lenD P t H x:=by
  unfold lenD
  cases x
  case map r=>
    have hv:=h r (by simp [objsD])
    cases P.underlying t with | none=>rfl | some u=>cases u <;> first | rfl | (dsimp only;simp only [hv])
  all_goals (cases P.underlying t with | none=>rfl | some u=>cases u <;> rfl)
theorem jou {t : TypeId} {H H2 : Heap} {m k : D} {ok : Bool} (h : ∀ r ∈ objsD m,hget H2 r = hget H r) : lookupD P t H2 m k ok = lookupD P t H m k ok:=by
  unfold lookupD
  cases m
  case map r=>
    have hv:=h r (by simp [objsD])
    simp only [hv]
  all_goals rfl
theorem jj4 {s t : TypeId} {H H2 H1 : Heap} {x d : D} (h : ∀ r ∈ objsD x,hget H2 r = hget H r) (hc : convD P s t x H = some (d,H1)) : H1 = H /\ convD P s t x H2 = some (d,H2):=by
  unfold convD at hc ⊢
  split at hc
  · rename_i h1 h2;cases hc;exact ⟨rfl,by simp [h1,h2]⟩
  · rename_i h1 h2;cases hc;exact ⟨rfl,by simp [h1,h2]⟩
  · rename_i e x' h1 h2
    split at hc
    · rename_i h3
      obtain ⟨xs,h4,h5⟩:=bind_some hc
      obtain ⟨s',h6,h7⟩:=map_some h5
      cases h7
      exact ⟨rfl,by simp [h1,h2,h3,jlj h,h4,h6]⟩
    · cases hc
  · rename_i tt r i j h1 h2
    have e2:=h r (by simp [objsD])
    split at hc
    · rename_i xs hg
      obtain ⟨x,h3,h4⟩:=bind_some hc
      obtain ⟨y,h5,h6⟩:=bind_some h4
      obtain ⟨z,h7,h8⟩:=map_some h6
      cases h8
      exact ⟨rfl,by simp only [h1,h2,e2,hg,h3,h5,h7,Option.bind_some,Option.map_some]⟩
    · cases hc
  · cases hc
def turnH (f : Option (Nat × Ob)) (L : List Ob) (H : Heap) : Heap:=(match f with | some (r,ob)=>H.set r ob | none=>H) ++ L
theorem turnH_none {H : Heap} : turnH none [] H = H:=by simp [turnH]
theorem jdf {f : Option (Nat × Ob)} {L : List Ob} {H : Heap} : (turnH f L H).length = H.length + L.length:=by
  unfold turnH;cases f <;> simp
structure Shape (P : Program) (A : Ann) (call : CallF) (o : Op) (e : Env) (H H1 : Heap) (d : D) (f : Option (Nat × Ob)) (L : List Ob) : Prop where
  eq : H1 = turnH f L H
  wr : ∀ r ob,f = some (r,ob) -> r ∈ objsE e (slotsO (writeOps o)) /\ hget H r ≠ .dead
  gr : growO A o = false -> L = []
  one : L.length <= 1
  new : L ≠ [] -> H.length ∈ objsD d
  any : ∀ H2,(growO A o = true -> H2.length = H.length) -> (∀ r ∈ objsE e (slotsO (readOps A o)),hget H2 r = hget H r) -> stepX P A call o e H2 = some (.ok d (turnH f L H2))
theorem jbB {o : Op} {e : Env} {H : Heap} {d : D} (h : ∀ H2,(growO A o = true -> H2.length = H.length) -> (∀ r ∈ objsE e (slotsO (readOps A o)),hget H2 r = hget H r) -> stepX P A call o e H2 = some (.ok d H2)) : Shape P A call o e H H d none []:=
  ⟨turnH_none.symm,fun r ob h=>(by cases h),fun _=>rfl,Nat.zero_le _,fun h=>absurd rfl h,fun H2 h1 h2=>by rw [turnH_none];exact h H2 h1 h2⟩
theorem jbF {o : Op} {e : Env} {H : Heap} {d : D} {ob : Ob} (hg : growO A o = true) (hd : H.length ∈ objsD d) (h : ∀ H2,H2.length = H.length -> (∀ r ∈ objsE e (slotsO (readOps A o)),hget H2 r = hget H r) -> stepX P A call o e H2 = some (.ok d (H2 ++ [ob]))) : Shape P A call o e H (H ++ [ob]) d none [ob]:=
  ⟨rfl,fun r ob h=>(by cases h),fun h=>(by rw [hg] at h;cases h),Nat.le_refl _,fun _=>hd,fun H2 h1 h2=>h H2 (h1 hg) h2⟩
theorem jlz {t : TypeId} {a x : Operand} {e : Env} {H H1 : Heap} {d : D} (h : stepX P A call (.store t a x) e H = some (.ok d H1)) : ∃ f L,Shape P A call (.store t a x) e H H1 d f L:=by
  have h0:=h
  simp only [stepX,stepOp] at h
  obtain ⟨p,h1,h2⟩:=bind_some h
  obtain ⟨v,h3,h4⟩:=bind_some h2
  obtain ⟨H',h5,h6⟩:=jdj h4
  cases h6
  cases p <;> simp only [storeD] at h5 <;> try (cases h5;done)
  rename_i r i j
  cases hg : hget H r <;> simp only [hg] at h5 <;> try (cases h5;done)
  rename_i xs
  obtain ⟨n,g1,g2⟩:=bind_some h5
  split at g2
  · rename_i hv
    obtain ⟨y,g3,g4⟩:=bind_some g2
    obtain ⟨z,g5,rfl⟩:=map_some g4
    have hr : r ∈ objsE e (slotsO [a]):=jbg h1 (by simp) r (by simp [objsD])
    refine ⟨some (r,.arr (xs.set i z)),[],by simp [turnH],fun r' ob' e'=>?_,fun _=>rfl,Nat.zero_le _,fun h=>absurd rfl h,fun H2 _ hH=>?_⟩
    · cases e'
      exact ⟨hr,by rw [hg];intro h;cases h⟩
    · have e2:=hH r hr
      simp only [stepX,stepOp,h1,h3,Option.bind_some,storeD,e2,hg,g1,if_pos hv,g3,g5,Option.map_some]
      simp [okU,turnH,ud]
  · cases g2
theorem jfk {o : Op} {t : TypeId} {a k x : Operand} {e : Env} {H H1 : Heap} {d : D} (ho : o = .mapUpdate t a k x ∨ o = .insert t a k x) (h : stepX P A call o e H = some (.ok d H1)) : ∃ f L,Shape P A call o e H H1 d f L:=by
  have hst : ∀ H,stepX P A call o e H = (evalO e a).bind fun m=>(evalO e k).bind fun k=>(evalO e x).bind fun v=>okU (updateD P t H m k v):=fun H=>by rcases ho with rfl | rfl <;> rfl
  have hrd : readOps A o = [a]:=by rcases ho with rfl | rfl <;> rfl
  have hwr : writeOps o = [a]:=by rcases ho with rfl | rfl <;> rfl
  rw [hst] at h
  obtain ⟨p,h1,h2⟩:=bind_some h
  obtain ⟨q,h3,h4⟩:=bind_some h2
  obtain ⟨v,h5,h6⟩:=bind_some h4
  obtain ⟨H',h7,h8⟩:=jdj h6
  cases h8
  unfold updateD at h7
  split at h7
  · rename_i kt vt r hu
    split at h7
    · cases h7
    · rename_i hk
      have hr : r ∈ objsE e (slotsO [a]):=jbg h1 (by simp) r (by simp [objsD])
      cases hg : hget H r <;> simp only [hg] at h7 <;> try (cases h7;done)
      rename_i es
      obtain ⟨f,g1,g2⟩:=map_some h7
      have key : ∃ ob,H1 = H.set r ob /\ ∀ H2,hget H2 r = hget H r -> updateD P t H2 (.map r) q v = some (H2.set r ob):=by
        cases f with
        | none=>
          simp only at g2
          exact ⟨.map (es ++ [(q,v)]),g2.symm,fun H2 e2=>by unfold updateD;simp only [hu,if_neg hk,e2,hg,g1,Option.map_some]⟩
        | some pr=>
          obtain ⟨i,y⟩:=pr
          simp only at g2
          exact ⟨.map (es.modify i fun e=>(e.1,v)),g2.symm,fun H2 e2=>by unfold updateD;simp only [hu,if_neg hk,e2,hg,g1,Option.map_some]⟩
      obtain ⟨ob,k1,k2⟩:=key
      refine ⟨some (r,ob),[],by simp [turnH,k1],fun r' ob' e'=>?_,fun _=>rfl,Nat.zero_le _,fun h=>absurd rfl h,fun H2 _ hH=>?_⟩
      · cases e'
        exact ⟨by rw [hwr];exact hr,by rw [hg];intro h;cases h⟩
      · rw [hst]
        simp only [h1,h3,h5,Option.bind_some]
        rw [k2 H2 (hH r (by rw [hrd];exact hr))]
        simp [okU,turnH,ud]
  · cases h7
theorem jam {H H1 H2 : Heap} {x : Option D} {d : D} (h : okD H x = some (.ok d H1)) : H1 = H /\ okD H2 x = some (.ok d H2):=by
  obtain ⟨d',h1,h2⟩:=jaO h
  cases h2
  exact ⟨rfl,by simp [okD,h1]⟩
theorem jhf {ts : List TypeId} {args : List D} {H : Heap} {r : D × Heap} (h : builtinD P .len ts args H = some r) : ∃ t x,ts = [t] /\ args = [x]:=by
  match ts,args,h with
  | [t],[x],_=>exact ⟨t,x,rfl,rfl⟩
  | [],_,h=>cases h
  | [t],[],h=>cases h
  | [t],_ :: _ :: _,h=>cases h
  | _ :: _ :: _,_,h=>cases h
theorem jeN {ts : List TypeId} {args : List D} {H : Heap} {r : D × Heap} (h : builtinD P .append ts args H = some r) : ∃ t u s x,ts = [t,u] /\ args = [s,x]:=by
  match ts,args,h with
  | [t,u],[s,x],_=>exact ⟨t,u,s,x,rfl,rfl⟩
  | [],_,h=>cases h
  | [t],_,h=>cases h
  | [t,u],[],h=>cases h
  | [t,u],[_],h=>cases h
  | [t,u],_ :: _ :: _ :: _,h=>cases h
  | _ :: _ :: _ :: _,_,h=>cases h
theorem je3 {ts : List TypeId} {l : List D} {H : Heap} : builtinD P .min ts l H = (fold1 minD l).map (·,H):=by cases ts <;> rfl
theorem jfu {ts : List TypeId} {l : List D} {H : Heap} : builtinD P .max ts l H = (fold1 maxD l).map (·,H):=by cases ts <;> rfl
theorem joU {e : Env} {l : List Operand} {x : D} (h : evalOs e l = some [x]) : ∃ o ∈ l,evalO e o = some x:=by
  cases l with
  | nil=>simp [evalOs] at h
  | cons o l=>
    simp only [evalOs] at h
    obtain ⟨dd,g1,g2⟩:=bind_some h
    obtain ⟨ll,g3,g4⟩:=map_some g2
    simp only [List.cons.injEq] at g4
    exact ⟨o,by simp,by rw [g1,g4.1]⟩
theorem jna {e : Env} {l : List Operand} {s x : D} (h1 : evalOs e l = some [s,x]) : ∃ o1 o2,l = [o1,o2] /\ evalO e o1 = some s /\ evalO e o2 = some x:=by
  cases l with
  | nil=>simp [evalOs] at h1
  | cons o1 l=>
    simp only [evalOs] at h1
    obtain ⟨d1,g1,g2⟩:=bind_some h1
    obtain ⟨l1,g3,g4⟩:=map_some g2
    simp only [List.cons.injEq] at g4
    cases l with
    | nil=>simp [evalOs] at g3;rw [<- g3] at g4;simp at g4
    | cons o2 l=>
      simp only [evalOs] at g3
      obtain ⟨d2,g5,g6⟩:=bind_some g3
      obtain ⟨l2,g7,g8⟩:=map_some g6
      subst g8
      cases l with
      | nil=>
        simp only [evalOs,Option.some.injEq] at g7
        subst g7
        simp at g4
        exact ⟨o1,o2,rfl,by rw [g1,g4.1],by rw [g5,g4.2]⟩
      | cons o3 l=>
        simp only [evalOs] at g7
        obtain ⟨d3,g9,g10⟩:=bind_some g7
        obtain ⟨l3,g11,g12⟩:=map_some g10
        subst g12
        simp at g4
theorem jiZ {k : ExtK} {args : List D} {H H1 : Heap} {d : D} (hs : (stripL args).isSome = true) (h : extD k args H = some (d,H1)) : H1 = H /\ ∀ H2,extD k args H2 = some (d,H2):=by
  unfold extD at h
  split at h <;> first | (cases h;done) | (simp [stripL,strip] at hs;done) | skip
  cases h
  exact ⟨rfl,fun _=>rfl⟩
theorem jl5 {o : Op} {e : Env} {H H1 : Heap} {d : D} (hq : quietO A o = true) (h : stepX P A call o e H = some (.ok d H1)) : H1 = H /\ Shape P A call o e H H d none []:=by
  suffices hs : H1 = H /\ ∀ H2,(∀ r ∈ objsE e (slotsO (readOps A o)),hget H2 r = hget H r) -> stepX P A call o e H2 = some (.ok d H2) from ⟨hs.1,jbB fun H2 _ h2=>hs.2 H2 h2⟩
  cases o <;> simp only [quietO] at hq <;> try (cases hq;done)
  case buildSlice t n ps=>
    simp only [stepX,if_pos hq] at h ⊢
    obtain ⟨l,g1,g2⟩:=bind_some h
    obtain ⟨l',g3,g4⟩:=bind_some g2
    simp only [g1,g3,Option.bind_some]
    rcases jkK g4 with ⟨n',xs,ys,h1,h2,h3,h4⟩ | ⟨f,h1,h4⟩
    · cases h4
      exact ⟨rfl,fun H2 _=>by rw [h1];simp [fzR,h2,h3]⟩
    · cases h4
      exact ⟨rfl,fun H2 _=>by rw [h1];simp [fzR]⟩
  case move x=>simp only [stepX,stepOp] at h ⊢;exact ⟨(jam (H2:=H) h).1,fun H2 _=>(jam h).2⟩
  case assign x=>simp only [stepX,stepOp] at h ⊢;exact ⟨(jam (H2:=H) h).1,fun H2 _=>(jam h).2⟩
  case pick c x y=>
    simp only [stepX,stepOp] at h ⊢
    obtain ⟨p,h1,h2⟩:=bind_some h
    simp only [h1,Option.bind_some]
    cases p <;> simp only at h2 ⊢ <;> try (cases h2;done)
    exact ⟨(jam (H2:=H) h2).1,fun H2 _=>(jam h2).2⟩
  case nilCheck x=>
    simp only [stepX,stepOp] at h ⊢
    obtain ⟨p,h1,h2⟩:=bind_some h
    simp only [h1,Option.bind_some]
    cases p <;> simp only at h2 ⊢ <;> cases h2 <;> exact ⟨rfl,fun _ _=>rfl⟩
  case binOp op t x y z=>
    simp only [stepX,stepOp] at h ⊢
    obtain ⟨p,h1,h2⟩:=bind_some h
    obtain ⟨q,h3,h4⟩:=bind_some h2
    simp only [h1,h3,Option.bind_some]
    exact ⟨(jam (H2:=H) h4).1,fun H2 _=>(jam h4).2⟩
  case unOp op t x=>
    simp only [stepX,stepOp] at h ⊢
    obtain ⟨p,h1,h2⟩:=bind_some h
    simp only [h1,Option.bind_some]
    exact ⟨(jam (H2:=H) h2).1,fun H2 _=>(jam h2).2⟩
  case makeInterface t x=>
    simp only [stepX,stepOp] at h ⊢
    obtain ⟨p,h1,h2⟩:=bind_some h
    simp only [h1,Option.bind_some]
    split at h2
    · cases h2
    · cases h2;exact ⟨rfl,fun _ _=>rfl⟩
    · cases h2
  case makeFunc fn fs cs=>
    simp only [stepX,stepOp] at h ⊢
    cases fn <;> simp only at h ⊢ <;> try (cases h;done)
    split at h
    · rename_i hf
      obtain ⟨l,h1,h2⟩:=map_some h
      cases h2
      exact ⟨rfl,fun _ _=>by rw [if_pos hf,h1];rfl⟩
    · rename_i hf
      split at h
      · rename_i hcs
        obtain ⟨l,h1,h2⟩:=map_some h
        cases h2
        exact ⟨rfl,fun _ _=>by rw [if_neg hf,if_pos hcs,h1];rfl⟩
      · cases h
  case build t ps=>
    simp only [stepX,stepOp] at h ⊢
    obtain ⟨l,h1,h2⟩:=bind_some h
    simp only [h1,Option.bind_some]
    exact ⟨(jam (H2:=H) h2).1,fun H2 _=>(jam h2).2⟩
  case fieldAddr t x f=>
    simp only [stepX,stepOp] at h ⊢
    obtain ⟨p,h1,h2⟩:=bind_some h
    obtain ⟨⟨o,u⟩,h3,h4⟩:=bind_some h2
    obtain ⟨z,h5,h6⟩:=bind_some h4
    simp only [h1,h3,h5,Option.bind_some]
    exact ⟨(jam (H2:=H) h6).1,fun H2 _=>(jam h6).2⟩
  case field t x f=>
    simp only [stepX,stepOp] at h ⊢
    obtain ⟨p,h1,h2⟩:=bind_some h
    simp only [h1,Option.bind_some]
    cases p <;> simp only at h2 ⊢ <;> try (cases h2;done)
    obtain ⟨⟨o,u⟩,h3,h4⟩:=bind_some h2
    simp only [h3,Option.bind_some]
    exact ⟨(jam (H2:=H) h4).1,fun H2 _=>(jam h4).2⟩
  case index t x i=>
    simp only [stepX,stepOp] at h ⊢
    obtain ⟨p,h1,h2⟩:=bind_some h
    obtain ⟨q,h3,h4⟩:=bind_some h2
    simp only [h1,h3,Option.bind_some]
    exact ⟨(jam (H2:=H) h4).1,fun H2 _=>(jam h4).2⟩
  case lookup t x i ok=>
    simp only [stepX,stepOp] at h ⊢
    obtain ⟨p,h1,h2⟩:=bind_some h
    obtain ⟨q,h3,h4⟩:=bind_some h2
    simp only [h1,h3,Option.bind_some]
    refine ⟨(jam (H2:=H) h4).1,fun H2 hH=>?_⟩
    rw [jou (H:=H) fun r hr=>hH r (jbg h1 (by simp [readOps]) r hr)]
    exact (jam h4).2
  case extract x i=>
    simp only [stepX,stepOp] at h ⊢
    obtain ⟨p,h1,h2⟩:=bind_some h
    simp only [h1,Option.bind_some]
    cases p <;> simp only at h2 ⊢ <;> try (cases h2;done)
    exact ⟨(jam (H2:=H) h2).1,fun H2 _=>(jam h2).2⟩
  case load t x=>
    simp only [stepX,stepOp] at h ⊢
    obtain ⟨p,h1,h2⟩:=bind_some h
    simp only [h1,Option.bind_some]
    refine ⟨(jam (H2:=H) h2).1,fun H2 hH=>?_⟩
    rw [jtD (H:=H) fun r hr=>hH r (jbg h1 (by simp [readOps]) r hr)]
    exact (jam h2).2
  case indexAddr t x i=>
    simp only [stepX,stepOp] at h ⊢
    obtain ⟨p,h1,h2⟩:=bind_some h
    obtain ⟨q,h3,h4⟩:=bind_some h2
    simp only [h1,h3,Option.bind_some]
    refine ⟨(jam (H2:=H) h4).1,fun H2 hH=>?_⟩
    rw [jjl (H:=H) fun r hr=>hH r (jbg h1 (by simp [readOps]) r hr)]
    exact (jam h4).2
  case slice t x lo hi mx=>
    simp only [stepX,stepOp] at h ⊢
    obtain ⟨p,h1,h2⟩:=bind_some h
    obtain ⟨q1,h3,h4⟩:=bind_some h2
    obtain ⟨q2,h5,h6⟩:=bind_some h4
    obtain ⟨q3,h7,h8⟩:=bind_some h6
    simp only [h1,h3,h5,h7,Option.bind_some]
    refine ⟨(jam (H2:=H) h8).1,fun H2 hH=>?_⟩
    rw [jpY (H:=H) fun r hr=>hH r (jbg h1 (by simp [readOps]) r hr)]
    exact (jam h8).2
  case convert s t x=>
    simp only [stepX,stepOp] at h ⊢
    obtain ⟨p,h1,h2⟩:=bind_some h
    simp only [h1,Option.bind_some]
    obtain ⟨d',H',h3,h4⟩:=jaN h2
    cases h4
    refine ⟨(jj4 (H2:=H) (fun _ _=>rfl) h3).1,fun H2 hH=>?_⟩
    rw [(jj4 (H2:=H2) (fun r hr=>hH r (jbg h1 (by simp [readOps]) r hr)) h3).2];rfl
  case call c=>
    simp only [stepX] at h ⊢
    cases hc : c.callee with
    | invoke x y=>simp [hc] at hq
    | builtin b=>
      simp only [hc] at hq h ⊢
      cases b <;> simp only at hq h ⊢ <;> try (cases hq;done)
      case len=>
        simp only [stepOp,hc] at h ⊢
        obtain ⟨args,h1,h2⟩:=bind_some h
        simp only [h1,Option.bind_some]
        obtain ⟨d',H',h3,h4⟩:=jaN h2
        cases h4
        obtain ⟨t,x,hts,rfl⟩:=jhf h3
        rw [hts] at h3 ⊢
        simp only [builtinD] at h3
        obtain ⟨m,h5,h6⟩:=map_some h3
        cases h6
        refine ⟨rfl,fun H2 hH=>?_⟩
        have hx : ∀ r ∈ objsD x,hget H2 r = hget H r:=fun r hr=>hH r (by
          obtain ⟨o,ho1,ho2⟩:=joU h1
          exact jbg ho2 (by simp only [readOps,hc];exact ho1) r hr)
        simp only [builtinD,jvD hx,h5,Option.map_some];rfl
      case min=>
        simp only [stepOp,hc] at h ⊢
        obtain ⟨args,h1,h2⟩:=bind_some h
        simp only [h1,Option.bind_some]
        obtain ⟨d',H',h3,h4⟩:=jaN h2
        cases h4
        rw [je3] at h3
        obtain ⟨m,h5,h6⟩:=map_some h3
        cases h6
        exact ⟨rfl,fun H2 hH=>by rw [je3,h5];rfl⟩
      case max=>
        simp only [stepOp,hc] at h ⊢
        obtain ⟨args,h1,h2⟩:=bind_some h
        simp only [h1,Option.bind_some]
        obtain ⟨d',H',h3,h4⟩:=jaN h2
        cases h4
        rw [jfu] at h3
        obtain ⟨m,h5,h6⟩:=map_some h3
        cases h6
        exact ⟨rfl,fun H2 hH=>by rw [jfu,h5];rfl⟩
    | value f=>
      cases f with
      | func f=>
        simp only [hc] at h hq ⊢
        cases hrd : A.rd f with
        | some g=>
          have hnp : ¬ ((pureC A f || freshC A f) = true):=by simp [pureC,freshC,hrd]
          rw [if_neg hnp] at h
          simp only [if_neg hnp]
          simp only [stepOp,hc] at h ⊢
          obtain ⟨args,h1,h2⟩:=bind_some h
          simp only [h1,Option.bind_some,evalO,List.append_nil] at h2 ⊢
          have hst : ∀ H,callD P A call f args H = if bodied P f = false then none else rdD g args H:=fun H=>by
            unfold callD
            split
            · simp [hrd]
            · simp only [hrd]
          rw [hst] at h2
          split at h2
          · cases h2
          · rename_i hb
            obtain ⟨d',h3,h4⟩:=map_some h2
            cases h4
            refine ⟨rfl,fun H2 hH=>?_⟩
            rw [hst,if_neg hb]
            have hob : (args.flatMap objsD).map (hget H2) = (args.flatMap objsD).map (hget H):=by
              refine List.map_congr_left fun r hr=>hH r ?_
              have hro : readOps A (.call c) = c.args.toList:=by simp [readOps,hc,hrd]
              rw [hro]
              exact jjI h1 r hr
            simp only [rdD,hob,h3,Option.map_some]
        | none=>
        have hq : pureC A f = true:=by simpa [hrd] using hq
        have hq2 : (pureC A f || freshC A f) = true:=by rw [hq];rfl
        rw [if_pos hq2] at h
        simp only [if_pos hq2]
        simp only [pureC,Bool.and_eq_true,beq_iff_eq,Option.isNone_iff_eq_none] at hq
        replace hq:=And.intro hq.1.1 hq.2
        obtain ⟨args,h1,h2⟩:=bind_some h
        simp only [h1,Option.bind_some]
        split at h2
        · rename_i hs
          simp only [if_pos hs]
          obtain ⟨as,has⟩:=Option.isSome_iff_exists.1 hs
          simp only [stepOp,hc,h1,Option.bind_some,evalO,callD] at h2 ⊢
          split at h2
          · rename_i hb
            simp only [if_pos hb,List.append_nil,hrd,Option.isSome_none,Bool.false_eq_true,if_false] at h2 ⊢
            obtain ⟨k,h3,h4⟩:=bind_some h2
            obtain ⟨q,h5,h6⟩:=map_some h4
            cases h6
            obtain ⟨e1,e2⟩:=jiZ hs h5
            refine ⟨e1,fun H2 _=>?_⟩
            simp only [h3,Option.bind_some,e2 H2,Option.map_some]
          · rename_i hb
            simp only [if_neg hb,hrd,hq.1,hq.2,List.append_nil] at h2 ⊢
            simp only [jaz has,Option.bind_some] at h2 ⊢
            obtain ⟨r',h3,h4⟩:=bind_some h2
            simp only [h3,Option.bind_some]
            cases r' with
            | pan _ _=>cases h4
            | ok d1 Hc=>
              simp only at h4 ⊢
              rw [if_neg (by decide)] at h4
              obtain ⟨d2,h5,h6⟩:=map_some h4
              cases h6
              exact ⟨by simp,fun H2 _=>by simp [h5]⟩
        · cases h2
      | _=>simp [hc] at hq
theorem joj {o : Op} {e : Env} {H H1 : Heap} {d : D} (hq : growO A o = true) (h : stepX P A call o e H = some (.ok d H1)) : ∃ f L,Shape P A call o e H H1 d f L:=by
  cases o <;> simp only [growO] at hq <;> try (cases hq;done)
  case alloc t=>
    simp only [stepX,stepOp] at h
    obtain ⟨z,h1,h2⟩:=map_some h
    cases h2
    refine ⟨none,[.arr [z]],jbF rfl (by simp [newOb,objsD]) fun H2 hl _=>?_⟩
    simp [stepX,stepOp,h1,newOb,hl]
  case box t x=>
    simp only [stepX,stepOp] at h
    obtain ⟨p,h1,h2⟩:=bind_some h
    split at h2
    · rename_i hn
      cases h2
      refine ⟨none,[.arr [p]],jbF rfl (by simp [newOb,objsD]) fun H2 hl _=>?_⟩
      simp [stepX,stepOp,h1,newOb,hl,hn]
    · cases h2
  case makeMap t x=>
    simp only [stepX,stepOp] at h
    obtain ⟨p,h1,h2⟩:=bind_some h
    obtain ⟨d',H',h3,h4⟩:=jaN h2
    cases h4
    have key : ∀ H2,makeMapD P t p H2 = some (.map H2.length,H2 ++ [.map []]):=by
      unfold makeMapD at h3 ⊢
      split at h3 <;> first | (rename_i hu;simp only [hu];intro _;trivial) | (cases h3;done)
    rw [key] at h3
    cases h3
    refine ⟨none,[.map []],jbF rfl (by simp [objsD]) fun H2 hl _=>?_⟩
    simp [stepX,stepOp,h1,key,okH,hl]
  case buildSlice t n ps=>
    have hfz : A.fz t = false:=by simpa using hq
    have hg : growO A (.buildSlice t n ps) = true:=hq
    simp only [stepX,hfz,Bool.false_eq_true,if_false,stepOp] at h
    obtain ⟨l,h1,h2⟩:=bind_some h
    obtain ⟨d',H',h3,h4⟩:=jaN h2
    cases h4
    unfold buildSliceD at h3
    obtain ⟨el,g1,g2⟩:=bind_some h3
    obtain ⟨n',g3,g4⟩:=bind_some g2
    obtain ⟨z,g5,g6⟩:=bind_some g4
    split at g6
    · rename_i hc
      split at g6
      · rename_i h0
        split at g6
        · rename_i hp
          cases g6
          refine ⟨none,[],jbB fun H2 hl _=>?_⟩
          simp only [stepX,hfz,Bool.false_eq_true,if_false,stepOp,h1,Option.bind_some,buildSliceD,g1,g3,g5,if_pos hc,if_pos h0,if_pos hp];rfl
        · cases g6
      · rename_i h0
        obtain ⟨xs,g7,g8⟩:=map_some g6
        cases g8
        refine ⟨none,[.arr xs],jbF hg (by simp [objsD]) fun H2 hl _=>?_⟩
        simp only [stepX,hfz,Bool.false_eq_true,if_false,stepOp,h1,Option.bind_some,buildSliceD,g1,g3,g5,if_pos hc,if_neg h0,g7,Option.map_some,hl];rfl
    · cases g6
  case makeSlice t l c=>
    simp only [stepX,stepOp] at h
    obtain ⟨p,h1,h2⟩:=bind_some h
    obtain ⟨q,h3,h4⟩:=bind_some h2
    obtain ⟨d',H',h5,h6⟩:=jaN h4
    cases h6
    unfold makeSliceD at h5
    split at h5
    · rename_i k1 lv k2 cv
      obtain ⟨el,g1,g2⟩:=bind_some h5
      obtain ⟨n',g3,g4⟩:=bind_some g2
      obtain ⟨w',g5,g6⟩:=bind_some g4
      obtain ⟨z,g7,g8⟩:=bind_some g6
      split at g8
      · rename_i hc
        split at g8
        · rename_i h0
          cases g8
          refine ⟨none,[],jbB fun H2 hl _=>?_⟩
          simp only [stepX,stepOp,h1,h3,Option.bind_some,makeSliceD,g1,g3,g5,g7,if_pos hc,if_pos h0];rfl
        · rename_i h0
          cases g8
          refine ⟨none,[_],jbF rfl (by simp [objsD]) fun H2 hl _=>?_⟩
          simp only [stepX,stepOp,h1,h3,Option.bind_some,makeSliceD,g1,g3,g5,g7,if_pos hc,if_neg h0,hl];rfl
      · cases g8
    · cases h5
  case call c=>
    cases hc : c.callee <;> simp only [hc] at hq <;> try (cases hq;done)
    case value x=>
      cases x <;> simp only at hq <;> try (cases hq;done)
      rename_i f
      have hg : growO A (.call c) = true:=by simp [growO,hc,hq]
      have hq2 : (pureC A f || freshC A f) = true:=by rw [hq];simp
      simp only [stepX,hc,if_pos hq2] at h
      have hq0:=hq
      simp only [freshC,Bool.and_eq_true,beq_iff_eq,Option.isNone_iff_eq_none] at hq
      obtain ⟨args,h1,h2⟩:=bind_some h
      split at h2
      · rename_i hs
        obtain ⟨as,has⟩:=Option.isSome_iff_exists.1 hs
        simp only [stepOp,hc,h1,Option.bind_some,evalO,callD,List.append_nil] at h2
        have hgo : ∀ H2 r, (if bodied P f = false then if (A.rd f).isSome then none else (A.bl f).bind fun k => (extD k args H2).map fun (d, H) => .ok d H else match A.rd f with
            | some g=>rdD g args H2
            | none=>match A.prim f with
              | some p=>p args H2
              | none=>match A.mode f with
                | .state=>call f args H2
                | m => (pures H2 args).bind fun (as, H') => (call f as []).bind fun
                    | .ok d Hc=>
                      if m = .fresh then freshR d Hc H'
                      else (outPure Hc d).map fun d=>.ok d (if flat d then H2 else H')
                    | .pan _ _=>none) = some r -> stepX P A call (.call c) e H2 = some r:=fun H2 r hr=>by
          simp only [stepX,hc,if_pos hq2,h1,Option.bind_some,if_pos hs,stepOp,evalO,callD,List.append_nil]
          exact hr
        split at h2
        · rename_i hb
          simp only [hq.1.2,Option.isSome_none,Bool.false_eq_true,if_false] at h2
          obtain ⟨k,h3,h4⟩:=bind_some h2
          obtain ⟨q,h5,h6⟩:=map_some h4
          cases h6
          obtain ⟨e1,e2⟩:=jiZ hs h5
          rw [e1]
          refine ⟨none,[],jbB fun H2 _ _=>hgo H2 _ ?_⟩
          rw [if_pos hb]
          simp only [hq.1.2,Option.isSome_none,Bool.false_eq_true,if_false,h3,Option.bind_some,e2 H2,Option.map_some]
        · rename_i hb
          simp only [hq.1.1,hq.1.2,hq.2,jaz has,Option.bind_some] at h2
          obtain ⟨r',h3,h4⟩:=bind_some h2
          have hgo2 : ∀ H2 r,(match r' with
              | .ok d Hc=>if Mode.fresh = .fresh then freshR d Hc H2 else (outPure Hc d).map fun d=>R.ok d (if flat d then H2 else H2)
              | .pan _ _=>none) = some r -> stepX P A call (.call c) e H2 = some r:=fun H2 r hr=>by
            refine hgo H2 r ?_
            rw [if_neg hb]
            simp only [hq.1.1,hq.1.2,hq.2,jaz has,Option.bind_some,h3]
            exact hr
          cases r' with
          | pan _ _=>cases h4
          | ok d1 Hc=>
            simp only [if_true] at h4 hgo2
            unfold freshR at h4
            split at h4
            · split at h4
              · rename_i hbd
                cases h4
                exact ⟨none,[],jbB fun H2 _ _=>hgo2 H2 _ (by simp only [freshR];rw [if_pos hbd])⟩
              · cases h4
            · rename_i ob
              split at h4
              · rename_i hbo
                obtain ⟨d',h5,h6⟩:=map_some h4
                cases h6
                refine ⟨none,[ob],jbF hg ?_ fun H2 hl _=>hgo2 H2 _ (by simp only [freshR];rw [if_pos hbo,hl,h5];rfl)⟩
                unfold moveTo at h5
                split at h5 <;> first | (cases h5;done) | (simp only [Option.some.injEq] at h5;subst h5;simp [objsD])
              · cases h4
            · cases h4
      · cases h2
    rename_i b
    cases b <;> simp only at hq <;> try (cases hq;done)
    have hg : growO A (.call c) = true:=by simp [growO,hc]
    simp only [stepX,hc] at h
    obtain ⟨args,h1,h2⟩:=bind_some h
    split at h2
    · rename_i hpl
      simp only [stepOp,hc,h1,Option.bind_some] at h2
      obtain ⟨d',H',h3,h4⟩:=jaN h2
      cases h4
      obtain ⟨t,u,s,x,hts,rfl⟩:=jeN h3
      rw [hts] at h3
      obtain ⟨o1,o2,ho,e1,e2⟩:=jna h1
      have hrd : readOps A (.call c) = [o1,o2]:=by simp [readOps,hc,ho]
      have hwr : writeOps (.call c) = [o1]:=by simp [writeOps,hc,ho]
      have hsr : ∀ r ∈ objsD s,r ∈ objsE e (slotsO (readOps A (.call c))):=fun r hr=>by rw [hrd];exact jbg e1 (by simp) r hr
      have hxr : ∀ r ∈ objsD x,r ∈ objsE e (slotsO (readOps A (.call c))):=fun r hr=>by rw [hrd];exact jbg e2 (by simp) r hr
      have hsw : ∀ r ∈ objsD s,r ∈ objsE e (slotsO (writeOps (.call c))):=fun r hr=>by rw [hwr];exact jbg e1 (by simp) r hr
      -- what is appended
      obtain ⟨ys,hys⟩ : ∃ ys,∀ H2,(∀ r ∈ objsD x,hget H2 r = hget H r) -> addedD H2 x = some (ys,H2) /\ plainEl H2 x = true:=by
        simp only [appPlain] at hpl
        cases x
        case str b=>exact ⟨bytesOf b,fun H2 _=>⟨rfl,rfl⟩⟩
        all_goals
          simp only [plainEl] at hpl
          obtain ⟨ys,hy⟩:=Option.isSome_iff_exists.1 hpl
          obtain ⟨xs,hx1,hx2⟩:=bind_some hy
          refine ⟨if xs.all nilE = true then xs else ys,fun H2 hH=>?_⟩
          have hel:=jlj (p:=_) hH
          refine ⟨?_,?_⟩
          · simp only [addedD]
            rw [hel,hx1]
            simp only [Option.bind_some,puresA]
            split
            · rfl
            · exact jaz hx2
          · simp only [plainEl]
            rw [hel,hx1]
            simp [hx2]
      have hb : ∀ H2,builtinD P .append [t,u] [s,x] H2 = appendD P t H2 s x:=by
        intro H2
        simp only [builtinD] at h3 ⊢
        cases hu : P.underlying u with
        | none=>simp [hu] at h3
        | some td=>cases td <;> simp [hu] at h3 ⊢
      have h3' : appendD P t H s x = some (d,H1):=by rw [<- hb];exact h3
      have hgoal : ∀ H2 d2 H3,(∀ r ∈ objsD x,hget H2 r = hget H r) -> appendD P t H2 s x = some (d2,H3) -> stepX P A call (.call c) e H2 = some (.ok d2 H3):=by
        intro H2 d2 H3 hH ha
        simp only [stepX,hc,h1,Option.bind_some]
        rw [if_pos (by simp only [appPlain];exact (hys H2 hH).2)]
        simp only [stepOp,hc,h1,Option.bind_some]
        rw [hts,hb,ha];rfl
      unfold appendD at h3'
      obtain ⟨el,g1,g2⟩:=bind_some h3'
      obtain ⟨n',g3,g4⟩:=bind_some g2
      obtain ⟨w',g5,g6⟩:=bind_some g4
      obtain ⟨z,g7,g8⟩:=bind_some g6
      rw [(hys H fun _ _=>rfl).1] at g8
      simp only [Option.bind_some] at g8
      split at g8
      · cases g8
      · rename_i hz
        have happ : ∀ H2,(∀ r ∈ objsD x,hget H2 r = hget H r) -> ∀ R,(if ys.isEmpty then (match s with | .sl _ _ | .vec _ _ _=>some (s,H2) | _=>none) else if headSize n' ys = false then none else
            match s with
            | .sl true xs=>if headSize n' xs /\ (xs.length + ys.length) * w' <= mostBytes then some (.vec H2.length 0 (xs.length + ys.length),H2 ++ [.arr (xs ++ ys)]) else none
            | .vec r 0 m=>match hget H2 r with
              | .arr xs=>if headSize n' xs /\ xs.isEmpty = false /\ m = xs.length /\ (xs.length + ys.length) * w' <= mostBytes then some (.vec H2.length 0 (xs.length + ys.length),H2.set r .dead ++ [.arr (xs ++ ys)]) else none
              | _=>none
            | _=>none) = some R -> appendD P t H2 s x = some R:=by
          intro H2 hH R hR
          unfold appendD
          simp only [g1,g3,g5,g7,Option.bind_some]
          rw [(hys H2 hH).1]
          simp only [Option.bind_some]
          rw [if_neg hz]
          exact hR
        split at g8
        · rename_i hye
          have hd : d = s /\ H1 = H:=by
            split at g8 <;> first | (cases g8;done) | (cases g8;exact ⟨rfl,rfl⟩)
          obtain ⟨rfl,rfl⟩:=hd
          refine ⟨none,[],jbB fun H2 _ hH=>hgoal H2 _ _ (fun r hr=>hH r (hxr r hr)) (happ H2 (fun r hr=>hH r (hxr r hr)) _ ?_)⟩
          rw [if_pos hye]
          split at g8 <;> first | (cases g8;done) | rfl
        · rename_i hye
          split at g8
          · cases g8
          · rename_i hhs
            split at g8
            · rename_i xs
              split at g8
              · rename_i hc2
                cases g8
                refine ⟨none,[.arr (xs ++ ys)],jbF hg (by simp [objsD]) fun H2 hl hH=>hgoal H2 _ _ (fun r hr=>hH r (hxr r hr)) (happ H2 (fun r hr=>hH r (hxr r hr)) _ ?_)⟩
                rw [if_neg hye,if_neg hhs]
                simp only
                rw [if_pos hc2,hl]
              · cases g8
            · rename_i r m
              cases hgr : hget H r <;> simp only [hgr] at g8 <;> try (cases g8;done)
              rename_i xs
              split at g8
              · rename_i hc2
                cases g8
                refine ⟨some (r,.dead),[.arr (xs ++ ys)],rfl,fun r' ob' e'=>?_,fun h=>(by rw [hg] at h;cases h),Nat.le_refl _,fun _=>by simp [objsD],fun H2 hl hH=>?_⟩
                · cases e'
                  exact ⟨hsw r (by simp [objsD]),by rw [hgr];intro h;cases h⟩
                · refine hgoal H2 _ _ (fun r hr=>hH r (hxr r hr)) (happ H2 (fun r hr=>hH r (hxr r hr)) _ ?_)
                  rw [if_neg hye,if_neg hhs]
                  simp only
                  rw [hH r (hsr r (by simp [objsD])),hgr]
                  simp only
                  rw [if_pos hc2,hl hg];rfl
              · cases g8
            · cases g8
    · cases h2
theorem jhA {o : Op} {e : Env} {H H1 : Heap} {d : D} (ho : openO A o = true) (h : stepX P A call o e H = some (.ok d H1)) : ∃ f L,Shape P A call o e H H1 d f L:=by
  cases hq : quietO A o with
  | true=>obtain ⟨rfl,hs⟩:=jl5 hq h;exact ⟨_,_,hs⟩
  | false=>
    cases hg : growO A o with
    | true=>exact joj hg h
    | false=>
      simp only [openO,hq,hg,Bool.false_or,Bool.or_false] at ho
      cases o <;> simp only [storeO?] at ho <;> try (cases ho;done)
      · exact jfk (.inr rfl) h
      · exact jlz h
      · exact jfk (.inl rfl) h
structure ShapeZ (P : Program) (A : Ann) (call : CallF) (pl : Option Nat) (o : Op) (e : Env) (H H1 : Heap) (d : D) (f : Option (Nat × Ob)) (L : List Ob) : Prop where
  eq : H1 = turnH f L H
  wr : ∀ r ob,f = some (r,ob) -> (r ∈ objsE e (slotsO (writeOps o)) /\ hget H r ≠ .dead) ∨ (growO A o = true /\ r ∈ objsD d /\ r < H.length)
  gr : lenW A pl.isSome o = false -> L = []
  one : L.length <= 1
  new : L ≠ [] -> H.length ∈ objsD d /\ growO A o = true
  any : ∀ H2,(growO A o = true -> H2.length = H.length /\ ∀ r ∈ objsD d,hget H2 r = hget H r) -> (∀ r ∈ objsE e (slotsO (readOps A o)),hget H2 r = hget H r) -> stepZ P A call pl o e H2 = some (.ok d (turnH f L H2))
theorem jmn {o : Op} (h : placedO A o = true) : growO A o = true:=by
  cases o <;> simp only [placedO] at h <;> first | (cases h;done) | rfl | exact h
theorem jdG {pl : Bool} {o : Op} (h : lenW A pl o = true) : growO A o = true:=by
  unfold lenW at h
  simp at h;exact h.1
theorem ji1 {pl : Option Nat} {o : Op} {e : Env} {H H1 : Heap} {d : D} {f : Option (Nat × Ob)} {L : List Ob} (hz : stepZ P A call pl o e = stepX P A call o e) (hl : lenW A pl.isSome o = growO A o) (h : Shape P A call o e H H1 d f L) : ShapeZ P A call pl o e H H1 d f L:=by
  have hg : L ≠ [] -> growO A o = true:=fun hn=>by
    cases hgr : growO A o with
    | true=>rfl
    | false=>exact absurd (h.gr hgr) hn
  exact ⟨h.eq,fun r ob e=>.inl (h.wr r ob e),fun hn=>h.gr (by rw [<- hl];exact hn),h.one,fun hn=>⟨h.new hn,hg hn⟩,fun H2 h1 h2=>by rw [hz];exact h.any H2 (fun hgr=>(h1 hgr).1) h2⟩
theorem jfM {x : Option R} {H : Heap} {p : Nat} {r : R} (h : placeR x H p = some r) : (∃ d ob d',x = some (.ok d [ob]) /\ bareOb ob = true /\ p < H.length /\ hget H p = .dead /\ moveTo p d = some d' /\ r = .ok d' (H.set p ob)) ∨ ∃ d,x = some (.ok d []) /\ bareD d = true /\ r = .ok d H:=by
  unfold placeR at h
  split at h
  · rename_i d ob
    split at h
    · rename_i hc
      obtain ⟨d',h1,rfl⟩:=map_some h
      refine .inl ⟨d,ob,d',rfl,hc.1,hc.2.1,?_,h1,rfl⟩
      have:=hc.2.2
      cases hd : hget H p <;> rw [hd] at this <;> first | rfl | cases this
    · cases h
  · split at h
    · rename_i hb
      cases h
      exact .inr ⟨_,rfl,hb,rfl⟩
    · cases h
  · cases h
theorem jga {p : Nat} {d d' : D} (h : moveTo p d = some d') : objsD d' = [p]:=by
  unfold moveTo at h
  split at h <;> first | (cases h;done) | (simp only [Option.some.injEq] at h;subst h;rfl)
theorem openZ {pl : Option Nat} {o : Op} {e : Env} {H H1 : Heap} {d : D} (ho : openO A o = true) (h : stepZ P A call pl o e H = some (.ok d H1)) : ∃ f L,ShapeZ P A call pl o e H H1 d f L:=by
  cases pl with
  | none=>
    obtain ⟨f,L,hs⟩:=jhA (P:=P) (call:=call) ho h
    exact ⟨f,L,ji1 rfl (by simp [lenW]) hs⟩
  | some p=>
    cases hp : placedO A o with
    | false=>
      have hz : stepZ P A call (some p) o e = stepX P A call o e:=by funext H;simp [stepZ,hp]
      rw [hz] at h
      obtain ⟨f,L,hs⟩:=jhA (P:=P) (call:=call) ho h
      exact ⟨f,L,ji1 hz (by simp [lenW,hp]) hs⟩
    | true=>
      have hg:=jmn hp
      have hlw : lenW A (some p).isSome o = false:=by simp [lenW,hp]
      simp only [stepZ,hp,if_true] at h
      split at h
      · rename_i hb
        rcases jfM h with ⟨d0,ob,d',h1,h2,h3,h4,h5,h6⟩ | ⟨d0,h1,h2,h6⟩
        · cases h6
          refine ⟨some (p,ob),[],by simp [turnH],fun r' ob' e'=>?_,fun _=>rfl,Nat.zero_le _,fun h=>absurd rfl h,fun H2 k1 k2=>?_⟩
          · cases e'
            exact .inr ⟨hg,by rw [jga h5];simp,h3⟩
          · obtain ⟨k3,k4⟩:=k1 hg
            have k5:=k4 p (by rw [jga h5];simp)
            simp only [stepZ,hp,if_true,if_pos hb,h1]
            have hc : bareOb ob = true /\ p < H2.length /\ deadQ (hget H2 p) = true:=⟨h2,by omega,by rw [k5,h4];rfl⟩
            simp only [placeR]
            rw [if_pos hc,h5]
            simp [turnH]
        · cases h6
          refine ⟨none,[],turnH_none.symm,fun r' ob' e'=>(by cases e'),fun _=>rfl,Nat.zero_le _,fun h=>absurd rfl h,fun H2 k1 k2=>?_⟩
          simp only [stepZ,hp,if_true,if_pos hb,h1,placeR,if_pos h2,turnH_none]
      · cases h
theorem jgj {pl : Option Nat} {o : Op} {e e' : Env} {H : Heap} (h : ∀ t,Operand.tmp t ∈ o.operands.toList -> e t = e' t) : stepZ P A call pl o e H = stepZ P A call pl o e' H:=by
  cases pl with
  | none=>exact jfY h
  | some p=>
    simp only [stepZ]
    have h1 : stepOp P A call o e [] = stepOp P A call o e' []:=jeT h
    have h2 : (o.operands.toList.all (bareX e)) = o.operands.toList.all (bareX e'):=by
      have key : ∀ l : List Operand,(∀ t,Operand.tmp t ∈ l -> e t = e' t) -> l.all (bareX e) = l.all (bareX e'):=by
        intro l
        induction l with
        | nil=>intro _;rfl
        | cons x l ih=>
          intro hl
          simp only [List.all_cons]
          rw [ih fun t ht=>hl t (by simp [ht])]
          have : bareX e x = bareX e' x:=by unfold bareX;rw [jaf (e':=e') fun t ht=>hl t (by simp [ht])]
          rw [this]
      exact key _ h
    rw [h1,h2,jfY h]
end
end Vm
end
section
namespace Vm
open Go Go.RowKit
variable [Base]
def exOf (v : Value) : Ex -> Exit
  | .norm=>.normal
  | .exit i=>.exit i
  | .ret=>.ret
  | .pan _=>.panic [{ v,recovered:=false }]
def unowned (ρ : Rho) (H : Heap) (b : Nat) : Prop:=∀ r,r < H.length -> live (hget H r) -> (ρ r).b ≠ b
inductive DfL (ρ : Rho) (n0 : Nat) (im : Im) (H : Heap) (w : World) : List Deferred -> List Dfr -> Prop
  | nil : DfL ρ n0 im H w [] []
  | call (g : FuncId) (vs us : List Value) (ds : List D) (l : List Deferred) (l' : List Dfr) (h : RepA ρ H.length im (vs ++ us) ds) (hr : DfL ρ n0 im H w l l') :
      DfL ρ n0 im H w ({ target:=.fn (.func g) ⟨us⟩,args:=⟨vs⟩ } :: l) (.call g ds :: l')
  | mark (b : Nat) (l : List Deferred) (l' : List Dfr) (hb : n0 <= b) (ho : w.heap[b]? = some (.deferred (some []))) (hu : unowned ρ H b) (hm : l'.all callQ = true) (hr : DfL ρ n0 im H w l l') :
      DfL ρ n0 im H w ({ target:=.collected b,args:=#[] } :: l) (.mark :: l')
structure DfR (ρ : Rho) (n0 : Nat) (im : Im) (H : Heap) (w : World) (ro : Option Nat) (ds : List Deferred) (df : Option (List Dfr)) : Prop where
  n : n0 <= w.heap.size
  r : ∀ l,df = some l -> ro = none /\ DfL ρ n0 im H w ds l
theorem unowned.mv {ρ ρ1 : Rho} {im im1 : Im} {H H1 : Heap} {w w1 : World} {b : Nat} (m : Mv ρ im H w ρ1 im1 H1 w1) (hb : b < w.heap.size) (h : unowned ρ H b) : unowned ρ1 H1 b:=by
  intro r hr hl e
  obtain ⟨s,hs,hls,es⟩:=m.tr.own r hr hl (by omega)
  exact h s hs hls (by omega)
theorem DfL.mv {ρ ρ1 : Rho} {n0 : Nat} {im im1 : Im} {H H1 : Heap} {w w1 : World} (m : Mv ρ im H w ρ1 im1 H1 w1) : ∀ {ds : List Deferred} {l : List Dfr},DfL ρ n0 im H w ds l -> DfL ρ1 n0 im1 H1 w1 ds l
  | _,_,.nil=>.nil
  | _,_,.call g vs us ds l l' h hr=>.call g vs us ds l l' (m.repA h) (DfL.mv m hr)
  | _,_,.mark b l l' hb ho hu hm hr=>by
    have hlt : b < w.heap.size:=(Array.getElem?_eq_some_iff.1 ho).1
    exact .mark b l l' hb ((m.tr.keep b hlt hu).trans ho) (hu.mv m hlt) hm (DfL.mv m hr)
theorem DfR.mv {ρ ρ1 : Rho} {n0 : Nat} {im im1 : Im} {H H1 : Heap} {w w1 : World} {ro : Option Nat} {ds : List Deferred} {df : Option (List Dfr)} (m : Mv ρ im H w ρ1 im1 H1 w1) (h : DfR ρ n0 im H w ro ds df) : DfR ρ1 n0 im1 H1 w1 ro ds df:=
  ⟨Nat.le_trans h.n m.tr.size,fun l hl=>⟨(h.r l hl).1,(h.r l hl).2.mv m⟩⟩
structure After (ρ : Rho) (im : Im) (H : Heap) (w : World) (N : Nat) (n0 : Nat) (ro : Option Nat) (s : St) (x : Exit) (a' : Act) (w' : World) : Prop where
  ex : ∃ ρ' im',Mv ρ im H w ρ' im' s.H w' /\ EnvR ρ' s.H.length im' N a' s.e /\ DfR ρ' n0 im' s.H w' ro a'.defers s.e.df /\ ∃ v,x = exOf v s.ex /\ ∀ d,s.ex = .pan d -> Rep ρ' s.H.length im' v d
theorem After.mv {ρ ρ1 : Rho} {im im1 : Im} {H H1 : Heap} {w w1 : World} {N : Nat} {n0 : Nat} {ro : Option Nat} {s : St} {x : Exit} {a' : Act} {w' : World} (m : Mv ρ im H w ρ1 im1 H1 w1) (h : After ρ1 im1 H1 w1 N n0 ro s x a' w') : After ρ im H w N n0 ro s x a' w':=by
  obtain ⟨ρ',im',h1,h2,h3,h4⟩:=h.ex
  exact ⟨ρ',im',m.trans h1,h2,h3,h4⟩
omit [Base] in
theorem jbr {e : Env} {i : Option Nat} {d : D} : (putO e i d).df = e.df:=by cases i <;> rfl
omit [Base] in
theorem ja3 {a : Act} {i : Option Nat} {v : Value} : (a.put i v).defers = a.defers:=by cases i <;> rfl
theorem After.plain {ρ : Rho} {im : Im} {H : Heap} {w : World} {N : Nat} {n0 : Nat} {ro : Option Nat} {a : Act} {e : Env} {x : Ex} (hR : Rel ρ im H w) (he : EnvR ρ H.length im N a e) (hd : DfR ρ n0 im H w ro a.defers e.df) (hx : ∀ d,x ≠ .pan d) :
    After ρ im H w N n0 ro ⟨x,e,H⟩ (exOf .nilIface x) a w:=
  ⟨ρ,im,Mv.refl hR,he,hd,.nilIface,rfl,fun d h=>absurd h (hx d)⟩
section
variable {P : Program} {A : Ann} {call : CallF} {N : Nat}
omit [Base] in
theorem jc0 {ρ : Rho} {n : Nat} {im : Im} {a : Act} {e : Env} {ops : Array Oper} {o : Oper} {b : Bool} (he : EnvR ρ n im N a e) (h : wantD ops e o = some b) : Region.wanted o (yielded ops a.tmps) = b:=by
  unfold wantD at h
  unfold Region.wanted
  cases hg : o.guard with
  | none=>simp [hg] at h;simp [h]
  | some p=>
    obtain ⟨j,want⟩:=p
    simp only [hg] at h ⊢
    unfold yielded
    cases hd : (ops[j]?).bind (·.dst) with
    | none=>simp [hd] at h;subst h;simp
    | some d=>
      simp only [hd] at h
      have hr:=he.get d
      cases hed : e d with
      | bool c=>
        rw [hed] at hr
        simp [hed] at h
        have hv:=hr.bool_inv
        rw [Array.getD_eq_getD_getElem?] at hv
        cases ht : a.tmps[d]? with
        | none=>rw [ht] at hv;simp [undef] at hv
        | some v=>
          rw [ht] at hv
          simp at hv;subst hv
          simp [ht,<- h]
      | _=>
        simp [hed] at h
        subst h
        rw [hed] at hr
        cases ht : a.tmps[d]? with
        | none=>simp [ht]
        | some v=>
          rw [Array.getD_eq_getD_getElem?,ht] at hr
          simp at hr
          simp [ht]
          cases hr <;> simp
omit [Base] in
theorem jse {e e' : Env} {a : Act} {c : Call} {ρ : Rho} {n0 : Nat} {im : Im} {H : Heap} {w : World} {ro : Option Nat} {o : Oper} (ho : o.op = .defer c) (he : EnvR ρ H.length im N a e) (hd : DfR ρ n0 im H w ro a.defers e.df) (h : pushD P e c = some e') :
    ro = none /\ ∃ d,(execOp a.eval o).run P w = .ok (.defer d) w /\ EnvR ρ H.length im N { a with defers:=d :: a.defers } e' /\ DfR ρ n0 im H w ro (d :: a.defers) e'.df:=by
  unfold pushD at h
  obtain ⟨l,h1,h2⟩:=bind_some h
  obtain ⟨hro,hl⟩:=hd.r l h1
  refine ⟨hro,?_⟩
  cases hc : c.callee with
  | builtin b=>simp [hc] at h2
  | invoke x y=>simp [hc] at h2
  | value f=>
    simp only [hc] at h2
    obtain ⟨args,h3,h4⟩:=bind_some h2
    obtain ⟨df,h5,h6⟩:=bind_some h4
    have hf:=jai he h5
    cases df <;> simp only at h6 <;> try (cases h6;done)
    rename_i g cs
    split at h6
    · rename_i hb
      simp at h6;subst h6
      generalize hv : a.eval f = v at hf
      cases hf with
      | fn _ vs _ hvs=>
        refine ⟨{ target:=.fn (.func g) ⟨vs⟩,args:=⟨c.args.toList.map a.eval⟩ },?_,⟨he.size,he.get⟩,⟨hd.n,fun l' hl'=>⟨hro,?_⟩⟩⟩
        · have e2 : c.args.map a.eval = ⟨c.args.toList.map a.eval⟩:=by apply Array.ext';simp
          simp only [execOp,ho,Sem.run_bind,jdL (P:=P) (w:=w) hc hv,Result.andThen_ok,e2]
          rfl
        · simp at hl';subst hl'
          exact .call g _ vs _ _ _ ((jcA he h3).append hvs) hl
    · cases h6
theorem jdt (hA : PrimOk P A) (hcall : CallOk P call) {n0 : Nat} {ro : Option Nat} {n : Nat} {ops : Array Oper} {Q : Exit -> Act -> World -> Prop} : ∀ (l : List Oper) {ρ : Rho} {im : Im} {H : Heap} {w : World} {a : Act} {e : Env} {s : St},
    Rel ρ im H w -> EnvR ρ H.length im N a e -> DfR ρ n0 im H w ro a.defers e.df -> runOps P A call N ops l e H = some s -> (∀ x a' w',After ρ im H w N n0 ro s x a' w' -> Q x a' w') -> wpListIn (FW ro) n P ops Q l a w
  | [],ρ,im,H,w,a,e,s,hR,he,hd,h,hQ=>by
    simp [runOps] at h;subst h
    exact hQ _ _ _ (.plain hR he hd (fun d h=>by cases h))
  | o :: rest,ρ,im,H,w,a,e,s,hR,he,hd,h,hQ=>by
    simp only [runOps] at h
    split at h
    · cases h
    · rename_i hdst
      simp only [Bool.not_eq_false] at hdst
      cases hw : wantD ops e o with
      | none=>simp [hw] at h
      | some b=>
        have hwant:=jc0 he hw
        unfold wpListIn
        rw [hwant]
        cases b with
        | false=>
          simp only [hw] at h
          simp only [Bool.false_eq_true,if_false]
          exact ⟨fun _ _=>trivial,jdt hA hcall rest hR (he.put hdst jdT) (by rw [ja3,jbr];exact hd) h hQ⟩
        | true=>
          simp only [hw] at h
          simp only [if_true]
          cases hdc : deferC o.op with
          | some c=>
            simp only [hdc] at h
            have ho : o.op = .defer c:=by
              cases hop : o.op <;> simp [deferC,hop] at hdc
              rw [hdc]
            cases hp : pushD P e c with
            | none=>simp [hp] at h
            | some e'=>
              simp only [hp] at h
              obtain ⟨hro,d,hrun,he',hd'⟩:=jse ho he hd hp
              refine ⟨fun _ _=>trivial,?_⟩
              have : (o.semAt (FW ro).round a.eval).run P w = .ok (.defer d) w:=by
                subst hro;exact hrun
              rw [this]
              exact jdt hA hcall rest hR (he'.put hdst jdT) (by rw [ja3,jbr];exact hd') h hQ
          | none=>
            simp only [hdc] at h
            cases hs : stepOp P A call o.op e H with
            | none=>simp [hs] at h
            | some r=>
              have hop:=jeI hA hcall (o:=o) hR he hs
              refine hop ro n _ _ ?_ ?_
              · intro v w1 hout
                cases hout with
                | ok ρ1 im1 H1 _ _ d hm hv=>
                  simp only [hs] at h
                  exact jdt hA hcall rest hm.rel ((hm.env he).put hdst hv) (by rw [ja3,jbr];exact hd.mv hm) h fun x a' w' haf=>hQ x a' w' (haf.mv hm)
              · intro ch w1 hout
                cases hout with
                | pan ρ1 im1 H1 _ v d hm hv=>
                  simp only [hs] at h
                  simp at h;subst h
                  exact hQ _ _ _ ⟨ρ1,im1,hm,hm.env he,hd.mv hm,v,rfl,fun d' hd=>by cases hd;exact hv⟩
def CodeOk (P : Program) (N : Nat) (run : Env -> Heap -> Option St) (c : Code) : Prop:=
  ∀ (ρ : Rho) (im : Im) (H : Heap) (w : World) (a : Act) (e : Env) (s : St) (n0 : Nat) (ro : Option Nat) (n : Nat),Rel ρ im H w -> EnvR ρ H.length im N a e -> DfR ρ n0 im H w ro a.defers e.df -> run e H = some s ->
    c.wpIn (FW ro) n P (After ρ im H w N n0 ro s) a w
theorem jsx {run : Env -> Heap -> Option St} {c : Code} (hc : CodeOk P N run c) : ∀ (k : Nat),CodeOk P N (iterC run k) (.loop c)
  | 0=>fun _ _ _ _ _ _ _ _ _ _ hR he hd h=>by simp [iterC] at h
  | k + 1=>fun ρ im H w a e s n0 ro n hR he hd h=>by
    intro b kk cs hro hb hroom
    have key : ∀ (k : Nat) {ρ : Rho} {im : Im} {H : Heap} {w : World} {a : Act} {e : Env} {s : St},Rel ρ im H w -> EnvR ρ H.length im N a e -> DfR ρ n0 im H w ro a.defers e.df -> iterC run k e H = some s ->
        ∃ x a' w',After ρ im H w N n0 ro s x a' w' /\ ArrivesIn (Machine.fenced P (FW ro)) P (lone (b.atR a (.code c :: .inLoop c :: kk)) cs w) b kk cs x a' w':=by
      intro k
      induction k with
      | zero=>intro ρ im H w a e s hR he hd h;simp [iterC] at h
      | succ k ih=>
        intro ρ im H w a e s hR he hd h
        simp only [iterC] at h
        cases hr : run e H with
        | none=>simp [hr] at h
        | some s1=>
          obtain ⟨x1,a1,w1,haf,harr⟩:=hc _ _ _ _ _ _ _ n0 ro n hR he hd hr b (.inLoop c :: kk) cs hro hb hroom
          obtain ⟨ρ1,im1,hm,he1,hd1,v1,hx1,hp1⟩:=haf.ex
          obtain ⟨ex1,e1,H1⟩:=s1
          cases ex1 with
          | norm=>
            simp only [hr] at h
            simp only [exOf] at hx1
            subst hx1
            obtain ⟨x2,a2,w2,haf2,harr2⟩:=ih hm.rel he1 hd1 h
            exact ⟨x2,a2,w2,haf2.mv hm,.of_steps (StepsIn.trans harr (.one (fenced_calm hb hroom rfl) stepR_inLoop)) harr2⟩
          | _=>
            simp only [hr] at h
            simp at h;subst h
            simp only [exOf] at hx1
            subst hx1
            exact ⟨_,a1,w1,haf,.pass (x:=.inLoop c) rfl (fun _ _=>.inl (by simp)) harr⟩
    obtain ⟨x,a',w',q,harr⟩:=key (k + 1) hR he hd h
    exact ⟨x,a',w',q,.of_steps (.one (fenced_calm hb hroom rfl) stepR_loop) harr⟩
end
end Vm
end
section
namespace Vm
open Go Go.RowKit
variable [Base]
section
variable {P : Program} {A : Ann} {call : CallF} {N : Nat} {ops : Array Oper} {pl : Option Nat}
abbrev S2:=Env × Heap
def placeN (A : Ann) (ops : Array Oper) (pl : Option Nat) (i : Nat) : Option Nat:=pl.map (· + rankO A ops.toList i)
omit [Base] in
theorem jjw {A : Ann} {ops : Array Oper} {pl : Option Nat} {i : Nat} : (placeN A ops pl i).isSome = pl.isSome:=by cases pl <;> rfl
def effX (P : Program) (A : Ann) (call : CallF) (N : Nat) (ops : Array Oper) (pl : Option Nat) (i : Nat) (s : S2) : Option S2:=
  match ops[i]? with
  | none=>some s
  | some o=>if dstOk N o.dst = false then none else
    match wantD ops s.1 o with
    | some true=>match stepZ P A call (placeN A ops pl i) o.op s.1 s.2 with
      | some (.ok d H)=>some (putO s.1 o.dst d,H)
      | _=>none
    | some false=>some (putO s.1 o.dst ud,s.2)
    | none=>none
def anyX (P : Program) (A : Ann) (call : CallF) (N : Nat) (ops : Array Oper) (pl : Option Nat) (E : S2) : Nat -> Array Bool -> S2 -> Prop
  | 0,listed,s=>Region.ready .any ops listed = [] /\ s = E
  | fuel + 1,listed,s=>(Region.ready .any ops listed = [] -> s = E) /\ ∀ i ∈ Region.ready .any ops listed,∃ s1,effX P A call N ops pl i s = some s1 /\ anyX P A call N ops pl E fuel (listed.setIfInBounds i true) s1
omit [Base] in
theorem jd2 {e : Env} {x : Option Nat} {v : D} {t : Nat} (h : ∀ d,x = some d -> t ≠ d) : putO e x v t = e t:=by
  cases x with
  | none=>rfl
  | some d=>simp [putO,put,h d rfl]
omit [Base] in
omit [Base] in
def ClosedL (ops : Array Oper) (listed : Array Bool) : Prop:=
  ∀ k ok,ops[k]? = some ok -> listed.getD k true = true -> ∀ e ∈ ok.after,Region.binds .any e = true -> listed.getD e.on false = true
omit [Base] in
theorem jcu {listed : Array Bool} {k : Nat} (h : listed.getD k false = true) : listed.getD k true = true:=by
  rcases Nat.lt_or_ge k listed.size with h' | h'
  · simp [h'] at h ⊢;exact h
  · simp [Array.getElem?_eq_none h'] at h
omit [Base] in
omit [Base] in
theorem jdg {listed : Array Bool} (hc : ClosedL ops listed) {i : Nat} : ∀ (n j : Nat),(∀ oj,ops[j]? = some oj -> ∀ e ∈ oj.after,Region.binds .any e = true -> listed.getD e.on false = true) -> chainOn ops n j i = true -> listed.getD i false = true
  | 0,_,_,h=>by simp [chainOn] at h
  | n + 1,j,h,hch=>by
    simp only [chainOn] at hch
    cases ho : ops[j]? with
    | none=>rw [ho] at hch;simp at hch
    | some oj=>
      rw [ho] at hch
      simp only [Option.map_some,Option.getD_some,Bool.or_eq_true,List.any_eq_true,Bool.and_eq_true,beq_iff_eq] at hch
      rcases hch with ⟨e,he,hb,rfl⟩ | ⟨e,he,hb,h2⟩
      · exact h oj ho e (by simpa using he) hb
      · have hl:=h oj ho e (by simpa using he) hb
        exact jdg hc n e.on (fun ok hok e' he' hb'=>hc e.on ok hok (jcu hl) e' he' hb') h2
omit [Base] in
theorem ClosedL.set {listed : Array Bool} (hc : ClosedL ops listed) {i : Nat} (hi : i ∈ Region.ready .any ops listed) : ClosedL ops (listed.setIfInBounds i true):=by
  intro k ok hk hl e he hb
  obtain ⟨hiun,oi,hoi,hall⟩:=mem_ready.1 hi
  have old : listed.getD e.on false = true:=by
    by_cases hki : k = i
    · subst hki;rw [hoi] at hk;cases hk;exact hall e he hb
    · rw [getD_set_ne true (Ne.symm hki)] at hl;exact hc k ok hk hl e he hb
  rcases Nat.lt_or_ge e.on listed.size with h' | h'
  · by_cases hx : i = e.on
    · rw [<- hx];rw [<- hx] at h';simp [h']
    · simp only [Array.getD_eq_getD_getElem?,Array.getElem?_setIfInBounds,if_neg hx];simpa using old
  · simp [Array.getElem?_eq_none h'] at old
def AtL {S Loc V : Type} (vw : S -> Loc -> V) (n : Nat) (tr : Nat -> S) (W : Nat -> Loc -> Prop) (L : Nat -> Prop) (s : S) : Prop:=
  ∀ x m,m <= n -> (∀ k,k < m -> W k x -> L k) -> (∀ k,m <= k -> k < n -> W k x -> ¬ L k) -> vw s x = vw (tr m) x
omit [Base] in
theorem jc1 {S Loc V : Type} {vw : S -> Loc -> V} {n : Nat} {tr : Nat -> S} {W : Nat -> Loc -> Prop} (hlex : ∀ k,k < n -> ∀ x,¬ W k x -> vw (tr (k + 1)) x = vw (tr k) x) {x : Loc} {a : Nat} : ∀ (d : Nat),a + d <= n -> (∀ k,a <= k -> k < a + d -> ¬ W k x) -> vw (tr (a + d)) x = vw (tr a) x
  | 0,_,_=>rfl
  | d + 1,h,hn=>by
    rw [show a + (d + 1) = (a + d) + 1 by omega,hlex (a + d) (by omega) x (hn _ (by omega) (by omega))]
    exact jc1 hlex d (by omega) fun k h1 h2=>hn k h1 (by omega)
omit [Base] in
theorem AtL.step {S Loc V : Type} {vw : S -> Loc -> V} {n : Nat} {eff : Nat -> S -> Option S} {tr : Nat -> S} {W T : Nat -> Loc -> Prop} (hWT : ∀ k x,W k x -> T k x)
    (hframe : ∀ k,k < n -> ∀ s,(∀ x,T k x -> vw s x = vw (tr k) x) -> ∃ s',eff k s = some s' /\ (∀ x,¬ W k x -> vw s' x = vw s x) /\ (∀ x,W k x -> vw s' x = vw (tr (k + 1)) x))
    (hlex : ∀ k,k < n -> ∀ x,¬ W k x -> vw (tr (k + 1)) x = vw (tr k) x) {dep : Nat -> Nat -> Prop}
    (hconf : ∀ k j,k < j -> j < n -> ¬ dep j k -> ∀ x,(W k x -> ¬ T j x) /\ (W j x -> ¬ T k x)) {L : Nat -> Prop} {i : Nat} (hi : i < n) (hiL : ¬ L i) (hin : ∀ k,k < i -> dep i k -> L k) (hcl : ∀ j,j < n -> L j -> i < j -> dep j i -> False) {s : S} (h : AtL vw n tr W L s) :
    ∃ s',eff i s = some s' /\ AtL vw n tr W (fun k=>L k ∨ k = i) s':=by
  have early : ∀ x,T i x -> ∀ k,k < i -> W k x -> L k:=fun x hx k hk hw=>by
    by_cases hd : dep i k
    · exact hin k hk hd
    · exact absurd hx ((hconf k i hk hi hd x).1 hw)
  have late : ∀ x,T i x -> ∀ k,i <= k -> k < n -> W k x -> ¬ L k:=fun x hx k hk hkn hw hl=>by
    rcases Nat.eq_or_lt_of_le hk with rfl | hlt
    · exact hiL hl
    · by_cases hd : dep k i
      · exact hcl k hkn hl hlt hd
      · exact (hconf i k hlt hkn hd x).2 hw hx
  obtain ⟨s',h1,h2,h3⟩:=hframe i hi s fun x hx=>h x i (by omega) (early x hx) (late x hx)
  refine ⟨s',h1,fun x m hm hb ha=>?_⟩
  by_cases hw : W i x
  · have hx:=hWT i x hw
    rw [h3 x hw]
    have him : i < m:=by
      rcases Nat.lt_or_ge i m with h | h
      · exact h
      · exact absurd (.inr rfl) (ha i h hi hw)
    obtain ⟨d,rfl⟩ : ∃ d,m = (i + 1) + d:=⟨m - (i + 1),by omega⟩
    refine (jc1 hlex d (by omega) fun k hk1 hk2 hkw=>?_).symm
    rcases hb k hk2 hkw with hl | rfl
    · exact late x hx k (by omega) (by omega) hkw hl
    · omega
  · rw [h2 x hw]
    refine h x m hm (fun k hk hkw=>?_) (fun k hk hkn hkw hl=>ha k hk hkn hkw (.inl hl))
    rcases hb k hk hkw with hl | rfl
    · exact hl
    · exact absurd hkw hw
inductive Loc where
  | slot (t : Nat)
  | obj (r : Nat)
  | len
  | df
inductive VL where
  | d (x : D)
  | o (x : Ob)
  | n (x : Nat)
  | f (x : Option (List Dfr))
def vwS (s : S2) : Loc -> VL
  | .slot t=>.d (s.1 t)
  | .obj r=>.o (hget s.2 r)
  | .len=>.n s.2.length
  | .df=>.f s.1.df
omit [Base] in
theorem jmy {s s' : S2} (h : ∀ x,vwS s x = vwS s' x) : s = s':=by
  obtain ⟨⟨f,df⟩,H⟩:=s
  obtain ⟨⟨f',df'⟩,H'⟩:=s'
  have h1 : f = f':=by funext t;have:=h (.slot t);simpa [vwS] using this
  have h2 : df = df':=by have:=h .df;simpa [vwS] using this
  have h3 : H.length = H'.length:=by have:=h .len;simpa [vwS] using this
  have h4 : H = H':=by
    apply List.ext_getElem h3
    intro i hi hi'
    have:=h (.obj i)
    simpa [vwS,hget,List.getD,List.getElem?_eq_getElem hi,List.getElem?_eq_getElem hi'] using this
  subst h1 h2 h4
  rfl
def WL (A : Ann) (plb : Bool) (ops : Array Oper) (E : Env) (k : Nat) (x : Loc) : Prop:=
  match ops[k]? with
  | none=>False
  | some o => if openO A o.op = true then (match x with
      | .slot t=>o.dst = some t
      | .obj r=>r ∈ objsE E (wSl A o)
      | .len=>lenW A plb o.op = true
      | .df=>False) else (match x with
      | .slot t=>o.dst = some t
      | _=>True)
def TL (A : Ann) (plb : Bool) (ops : Array Oper) (E : Env) (k : Nat) (x : Loc) : Prop:=
  match ops[k]? with
  | none=>False
  | some o => if openO A o.op = true then (match x with
      | .slot t=>t ∈ looksL ops o ∨ o.dst = some t
      | .obj r=>r ∈ objsE E (tSl A o) ∨ r ∈ objsE E (wSl A o)
      | .len=>growO A o.op = true
      | .df=>False) else (match x with
      | .slot t=>t ∈ looksL ops o ∨ o.dst = some t
      | _=>True)
omit [Base] in
theorem WL_TL {E : Env} (k : Nat) (x : Loc) (h : WL A pl.isSome ops E k x) : TL A pl.isSome ops E k x:=by
  unfold WL at h
  unfold TL
  cases ho : ops[k]? with
  | none=>rw [ho] at h;exact h
  | some o=>
    rw [ho] at h
    simp only at h ⊢
    split at h
    · rename_i hop
      rw [if_pos hop]
      cases x with
      | slot t=>exact .inr h
      | obj r=>exact .inr h
      | len=>exact jdG h
      | df=>exact h
    · rename_i hop
      rw [if_neg hop]
      cases x with
      | slot t=>exact .inr h
      | obj r=>trivial
      | len=>trivial
      | df=>trivial
omit [Base] in
omit [Base] in
theorem jcB {e : Env} {a b : List Nat} : objsE e (a ++ b) = objsE e a ++ objsE e b:=by simp [objsE]
omit [Base] in
theorem jgc {e e' : Env} {l : List Nat} (h : ∀ t ∈ l,e t = e' t) : objsE e l = objsE e' l:=by
  induction l with
  | nil=>rfl
  | cons t l ih=>
    have h1:=h t (by simp)
    have h2:=ih fun t ht=>h t (by simp [ht])
    simp only [objsE,List.flatMap_cons,h1] at h2 ⊢
    rw [h2]
omit [Base] in
theorem jqD {A : Ann} {o : Op} {t : Nat} (h : t ∈ slotsO (readOps A o) ∨ t ∈ slotsO (writeOps o)) : t ∈ slotsO o.operands.toList:=by
  have key : ∀ x,x ∈ readOps A o ∨ x ∈ writeOps o -> x ∈ o.operands.toList:=by
    intro x hx
    cases o <;> simp only [readOps,writeOps,List.mem_cons,List.mem_nil_iff,or_false,List.not_mem_nil,false_or,or_self] at hx <;> try (cases hx;done)
    case call c=>
      have : x ∈ c.args.toList:=by
        rcases hx with hx | hx
        · split at hx <;> first | exact hx | (split at hx <;> first | exact hx | cases hx) | cases hx
        · split at hx <;> first | exact List.mem_of_mem_take hx | cases hx
      simp [Op.operands,Call.operands,this]
    all_goals simp [Op.operands,hx]
  rcases h with h | h <;> (obtain ⟨x,h1,h2⟩:=List.mem_filterMap.1 h)
  · exact List.mem_filterMap.2 ⟨x,key x (.inl h1),h2⟩
  · exact List.mem_filterMap.2 ⟨x,key x (.inr h1),h2⟩
def Trace (P : Program) (A : Ann) (call : CallF) (N : Nat) (ops : Array Oper) (pl : Option Nat) (tr : Nat -> S2) : Prop:=∀ k,k < ops.size -> effX P A call N ops pl k (tr k) = some (tr (k + 1))
omit [Base] in
theorem je1 {k : Nat} {o : Oper} (hk : ops[k]? = some o) {s s' : S2} (h : effX P A call N ops pl k s = some s') :
    dstOk N o.dst = true /\ ((wantD ops s.1 o = some true /\ ∃ d H,stepZ P A call (placeN A ops pl k) o.op s.1 s.2 = some (.ok d H) /\ s' = (putO s.1 o.dst d,H)) ∨ (wantD ops s.1 o = some false /\ s' = (putO s.1 o.dst ud,s.2))):=by
  unfold effX at h
  simp only [hk] at h
  split at h
  · cases h
  · rename_i hd
    simp only [Bool.not_eq_false] at hd
    refine ⟨hd,?_⟩
    cases hw : wantD ops s.1 o with
    | none=>simp [hw] at h
    | some b=>
      cases b with
      | false=>simp [hw] at h;exact .inr ⟨rfl,h.symm⟩
      | true=>
        simp only [hw] at h
        cases hs : stepZ P A call (placeN A ops pl k) o.op s.1 s.2 with
        | none=>simp [hs] at h
        | some r=>
          cases r with
          | pan _ _=>simp [hs] at h
          | ok d H=>simp [hs] at h;exact .inl ⟨rfl,d,H,rfl,h.symm⟩
omit [Base] in
theorem jrw {k : Nat} {s s' : S2} (h : effX P A call N ops pl k s = some s') {t : Nat} (ht : ∀ (o : Oper),ops[k]? = some o -> o.dst ≠ some t) : s'.1 t = s.1 t:=by
  cases hk : ops[k]? with
  | none=>unfold effX at h;simp [hk] at h;rw [h]
  | some o=>
    obtain ⟨_,⟨_,d,H,_,rfl⟩ | ⟨_,rfl⟩⟩:=je1 hk h
    · exact jd2 fun d hd e=>ht o hk (by rw [hd,e])
    · exact jd2 fun d hd e=>ht o hk (by rw [hd,e])
omit [Base] in
theorem jbO {e : Env} {x : Option Nat} {v : D} {t : Nat} (h : x = some t) : putO e x v t = v:=by subst h;simp [putO,put]
omit [Base] in
theorem jgo {e : Env} {x : Option Nat} {v : D} : (putO e x v).df = e.df:=by cases x <;> rfl
section
variable {tr : Nat -> S2}
omit [Base] in
theorem jgW (ht : Trace P A call N ops pl tr) {t a : Nat} (h : ∀ (k : Nat) (o : Oper),a <= k -> ops[k]? = some o -> o.dst ≠ some t) : ∀ (d : Nat),a + d <= ops.size -> (tr (a + d)).1 t = (tr a).1 t
  | 0,_=>rfl
  | d + 1,hd=>by
    rw [show a + (d + 1) = (a + d) + 1 by omega,jrw (ht (a + d) (by omega)) fun o ho=>h _ o (by omega) ho]
    exact jgW ht h d (by omega)
omit [Base] in
theorem jiu (ht : Trace P A call N ops pl tr) {t a : Nat} (ha : a <= ops.size) (h : ∀ (k : Nat) (o : Oper),a <= k -> ops[k]? = some o -> o.dst ≠ some t) : (tr ops.size).1 t = (tr a).1 t:=by
  have:=jgW ht h (ops.size - a) (by omega)
  rwa [show a + (ops.size - a) = ops.size by omega] at this
structure Lexed (A : Ann) (plb : Bool) (ops : Array Oper) : Prop where
  before : ∀ (j : Nat) (oj : Oper),ops[j]? = some oj -> ∀ e ∈ oj.after,Region.binds .any e = true -> e.on < j
  grows : ∀ (j : Nat) (oj : Oper),ops[j]? = some oj -> growO A oj.op = true -> oj.dst.isSome = true
  looks : ∀ (j : Nat) (oj : Oper) (k : Nat) (ok : Oper),ops[j]? = some oj -> ops[k]? = some ok -> k <= j -> ∀ d,oj.dst = some d -> d ∉ objSl A ok
  looksF : ∀ (j : Nat) (oj : Oper) (k : Nat) (ok : Oper),ops[j]? = some oj -> ops[k]? = some ok -> k < j -> chainOn ops ops.size j k = false -> ∀ d,oj.dst = some d -> d ∉ looksL ops ok
  once : ∀ (j : Nat) (oj : Oper) (k : Nat) (ok : Oper),ops[j]? = some oj -> ops[k]? = some ok -> k < j -> ∀ d,oj.dst = some d -> ok.dst ≠ some d
  pair : ∀ (j : Nat) (oj : Oper) (k : Nat) (ok : Oper),ops[j]? = some oj -> ops[k]? = some ok -> k < j -> chainOn ops ops.size j k = false -> ((openO A ok.op = true /\ openO A oj.op = true /\ ((lenW A plb ok.op = true -> growO A oj.op = true -> False) /\ (growO A ok.op = true -> lenW A plb oj.op = true -> False))) ∨ slotQ A ok.op = true ∨ slotQ A oj.op = true) /\ ∀ d,ok.dst = some d -> d ∉ looksL ops oj
omit [Base] in
theorem jjH {plb : Bool} (h : lexZ A plb ops = true) : Lexed A plb ops:=by
  have row : ∀ (j : Nat) (oj : Oper), ops[j]? = some oj → (oj.after.toList.all fun e => !Region.binds .any e || decide (e.on < j)) = true ∧ (!growO A oj.op || oj.dst.isSome) = true ∧
      ∀ (k : Nat) (ok : Oper),ops[k]? = some ok -> (decide (j < k) || (match oj.dst with | some d=>!(objSl A ok).contains d && ((decide (k < j) && !freeOf ops k j) || !(looksL ops ok).contains d) | none=>true)) = true /\ (decide (j <= k) || (match oj.dst with | some d=>ok.dst != some d | none=>true)) = true /\ (decide (j <= k) || !freeOf ops k j || pairOk A plb ops k j) = true:=by
    intro j oj hj
    have hjs : j < ops.size:=by
      rcases Nat.lt_or_ge j ops.size with h' | h'
      · exact h'
      · simp [Array.getElem?_eq_none h'] at hj
    have h1:=List.all_eq_true.1 h j (by simpa using hjs)
    rw [hj] at h1
    simp only [Bool.and_eq_true] at h1
    refine ⟨h1.1.1,h1.1.2,fun k ok hk=>?_⟩
    have hks : k < ops.size:=by
      rcases Nat.lt_or_ge k ops.size with h' | h'
      · exact h'
      · simp [Array.getElem?_eq_none h'] at hk
    have h2:=List.all_eq_true.1 h1.2 k (by simpa using hks)
    rw [hk] at h2
    simp only [Bool.and_eq_true] at h2
    exact ⟨h2.1.1,h2.1.2,h2.2⟩
  refine ⟨fun j oj hj e he hb=>?_,fun j oj hj hg=>?_,fun j oj k ok hj hk hkj d hd hm=>?_,fun j oj k ok hj hk hkj hch d hd hm=>?_,fun j oj k ok hj hk hkj d hd hm=>?_,fun j oj k ok hj hk hkj hch=>?_⟩
  · have:=List.all_eq_true.1 (row j oj hj).1 e (by simpa using he)
    simpa [hb] using this
  · have:=(row j oj hj).2.1
    simpa [hg] using this
  · have:=((row j oj hj).2.2 k ok hk).1
    rw [hd] at this
    simp [Nat.not_lt.2 hkj] at this
    exact this.1 hm
  · have:=((row j oj hj).2.2 k ok hk).1
    rw [hd] at this
    simp [Nat.not_lt.2 (Nat.le_of_lt hkj),freeOf,hch] at this
    exact this.2 hm
  · have:=((row j oj hj).2.2 k ok hk).2.1
    rw [hd] at this
    simp [Nat.not_le.2 hkj] at this
    exact this hm
  · have:=((row j oj hj).2.2 k ok hk).2.2
    simp [Nat.not_le.2 hkj,freeOf,hch,pairOk,hj,hk] at this
    obtain ⟨h0,h4⟩:=this
    refine ⟨?_,fun d hd hm=>?_⟩
    · rcases h0 with (⟨⟨h1,h2⟩,h3⟩ | h0) | h0
      · refine .inl ⟨h1,h2,fun g1 g2=>?_,fun g1 g2=>?_⟩
        · rcases h3.1 with h3 | h3
          · rw [g1] at h3;cases h3
          · rw [g2] at h3;cases h3
        · rcases h3.2 with h3 | h3
          · rw [g1] at h3;cases h3
          · rw [g2] at h3;cases h3
      · exact .inr (.inl h0)
      · exact .inr (.inr h0)
    · rw [hd] at h4
      simp at h4
      exact h4 hm
omit [Base] in
theorem jvg (hl : Lexed A pl.isSome ops) {E : Env} (hp : (pairsD A ops).all (disjE E) = true) : ∀ k j,k < j -> j < ops.size -> ¬ chainOn ops ops.size j k = true -> ∀ x,(WL A pl.isSome ops E k x -> ¬ TL A pl.isSome ops E j x) /\ (WL A pl.isSome ops E j x -> ¬ TL A pl.isSome ops E k x):=by
  intro k j hkj hj hch x
  have hoj : ops[j]? = some ops[j]:=Array.getElem?_eq_getElem hj
  have hok : ops[k]? = some ops[k]:=Array.getElem?_eq_getElem (by omega)
  simp only [Bool.not_eq_true] at hch
  obtain ⟨h0,h4⟩:=hl.pair j _ k _ hoj hok hkj hch
  have h5:=hl.looksF j _ k _ hoj hok hkj hch
  have h6:=hl.once j _ k _ hoj hok hkj
  have slots : ∀ t,(WL A pl.isSome ops E k (.slot t) -> ¬ TL A pl.isSome ops E j (.slot t)) /\ (WL A pl.isSome ops E j (.slot t) -> ¬ TL A pl.isSome ops E k (.slot t)):=fun t=>by
    have w1 : WL A pl.isSome ops E k (.slot t) ↔ ops[k].dst = some t:=by unfold WL;rw [hok];simp only;split <;> rfl
    have w2 : WL A pl.isSome ops E j (.slot t) ↔ ops[j].dst = some t:=by unfold WL;rw [hoj];simp only;split <;> rfl
    have t1 : TL A pl.isSome ops E k (.slot t) ↔ (t ∈ looksL ops ops[k] ∨ ops[k].dst = some t):=by unfold TL;rw [hok];simp only;split <;> rfl
    have t2 : TL A pl.isSome ops E j (.slot t) ↔ (t ∈ looksL ops ops[j] ∨ ops[j].dst = some t):=by unfold TL;rw [hoj];simp only;split <;> rfl
    rw [w1,w2,t1,t2]
    refine ⟨fun hw ht=>?_,fun hw ht=>?_⟩
    · rcases ht with ht | ht
      · exact h4 t hw ht
      · exact h6 t ht hw
    · rcases ht with ht | ht
      · exact h5 t hw ht
      · exact h6 t hw ht
  have quiet : ∀ i (o : Oper),ops[i]? = some o -> slotQ A o.op = true -> ∀ x,(∀ t,x ≠ .slot t) -> ¬ WL A pl.isSome ops E i x /\ ¬ TL A pl.isSome ops E i x:=fun i o ho hs x hx=>by
    unfold slotQ at hs
    simp only [Bool.and_eq_true,List.isEmpty_iff,Bool.not_eq_true'] at hs
    obtain ⟨⟨⟨q1,q2⟩,q3⟩,q4⟩:=hs
    have hop : openO A o.op = true:=by simp [openO,q1]
    have e1 : tSl A o = []:=by unfold tSl;rw [q2];rfl
    have e2 : wSl A o = []:=by unfold wSl;rw [q3,if_neg (by simp [q4])];rfl
    unfold WL TL
    rw [ho]
    simp only [hop,if_true,e1,e2,objsE,List.flatMap_nil]
    cases x with
    | slot t=>exact absurd rfl (hx t)
    | obj r=>simp
    | len=>simp [lenW,q4]
    | df=>simp
  rcases h0 with ⟨h1,h2,h3⟩ | h0 | h0
  case inr.inl=>
    cases x with
    | slot t=>exact slots t
    | obj r=>obtain ⟨q1,q2⟩:=quiet k _ hok h0 (.obj r) (fun t e=>by cases e);exact ⟨fun h=>absurd h q1,fun _ h=>q2 h⟩
    | len=>obtain ⟨q1,q2⟩:=quiet k _ hok h0 .len (fun t e=>by cases e);exact ⟨fun h=>absurd h q1,fun _ h=>q2 h⟩
    | df=>obtain ⟨q1,q2⟩:=quiet k _ hok h0 .df (fun t e=>by cases e);exact ⟨fun h=>absurd h q1,fun _ h=>q2 h⟩
  case inr.inr=>
    cases x with
    | slot t=>exact slots t
    | obj r=>obtain ⟨q1,q2⟩:=quiet j _ hoj h0 (.obj r) (fun t e=>by cases e);exact ⟨fun _ h=>q2 h,fun h=>absurd h q1⟩
    | len=>obtain ⟨q1,q2⟩:=quiet j _ hoj h0 .len (fun t e=>by cases e);exact ⟨fun _ h=>q2 h,fun h=>absurd h q1⟩
    | df=>obtain ⟨q1,q2⟩:=quiet j _ hoj h0 .df (fun t e=>by cases e);exact ⟨fun _ h=>q2 h,fun h=>absurd h q1⟩
  case inl=>
  have hmem : ∀ p ∈ [(wSl A ops[k],tSl A ops[j] ++ wSl A ops[j]),(wSl A ops[j],tSl A ops[k] ++ wSl A ops[k])],∀ r,r ∈ objsE E p.1 -> r ∈ objsE E p.2 -> False:=by
    intro p hpm r hr1 hr2
    have hin : p ∈ pairsD A ops:=by
      unfold pairsD
      refine List.mem_flatMap.2 ⟨j,by simpa using hj,List.mem_flatMap.2 ⟨k,by simpa using hkj,?_⟩⟩
      rw [hok,hoj]
      simp only
      rw [if_pos (by simp [freeOf,hch])]
      refine List.mem_filter.2 ⟨hpm,?_⟩
      have e1 : p.1 ≠ []:=fun e=>by rw [e] at hr1;simp [objsE] at hr1
      have e2 : p.2 ≠ []:=fun e=>by rw [e] at hr2;simp [objsE] at hr2
      simp [e1,e2]
    have:=List.all_eq_true.1 hp p hin
    have:=List.all_eq_true.1 this r hr1
    have:=List.all_eq_true.1 this r hr2
    simp at this
  unfold WL TL
  rw [hok,hoj]
  simp only [h1,h2,if_true]
  cases x with
  | slot t=>have:=slots t;unfold WL TL at this;rw [hok,hoj] at this;simpa only [h1,h2,if_true] using this
  | obj r=>
    refine ⟨fun hw ht=>hmem (wSl A ops[k],tSl A ops[j] ++ wSl A ops[j]) (by simp) r hw (by simp only [jcB];simpa using ht),fun hw ht=>hmem (wSl A ops[j],tSl A ops[k] ++ wSl A ops[k]) (by simp) r hw (by simp only [jcB];simpa using ht)⟩
  | len=>exact ⟨fun hw ht=>h3.1 hw ht,fun hw ht=>h3.2 ht hw⟩
  | df=>exact ⟨fun hw=>hw.elim,fun hw=>hw.elim⟩
end
omit [Base] in
theorem jmH {H : Heap} {r : Nat} (h : H.length <= r) : hget H r = .dead:=by simp [hget,List.getD,List.getElem?_eq_none h]
def atF (f : Option (Nat × Ob)) (r : Nat) (x : Ob) : Ob:=
  match f with
  | some (r',ob)=>if r' = r then ob else x
  | none=>x
omit [Base] in
theorem jfb {f : Option (Nat × Ob)} {H : Heap} {r : Nat} (L : List Ob) : hget (turnH f L H) r = if r < H.length then atF f r (hget H r) else L.getD (r - H.length) .dead:=by
  unfold turnH atF
  cases f with
  | none=>
    dsimp only
    split
    · rename_i h;simp [hget,List.getD,List.getElem?_append_left h]
    · rename_i h;simp only [hget,List.getD];rw [List.getElem?_append_right (by omega)]
  | some p=>
    obtain ⟨r',ob⟩:=p
    simp only
    split
    · rename_i h
      have : hget (H.set r' ob ++ L) r = hget (H.set r' ob) r:=by simp [hget,List.getD,List.getElem?_append_left (show r < (H.set r' ob).length by simpa using h)]
      rw [this]
      by_cases e : r' = r
      · subst e;rw [if_pos rfl,jad h]
      · rw [if_neg e,jaa e]
    · rename_i h
      simp only [hget,List.getD];rw [List.getElem?_append_right (by simp;omega)];simp
omit [Base] in
theorem jjT {tr : Nat -> S2} (ht : Trace P A call N ops pl tr) (hl : Lexed A pl.isSome ops) : ∀ k,k < ops.size -> ∀ s,(∀ x,TL A pl.isSome ops (tr ops.size).1 k x -> vwS s x = vwS (tr k) x) ->
    ∃ s',effX P A call N ops pl k s = some s' /\ (∀ x,¬ WL A pl.isSome ops (tr ops.size).1 k x -> vwS s' x = vwS s x) /\ (∀ x,WL A pl.isSome ops (tr ops.size).1 k x -> vwS s' x = vwS (tr (k + 1)) x):=by
  intro k hk s hs
  have hok : ops[k]? = some ops[k]:=Array.getElem?_eq_getElem hk
  generalize ops[k] = o at hok
  have hlex:=ht k hk
  by_cases hop : openO A o.op = true
  · -- the slots that are looked at
    have hlook2 : ∀ t ∈ objSl A o,(tr ops.size).1 t = (tr k).1 t:=fun t htl=>jiu ht (by omega) fun j oj hj hoj hd=>hl.looks j oj k o hoj hok hj t hd htl
    have hlook : ∀ t ∈ looksL ops o,s.1 t = (tr k).1 t:=fun t htl=>by
      have:=hs (.slot t) (by unfold TL;rw [hok];simp only [hop,if_true];exact .inl htl)
      simpa [vwS] using this
    have hobj : ∀ t,t ∈ slotsO (readOps A o.op) ∨ t ∈ slotsO (writeOps o.op) -> t ∈ looksL ops o:=fun t h=>List.mem_append_left _ (jqD (A:=A) h)
    have hwant : wantD ops s.1 o = wantD ops (tr k).1 o:=by
      unfold wantD
      cases hg : o.guard with
      | none=>rfl
      | some p=>
        obtain ⟨g,want⟩:=p
        simp only
        cases hd : (ops[g]?).bind (·.dst) with
        | none=>rfl
        | some t=>
          simp only
          rw [hlook t (List.mem_append_right _ (by simp [hg,hd]))]
    have hrd : objsE (tr k).1 (slotsO (readOps A o.op)) = objsE (tr ops.size).1 (slotsO (readOps A o.op)):=jgc fun t h=>(hlook2 t (List.mem_append_left _ h)).symm
    have hwr : objsE (tr k).1 (slotsO (writeOps o.op)) = objsE (tr ops.size).1 (slotsO (writeOps o.op)):=jgc fun t h=>(hlook2 t (List.mem_append_right _ h)).symm
    have hT : ∀ r,r ∈ objsE (tr ops.size).1 (tSl A o) ∨ r ∈ objsE (tr ops.size).1 (wSl A o) -> hget s.2 r = hget (tr k).2 r:=fun r h=>by
      have:=hs (.obj r) (by unfold TL;rw [hok];simp only [hop,if_true];exact h)
      simpa [vwS] using this
    have hlen : growO A o.op = true -> s.2.length = (tr k).2.length:=fun h=>by
      have:=hs .len (by unfold TL;rw [hok];simp only [hop,if_true];exact h)
      simpa [vwS] using this
    have hstep : stepZ P A call (placeN A ops pl k) o.op s.1 s.2 = stepZ P A call (placeN A ops pl k) o.op (tr k).1 s.2:=jgj fun t h=>hlook t (List.mem_append_left _ (List.mem_filterMap.2 ⟨.tmp t,h,rfl⟩))
    obtain ⟨hdst,⟨w1,d,H1,hst,htr⟩ | ⟨w1,htr⟩⟩:=je1 hok hlex
    · obtain ⟨f,L,sh⟩:=openZ hop hst
      have hdW : growO A o.op = true -> ∀ r ∈ objsD d,r ∈ objsE (tr ops.size).1 (wSl A o):=fun hg r hr=>by
        obtain ⟨t,hdt⟩:=Option.isSome_iff_exists.1 (hl.grows k o hok hg)
        have hEt : (tr ops.size).1 t = d:=by
          rw [jiu ht (a:=k + 1) (by omega) fun j oj hj hoj hd=>hl.once j oj k o hoj hok (by omega) t hd hdt,htr]
          exact jbO hdt
        unfold wSl
        rw [jcB,if_pos hg,hdt]
        refine List.mem_append_right _ ?_
        simp only [Option.toList_some,objsE,List.flatMap_cons,List.flatMap_nil,List.append_nil,hEt]
        exact hr
      have hfW : ∀ r' ob,f = some (r',ob) -> r' ∈ objsE (tr ops.size).1 (wSl A o):=fun r' ob e=>by
        rcases sh.wr r' ob e with ⟨h1,_⟩ | ⟨h1,h2,_⟩
        · unfold wSl;rw [jcB,<- hwr];exact List.mem_append_left _ h1
        · exact hdW h1 r' h2
      have hany:=sh.any s.2 (fun hg=>⟨hlen hg,fun r hr=>hT r (.inr (hdW hg r hr))⟩) fun r hr=>hT r (.inl (by unfold tSl;rw [<- hrd];exact hr))
      refine ⟨(putO s.1 o.dst d,turnH f L s.2),?_,fun x hx=>?_,fun x hx=>?_⟩
      · unfold effX
        simp only [hok,hdst,hwant,w1,hstep,hany]
        simp
      all_goals
        unfold WL at hx
        rw [hok] at hx
        simp only [hop,if_true] at hx
      · cases x with
        | slot t=>simp only [vwS,VL.d.injEq];exact jd2 fun d' hd e=>hx (by rw [hd,e])
        | df=>simp only [vwS,jgo]
        | len=>
          have hL:=sh.gr (by rw [jjw];simpa using hx)
          simp only [vwS,jdf,hL,List.length_nil,Nat.add_zero]
        | obj r=>
          simp only [vwS,VL.o.injEq]
          rw [jfb]
          split
          · unfold atF
            cases f with
            | none=>rfl
            | some p=>
              obtain ⟨r',ob⟩:=p
              simp only
              rw [if_neg]
              intro e
              subst e
              exact hx (hfW r' ob rfl)
          · rename_i hge
            rw [jmH (by omega)]
            cases L with
            | nil=>rfl
            | cons a L=>
              have hL1:=sh.one
              have hL0 : L = []:=by cases L with | nil=>rfl | cons _ _=>simp at hL1
              subst hL0
              obtain ⟨hn,hg⟩:=sh.new (by simp)
              have hrl : r ≠ s.2.length:=fun e=>hx (by rw [e,hlen hg];exact hdW hg _ hn)
              have : r - s.2.length = (r - s.2.length - 1) + 1:=by omega
              rw [this];simp
      · rw [htr]
        cases x with
        | slot t=>
          have hx' : o.dst = some t:=hx
          simp only [vwS,VL.d.injEq];rw [jbO hx',jbO hx']
        | df=>exact hx.elim
        | len=>simp only [vwS,VL.n.injEq];rw [sh.eq,jdf,jdf,hlen (jdG hx)]
        | obj r=>
          simp only [vwS,VL.o.injEq]
          have hsr:=hT r (.inr hx)
          have hlt2 : ∀ r' ob,f = some (r',ob) -> r' < (tr k).2.length:=fun r' ob e=>by
            rcases sh.wr r' ob e with ⟨_,h2⟩ | ⟨_,_,h3⟩
            · exact jdX (ob:=_) rfl h2
            · exact h3
          have hnd : ∀ r' ob,f = some (r',ob) -> r' < s.2.length:=fun r' ob e=>by
            rcases sh.wr r' ob e with ⟨_,h2⟩ | ⟨h1,_,h3⟩
            · exact jdX (ob:=_) rfl (by rw [hT r' (.inr (hfW r' ob e))];exact h2)
            · rw [hlen h1];exact h3
          rw [sh.eq,jfb,jfb]
          cases hg : growO A o.op with
          | true=>rw [hlen hg,hsr]
          | false=>
            have hL:=sh.gr (by cases hlw : lenW A (placeN A ops pl k).isSome o.op with | false=>rfl | true=>rw [jdG hlw] at hg;cases hg)
            subst hL
            have one : ∀ (H : Heap),(∀ r' ob,f = some (r',ob) -> r' < H.length) -> (if r < H.length then atF f r (hget H r) else ([] : List Ob).getD (r - H.length) .dead) = atF f r (hget H r):=fun H hH=>by
              split
              · rfl
              · rename_i hge
                have hd:=jmH (H:=H) (r:=r) (by omega)
                unfold atF
                cases f with
                | none=>rw [hd];simp
                | some p=>
                  obtain ⟨r',ob⟩:=p
                  simp only
                  rw [if_neg,hd]
                  · simp
                  · intro e
                    subst e
                    have:=hH r' ob rfl
                    omega
            rw [one _ hnd,one _ hlt2,hsr]
    · refine ⟨(putO s.1 o.dst ud,s.2),?_,fun x hx=>?_,fun x hx=>?_⟩
      · unfold effX
        simp only [hok,hdst,hwant,w1]
        simp
      all_goals
        unfold WL at hx
        rw [hok] at hx
        simp only [hop,if_true] at hx
      · cases x with
        | slot t=>simp only [vwS,VL.d.injEq];exact jd2 fun d' hd e=>hx (by rw [hd,e])
        | df=>simp only [vwS,jgo]
        | len=>rfl
        | obj r=>rfl
      · rw [htr]
        cases x with
        | slot t=>
          have hx' : o.dst = some t:=hx
          simp only [vwS,VL.d.injEq];rw [jbO hx',jbO hx']
        | df=>exact hx.elim
        | len=>simp only [vwS,VL.n.injEq];exact hlen (jdG hx)
        | obj r=>simp only [vwS,VL.o.injEq];exact hT r (.inr hx)
  · have hlook : ∀ t ∈ looksL ops o,s.1 t = (tr k).1 t:=fun t htl=>by
      have:=hs (.slot t) (by unfold TL;rw [hok];simp only [hop,if_false];exact .inl htl)
      simpa [vwS] using this
    have hwant : wantD ops s.1 o = wantD ops (tr k).1 o:=by
      unfold wantD
      cases hg : o.guard with
      | none=>rfl
      | some p=>
        obtain ⟨g,want⟩:=p
        simp only
        cases hd : (ops[g]?).bind (·.dst) with
        | none=>rfl
        | some t=>
          simp only
          rw [hlook t (List.mem_append_right _ (by simp [hg,hd]))]
    have hheap : s.2 = (tr k).2:=by
      have hq : (((tr k).1,s.2) : S2) = ((tr k).1,(tr k).2):=jmy fun x=>by
        cases x with
        | slot t=>rfl
        | df=>rfl
        | obj r=>exact hs (.obj r) (by unfold TL;rw [hok];simp only [hop,if_false];trivial)
        | len=>exact hs .len (by unfold TL;rw [hok];simp only [hop,if_false];trivial)
      exact (Prod.mk.inj hq).2
    have hdf : s.1.df = (tr k).1.df:=by
      have:=hs .df (by unfold TL;rw [hok];simp only [hop,if_false];trivial)
      simpa [vwS] using this
    have hstep : stepZ P A call (placeN A ops pl k) o.op s.1 s.2 = stepZ P A call (placeN A ops pl k) o.op (tr k).1 s.2:=jgj fun t h=>hlook t (List.mem_append_left _ (List.mem_filterMap.2 ⟨.tmp t,h,rfl⟩))
    have fin : ∀ (d : D) (H1 : Heap),tr (k + 1) = (putO (tr k).1 o.dst d,H1) -> (∀ x,¬ WL A pl.isSome ops (tr ops.size).1 k x -> vwS (putO s.1 o.dst d,H1) x = vwS s x) /\ ∀ x,WL A pl.isSome ops (tr ops.size).1 k x -> vwS (putO s.1 o.dst d,H1) x = vwS (tr (k + 1)) x:=fun d H1 htr=>by
      refine ⟨fun x hx=>?_,fun x hx=>?_⟩
      all_goals
        unfold WL at hx
        rw [hok] at hx
        simp only [if_neg hop] at hx
      · cases x with
        | slot t=>simp only [vwS,VL.d.injEq];exact jd2 fun d' hd e=>hx (by rw [hd,e])
        | df=>exact absurd trivial hx
        | obj r=>exact absurd trivial hx
        | len=>exact absurd trivial hx
      · rw [htr]
        cases x with
        | slot t=>
          have hx' : o.dst = some t:=hx
          simp only [vwS,VL.d.injEq];rw [jbO hx',jbO hx']
        | df=>simp only [vwS,jgo,hdf]
        | obj r=>rfl
        | len=>rfl
    obtain ⟨hdst,⟨w1,d,H1,hst,htr⟩ | ⟨w1,htr⟩⟩:=je1 hok hlex
    · obtain ⟨f1,f2⟩:=fin d H1 htr
      refine ⟨(putO s.1 o.dst d,H1),?_,f1,f2⟩
      unfold effX
      simp only [hok,hdst,hwant,w1,hstep]
      rw [hheap,hst]
      simp
    · obtain ⟨f1,f2⟩:=fin ud (tr k).2 htr
      refine ⟨(putO s.1 o.dst ud,(tr k).2),?_,f1,f2⟩
      unfold effX
      simp only [hok,hdst,hwant,w1,hheap]
      simp
omit [Base] in
theorem jev           : ∀ (l : List Oper) (k : Nat) (e : Env) (H : Heap) (E : S2), (∀ j, l[j]? = ops[k + j]?) → runOpsX P A call N ops l e H = some ⟨.norm, E.1, E.2⟩ →
    (pairsD A ops).all (disjE E.1) = true /\ ∃ tr : Nat -> S2,tr k = (e,H) /\ tr (k + l.length) = E /\ ∀ m,k <= m -> m < k + l.length -> effX P A call N ops none m (tr m) = some (tr (m + 1))
  | [],k,e,H,E,_,h=>by
    simp only [runOpsX] at h
    split at h
    · rename_i hp
      simp only [Option.some.injEq,St.mk.injEq,true_and] at h
      exact ⟨by rw [<- h.1];exact hp,fun _=>(e,H),rfl,by show (e,H) = E;rw [h.1,h.2],fun m h1 h2=>by simp at h2;omega⟩
    · cases h
  | o :: l,k,e,H,E,hl,h=>by
    have h0 : ops[k]? = some o:=by simpa using (hl 0).symm
    have key : ∃ s1 : S2,effX P A call N ops none k (e,H) = some s1 /\ runOpsX P A call N ops l s1.1 s1.2 = some ⟨.norm,E.1,E.2⟩:=by
      simp only [runOpsX] at h
      unfold effX
      simp only [h0]
      split at h
      · cases h
      · rename_i hd
        rw [if_neg hd]
        split at h
        · rename_i hw
          simp only [hw,placeN,Option.map_none,stepZ]
          split at h
          · rename_i d H1 hs
            simp only [hs]
            exact ⟨_,rfl,h⟩
          · cases h
        · rename_i hw
          simp only [hw]
          exact ⟨_,rfl,h⟩
        · cases h
    obtain ⟨s1,hy,hrest⟩:=key
    obtain ⟨hp,tr,t1,t2,t3⟩:=jev l (k + 1) s1.1 s1.2 E (fun j=>by have:=hl (j + 1);simpa [Nat.add_assoc,Nat.add_comm 1 j] using this) hrest
    refine ⟨hp,fun m=>if m = k then (e,H) else tr m,by simp,?_,fun m h1 h2=>?_⟩
    · simp only [List.length_cons]
      rw [if_neg (by omega),show k + (l.length + 1) = k + 1 + l.length by omega];exact t2
    · simp only [List.length_cons] at h2
      show effX P A call N ops none m (if m = k then (e,H) else tr m) = some (if m + 1 = k then (e,H) else tr (m + 1))
      by_cases hm : m = k
      · subst hm
        rw [if_pos rfl,if_neg (by omega),t1];exact hy
      · rw [if_neg hm,if_neg (by omega)]
        exact t3 m (by omega) (by omega)
def unl (listed : Array Bool) : Nat:=listed.toList.countP (!·)
omit [Base] in
theorem jmA {listed : Array Bool} {i : Nat} (h : listed.getD i true = false) : unl (listed.setIfInBounds i true) + 1 = unl listed:=by
  have hi : i < listed.size:=by
    rcases Nat.lt_or_ge i listed.size with h' | h'
    · exact h'
    · simp [Array.getElem?_eq_none h'] at h
  have hv : listed.toList[i]'(by simpa using hi) = false:=by simpa [hi] using h
  unfold unl
  rw [Array.toList_setIfInBounds,List.countP_set (by simpa using hi),hv]
  have hpos : 0 < listed.toList.countP (!·):=List.countP_pos_iff.2 ⟨false,by rw [<- hv];exact List.getElem_mem _,rfl⟩
  rw [if_pos (by rfl),if_neg (by decide)]
  omega
omit [Base] in
theorem juH {tr : Nat -> S2} (ht : Trace P A call N ops pl tr) (hl : Lexed A pl.isSome ops) (hp : (pairsD A ops).all (disjE (tr ops.size).1) = true) : ∀ (fuel : Nat) (listed : Array Bool) (s : S2),listed.size = ops.size -> ClosedL ops listed -> unl listed <= fuel ->
    AtL vwS ops.size tr (WL A pl.isSome ops (tr ops.size).1) (fun k=>listed.getD k false = true) s -> anyX P A call N ops pl (tr ops.size) fuel listed s:=by
  have hframe:=jjT ht hl
  have hconf:=jvg hl hp
  have hlex : ∀ k,k < ops.size -> ∀ x,¬ WL A pl.isSome ops (tr ops.size).1 k x -> vwS (tr (k + 1)) x = vwS (tr k) x:=fun k hk x hx=>by
    obtain ⟨s',h1,h2,_⟩:=hframe k hk (tr k) fun _ _=>rfl
    rw [ht k hk] at h1
    cases h1
    exact h2 x hx
  have hend : ∀ (listed : Array Bool) (s : S2),listed.size = ops.size -> Region.ready .any ops listed = [] -> AtL vwS ops.size tr (WL A pl.isSome ops (tr ops.size).1) (fun k=>listed.getD k false = true) s -> s = tr ops.size:=by
    intro listed s hsz hr hat
    have hfull : ∀ m,m < ops.size -> ∀ k,k <= m -> listed.getD k false = true:=by
      intro m
      induction m with
      | zero=>
        intro hm k hk
        have : k = 0:=by omega
        subst this
        cases hg : listed.getD 0 false with
        | true=>rfl
        | false=>
          have : (0 : Nat) ∈ Region.ready .any ops listed:=mem_ready.2 ⟨by simp [hsz,hm] at hg ⊢;exact hg,ops[0],Array.getElem?_eq_getElem hm,fun e he hb=>by have:=hl.before 0 _ (Array.getElem?_eq_getElem hm) e he hb;omega⟩
          rw [hr] at this;cases this
      | succ m ih=>
        intro hm k hk
        have ih':=ih (by omega)
        rcases Nat.lt_or_ge k (m + 1) with h' | h'
        · exact ih' k (by omega)
        · have : k = m + 1:=by omega
          subst this
          cases hg : listed.getD (m + 1) false with
          | true=>rfl
          | false=>
            have : (m + 1) ∈ Region.ready .any ops listed:=mem_ready.2 ⟨by simp [hsz,hm] at hg ⊢;exact hg,ops[m + 1],Array.getElem?_eq_getElem hm,fun e he hb=>ih' e.on (by have:=hl.before (m + 1) _ (Array.getElem?_eq_getElem hm) e he hb;omega)⟩
            rw [hr] at this;cases this
    refine jmy fun x=>hat x ops.size (Nat.le_refl _) (fun k hk _=>hfull k hk k (Nat.le_refl _)) (fun k h1 h2=>by omega)
  intro fuel
  induction fuel with
  | zero=>
    intro listed s hsz hcl hu hat
    have hr : Region.ready .any ops listed = []:=by
      cases hr : Region.ready .any ops listed with
      | nil=>rfl
      | cons i r=>
        have hi : i ∈ Region.ready .any ops listed:=by rw [hr];simp
        have:=jmA (mem_ready.1 hi).1
        omega
    exact ⟨hr,hend listed s hsz hr hat⟩
  | succ fuel ih=>
    intro listed s hsz hcl hu hat
    refine ⟨fun hr=>hend listed s hsz hr hat,fun i hi=>?_⟩
    obtain ⟨hun,oi,hoi,hall⟩:=mem_ready.1 hi
    have hin : i < ops.size:=by
      rcases Nat.lt_or_ge i ops.size with h' | h'
      · exact h'
      · simp [Array.getElem?_eq_none h'] at hoi
    have hnl : ¬ listed.getD i false = true:=fun h=>by
      have:=jcu h
      rw [hun] at this;cases this
    obtain ⟨s',g1,g2⟩:=AtL.step (eff:=effX P A call N ops pl) WL_TL hframe hlex (dep:=fun j k=>chainOn ops ops.size j k = true) hconf hin hnl
      (fun k _ hd=>jdg hcl ops.size i (fun oj hoj=>by rw [hoi] at hoj;cases hoj;exact hall) hd)
      (fun j hj hlj hij hd=>hnl (jdg hcl ops.size j (fun oj hoj=>hcl j oj hoj (jcu hlj)) hd)) hat
    refine ⟨s',g1,ih (listed.setIfInBounds i true) s' (by simpa using hsz) (hcl.set hi) (by have:=jmA hun;omega) ?_⟩
    have hiff : ∀ k,((listed.setIfInBounds i true).getD k false = true) ↔ (listed.getD k false = true ∨ k = i):=by
      intro k
      by_cases hk : i = k
      · subst hk;simp [hsz,hin]
      · simp only [Array.getD_eq_getD_getElem?,Array.getElem?_setIfInBounds,if_neg hk]
        simp [Ne.symm hk]
    intro x m hm hb ha
    exact g2 x m hm (fun k hk hw=>(hiff k).1 (hb k hk hw)) (fun k h1 h2 h3 h4=>ha k h1 h2 h3 ((hiff k).2 h4))
omit [Base] in
theorem jul {xs ys : List D} (hs : stripL xs = some ys) : pur deepest [Ob.arr xs] (.vec 0 0 xs.length) = some (.sl false ys,[.fro xs]):=by
  have h1 : hget [Ob.arr xs] 0 = .arr xs:=rfl
  unfold deepest
  rw [pur]
  simp only [strip,h1,Nat.zero_add,Nat.le_refl,if_true,List.drop_zero,List.take_length,jbd (k:=4) hs,Option.map_some]
  rfl
omit [Base] in
theorem RepP.bare {ρ ρ' : Rho} {n m : Nat} {im : Im} : ∀ {ps : List (Nat × Value)} {ds ds' : List (Nat × D)},RepP ρ n im ps ds -> stripP ds = some ds' -> RepP ρ' m im ps ds'
  | _,_,_,.nil,h=>by simp [stripP] at h;subst h;exact .nil
  | _,_,_,.cons i v d ps ds hv hr,h=>by
    simp only [stripP] at h
    obtain ⟨d',h1,h2⟩:=bind_some h
    obtain ⟨r',h3,rfl⟩:=map_some h2
    exact .cons i v d' ps r' ((hv.strip h1).plain (jdN h1)) (RepP.bare hr h3)
theorem jsf (hA : PrimOk P A) (hcall : CallOk P call) {o : Oper} {ρ : Rho} {im : Im} {H : Heap} {w : World} {a : Act} {e : Env} {r : R} (hR : Rel ρ im H w) (he : EnvR ρ H.length im N a e) (h : stepX P A call o.op e H = some r) : OpOk P ρ im H w a o r:=by
  cases hz : fzO A o.op with
  | false=>exact jeI hA hcall hR he (jli hz h)
  | true=>
    obtain ⟨dst,op,ty,pos,after,guard⟩:=o
    cases op <;> simp only [fzO] at hz <;> try (cases hz;done)
    rename_i t m ps
    simp only [stepX,if_pos hz] at h
    obtain ⟨l,g1,g2⟩:=bind_some h
    obtain ⟨l',g3,g4⟩:=bind_some g2
    have hp : RepP (fun _=>default) 0 im (ps.toList.map fun (i,x)=>(i,a.eval x)) l':=(jc5 he g1).bare g3
    have e1 : (ps.map fun (i,x)=>(i,a.eval x)) = ⟨ps.toList.map fun (i,x)=>(i,a.eval x)⟩:=by apply Array.ext';simp
    rcases jkK g4 with ⟨n',xs,ys,h2,h3,h4,rfl⟩ | ⟨f,h2,rfl⟩
    · obtain ⟨v,ρ',w1,k1,k2,k3⟩:=jb1 (P:=P) (hR.empty (fun _=>default)) hp h2
      have hpur : pur deepest [Ob.arr xs] (.vec 0 0 n') = some (.sl false ys,[.fro xs]):=by
        subst h3
        exact jul h4
      obtain ⟨im3,m3,hv3,_⟩:=jgU deepest _ _ _ _ ρ' im w1 v k2.rel k3 hpur
      exact ja0 (by simp only [execOp,e1];simp [k1]) (Mv.beside hR (k2.trans m3)) (hv3.plain (jdB _ _ _ _ _ hpur))
    · obtain ⟨v,ρ',w1,k1,k2,k3⟩:=jb1 (P:=P) (hR.empty (fun _=>default)) hp h2
      exact ja0 (by simp only [execOp,e1];simp [k1]) (Mv.beside hR k2) ((k3.strip (d':=.sl false []) rfl).plain rfl)
omit [Base] in
theorem jcV {ρ : Rho} {n : Nat} {im : Im} {a : Act} {e : Env} (he : EnvR ρ n im N a e) {x : Operand} {d : D} (h : evalO e x = some d) (hb : bareX e x = true) {ρ' : Rho} {n' : Nat} : Rep ρ' n' im (a.eval x) d:=by
  unfold bareX at hb
  rw [h] at hb
  exact (jai he h).bare hb
omit [Base] in
theorem jfL {ρ : Rho} {n : Nat} {im : Im} {a : Act} {e : Env} (he : EnvR ρ n im N a e) {ρ' : Rho} {n' : Nat} : ∀ {l : List (Nat × Operand)} {ds : List (Nat × D)},partsD e l = some ds -> (∀ x ∈ l.map (·.2),bareX e x = true) -> RepP ρ' n' im (l.map fun (i,x)=>(i,a.eval x)) ds
  | [],ds,h,_=>by simp [partsD] at h;subst h;exact .nil
  | (i,o) :: r,ds,h,hb=>by
    simp only [partsD] at h
    obtain ⟨d,h0,h1⟩:=bind_some h
    obtain ⟨es,h2,rfl⟩:=map_some h1
    exact .cons i _ _ _ _ (jcV he h0 (hb o (by simp))) (jfL he h2 fun x hx=>hb x (by simp at hx ⊢;exact .inr hx))
theorem jig {o : Oper} {ρ : Rho} {im : Im} {H H1 : Heap} {w : World} {a : Act} {e : Env} {d : D} (hR : Rel ρ im H w) (he : EnvR ρ H.length im N a e) (hp : placedO A o.op = true) (hb : o.op.operands.toList.all (bareX e) = true) (h : stepOp P A call o.op e [] = some (.ok d H1)) :
    ∃ v ρ1 im1 w1,(execOp a.eval o).run P w = .ok (.value v) w1 /\ Mv (fun _=>default) im [] w ρ1 im1 H1 w1 /\ Rep ρ1 H1.length im1 v d:=by
  have hE:=hR.empty (fun _=>default)
  have hb':=List.all_eq_true.1 hb
  obtain ⟨dst,op,ty,pos,after,guard⟩:=o
  cases op <;> simp only [placedO] at hp <;> first | (cases hp;done) | simp only [stepOp] at h
  case alloc t=>
    obtain ⟨z,h1,h2⟩:=map_some h
    cases h2
    obtain ⟨zv,hzr,hzo,hnt⟩:=jcd h1 w
    obtain ⟨ρ',w1,g1,g2,g3⟩:=jfy (P:=P) hE (jbD hzo) hnt t
    exact ⟨.pointer (some ⟨w.heap.size,0,none⟩),ρ',im,w1,by simp [execOp,Instr.alloc,hzr,g1],g2,g3⟩
  case box t x=>
    obtain ⟨d,h1,h2⟩:=bind_some h
    split at h2
    · rename_i hn
      cases h2
      obtain ⟨ρ',w1,g1,g2,g3⟩:=jfy (P:=P) hE (jcV he h1 (hb' x (by simp [Op.operands]))) (fun l e=>by subst e;simp [noTup] at hn) t
      exact ⟨.pointer (some ⟨w.heap.size,0,none⟩),ρ',im,w1,by simp [execOp,Instr.box,g1],g2,g3⟩
    · cases h2
  case buildSlice t m ps=>
    obtain ⟨l,h1,h2⟩:=bind_some h
    obtain ⟨d,H',h3,h4⟩:=jaN h2
    cases h4
    obtain ⟨v,ρ',w1,g1,g2,g3⟩:=jb1 (P:=P) hE (jfL he h1 fun x hx=>hb' x (by simpa [Op.operands] using hx)) h3
    have e1 : (ps.map fun (i,x)=>(i,a.eval x)) = ⟨ps.toList.map fun (i,x)=>(i,a.eval x)⟩:=by apply Array.ext';simp
    exact ⟨v,ρ',im,w1,by simp only [execOp,e1];simp [g1],g2,g3⟩
  case makeMap t x=>
    obtain ⟨dx,h1,h2⟩:=bind_some h
    obtain ⟨d,H',h5,h4⟩:=jaN h2
    cases h4
    obtain ⟨v,ρ',w1,g1,g2,g3⟩:=jfJ (P:=P) (vx:=x.map a.eval) hE (by
      cases x with
      | none=>simp [evalOo] at h1;subst h1;trivial
      | some o=>
        simp only [evalOo] at h1
        obtain ⟨d0,k1,rfl⟩:=map_some h1
        exact jcV he k1 (hb' o (by simp [Op.operands]))) h5
    exact ⟨v,ρ',im,w1,by simp [execOp,g1],g2,g3⟩
  case makeSlice t l c=>
    obtain ⟨dl,h1,h2⟩:=bind_some h
    obtain ⟨dc,h3,h4⟩:=bind_some h2
    obtain ⟨d,H',h5,h6⟩:=jaN h4
    cases h6
    obtain ⟨v,ρ',w1,g1,g2,g3⟩:=jew (P:=P) hE (jcV he h1 (hb' l (by simp [Op.operands]))) (jcV he h3 (hb' c (by simp [Op.operands]))) h5
    exact ⟨v,ρ',im,w1,by simp [execOp,g1],g2,g3⟩
omit [Base] in
theorem je8 {l : List Oper} {i j : Nat} {o : Oper} (hij : i < j) (hi : l[i]? = some o) : rankO A l i + (if placedO A o.op then 1 else 0) <= rankO A l j:=by
  unfold rankO
  have h1 : l.take (i + 1) = l.take i ++ [o]:=by rw [List.take_add_one,hi];rfl
  have h2 : (l.take (i + 1)).countP (fun o=>placedO A o.op) <= (l.take j).countP fun o=>placedO A o.op:=by
    have : l.take (i + 1) = (l.take j).take (i + 1):=by rw [List.take_take];congr 1;omega
    rw [this]
    exact (List.take_sublist _ _).countP_le
  rw [h1,List.countP_append,List.countP_singleton] at h2
  exact h2
omit [Base] in
theorem jrB {l : List Oper} {i : Nat} {o : Oper} (hi : l[i]? = some o) : rankO A l (i + 1) = rankO A l i + (if placedO A o.op then 1 else 0):=by
  unfold rankO
  rw [List.take_add_one,hi,Option.toList_some,List.countP_append,List.countP_singleton]
omit [Base] in
theorem jvX {l : List Oper} {i : Nat} {o : Oper} (hi : l[i]? = some o) (hp : placedO A o.op = true) : rankO A l i < placesN A l:=by
  have hl : i < l.length:=(List.getElem?_eq_some_iff.1 hi).1
  have:=je8 (A:=A) (j:=l.length) hl hi
  rw [hp] at this
  have e : rankO A l l.length = placesN A l:=by unfold rankO placesN;rw [List.take_length]
  rw [e] at this
  simp at this
  omega
structure PlInv (A : Ann) (ops : Array Oper) (pl : Option Nat) (listed : Array Bool) (ρ : Rho) (n0 n : Nat) : Prop where
  free : ∀ b,pl = some b -> ∀ (i : Nat) (o : Oper),ops[i]? = some o -> placedO A o.op = true -> listed.getD i true = false -> n0 <= b + rankO A ops.toList i /\ b + rankO A ops.toList i < n /\ (ρ (b + rankO A ops.toList i)).on = false
omit [Base] in
theorem jhj {listed : Array Bool} {i j : Nat} (h : (listed.setIfInBounds i true).getD j true = false) : j ≠ i /\ listed.getD j true = false:=by
  by_cases e : i = j
  · subst e
    exfalso
    simp only [Array.getD_eq_getD_getElem?,Array.getElem?_setIfInBounds,if_true] at h
    split at h <;> simp at h
  · rw [getD_set_ne true e] at h;exact ⟨Ne.symm e,h⟩
omit [Base] in
theorem PlInv.step {listed : Array Bool} {i n0 n n' : Nat} {ρ ρ' : Rho} (h : PlInv A ops pl listed ρ n0 n) (hn : n <= n') (hr : ∀ r,r < n -> ρ' r = ρ r) : PlInv A ops pl (listed.setIfInBounds i true) ρ' n0 n':=
  ⟨fun b hb j o hj hp hl=>by
    obtain ⟨h1,h2,h3⟩:=h.free b hb j o hj hp (jhj hl).2
    exact ⟨h1,Nat.lt_of_lt_of_le h2 hn,by rw [hr _ h2];exact h3⟩⟩
omit [Base] in
theorem PlInv.lay {listed : Array Bool} {i n0 n b : Nat} {ρ : Rho} {g : Reg} {o : Oper} (hb : pl = some b) (hi : ops[i]? = some o) (hp : placedO A o.op = true) (h : PlInv A ops pl listed ρ n0 n) : PlInv A ops pl (listed.setIfInBounds i true) (putR ρ (b + rankO A ops.toList i) g) n0 n:=
  ⟨fun b' hb' j oj hj hpj hl=>by
    rw [hb] at hb';cases hb'
    obtain ⟨hne,hlj⟩:=jhj hl
    obtain ⟨h1,h2,h3⟩:=h.free b hb j oj hj hpj hlj
    refine ⟨h1,h2,?_⟩
    have hr : rankO A ops.toList j ≠ rankO A ops.toList i:=by
      rcases Nat.lt_or_gt_of_ne hne with h | h
      · have:=je8 (A:=A) (l:=ops.toList) h (by simpa using hj);rw [hpj] at this;simp at this;omega
      · have:=je8 (A:=A) (l:=ops.toList) h (by simpa using hi);rw [hp] at this;simp at this;omega
    unfold putR
    rw [if_neg (by omega)];exact h3⟩
theorem jbc (hA : PrimOk P A) (hcall : CallOk P call) {E : S2} {n0 : Nat} {ro : Option Nat} {n : Nat} {Q : Exit -> Act -> World -> Prop} {ρ0 : Rho} {im0 : Im} {H0 : Heap} {w0 : World} : ∀ (fuel : Nat) (listed : Array Bool) {ρ : Rho} {im : Im} {w : World} {a : Act} {s : S2},
    Mv ρ0 im0 H0 w0 ρ im s.2 w -> EnvR ρ s.2.length im N a s.1 -> DfR ρ0 n0 im0 H0 w0 ro a.defers s.1.df -> PlInv A ops pl listed ρ H0.length s.2.length -> anyX P A call N ops pl E fuel listed s -> (∀ a' w',After ρ0 im0 H0 w0 N n0 ro ⟨.norm,E.1,E.2⟩ .normal a' w' -> Q .normal a' w') -> wpAnyIn (FW ro) n P .any ops Q fuel listed a w
  | 0,listed,ρ,im,w,a,s,hM,he,hdf,hI,h,hQ=>by
    obtain ⟨h1,rfl⟩:=h
    exact ⟨h1,hQ _ _ ⟨ρ,im,hM,he,hdf.mv hM,.nilIface,rfl,fun d h=>by cases h⟩⟩
  | fuel + 1,listed,ρ,im,w,a,s,hM,he,hdf,hI,h,hQ=>by
    have hR:=hM.rel
    refine ⟨fun h0=>?_,fun i hi=>?_⟩
    · have:=h.1 h0
      subst this
      exact hQ _ _ ⟨ρ,im,hM,he,hdf.mv hM,.nilIface,rfl,fun d h=>by cases h⟩
    · obtain ⟨s1,g1,g2⟩:=h.2 i hi
      unfold wpOpIn
      unfold effX at g1
      cases ho : ops[i]? with
      | none=>
        simp only [ho] at g1
        simp at g1;subst g1
        exact jbc hA hcall fuel _ hM he hdf (hI.step (Nat.le_refl _) fun _ _=>rfl) g2 hQ
      | some o=>
        simp only [ho] at g1
        simp only
        split at g1
        · cases g1
        · rename_i hdst
          simp only [Bool.not_eq_false] at hdst
          cases hw : wantD ops s.1 o with
          | none=>simp [hw] at g1
          | some b=>
            have hwant:=jc0 he hw
            rw [hwant]
            cases b with
            | false=>
              simp [hw] at g1;subst g1
              simp only [Bool.false_eq_true,if_false]
              exact ⟨fun _ _=>trivial,jbc hA hcall (s:=(putO s.1 o.dst ud,s.2)) fuel _ hM (he.put hdst jdT) (by rw [ja3,jbr];exact hdf) (hI.step (Nat.le_refl _) fun _ _=>rfl) g2 hQ⟩
            | true=>
              simp only [hw] at g1
              simp only [if_true]
              cases hs : stepZ P A call (placeN A ops pl i) o.op s.1 s.2 with
              | none=>simp [hs] at g1
              | some r=>
                cases r with
                | pan _ _=>simp [hs] at g1
                | ok d H1=>
                  simp [hs] at g1;subst g1
                  have plain : stepX P A call o.op s.1 s.2 = some (.ok d H1) -> o.wpIn (FW ro) n P a w (fun a' w'=>wpAnyIn (FW ro) n P .any ops Q fuel (listed.setIfInBounds i true) a' w') Q:=fun hs=>by
                    have hop:=jsf hA hcall (o:=o) hR he hs
                    refine hop ro n _ _ ?_ ?_
                    · intro v w1 hout
                      cases hout with
                      | ok ρ1 im1 _ _ _ _ hm hv=>
                        exact jbc hA hcall (s:=(putO s.1 o.dst d,H1)) fuel _ (hM.trans hm) ((hm.env he).put hdst hv) (by rw [ja3,jbr];exact hdf) (hI.step hm.tr.len hm.tr.ext) g2 hQ
                    · intro ch w1 hout
                      cases hout
                  cases hpl : pl with
                  | none=>
                    rw [hpl] at hs
                    exact plain hs
                  | some b=>
                    rw [hpl] at hs
                    simp only [placeN,Option.map_some,stepZ] at hs
                    split at hs
                    · rename_i hpo
                      split at hs
                      · rename_i hbx
                        have hun:=(mem_ready.1 hi).1
                        obtain ⟨i1,i2,i3⟩:=hI.free b hpl i o ho hpo hun
                        rcases jfM hs with ⟨d0,ob,d',k1,k2,k3,k4,k5,k6⟩ | ⟨d0,k1,k2,k6⟩
                        · cases k6
                          obtain ⟨v,ρ1,im1,w1,e1,e2,e3⟩:=jig (P:=P) (call:=call) hR he hpo hbx k1
                          have M2:=hM.lay i1 i2 i3 e2 k2
                          have hon1:=e2.rel.on 0 (by simp) (jcg (jdO k2))
                          have hag : ∀ r,OnLt ρ r s.2.length -> putR ρ (b + rankO A ops.toList i) (ρ1 0) r = ρ r:=fun r h=>by
                            unfold putR
                            rw [if_neg]
                            rintro rfl
                            rw [h.on] at i3;cases i3
                          refine jce e1 (fun d h=>by cases h) ?_
                          refine jbc hA hcall (s:=(putO s.1 o.dst d,s.2.set (b + rankO A ops.toList i) ob)) fuel _ M2 ?_ (by rw [ja3,jbr];exact hdf) (by rw [List.length_set];exact hI.lay hpl ho hpo) g2 hQ
                          rw [List.length_set]
                          exact (he.mono hag (Nat.le_refl _) e2.le).put hdst (jhp rfl hon1 i2 k5 e3)
                        · cases k6
                          obtain ⟨v,ρ1,im1,w1,e1,e2,e3⟩:=jig (P:=P) (call:=call) hR he hpo hbx k1
                          have m:=Mv.beside hR e2
                          refine jce e1 (fun d h=>by cases h) ?_
                          exact jbc hA hcall (s:=(putO s.1 o.dst d,s.2)) fuel _ (hM.trans m) ((m.env he).put hdst (e3.bare k2)) (by rw [ja3,jbr];exact hdf) (hI.step (Nat.le_refl _) fun _ _=>rfl) g2 hQ
                      · cases hs
                    · exact plain hs
omit [Base] in
theorem jet           {b : Nat} : ∀ (l : List Oper) (k p : Nat) (e : Env) (H : Heap) (E : S2), (∀ j, l[j]? = ops[k + j]?) → p = b + rankO A ops.toList k → runOpsP P A call N ops p l e H = some ⟨.norm, E.1, E.2⟩ →
    (pairsD A ops).all (disjE E.1) = true /\ ∃ tr : Nat -> S2,tr k = (e,H) /\ tr (k + l.length) = E /\ ∀ m,k <= m -> m < k + l.length -> effX P A call N ops (some b) m (tr m) = some (tr (m + 1))
  | [],k,p,e,H,E,_,_,h=>by
    simp only [runOpsP] at h
    split at h
    · rename_i hp
      simp only [Option.some.injEq,St.mk.injEq,true_and] at h
      exact ⟨by rw [<- h.1];exact hp,fun _=>(e,H),rfl,by show (e,H) = E;rw [h.1,h.2],fun m h1 h2=>by simp at h2;omega⟩
    · cases h
  | o :: l,k,p,e,H,E,hl,hpk,h=>by
    have h0 : ops[k]? = some o:=by simpa using (hl 0).symm
    have key : ∃ s1 : S2,effX P A call N ops (some b) k (e,H) = some s1 /\ runOpsP P A call N ops (p + (if placedO A o.op then 1 else 0)) l s1.1 s1.2 = some ⟨.norm,E.1,E.2⟩:=by
      simp only [runOpsP] at h
      unfold effX
      simp only [h0]
      split at h
      · cases h
      · rename_i hd
        rw [if_neg hd]
        split at h
        · rename_i hw
          simp only [hw,placeN,Option.map_some]
          rw [<- hpk]
          split at h
          · rename_i d H1 hs
            simp only [hs]
            exact ⟨_,rfl,h⟩
          · cases h
        · rename_i hw
          simp only [hw]
          exact ⟨_,rfl,h⟩
        · cases h
    obtain ⟨s1,hy,hrest⟩:=key
    obtain ⟨hp,tr,t1,t2,t3⟩:=jet l (k + 1) _ s1.1 s1.2 E (fun j=>by have:=hl (j + 1);simpa [Nat.add_assoc,Nat.add_comm 1 j] using this) (by have hrs:=jrB (A:=A) (l:=ops.toList) (i:=k) (o:=o) (by simpa using h0);rw [hrs,hpk,Nat.add_assoc]) hrest
    refine ⟨hp,fun m=>if m = k then (e,H) else tr m,by simp,?_,fun m h1 h2=>?_⟩
    · simp only [List.length_cons]
      rw [if_neg (by omega),show k + (l.length + 1) = k + 1 + l.length by omega];exact t2
    · simp only [List.length_cons] at h2
      show effX P A call N ops (some b) m (if m = k then (e,H) else tr m) = some (if m + 1 = k then (e,H) else tr (m + 1))
      by_cases hm : m = k
      · subst hm
        rw [if_pos rfl,if_neg (by omega),t1];exact hy
      · rw [if_neg hm,if_neg (by omega)]
        exact t3 m (by omega) (by omega)
omit [Base] in
theorem jfo {e : Env} {H : Heap} {E : S2} (hl : lexZ A pl.isSome ops = true) {tr : Nat -> S2} (t1 : tr 0 = (e,H)) (t2 : tr ops.size = E) (t3 : ∀ m,m < ops.size -> effX P A call N ops pl m (tr m) = some (tr (m + 1))) (hp : (pairsD A ops).all (disjE E.1) = true) :
    anyX P A call N ops pl E ops.size (Array.replicate ops.size false) (e,H):=by
  have:=juH (P:=P) (A:=A) (call:=call) (N:=N) (ops:=ops) (pl:=pl) (tr:=tr) t3 (jjH hl) (by rw [t2];exact hp) ops.size (Array.replicate ops.size false) (e,H) (by simp)
    (fun k ok hk hl=>by
      have hks : k < ops.size:=by
        rcases Nat.lt_or_ge k ops.size with h' | h'
        · exact h'
        · simp [Array.getElem?_eq_none h'] at hk
      simp [hks] at hl) (by
        unfold unl
        refine Nat.le_trans (List.countP_le_length) (by simp)) (fun x m hm hb ha=>by
        have : m = 0 ∨ ∀ k,k < m -> ¬ WL A pl.isSome ops (tr ops.size).1 k x:=by
          refine .inr fun k hk hw=>?_
          have:=hb k hk hw
          simp at this
          have hks : k < ops.size:=by omega
          simp [hks] at this
        have hlexx : ∀ k,k < ops.size -> ∀ x,¬ WL A pl.isSome ops (tr ops.size).1 k x -> vwS (tr (k + 1)) x = vwS (tr k) x:=fun k hk x hx=>by
          obtain ⟨s',h1,h2,_⟩:=jjT (P:=P) (A:=A) (call:=call) (N:=N) (ops:=ops) (pl:=pl) (tr:=tr) t3 (jjH hl) k hk (tr k) fun _ _=>rfl
          rw [t3 k hk] at h1
          cases h1
          exact h2 x hx
        rw [<- t1]
        rcases this with rfl | hno
        · rfl
        · have:=jc1 hlexx (x:=x) (a:=0) m (by omega) (fun k _ hk=>hno k (by omega))
          rw [Nat.zero_add] at this
          exact this.symm)
  rwa [t2] at this
theorem jv0 (hm : P.follows .mixedOrders = true) (hA : PrimOk P A) (hcall : CallOk P call) {id : Nat} {ρ : Rho} {im : Im} {H : Heap} {w : World} {a : Act} {e : Env} {s : St} {n0 : Nat} {ro : Option Nat} {n : Nat} (hR : Rel ρ im H w) (he : EnvR ρ H.length im N a e) (hdf : DfR ρ n0 im H w ro a.defers e.df)
    (hl : lexD A ops = true) (h : runOpsX P A call N ops ops.toList e H = some s) : (Code.region id ops true).wpIn (FW ro) n P (After ρ im H w N n0 ro s) a w:=by
  have hnorm : ∀ (l : List Oper) (e : Env) (H : Heap) (s : St),runOpsX P A call N ops l e H = some s -> s.ex = .norm:=by
    intro l
    induction l with
    | nil=>
      intro e H s h
      simp only [runOpsX] at h
      split at h
      · cases h;rfl
      · cases h
    | cons o l ih=>
      intro e H s h
      simp only [runOpsX] at h
      split at h
      · cases h
      · split at h
        · split at h
          · exact ih _ _ _ h
          · cases h
        · exact ih _ _ _ h
        · cases h
  have hex:=hnorm _ _ _ _ h
  obtain ⟨ex,e2,H2⟩:=s
  simp only at hex
  subst hex
  refine wpIn_region_any hm ?_
  obtain ⟨hp,tr,t1,t2,t3⟩:=jev (P:=P) (A:=A) (call:=call) (N:=N) (ops:=ops) ops.toList 0 e H (e2,H2) (by simp) h
  have hany:=jfo (P:=P) (A:=A) (call:=call) (N:=N) (ops:=ops) (pl:=none) hl t1 (by simpa using t2) (fun m hm=>t3 m (Nat.zero_le _) (by simpa using hm)) hp
  have hR' : Rel ρ im H w.drew:=hR.drew
  have m : Mv ρ im H w ρ im H w.drew:=⟨hR',ImLe.refl _,Tr.drew,fun _ _ _ h=>.inl h⟩
  exact jbc hA hcall (n0:=n0) (ro:=ro) (n:=n) (pl:=none) (Q:=After ρ im H w N n0 ro ⟨.norm,e2,H2⟩) ops.size (Array.replicate ops.size false) (s:=(e,H)) m he hdf ⟨fun b hb=>by cases hb⟩ hany (fun a' w' haf=>haf)
theorem jrK (hm : P.follows .mixedOrders = true) (hA : PrimOk P A) (hcall : CallOk P call) {id : Nat} {ρ : Rho} {im : Im} {H : Heap} {w : World} {a : Act} {e : Env} {s : St} {n0 : Nat} {ro : Option Nat} {n : Nat} (hR : Rel ρ im H w) (he : EnvR ρ H.length im N a e) (hdf : DfR ρ n0 im H w ro a.defers e.df)
    (hl : lexP A ops = true) (h : runOpsP P A call N ops H.length ops.toList e (H ++ List.replicate (placesN A ops.toList) .dead) = some s) : (Code.region id ops true).wpIn (FW ro) n P (After ρ im H w N n0 ro s) a w:=by
  have hnorm : ∀ (l : List Oper) (p : Nat) (e : Env) (H : Heap) (s : St),runOpsP P A call N ops p l e H = some s -> s.ex = .norm:=by
    intro l
    induction l with
    | nil=>
      intro p e H s h
      simp only [runOpsP] at h
      split at h
      · cases h;rfl
      · cases h
    | cons o l ih=>
      intro p e H s h
      simp only [runOpsP] at h
      split at h
      · cases h
      · split at h
        · split at h
          · exact ih _ _ _ _ h
          · cases h
        · exact ih _ _ _ _ h
        · cases h
  have hex:=hnorm _ _ _ _ _ h
  obtain ⟨ex,e2,H2⟩:=s
  simp only at hex
  subst hex
  refine wpIn_region_any hm ?_
  obtain ⟨hp,tr,t1,t2,t3⟩:=jet (P:=P) (A:=A) (call:=call) (N:=N) (ops:=ops) (b:=H.length) ops.toList 0 _ e _ (e2,H2) (by simp) (by simp [rankO]) h
  have hany:=jfo (P:=P) (A:=A) (call:=call) (N:=N) (ops:=ops) (pl:=some H.length) hl t1 (by simpa using t2) (fun m hm=>t3 m (Nat.zero_le _) (by simpa using hm)) hp
  have hR' : Rel ρ im H w.drew:=hR.drew
  have m : Mv ρ im H w ρ im H w.drew:=⟨hR',ImLe.refl _,Tr.drew,fun _ _ _ h=>.inl h⟩
  have m2:=m.trans (Mv.reserve hR' (placesN A ops.toList))
  exact jbc hA hcall (n0:=n0) (ro:=ro) (n:=n) (pl:=some H.length) (Q:=After ρ im H w N n0 ro ⟨.norm,e2,H2⟩) ops.size (Array.replicate ops.size false) (s:=(e,H ++ List.replicate (placesN A ops.toList) .dead)) m2 (m2.env he) hdf
    ⟨fun b hb i o hi hpo _=>by
      cases hb
      have:=jvX (A:=A) (l:=ops.toList) (i:=i) (o:=o) (by simpa using hi) hpo
      refine ⟨Nat.le_add_right _ _,?_,?_⟩
      · show _ < (H ++ List.replicate (placesN A ops.toList) Ob.dead).length
        rw [List.length_append,List.length_replicate];omega
      · have : ¬ (H.length + rankO A ops.toList i < H.length):=by omega
        simp only [offR,if_neg this]⟩ hany (fun a' w' haf=>haf)
end
end Vm
end
section
namespace Vm
open Go Go.RowKit
variable [Base]
section
variable {P : Program} {A : Ann} {call : CallF} {N : Nat} {ρ : Rho} {im : Im} {H : Heap} {w w' : World} {n : Nat} {a : Act} {e : Env}
def LpOk (ρ : Rho) (n : Nat) (im : Im) (rec : Loop) (l : Lp) : Prop:=
  rec.state = l.st /\ rec.pending = l.pend /\ rec.tmps.size = l.N /\ (∀ i,Rep ρ n im (rec.tmps.getD i undef) (l.tmps i)) /\ rec.params = l.ps /\ rec.assign = l.assign /\ rec.body = l.body
omit [Base] in
theorem jfp {ob : Ob} {l : Lp} (h : lpOf ob = some l) : ob = .loop l:=by
  cases ob <;> simp [lpOf] at h
  subst h;rfl
theorem jdb (hR : Rel ρ im H w) {r : Nat} {l : Lp} (h : hget H r = .loop l) : r < H.length /\ live (hget H r) /\ ∃ rec : Loop,w.heap[(ρ r).b]? = some (.loop rec) /\ LpOk ρ H.length im rec l:=by
  have hr:=jdX h (fun e=>by cases e)
  refine ⟨hr,by rw [h];trivial,?_⟩
  have:=hR.obj r hr
  rw [h] at this
  obtain ⟨rec,h1,h2⟩:=this
  exact ⟨rec,h1,h2⟩
omit [Base] in
theorem jbp {b r : Nat} {o : Obj} (h : b ≠ r) : (w.putObj r o).heap[b]? = w.heap[b]?:=World.putObj_heap_other h
theorem Mv.loop (hR : Rel ρ im H w) {r : Nat} {l l' : Lp} (h : hget H r = .loop l) {rec : Loop} (hb : w.heap[(ρ r).b]? = some (.loop rec)) {rec' : Loop} (hl : LpOk ρ H.length im rec' l') :
    Mv ρ im H w ρ im (H.set r (.loop l')) (w.putObj (ρ r).b (.loop rec')):=by
  obtain ⟨hr,hlv,_⟩:=jdb hR h
  have hlt : (ρ r).b < w.heap.size:=(Array.getElem?_eq_some_iff.1 hb).1
  refine ⟨hR.setOb hr hlv (fun b hbn=>jbp hbn) ⟨rec',World.putObj_heap_same hlt,hl⟩,ImLe.refl _,Tr.setOb hr hlv (fun b hbn=>jbp hbn) (by simp) rfl rfl rfl,fun _ _ _ h=>.inl h⟩
theorem Mv.loopEnd (hR : Rel ρ im H w) {r : Nat} {l : Lp} (h : hget H r = .loop l) (o : Obj) :
    Mv ρ im H w ρ im (H.set r .dead) (w.putObj (ρ r).b o):=by
  obtain ⟨hr,hlv,_⟩:=jdb hR h
  refine ⟨hR.setOb hr hlv (fun b hbn=>jbp hbn) trivial,ImLe.refl _,Tr.setOb hr hlv (fun b hbn=>jbp hbn) (by simp) rfl rfl rfl,fun _ _ _ h=>.inl h⟩
theorem Mv.loopNew (hR : Rel ρ im H w) {l : Lp} {rec : Loop} (hl : LpOk ρ H.length im rec l) (o : Obj) :
    Mv ρ im H w (newR ρ H.length ⟨w.heap.size + 1,0,0,true⟩) im (H ++ [.loop l]) ((w.alloc o).alloc (.loop rec)) /\
      ((w.alloc o).alloc (.loop rec)).heap[w.heap.size]? = some o /\ unowned (newR ρ H.length ⟨w.heap.size + 1,0,0,true⟩) (H ++ [.loop l]) w.heap.size:=by
  have hb : ∀ b,b < w.heap.size -> ((w.alloc o).alloc (.loop rec)).heap[b]? = w.heap[b]?:=fun b hb=>(jax (by simp;omega)).trans (jax hb)
  have hw : Rel ρ im H ((w.alloc o).alloc (.loop rec)):=hR.world hb
  have hnew : ((w.alloc o).alloc (.loop rec)).heap[w.heap.size + 1]? = some (.loop rec):=by
    have:=jb5 (w:=w.alloc o) (o:=.loop rec)
    rwa [World.size_alloc] at this
  refine ⟨⟨hw.push (fun s hs hls=>?_) (fun _ o'=>?_) rfl ⟨rec,hnew,hl.1,hl.2.1,hl.2.2.1,fun i=>(hl.2.2.2.1 i).mono (fun r hr=>jaC hr.lt) (by omega) (ImLe.refl _),hl.2.2.2.2⟩,ImLe.refl _,?_,fun _ _ _ h=>.inl h⟩,?_,?_⟩
  · have:=hR.block_lt hs hls
    show (ρ s).b ≠ w.heap.size + 1
    omega
  · cases e : im (w.heap.size + 1) o' with
    | none=>rfl
    | some v=>have:=hR.im_lt e;omega
  · have t1 : Tr ρ H w ρ H ((w.alloc o).alloc (.loop rec)):=Tr.world hb (by simp;omega) rfl rfl rfl
    refine ⟨rfl,rfl,rfl,by simp;omega,by simp,fun r hr=>jaC hr,fun b hb' _=>hb b hb',fun r hr hl hb'=>?_⟩
    simp only [List.length_append,List.length_singleton] at hr
    rcases Nat.lt_succ_iff_lt_or_eq.1 hr with hr' | hr'
    · rw [jat hr'] at hl;exact ⟨r,hr',hl,by rw [jaC hr']⟩
    · subst hr';rw [jaD] at hb';simp at hb';omega
  · have : ((w.alloc o).alloc (.loop rec)).heap[w.heap.size]? = (w.alloc o).heap[w.heap.size]?:=jax (by simp)
    rw [this];exact jb5
  · intro r hr hl e
    simp only [List.length_append,List.length_singleton] at hr
    rcases Nat.lt_succ_iff_lt_or_eq.1 hr with hr' | hr'
    · rw [jat hr'] at hl;rw [jaC hr'] at e
      have:=hR.block_lt hr' hl;omega
    · subst hr';rw [jaD] at e;simp at e
theorem jui {c : Code} {s : St} {n0 : Nat} (hR : Rel ρ im H w) (he : EnvR ρ H.length im N a e) (hd : DfR ρ n0 im H w none a.defers e.df) (h : jumpD c e H = some s) : c.wpIn (FW none) n P (After ρ im H w N n0 none s) a w:=by
  cases c <;> simp [jumpD] at h <;> subst h
  · exact wpIn_exit (.plain hR he hd (fun d h=>by cases h))
  · exact wpIn_ret (.plain hR he hd (fun d h=>by cases h))
theorem jtg (hcall : CallOk P call) {g : Operand} {ps : Array Tmp} {assign body : Code} {k : Nat} : CodeOk P N (runC P A call k N (.rangeFunc g ps assign body)) (.rangeFunc g ps assign body):=by
  intro ρ im H w a e s n0 ro n hR he hd h
  simp only [runC] at h
  obtain ⟨l,h1,h2⟩:=bind_some h
  obtain ⟨df,h3,h4⟩:=bind_some h2
  obtain ⟨rfl,hdl⟩:=hd.r l h1
  have hf:=jai he h3
  cases df <;> simp only at h4 <;> try (cases h4;done)
  rename_i gf cs
  split at h4
  · cases h4
  · rename_i hb
    simp only [not_or,Bool.not_eq_false] at hb
    obtain ⟨hb,hq⟩:=hb
    generalize hv : a.eval g = v at hf
    cases hf with
    | fn _ vs _ hvs=>
      cases hc : call gf (.yld H.length :: cs) (H ++ [.loop ⟨.ready,none,e.f,N,ps,assign,body⟩]) with
      | none=>simp [hc] at h4
      | some r=>
        cases r with
        | pan _ _=>simp [hc] at h4
        | ok d2 H2=>
          simp only [hc] at h4
          refine wpIn_rangeFunc fun fn hfn=>?_
          -- the record
          let rec0 : Loop:={ state:=.ready,pending:=none,fn,tmps:=a.tmps,params:=ps,assign,body,defers:=w.heap.size }
          have hl0 : LpOk ρ H.length im rec0 ⟨.ready,none,e.f,N,ps,assign,body⟩:=⟨rfl,rfl,he.size,he.get,rfl,rfl,rfl⟩
          obtain ⟨m1,hdb,hun⟩:=Mv.loopNew hR hl0 (.deferred (some []))
          have hrep : RepA (newR ρ H.length ⟨w.heap.size + 1,0,0,true⟩) (H ++ [Ob.loop ⟨.ready,none,e.f,N,ps,assign,body⟩]).length im (.func (.yield (w.heap.size + 1)) #[] #[] :: vs) (.yld H.length :: cs):=by
            refine .cons _ _ _ _ ?_ (m1.repA hvs)
            have:=Rep.yld (ρ:=newR ρ H.length ⟨w.heap.size + 1,0,0,true⟩) (n:=(H ++ [Ob.loop ⟨.ready,none,e.f,N,ps,assign,body⟩]).length) (im:=im) H.length ⟨by simp,by rw [jaD]⟩
            rwa [jaD] at this
          have hcalls:=(hcall _ _ _ _ hc _ _ _ _ m1.rel hrep).calls hb
          refine ⟨w.heap.size + 1,[{ target:=.collected w.heap.size,args:=#[] }],_,{ target:=.fn (.func gf) ⟨vs⟩,args:=#[.func (.yield (w.heap.size + 1)) #[] #[]] },(w.alloc (.deferred (some []))).alloc (.loop rec0),gf,⟨.func (.yield (w.heap.size + 1)) #[] #[] :: vs⟩,(w.alloc (.deferred (some []))).alloc (.loop rec0),run_enterLoop_outer _ _ _ _ _,?_,fun _ _=>trivial,?_,jdk,jem (hcalls.mono fun en w2 hout=>?_)⟩
          · simp only [resolve,hv]
            simp [Deferred.ofValue]
            exact ⟨rfl,rfl⟩
          · simp only [invoke]
            have : (#[Value.func (.yield (w.heap.size + 1)) #[] #[]] : Array Value) ++ ⟨vs⟩ = ⟨.func (.yield (w.heap.size + 1)) #[] #[] :: vs⟩:=by apply Array.ext';simp
            rw [this,jbo hb]
          · cases hout with
            | ok ρ2 im2 _ _ v2 _ m2 hv2=>
              cases hg : hget H2 H.length with
              | loop lp=>
                simp only [hg] at h4
                split at h4
                · cases h4
                · rename_i hbusy
                  obtain ⟨hr2,hlv2,rec,hrec,hlp⟩:=jdb m2.rel hg
                  have hρ : (ρ2 H.length).b = w.heap.size + 1:=by
                    rw [m2.tr.ext H.length (by simp),jaD]
                  rw [hρ] at hrec
                  have m12:=m1.trans m2
                  have m3:=Mv.loopEnd m2.rel hg (.loop { rec with state:=.exhausted })
                  rw [hρ] at m3
                  have m:=m12.trans m3
                  have hdf : DfR ρ2 n0 im2 (H2.set H.length .dead) (w2.putObj (w.heap.size + 1) (.loop { rec with state:=.exhausted })) none ({ target:=.collected w.heap.size,args:=#[] } :: a.defers) (some (.mark :: l)):=by
                    have hlt : w.heap.size < ((w.alloc (.deferred (some []))).alloc (.loop rec0)).heap.size:=by simp;omega
                    have hun2:=hun.mv m2 hlt
                    refine ⟨Nat.le_trans hd.n m.tr.size,fun l' hl'=>⟨rfl,?_⟩⟩
                    simp at hl';subst hl'
                    refine .mark w.heap.size _ _ hd.n ?_ (hun2.mv m3 (Nat.lt_of_lt_of_le hlt m2.tr.size)) hq (hdl.mv m)
                    rw [jbp (by omega)]
                    exact (m2.tr.keep w.heap.size hlt hun).trans hdb
                  have he' : EnvR ρ2 (H2.set H.length Ob.dead).length im2 N { a with defers:={ target:=.collected w.heap.size,args:=#[] } :: a.defers } ⟨e.f,some (.mark :: l)⟩:=⟨(m.env he).size,(m.env he).get⟩
                  have hend : (Instr.endLoop (w.heap.size + 1)).run P w2 = .ok lp.pend (w2.putObj (w.heap.size + 1) (.loop { rec with state:=.exhausted })):=by
                    rw [<- hlp.2.1];exact run_endLoop hrec (by rw [hlp.1];exact hbusy)
                  refine ⟨lp.pend,_,hend,?_⟩
                  cases hp : lp.pend with
                  | none=>
                    simp only [hp] at h4
                    simp at h4;subst h4
                    exact ⟨ρ2,im2,m,he',hdf,.nilIface,rfl,fun d hd=>by cases hd⟩
                  | some c=>
                    simp only [hp] at h4
                    exact wpIn_mono (jui m.rel he' hdf h4) fun x a' w' haf=>haf.mv m
              | _=>simp [hg] at h4
end
end Vm
end
section
namespace Vm
open Go Go.RowKit
variable [Base]
section
variable {P : Program} {A : Ann} {call : CallF} {N : Nat}
omit [Base] in
theorem jbE {b : Frame} {a : Act} {k : List Item} {cs : List Frame} {w : World} {c : Code} : step P (lone (b.atR a (.code (.scope c) :: k)) cs w) = .next (lone (b.atR a (.code c :: .inScope c :: k)) cs w):=
  step_lone_go (by simp [stepG,stepG.exec,Frame.atR])
omit [Base] in
theorem jjr {b : Frame} {a : Act} {k : List Item} {cs : List Frame} {w : World} {c : Code} : step P (lone (b.atR a (.inScope c :: k)) cs w) = .next (lone (b.atR a k) cs w):=
  step_lone_go (by simp [stepG,stepG.exec,Frame.atR])
omit [Base] in
theorem jnz {F : Fence} {n : Nat} {a : Act} {w : World} {Q : Exit -> Act -> World -> Prop} {c : Code} (h : c.wpIn F n P (fun x a w=>(∀ l,x ≠ .goto l) /\ Q x a w) a w) : (Code.scope c).wpIn F n P Q a w:=by
  intro b k cs hro hb hr
  have h0 : (lone (b.atR a (.code (.scope c) :: k)) cs w).fenced P F:=fenced_calm hb hr rfl
  obtain ⟨e,a₁,w₁,⟨hg,hq⟩,harr⟩:=h b (.inScope c :: k) cs hro hb hr
  cases e with
  | normal=>exact ⟨.normal,a₁,w₁,hq,.head h0 jbE (StepsIn.trans harr (.one (fenced_calm hb hr rfl) jjr))⟩
  | exit id=>
    have hx : exitTo id (.inScope c :: k) = exitTo id k:=by simp [exitTo]
    exact ⟨.exit id,a₁,w₁,hq,fun k' hk=>.head h0 jbE (harr.1 k' (by rw [hx];exact hk)),
      fun hr' hk=>let ⟨k₁,h1,h2⟩:=harr.2 hr' (by rw [hx];exact hk);⟨k₁,h1,.head h0 jbE h2⟩⟩
  | goto l=>exact absurd rfl (hg l)
  | ret=>exact ⟨_,a₁,w₁,hq,.of_steps (.one h0 jbE) harr⟩
  | panic ch=>exact ⟨_,a₁,w₁,hq,.of_steps (.one h0 jbE) harr⟩
  | outgrown=>exact ⟨_,a₁,w₁,hq,.of_steps (.one h0 jbE) harr⟩
theorem jch (hm : P.follows .mixedOrders = true) (hA : PrimOk P A) (hcall : CallOk P call) (k : Nat) : ∀ (c : Code),CodeOk P N (runC P A call k N c) c
  | .skip=>fun ρ im H w a e s n0 ro n hR he hd h=>by
    simp [runC] at h;subst h
    exact wpIn_skip (.plain hR he hd (fun d h=>by cases h))
  | .label l=>fun ρ im H w a e s n0 ro n hR he hd h=>by
    simp [runC] at h;subst h
    exact wpIn_label (.plain hR he hd (fun d h=>by cases h))
  | .region id ops draw=>fun ρ im H w a e s n0 ro n hR he hd h=>by
    simp only [runC] at h
    cases draw with
    | true=>
      simp only [if_true] at h
      split at h
      · rename_i hl;exact jv0 hm hA hcall hR he hd hl h
      · split at h
        · rename_i hl;exact jrK hm hA hcall hR he hd hl h
        · cases h
    | false=>
      simp only [Bool.false_eq_true,if_false] at h
      exact wpIn_region_list (jdt hA hcall ops.toList hR he hd h fun x a' w' haf=>haf)
  | .seq x y=>fun ρ im H w a e s n0 ro n hR he hd h=>by
    simp only [runC] at h
    cases hx : runC P A call k N x e H with
    | none=>simp [hx] at h
    | some s1=>
      refine wpIn_seq (wpIn_mono (jch hm hA hcall k x _ _ _ _ _ _ _ n0 ro n hR he hd hx) fun x1 a1 w1 haf=>?_)
      obtain ⟨ρ1,im1,mv,he1,hd1,v1,hx1,hp1⟩:=haf.ex
      obtain ⟨ex1,e1,H1⟩:=s1
      cases ex1 with
      | norm=>
        simp only [hx] at h
        simp only [exOf] at hx1
        subst hx1
        exact wpIn_mono (jch hm hA hcall k y _ _ _ _ _ _ _ n0 ro n mv.rel he1 hd1 h) fun x2 a2 w2 haf2=>haf2.mv mv
      | _=>
        simp only [hx] at h
        simp at h;subst h
        simp only [exOf] at hx1
        subst hx1
        exact haf
  | .cond c x y=>fun ρ im H w a e s n0 ro n hR he hd h=>by
    simp only [runC] at h
    cases hc : evalO e c with
    | none=>simp [hc] at h
    | some d=>
      have hv:=jai he hc
      cases d <;> simp [hc] at h
      rename_i b
      have:=hv.bool_inv
      cases b
      · exact wpIn_cond_false this (jch hm hA hcall k y _ _ _ _ _ _ _ n0 ro n hR he hd h)
      · exact wpIn_cond_true this (jch hm hA hcall k x _ _ _ _ _ _ _ n0 ro n hR he hd h)
  | .scope b=>fun ρ im H w a e s n0 ro n hR he hd h=>by
    simp only [runC] at h
    refine jnz (wpIn_mono (jch hm hA hcall k b _ _ _ _ _ _ _ n0 ro n hR he hd h) fun x1 a1 w1 haf=>⟨?_,haf⟩)
    obtain ⟨ρ1,im1,mv,he1,hd1,v1,hx1,hp1⟩:=haf.ex
    subst hx1
    intro l hl
    generalize s.ex = x at hl
    cases x <;> cases hl
  | .block id b=>fun ρ im H w a e s n0 ro n hR he hd h=>by
    simp only [runC] at h
    cases hx : runC P A call k N b e H with
    | none=>simp [hx] at h
    | some s1=>
      refine wpIn_block (wpIn_mono (jch hm hA hcall k b _ _ _ _ _ _ _ n0 ro n hR he hd hx) fun x1 a1 w1 haf=>?_)
      obtain ⟨ρ1,im1,mv,he1,hd1,v1,hx1,hp1⟩:=haf.ex
      obtain ⟨ex1,e1,H1⟩:=s1
      cases ex1 with
      | exit i=>
        simp only [hx] at h
        simp only [exOf] at hx1
        subst hx1
        simp only [Exit.inBlock]
        split at h
        · rename_i hi
          simp at h;subst h
          rw [if_pos hi]
          exact ⟨ρ1,im1,mv,he1,hd1,.nilIface,rfl,fun d hd=>by cases hd⟩
        · rename_i hi
          simp at h;subst h
          rw [if_neg hi]
          exact haf
      | _=>
        simp only [hx] at h
        simp at h;subst h
        simp only [exOf] at hx1
        subst hx1
        exact haf
  | .loop b=>fun ρ im H w a e s n0 ro n hR he hd h=>jsx (jch hm hA hcall k b) k _ _ _ _ _ _ _ n0 ro n hR he hd (by simpa [runC] using h)
  | .rangeFunc _ _ _ _=>jtg hcall
  | .exit id=>fun ρ im H w a e s n0 ro n hR he hd h=>by
    simp [runC] at h;subst h
    exact wpIn_exit (.plain hR he hd (fun d h=>by cases h))
  | .goto _=>fun ρ im H w a e s n0 ro n hR he hd h=>by simp [runC] at h
  | .ret=>fun ρ im H w a e s n0 ro n hR he hd h=>by
    simp [runC] at h;subst h
    exact wpIn_ret (.plain hR he hd (fun d h=>by cases h))
  | .refuse _=>fun ρ im H w a e s n0 ro n hR he hd h=>by simp [runC] at h
omit [Base] in
theorem jkr      {ρ : Rho} {n : Nat} {im : Im} : ∀ {ps : List Tmp} {vs : List Value} {ds : List D} {tm : Array Value} {f : Nat → D} {N : Nat}, RepA ρ n im vs ds → (ps.all fun t => decide (t < N)) = true → tm.size = N → (∀ i, Rep ρ n im (tm.getD i undef) (f i)) →
    ((ps.zip vs).foldl (fun t (p,v)=>t.setIfInBounds p v) tm).size = N /\ ∀ i,Rep ρ n im (((ps.zip vs).foldl (fun t (p,v)=>t.setIfInBounds p v) tm).getD i undef) (putsD f (ps.zip ds) i)
  | [],vs,ds,tm,f,N,hr,hp,hs,hf=>by simp [putsD];exact ⟨hs,fun i=>by have:=hf i;simpa using this⟩
  | p :: ps,_,_,tm,f,N,.nil,hp,hs,hf=>by simp [putsD];exact ⟨hs,fun i=>by have:=hf i;simpa using this⟩
  | p :: ps,_,_,tm,f,N,.cons v d vs ds hv hr,hp,hs,hf=>by
    simp only [List.all_cons,Bool.and_eq_true,decide_eq_true_eq] at hp
    simp only [List.zip_cons_cons,List.foldl_cons,putsD]
    refine jkr hr hp.2 (by simpa using hs) fun i=>?_
    by_cases hi : i = p
    · subst hi
      simpa [Array.getD_eq_getD_getElem?,hs,hp.1] using hv
    · have:=hf i
      simpa [Array.getD_eq_getD_getElem?,Array.getElem?_setIfInBounds_ne (Ne.symm hi),hi] using this
theorem jq6 {run : Nat -> Code -> Env -> Heap -> Option St} (hrun : ∀ N c,CodeOk P N (run N c) c) {r : Nat} {args : List D} {H : Heap} {res : R} (h : roundD run r args H = some res) {ρ : Rho} {im : Im} {w : World} {vs : List Value}
    (hR : Rel ρ im H w) (hargs : RepA ρ H.length im vs args) :
    ∃ fn tmps assign body,(Instr.yield (ρ r).b ⟨vs⟩).run P w = .ok (.round (ρ r).b fn tmps assign body) w /\ ∀ ro n,RoundIn (FW ro) n P (ρ r).b fn tmps assign body w (OutR ρ im H w res):=by
  unfold roundD at h
  obtain ⟨lp,h1,h2⟩:=bind_some h
  have hg:=jfp h1
  obtain ⟨hr,hlv,rec,hrec,hst,hpe,htm,hrep,hps,has,hbo⟩:=jdb hR hg
  split at h2
  · rename_i hc
    obtain ⟨hready,hlen,hall⟩:=hc
    obtain ⟨s1,h3,h4⟩:=bind_some h2
    obtain ⟨x1,e1,H1⟩:=s1
    cases x1 <;> simp only at h4 <;> try (cases h4;done)
    obtain ⟨l1,h5,h6⟩:=bind_some h4
    have hg1:=jfp h5
    split at h6
    · rename_i hready1
      obtain ⟨s2,h7,h8⟩:=bind_some h6
      obtain ⟨j,h9,h10⟩:=bind_some h8
      obtain ⟨l2,h11,h12⟩:=bind_some h10
      have hg2:=jfp h11
      simp at h12;subst h12
      have hvl : vs.length = args.length:=hargs.length
      have hy:=run_yield (P:=P) (args:=⟨vs⟩) hrec (by rw [hps];simpa [hvl] using hlen)
      refine ⟨rec.fn,_,rec.assign,rec.body,hy,fun ro n=>?_⟩
      have hzip : (rec.params.zip ⟨vs⟩).foldl (fun tmps (t,a)=>tmps.setIfInBounds t a) rec.tmps = (lp.ps.toList.zip vs).foldl (fun t (p,v)=>t.setIfInBounds p v) rec.tmps:=by
        rw [hps,<- Array.foldl_toList,Array.toList_zip]
      rw [hzip]
      obtain ⟨hs1,hs2⟩:=jkr (ps:=lp.ps.toList) hargs hall htm hrep
      have hF : (FW ro).fn rec.fn:=trivial
      refine roundIn_of_wpIn hF ?_
      rw [has]
      have hd0 : DfR ρ 0 im H w (some (ρ r).b) [] (none : Option (List Dfr)):=⟨Nat.zero_le _,fun l hl=>by cases hl⟩
      have ha:=hrun lp.N lp.assign ρ im H w { tmps:=(lp.ps.toList.zip vs).foldl (fun t (p,v)=>t.setIfInBounds p v) rec.tmps,defers:=[] } ⟨putsD lp.tmps (lp.ps.toList.zip args),none⟩ _ 0 (some (ρ r).b) n hR ⟨hs1,hs2⟩ hd0 h3
      refine wpIn_mono ha fun x a1 w1 haf=>?_
      obtain ⟨ρ1,im1,m1,he1,hd1,v1,hx1,_⟩:=haf.ex
      simp only [exOf] at hx1
      subst hx1
      simp only [Exit.then]
      obtain ⟨hr1,hlv1,rec1,hrec1,hlp1⟩:=jdb m1.rel hg1
      have hρ1 : ρ1 r = ρ r:=m1.tr.ext r hr
      rw [hρ1] at hrec1
      refine ⟨_,run_beginRound hrec1 (by rw [hlp1.1];exact hready1),?_⟩
      have m2:=Mv.loop m1.rel hg1 (rec:=rec1) (by rw [hρ1];exact hrec1) (rec':={ rec1 with state:=.busy }) (l':={ l1 with st:=.busy }) ⟨rfl,hlp1.2⟩
      rw [hρ1] at m2
      rw [hbo]
      have hb:=hrun lp.N lp.body ρ1 im1 _ _ a1 e1 _ 0 (some (ρ r).b) n m2.rel (m2.env he1) (hd1.mv m2) h7
      refine wpIn_mono hb fun x a2 w2 haf2=>?_
      obtain ⟨ρ2,im2,m3,he2,hd2,v2,hx2,_⟩:=haf2.ex
      obtain ⟨hr2,hlv2,rec2,hrec2,hlp2⟩:=jdb m3.rel hg2
      have hρ2 : ρ2 r = ρ r:=by rw [m3.tr.ext r (by simp;exact hr1),hρ1]
      rw [hρ2] at hrec2
      have m4:=Mv.loop m3.rel hg2 (rec:=rec2) (by rw [hρ2];exact hrec2) (rec':={ rec2 with state:=if j.isNone then .ready else .done,pending:=j }) (l':={ l2 with st:=if j.isNone then .ready else .done,pend:=j }) ⟨rfl,rfl,hlp2.2.2⟩
      rw [hρ2] at m4
      have hend:=run_endRound (P:=P) j hrec2
      have m:=((m1.trans m2).trans m3).trans m4
      have hout : OutR ρ im H w (.ok (.bool j.isNone) (s2.H.set r (.loop { l2 with st:=if j.isNone then .ready else .done,pend:=j }))) (.returned (.bool j.isNone)) _:=.ok ρ2 im2 _ _ _ _ m (.bool _)
      cases hx : s2.ex with
      | norm=>rw [hx] at h9 hx2;simp [leftD] at h9;subst h9;simp only [exOf] at hx2;subst hx2;exact ⟨_,_,hend,hout⟩
      | ret=>rw [hx] at h9 hx2;simp [leftD] at h9;subst h9;simp only [exOf] at hx2;subst hx2;exact ⟨_,_,hend,hout⟩
      | exit id=>rw [hx] at h9 hx2;simp [leftD] at h9;subst h9;simp only [exOf] at hx2;subst hx2;exact ⟨_,_,hend,hout⟩
      | pan d=>rw [hx] at h9;simp [leftD] at h9
    · cases h6
  · cases h2
end
end Vm
end
section
namespace Vm
open Go Go.RowKit
variable [Base]
section
variable {P : Program} {A : Ann} {ρ : Rho} {im : Im} {H : Heap} {w : World} {n N : Nat} {a : Act} {e : Env}
omit [Base] in
theorem jfF (vs : List Value) (m i : Nat) : ((⟨vs⟩ : Array Value) ++ Array.replicate m undef).getD i undef = vs.getD i undef:=by
  rw [Array.getD_eq_getD_getElem?,Array.getElem?_append,List.getD_eq_getElem?_getD]
  split
  · rename_i h;simp
  · rename_i h
    simp at h
    rw [List.getElem?_eq_none h,Array.getElem?_replicate]
    split <;> rfl
omit [Base] in
theorem ji5 : ∀ {vs : List Value} {ds : List D},RepA ρ n im vs ds -> ∀ i,Rep ρ n im (vs.getD i undef) (ds.getD i ud)
  | _,_,.nil,i=>by simp;exact jdT
  | _,_,.cons v d vs ds h hr,0=>by simpa using h
  | _,_,.cons v d vs ds h hr,i + 1=>by simpa using ji5 hr i
omit [Base] in
theorem ji2 {vs : List Value} {ds : List D} (h : RepA ρ n im vs ds) (hN : ds.length <= N) : EnvR ρ n im N { tmps:=⟨vs⟩ ++ Array.replicate (N - (⟨vs⟩ : Array Value).size) undef,defers:=[] } (ofArgs ds):=by
  have hl:=h.length
  refine ⟨by simp;omega,fun i=>?_⟩
  show Rep ρ n im ((⟨vs⟩ ++ Array.replicate (N - (⟨vs⟩ : Array Value).size) undef : Array Value).getD i undef) (ofArgs ds i)
  rw [jfF]
  exact ji5 h i
omit [Base] in
theorem jow {t : TypeId} {pv v : Value} (h : (Instr.loadAt t pv).run P w = .ok v w) (hp : ∃ x,pv = .pointer (some x)) : ((do loadVar t (<- asAddr pv) : Sem Value)).run P w = .ok v w:=by
  obtain ⟨x,rfl⟩:=hp
  simpa [Instr.loadAt,Instr.sureAddr,asAddr] using h
theorem jgP (hR : Rel ρ im H w) (he : EnvR ρ H.length im N a e) : ∀ {rs : List ResultVar} {l : List D},resD P e H rs = some l ->
    ∃ vs,(rs.mapM (fun (r : ResultVar)=>(match r with | .tmp t=>pure (a.tmps.getD t undef) | .cell x t=>do loadVar t (<- asAddr (a.tmps.getD x undef)) : Sem Value))).run P w = .ok vs w /\ RepA ρ H.length im vs l
  | [],l,h=>by simp [resD] at h;subst h;exact ⟨[],by simp,.nil⟩
  | .tmp t :: r,l,h=>by
    simp only [resD] at h
    obtain ⟨l',h1,rfl⟩:=map_some h
    obtain ⟨vs,g1,g2⟩:=jgP hR he h1
    exact ⟨_ :: vs,by simp only [List.mapM_cons,Sem.run_bind,Sem.run_pure,Result.andThen_ok,g1],.cons _ _ _ _ (he.get t) g2⟩
  | .cell x t :: r,l,h=>by
    simp only [resD] at h
    obtain ⟨d,h1,h2⟩:=bind_some h
    obtain ⟨l',h3,rfl⟩:=map_some h2
    obtain ⟨vs,g1,g2⟩:=jgP hR he h3
    obtain ⟨v,g3,g4⟩:=jiz (P:=P) hR (he.get x) h1
    have hp : ∃ y,a.tmps.getD x undef = .pointer (some y):=by
      have:=he.get x
      generalize hv : a.tmps.getD x undef = v at this
      cases hx : e x with
      | ptr _ _ _=>rw [hx] at this;cases this;exact ⟨_,rfl⟩
      | ept _ _=>rw [hx] at this;cases this;exact ⟨_,rfl⟩
      | _=>rw [hx] at h1;simp [loadD] at h1
    have g5:=jow g3 hp
    refine ⟨v :: vs,?_,.cons _ _ _ _ g4 g2⟩
    simp only [List.mapM_cons,Sem.run_bind] at g5 ⊢
    simp only [g5,Result.andThen_ok,g1,Sem.run_pure]
theorem jfR {fn : Func} (hR : Rel ρ im H w) (he : EnvR ρ H.length im N a e) {l : List D} (h : resD P e H fn.results.toList = some l) : ∃ v,(results fn a.tmps).run P w = .ok v w /\ Rep ρ H.length im v (oneD l):=by
  obtain ⟨vs,h1,h2⟩:=jgP hR he h
  have e0 : results fn a.tmps = (do
      let vs <- fn.results.mapM (fun (r : ResultVar)=>(match r with | .tmp t=>pure (a.tmps.getD t undef) | .cell x t=>do loadVar t (<- asAddr (a.tmps.getD x undef)) : Sem Value))
      pure (if h : vs.size = 1 then vs[0] else .tuple vs)):=rfl
  rw [e0]
  have hm : (fn.results.mapM (fun (r : ResultVar)=>(match r with | .tmp t=>pure (a.tmps.getD t undef) | .cell x t=>do loadVar t (<- asAddr (a.tmps.getD x undef)) : Sem Value))).run P w = .ok vs.toArray w:=by
    rw [Array.mapM_eq_mapM_toList]
    simp only [Sem.run_map,h1,Result.andThen_ok]
  simp only [Sem.run_bind]
  rw [hm]
  simp only [Result.andThen_ok,Sem.run_pure]
  refine ⟨_,rfl,?_⟩
  have hlen:=h2.length
  match vs,l,h2 with
  | [],[],h2=>simpa [oneD] using Rep.tup [] [] h2
  | [v],[d],.cons _ _ _ _ hv _=>simpa [oneD] using hv
  | v :: u :: vs,d :: f :: l,h2=>simpa [oneD] using Rep.tup _ _ h2
inductive MdR (ρ : Rho) (n : Nat) (im : Im) : FrameMode -> Md -> Prop
  | ret : MdR ρ n im .returning .ret
  | pan (v : Value) (d : D) (h : Rep ρ n im v d) : MdR ρ n im (.panicking [{ v,recovered:=false }]) (.pan d)
  | rcv (v : Value) (d : D) (h : Rep ρ n im v d) : MdR ρ n im (.panicking [{ v,recovered:=true }]) (.rcv d)
theorem MdR.mv {ρ1 : Rho} {im1 : Im} {H1 : Heap} {w1 : World} {u : FrameMode} {m : Md} (h : MdR ρ H.length im u m) (k : Mv ρ im H w ρ1 im1 H1 w1) : MdR ρ1 H1.length im1 u m:=by
  cases h with
  | ret=>exact .ret
  | pan v d h=>exact .pan v d (k.rep h)
  | rcv v d h=>exact .rcv v d (k.rep h)
omit [Base] in
theorem MdR.settle {u : FrameMode} {m : Md} (h : MdR ρ n im u m) : MdR ρ n im (Go.settle u) m.settle:=by
  cases h with
  | ret=>exact .ret
  | pan v d h=>exact .pan v d h
  | rcv v d h=>exact .ret
omit [Base] in
theorem MdR.run {u : FrameMode} {m : Md} (h : MdR ρ n im u m) : u ≠ .run:=by cases h <;> exact fun e=>by cases e
omit [Base] in
theorem jwc {u : FrameMode} {m : Md} (h : MdR ρ n im u m) (c₀ : Frame) (cs : List Frame) :
    (match recoverD ({ c₀ with mode:=u } :: cs) with
      | some (v,cs')=>Rep ρ n im v (recD m).1 /\ ∃ u',cs' = { c₀ with mode:=u' } :: cs /\ MdR ρ n im u' (recD m).2
      | none=>(recD m) = (.nili,m)):=by
  cases h with
  | ret=>simp [recoverD,recD]
  | pan v d h=>simp only [recoverD];exact ⟨h,_,rfl,.rcv v d h⟩
  | rcv v d h=>simp [recoverD,recD]
omit [Base] in
theorem jpR {ρe : Operand -> Value} {o : Oper} (h : plainO o.op = true) {y : Next} {w' : World} (hr : (execOp ρe o).run P w = .ok y w') : (∃ v,y = .value v) ∨ y = .skip:=by
  have vl : ∀ {s : Sem Value},((do pure (.value (<- s)) : Sem Next)).run P w = .ok y w' -> ∃ v,y = .value v:=fun {s} h=>by
    simp only [Sem.run_bind] at h
    cases hs : s.run P w with
    | ok v w1=>simp [hs] at h;exact ⟨v,h.1.symm⟩
    | halt _ _=>simp [hs] at h
  have sk : ∀ {s : Sem Unit},((do s;pure .skip : Sem Next)).run P w = .ok y w' -> y = .skip:=fun {s} h=>by
    simp only [Sem.run_bind] at h
    cases hs : s.run P w with
    | ok v w1=>simp [hs] at h;exact h.1.symm
    | halt _ _=>simp [hs] at h
  cases ho : o.op <;> rw [ho] at h <;> simp only [plainO] at h <;> first | (cases h;done) | skip
  all_goals simp only [execOp,ho] at hr
  case move=>simp at hr;exact .inl ⟨_,hr.1.symm⟩
  case assign=>simp at hr;exact .inl ⟨_,hr.1.symm⟩
  case pick c x y'=>
    left
    simp only [Sem.run_bind] at hr
    cases hs : (asBool (ρe c)).run P w with
    | ok v w1=>simp [hs] at hr;exact ⟨_,hr.1.symm⟩
    | halt _ _=>simp [hs] at hr
  case store=>exact .inr (sk hr)
  all_goals exact .inl (vl hr)
structure AfterS (ρ : Rho) (im : Im) (H : Heap) (w : World) (N : Nat) (n0 : Nat) (c₀ : Frame) (cs : List Frame) (s : St) (m : Md) (x : Exit) (a' : Act) (cs' : List Frame) (w' : World) : Prop where
  ex : ∃ ρ' im' u',cs' = { c₀ with mode:=u' } :: cs /\ Mv ρ im H w ρ' im' s.H w' /\ EnvR ρ' s.H.length im' N a' s.e /\ DfR ρ' n0 im' s.H w' none a'.defers s.e.df /\ MdR ρ' s.H.length im' u' m /\
    ∃ v,x = exOf v s.ex /\ ∀ d,s.ex = .pan d -> Rep ρ' s.H.length im' v d
theorem AfterS.mv {ρ1 : Rho} {im1 : Im} {H1 : Heap} {w1 : World} {n0 : Nat} {c₀ : Frame} {cs : List Frame} {s : St} {m : Md} {x : Exit} {a' : Act} {cs' : List Frame} {w' : World} (k : Mv ρ im H w ρ1 im1 H1 w1) (h : AfterS ρ1 im1 H1 w1 N n0 c₀ cs s m x a' cs' w') :
    AfterS ρ im H w N n0 c₀ cs s m x a' cs' w':=by
  obtain ⟨ρ',im',u',h1,h2,h3⟩:=h.ex
  exact ⟨ρ',im',u',h1,k.trans h2,h3⟩
omit [Base] in
theorem jlT {ρe : Operand -> Value} {o : Oper} (h : recoverC o.op = true) (w : World) : (execOp ρe o).run P w = .ok .recover w:=by
  cases ho : o.op <;> rw [ho] at h <;> simp [recoverC] at h
  rename_i c
  cases hc : c.callee <;> simp [hc] at h
  rename_i b
  cases b <;> simp at h
  simp only [execOp,ho,resolve,hc,Sem.run_bind,Sem.run_pure,Result.andThen_ok,invoke]
  simp [builtin]
theorem jcz (hA : PrimOk P A) {n0 : Nat} {n : Nat} {ops : Array Oper} {c₀ : Frame} {cs : List Frame} {Q : Exit -> Act -> List Frame -> World -> Prop} : ∀ (l : List Oper) (k : Nat) {ρ : Rho} {im : Im} {H : Heap} {w : World} {a : Act} {e : Env} {m : Md} {u : FrameMode} {e' : Env} {H' : Heap} {m' : Md},
    (∀ j,l[j]? = ops[k + j]?) -> Rel ρ im H w -> EnvR ρ H.length im N a e -> DfR ρ n0 im H w none a.defers e.df -> MdR ρ H.length im u m -> runOpsS P A N ops l e H m = some (e',H',m') ->
    (∀ x a' cs' w',AfterS ρ im H w N n0 c₀ cs ⟨.norm,e',H'⟩ m' x a' cs' w' -> Q x a' cs' w') -> wpOpsSIn (FW none) n P ops Q (List.range' k l.length) a ({ c₀ with mode:=u } :: cs) w
  | [],k,ρ,im,H,w,a,e,m,u,e',H',m',hl,hR,he,hd,hm,h,hQ=>by
    simp [runOpsS] at h
    obtain ⟨rfl,rfl,rfl⟩:=h
    exact hQ _ _ _ _ ⟨ρ,im,u,rfl,Mv.refl hR,he,hd,hm,.nilIface,rfl,fun d hd=>by cases hd⟩
  | o :: rest,k,ρ,im,H,w,a,e,m,u,e',H',m',hl,hR,he,hd,hm,h,hQ=>by
    have ho : ops[k]? = some o:=by simpa using (hl 0).symm
    have hl' : ∀ j,rest[j]? = ops[k + 1 + j]?:=fun j=>by have:=hl (j + 1);simpa [Nat.add_assoc,Nat.add_comm 1 j] using this
    simp only [List.length_cons,List.range'_succ,wpOpsSIn,ho]
    simp only [runOpsS] at h
    refine ⟨fun _ _=>trivial,?_⟩
    split at h
    · cases h
    · rename_i hdst
      simp only [Bool.not_eq_false] at hdst
      cases hw : wantD ops e o with
      | none=>simp [hw] at h
      | some b=>
        have hwant:=jc0 he hw
        rw [hwant]
        cases b with
        | false=>
          simp only [hw] at h
          simp only [Bool.false_eq_true,if_false]
          exact jcz hA rest (k + 1) hl' hR (he.put hdst jdT) (by rw [ja3,jbr];exact hd) hm h hQ
        | true=>
          simp only [hw] at h
          simp only [if_true]
          split at h
          · rename_i hrec
            rw [jlT hrec w]
            have hrr:=jwc hm c₀ cs
            cases hrd : recoverD ({ c₀ with mode:=u } :: cs) with
            | none=>
              rw [hrd] at hrr
              simp only at hrr ⊢
              rw [hrr] at h
              exact jcz hA rest (k + 1) hl' hR (he.put hdst .nili) (by rw [ja3,jbr];exact hd) hm h hQ
            | some q=>
              obtain ⟨v,cs'⟩:=q
              rw [hrd] at hrr
              obtain ⟨hv,u',rfl,hm'⟩:=hrr
              exact jcz hA rest (k + 1) hl' hR (he.put hdst hv) (by rw [ja3,jbr];exact hd) hm' h hQ
          · split at h
            · cases h
            · rename_i hpl
              simp only [Bool.not_eq_false] at hpl
              cases hs : stepOp P A (fun _ _ _=>none) o.op e H with
              | none=>simp [hs] at h
              | some r=>
                cases r with
                | pan _ _=>simp [hs] at h
                | ok d H1=>
                  simp only [hs] at h
                  have hop:=jeI hA (fun _ _ _ _ hc=>by cases hc) (o:=o) hR he hs none n (fun a' w'=>∃ v,OutR ρ im H w (.ok d H1) (.returned v) w' /\ a' = a.put o.dst v) (fun _ _ _=>False) (fun v w' hout=>⟨v,hout,rfl⟩) (fun ch w' hout=>by cases hout)
                  have hun:=hop.2
                  simp only [FW,Oper.semAt_none] at hun
                  have next : ∀ {v : Value} {w1 : World},OutR ρ im H w (.ok d H1) (.returned v) w1 -> wpOpsSIn (FW none) n P ops Q (List.range' (k + 1) rest.length) (a.put o.dst v) ({ c₀ with mode:=u } :: cs) w1:=fun {v w1} hout=>by
                    cases hout with
                    | ok ρ1 im1 _ _ _ _ hmv hv=>
                      exact jcz hA rest (k + 1) hl' hmv.rel ((hmv.env he).put hdst hv) (by rw [ja3,jbr];exact hd.mv hmv) (hm.mv hmv) h fun x a' cs' w' haf=>hQ x a' cs' w' (haf.mv hmv)
                  cases hrun : (execOp a.eval o).run P w with
                  | halt x w1=>
                    rw [hrun] at hun
                    cases x <;> exact hun.elim
                  | ok y w1=>
                    rw [hrun] at hun
                    rcases jpR hpl hrun with ⟨v,rfl⟩ | rfl
                    · obtain ⟨v',hout,hput⟩:=(hun : ∃ v',OutR ρ im H w (.ok d H1) (.returned v') w1 /\ a.put o.dst v = a.put o.dst v')
                      show wpOpsSIn (FW none) n P ops Q (List.range' (k + 1) rest.length) (a.put o.dst v) _ w1
                      rw [hput]
                      exact next hout
                    · obtain ⟨v',hout,hput⟩:=(hun : ∃ v',OutR ρ im H w (.ok d H1) (.returned v') w1 /\ a.put o.dst undef = a.put o.dst v')
                      show wpOpsSIn (FW none) n P ops Q (List.range' (k + 1) rest.length) (a.put o.dst undef) _ w1
                      rw [hput]
                      exact next hout
end
end Vm
end
section
namespace Vm
open Go Go.RowKit
variable [Base]
section
variable {P : Program} {A : Ann} {ρ : Rho} {im : Im} {H : Heap} {w : World} {n N : Nat} {a : Act} {e : Env}
theorem ju4 (hA : PrimOk P A) {run : Code -> Env -> Heap -> Option St} (hrun : ∀ c,CodeOk P N (run c) c) {n0 : Nat} {c₀ : Frame} {cs : List Frame} : ∀ (c : Code) {ρ : Rho} {im : Im} {H : Heap} {w : World} {a : Act} {e : Env} {m : Md} {u : FrameMode} {s : St} {m' : Md},
    Rel ρ im H w -> EnvR ρ H.length im N a e -> DfR ρ n0 im H w none a.defers e.df -> MdR ρ H.length im u m -> runS P A N run c e H m = some (s,m') ->
    c.wpSIn (FW none) n P (AfterS ρ im H w N n0 c₀ cs s m') a ({ c₀ with mode:=u } :: cs) w:=by
  have other : ∀ (c : Code) {ρ : Rho} {im : Im} {H : Heap} {w : World} {a : Act} {e : Env} {m : Md} {u : FrameMode} {s : St} {m' : Md},
      Rel ρ im H w -> EnvR ρ H.length im N a e -> DfR ρ n0 im H w none a.defers e.df -> MdR ρ H.length im u m -> (run c e H).map (fun s=>(s,m)) = some (s,m') ->
      c.wpSIn (FW none) n P (AfterS ρ im H w N n0 c₀ cs s m') a ({ c₀ with mode:=u } :: cs) w:=by
    intro c ρ im H w a e m u s m' hR he hd hm h
    obtain ⟨s1,h1,h2⟩:=map_some h
    simp at h2
    obtain ⟨rfl,rfl⟩:=h2
    refine wpSIn_of_wpIn rfl (wpIn_mono (hrun c _ _ _ _ _ _ _ n0 none n hR he hd h1) fun x a' w' haf=>?_)
    obtain ⟨ρ',im',g1,g2,g3,g4⟩:=haf.ex
    exact ⟨ρ',im',u,rfl,g1,g2,g3,hm.mv g1,g4⟩
  intro c
  induction c with
  | seq x y ihx ihy=>
    intro ρ im H w a e m u s m' hR he hd hm h
    simp only [runS] at h
    obtain ⟨⟨⟨x1,e1,H1⟩,m1⟩,h1,h2⟩:=bind_some h
    have hx:=ihx hR he hd hm h1
    refine wpSIn_seq ?_
    have mono : ∀ {c : Code} {Q Q' : Exit -> Act -> List Frame -> World -> Prop} {a : Act} {cs : List Frame} {w : World},c.wpSIn (FW none) n P Q a cs w -> (∀ x a' cs' w',Q x a' cs' w' -> Q' x a' cs' w') -> c.wpSIn (FW none) n P Q' a cs w:=fun h k b kk h1 h2 h3 h4=>
      let ⟨e,a',cs',w',l,q,r⟩:=h b kk h1 h2 h3 h4;⟨e,a',cs',w',l,k _ _ _ _ q,r⟩
    refine mono hx fun x a1 cs1 w1 haf=>?_
    obtain ⟨ρ1,im1,u1,rfl,g1,g2,g3,g4,v1,hx1,hp1⟩:=haf.ex
    cases x1 with
    | norm=>
      simp only [exOf] at hx1
      subst hx1
      simp only at h2
      simp only [Exit.thenS]
      exact mono (ihy g1.rel g2 g3 g4 h2) fun x a' cs' w' haf2=>haf2.mv g1
    | exit i=>
      simp only [exOf] at hx1;subst hx1
      simp at h2;obtain ⟨rfl,rfl⟩:=h2
      exact haf
    | ret=>
      simp only [exOf] at hx1;subst hx1
      simp at h2;obtain ⟨rfl,rfl⟩:=h2
      exact haf
    | pan d=>
      simp only [exOf] at hx1;subst hx1
      simp at h2;obtain ⟨rfl,rfl⟩:=h2
      exact haf
  | cond c x y ihx ihy=>
    intro ρ im H w a e m u s m' hR he hd hm h
    simp only [runS] at h
    cases hc : evalO e c with
    | none=>simp [hc] at h
    | some d=>
      have hv:=jai he hc
      cases d <;> simp [hc] at h
      rename_i b
      have:=hv.bool_inv
      cases b
      · exact wpSIn_cond this (ihy hR he hd hm h)
      · exact wpSIn_cond this (ihx hR he hd hm h)
  | region id ops draw=>
    intro ρ im H w a e m u s m' hR he hd hm h
    simp only [runS] at h
    split at h
    · rename_i hq
      obtain ⟨hdr,_⟩:=hq
      subst hdr
      obtain ⟨⟨e',H',m1⟩,h1,h2⟩:=map_some h
      simp at h2
      obtain ⟨rfl,rfl⟩:=h2
      refine wpSIn_region ?_
      have:=jcz hA (n:=n) (c₀:=c₀) (cs:=cs) (Q:=AfterS ρ im H w N n0 c₀ cs ⟨.norm,e',H'⟩ m1) ops.toList 0 (fun j=>by simp) hR he hd hm h1 (fun x a' cs' w' haf=>haf)
      rw [List.range_eq_range']
      simpa using this
    · exact other _ hR he hd hm h
  | _=>
    intro ρ im H w a e m u s m' hR he hd hm h
    exact other _ hR he hd hm (by simpa only [runS] using h)
theorem jte (hA : PrimOk P A) {run : Nat -> Code -> Env -> Heap -> Option St} (hrun : ∀ N c,CodeOk P N (run N c) c) {f : FuncId} {args : List D} {m m' : Md} {H' : Heap} {vs : List Value} {u : FrameMode} (h : lastD P A run f args m H = some (m',H'))
    (hR : Rel ρ im H w) (hargs : RepA ρ H.length im vs args) (hm : MdR ρ H.length im u m) :
    bodied P f = true /\ CallsDIn (FW none) n P f ⟨vs⟩ u w fun en u' w'=>∃ v ρ' im',en = .returned v /\ Mv ρ im H w ρ' im' H' w' /\ MdR ρ' H'.length im' (Go.settle u') m':=by
  unfold lastD at h
  cases hf : P.funcs[f]? with
  | none=>simp [hf] at h
  | some fn=>
    simp only [hf] at h
    cases hb : fn.body with
    | none=>simp [hb] at h
    | some c=>
      simp only [hb] at h
      split at h
      · cases h
      · rename_i hcond
        simp only [Bool.or_eq_true,decide_eq_true_eq,not_or,Nat.not_lt] at hcond
        refine ⟨by simp [bodied,hf,hb];simpa using hcond.1,?_⟩
        obtain ⟨⟨s,m1⟩,h1,h2⟩:=bind_some h
        have he:=ji2 hargs hcond.2
        refine callsDIn_of_wpSIn hf hb trivial fun c₀ cs hu=>?_
        have hd : DfR ρ w.heap.size im H w none [] (ofArgs args).df:=⟨Nat.le_refl _,fun l hl=>⟨rfl,by simp [ofArgs] at hl;subst hl;exact .nil⟩⟩
        have hc₀ : ({ c₀ with mode:=u } : Frame) = c₀:=by subst hu;rfl
        have hs:=ju4 (n:=n) hA (hrun fn.ntmps) (c₀:=c₀) (cs:=cs) c hR he hd hm h1
        rw [hc₀] at hs
        intro b kk g1 g2 g3 g4
        obtain ⟨x,a',cs',w',hl,haf,harr⟩:=hs b kk g1 g2 g3 g4
        refine ⟨x,a',cs',w',hl,?_,harr⟩
        obtain ⟨ρ1,im1,u1,rfl,k1,k2,k3,k4,v1,hx1,hp1⟩:=haf.ex
        obtain ⟨x1,e1,H1⟩:=s
        have fin : ∀ {x1 : Ex},(if noDf e1.df = true /\ (resD P e1 H1 fn.results.toList).isSome = true then some (m1.settle,H1) else none) = some (m',H') ->
            a'.defers = [] /\ ∃ u',({ c₀ with mode:=u1 } : Frame) :: cs = { c₀ with mode:=u' } :: cs /\ ∃ v,(results fn a'.tmps).run P w' = .ok v w' /\ ∃ v' ρ' im',Ending.returned v = .returned v' /\ Mv ρ im H w ρ' im' H' w' /\ MdR ρ' H'.length im' (Go.settle u') m':=by
          intro x1 h2
          split at h2
          · rename_i hcc
            simp at h2
            obtain ⟨rfl,rfl⟩:=h2
            obtain ⟨hdf,hres⟩:=hcc
            have hnil : e1.df = some []:=by
              cases hq : e1.df with
              | none=>simp [hq,noDf] at hdf
              | some l=>cases l with
                | nil=>rfl
                | cons _ _=>simp [hq,noDf] at hdf
            have hdl:=(k3.r [] hnil).2
            have hdn : a'.defers = []:=by
              generalize a'.defers = ds at hdl
              cases hdl;rfl
            cases hrs : resD P e1 H1 fn.results.toList with
            | none=>simp [hrs] at hres
            | some l=>
              obtain ⟨v',g1,g2⟩:=jfR k1.rel k2 hrs
              exact ⟨hdn,u1,rfl,v',g1,v',ρ1,im1,rfl,k1,k4.settle⟩
          · cases h2
        cases x1 with
        | norm=>simp only [exOf] at hx1;subst hx1;exact fin (x1:=.norm) h2
        | ret=>simp only [exOf] at hx1;subst hx1;exact fin (x1:=.ret) h2
        | exit i=>simp at h2
        | pan d=>simp at h2
theorem Mv.shut {ρ1 : Rho} {im1 : Im} {H1 : Heap} {w1 : World} {b : Nat} {ds : Option (List Deferred)} (m : Mv ρ im H w ρ1 im1 H1 w1) (hb : w.heap.size <= b) (ho : w1.heap[b]? = some (.deferred ds)) (hu : unowned ρ1 H1 b) (o : Obj) : Mv ρ im H w ρ1 im1 H1 (w1.putObj b o):=by
  have hother : ∀ b',b' ≠ b -> (w1.putObj b o).heap[b']? = w1.heap[b']?:=fun b' hb'=>jbp hb'
  refine ⟨⟨fun b' o' v hv=>?_,fun r hr=>?_,m.rel.sep,m.rel.own,m.rel.base,m.rel.on⟩,m.le,⟨m.tr.os,m.tr.tape,m.tr.output,by simpa using m.tr.size,m.tr.len,m.tr.ext,fun b' hb' hn=>?_,m.tr.own⟩,m.nu⟩
  · have hne : b' ≠ b:=fun e=>by
      subst e
      have:=m.rel.imc _ _ _ hv
      simp [World.cell?,ho] at this
    rw [cell?_congr (hother b' hne)]
    exact m.rel.imc _ _ _ hv
  · exact (m.rel.obj r hr).mono (fun _ _=>rfl) (Nat.le_refl _) (ImLe.refl _) (fun hl=>hother _ (hu r hr hl))
  · rw [hother b' (by omega)]
    exact m.tr.keep b' hb' hn
omit [Base] in
theorem DfL.world {n0 : Nat} {w w' : World} : ∀ {ds : List Deferred} {l : List Dfr},DfL ρ n0 im H w ds l -> l.all callQ = true -> DfL ρ n0 im H w' ds l
  | _,_,.nil,_=>.nil
  | _,_,.call g vs us ds l l' h hr,hq=>.call g vs us ds l l' h (DfL.world hr (by simpa [callQ] using hq))
  | _,_,.mark b l l' hb ho hu hm hr,hq=>by simp [callQ] at hq
theorem jdl (hA : PrimOk P A) {run : Nat -> Code -> Env -> Heap -> Option St} (hrun : ∀ N c,CodeOk P N (run N c) c) {fn : Func} {r : R} : ∀ (l : List Dfr) {m : Md} {H1 : Heap} {ρ1 : Rho} {im1 : Im} {w1 : World} {ds : List Deferred} {u : FrameMode},
    Mv ρ im H w ρ1 im1 H1 w1 -> EnvR ρ1 H1.length im1 N a e -> DfL ρ1 w.heap.size im1 H1 w1 ds l -> MdR ρ1 H1.length im1 u m -> leaveD P A run fn.results.toList e l m H1 = some r ->
    LeavesInM (FW none) n P fn a.tmps (OutR ρ im H w r) ds u w1
  | [],m,H1,ρ1,im1,w1,ds,u,k,he,hd,hm,h=>by
    cases hd
    cases hm with
    | ret=>
      simp only [leaveD] at h
      obtain ⟨l,h1,rfl⟩:=map_some h
      obtain ⟨v',g1,g2⟩:=jfR k.rel he h1
      exact ⟨v',g1,.ok ρ1 im1 H1 w1 v' _ k g2⟩
    | pan v d hv=>
      simp only [leaveD] at h
      simp at h;subst h
      exact .pan ρ1 im1 H1 w1 v d k hv
    | rcv v d hv=>simp [leaveD] at h
  | .mark :: l,m,H1,ρ1,im1,w1,ds,u,k,he,hd,hm,h=>by
    cases hd with
    | mark b ds _ hb ho hu hq hr=>
      have h : leaveD P A run fn.results.toList e l m H1 = some r:=by cases m <;> simpa only [leaveD] using h
      exact ⟨hm.run,.inl ⟨b,_,rfl,run_takeDeferred ho,jdl hA hrun l (k.shut hb ho hu _) he (hr.world hq) hm h⟩⟩
  | .call g args :: l,m,H1,ρ1,im1,w1,ds,u,k,he,hd,hm,h=>by
    cases hd with
    | call _ vs us _ ds _ hargs hr=>
      have h : (lastD P A run g args m H1).bind (fun (m,H)=>leaveD P A run fn.results.toList e l m H) = some r:=by cases m <;> simpa only [leaveD] using h
      obtain ⟨⟨m2,H2⟩,h1,h2⟩:=bind_some h
      obtain ⟨hb,hcd⟩:=jte (n:=n - 1) hA hrun h1 k.rel hargs hm
      refine ⟨hm.run,.inr ⟨jdk,.func g,⟨us⟩,g,⟨vs ++ us⟩,rfl,?_,fun _ _=>trivial,hcd.mono fun en u' w' hp=>?_⟩⟩
      · simp only [invoke]
        have : (⟨vs⟩ : Array Value) ++ ⟨us⟩ = ⟨vs ++ us⟩:=by apply Array.ext';simp
        rw [this,jbo hb]
      · obtain ⟨v,ρ2,im2,rfl,k2,hm2⟩:=hp
        exact jdl hA hrun l (k.trans k2) (k2.env he) (hr.mv k2) hm2 h2
theorem jdd (hmo : P.follows .mixedOrders = true) (hA : PrimOk P A) : ∀ k,CallOk P (runF P A k)
  | 0=>fun f args H r h=>by simp [runF] at h
  | k + 1=>fun f args H r h ρ im w vs hR hargs=>by
    have ih:=jdd hmo hA k
    have hrun : ∀ N c,CodeOk P N (runC P A (runF P A k) k N c) c:=fun N c=>jch hmo hA ih k c
    simp only [runF] at h
    unfold CallR
    cases hf : P.funcs[f]? with
    | none=>
      simp only [hf] at h
      exact jq6 hrun h hR hargs
    | some fn=>
      simp only [hf] at h
      cases hb : fn.body with
      | none=>simp [hb] at h
      | some c=>
        simp only [hb] at h
        split at h
        · cases h
        · rename_i hcond
          simp only [Bool.or_eq_true,decide_eq_true_eq,not_or,Nat.not_lt] at hcond
          have he:=ji2 hargs hcond.2
          have hd : DfR ρ w.heap.size im H w none [] (ofArgs args).df:=⟨Nat.le_refl _,fun l hl=>⟨rfl,by simp [ofArgs] at hl;subst hl;exact .nil⟩⟩
          have hin : CallsIn (FW none) 0 P f ⟨vs⟩ w (OutR ρ im H w r):=by
            refine callsIn_of_wp_marks hf hb trivial ?_ rfl
            cases hrc : runC P A (runF P A k) k fn.ntmps c (ofArgs args) H with
            | none=>simp [hrc] at h
            | some s=>
              refine wpIn_mono (hrun fn.ntmps c _ _ _ _ _ _ _ w.heap.size none 0 hR he hd hrc) fun x a' w' haf=>?_
              obtain ⟨ρ',im',hm,he',hd',v,hx,hp⟩:=haf.ex
              obtain ⟨ex,e',H'⟩:=s
              simp only [hrc] at h
              cases ex with
              | norm=>
                simp only at h
                obtain ⟨l,h1,h2⟩:=bind_some h
                simp only [exOf] at hx
                subst hx
                exact jdl hA hrun l hm he' (hd'.r l h1).2 .ret h2
              | ret=>
                simp only at h
                obtain ⟨l,h1,h2⟩:=bind_some h
                simp only [exOf] at hx
                subst hx
                exact jdl hA hrun l hm he' (hd'.r l h1).2 .ret h2
              | pan d=>
                simp only at h
                obtain ⟨l,h1,h2⟩:=bind_some h
                simp only [exOf] at hx
                subst hx
                exact jdl hA hrun l hm he' (hd'.r l h1).2 (.pan v d (hp d rfl)) h2
              | exit i=>simp at h
          exact callsIn_wide.1 hin
end
end Vm
end
section
namespace Vm
open Go
def CallLe (c c' : CallF) : Prop:=∀ f args H r,c f args H = some r -> c' f args H = some r
def noCall : CallF:=fun _ _ _=>none
theorem jq5 (c : CallF) : CallLe noCall c:=fun _ _ _ _ h=>by simp [noCall] at h
section
variable {P : Program} {A : Ann} {N : Nat} {c c' : CallF}
theorem jhC (h : CallLe c c') {f : FuncId} {args : List D} {H : Heap} {r : R} (hc : callD P A c f args H = some r) : callD P A c' f args H = some r:=by
  unfold callD at hc ⊢
  by_cases hb : bodied P f = false
  · rw [if_pos hb] at hc ⊢;exact hc
  · rw [if_neg hb] at hc ⊢
    cases hrd : A.rd f with
    | some g=>simp only [hrd] at hc ⊢;exact hc
    | none=>
    simp only [hrd] at hc ⊢
    cases hp : A.prim f with
    | some p=>simp only [hp] at hc ⊢;exact hc
    | none=>
      simp only [hp] at hc ⊢
      cases hm : A.mode f with
      | state=>simp only [hm] at hc ⊢;exact h _ _ _ _ hc
      | pure=>
        simp only [hm] at hc ⊢
        obtain ⟨⟨as,H'⟩,h1,h2⟩:=bind_some hc
        obtain ⟨r',h3,h4⟩:=bind_some h2
        simp only [h1,Option.bind_some,h _ _ _ _ h3]
        exact h4
      | fresh=>
        simp only [hm] at hc ⊢
        obtain ⟨⟨as,H'⟩,h1,h2⟩:=bind_some hc
        obtain ⟨r',h3,h4⟩:=bind_some h2
        simp only [h1,Option.bind_some,h _ _ _ _ h3]
        exact h4
theorem jaZ (h : CallLe c c') {o : Op} {e : Env} {H : Heap} {r : R} (hc : stepOp P A c o e H = some r) : stepOp P A c' o e H = some r:=by
  cases o
  case call k=>
    simp only [stepOp] at hc ⊢
    obtain ⟨args,h1,h2⟩:=bind_some hc
    rw [h1]
    simp only [Option.bind_some]
    cases hk : k.callee with
    | builtin b=>simpa [hk] using h2
    | invoke x y=>simp [hk] at h2
    | value f=>
      simp only [hk] at h2 ⊢
      obtain ⟨d,h3,h4⟩:=bind_some h2
      rw [h3]
      simp only [Option.bind_some]
      cases d <;> simp only at h4 ⊢ <;> try (cases h4;done)
      · exact jhC h h4
      · exact jhC h h4
      · exact h _ _ _ _ h4
  case makeFunc fn fs cs=>cases fn <;> exact hc
  all_goals (simp only [stepOp] at hc ⊢;exact hc)
theorem jc6 (h : CallLe c c') {o : Op} {e : Env} {H : Heap} {r : R} (hc : stepX P A c o e H = some r) : stepX P A c' o e H = some r:=by
  cases o
  case call k=>
    simp only [stepX] at hc ⊢
    split at hc
    · split at hc
      · rename_i hq
        simp only [if_pos hq]
        obtain ⟨args,h1,h2⟩:=bind_some hc
        rw [h1]
        simp only [Option.bind_some]
        split at h2
        · rename_i hs;rw [if_pos hs];exact jaZ h h2
        · cases h2
      · rename_i hq;simp only [if_neg hq];exact jaZ h hc
    · obtain ⟨args,h1,h2⟩:=bind_some hc
      simp only [h1,Option.bind_some]
      split at h2
      · rename_i hs;rw [if_pos hs];exact jaZ h h2
      · cases h2
    · exact jaZ h hc
  case buildSlice t n ps=>
    simp only [stepX] at hc ⊢
    split at hc
    · rename_i hz;rw [if_pos hz];exact hc
    · rename_i hz;rw [if_neg hz];exact jaZ h hc
  all_goals (simp only [stepX] at hc ⊢;exact jaZ h hc)
theorem jb6 (h : CallLe c c') {ops : Array Oper} : ∀ {l : List Oper} {e : Env} {H : Heap} {s : St},runOps P A c N ops l e H = some s -> runOps P A c' N ops l e H = some s
  | [],e,H,s,hc=>hc
  | o :: r,e,H,s,hc=>by
    simp only [runOps] at hc ⊢
    by_cases hd : dstOk N o.dst = false
    · rw [if_pos hd] at hc;cases hc
    · rw [if_neg hd] at hc ⊢
      cases hw : wantD ops e o with
      | none=>simp [hw] at hc
      | some b=>
        cases b with
        | false=>simp only [hw] at hc ⊢;exact jb6 h hc
        | true=>
          simp only [hw] at hc ⊢
          cases hdc : deferC o.op with
          | some cc=>
            simp only [hdc] at hc ⊢
            cases hp : pushD P e cc with
            | none=>simp [hp] at hc
            | some e'=>simp only [hp] at hc ⊢;exact jb6 h hc
          | none=>
            simp only [hdc] at hc ⊢
            cases hs : stepOp P A c o.op e H with
            | none=>simp [hs] at hc
            | some res=>
              rw [jaZ h hs]
              rw [hs] at hc
              cases res with
              | ok d H1=>exact jb6 h hc
              | pan d H1=>exact hc
theorem jco (h : CallLe c c') {ops : Array Oper} : ∀ {l : List Oper} {e : Env} {H : Heap} {s : St},runOpsX P A c N ops l e H = some s -> runOpsX P A c' N ops l e H = some s
  | [],e,H,s,hc=>hc
  | o :: r,e,H,s,hc=>by
    simp only [runOpsX] at hc ⊢
    by_cases hd : dstOk N o.dst = false
    · rw [if_pos hd] at hc;cases hc
    · rw [if_neg hd] at hc ⊢
      cases hw : wantD ops e o with
      | none=>simp [hw] at hc
      | some b=>
        cases b with
        | false=>simp only [hw] at hc ⊢;exact jco h hc
        | true=>
          simp only [hw] at hc ⊢
          cases hs : stepX P A c o.op e H with
          | none=>simp [hs] at hc
          | some res=>
            rw [jc6 h hs]
            rw [hs] at hc
            cases res with
            | ok d H1=>exact jco h hc
            | pan d H1=>cases hc
theorem joD (h : CallLe c c') {pl : Option Nat} {o : Op} {e : Env} {H : Heap} {r : R} (hs : stepZ P A c pl o e H = some r) : stepZ P A c' pl o e H = some r:=by
  cases pl with
  | none=>exact jc6 h hs
  | some p=>
    simp only [stepZ] at hs ⊢
    split at hs
    · rename_i hp
      rw [if_pos hp]
      split at hs
      · rename_i hb
        rw [if_pos hb]
        cases hx : stepOp P A c o e [] with
        | none=>rw [hx] at hs;simp [placeR] at hs
        | some x=>rw [jaZ h hx,<- hx];exact hs
      · cases hs
    · rename_i hp
      rw [if_neg hp]
      exact jc6 h hs
theorem jdo (h : CallLe c c') {ops : Array Oper} : ∀ {l : List Oper} {p : Nat} {e : Env} {H : Heap} {s : St},runOpsP P A c N ops p l e H = some s -> runOpsP P A c' N ops p l e H = some s
  | [],p,e,H,s,hc=>hc
  | o :: r,p,e,H,s,hc=>by
    simp only [runOpsP] at hc ⊢
    by_cases hd : dstOk N o.dst = false
    · rw [if_pos hd] at hc;cases hc
    · rw [if_neg hd] at hc ⊢
      cases hw : wantD ops e o with
      | none=>simp [hw] at hc
      | some b=>
        cases b with
        | false=>simp only [hw] at hc ⊢;exact jdo h hc
        | true=>
          simp only [hw] at hc ⊢
          cases hs : stepZ P A c (some p) o.op e H with
          | none=>simp [hs] at hc
          | some res=>
            rw [joD h hs]
            rw [hs] at hc
            cases res with
            | ok d H1=>exact jdo h hc
            | pan d H1=>cases hc
theorem jd4 {b b' : Env -> Heap -> Option St} (hb : ∀ e H s,b e H = some s -> b' e H = some s) : ∀ {k k' : Nat} {e : Env} {H : Heap} {s : St},k <= k' -> iterC b k e H = some s -> iterC b' k' e H = some s
  | 0,k',e,H,s,hk,hc=>by simp [iterC] at hc
  | k + 1,0,e,H,s,hk,hc=>by omega
  | k + 1,k' + 1,e,H,s,hk,hc=>by
    simp only [iterC] at hc ⊢
    cases hx : b e H with
    | none=>simp [hx] at hc
    | some s1=>
      rw [hb _ _ _ hx]
      rw [hx] at hc
      obtain ⟨ex,e1,H1⟩:=s1
      cases ex with
      | norm=>exact jd4 hb (by omega) hc
      | _=>exact hc
theorem jaw (h : CallLe c c') {k k' : Nat} (hk : k <= k') : ∀ {cd : Code} {e : Env} {H : Heap} {s : St},runC P A c k N cd e H = some s -> runC P A c' k' N cd e H = some s
  | .skip,e,H,s,hc=>hc
  | .label _,e,H,s,hc=>hc
  | .region id ops draw,e,H,s,hc=>by
    simp only [runC] at hc ⊢
    cases draw with
    | true=>
      simp only [if_true] at hc ⊢
      split at hc
      · rename_i hl;rw [if_pos hl];exact jco h hc
      · rename_i hl
        rw [if_neg hl]
        split at hc
        · rename_i hl;rw [if_pos hl];exact jdo h hc
        · cases hc
    | false=>simp only [Bool.false_eq_true,if_false] at hc ⊢;exact jb6 h hc
  | .seq a b,e,H,s,hc=>by
    simp only [runC] at hc ⊢
    cases hx : runC P A c k N a e H with
    | none=>simp [hx] at hc
    | some s1=>
      rw [jaw h hk hx]
      rw [hx] at hc
      obtain ⟨ex,e1,H1⟩:=s1
      cases ex with
      | norm=>exact jaw h hk hc
      | _=>exact hc
  | .cond x a b,e,H,s,hc=>by
    simp only [runC] at hc ⊢
    cases hx : evalO e x with
    | none=>simp [hx] at hc
    | some d=>
      cases d <;> simp only [hx] at hc ⊢ <;> try (cases hc;done)
      rename_i bb
      cases bb
      · exact jaw h hk hc
      · exact jaw h hk hc
  | .block id b,e,H,s,hc=>by
    simp only [runC] at hc ⊢
    cases hx : runC P A c k N b e H with
    | none=>simp [hx] at hc
    | some s1=>
      rw [jaw h hk hx]
      rw [hx] at hc
      exact hc
  | .scope b,e,H,s,hc=>by
    simp only [runC] at hc ⊢
    exact jaw h hk hc
  | .loop b,e,H,s,hc=>by
    simp only [runC] at hc ⊢
    exact jd4 (fun e H s hs=>jaw h hk hs) hk hc
  | .rangeFunc g ps assign body,e,H,s,hc=>by
    simp only [runC] at hc ⊢
    obtain ⟨l,h1,h2⟩:=bind_some hc
    obtain ⟨d,h3,h4⟩:=bind_some h2
    rw [h1,Option.bind_some,h3,Option.bind_some]
    cases d <;> simp only at h4 ⊢ <;> try (cases h4;done)
    rename_i f cs
    split at h4
    · cases h4
    · rename_i hb
      rw [if_neg hb]
      cases hcall : c f (.yld H.length :: cs) (H ++ [.loop ⟨.ready,none,e.f,N,ps,assign,body⟩]) with
      | none=>simp [hcall] at h4
      | some r=>rw [h _ _ _ _ hcall];rw [hcall] at h4;exact h4
  | .exit _,e,H,s,hc=>hc
  | .goto _,e,H,s,hc=>by simp [runC] at hc
  | .ret,e,H,s,hc=>hc
  | .refuse _,e,H,s,hc=>by simp [runC] at hc
theorem jii {run run' : Code -> Env -> Heap -> Option St} (hr : ∀ c e H s,run c e H = some s -> run' c e H = some s) : ∀ {c : Code} {e : Env} {H : Heap} {m : Md} {x : St × Md},runS P A N run c e H m = some x -> runS P A N run' c e H m = some x:=by
  have other : ∀ {c : Code} {e : Env} {H : Heap} {m : Md} {x : St × Md},(run c e H).map (fun s=>(s,m)) = some x -> (run' c e H).map (fun s=>(s,m)) = some x:=by
    intro c e H m x h
    obtain ⟨s,h1,h2⟩:=map_some h
    rw [hr _ _ _ _ h1];simpa using h2
  intro c
  induction c with
  | seq a b iha ihb=>
    intro e H m x h
    simp only [runS] at h ⊢
    obtain ⟨⟨⟨x1,e1,H1⟩,m1⟩,h1,h2⟩:=bind_some h
    rw [iha h1,Option.bind_some]
    cases x1 <;> simp only at h2 ⊢
    · exact ihb h2
    all_goals exact h2
  | cond o a b iha ihb=>
    intro e H m x h
    simp only [runS] at h ⊢
    cases ho : evalO e o with
    | none=>simp [ho] at h
    | some d=>
      cases d <;> simp only [ho] at h ⊢ <;> try (cases h;done)
      rename_i bb
      cases bb
      · exact ihb h
      · exact iha h
  | region id ops draw=>
    intro e H m x h
    simp only [runS] at h ⊢
    split at h
    · rename_i hc;rw [if_pos hc];exact h
    · rename_i hc;rw [if_neg hc];exact other h
  | _=>
    intro e H m x h
    simp only [runS] at h ⊢
    exact other h
theorem jnc {run run' : Nat -> Code -> Env -> Heap -> Option St} (hr : ∀ N c e H s,run N c e H = some s -> run' N c e H = some s) {f : FuncId} {args : List D} {m : Md} {H : Heap} {x : Md × Heap} (h : lastD P A run f args m H = some x) : lastD P A run' f args m H = some x:=by
  unfold lastD at h ⊢
  cases hf : P.funcs[f]? with
  | none=>simp [hf] at h
  | some fn=>
    simp only [hf] at h ⊢
    cases hb : fn.body with
    | none=>simp [hb] at h
    | some c=>
      simp only [hb] at h ⊢
      split at h
      · cases h
      · rename_i hcond
        rw [if_neg hcond]
        obtain ⟨y,h1,h2⟩:=bind_some h
        rw [jii (hr _) h1,Option.bind_some]
        exact h2
theorem jbn {run run' : Nat -> Code -> Env -> Heap -> Option St} (hr : ∀ N c e H s,run N c e H = some s -> run' N c e H = some s) {rs : List ResultVar} {e : Env} : ∀ {l : List Dfr} {m : Md} {H : Heap} {r : R},leaveD P A run rs e l m H = some r -> leaveD P A run' rs e l m H = some r
  | [],m,H,r,h=>by cases m <;> exact h
  | .mark :: l,m,H,r,h=>by
    have h' : leaveD P A run rs e l m H = some r:=by cases m <;> simpa only [leaveD] using h
    have:=jbn hr h'
    cases m <;> simpa only [leaveD] using this
  | .call f args :: l,m,H,r,h=>by
    have h' : (lastD P A run f args m H).bind (fun (m,H)=>leaveD P A run rs e l m H) = some r:=by cases m <;> simpa only [leaveD] using h
    obtain ⟨⟨m1,H1⟩,h1,h2⟩:=bind_some h'
    have : (lastD P A run' f args m H).bind (fun (m,H)=>leaveD P A run' rs e l m H) = some r:=by rw [jnc hr h1,Option.bind_some];exact jbn hr h2
    cases m <;> simpa only [leaveD] using this
theorem jlV {run run' : Nat -> Code -> Env -> Heap -> Option St} (hr : ∀ N c e H s,run N c e H = some s -> run' N c e H = some s) {r : Nat} {args : List D} {H : Heap} {x : R} (h : roundD run r args H = some x) : roundD run' r args H = some x:=by
  unfold roundD at h ⊢
  obtain ⟨lp,h1,h2⟩:=bind_some h
  rw [h1,Option.bind_some]
  split at h2
  · rename_i hc
    rw [if_pos hc]
    obtain ⟨⟨x1,e1,H1⟩,h3,h4⟩:=bind_some h2
    rw [hr _ _ _ _ _ h3,Option.bind_some]
    cases x1 <;> simp only at h4 ⊢ <;> try (cases h4;done)
    obtain ⟨l1,h5,h6⟩:=bind_some h4
    rw [h5,Option.bind_some]
    split at h6
    · rename_i hq
      rw [if_pos hq]
      obtain ⟨s2,h7,h8⟩:=bind_some h6
      rw [hr _ _ _ _ _ h7,Option.bind_some]
      exact h8
    · cases h6
  · cases h2
theorem jcm : ∀ (k : Nat),CallLe (runF P A k) (runF P A (k + 1))
  | 0,f,args,H,r,h=>by simp [runF] at h
  | k + 1,f,args,H,r,h=>by
    rw [runF] at h ⊢
    cases hf : P.funcs[f]? with
    | none=>
      simp only [hf] at h ⊢
      exact jlV (fun N c e H s hs=>jaw (jcm k) (Nat.le_succ k) hs) h
    | some fn=>
      simp only [hf] at h ⊢
      cases hb : fn.body with
      | none=>simp [hb] at h
      | some cd=>
        simp only [hb] at h ⊢
        split at h
        · cases h
        · rename_i hcond
          rw [if_neg hcond]
          cases hr : runC P A (runF P A k) k fn.ntmps cd (ofArgs args) H with
          | none=>simp [hr] at h
          | some s=>
            rw [jaw (jcm k) (Nat.le_succ k) hr]
            rw [hr] at h
            obtain ⟨x,e1,H1⟩:=s
            cases x with
            | exit i=>simp at h
            | norm=>
              simp only at h ⊢
              obtain ⟨l,h1,h2⟩:=bind_some h
              rw [h1,Option.bind_some]
              exact jbn (fun N c e H s hs=>jaw (jcm k) (Nat.le_succ k) hs) h2
            | ret=>
              simp only at h ⊢
              obtain ⟨l,h1,h2⟩:=bind_some h
              rw [h1,Option.bind_some]
              exact jbn (fun N c e H s hs=>jaw (jcm k) (Nat.le_succ k) hs) h2
            | pan d=>
              simp only at h ⊢
              obtain ⟨l,h1,h2⟩:=bind_some h
              rw [h1,Option.bind_some]
              exact jbn (fun N c e H s hs=>jaw (jcm k) (Nat.le_succ k) hs) h2
theorem ja9 {k k' : Nat} (h : k <= k') : CallLe (runF P A k) (runF P A k'):=by
  induction h with
  | refl=>exact fun _ _ _ _ h=>h
  | step _ ih=>exact fun f args H r h=>jcm _ f args H r (ih f args H r h)
end
section
variable (P : Program) (A : Ann)
def EvC (f : FuncId) (args : List D) (H : Heap) (K Kp : D -> Heap -> Prop) : Prop:=
  ∃ k r,callD P A (runF P A k) f args H = some r /\ match r with
    | .ok d H'=>K d H'
    | .pan d H'=>Kp d H'
def EvF (f : FuncId) (args : List D) (H : Heap) (K Kp : D -> Heap -> Prop) : Prop:=
  ∃ k r,runF P A k f args H = some r /\ match r with
    | .ok d H'=>K d H'
    | .pan d H'=>Kp d H'
def vOp (o : Op) (e : Env) (H : Heap) (K Kp : D -> Heap -> Prop) : Prop:=
  match o with
  | .call c=>match c.callee with
    | .value f=>match evalOs e c.args.toList,evalO e f with
      | some args,some (.fn g cs)=>EvC P A g (args ++ cs) H K Kp
      | some args,some (.bfn g cs)=>EvC P A g (cs ++ args) H K Kp
      | some args,some (.yld r)=>EvF P A (P.funcs.size + r) args H K Kp
      | _,_=>False
    | _=>match stepOp P A noCall (.call c) e H with
      | some (.ok d H')=>K d H'
      | some (.pan d H')=>Kp d H'
      | none=>False
  | o=>match stepOp P A noCall o e H with
    | some (.ok d H')=>K d H'
    | some (.pan d H')=>Kp d H'
    | none=>False
def vOps (N : Nat) (ops : Array Oper) : List Oper -> Env -> Heap -> (Env -> Heap -> Prop) -> (D -> Env -> Heap -> Prop) -> Prop
  | [],e,H,K,_=>K e H
  | o :: rest,e,H,K,Kp=>dstOk N o.dst = true /\ match wantD ops e o with
    | some true=>match deferC o.op with
      | some c=>match pushD P e c with
        | some e'=>vOps N ops rest (putO e' o.dst ud) H K Kp
        | none=>False
      | none=>vOp P A o.op e H (fun d H'=>vOps N ops rest (putO e o.dst d) H' K Kp) (fun d H'=>Kp d e H')
    | some false=>vOps N ops rest (putO e o.dst ud) H K Kp
    | none=>False
def vOpX (o : Op) (e : Env) (H : Heap) (K : D -> Heap -> Prop) : Prop:=
  match o with
  | .call c=>match c.callee with
    | .value (.func f)=>match evalOs e c.args.toList with
      | some args=>(pureC A f || freshC A f) = true -> (stripL args).isSome = true /\ True
      | none=>False
    | .builtin .append=>match evalOs e c.args.toList with
      | some args=>appPlain H args = true
      | none=>False
    | _=>True
  | _=>True
def vOpZ (o : Op) (e : Env) (H : Heap) (K : D -> Heap -> Prop) : Prop:=
  match o with
  | .buildSlice t n ps=>if A.fz t then (match (partsD e ps.toList).bind fun l=>(stripP l).bind fun l=>fzR (buildSliceD P t n l []) H with
    | some (.ok d H')=>K d H'
    | _=>False) else vOp P A (.buildSlice t n ps) e H K (fun _ _=>False)
  | o=>vOp P A o e H K (fun _ _=>False)
def vOpsX (N : Nat) (ops : Array Oper) : List Oper -> Env -> Heap -> (Env -> Heap -> Prop) -> Prop
  | [],e,H,K=>(pairsD A ops).all (disjE e) = true /\ K e H
  | o :: rest,e,H,K=>dstOk N o.dst = true /\ match wantD ops e o with
    | some true=>vOpX A o.op e H (fun _ _=>True) /\ vOpZ P A o.op e H (fun d H'=>vOpsX N ops rest (putO e o.dst d) H' K)
    | some false=>vOpsX N ops rest (putO e o.dst ud) H K
    | none=>False
def WpC (N : Nat) (c : Code) (e : Env) (H : Heap) (Q : Ex -> Env -> Heap -> Prop) : Prop:=
  ∃ k s,runC P A (runF P A k) k N c e H = some s /\ Q s.ex s.e s.H
end
section
variable {P : Program} {A : Ann} {N : Nat}
theorem EvC.mono {f : FuncId} {args : List D} {H : Heap} {K Kp K' Kp' : D -> Heap -> Prop} (h : EvC P A f args H K Kp) (h1 : ∀ d H',K d H' -> K' d H') (h2 : ∀ d H',Kp d H' -> Kp' d H') : EvC P A f args H K' Kp':=by
  obtain ⟨k,r,hr,hq⟩:=h
  refine ⟨k,r,hr,?_⟩
  cases r
  · exact h1 _ _ hq
  · exact h2 _ _ hq
theorem WpC.mono {c : Code} {e : Env} {H : Heap} {Q Q' : Ex -> Env -> Heap -> Prop} (h : WpC P A N c e H Q) (hq : ∀ x e H,Q x e H -> Q' x e H) : WpC P A N c e H Q':=by
  obtain ⟨k,s,hr,h1⟩:=h
  exact ⟨k,s,hr,hq _ _ _ h1⟩
theorem jjF {o : Op} {e : Env} {H : Heap} {K Kp : D -> Heap -> Prop} (h : vOp P A o e H K Kp) : ∃ k r,stepOp P A (runF P A k) o e H = some r /\ match r with
    | .ok d H'=>K d H'
    | .pan d H'=>Kp d H':=by
  have gen : ∀ {x : Option R}, x = stepOp P A noCall o e H → (match x with | some (.ok d H') => K d H' | some (.pan d H') => Kp d H' | none => False) → ∃ k r, stepOp P A (runF P A k) o e H = some r ∧ match r with
      | .ok d H'=>K d H'
      | .pan d H'=>Kp d H':=by
    intro x hx hm
    cases x with
    | none=>exact hm.elim
    | some r=>
      refine ⟨0,r,jaZ (jq5 _) hx.symm,?_⟩
      cases r <;> exact hm
  unfold vOp at h
  split at h
  · rename_i c
    split at h
    · rename_i f hf
      split at h
      · rename_i args g cs ha hg
        obtain ⟨k,r,hr,hq⟩:=h
        refine ⟨k,r,?_,hq⟩
        simp only [stepOp,ha,Option.bind_some,hf,hg]
        exact hr
      · rename_i args g cs ha hg
        obtain ⟨k,r,hr,hq⟩:=h
        refine ⟨k,r,?_,hq⟩
        simp only [stepOp,ha,Option.bind_some,hf,hg]
        exact hr
      · rename_i args r0 ha hg
        obtain ⟨k,r,hr,hq⟩:=h
        refine ⟨k,r,?_,hq⟩
        simp only [stepOp,ha,Option.bind_some,hf,hg]
        exact hr
      · exact h.elim
    · exact gen rfl h
  · exact gen rfl h
theorem jen {ops : Array Oper} : ∀ {l : List Oper} {e : Env} {H : Heap} {K : Env -> Heap -> Prop} {Kp : D -> Env -> Heap -> Prop},vOps P A N ops l e H K Kp ->
    ∃ k s,runOps P A (runF P A k) N ops l e H = some s /\ ((s.ex = .norm /\ K s.e s.H) ∨ ∃ d,s.ex = .pan d /\ Kp d s.e s.H)
  | [],e,H,K,Kp,h=>⟨0,⟨.norm,e,H⟩,rfl,.inl ⟨rfl,h⟩⟩
  | o :: r,e,H,K,Kp,h=>by
    obtain ⟨hd,h⟩:=h
    have hd' : ¬ dstOk N o.dst = false:=by simp [hd]
    cases hw : wantD ops e o with
    | none=>simp [hw] at h
    | some b=>
      cases b with
      | false=>
        simp only [hw] at h
        obtain ⟨k,s,h1,h2⟩:=jen h
        exact ⟨k,s,by simp only [runOps,if_neg hd',hw];exact h1,h2⟩
      | true=>
        simp only [hw] at h
        cases hdc : deferC o.op with
        | some c=>
          simp only [hdc] at h
          cases hp : pushD P e c with
          | none=>simp [hp] at h
          | some e'=>
            simp only [hp] at h
            obtain ⟨k,s,h1,h2⟩:=jen h
            exact ⟨k,s,by simp only [runOps,if_neg hd',hw,hdc,hp];exact h1,h2⟩
        | none=>
          simp only [hdc] at h
          obtain ⟨k,res,h1,h2⟩:=jjF h
          cases res with
          | ok d H'=>
            obtain ⟨k2,s,h3,h4⟩:=jen h2
            refine ⟨max k k2,s,?_,h4⟩
            simp only [runOps,if_neg hd',hw,hdc,jaZ (ja9 (Nat.le_max_left k k2)) h1]
            exact jb6 (ja9 (Nat.le_max_right k k2)) h3
          | pan d H'=>
            refine ⟨k,⟨.pan d,e,H'⟩,?_,.inr ⟨d,rfl,h2⟩⟩
            simp only [runOps,if_neg hd',hw,hdc,h1]
theorem jsi {o : Op} {e : Env} {H : Heap} {k : Nat} {r : R} (hx : vOpX A o e H (fun _ _=>True)) (hz : ∀ t n ps,o = .buildSlice t n ps -> A.fz t = false) (h : stepOp P A (runF P A k) o e H = some r) : stepX P A (runF P A k) o e H = some r:=by
  cases o
  case call c=>
    simp only [stepX]
    simp only [vOpX] at hx
    split
    · rename_i f hk
      simp only [hk] at hx
      split
      · rename_i hq
        cases ha : evalOs e c.args.toList with
        | none=>simp [ha] at hx
        | some args=>
          simp only [ha] at hx
          simp only [Option.bind_some]
          rw [if_pos (hx hq).1]
          exact h
      · exact h
    · rename_i hk
      simp only [hk] at hx
      cases ha : evalOs e c.args.toList with
      | none=>simp [ha] at hx
      | some args=>
        simp only [ha] at hx
        simp only [Option.bind_some]
        rw [if_pos hx]
        exact h
    · exact h
  case buildSlice t n ps=>
    simp only [stepX]
    rw [if_neg (by simp [hz t n ps rfl])]
    exact h
  all_goals (simp only [stepX];exact h)
theorem jpM {o : Op} {e : Env} {H : Heap} {K : D -> Heap -> Prop} (hx : vOpX A o e H (fun _ _=>True)) (h : vOpZ P A o e H K) : ∃ k d H',stepX P A (runF P A k) o e H = some (.ok d H') /\ K d H':=by
  by_cases hz : ∃ t n ps,o = .buildSlice t n ps /\ A.fz t = true
  · obtain ⟨t,n,ps,rfl,hz⟩:=hz
    simp only [vOpZ,if_pos hz] at h
    refine ⟨0,?_⟩
    simp only [stepX,if_pos hz]
    cases hq : (partsD e ps.toList).bind fun l=>(stripP l).bind fun l=>fzR (buildSliceD P t n l []) H with
    | none=>rw [hq] at h;exact h.elim
    | some r=>
      rw [hq] at h
      cases r with
      | ok d H'=>exact ⟨d,H',rfl,h⟩
      | pan d H'=>exact h.elim
  · have hz' : ∀ t n ps,o = .buildSlice t n ps -> A.fz t = false:=fun t n ps e=>by
      cases hf : A.fz t with
      | false=>rfl
      | true=>exact absurd ⟨t,n,ps,e,hf⟩ hz
    have h' : vOp P A o e H K (fun _ _=>False):=by
      cases o
      case buildSlice t n ps=>
        simp only [vOpZ] at h
        rw [if_neg (by simp [hz' t n ps rfl])] at h
        exact h
      all_goals exact h
    obtain ⟨k,res,h1,h2⟩:=jjF h'
    cases res with
    | ok d H'=>exact ⟨k,d,H',jsi hx hz' h1,h2⟩
    | pan d H'=>exact h2.elim
theorem jfv {ops : Array Oper} : ∀ {l : List Oper} {e : Env} {H : Heap} {K : Env -> Heap -> Prop},vOpsX P A N ops l e H K ->
    ∃ k s,runOpsX P A (runF P A k) N ops l e H = some s /\ s.ex = .norm /\ K s.e s.H
  | [],e,H,K,h=>⟨0,⟨.norm,e,H⟩,by simp only [runOpsX];rw [if_pos h.1],rfl,h.2⟩
  | o :: r,e,H,K,h=>by
    obtain ⟨hd,h⟩:=h
    have hd' : ¬ dstOk N o.dst = false:=by simp [hd]
    cases hw : wantD ops e o with
    | none=>simp [hw] at h
    | some b=>
      cases b with
      | false=>
        simp only [hw] at h
        obtain ⟨k,s,h1,h2⟩:=jfv h
        exact ⟨k,s,by simp only [runOpsX,if_neg hd',hw];exact h1,h2⟩
      | true=>
        simp only [hw] at h
        obtain ⟨k,d,H',h1,h2⟩:=jpM h.1 h.2
        obtain ⟨k2,s,h3,h4⟩:=jfv h2
        refine ⟨max k k2,s,?_,h4⟩
        simp only [runOpsX,if_neg hd',hw,jc6 (ja9 (Nat.le_max_left k k2)) h1]
        exact jco (ja9 (Nat.le_max_right k k2)) h3
end
end Vm
end
