/- Texts that stand behind this claim, one after the other. -/
import Derived.Test.YtiaonafhegbhjaaGreatDoorM3
import Derived.Laws.BitsLemmas
set_option maxHeartbeats 4000000
set_option linter.unusedVariables false
set_option linter.unusedSimpArgs false
section
namespace Vm
open Go
def SeqQ (K : Env -> Heap -> Prop) (Q : Ex -> Env -> Heap -> Prop) : Ex -> Env -> Heap -> Prop
  | .norm,e,H=>K e H
  | x,e,H=>Q x e H
def BlkQ (id : Nat) (K : Env -> Heap -> Prop) (Q : Ex -> Env -> Heap -> Prop) : Ex -> Env -> Heap -> Prop
  | .norm,e,H=>K e H
  | .exit i,e,H=>if i = id then K e H else Q (.exit i) e H
  | x,e,H=>Q x e H
def RetQ (P : Program) (rs : List ResultVar) (K Kp : D -> Heap -> Prop) : Ex -> Env -> Heap -> Prop
  | .norm,e,H | .ret,e,H=>match resD P e H rs with
    | some l=>K (oneD l) H
    | none=>False
  | .pan d,e,H=>Kp d H
  | .exit _,_,_=>False
theorem jrh {K Q e H} : SeqQ K Q .norm e H = K e H:=rfl
theorem jrz {K Q e H i} : SeqQ K Q (.exit i) e H = Q (.exit i) e H:=rfl
theorem jr5 {K Q e H} : SeqQ K Q .ret e H = Q .ret e H:=rfl
theorem jsy {K Q e H d} : SeqQ K Q (.pan d) e H = Q (.pan d) e H:=rfl
theorem jo4 {id K Q e H} : BlkQ id K Q .norm e H = K e H:=rfl
theorem jpB {id K Q e H i} : BlkQ id K Q (.exit i) e H = if i = id then K e H else Q (.exit i) e H:=rfl
theorem jto {id K Q e H} : BlkQ id K Q .ret e H = Q .ret e H:=rfl
theorem jtd {id K Q e H d} : BlkQ id K Q (.pan d) e H = Q (.pan d) e H:=rfl
theorem jsO {P rs K Kp e H} : RetQ P rs K Kp .ret e H = (match resD P e H rs with | some l=>K (oneD l) H | none=>False):=rfl
theorem jpq {P rs K Kp e H} : RetQ P rs K Kp .norm e H = (match resD P e H rs with | some l=>K (oneD l) H | none=>False):=rfl
theorem juB {P rs K Kp e H d} : RetQ P rs K Kp (.pan d) e H = Kp d H:=rfl
section
variable {P : Program} {A : Ann} {N : Nat} {e : Env} {H : Heap} {Q : Ex -> Env -> Heap -> Prop}
theorem jtq (h : Q .norm e H) : WpC P A N .skip e H Q:=⟨0,⟨.norm,e,H⟩,rfl,h⟩
theorem jt6 {id : Nat} (h : Q (.exit id) e H) : WpC P A N (.exit id) e H Q:=⟨0,⟨.exit id,e,H⟩,rfl,h⟩
theorem jvy (h : Q .ret e H) : WpC P A N .ret e H Q:=⟨0,⟨.ret,e,H⟩,rfl,h⟩
theorem jm7 {id : Nat} {ops : Array Oper} (h : vOps P A N ops ops.toList e H (fun e H=>Q .norm e H) (fun d e H=>Q (.pan d) e H)) : WpC P A N (.region id ops false) e H Q:=by
  obtain ⟨k,s,h1,h2⟩:=jen h
  refine ⟨k,s,by simp only [runC,Bool.false_eq_true,if_false];exact h1,?_⟩
  rcases h2 with ⟨hx,h3⟩ | ⟨d,hx,h3⟩
  · rw [hx];exact h3
  · rw [hx];exact h3
theorem jlI {id : Nat} {ops : Array Oper} (hl : lexD A ops = true) (h : vOpsX P A N ops ops.toList e H (fun e H=>Q .norm e H)) : WpC P A N (.region id ops true) e H Q:=by
  obtain ⟨k,s,h1,h2,h3⟩:=jfv h
  exact ⟨k,s,by simp only [runC,if_true,hl];exact h1,by rw [h2];exact h3⟩
theorem jmZ {a b : Code} (h : WpC P A N a e H (SeqQ (fun e H=>WpC P A N b e H Q) Q)) : WpC P A N (.seq a b) e H Q:=by
  obtain ⟨k,s,h1,h2⟩:=h
  obtain ⟨x,e1,H1⟩:=s
  cases x with
  | norm=>
    obtain ⟨k2,s2,h3,h4⟩:=(h2 : WpC P A N b e1 H1 Q)
    refine ⟨max k k2,s2,?_,h4⟩
    have g1:=jaw (ja9 (Nat.le_max_left k k2)) (Nat.le_max_left k k2) h1
    have g2:=jaw (ja9 (Nat.le_max_right k k2)) (Nat.le_max_right k k2) h3
    simp only [runC,g1,g2]
  | exit i=>exact ⟨k,_,by simp only [runC,h1],h2⟩
  | ret=>exact ⟨k,_,by simp only [runC,h1],h2⟩
  | pan d=>exact ⟨k,_,by simp only [runC,h1],h2⟩
theorem jta {c : Operand} {x y : Code} {b : Bool} (hc : evalO e c = some (.bool b)) (ht : b = true -> WpC P A N x e H Q) (hf : b = false -> WpC P A N y e H Q) : WpC P A N (.cond c x y) e H Q:=by
  cases b with
  | true=>obtain ⟨k,s,h1,h2⟩:=ht rfl;exact ⟨k,s,by simp only [runC,hc,h1],h2⟩
  | false=>obtain ⟨k,s,h1,h2⟩:=hf rfl;exact ⟨k,s,by simp only [runC,hc,h1],h2⟩
theorem jrI {id : Nat} {b : Code} (h : WpC P A N b e H (BlkQ id (fun e H=>Q .norm e H) Q)) : WpC P A N (.block id b) e H Q:=by
  obtain ⟨k,s,h1,h2⟩:=h
  obtain ⟨x,e1,H1⟩:=s
  cases x with
  | norm=>exact ⟨k,⟨.norm,e1,H1⟩,by simp only [runC,h1],h2⟩
  | exit i=>
    simp only [BlkQ] at h2
    by_cases hi : i = id
    · rw [if_pos hi] at h2;exact ⟨k,⟨.norm,e1,H1⟩,by simp only [runC,h1,if_pos hi],h2⟩
    · rw [if_neg hi] at h2;exact ⟨k,⟨.exit i,e1,H1⟩,by simp only [runC,h1,if_neg hi],h2⟩
  | ret=>exact ⟨k,⟨.ret,e1,H1⟩,by simp only [runC,h1],h2⟩
  | pan d=>exact ⟨k,⟨.pan d,e1,H1⟩,by simp only [runC,h1],h2⟩
theorem jpT {b : Code} (h : WpC P A N b e H Q) : WpC P A N (.scope b) e H Q:=by
  obtain ⟨k,s,h1,h2⟩:=h
  exact ⟨k,s,by simp only [runC];exact h1,h2⟩
theorem jtW {b : Code} (I : Env -> Heap -> Prop) (μ : Env -> Heap -> Nat) (h0 : I e H) (hstep : ∀ e H,I e H -> WpC P A N b e H (SeqQ (fun e' H'=>I e' H' /\ μ e' H' < μ e H) Q)) : WpC P A N (.loop b) e H Q:=by
  have key : ∀ m e H,μ e H = m -> I e H -> ∃ k s,iterC (runC P A (runF P A k) k N b) k e H = some s /\ Q s.ex s.e s.H:=by
    intro m
    induction m using Nat.strongRecOn with
    | _ m ih=>
      intro e H hm hI
      obtain ⟨k,s,h1,h2⟩:=hstep e H hI
      obtain ⟨x,e1,H1⟩:=s
      cases x with
      | norm=>
        obtain ⟨hI1,hlt⟩:=(h2 : I e1 H1 /\ μ e1 H1 < μ e H)
        have hlt' : μ e1 H1 < m:=by rw [<- hm];exact hlt
        obtain ⟨k2,s2,h3,h4⟩:=ih (μ e1 H1) hlt' e1 H1 rfl hI1
        refine ⟨max k k2 + 1,s2,?_,h4⟩
        have l1 : k <= max k k2 + 1:=by omega
        have l2 : k2 <= max k k2 + 1:=by omega
        have g1:=jaw (ja9 l1) l1 h1
        simp only [iterC,g1]
        exact jd4 (fun e H s hs=>jaw (ja9 l2) l2 hs) (Nat.le_max_right k k2) h3
      | exit i=>exact ⟨k + 1,_,by simp only [iterC,jaw (ja9 (Nat.le_succ k)) (Nat.le_succ k) h1],h2⟩
      | ret=>exact ⟨k + 1,_,by simp only [iterC,jaw (ja9 (Nat.le_succ k)) (Nat.le_succ k) h1],h2⟩
      | pan d=>exact ⟨k + 1,_,by simp only [iterC,jaw (ja9 (Nat.le_succ k)) (Nat.le_succ k) h1],h2⟩
  obtain ⟨k,s,h1,h2⟩:=key _ e H rfl h0
  exact ⟨k,s,by simp only [runC];exact h1,h2⟩
def calmC : Code -> Bool
  | .region _ ops _=>ops.toList.all fun o=>(deferC o.op).isNone
  | .seq a b=>calmC a && calmC b
  | .cond _ a b=>calmC a && calmC b
  | .block _ b=>calmC b
  | .loop b=>calmC b
  | .scope b=>calmC b
  | .rangeFunc _ _ _ _=>false
  | _=>true
theorem jcG {e : Env} {i : Option Nat} {d : D} : (putO e i d).df = e.df:=by cases i <;> rfl
theorem jeY {call : CallF} {ops : Array Oper} : ∀ {l : List Oper} {e : Env} {H : Heap} {s : St},(l.all fun o=>(deferC o.op).isNone) = true -> runOps P A call N ops l e H = some s -> s.e.df = e.df
  | [],e,H,s,_,h=>by simp [runOps] at h;subst h;rfl
  | o :: r,e,H,s,hq,h=>by
    simp only [List.all_cons,Bool.and_eq_true,Option.isNone_iff_eq_none] at hq
    simp only [runOps] at h
    split at h
    · cases h
    · cases hw : wantD ops e o with
      | none=>simp [hw] at h
      | some b=>
        cases b with
        | false=>simp only [hw] at h;have:=jeY hq.2 h;rwa [jcG] at this
        | true=>
          simp only [hw,hq.1] at h
          cases hs : stepOp P A call o.op e H with
          | none=>simp [hs] at h
          | some res=>
            cases res with
            | ok d H1=>simp only [hs] at h;have:=jeY hq.2 h;rwa [jcG] at this
            | pan d H1=>simp [hs] at h;subst h;rfl
theorem jek {call : CallF} {ops : Array Oper} : ∀ {l : List Oper} {e : Env} {H : Heap} {s : St},runOpsX P A call N ops l e H = some s -> s.e.df = e.df
  | [],e,H,s,h=>by
    simp only [runOpsX] at h
    split at h
    · cases h;rfl
    · cases h
  | o :: r,e,H,s,h=>by
    simp only [runOpsX] at h
    split at h
    · cases h
    · cases hw : wantD ops e o with
      | none=>simp [hw] at h
      | some b=>
        cases b with
        | false=>simp only [hw] at h;have:=jek h;rwa [jcG] at this
        | true=>
          simp only [hw] at h
          cases hs : stepX P A call o.op e H with
          | none=>simp [hs] at h
          | some res=>
            cases res with
            | ok d H1=>simp only [hs] at h;have:=jek h;rwa [jcG] at this
            | pan d H1=>simp [hs] at h
theorem jea {call : CallF} {ops : Array Oper} : ∀ {l : List Oper} {p : Nat} {e : Env} {H : Heap} {s : St},runOpsP P A call N ops p l e H = some s -> s.e.df = e.df
  | [],p,e,H,s,h=>by
    simp only [runOpsP] at h
    split at h
    · cases h;rfl
    · cases h
  | o :: r,p,e,H,s,h=>by
    simp only [runOpsP] at h
    split at h
    · cases h
    · cases hw : wantD ops e o with
      | none=>simp [hw] at h
      | some b=>
        cases b with
        | false=>simp only [hw] at h;have:=jea h;rwa [jcG] at this
        | true=>
          simp only [hw] at h
          cases hs : stepZ P A call (some p) o.op e H with
          | none=>simp [hs] at h
          | some res=>
            cases res with
            | ok d H1=>simp only [hs] at h;have:=jea h;rwa [jcG] at this
            | pan d H1=>simp [hs] at h
theorem jko {run : Env -> Heap -> Option St} (hr : ∀ e H s,run e H = some s -> s.e.df = e.df) : ∀ {k : Nat} {e : Env} {H : Heap} {s : St},iterC run k e H = some s -> s.e.df = e.df
  | 0,e,H,s,h=>by simp [iterC] at h
  | k + 1,e,H,s,h=>by
    simp only [iterC] at h
    cases hx : run e H with
    | none=>simp [hx] at h
    | some s1=>
      obtain ⟨x,e1,H1⟩:=s1
      have:=hr _ _ _ hx
      cases x with
      | norm=>simp only [hx] at h;exact (jko hr h).trans this
      | _=>simp [hx] at h;subst h;exact this
theorem ju8 {call : CallF} {k : Nat} : ∀ {c : Code} {e : Env} {H : Heap} {s : St},calmC c = true -> runC P A call k N c e H = some s -> s.e.df = e.df:=by
  intro c
  induction c with
  | region id ops draw=>
    intro e H s hq h
    simp only [runC] at h
    cases draw with
    | true=>
      simp only [if_true] at h
      split at h
      · exact jek h
      · split at h
        · exact jea h
        · cases h
    | false=>
      simp only [Bool.false_eq_true,if_false] at h
      exact jeY (by simpa [calmC] using hq) h
  | seq a b iha ihb=>
    intro e H s hq h
    simp only [calmC,Bool.and_eq_true] at hq
    simp only [runC] at h
    cases hx : runC P A call k N a e H with
    | none=>simp [hx] at h
    | some s1=>
      obtain ⟨x,e1,H1⟩:=s1
      have h1:=iha hq.1 hx
      cases x with
      | norm=>simp only [hx] at h;exact (ihb hq.2 h).trans h1
      | _=>simp [hx] at h;subst h;exact h1
  | cond o a b iha ihb=>
    intro e H s hq h
    simp only [calmC,Bool.and_eq_true] at hq
    simp only [runC] at h
    cases ho : evalO e o with
    | none=>simp [ho] at h
    | some d=>
      cases d <;> simp only [ho] at h <;> try (cases h;done)
      rename_i bb
      cases bb
      · exact ihb hq.2 h
      · exact iha hq.1 h
  | block id b ih=>
    intro e H s hq h
    simp only [runC] at h
    cases hx : runC P A call k N b e H with
    | none=>simp [hx] at h
    | some s1=>
      obtain ⟨x,e1,H1⟩:=s1
      have h1:=ih hq hx
      cases x with
      | exit i=>
        simp only [hx] at h
        split at h <;> simp at h <;> subst h <;> exact h1
      | _=>simp [hx] at h;subst h;exact h1
  | scope b ih=>
    intro e H s hq h
    simp only [runC] at h
    exact ih (by simpa [calmC] using hq) h
  | loop b ih=>
    intro e H s hq h
    simp only [runC] at h
    exact jko (fun e H s hs=>ih hq hs) h
  | rangeFunc=>intro e H s hq h;simp [calmC] at hq
  | skip=>intro e H s hq h;simp [runC] at h;subst h;rfl
  | label=>intro e H s hq h;simp [runC] at h;subst h;rfl
  | exit=>intro e H s hq h;simp [runC] at h;subst h;rfl
  | ret=>intro e H s hq h;simp [runC] at h;subst h;rfl
  | _=>intro e H s hq h;simp [runC] at h
def LeaveQ (P : Program) (A : Ann) (rs : List ResultVar) (K Kp : D -> Heap -> Prop) : Ex -> Env -> Heap -> Prop
  | .norm,e,H | .ret,e,H=>∃ l k r,e.df = some l /\ leaveD P A (fun N=>runC P A (runF P A k) k N) rs e l .ret H = some r /\ (match r with | .ok d H'=>K d H' | .pan d H'=>Kp d H')
  | .pan d,e,H=>∃ l k r,e.df = some l /\ leaveD P A (fun N=>runC P A (runF P A k) k N) rs e l (.pan d) H = some r /\ (match r with | .ok d H'=>K d H' | .pan d H'=>Kp d H')
  | .exit _,_,_=>False
theorem jcN {k k' : Nat} (h : k <= k') : ∀ N c e H s,runC P A (runF P A k) k N c e H = some s -> runC P A (runF P A k') k' N c e H = some s:=
  fun N c e H s hs=>jaw (ja9 h) h hs
theorem jiO {f : FuncId} {fn : Func} {c : Code} {n : Nat} {rs : List ResultVar} {args : List D} {K Kp : D -> Heap -> Prop} (hf : P.funcs[f]? = some fn) (hb : fn.body = some c) (hn : (fn.name == "runtime.NumGoroutine") = false) (hN : fn.ntmps = n) (hr : fn.results.toList = rs) (ha : Nat.ble args.length n = true)
    (h : WpC P A n c (ofArgs args) H (LeaveQ P A rs K Kp)) : EvF P A f args H K Kp:=by
  subst hN hr
  obtain ⟨k,s,h1,h2⟩:=h
  obtain ⟨x,e1,H1⟩:=s
  have ha':=Nat.le_of_ble_eq_true ha
  have hcond : ¬ ((fn.name == "runtime.NumGoroutine" || decide (args.length > fn.ntmps)) = true):=by simp [hn];omega
  have fin : ∀ {m : Md} {l : List Dfr} {k2 : Nat} {r : R},e1.df = some l -> leaveD P A (fun N=>runC P A (runF P A k2) k2 N) fn.results.toList e1 l m H1 = some r -> (x = .norm /\ m = .ret ∨ x = .ret /\ m = .ret ∨ ∃ d,x = .pan d /\ m = .pan d) -> runF P A (max k k2 + 1) f args H = some r:=by
    intro m l k2 r g1 g2 g3
    have r1:=jcN (Nat.le_max_left k k2) _ _ _ _ _ h1
    have r2:=jbn (fun N c e H s hs=>jcN (P:=P) (A:=A) (Nat.le_max_right k k2) N c e H s hs) g2
    simp only [runF,hf,hb,if_neg hcond,r1]
    rcases g3 with ⟨rfl,rfl⟩ | ⟨rfl,rfl⟩ | ⟨d,rfl,rfl⟩ <;> simp only [g1,Option.bind_some] <;> exact r2
  cases x with
  | norm=>
    obtain ⟨l,k2,r,g1,g2,g3⟩:=h2
    exact ⟨_,r,fin g1 g2 (.inl ⟨rfl,rfl⟩),g3⟩
  | ret=>
    obtain ⟨l,k2,r,g1,g2,g3⟩:=h2
    exact ⟨_,r,fin g1 g2 (.inr (.inl ⟨rfl,rfl⟩)),g3⟩
  | pan d=>
    obtain ⟨l,k2,r,g1,g2,g3⟩:=h2
    exact ⟨_,r,fin g1 g2 (.inr (.inr ⟨d,rfl,rfl⟩)),g3⟩
  | exit i=>exact h2.elim
theorem jxn {f : FuncId} {fn : Func} {c : Code} {n : Nat} {rs : List ResultVar} {args : List D} {K Kp : D -> Heap -> Prop} (hf : P.funcs[f]? = some fn) (hb : fn.body = some c) (hn : (fn.name == "runtime.NumGoroutine") = false) (hN : fn.ntmps = n) (hr : fn.results.toList = rs) (hc : calmC c = true) (ha : Nat.ble args.length n = true)
    (h : WpC P A n c (ofArgs args) H (RetQ P rs K Kp)) : EvF P A f args H K Kp:=by
  refine jiO hf hb hn hN hr ha ?_
  obtain ⟨k,s,h1,h2⟩:=h
  refine ⟨k,s,h1,?_⟩
  have hdf : s.e.df = some []:=ju8 hc h1
  obtain ⟨x,e1,H1⟩:=s
  simp only at hdf h2 ⊢
  cases x with
  | norm=>
    simp only [RetQ] at h2
    cases hr : resD P e1 H1 rs with
    | none=>simp [hr] at h2
    | some l=>simp only [hr] at h2;exact ⟨[],0,.ok (oneD l) H1,hdf,by simp [leaveD,hr],h2⟩
  | ret=>
    simp only [RetQ] at h2
    cases hr : resD P e1 H1 rs with
    | none=>simp [hr] at h2
    | some l=>simp only [hr] at h2;exact ⟨[],0,.ok (oneD l) H1,hdf,by simp [leaveD,hr],h2⟩
  | pan d=>exact ⟨[],0,.pan d H1,hdf,by simp [leaveD],h2⟩
  | exit i=>exact h2
theorem EvF.mono {f : FuncId} {args : List D} {K Kp K' Kp' : D -> Heap -> Prop} (h : EvF P A f args H K Kp) (h1 : ∀ d H',K d H' -> K' d H') (h2 : ∀ d H',Kp d H' -> Kp' d H') : EvF P A f args H K' Kp':=by
  obtain ⟨k,r,hr,hq⟩:=h
  refine ⟨k,r,hr,?_⟩
  cases r
  · exact h1 _ _ hq
  · exact h2 _ _ hq
def PureF (P : Program) (A : Ann) (f : FuncId) (args : List D) (d : D) : Prop:=EvF P A f args [] (fun d' Hc=>outPure Hc d' = some d) (fun _ _=>False)
theorem jro {f : FuncId} {args : List D} {K Kp : D -> Heap -> Prop} (hb : bodied P f = true) (hp : primQ A f = false) (hm : A.mode f = .state) (h : EvF P A f args H K Kp) : EvC P A f args H K Kp:=by
  obtain ⟨k,r,hr,hq⟩:=h
  exact ⟨k,r,by simp only [callD,hb,Bool.true_eq_false,if_false,(ja7 hp).1,(ja7 hp).2,hm];exact hr,hq⟩
theorem jjK {f : FuncId} {args as : List D} {d : D} {H' : Heap} {K Kp : D -> Heap -> Prop} (hb : bodied P f = true) (hp : primQ A f = false) (hm : A.mode f = .pure) (ha : pures H args = some (as,H')) (h : PureF P A f as d)
    (hk : K d (if flat d then H else H')) : EvC P A f args H K Kp:=by
  obtain ⟨k,r,hr,hq⟩:=h
  cases r with
  | pan _ _=>exact hq.elim
  | ok d' Hc=>
    simp only at hq
    exact ⟨k,.ok d (if flat d then H else H'),by simp only [callD,hb,Bool.true_eq_false,if_false,(ja7 hp).1,(ja7 hp).2,hm,ha,Option.bind_some,hr,hq,Option.map_some];rw [if_neg (by decide)],hk⟩
theorem jqm {f : FuncId} {args : List D} {d : D} {K Kp : D -> Heap -> Prop} (hb : bodied P f = true) (hp : primQ A f = false) (hm : A.mode f = .pure) (ha : stripL args = some args) (h : PureF P A f args d)
    (hk : K d H) : EvC P A f args H K Kp:=
  jjK hb hp hm (jaz ha) h (by simpa using hk)
end
theorem jxQ {e : Env} {i j : Nat} {v : D} : put e i v j = if j = i then v else e j:=rfl
theorem jrg {e : Env} {i : Nat} {v : D} : putO e (some i) v = put e i v:=rfl
theorem jqJ {e : Env} {v : D} : putO e none v = e:=rfl
theorem jgw {H L : Heap} {k : Nat} : hget (H ++ L) (H.length + k) = hget L k:=by
  simp only [hget,List.getD_eq_getElem?_getD]
  rw [List.getElem?_append_right (by omega)];simp
theorem jap {H L : Heap} : hget (H ++ L) H.length = hget L 0:=by
  have:=jgw (H:=H) (L:=L) (k:=0)
  rwa [Nat.add_zero] at this
theorem jmP {H L : Heap} {k : Nat} {o : Ob} : (H ++ L).set (H.length + k) o = H ++ L.set k o:=by
  rw [List.set_append_right _ _ (by omega)];simp
theorem juo {H L : Heap} {o : Ob} : (H ++ L).set H.length o = H ++ L.set 0 o:=by
  have:=jmP (H:=H) (L:=L) (k:=0) (o:=o)
  rwa [Nat.add_zero] at this
theorem jbQ {o : Ob} {L : Heap} : hget (o :: L) 0 = o:=rfl
theorem joe {o : Ob} {L : Heap} {k : Nat} : hget (o :: L) (k + 1) = hget L k:=rfl
end Vm
end
section
namespace Vm
open Go
section
variable {P : Program} {A : Ann} {N : Nat} {e : Env} {H : Heap} {Q : Ex -> Env -> Heap -> Prop}
end
section
variable {P : Program} {A : Ann} {N : Nat} {e : Env} {H : Heap} {Q : Ex -> Env -> Heap -> Prop}
theorem jvS {a b : Code} (I : Env -> Heap -> Prop) (h : WpC P A N a e H (SeqQ I Q)) (k : ∀ e H,I e H -> WpC P A N b e H Q) : WpC P A N (.seq a b) e H Q:=
  jmZ (h.mono fun x e H hx=>by cases x <;> first | exact k _ _ hx | exact hx)
end
theorem jaF {H : Heap} {d d' : D} (h : strip d = some d') : outPure H d = some d':=by
  simp [outPure,deepest,pur,h]
theorem jl8 {H : Heap} {k : IntKind} {n : Int} : outPure H (.int k n) = some (.int k n):=jaF rfl
theorem jk7 {H : Heap} {b : Bool} : outPure H (.bool b) = some (.bool b):=jaF rfl
theorem jtf {d : D} : oneD [d] = d:=rfl
theorem jw6 {e : Env} {i : Nat} {v : D} : (put e i v).df = e.df:=rfl
theorem wi64 {n : Int} (h0 : -9223372036854775808 <= n) (h1 : n < 9223372036854775808) : IntKind.i64.wrap n = n:=by
  rw [IntKind.wrap_i64];omega
def natOf : D -> Nat
  | .int _ n=>n.toNat
  | _=>0
theorem jab {k : IntKind} {n : Int} : natOf (.int k n) = n.toNat:=rfl
end Vm
end
section
namespace Vm
open Go
def VecIs (d : D) (H : Heap) (xs : List D) : Prop:=
  (xs = [] /\ d = .sl true []) ∨ (xs ≠ [] /\ ∃ r,d = .vec r 0 xs.length /\ hget H r = .arr xs /\ r < H.length)
theorem VecIs.nil {H : Heap} : VecIs (.sl true []) H []:=.inl ⟨rfl,rfl⟩
theorem jac {H L : Heap} {r : Nat} (h : r < H.length) : hget (H ++ L) r = hget H r:=by
  simp [hget,List.getD_eq_getElem?_getD,List.getElem?_append_left h]
theorem VecIs.grow {d : D} {H L : Heap} {xs : List D} (h : VecIs d H xs) : VecIs d (H ++ L) xs:=by
  rcases h with h | ⟨h1,r,h2,h3,h4⟩
  · exact .inl h
  · exact .inr ⟨h1,r,h2,by rw [jac h4,h3],by simp;omega⟩
theorem VecIs.out {d : D} {H : Heap} {xs : List D} (h : VecIs d H xs) (hs : stripL xs = some xs) : outPure H d = some (.sl false xs):=by
  rcases h with ⟨rfl,rfl⟩ | ⟨h1,r,rfl,h3,h4⟩
  · exact jaF rfl
  · have e1 : pur deepest H (.vec r 0 xs.length) = (if 0 + xs.length <= xs.length then (purL (pur (4 + 1)) (H.set r (.fro xs)) ((xs.drop 0).take xs.length)).map fun (l,H)=>(.sl false l,H) else none):=by
      unfold deepest
      rw [pur]
      simp only [strip,h3]
    rw [outPure,e1,if_pos (by omega),List.drop_zero,List.take_length,jbd hs]
    rfl
end Vm
end
