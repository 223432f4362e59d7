/- Texts that stand behind this claim, one after the other. -/
import Derived.Test.YtiaonafhegbhjaaGreatDoorM1
import Derived.MapKept
import Derived.Laws.LoneSync
import Derived.Laws.BytesString
set_option maxHeartbeats 4000000
set_option linter.unusedVariables false
set_option linter.unusedSimpArgs false
section
namespace Vm
open Go Go.RowKit
variable [Base]
section
variable {P : Program} {ρ : Rho} {im : Im} {H : Heap} {w w' : World} {n N : Nat} {a : Act} {e : Env}
omit [Base] in
theorem jfz {x y : D} {b : Bool} (h : eqS x y = some b) : (∃ k a c,x = .int k a /\ y = .int k c /\ b = (a == c)) ∨ (∃ a c,x = .bool a /\ y = .bool c /\ b = (a == c)) ∨ ∃ a c,x = .str a /\ y = .str c /\ b = (a == c):=by
  unfold eqS at h
  split at h
  · split at h
    · rename_i e;subst e;simp at h;exact .inl ⟨_,_,_,rfl,rfl,h.symm⟩
    · cases h
  · simp only [Option.some.injEq] at h;exact .inr (.inl ⟨_,_,rfl,rfl,h.symm⟩)
  · simp only [Option.some.injEq] at h;exact .inr (.inr ⟨_,_,rfl,rfl,h.symm⟩)
  · cases h
omit [Base] in
theorem jv9 {x y : ByteArray} (h : x.data.toList = y.data.toList) : x = y:=by
  obtain ⟨⟨x⟩⟩:=x;obtain ⟨⟨y⟩⟩:=y;simp at h;subst h;rfl
omit [Base] in
theorem jmz {x y : D} {vx vy : Value} (hx : Rep ρ n im vx x) (hy : Rep ρ n im vy y) (h : eqS x y = some true) : vx = vy /\ ∀ m,Instr.sameBits m vx vy = true:=by
  rcases jfz h with ⟨k,a,c,rfl,rfl,e⟩ | ⟨a,c,rfl,rfl,e⟩ | ⟨a,c,rfl,rfl,e⟩ <;> simp at e <;> subst e
  · cases hx;cases hy;exact ⟨rfl,fun m=>by cases m <;> simp [Instr.sameBits]⟩
  · cases hx;cases hy;exact ⟨rfl,fun m=>by cases m <;> simp [Instr.sameBits]⟩
  · generalize e1 : D.str a = d at hx hy
    cases hx with
    | str s=>
      cases e1
      generalize e2 : D.str s.data.toList = d at hy
      cases hy with
      | str t=>
        simp at e2
        have:=jv9 (x:=s) (y:=t) (by simp [e2])
        subst this
        exact ⟨rfl,fun m=>by cases m <;> simp only [Instr.sameBits] <;> (rw [beq_toListBytes];simp)⟩
      | _=>cases e2
    | _=>cases e1
omit [Base] in
theorem jkp : ∀ {xs ys : List D} {vs us : List Value},RepL ρ n im vs xs -> RepL ρ n im us ys -> eqSs xs ys = some true -> vs = us /\ ∀ m,(vs.zip us).all (fun (x,y)=>Instr.sameBits m x y) = true
  | _,_,_,_,.nil,.nil,_=>⟨rfl,fun _=>rfl⟩
  | _,_,_,_,.nil,.cons _ _ _ _ _ _ _,h=>by simp [eqSs] at h
  | _,_,_,_,.cons _ _ _ _ _ _ _,.nil,h=>by simp [eqSs] at h
  | _,_,_,_,.cons v x vs xs _ hv hvs,.cons u y us ys _ hu hus,h=>by
    simp only [eqSs] at h
    cases h1 : eqS x y with
    | none=>simp [h1] at h
    | some b0=>
      cases h2 : eqSs xs ys with
      | none=>simp [h1,h2] at h
      | some b1=>
        simp [h1,h2] at h
        obtain ⟨rfl,rfl⟩:=h
        obtain ⟨rfl,g1⟩:=jmz hv hu h1
        obtain ⟨rfl,g2⟩:=jkp hvs hus h2
        exact ⟨rfl,fun m=>by simp only [List.zip_cons_cons,List.all_cons,g1 m,g2 m,Bool.and_self]⟩
omit [Base] in
theorem jia : ∀ {xs ys : List D} {b : Bool},eqSs xs ys = some b -> xs.all intQ = true -> ys.all intQ = true
  | [],[],_,_,_=>rfl
  | [],_ :: _,_,h,_=>by simp [eqSs] at h
  | _ :: _,[],_,h,_=>by simp [eqSs] at h
  | x :: xs,y :: ys,b,h,hq=>by
    simp only [eqSs] at h
    cases h1 : eqS x y with
    | none=>simp [h1] at h
    | some b0=>
      cases h2 : eqSs xs ys with
      | none=>simp [h1,h2] at h
      | some b1=>
        simp only [List.all_cons,Bool.and_eq_true] at hq ⊢
        refine ⟨?_,jia h2 hq.2⟩
        rcases jfz h1 with ⟨k,a,c,rfl,rfl,e⟩ | ⟨a,c,rfl,rfl,e⟩ | ⟨a,c,rfl,rfl,e⟩
        · rfl
        · simp [intQ] at hq
        · simp [intQ] at hq
structure FR (ρ : Rho) (n : Nat) (im : Im) (kv : Value) (ms : List MapEntry) (i : Nat) (r : Option (Nat × D)) (r' : Option (Nat × Value)) : Prop where
  none : r = none -> r' = none
  some : ∀ j d,r = some (j,d) -> ∃ t m,j = i + t /\ r' = some (j,m.val) /\ ms[t]? = some m /\ Rep ρ n im m.val d /\ m.key = kv /\ Instr.sameBits 10000 m.key kv = true
omit [Base] in
theorem FR.cons {kv : Value} {ms : List MapEntry} {m : MapEntry} {i : Nat} {r : Option (Nat × D)} {r' : Option (Nat × Value)} (h : FR ρ n im kv ms (i + 1) r r') : FR ρ n im kv (m :: ms) i r r':=
  ⟨h.none,fun j d e=>by
    obtain ⟨t,m',h1,h2,h3,h4⟩:=h.some j d e
    exact ⟨t + 1,m',by omega,h2,by simpa using h3,h4⟩⟩
omit [Base] in
theorem jib {kv mv : Value} {kd md : D} (hk : Rep ρ n im kv kd) (hm : Rep ρ n im mv md) (hq : aggQ md = aggQ kd) (h : eqSs kd.cells md.cells = some true) (ht : noTup kd = true) (ht' : noTup md = true) : mv = kv /\ Instr.sameBits 10000 mv kv = true:=by
  have c1:=hk.cells (fun l e=>by subst e;cases ht)
  have c2:=hm.cells (fun l e=>by subst e;cases ht')
  obtain ⟨e1,e2⟩:=jkp c1 c2 h
  cases hka : aggQ kd with
  | true=>
    rw [hka] at hq
    cases kd <;> simp [aggQ] at hka
    cases md <;> simp [aggQ] at hq
    cases hk with
    | agg vs _ h1=>
      cases hm with
      | agg us _ h2=>
        simp only [Value.cells] at e1 e2
        subst e1
        refine ⟨rfl,?_⟩
        show Instr.sameBits (9999 + 1) _ _ = true
        simp only [Instr.sameBits,beq_self_eq_true,Bool.true_and]
        have:=e2 9999
        exact this
  | false=>
    rw [hka] at hq
    have k1 : kd.cells = [kd]:=by cases kd <;> simp [aggQ] at hka <;> rfl
    have m1 : md.cells = [md]:=by cases md <;> simp [aggQ] at hq <;> rfl
    rw [k1,m1] at h
    simp only [eqSs] at h
    cases h1 : eqS kd md with
    | none=>simp [h1] at h
    | some b=>
      simp [h1] at h
      subst h
      obtain ⟨rfl,g⟩:=jmz hk hm h1
      exact ⟨rfl,g 10000⟩
omit [Base] in
theorem joa {k m : D} {b : Bool} (hq : aggQ m = aggQ k) (h : eqSs k.cells m.cells = some b) (hk : noTup k = true) : noTup m = true:=by
  cases hka : aggQ k with
  | true=>rw [hka] at hq;cases m <;> simp [aggQ] at hq;rfl
  | false=>
    rw [hka] at hq
    have k1 : k.cells = [k]:=by cases k <;> simp [aggQ] at hka <;> rfl
    have m1 : m.cells = [m]:=by cases m <;> simp [aggQ] at hq <;> rfl
    rw [k1,m1] at h
    simp only [eqSs] at h
    cases h1 : eqS k m with
    | none=>simp [h1] at h
    | some b=>
      rcases jfz h1 with ⟨_,_,_,rfl,rfl,_⟩ | ⟨_,_,rfl,rfl,_⟩ | ⟨_,_,rfl,rfl,_⟩ <;> rfl
omit [Base] in
theorem jf6 {kind : TypeDesc} {kv : Value} {kd : D} (hk : Rep ρ n im kv kd) (hkd : (∃ k a,kd = .int k a /\ ∃ k',kind = .int k') ∨ (∃ s,kd = .str s /\ kind = .string) ∨ ∃ b,kd = .bool b /\ kind = .bool) : ∀ {ms : List MapEntry} {es : List (D × D)} {i : Nat} {r : Option (Nat × D)},RepM ρ n im ms es -> findE kd es i = some r -> ∃ r',Instr.findNow kind kv ms i = some r' /\ FR ρ n im kv ms i r r'
  | _,_,i,r,.nil,h=>by
    simp [findE] at h;subst h
    exact ⟨none,rfl,fun _=>rfl,fun j d e=>by cases e⟩
  | _,_,i,r,.cons m k v ms es hk' hv hr,h=>by
    simp only [findE] at h
    split at h
    · rename_i hq
      cases h1 : eqSs kd.cells k.cells with
      | none=>simp [h1] at h
      | some b=>
        simp only [h1,Option.bind_some] at h
        have hnt : noTup kd = true:=by rcases hkd with ⟨_,_,rfl,_⟩ | ⟨_,rfl,_⟩ | ⟨_,rfl,_⟩ <;> rfl
        have hsame : Instr.sameNow kind kv m.key = some b:=by
          have hka : aggQ kd = false:=by rcases hkd with ⟨_,_,rfl,_⟩ | ⟨_,rfl,_⟩ | ⟨_,rfl,_⟩ <;> rfl
          rw [hka] at hq
          have k1 : kd.cells = [kd]:=by cases kd <;> simp [aggQ] at hka <;> rfl
          have m1 : k.cells = [k]:=by cases k <;> simp [aggQ] at hq <;> rfl
          rw [k1,m1] at h1
          simp only [eqSs] at h1
          cases h2 : eqS kd k with
          | none=>simp [h2] at h1
          | some b'=>
            simp [h2] at h1;subst h1
            rcases jfz h2 with ⟨k1,a,c,rfl,rfl,rfl⟩ | ⟨a,c,rfl,rfl,rfl⟩ | ⟨a,c,rfl,rfl,rfl⟩
            · rcases hkd with ⟨_,_,e1,k',rfl⟩ | ⟨_,e1,_⟩ | ⟨_,e1,_⟩ <;> cases e1
              rw [hk.int_inv,hk'.int_inv];simp [Instr.sameNow]
            · rcases hkd with ⟨_,_,e1,k',rfl⟩ | ⟨_,e1,_⟩ | ⟨_,e1,rfl⟩ <;> cases e1
              rw [hk.bool_inv,hk'.bool_inv];simp [Instr.sameNow]
            · rcases hkd with ⟨_,_,e1,k',rfl⟩ | ⟨_,e1,rfl⟩ | ⟨_,e1,_⟩ <;> cases e1
              obtain ⟨s,e2,e3⟩:=hk.str_inv
              obtain ⟨t,e4,e5⟩:=hk'.str_inv
              rw [e2,e4]
              simp only [Instr.sameNow,Option.some.injEq]
              rw [beq_toListBytes,ByteArray.toList_eq,ByteArray.toList_eq,e3,e5]
        cases b with
        | true=>
          simp at h;subst h
          obtain ⟨g1,g2⟩:=jib hk hk' hq h1 hnt (joa hq h1 hnt)
          exact ⟨some (i,m.val),by simp [Instr.findNow,hsame],⟨fun e=>(by cases e),fun j d e=>by cases e;exact ⟨0,m,rfl,rfl,rfl,hv,g1,g2⟩⟩⟩
        | false=>
          simp at h
          obtain ⟨r',g1,g2⟩:=jf6 hk hkd hr h
          exact ⟨r',by simp [Instr.findNow,hsame,g1],g2.cons⟩
    · cases h
omit [Base] in
theorem jdS {kt e : TypeId} {m : Nat} {ik : IntKind} (hu : P.underlying kt = some (.array m e)) (he : P.underlying e = some (.int ik)) (hs : sizeT P e = some 1) {kvs : List Value} {ks : List D} (hk : RepL ρ n im kvs ks) (hl : ks.length = m) (hi : ks.all intQ = true) : ∀ {ms : List MapEntry} {es : List (D × D)} {i : Nat} {r : Option (Nat × D)},RepM ρ n im ms es -> findE (.agg ks) es i = some r -> ∃ r',(Instr.findAsking kt (.agg ⟨kvs⟩) ms i).run P w = .ok r' w /\ FR ρ n im (.agg ⟨kvs⟩) ms i r r'
  | _,_,i,r,.nil,h=>by
    simp [findE] at h;subst h
    exact ⟨none,by simp [Instr.findAsking],fun _=>rfl,fun j d e=>by cases e⟩
  | _,_,i,r,.cons mm k v ms es hk' hv hr,h=>by
    simp only [findE] at h
    split at h
    · rename_i hq
      cases h1 : eqSs (D.agg ks).cells k.cells with
      | none=>simp [h1] at h
      | some b=>
        simp only [h1,Option.bind_some] at h
        have hka:=hk'
        obtain ⟨key,val,born⟩:=mm
        simp only at hk' hka hv
        cases k <;> simp [aggQ] at hq
        rename_i cs
        cases hk' with
        | agg us _ hus=>
          simp only [D.cells] at h1
          have heq:=jf7 (w:=w) hu he hs hk hus hl hi (jia h1 hi) h1 9998
          have heq' : (Op.equal kt (.agg ⟨kvs⟩) (.agg ⟨us⟩)).run P w = .ok b w:=heq
          cases b with
          | true=>
            simp at h;subst h
            obtain ⟨g1,g2⟩:=jib (.agg kvs ks hk) hka rfl h1 rfl rfl
            exact ⟨some (i,val),by simp [Instr.findAsking,heq'],⟨fun e=>(by cases e),fun j d e=>by cases e;exact ⟨0,_,rfl,rfl,rfl,hv,g1,g2⟩⟩⟩
          | false=>
            simp at h
            obtain ⟨r',g1,g2⟩:=jdS hu he hs hk hl hi hr h
            exact ⟨r',by simp [Instr.findAsking,heq',g1],g2.cons⟩
    · cases h
omit [Base] in
theorem jfZ {kt : TypeId} {kv : Value} {kd : D} (hk : Rep ρ n im kv kd) (hok : keyOk P kt kd = true) {ms : List MapEntry} {es : List (D × D)} {r : Option (Nat × D)} (hm : RepM ρ n im ms es) (h : findE kd es 0 = some r) : ∃ r',(Instr.findKey kt kv ms).run P w = .ok r' w /\ FR ρ n im kv ms 0 r r':=by
  have scalar : ∀ {kind : TypeDesc},P.underlying kt = some kind -> ((∃ k a,kd = .int k a /\ ∃ k',kind = .int k') ∨ (∃ s,kd = .str s /\ kind = .string) ∨ ∃ b,kd = .bool b /\ kind = .bool) -> ∃ r',(Instr.findKey kt kv ms).run P w = .ok r' w /\ FR ρ n im kv ms 0 r r':=fun hu hkd=>by
    obtain ⟨r',g1,g2⟩:=jf6 hk hkd hm h
    exact ⟨r',MapKept.run_findKey hu g1,g2⟩
  unfold keyOk at hok
  split at hok
  · rename_i hu;exact scalar hu (.inl ⟨_,_,rfl,_,rfl⟩)
  · rename_i hu;exact scalar hu (.inr (.inl ⟨_,rfl,rfl⟩))
  · rename_i hu;exact scalar hu (.inr (.inr ⟨_,rfl,rfl⟩))
  · rename_i m e cs hu
    simp only [Bool.and_eq_true,beq_iff_eq] at hok
    obtain ⟨⟨h1,h2⟩,h3⟩:=hok
    split at h1
    · rename_i ik he hs
      cases hk with
      | agg vs _ hvs=>
        obtain ⟨r',g1,g2⟩:=jdS (w:=w) hu he hs hvs h2 h3 hm h
        cases ms with
        | nil=>
          simp [Instr.findAsking] at g1
          subst g1
          exact ⟨none,by simp [Instr.findKey,run_underlying hu,Instr.findNow],g2⟩
        | cons mm ms=>
          exact ⟨r',by simp [Instr.findKey,run_underlying hu,Instr.findNow,Instr.sameNow,g1],g2⟩
    · cases h1
  · cases hok
omit [Base] in
theorem jca {kt : TypeId} {d : TypeDesc} {v : Value} (hu : P.underlying kt = some d) (hd : (∃ k,d = .int k) ∨ d = .string ∨ d = .bool) (b : Bool) (m : Nat) : (Instr.checkKey b (m + 1) kt v).run P w = .ok () w:=by
  unfold Instr.checkKey
  simp only [Sem.run_bind,run_underlying hu,Result.andThen_ok]
  rcases hd with ⟨k,rfl⟩ | rfl | rfl <;> simp
omit [Base] in
theorem jbH {kt : TypeId} {kv : Value} {kd : D} (hk : Rep ρ n im kv kd) (hok : keyOk P kt kd = true) (b : Bool) : (Instr.checkKey b 10000 kt kv).run P w = .ok () w:=by
  show (Instr.checkKey b (9998 + 2) kt kv).run P w = .ok () w
  generalize 9998 = dd
  unfold keyOk at hok
  split at hok
  · rename_i hu;exact jca hu (.inl ⟨_,rfl⟩) b _
  · rename_i hu;exact jca hu (.inr (.inl rfl)) b _
  · rename_i hu;exact jca hu (.inr (.inr rfl)) b _
  · rename_i m e cs hu
    simp only [Bool.and_eq_true,beq_iff_eq] at hok
    obtain ⟨⟨h1,h2⟩,h3⟩:=hok
    split at h1
    · rename_i ik he hs
      obtain ⟨i,hi',hz,_⟩:=ja8 hs
      cases hk with
      | agg vs _ hvs=>
        have hag : isAggT P e = some false:=by simp [isAggT,he]
        have hlen : vs.length = m:=by rw [hvs.length,h2]
        have hsz : (Go.sizeOf e).run P w = .ok 1 w:=jaP hs w
        unfold Instr.checkKey
        simp only [Sem.run_bind,run_underlying hu,Result.andThen_ok]
        have key : ∀ (l : List Nat),(∀ x ∈ l,x < m) -> ((forIn l PUnit.unit fun i _=>do
            let x <- part e ⟨vs⟩ (i * (<- Go.sizeOf e))
            Instr.checkKey b (dd + 1) e x
            pure (ForInStep.yield PUnit.unit)) : Sem PUnit).run P w = .ok PUnit.unit w:=by
          intro l
          induction l with
          | nil=>intro _;simp
          | cons x l ih=>
            intro hx
            have hxm:=hx x (by simp)
            have p1 : (part e ⟨vs⟩ (x * 1)).run P w = .ok (vs[x]'(by omega)) w:=by
              unfold part
              simp [jbG hag,hlen,hxm]
            have p2 : (Instr.checkKey b (dd + 1) e (vs[x]'(by omega))).run P w = .ok () w:=by
              have hin : (cs[x]'(by omega)) ∈ cs:=List.getElem_mem _
              have hq:=List.all_eq_true.1 h3 _ hin
              obtain ⟨v,g1,_,g3⟩:=hvs.get (k:=x) (d:=cs[x]'(by omega)) (by simp [h2,hxm])
              rw [List.getElem?_eq_getElem (by omega)] at g1
              cases g1
              generalize cs[x]'(by omega) = d at hq g3
              cases d <;> simp [intQ] at hq
              rw [g3.int_inv]
              exact jca he (.inl ⟨_,rfl⟩) b _
            simp only [List.forIn_cons,Sem.run_bind,hsz,Result.andThen_ok,p1,p2,Sem.run_pure]
            exact ih fun y hy=>hx y (by simp [hy])
        have:=key (List.range' 0 m) (fun x hx=>by simp at hx;omega)
        simp only [Std.Legacy.Range.forIn_eq_forIn_range',Std.Legacy.Range.size,Nat.sub_zero,Nat.add_one_sub_one,Nat.div_one]
        simpa using congrArg (fun r=>Result.andThen r fun _ w'=>Result.ok () w') this
    · cases h1
  · cases hok
theorem jnj {t : TypeId} {x i d : D} {vx vi : Value} {ok : Bool} (hR : Rel ρ im H w) (hx : Rep ρ H.length im vx x) (hi : Rep ρ H.length im vi i) (h : lookupD P t H x i ok = some d) : ∃ v,(Instr.lookup t vx vi ok).run P w = .ok v w /\ Rep ρ H.length im v d:=by
  unfold lookupD at h
  split at h
  · rename_i kt vt hu
    split at h
    · cases h
    · rename_i hok
      simp only [Bool.not_eq_false] at hok
      have fin : ∀ {vb : D × Bool} {v : Value},Rep ρ H.length im v vb.1 -> (if ok then D.tup [vb.1,.bool vb.2] else vb.1) = d -> Rep ρ H.length im (if ok then .tuple #[v,.bool vb.2] else v) d:=by
        intro vb v hv e
        cases ok
        · simp at e;subst e;simpa using hv
        · simp at e;subst e;exact .tup [v,.bool vb.2] [vb.1,.bool vb.2] (.cons _ _ _ _ hv (.cons _ _ _ _ (.bool _) .nil))
      have zero : ∀ {z : D},zeroT P vt = some z -> ∃ zv,(zeroValue vt).run P w = .ok zv w /\ Rep ρ H.length im zv z:=fun hz=>by
        obtain ⟨zv,h1,h2,_⟩:=jcd hz w
        exact ⟨zv,h1,jbD h2⟩
      cases x <;> simp only [Option.bind_none] at h <;> try (cases h;done)
      · rename_i r
        cases hx with
        | map _ hr=>
          cases hm : hget H r with
          | map es=>
            simp only [hm] at h
            cases hf : findE i es 0 with
            | none=>simp [hf] at h
            | some f=>
              simp only [hf,Option.bind_some] at h
              have hob:=hR.obj r hr.lt
              rw [hm] at hob
              obtain ⟨ms,clock,hb,hms⟩:=hob
              obtain ⟨r',g1,g2⟩:=jfZ (w:=w) hi hok hms hf
              cases f with
              | none=>
                have:=g2.none rfl
                subst this
                simp only at h
                cases hz : zeroT P vt with
                | none=>simp [hz] at h
                | some z=>
                  simp only [hz,Option.map_some,Option.some.injEq] at h
                  obtain ⟨zv,z1,z2⟩:=zero hz
                  exact ⟨_,by simp [Instr.lookup,run_underlying hu,MapKept.run_getObj_map hb,jbH hi hok,g1,z1],fin (vb:=(z,false)) z2 h⟩
              | some p=>
                obtain ⟨j,dv⟩:=p
                obtain ⟨t',m,_,e2,_,e4,_⟩:=g2.some j dv rfl
                subst e2
                simp only [Option.map_some,Option.some.injEq] at h
                exact ⟨_,by simp [Instr.lookup,run_underlying hu,MapKept.run_getObj_map hb,jbH hi hok,g1],fin (vb:=(dv,true)) e4 h⟩
          | arr _=>simp [hm] at h
          | fro _=>simp [hm] at h
          | loop _=>simp [hm] at h
          | dead=>simp [hm] at h
      · cases hx
        simp only [Option.bind_some] at h
        cases hz : zeroT P vt with
        | none=>simp [hz] at h
        | some z=>
          simp only [hz,Option.map_some,Option.some.injEq] at h
          obtain ⟨zv,z1,z2⟩:=zero hz
          have hfn : (Instr.findKey kt vi []).run P w = .ok none w:=by
            simp only [Instr.findKey]
            unfold keyOk at hok
            split at hok <;> first | (cases hok;done) | (rename_i hk;simp [run_underlying hk,Instr.findNow])
          exact ⟨_,by simp [Instr.lookup,run_underlying hu,jbH hi hok,hfn,z1],fin (vb:=(z,false)) z2 h⟩
  · cases h
omit [Base] in
theorem RepM.push {ms : List MapEntry} {es : List (D × D)} {m : MapEntry} {k v : D} (hk : Rep ρ n im m.key k) (hv : Rep ρ n im m.val v) : RepM ρ n im ms es -> RepM ρ n im (ms ++ [m]) (es ++ [(k,v)])
  | .nil=>.cons m k v [] [] hk hv .nil
  | .cons m' k' v' ms es hk' hv' hr=>.cons m' k' v' _ _ hk' hv' (RepM.push hk hv hr)
omit [Base] in
theorem RepM.modify {m : MapEntry} {f : MapEntry -> MapEntry} {v : D} (hf1 : (f m).key = m.key) (hf2 : Rep ρ n im (f m).val v) : ∀ {ms : List MapEntry} {es : List (D × D)} (t : Nat),RepM ρ n im ms es -> ms[t]? = some m -> RepM ρ n im (ms.modify t f) (es.modify t fun e=>(e.1,v))
  | _,_,t,.nil,h=>by simp at h
  | _,_,0,.cons m' k' v' ms es hk' hv' hr,h=>by
    simp at h;subst h
    simp only [List.modify_zero_cons]
    exact .cons _ k' v ms es (by rw [hf1];exact hk') hf2 hr
  | _,_,t + 1,.cons m' k' v' ms es hk' hv' hr,h=>by
    simp only [List.modify_succ_cons]
    exact .cons m' k' v' _ _ hk' hv' (RepM.modify hf1 hf2 t hr (by simpa using h))
theorem jg4 {t : TypeId} {x k v : D} {vx vk vv : Value} {H' : Heap} (hR : Rel ρ im H w) (hx : Rep ρ H.length im vx x) (hk : Rep ρ H.length im vk k) (hv : Rep ρ H.length im vv v) (h : updateD P t H x k v = some H') : ∃ w',(Instr.mapUpdate t vx vk vv).run P w = .ok () w' /\ Rel ρ im H' w' /\ Tr ρ H w ρ H' w':=by
  unfold updateD at h
  split at h
  · rename_i kt vt r hu
    split at h
    · cases h
    · rename_i hok
      simp only [Bool.not_eq_false] at hok
      cases hx with
      | map _ hr=>
        cases hm : hget H r with
        | map es=>
          simp only [hm] at h
          have hl : live (hget H r):=by rw [hm];trivial
          have hob:=hR.obj r hr.lt
          rw [hm] at hob
          obtain ⟨ms,clock,hb,hms⟩:=hob
          have hblt:=(Array.getElem?_eq_some_iff.1 hb).1
          have set : ∀ (o : Obj) (ob : Ob),ObOk ρ H.length im { w with heap:=w.heap.setIfInBounds (ρ r).b o } (ρ r) ob -> Rel ρ im (H.set r ob) { w with heap:=w.heap.setIfInBounds (ρ r).b o } /\ Tr ρ H w ρ (H.set r ob) { w with heap:=w.heap.setIfInBounds (ρ r).b o }:=fun o ob hob=>
            ⟨hR.setOb hr.lt hl (fun b hb=>Array.getElem?_setIfInBounds_ne (Ne.symm hb)) hob,Tr.setOb hr.lt hl (fun b hb=>Array.getElem?_setIfInBounds_ne (Ne.symm hb)) (by simp) rfl rfl rfl⟩
          cases hf : findE k es 0 with
          | none=>simp [hf] at h
          | some f=>
            simp only [hf,Option.map_some,Option.some.injEq] at h
            obtain ⟨r',g1,g2⟩:=jfZ (w:=w) hk hok hms hf
            cases f with
            | none=>
              have:=g2.none rfl
              subst this
              simp only at h;subst h
              obtain ⟨s1,s2⟩:=set (.map (ms.push { key:=vk,val:=vv,born:=clock }) (clock + 1)) (.map (es ++ [(k,v)])) ⟨ms.push { key:=vk,val:=vv,born:=clock },clock + 1,by simp [hblt],by simpa using RepM.push (m:={ key:=vk,val:=vv,born:=clock }) hk hv hms⟩
              exact ⟨_,by simp [Instr.mapUpdate,run_underlying hu,MapKept.run_getObj_map hb,jbH hk hok,g1,MapKept.run_setObj_map _ hb],s1,s2⟩
            | some p=>
              obtain ⟨j,dv⟩:=p
              obtain ⟨t',m,e1,e2,e3,e4,e5,e6⟩:=g2.some j dv rfl
              subst e2
              simp only at h;subst h
              have e1' : j = t':=by omega
              subst e1'
              have e3' : ms[j]? = some m:=by simpa using e3
              obtain ⟨s1,s2⟩:=set (.map (ms.modify j fun e=>{ e with key:=vk,val:=vv }) clock) (.map (es.modify j fun e=>(e.1,v))) ⟨ms.modify j fun e=>{ e with key:=vk,val:=vv },clock,by simp [hblt],by
                simp only [Array.toList_modify]
                exact RepM.modify (m:=m) (f:=fun e=>{ e with key:=vk,val:=vv }) e5.symm hv j hms e3⟩
              refine ⟨_,?_,s1,s2⟩
              have hst : (Instr.keyThatStays vk vk).run P w = .ok vk w:=by
                unfold Instr.keyThatStays
                rw [e5] at e6
                simp [e6]
              simp [Instr.mapUpdate,run_underlying hu,MapKept.run_getObj_map hb,jbH hk hok,g1,MapKept.run_setObj_map _ hb,e3',e5,hst]
        | arr _=>simp [hm] at h
        | fro _=>simp [hm] at h
        | loop _=>simp [hm] at h
        | dead=>simp [hm] at h
  · cases h
theorem jfJ         {t : TypeId} {x : Option D} {vx : Option Value} {d : D} {H' : Heap} (hR : Rel ρ im H w) (hx : match x, vx with | none, none => True | some d, some v => Rep ρ H.length im v d | _, _ => False) (h : makeMapD P t x H = some (d, H')) :
    ∃ v ρ' w',(Instr.makeMap t vx).run P w = .ok v w' /\ Mv ρ im H w ρ' im H' w' /\ Rep ρ' H'.length im v d:=by
  have key : ∀ (d : D) (H' : Heap),d = .map H.length -> H' = H ++ [.map []] -> ∃ ρ',Mv ρ im H w ρ' im H' (w.alloc (.map #[] 0)) /\ Rep ρ' H'.length im (.map (some w.heap.size)) d:=by
    rintro d H' rfl rfl
    obtain ⟨r1,r2⟩:=hR.allocMap (clock:=0)
    refine ⟨_,⟨r1,ImLe.refl _,r2,fun _ _ _ h=>.inl h⟩,?_⟩
    have:=Rep.map (ρ:=newR ρ H.length ⟨w.heap.size,0,0,true⟩) (n:=(H ++ [Ob.map []]).length) (im:=im) H.length ⟨by simp,by rw [jaD]⟩
    simpa [jaD] using this
  unfold makeMapD at h
  split at h
  · rename_i kt vt hu
    cases vx with
    | none=>
      simp at h
      obtain ⟨ρ',g1,g2⟩:=key d H' h.1.symm h.2.symm
      exact ⟨_,ρ',_,by simp [Instr.makeMap],g1,g2⟩
    | some v=>cases hx
  · rename_i kt vt k m hu
    cases vx with
    | none=>cases hx
    | some v=>
      simp at h
      obtain ⟨ρ',g1,g2⟩:=key d H' h.1.symm h.2.symm
      simp only at hx
      rw [hx.int_inv]
      exact ⟨_,ρ',_,by simp [Instr.makeMap,run_underlying hu,asInt,asIntOf],g1,g2⟩
  · cases h
end
end Vm
end
section
namespace Vm
open Go Go.RowKit
variable [Base]
def CallR (P : Program) (ρ : Rho) (f : FuncId) (vs : List Value) (w : World) (R : Ending -> World -> Prop) : Prop:=
  match P.funcs[f]? with
  | some _=>Calls P f ⟨vs⟩ w R
  | none => ∃ fn tmps assign body, (Instr.yield (ρ (f - P.funcs.size)).b ⟨vs⟩).run P w = .ok (.round (ρ (f - P.funcs.size)).b fn tmps assign body) w ∧
      ∀ ro n,RoundIn (FW ro) n P (ρ (f - P.funcs.size)).b fn tmps assign body w R
omit [Base] in
theorem CallR.calls {P : Program} {ρ : Rho} {f : FuncId} {vs : List Value} {w : World} {R : Ending -> World -> Prop} (h : CallR P ρ f vs w R) (hb : bodied P f = true) : Calls P f ⟨vs⟩ w R:=by
  unfold CallR at h
  unfold bodied at hb
  cases hf : P.funcs[f]? with
  | none=>simp [hf] at hb
  | some fn=>simpa [hf] using h
def CallOk (P : Program) (call : CallF) : Prop:=
  ∀ (f : FuncId) (args : List D) (H : Heap) (r : R),call f args H = some r -> ∀ (ρ : Rho) (im : Im) (w : World) (vs : List Value),Rel ρ im H w -> RepA ρ H.length im vs args -> CallR P ρ f vs w (OutR ρ im H w r)
structure ExtFn (P : Program) (f : FuncId) (k : ExtK) (fn : Func) : Prop where
  at_ : P.funcs[f]? = some fn
  name : (fn.name == "runtime.NumGoroutine") = false
  body : fn.body.isNone = true
  next : Extern.findNext fn = none
  find : match k with
    | .load k=>Extern.find fn = some (Extern.Atomic.loadT (.int k))
    | .store=>Extern.find fn = some Extern.Atomic.storeT
    | .add k=>Extern.find fn = some (Extern.Atomic.update (Op.intArith .add) k true)
    | .cas k=>Extern.find fn = some (Extern.Atomic.casT (.int k))
    | .mark0=>∃ m,Extern.find fn = some (fun _=>do mark m;pure Extern.Race.none_)
    | .mark1=>∃ m,Extern.find fn = some (Extern.Race.marked m)
def ExtOk (P : Program) (A : Ann) : Prop:=∀ (f : FuncId) (k : ExtK),A.bl f = some k -> ∃ fn,ExtFn P f k fn
structure PrimOk (P : Program) (A : Ann) : Prop where
  ext : ExtOk P A
  rd : ∀ (f : FuncId) (g : List D -> List Ob -> Option D),A.rd f = some g -> ∀ (args : List D) (H : Heap) (d : D),g args ((args.flatMap objsD).map (hget H)) = some d -> ∀ (ρ : Rho) (im : Im) (w : World) (vs : List Value),Rel ρ im H w -> RepA ρ H.length im vs args -> Calls P f ⟨vs⟩ w (OutR ρ im H w (.ok d H))
  ok : ∀ (f : FuncId) (p : List D -> Heap -> Option R),A.prim f = some p -> ∀ (args : List D) (H : Heap) (r : R),p args H = some r -> ∀ (ρ : Rho) (im : Im) (w : World) (vs : List Value),Rel ρ im H w -> RepA ρ H.length im vs args -> Calls P f ⟨vs⟩ w (OutR ρ im H w r)
section
variable {P : Program} {ρ : Rho} {im : Im} {H : Heap} {w w' : World} {n N : Nat} {a : Act} {e : Env}
theorem Rel.empty (h : Rel ρ im H w) (ρ0 : Rho) : Rel ρ0 im [] w:=
  ⟨h.imc,fun r hr=>by simp at hr,fun r s hr=>by simp at hr,fun r hr=>by simp at hr,h.base,fun r hr=>by simp at hr⟩
omit [Base] in
mutual
theorem Rep.plain {ρ' : Rho} {m : Nat} : ∀ {v : Value} {d d' : D},Rep ρ n im v d -> Vm.strip d = some d' -> Rep ρ' m im v d
  | _,_,_,.bool b,h=>.bool b
  | _,_,_,.int k m,h=>.int k m
  | _,_,_,.str s,h=>.str s
  | _,_,_,.nilp,h=>.nilp
  | _,_,_,.ptr r i j hr,h=>by simp [Vm.strip] at h
  | _,_,_,.ept b o x j vs hc hl,h=>by simp [Vm.strip] at h
  | _,_,_,.sl0 a cap f hf,h=>.sl0 a cap f hf
  | _,_,_,.sl b o sz cap f xs vs hs hc hl hf hcap,h=>by
    simp only [Vm.strip] at h
    cases hx : stripL xs with
    | none=>simp [hx] at h
    | some l=>exact .sl b o sz cap f xs vs hs hc (RepL.plain hl (jfV hx)) hf hcap
  | _,_,_,.vec r o m hr hm,h=>by simp [Vm.strip] at h
  | _,_,_,.map r hr,h=>by simp [Vm.strip] at h
  | _,_,_,.nilm,h=>.nilm
  | _,_,_,.fn f vs cs hl,h=>by simp [Vm.strip] at h
  | _,_,_,.bfn f vs cs hl,h=>by simp [Vm.strip] at h
  | _,_,_,.niln,h=>.niln
  | _,_,_,.iface t v d hv,h=>by simp [Vm.strip] at h
  | _,_,_,.nili,h=>.nili
  | _,_,_,.agg vs cs hl,h=>by
    simp only [Vm.strip] at h
    cases hx : stripL cs with
    | none=>simp [hx] at h
    | some l=>exact .agg vs cs (RepL.plain hl hx)
  | _,_,_,.tup vs cs hl,h=>by
    simp only [Vm.strip] at h
    cases hx : stripL cs with
    | none=>simp [hx] at h
    | some l=>exact .tup vs cs (RepA.plain hl hx)
  | _,_,_,.yld r hr,h=>by simp [Vm.strip] at h
theorem RepL.plain {ρ' : Rho} {m : Nat} : ∀ {vs : List Value} {ds ds' : List D},RepL ρ n im vs ds -> stripL ds = some ds' -> RepL ρ' m im vs ds
  | _,_,_,.nil,h=>.nil
  | _,_,_,.cons v d vs ds h1 hv hr,h=>by
    obtain ⟨d',r',h0,h2,rfl⟩:=jaY h
    exact .cons v d vs ds h1 (Rep.plain hv h0) (RepL.plain hr h2)
theorem RepA.plain {ρ' : Rho} {m : Nat} : ∀ {vs : List Value} {ds ds' : List D},RepA ρ n im vs ds -> stripL ds = some ds' -> RepA ρ' m im vs ds
  | _,_,_,.nil,h=>.nil
  | _,_,_,.cons v d vs ds hv hr,h=>by
    obtain ⟨d',r',h0,h2,rfl⟩:=jaY h
    exact .cons v d vs ds (Rep.plain hv h0) (RepA.plain hr h2)
end
end
omit [Base] in
mutual
theorem jdN : ∀ {d d' : D},strip d = some d' -> strip d' = some d'
  | .bool b,d',h=>by simp [strip] at h;subst h;rfl
  | .int k m,d',h=>by simp [strip] at h;subst h;rfl
  | .str s,d',h=>by simp [strip] at h;subst h;rfl
  | .nilp,d',h=>by simp [strip] at h;subst h;rfl
  | .ptr r i j,d',h=>by simp [strip] at h
  | .ept x j,d',h=>by simp [strip] at h
  | .sl f xs,d',h=>by
    simp only [strip] at h
    cases hx : stripL xs with
    | none=>simp [hx] at h
    | some l=>simp [hx] at h;subst h;simp [strip,jcb hx]
  | .vec r o m,d',h=>by simp [strip] at h
  | .map r,d',h=>by simp [strip] at h
  | .nilm,d',h=>by simp [strip] at h;subst h;rfl
  | .fn f cs,d',h | .bfn f cs,d',h=>by simp [strip] at h
  | .niln,d',h=>by simp [strip] at h;subst h;rfl
  | .iface t d,d',h=>by simp [strip] at h
  | .nili,d',h=>by simp [strip] at h;subst h;rfl
  | .agg cs,d',h=>by
    simp only [strip] at h
    cases hx : stripL cs with
    | none=>simp [hx] at h
    | some l=>simp [hx] at h;subst h;simp [strip,jcb hx]
  | .tup cs,d',h=>by
    simp only [strip] at h
    cases hx : stripL cs with
    | none=>simp [hx] at h
    | some l=>simp [hx] at h;subst h;simp [strip,jcb hx]
  | .yld r,d',h=>by simp [strip] at h
theorem jcb : ∀ {l l' : List D},stripL l = some l' -> stripL l' = some l'
  | [],l',h=>by simp [stripL] at h;subst h;rfl
  | d :: r,l',h=>by
    obtain ⟨d',r',h0,h1,rfl⟩:=jaY h
    simp [stripL,jdN h0,jcb h1]
end
omit [Base] in
theorem jbR {f : Heap -> D -> Option (D × Heap)} (hf : ∀ H d d' H',f H d = some (d',H') -> strip d' = some d') : ∀ {l l' : List D} {H H' : Heap},purL f H l = some (l',H') -> stripL l' = some l'
  | [],l',H,H',h=>by simp [purL] at h;obtain ⟨rfl,rfl⟩:=h;rfl
  | d :: r,l',H,H',h=>by
    simp only [purL] at h
    cases h0 : f H d with
    | none=>simp [h0] at h
    | some p=>
      obtain ⟨d',H1⟩:=p
      simp only [h0,Option.bind_some] at h
      cases h1 : purL f H1 r with
      | none=>simp [h1] at h
      | some q=>
        obtain ⟨r',H2⟩:=q
        simp [h1] at h
        obtain ⟨rfl,rfl⟩:=h
        simp [stripL,hf _ _ _ _ h0,jbR hf h1]
omit [Base] in
theorem jdB : ∀ k (H : Heap) (d d' : D) (H' : Heap),pur k H d = some (d',H') -> strip d' = some d'
  | 0,H,d,d',H',h=>by simp [pur] at h
  | k + 1,H,d,d',H',h=>by
    have ih:=jdB k
    simp only [pur] at h
    cases hst : strip d with
    | some d1=>simp [hst] at h;obtain ⟨rfl,rfl⟩:=h;exact jdN hst
    | none=>
      simp only [hst] at h
      cases d <;> simp only at h <;> try (cases h;done)
      case agg cs=>
        cases hp : purL (pur k) H cs with
        | none=>simp [hp] at h
        | some q=>obtain ⟨l,H1⟩:=q;simp [hp] at h;obtain ⟨rfl,rfl⟩:=h;simp [strip,jbR ih hp]
      case tup cs=>
        cases hp : purL (pur k) H cs with
        | none=>simp [hp] at h
        | some q=>obtain ⟨l,H1⟩:=q;simp [hp] at h;obtain ⟨rfl,rfl⟩:=h;simp [strip,jbR ih hp]
      case vec r o m=>
        cases hx : hget H r with
        | dead=>simp [hx] at h
        | loop l=>simp [hx] at h
        | map es=>simp [hx] at h
        | arr xs=>
          simp only [hx] at h
          split at h
          · cases hp : purL (pur k) (H.set r (.fro xs)) ((xs.drop o).take m) with
            | none=>simp [hp] at h
            | some q=>obtain ⟨l,H1⟩:=q;simp [hp] at h;obtain ⟨rfl,rfl⟩:=h;simp [strip,jbR ih hp]
          · cases h
        | fro xs=>
          simp only [hx] at h
          split at h
          · cases hp : purL (pur k) H ((xs.drop o).take m) with
            | none=>simp [hp] at h
            | some q=>obtain ⟨l,H1⟩:=q;simp [hp] at h;obtain ⟨rfl,rfl⟩:=h;simp [strip,jbR ih hp]
          · cases h
omit [Base] in
theorem jfX {l l' : List D} {H H' : Heap} (h : pures H l = some (l',H')) : stripL l' = some l':=jbR (jdB deepest) h
section
variable {P : Program} {ρ ρ' : Rho} {im im' : Im} {H : Heap} {w w' : World} {n m N : Nat} {a : Act} {e : Env}
omit [Base] in
theorem jfg {v : Value} {d : D} (h : flat1 d = true) (hv : Rep ρ n im v d) : Rep ρ' m im' v d:=by
  cases hv <;> simp [flat1] at h
  case sl b o sz cap f xs vs hs hc hl hf hcap=>
    subst h
    exact .sl0 _ _ _ hf
  case bool b=>exact .bool b
  case int k m=>exact .int k m
  case str s=>exact .str s
  case nilp=>exact .nilp
  case sl0 a cap f hf=>exact .sl0 _ _ _ hf
  case nilm=>exact .nilm
  case niln=>exact .niln
  case nili=>exact .nili
omit [Base] in
theorem jhH : ∀ {vs : List Value} {ds : List D},RepL ρ n im vs ds -> ds.all flat1 = true -> RepL ρ' m im' vs ds
  | _,_,.nil,_=>.nil
  | _,_,.cons v d vs ds h1 hv hr,h=>by
    simp only [List.all_cons,Bool.and_eq_true] at h
    exact .cons _ _ _ _ h1 (jfg h.1 hv) (jhH hr h.2)
omit [Base] in
theorem jg3 : ∀ {vs : List Value} {ds : List D},RepA ρ n im vs ds -> ds.all flat1 = true -> RepA ρ' m im' vs ds
  | _,_,.nil,_=>.nil
  | _,_,.cons v d vs ds hv hr,h=>by
    simp only [List.all_cons,Bool.and_eq_true] at h
    exact .cons _ _ _ _ (jfg h.1 hv) (jg3 hr h.2)
omit [Base] in
theorem jtX {v : Value} {d : D} (h : flat d = true) (hv : Rep ρ n im v d) : Rep ρ' m im' v d:=by
  by_cases ha : ∃ cs,d = .agg cs
  · obtain ⟨cs,rfl⟩:=ha
    simp only [flat] at h
    cases hv with
    | agg vs _ hl=>exact .agg vs cs (jhH hl h)
  · by_cases ht : ∃ cs,d = .tup cs
    · obtain ⟨cs,rfl⟩:=ht
      simp only [flat] at h
      cases hv with
      | tup vs _ hl=>exact .tup vs cs (jg3 hl h)
    · have : flat d = flat1 d:=by cases d <;> first | rfl | exact (ha ⟨_,rfl⟩).elim | exact (ht ⟨_,rfl⟩).elim
      rw [this] at h
      exact jfg h hv
theorem Mv.beside {ρ0 ρ2 : Rho} {Hc : Heap} {im1 im2 : Im} (hR : Rel ρ im1 H w) (hm : Mv ρ0 im1 [] w ρ2 im2 Hc w') : Mv ρ im1 H w ρ im2 H w':=by
  have hkeep : ∀ b,b < w.heap.size -> w'.heap[b]? = w.heap[b]?:=fun b hb=>hm.tr.keep b hb (fun r hr=>by simp at hr)
  refine ⟨⟨hm.rel.imc,fun r hr=>?_,hR.sep,fun r hr hl o=>?_,hm.rel.base,hR.on⟩,hm.le,Tr.world hkeep hm.tr.size hm.tr.os hm.tr.tape hm.tr.output,fun b o v hv=>?_⟩
  · exact (hR.obj r hr).mono (fun _ _=>rfl) (Nat.le_refl _) hm.le (fun hl=>hkeep _ (hR.block_lt hr hl))
  · cases hi : im2 (ρ r).b o with
    | none=>rfl
    | some v=>
      rcases hm.nu _ _ _ hi with h1 | h1 | ⟨s,hs,_⟩
      · rw [hR.own r hr hl o] at h1;cases h1
      · have:=hR.block_lt hr hl;omega
      · simp at hs
  · rcases hm.nu _ _ _ hv with h1 | h1 | ⟨s,hs,_⟩
    · exact .inl h1
    · exact .inr (.inl h1)
    · simp at hs
omit [Base] in
theorem jeZ : ∀ {a b : List D},bareL (a ++ b) = (bareL a && bareL b)
  | [],b=>rfl
  | x :: a,b=>by simp only [List.cons_append,bareL,jeZ,Bool.and_assoc]
omit [Base] in
theorem jmb {d : D} (h : bareD d = true) : bareL d.cells = true:=by
  cases d <;> simp_all [D.cells,bareL,bareD]
omit [Base] in
theorem jdK : ∀ {xs : List D},bareL xs = true -> bareL (flatC xs) = true
  | [],_=>rfl
  | x :: xs,h=>by
    simp only [bareL,Bool.and_eq_true] at h
    simp only [flatC,List.flatMap_cons,jeZ,jmb h.1,Bool.true_and]
    exact jdK h.2
section
variable {ρ ρ' : Rho} {n n' : Nat} {im : Im}
omit [Base] in
mutual
theorem Rep.bare : ∀ {v : Value} {d : D},Rep ρ n im v d -> bareD d = true -> Rep ρ' n' im v d
  | _,_,.bool b,_=>.bool b
  | _,_,.int k m,_=>.int k m
  | _,_,.str s,_=>.str s
  | _,_,.nilp,_=>.nilp
  | _,_,.ptr ..,h=>by simp [bareD] at h
  | _,_,.ept ..,h=>by simp [bareD] at h
  | _,_,.sl0 a cap f hf,_=>.sl0 a cap f hf
  | _,_,.sl b o sz cap f xs vs hs hc hr hf hcap,h=>.sl b o sz cap f xs vs hs hc (RepL.bare hr (jdK h)) hf hcap
  | _,_,.vec ..,h=>by simp [bareD] at h
  | _,_,.map ..,h=>by simp [bareD] at h
  | _,_,.nilm,_=>.nilm
  | _,_,.fn f vs cs hr,h=>.fn f vs cs (RepA.bare hr h)
  | _,_,.bfn f vs cs hr,h=>.bfn f vs cs (RepA.bare hr h)
  | _,_,.niln,_=>.niln
  | _,_,.iface t v d hr,h=>.iface t v d (Rep.bare hr h)
  | _,_,.nili,_=>.nili
  | _,_,.agg vs cs hr,h=>.agg vs cs (RepL.bare hr h)
  | _,_,.tup vs cs hr,h=>.tup vs cs (RepA.bare hr h)
  | _,_,.yld ..,h=>by simp [bareD] at h
theorem RepA.bare : ∀ {vs : List Value} {ds : List D},RepA ρ n im vs ds -> bareL ds = true -> RepA ρ' n' im vs ds
  | _,_,.nil,_=>.nil
  | _,_,.cons v d vs ds hv hr,h=>by
    simp only [bareL,Bool.and_eq_true] at h
    exact .cons v d vs ds (Rep.bare hv h.1) (RepA.bare hr h.2)
theorem RepL.bare : ∀ {vs : List Value} {ds : List D},RepL ρ n im vs ds -> bareL ds = true -> RepL ρ' n' im vs ds
  | _,_,.nil,_=>.nil
  | _,_,.cons v d vs ds h1 hv hr,h=>by
    simp only [bareL,Bool.and_eq_true] at h
    exact .cons v d vs ds h1 (Rep.bare hv h.1) (RepL.bare hr h.2)
end
omit [Base] in
theorem ObOk.bare {w : World} {g : Reg} {ob : Ob} (h : ObOk ρ n im w g ob) (hb : bareOb ob = true) : ObOk ρ' n' im w g ob:=by
  cases ob <;> simp only [bareOb] at hb <;> try (cases hb;done)
  · obtain ⟨c,t,fz,h1,h2,h3,h4,h5,h6⟩:=h
    exact ⟨c,t,fz,h1,h2,h3,h4,h5.bare (jdK hb),h6⟩
  · rename_i es
    cases es with
    | cons _ _=>cases hb
    | nil=>
      obtain ⟨ms,cl,h1,h2⟩:=h
      cases hms : ms.toList with
      | nil=>exact ⟨ms,cl,h1,by rw [hms];exact .nil⟩
      | cons _ _=>rw [hms] at h2;cases h2
end
def putR (ρ : Rho) (p : Nat) (g : Reg) : Rho:=fun r=>if r = p then g else ρ r
omit [Base] in
theorem jdO {ob : Ob} (h : bareOb ob = true) : live ob:=by
  cases ob <;> first | trivial | cases h
theorem Mv.lay {ρ0 ρ ρ1 : Rho} {im0 im im1 : Im} {H0 H : Heap} {w0 w w1 : World} {p : Nat} {ob : Ob} (M : Mv ρ0 im0 H0 w0 ρ im H w) (hp0 : H0.length <= p) (hp : p < H.length) (hon : (ρ p).on = false)
    (hm : Mv (fun _=>default) im [] w ρ1 im1 [ob] w1) (hb : bareOb ob = true) : Mv ρ0 im0 H0 w0 (putR ρ p (ρ1 0)) im1 (H.set p ob) w1:=by
  have hl:=jdO hb
  have B:=Mv.beside M.rel hm
  have M1:=M.trans B
  have R1:=B.rel
  have hg : hget [ob] 0 = ob:=rfl
  have hnew : w.heap.size <= (ρ1 0).b:=by
    rcases Nat.lt_or_ge (ρ1 0).b w.heap.size with h | h
    · obtain ⟨s,hs,_⟩:=hm.tr.own 0 (by simp) (by rw [hg];exact hl) h
      simp at hs
    · exact h
  have heq : putR ρ p (ρ1 0) p = ρ1 0:=by simp [putR]
  have hne : ∀ r,r ≠ p -> putR ρ p (ρ1 0) r = ρ r:=fun r h=>by simp [putR,h]
  have hag : ∀ r,OnLt ρ r H.length -> putR ρ p (ρ1 0) r = ρ r:=fun r h=>hne r fun e=>by subst e;rw [h.on] at hon;cases hon
  have hlen : (H.set p ob).length = H.length:=by simp
  have hgs : ∀ r,r ≠ p -> hget (H.set p ob) r = hget H r:=fun r h=>jaa (Ne.symm h)
  have hlt : ∀ r,r < H.length -> live (hget H r) -> (ρ r).b < (ρ1 0).b:=fun r h1 h2=>Nat.lt_of_lt_of_le (M.rel.block_lt h1 h2) hnew
  refine ⟨⟨R1.imc,fun r hr=>?_,fun r s hr hs hrs hlr hls=>?_,fun r hr hlr o=>?_,R1.base,fun r hr hd=>?_⟩,M1.le,⟨M1.tr.os,M1.tr.tape,M1.tr.output,M1.tr.size,by rw [hlen];exact M.tr.len,fun r hr=>?_,M1.tr.keep,fun r hr hlr hbl=>?_⟩,M1.nu⟩
  · rw [hlen] at hr ⊢
    by_cases e : r = p
    · subst e
      rw [heq,jad hr]
      have:=hm.rel.obj 0 (by simp)
      rw [hg] at this
      exact this.bare hb
    · rw [hne r e,hgs r e]
      exact (R1.obj r hr).mono hag (Nat.le_refl _) (ImLe.refl _) (fun _=>rfl)
  · rw [hlen] at hr hs
    by_cases e : r = p
    · subst e
      rw [heq,hne s (Ne.symm hrs)]
      rw [hgs s (Ne.symm hrs)] at hls
      have:=hlt s hs hls
      omega
    · by_cases e2 : s = p
      · subst e2
        rw [heq,hne r e]
        rw [hgs r e] at hlr
        have:=hlt r hr hlr
        omega
      · rw [hne r e,hne s e2]
        rw [hgs r e] at hlr
        rw [hgs s e2] at hls
        exact R1.sep r s hr hs hrs hlr hls
  · rw [hlen] at hr
    by_cases e : r = p
    · subst e
      rw [heq]
      exact hm.rel.own 0 (by simp) (by rw [hg];exact hl) o
    · rw [hne r e]
      rw [hgs r e] at hlr
      exact R1.own r hr hlr o
  · rw [hlen] at hr
    by_cases e : r = p
    · subst e
      rw [heq]
      exact hm.rel.on 0 (by simp) (by rw [hg];exact jcg hl)
    · rw [hne r e]
      rw [hgs r e] at hd
      exact R1.on r hr hd
  · rw [hne r (by omega)];exact M.tr.ext r hr
  · rw [hlen] at hr
    have hsz:=M.tr.size
    by_cases e : r = p
    · subst e
      rw [heq] at hbl
      omega
    · rw [hgs r e] at hlr
      rw [hne r e] at hbl ⊢
      exact M.tr.own r hr hlr hbl
omit [Base] in
theorem jhp {ρ ρ1 : Rho} {n p : Nat} {im1 : Im} {v : Value} {d0 d : D} {g : Reg} (hg : ρ1 0 = g) (hon : g.on = true) (hp : p < n) (h : moveTo p d0 = some d) (hv : Rep ρ1 1 im1 v d0) : Rep (putR ρ p g) n im1 v d:=by
  have heq : putR ρ p g p = g:=by simp [putR]
  have hol : OnLt (putR ρ p g) p n:=⟨hp,by rw [heq];exact hon⟩
  unfold moveTo at h
  split at h <;> first | (cases h;done) | (simp only [Option.some.injEq] at h;subst h)
  · rename_i i j
    cases hv with
    | ptr _ _ _ _=>
      have:=Rep.ptr (ρ:=putR ρ p g) (n:=n) (im:=im1) p i j hol
      subst hg
      rwa [heq] at this
  · rename_i o m
    cases hv with
    | vec _ _ _ _ hm=>
      have:=Rep.vec (ρ:=putR ρ p g) (n:=n) (im:=im1) p o m hol (by rw [heq,<- hg];exact hm)
      subst hg
      rwa [heq] at this
  · cases hv with
    | map _ _=>
      have:=Rep.map (ρ:=putR ρ p g) (n:=n) (im:=im1) p hol
      subst hg
      rwa [heq] at this
def offR (ρ : Rho) (n : Nat) : Rho:=fun r=>if r < n then ρ r else ⟨0,0,0,false⟩
theorem Mv.reserve {ρ : Rho} {im : Im} {H : Heap} {w : World} (hR : Rel ρ im H w) (g : Nat) : Mv ρ im H w (offR ρ H.length) im (H ++ List.replicate g .dead) w:=by
  have hag : ∀ r,r < H.length -> offR ρ H.length r = ρ r:=fun r h=>by simp [offR,h]
  have hlt : ∀ r,r < H.length -> hget (H ++ List.replicate g .dead) r = hget H r:=fun r h=>by simp [hget,List.getD,List.getElem?_append_left h]
  have hge : ∀ r,H.length <= r -> hget (H ++ List.replicate g .dead) r = .dead:=fun r h=>by
    simp only [hget,List.getD];rw [List.getElem?_append_right h];simp only [List.getElem?_replicate];split <;> rfl
  have hlv : ∀ r,live (hget (H ++ List.replicate g .dead) r) -> r < H.length /\ live (hget H r):=fun r hl=>by
    rcases Nat.lt_or_ge r H.length with h | h
    · rw [hlt r h] at hl;exact ⟨h,hl⟩
    · rw [hge r h] at hl;exact hl.elim
  refine ⟨⟨hR.imc,fun r hr=>?_,fun r s _ _ hrs hlr hls=>?_,fun r _ hlr o=>?_,hR.base,fun r _ hd=>?_⟩,ImLe.refl _,⟨rfl,rfl,rfl,Nat.le_refl _,by simp,hag,fun _ _ _=>rfl,fun r _ hl hb=>?_⟩,fun _ _ _ h=>.inl h⟩
  · rcases Nat.lt_or_ge r H.length with h | h
    · rw [hlt r h,hag r h]
      exact (hR.obj r h).mono (fun r hr=>hag r hr.lt) (by simp) (ImLe.refl _) (fun _=>rfl)
    · rw [hge r h];trivial
  · obtain ⟨h1,h2⟩:=hlv r hlr
    obtain ⟨h3,h4⟩:=hlv s hls
    rw [hag r h1,hag s h3]
    exact hR.sep r s h1 h3 hrs h2 h4
  · obtain ⟨h1,h2⟩:=hlv r hlr
    rw [hag r h1]
    exact hR.own r h1 h2 o
  · rcases Nat.lt_or_ge r H.length with h | h
    · rw [hlt r h] at hd
      rw [hag r h];exact hR.on r h hd
    · rw [hge r h] at hd;exact absurd rfl hd
  · obtain ⟨h1,h2⟩:=hlv r hl
    exact ⟨r,h1,h2,by rw [hag r h1]⟩
theorem Mv.fresh {ρ2 : Rho} {im2 : Im} {d d' : D} {ob : Ob} {v : Value} (hR : Rel ρ im H w) (hm : Mv (fun _ => default) im [] w ρ2 im2 [ob] w') (hv : Rep ρ2 1 im2 v d) (hb : bareOb ob = true) (h : moveTo H.length d = some d') :
    ∃ ρ',Mv ρ im H w ρ' im2 (H ++ [ob]) w' /\ Rep ρ' (H ++ [ob]).length im2 v d':=by
  have m0:=Mv.reserve hR 1
  have hoff : (offR ρ H.length H.length).on = false:=by simp [offR]
  have hl : H.length < (H ++ List.replicate 1 Ob.dead).length:=by simp
  have m1:=m0.lay (Nat.le_refl _) hl hoff hm hb
  have e : (H ++ List.replicate 1 Ob.dead).set H.length ob = H ++ [ob]:=by simp
  rw [e] at m1
  have hon:=hm.rel.on 0 (by simp) (jcg (jdO hb))
  exact ⟨_,m1,jhp rfl hon (by simp) h hv⟩
theorem OutR.of_pure {call : CallF} (hcall : CallOk P call) {f : FuncId} (hb : bodied P f = true) {as : List D} {Hc : Heap} {d d' : D} {vs : List Value} {H' : Heap} (hR : Rel ρ im H w) {im1 : Im} (m1 : Mv ρ im H w ρ im1 H' w) (has : RepA ρ H'.length im1 vs as) (hst : stripL as = some as)
    (hc : call f as [] = some (.ok d Hc)) (ho : outPure Hc d = some d') : Calls P f ⟨vs⟩ w (OutR ρ im H w (.ok d' (if flat d' then H else H'))):=by
  have h0:=(hcall f as [] _ hc (fun _=>default) im1 w vs (m1.rel.empty _) (has.plain hst)).calls hb
  refine h0.mono fun e w2 hout=>?_
  cases hout with
  | ok ρ2 im2 _ _ v _ hm hv=>
    unfold outPure at ho
    cases hp : pur deepest Hc d with
    | none=>simp [hp] at ho
    | some q=>
      obtain ⟨d1,H3⟩:=q
      simp [hp] at ho;subst ho
      obtain ⟨im3,m3,hv3,_⟩:=jgU deepest Hc d d1 H3 ρ2 im2 w2 v hm.rel hv hp
      by_cases hf : flat d1 = true
      · rw [if_pos hf]
        have hkeep : ∀ b,b < w.heap.size -> w2.heap[b]? = w.heap[b]?:=fun b hb=>hm.tr.keep b hb (fun r hr=>by simp at hr)
        exact .ok ρ im H w2 v d1 ⟨hR.world hkeep,ImLe.refl _,Tr.world hkeep hm.tr.size hm.tr.os hm.tr.tape hm.tr.output,fun _ _ _ h=>.inl h⟩ (jtX hf hv3)
      · rw [if_neg hf]
        have m4:=Mv.beside m1.rel (hm.trans m3)
        refine .ok ρ im3 H' w2 v d1 (m1.trans m4) (hv3.plain (jdB _ _ _ _ _ hp))
theorem jmT {r i j : Nat} {xs : List D} {x c : D} (hR : Rel ρ im H w) (hr : r < H.length) (hx : hget H r = .arr xs) (hi : xs[i]? = some x) (hj : x.cells[j]? = some c) :
    ∃ v,w.cell? ⟨(ρ r).b,i * (ρ r).sz + j,none⟩ = some v /\ Rep ρ H.length im v c:=by
  have hob:=hR.obj r hr
  rw [hx] at hob
  obtain ⟨cs,ty,fz,h1,h2,h3,h4,h5,h6⟩:=hob
  have hxl:=h3 x (List.mem_of_getElem? hi)
  have hil:=(List.getElem?_eq_some_iff.1 hi).1
  have hjl:=(List.getElem?_eq_some_iff.1 hj).1
  have hm : (i + 1) * (ρ r).sz <= xs.length * (ρ r).sz:=Nat.mul_le_mul_right _ hil
  rw [Nat.add_mul,Nat.one_mul] at hm
  have hsub : RepL ρ H.length im (((cs.toList.take (xs.length * (ρ r).sz)).drop (i * (ρ r).sz)).take (ρ r).sz) x.cells:=by
    have:=(h5.drop (i * (ρ r).sz)).take (ρ r).sz
    rwa [jcQ h3 hi] at this
  obtain ⟨v,g1,_,g3⟩:=hsub.get hj
  rw [List.getElem?_take_of_lt (by omega),List.getElem?_drop,List.getElem?_take_of_lt (by omega)] at g1
  exact ⟨v,by simp only [World.cell?,h1];simpa using g1,g3⟩
theorem jdI {r i j : Nat} {k : IntKind} {m : Int} (hR : Rel ρ im H w) (hr : r < H.length) (h : cellD H r i j = some (k,m)) : w.cell? ⟨(ρ r).b,i * (ρ r).sz + j,none⟩ = some (.int k m):=by
  unfold cellD at h
  split at h
  · rename_i xs hx
    cases hi : xs[i]? with
    | none=>simp [hi] at h
    | some x=>
      cases hj : x.cells[j]? with
      | none=>simp [hi,hj] at h
      | some c=>
        simp only [hi,hj,Option.bind_some] at h
        obtain ⟨v,g1,g2⟩:=jmT hR hr hx hi hj
        split at h
        · cases h
          rw [g1,g2.int_inv]
        · cases h
  · cases h
theorem jdJ {r i j : Nat} {k : IntKind} {m : Int} {H' : Heap} (hR : Rel ρ im H w) (hr : r < H.length) (h : cellSet H r i j (.int k m) = some H') :
    (∃ u,w.cell? ⟨(ρ r).b,i * (ρ r).sz + j,none⟩ = some u) /\ w.frozen? ⟨(ρ r).b,i * (ρ r).sz + j,none⟩ = false /\ Mv ρ im H w ρ im H' (w.setCell ⟨(ρ r).b,i * (ρ r).sz + j,none⟩ (.int k m)):=by
  unfold cellSet at h
  split at h
  · rename_i xs hx
    cases hi : xs[i]? with
    | none=>simp [hi] at h
    | some x=>
      cases hy : setE x j (.int k m) with
      | none=>simp [hi,hy] at h
      | some y=>
        simp [hi,hy] at h;subst h
        obtain ⟨g1,g2,g3,g4,g5⟩:=ji3 hR hr hx hi hy (.int k m)
        have e1 : (Value.int k m).cells.toList = [.int k m]:=rfl
        rw [e1] at g2 g3 g4 g5
        have h2:=g2 0 (by simp)
        have h3:=g3 0 (by simp)
        simp only [Nat.add_zero] at h2 h3
        exact ⟨Option.isSome_iff_exists.1 h2,h3,⟨g4,ImLe.refl _,g5,fun _ _ _ h=>.inl h⟩⟩
  · cases h
theorem jvJ {f : FuncId} {k : ExtK} {fn : Func} (hf : ExtFn P f k fn) {args : List D} {d : D} {H' : Heap} {vs : List Value} (hR : Rel ρ im H w) (hargs : RepA ρ H.length im vs args) (h : extD k args H = some (d,H')) :
    ∃ v w1,(callFunc f ⟨vs⟩).run P w = .ok (.value v) w1 /\ Mv ρ im H w ρ im H' w1 /\ Rep ρ H'.length im v d:=by
  obtain ⟨h1,h2,h3,h4,h5⟩:=hf
  unfold extD at h
  split at h
  · rename_i k r i j
    cases hc : cellD H r i j with
    | none=>simp [hc] at h
    | some c=>
      obtain ⟨k',m⟩:=c
      simp only [hc,Option.bind_some] at h
      split at h
      · rename_i e
        subst e
        cases h
        cases hargs with
        | cons _ _ _ _ hp hr0=>
          cases hr0
          cases hp with
          | ptr _ _ _ hr=>exact ⟨_,w,run_call_load h1 h2 h3 h4 k' h5 (jdI hR hr.lt hc),Mv.refl hR,.int _ _⟩
      · cases h
  · rename_i r i j k y
    cases hs : cellSet H r i j (.int k y) with
    | none=>simp [hs] at h
    | some H1=>
      simp [hs] at h
      obtain ⟨rfl,rfl⟩:=h
      cases hargs with
      | cons _ _ _ _ hp hr0=>
        cases hr0 with
        | cons _ _ _ _ hy hr1=>
          cases hr1
          cases hy
          cases hp with
          | ptr _ _ _ hr=>
            obtain ⟨⟨u,g1⟩,g2,g3⟩:=jdJ hR hr.lt hs
            exact ⟨_,_,run_call_store h1 h2 h3 h4 h5 g1 g2,g3,.tup [] [] .nil⟩
  · rename_i k r i j k' y
    cases hc : cellD H r i j with
    | none=>simp [hc] at h
    | some c=>
      obtain ⟨k0,m⟩:=c
      simp only [hc,Option.bind_some] at h
      split at h
      · rename_i e
        obtain ⟨e1,e2⟩:=e
        subst e1 e2
        cases hs : cellSet H r i j (.int k' (k'.wrap (m + y))) with
        | none=>simp [hs] at h
        | some H1=>
          simp [hs] at h
          obtain ⟨rfl,rfl⟩:=h
          cases hargs with
          | cons _ _ _ _ hp hr0=>
            cases hr0 with
            | cons _ _ _ _ hy hr1=>
              cases hr1
              cases hy
              cases hp with
              | ptr _ _ _ hr=>
                obtain ⟨_,g2,g3⟩:=jdJ hR hr.lt hs
                exact ⟨_,_,run_call_add h1 h2 h3 h4 k' h5 (jdI hR hr.lt hc) g2 (by simp [Op.intArith]),g3,.int _ _⟩
      · cases h
  · rename_i k r i j k1 x k2 y
    cases hc : cellD H r i j with
    | none=>simp [hc] at h
    | some c=>
      obtain ⟨k0,m⟩:=c
      simp only [hc,Option.bind_some] at h
      split at h
      · rename_i e
        obtain ⟨e1,e2,e3⟩:=e
        subst e1 e2
        subst e3
        cases hargs with
        | cons _ _ _ _ hp hr0=>
          cases hr0 with
          | cons _ _ _ _ hx hr1=>
            cases hr1 with
            | cons _ _ _ _ hy hr2=>
              cases hr2
              cases hx
              cases hy
              cases hp with
              | ptr _ _ _ hr=>
                split at h
                · rename_i em;subst em
                  cases hs : cellSet H r i j (.int k2 y) with
                  | none=>simp [hs] at h
                  | some H1=>
                    simp [hs] at h
                    obtain ⟨rfl,rfl⟩:=h
                    obtain ⟨_,g2,g3⟩:=jdJ hR hr.lt hs
                    exact ⟨_,_,run_call_cas_hit h1 h2 h3 h4 k2 h5 (jdI hR hr.lt hc) g2,g3,.bool _⟩
                · rename_i em
                  cases h
                  have hc':=jdI hR hr.lt hc
                  refine ⟨_,w,run_call_cas_miss h1 h2 h3 h4 k2 h5 hc' ?_ em,Mv.refl hR,.bool _⟩
                  have hob:=hR.obj r hr.lt
                  unfold cellD at hc
                  split at hc
                  · rename_i xs hxs
                    rw [hxs] at hob
                    obtain ⟨cs,ty,fz,q1,q2,q3,q4,q5,q6⟩:=hob
                    have hlt : i * (ρ r).sz + j < cs.size:=by
                      simp only [World.cell?,q1] at hc'
                      exact (Array.getElem?_eq_some_iff.1 (by simpa using hc')).1
                    simp only [World.frozen?,q1]
                    simp only [Bool.and_eq_false_iff,decide_eq_false_iff_not]
                    omega
                  · cases hc
      · cases h
  · cases h
    cases hargs
    obtain ⟨m,hm⟩:=h5
    exact ⟨_,w,run_call_mark0 h1 h2 h3 h4 m hm w,Mv.refl hR,.tup [] [] .nil⟩
  · cases h
    cases hargs with
    | cons _ _ _ _ hp hr0=>
      cases hr0
      cases hp with
      | ptr _ _ _ hr=>
        obtain ⟨m,hm⟩:=h5
        exact ⟨_,w,run_call_marked h1 h2 h3 h4 m hm _ w,Mv.refl hR,.tup [] [] .nil⟩
  · cases h
theorem jei {A : Ann} {call : CallF} (hA : PrimOk P A) (hcall : CallOk P call) {f : FuncId} {args : List D} {r : R} {vs : List Value} (hR : Rel ρ im H w) (hargs : RepA ρ H.length im vs args) (h : callD P A call f args H = some r) :
    (bodied P f = true /\ Calls P f ⟨vs⟩ w (OutR ρ im H w r)) ∨ ∃ d H' v w1,r = .ok d H' /\ (callFunc f ⟨vs⟩).run P w = .ok (.value v) w1 /\ Mv ρ im H w ρ im H' w1 /\ Rep ρ H'.length im v d:=by
  unfold callD at h
  split at h
  · right
    split at h
    · cases h
    cases hx : A.bl f with
    | none=>simp [hx] at h
    | some k=>
      simp only [hx,Option.bind_some] at h
      cases he : extD k args H with
      | none=>simp [he] at h
      | some q=>
        obtain ⟨d,H'⟩:=q
        simp [he] at h;subst h
        obtain ⟨fn,hfn⟩:=hA.ext f k hx
        obtain ⟨v,w1,g1,g2,g3⟩:=jvJ hfn hR hargs he
        exact ⟨d,H',v,w1,rfl,g1,g2,g3⟩
  · rename_i hb
    have hb : bodied P f = true:=by simpa using hb
    refine .inl ⟨hb,?_⟩
    cases hrd : A.rd f with
    | some g=>
      simp only [hrd,rdD] at h
      cases hg : g args ((args.flatMap objsD).map (hget H)) with
      | none=>simp [hg] at h
      | some d=>
        simp [hg] at h;subst h
        exact hA.rd f g hrd args H d hg ρ im w vs hR hargs
    | none=>
    simp only [hrd] at h
    cases hp : A.prim f with
    | some p=>simp only [hp] at h;exact hA.ok f p hp args H r h ρ im w vs hR hargs
    | none=>
      simp only [hp] at h
      cases hm : A.mode f with
      | state=>simp only [hm] at h;exact (hcall f args H r h ρ im w vs hR hargs).calls hb
      | fresh=>
        simp only [hm] at h
        cases hpu : pures H args with
        | none=>simp [hpu] at h
        | some q=>
          obtain ⟨as,H'⟩:=q
          cases hc : call f as [] with
          | none=>simp [hpu,hc] at h
          | some r'=>
            cases r' with
            | pan _ _=>simp [hpu,hc] at h
            | ok d Hc=>
              simp only [hpu,hc,Option.bind_some,if_true] at h
              obtain ⟨im1,m1,has,_⟩:=jgF hR hargs hpu
              have hst:=jfX hpu
              have h0:=(hcall f as [] _ hc (fun _=>default) im1 w vs (m1.rel.empty _) (has.plain hst)).calls hb
              refine h0.mono fun e w2 hout=>?_
              cases hout with
              | ok ρ2 im2 _ _ v _ hm hv=>
                unfold freshR at h
                split at h
                · split at h
                  · rename_i hbd
                    cases h
                    have m2:=Mv.beside m1.rel hm
                    exact .ok ρ im2 H' w2 v d (m1.trans m2) (hv.bare hbd)
                  · cases h
                · split at h
                  · rename_i hbo
                    cases h1 : moveTo H'.length d with
                    | none=>simp [h1] at h
                    | some d'=>
                    simp [h1] at h;subst h
                    obtain ⟨ρ',k1,k2⟩:=Mv.fresh m1.rel hm hv hbo h1
                    exact .ok ρ' im2 _ w2 v d' (m1.trans k1) k2
                  · cases h
                · cases h
      | pure=>
        simp only [hm] at h
        cases hpu : pures H args with
        | none=>simp [hpu] at h
        | some q=>
          obtain ⟨as,H'⟩:=q
          cases hc : call f as [] with
          | none=>simp [hpu,hc] at h
          | some r'=>
            cases r' with
            | pan _ _=>simp [hpu,hc] at h
            | ok d Hc=>
              simp only [hpu,hc,Option.bind_some] at h
              rw [if_neg (by decide)] at h
              cases ho : outPure Hc d with
              | none=>simp [ho] at h
              | some d'=>
                simp [ho] at h;subst h
                obtain ⟨im1,m1,rep,_⟩:=jgF hR hargs hpu
                exact OutR.of_pure hcall hb hR m1 rep (jfX hpu) hc ho
omit [Base] in
theorem RepA.singles {vs : List Value} {d : D} (h : RepA ρ n im vs [d]) : ∃ v,vs = [v] /\ Rep ρ n im v d:=by
  cases h with
  | cons v _ vs _ hv hr=>cases hr;exact ⟨v,rfl,hv⟩
omit [Base] in
theorem RepA.two {vs : List Value} {d e : D} (h : RepA ρ n im vs [d,e]) : ∃ v u,vs = [v,u] /\ Rep ρ n im v d /\ Rep ρ n im u e:=by
  cases h with
  | cons v _ vs _ hv hr=>obtain ⟨u,rfl,hu⟩:=RepA.singles hr;exact ⟨v,u,rfl,hv,hu⟩
theorem jm6 {b : Builtin} {ts : List TypeId} {ty : TypeId} {consts : Array Bool} {args : List D} {vs : List Value} {d : D} {H' : Heap} (hR : Rel ρ im H w) (hargs : RepA ρ H.length im vs args) (h : builtinD P b ts args H = some (d,H')) :
    ∃ v ρ' im' w',(builtin b ⟨ts⟩ ty consts ⟨vs⟩).run P w = .ok (.value v) w' /\ Mv ρ im H w ρ' im' H' w' /\ Rep ρ' H'.length im' v d:=by
  unfold builtinD at h
  split at h
  · rename_i t x
    cases hl : lenD P t H x with
    | none=>simp [hl] at h
    | some m=>
      simp [hl] at h;obtain ⟨rfl,rfl⟩:=h
      obtain ⟨v,rfl,hv⟩:=hargs.singles
      refine ⟨_,ρ,im,w,?_,Mv.refl hR,.int _ _⟩
      have:=jvY (P:=P) (ty:=ty) hR hv hl
      simp [builtin,this]
  · rename_i t u s x
    obtain ⟨v1,v2,rfl,h1,h2⟩:=hargs.two
    have hu : ((∃ e',P.underlying u = some (.slice e')) ∨ P.underlying u = some .string) /\ appendD P t H s x = some (d,H'):=by
      split at h
      · rename_i e' hu;exact ⟨.inl ⟨e',hu⟩,h⟩
      · rename_i hu;exact ⟨.inr hu,h⟩
      · cases h
    obtain ⟨v,ρ',im',w',g1,g2,g3⟩:=jor (ty:=ty) hR hu.1 h1 h2 hu.2
    exact ⟨v,ρ',im',w',by simp [builtin,g1],g2,g3⟩
  · rename_i l
    cases hl : fold1 minD args with
    | none=>simp [hl] at h
    | some d'=>
      simp [hl] at h;obtain ⟨rfl,rfl⟩:=h
      obtain ⟨v,g1,g2⟩:=juT (P:=P) (w:=w) (ts:=⟨ts⟩) (ty:=ty) hargs hl
      exact ⟨v,ρ,im,w,by simp [builtin,g1],Mv.refl hR,g2⟩
  · rename_i l
    cases hl : fold1 maxD args with
    | none=>simp [hl] at h
    | some d'=>
      simp [hl] at h;obtain ⟨rfl,rfl⟩:=h
      obtain ⟨v,g1,g2⟩:=jvi (P:=P) (w:=w) (ts:=⟨ts⟩) (ty:=ty) hargs hl
      exact ⟨v,ρ,im,w,by simp [builtin,g1],Mv.refl hR,g2⟩
  · cases h
omit [Base] in
theorem jbo {f : FuncId} {args : Array Value} (h : bodied P f = true) : (callFunc f args).run P w = .ok (.enter f args) w:=by
  unfold bodied at h
  cases hf : P.funcs[f]? with
  | none=>simp [hf] at h
  | some fn=>
    simp only [hf,Bool.and_eq_true,Bool.not_eq_true'] at h
    have hn : fn.body.isNone = false:=by cases hb : fn.body <;> simp [hb] at h ⊢
    unfold callFunc
    simp only [Sem.run_bind,run_program,Result.andThen_ok,hf,Sem.run_ite,h.2,hn,Bool.false_eq_true,if_false,Sem.run_pure]
end
end Vm
end
section
namespace Vm
open Go Go.RowKit
variable [Base]
omit [Base] in
theorem bind_some {α β : Type} {x : Option α} {f : α -> Option β} {b : β} (h : x.bind f = some b) : ∃ a,x = some a /\ f a = some b:=by
  cases x with
  | none=>cases h
  | some a=>exact ⟨a,rfl,h⟩
omit [Base] in
theorem map_some {α β : Type} {x : Option α} {f : α -> β} {b : β} (h : x.map f = some b) : ∃ a,x = some a /\ f a = b:=by
  cases x with
  | none=>cases h
  | some a=>exact ⟨a,rfl,by simpa using h⟩
omit [Base] in
theorem jaO {H : Heap} {x : Option D} {r : R} (h : okD H x = some r) : ∃ d,x = some d /\ r = .ok d H:=by
  obtain ⟨d,h1,h2⟩:=map_some h;exact ⟨d,h1,h2.symm⟩
omit [Base] in
theorem jaN {x : Option (D × Heap)} {r : R} (h : okH x = some r) : ∃ d H,x = some (d,H) /\ r = .ok d H:=by
  obtain ⟨⟨d,H⟩,h1,h2⟩:=map_some h;exact ⟨d,H,h1,h2.symm⟩
omit [Base] in
theorem jdj {x : Option Heap} {r : R} (h : okU x = some r) : ∃ H,x = some H /\ r = .ok ud H:=by
  obtain ⟨H,h1,h2⟩:=map_some h;exact ⟨H,h1,h2.symm⟩
section
variable {P : Program} {ρ : Rho} {im : Im} {H : Heap} {w w' : World} {n N : Nat} {a : Act} {e : Env} {A : Ann} {call : CallF} {r : R}
omit [Base] in
theorem jdQ : ∀ {xs : List D} {s : List UInt8},bytesBack xs = some s -> ∃ ns : List Int,xs = ns.map (D.int .u8) /\ s = ns.map fun n=>UInt8.ofNat n.toNat
  | [],s,h=>by simp [bytesBack] at h;subst h;exact ⟨[],rfl,rfl⟩
  | .int .u8 n :: r,s,h=>by
    simp only [bytesBack] at h
    obtain ⟨s',h1,rfl⟩:=map_some h
    obtain ⟨ns,rfl,rfl⟩:=jdQ h1
    exact ⟨n :: ns,rfl,rfl⟩
  | .int .i8 _ :: _,s,h | .int .i16 _ :: _,s,h | .int .i32 _ :: _,s,h | .int .i64 _ :: _,s,h=>by simp [bytesBack] at h
  | .int .u16 _ :: _,s,h | .int .u32 _ :: _,s,h | .int .u64 _ :: _,s,h=>by simp [bytesBack] at h
  | .bool _ :: _,s,h | .str _ :: _,s,h | .nilp :: _,s,h | .ptr .. :: _,s,h | .ept .. :: _,s,h | .sl .. :: _,s,h | .vec .. :: _,s,h | .map _ :: _,s,h=>by simp [bytesBack] at h
  | .nilm :: _,s,h | .fn .. :: _,s,h | .bfn .. :: _,s,h | .niln :: _,s,h | .iface .. :: _,s,h | .nili :: _,s,h | .agg _ :: _,s,h | .tup _ :: _,s,h | .yld _ :: _,s,h=>by simp [bytesBack] at h
omit [Base] in
theorem jfK : ∀ {ns : List Int} {vs : List Value},RepL ρ n im vs (flatC (ns.map (D.int .u8))) -> vs = ns.map (Value.int .u8)
  | [],vs,h=>by cases h;rfl
  | m :: ns,vs,h=>by
    simp only [List.map_cons,flatC,List.flatMap_cons,D.cells,List.cons_append,List.nil_append] at h
    cases h with
    | cons v _ vs _ _ hv hr=>
      cases hv
      rw [jfK hr];rfl
omit [Base] in
theorem juA (ns : List Int) : ∀ (r : ByteArray),(ns.foldl (fun r n=>r.push (UInt8.ofNat n.toNat)) r).data.toList = r.data.toList ++ ns.map fun n=>UInt8.ofNat n.toNat:=by
  induction ns with
  | nil=>intro r;simp
  | cons m ns ih=>intro r;simp only [List.foldl_cons,ih,List.map_cons];simp [ByteArray.push]
theorem jq2 {s t : TypeId} {x d : D} {vx : Value} {H' : Heap} (hR : Rel ρ im H w) (hx : Rep ρ H.length im vx x) (h : convD P s t x H = some (d,H')) : H' = H /\ ∃ v,(convert s t vx).run P w = .ok v w /\ Rep ρ H.length im v d:=by
  unfold convD at h
  split at h
  · rename_i k1 k k2 m h1 h2
    simp at h;obtain ⟨rfl,rfl⟩:=h
    cases hx
    exact ⟨rfl,_,by simp [convert,run_underlying h1,run_underlying h2,Conv.intToInt],.int _ _⟩
  · rename_i s' h1 h2
    simp at h;obtain ⟨rfl,rfl⟩:=h
    refine ⟨rfl,_,?_,hx⟩
    cases hx
    simp [convert,run_underlying h1,run_underlying h2]
  · rename_i e x' h1 h2
    split at h
    · rename_i h3
      obtain ⟨xs,h4,h5⟩:=bind_some h
      obtain ⟨s,h6,h7⟩:=map_some h5
      cases h7
      obtain ⟨a0,cap,sz,vs,rfl,g1,_,_,g4⟩:=jc9 hR hx h4
      obtain ⟨ns,rfl,rfl⟩:=jdQ h6
      have hvs:=jfK g1
      refine ⟨rfl,?_⟩
      have hconv : ∀ v : Value,(convert s t (.slice a0 (ns.map (D.int .u8)).length cap)).run P w = (Conv.bytesToString (.slice a0 (ns.map (D.int .u8)).length cap)).run P w:=by
        intro _
        simp [convert,run_underlying h1,run_underlying h2,run_underlying h3]
      rw [hconv undef]
      have main : ∃ ba : ByteArray,(Conv.bytesToString (.slice a0 (ns.map (D.int .u8)).length cap)).run P w = .ok (.string ba) w /\ ba.data.toList = ns.map fun n=>UInt8.ofNat n.toNat:=by
        cases a0 with
        | none=>
          have : ns = []:=by
            cases ns with
            | nil=>rfl
            | cons m ns=>obtain ⟨b,o,e,_⟩:=g4 (by simp);cases e
          subst this
          exact ⟨ByteArray.empty,by simp [Conv.bytesToString],rfl⟩
        | some ad=>
          refine ⟨_,run_bytesToString w ad _ cap ns ?_,by simpa using juA ns ByteArray.empty⟩
          have:=run_loadCells_list (P:=P) (w:=w) ad vs (fun j v hj=>by
            have hj' : j < vs.length:=by
              rcases Nat.lt_or_ge j vs.length with h | h
              · exact h
              · rw [List.getElem?_eq_none h] at hj;cases hj
            obtain ⟨b,o,e,g⟩:=g4 (by rintro e;rw [hvs] at hj';simp at e;subst e;simp at hj')
            cases e
            rw [jaU,g j hj',hj])
          rw [hvs] at this
          simpa using this
      obtain ⟨ba,m1,m2⟩:=main
      exact ⟨_,m1,by rw [<- m2];exact .str ba⟩
    · cases h
  · rename_i tt r i j h1 h2
    split at h
    · rename_i xs hg
      obtain ⟨x,h3,h4⟩:=bind_some h
      obtain ⟨c,h5,h6⟩:=bind_some h4
      obtain ⟨z,h7,h8⟩:=map_some h6
      cases h8
      cases hx with
      | ptr _ _ _ hr=>
        obtain ⟨v,g1,_⟩:=jmT hR hr.lt hg h3 h5
        obtain ⟨inf,i1,i2,i3⟩:=ja8 h7
        exact ⟨rfl,_,run_convert_to_unsafe h1 h2 (by simp [i1,i2,i3]) g1,.ptr _ _ _ hr⟩
    · cases h
  · cases h
def assertC (P : Program) (x : D) (u : TypeId) (ok : Bool) : Option D:=
  match x with
  | .iface t v=>if t = u then some (if ok then .tup [v,.bool true] else v) else if ok then (zeroT P u).map fun z=>.tup [z,.bool false] else none
  | .nili=>if ok then (zeroT P u).map fun z=>.tup [z,.bool false] else none
  | _=>none
omit [Base] in
theorem jmt {x d : D} {vx : Value} {u xt : TypeId} {ok : Bool} (hx : Rep ρ n im vx x) (h : assertD P x u ok = some d) : ∃ v,(Instr.typeAssert vx xt u ok).run P w = .ok v w /\ Rep ρ n im v d:=by
  unfold assertD at h
  cases hu : P.underlying u with
  | none=>simp [hu] at h
  | some td=>
    have zero : ∀ {d : D},(zeroT P u).map (fun z=>D.tup [z,.bool false]) = some d -> ∃ z,(zeroValue u).run P w = .ok z w /\ Rep ρ n im (.tuple #[z,.bool false]) d:=fun h=>by
      obtain ⟨z,h1,rfl⟩:=map_some h
      obtain ⟨zv,g1,g2,_⟩:=jcd h1 w
      exact ⟨zv,g1,.tup [zv,.bool false] [z,.bool false] (.cons _ _ _ _ (jbD g2) (.cons _ _ _ _ (.bool false) .nil))⟩
    have main : assertC P x u ok = some d /\ (∀ ms,td ≠ .interface ms):=by
      clear hx zero
      cases td <;> simp only [hu] at h <;> first | (cases h;done) | exact ⟨h,fun ms e=>by cases e⟩
    obtain ⟨k,hni⟩:=main
    clear h
    unfold Instr.typeAssert
    cases hx with
    | iface t v d' hv=>
      simp only [assertC] at k
      by_cases ht : t = u
      · rw [if_pos ht] at k
        subst ht
        simp at k
        refine ⟨if ok then .tuple #[v,.bool true] else v,?_,?_⟩
        · simp only [Sem.run_bind,run_underlying hu,Result.andThen_ok]
          cases td <;> first | (exact (hni _ rfl).elim) | simp
        · cases ok
          · simp at k;subst k;simpa using hv
          · simp at k;subst k
            exact .tup [v,.bool true] [d',.bool true] (.cons _ _ _ _ hv (.cons _ _ _ _ (.bool true) .nil))
      · rw [if_neg ht] at k
        cases ok with
        | false=>simp at k
        | true=>
          simp only [if_true] at k
          obtain ⟨z,g1,g2⟩:=zero k
          refine ⟨_,?_,g2⟩
          simp only [Sem.run_bind,run_underlying hu,Result.andThen_ok]
          cases td <;> first | (exact (hni _ rfl).elim) | simp [ht,g1]
    | nili=>
      simp only [assertC] at k
      cases ok with
      | false=>simp at k
      | true=>
        simp only [if_true] at k
        obtain ⟨z,g1,g2⟩:=zero k
        refine ⟨_,?_,g2⟩
        simp only [Sem.run_bind,run_underlying hu,Result.andThen_ok]
        cases td <;> first | (exact (hni _ rfl).elim) | simp [g1]
    | _=>simp [assertC] at k
omit [Base] in
theorem jem {ro : Option Nat} {n : Nat} {f : FuncId} {args : Array Value} {w : World} {R : Ending -> World -> Prop} (h : Calls P f args w R) : CallsIn (FW ro) n P f args w R:=
  have h' : CallsIn Fence.wide n P f args w R:=callsIn_wide.2 h
  h'
omit [Base] in
theorem jjm {ρe : Operand -> Value} {c : Call} {ty : TypeId} {f : Operand} (hc : c.callee = .value f) {l : Nat} (hf : ρe f = .func (.yield l) #[] #[]) :
    (resolve ρe c ty).run P w = .ok { target:=.fn (.yield l) #[],args:=c.args.map ρe } w:=by
  unfold resolve
  rw [hc]
  simp [hf,Deferred.ofValue]
theorem jeI (hA : PrimOk P A) (hcall : CallOk P call) {o : Oper} (hR : Rel ρ im H w) (he : EnvR ρ H.length im N a e) (h : stepOp P A call o.op e H = some r) : OpOk P ρ im H w a o r:=by
  obtain ⟨dst,op,ty,pos,after,guard⟩:=o
  have same : ∀ {v : Value} {d : D},(execOp a.eval ⟨dst,op,ty,pos,after,guard⟩).run P w = .ok (.value v) w -> Rep ρ H.length im v d -> OpOk P ρ im H w a ⟨dst,op,ty,pos,after,guard⟩ (.ok d H):=fun h1 h2=>jo9 hR h1 h2
  cases op <;> simp only [stepOp] at h <;> try (cases h;done)
  case move x=>obtain ⟨d,h1,rfl⟩:=jaO h;exact same (by simp [execOp]) (jai he h1)
  case assign x=>obtain ⟨d,h1,rfl⟩:=jaO h;exact same (by simp [execOp]) (jai he h1)
  case pick c x y=>
    obtain ⟨dc,h1,h2⟩:=bind_some h
    have hc:=jai he h1
    cases dc <;> simp only at h2 <;> try (cases h2;done)
    rename_i b
    obtain ⟨d,h3,rfl⟩:=jaO h2
    have hc':=hc.bool_inv
    cases b
    · exact same (v:=a.eval y) (by simp [execOp,hc',asBool]) (jai he (by simpa using h3))
    · exact same (v:=a.eval x) (by simp [execOp,hc',asBool]) (jai he (by simpa using h3))
  case alloc t=>
    obtain ⟨z,h1,h2⟩:=map_some h
    subst h2
    obtain ⟨zv,hzr,hzo,hnt⟩:=jcd h1 w
    obtain ⟨ρ',w1,g1,g2,g3⟩:=jfy (P:=P) hR (jbD hzo) hnt t
    exact ja0 (v:=.pointer (some ⟨w.heap.size,0,none⟩)) (by simp [execOp,Instr.alloc,hzr,g1]) g2 g3
  case box t x=>
    obtain ⟨d,h1,h2⟩:=bind_some h
    split at h2
    · rename_i hn
      simp at h2;subst h2
      obtain ⟨ρ',w1,g1,g2,g3⟩:=jfy (P:=P) hR (jai he h1) (fun l e=>by subst e;simp [noTup] at hn) t
      exact ja0 (v:=.pointer (some ⟨w.heap.size,0,none⟩)) (by simp [execOp,Instr.box,g1]) g2 g3
    · cases h2
  case build t ps=>
    obtain ⟨l,h1,h2⟩:=bind_some h
    obtain ⟨d,h3,rfl⟩:=jaO h2
    obtain ⟨v,g1,g2⟩:=jpd (P:=P) (w:=w) (jc5 he h1) h3
    refine same ?_ g2
    have e1 : (ps.map fun (i,x)=>(i,a.eval x)) = ⟨ps.toList.map fun (i,x)=>(i,a.eval x)⟩:=by apply Array.ext';simp
    simp only [execOp,e1]
    simp [g1]
  case buildSlice t m ps=>
    obtain ⟨l,h1,h2⟩:=bind_some h
    obtain ⟨d,H',h3,rfl⟩:=jaN h2
    obtain ⟨v,ρ',w1,g1,g2,g3⟩:=jb1 (P:=P) hR (jc5 he h1) h3
    refine ja0 ?_ g2 g3
    have e1 : (ps.map fun (i,x)=>(i,a.eval x)) = ⟨ps.toList.map fun (i,x)=>(i,a.eval x)⟩:=by apply Array.ext';simp
    simp only [execOp,e1]
    simp [g1]
  case load t x=>
    obtain ⟨p,h1,h2⟩:=bind_some h
    obtain ⟨d,h3,rfl⟩:=jaO h2
    obtain ⟨v,g1,g2⟩:=jiz (P:=P) hR (jai he h1) h3
    exact same (by simp [execOp,g1]) g2
  case store t x y=>
    obtain ⟨p,h1,h2⟩:=bind_some h
    obtain ⟨v,h3,h4⟩:=bind_some h2
    obtain ⟨H',h5,rfl⟩:=jdj h4
    obtain ⟨w1,g1,g2,g3⟩:=jns (P:=P) hR (jai he h1) (jai he h3) h5
    exact jeJ (by simp [execOp,g1]) ⟨g2,ImLe.refl _,g3,fun _ _ _ h=>.inl h⟩
  case nilCheck x=>
    obtain ⟨p,h1,h2⟩:=bind_some h
    have hp:=jai he h1
    cases p <;> simp only at h2 <;> try (cases h2;done)
    · simp at h2;subst h2
      generalize hv : a.eval x = v at hp
      cases hp with
      | ptr _ _ _ hr=>exact same (by simp only [execOp,hv];rfl) (.ptr _ _ _ hr)
    · simp at h2;subst h2
      generalize hv : a.eval x = v at hp
      cases hp with
      | ept b o _ _ vs hc hl=>exact same (by simp only [execOp,hv];rfl) (.ept b o _ _ vs hc hl)
    · simp at h2;subst h2
      generalize hv : a.eval x = v at hp
      cases hp with
      | fn _ vs _ hl=>exact same (by simp only [execOp,hv];rfl) (.fn _ vs _ hl)
    · simp at h2;subst h2
      generalize hv : a.eval x = v at hp
      cases hp with
      | bfn _ vs _ hl=>exact same (by simp only [execOp,hv];rfl) (.bfn _ vs _ hl)
  case binOp op t x y yt=>
    obtain ⟨p,h1,h2⟩:=bind_some h
    obtain ⟨q,h3,h4⟩:=bind_some h2
    obtain ⟨d,h5,rfl⟩:=jaO h4
    cases hz : nilS y with
    | true=>
      rw [hz] at h5
      have hy : y = .const (.slice none 0 0):=by
        unfold nilS at hz
        split at hz
        · rfl
        · cases hz
      subst hy
      obtain ⟨v,g1,g2⟩:=jnQ (P:=P) (w:=w) (h5 : nilCmp P op t p = some d) (jai he h1) x (.const (.slice none 0 0))
      refine same ?_ g2
      simp only [execOp,Sem.run_bind] at g1 ⊢
      have e1 : a.eval (.const (.slice none 0 0)) = .slice none 0 0:=rfl
      rw [e1,g1];rfl
    | false=>
    rw [hz] at h5
    replace h5 : binD P op t p q = some d:=h5
    obtain ⟨v,g1,g2⟩:=jrS (P:=P) (w:=w) h5 (jai he h1) (jai he h3) x y
    refine same ?_ g2
    simp only [execOp,Sem.run_bind] at g1 ⊢
    rw [g1];rfl
  case unOp op t x=>
    obtain ⟨p,h1,h2⟩:=bind_some h
    obtain ⟨d,h5,rfl⟩:=jaO h2
    obtain ⟨v,g1,g2⟩:=juL (P:=P) (w:=w) h5 (jai he h1)
    exact same (by simp [execOp,g1]) g2
  case convert s t x=>
    obtain ⟨p,h1,h2⟩:=bind_some h
    obtain ⟨d,H',h5,rfl⟩:=jaN h2
    obtain ⟨rfl,v,g1,g2⟩:=jq2 (P:=P) hR (jai he h1) h5
    exact same (by simp [execOp,g1]) g2
  case makeInterface t x=>
    obtain ⟨p,h1,h2⟩:=bind_some h
    have hp:=jai he h1
    split at h2
    · cases h2
    · rename_i td hni hu
      simp at h2;subst h2
      refine same ?_ (.iface t _ _ hp)
      have : (Instr.makeInterface t (a.eval x)).run P w = .ok (.iface t (a.eval x)) w:=by
        cases td <;> first | (exact (hni _ rfl).elim) | (simp [Instr.makeInterface,run_underlying hu])
      simp [execOp,this]
    · cases h2
  case makeFunc fn fs cs=>
    cases fn <;> simp only at h <;> try (cases h;done)
    rename_i f
    split at h
    · rename_i hfs
      obtain ⟨l,h1,h2⟩:=map_some h
      subst h2
      have hl:=jcA he h1
      have e1 : fs = #[]:=by simpa using hfs
      subst e1
      refine same ?_ (.fn f _ _ hl)
      have e2 : cs.map a.eval = ⟨cs.toList.map a.eval⟩:=by apply Array.ext';simp
      simp [execOp,Instr.makeFunc,e2]
    · split at h
      · rename_i hcs
        obtain ⟨l,h1,h2⟩:=map_some h
        subst h2
        have hl:=jcA he h1
        have e1 : cs = #[]:=by simpa using hcs
        subst e1
        refine same ?_ (.bfn f _ _ hl)
        have e2 : fs.map a.eval = ⟨fs.toList.map a.eval⟩:=by apply Array.ext';simp
        simp [execOp,Instr.makeFunc,e2]
      · cases h
  case makeSlice t l c=>
    obtain ⟨dl,h1,h2⟩:=bind_some h
    obtain ⟨dc,h3,h4⟩:=bind_some h2
    obtain ⟨d,H',h5,rfl⟩:=jaN h4
    obtain ⟨v,ρ',w1,g1,g2,g3⟩:=jew (P:=P) hR (jai he h1) (jai he h3) h5
    exact ja0 (by simp [execOp,g1]) g2 g3
  case slice t x lo hi mx=>
    obtain ⟨dx,h1,h2⟩:=bind_some h
    obtain ⟨dlo,h3,h4⟩:=bind_some h2
    obtain ⟨dhi,h5,h6⟩:=bind_some h4
    obtain ⟨dmx,h7,h8⟩:=bind_some h6
    obtain ⟨d,h9,rfl⟩:=jaO h8
    obtain ⟨v,g1,g2⟩:=jpL (P:=P) hR h9 (jai he h1) (jd9 he h3) (jd9 he h5) (jd9 he h7)
    exact same (by simp [execOp,g1]) g2
  case fieldAddr t x f=>
    obtain ⟨p,h1,h2⟩:=bind_some h
    obtain ⟨⟨o,u⟩,h3,h4⟩:=bind_some h2
    obtain ⟨z,h5,h6⟩:=bind_some h4
    obtain ⟨d,h7,rfl⟩:=jaO h6
    obtain ⟨v,g1,g2⟩:=jl0 (P:=P) (w:=w) h3 h5 h7 (jai he h1)
    exact same (by simp [execOp,g1]) g2
  case field t x f=>
    obtain ⟨p,h1,h2⟩:=bind_some h
    have hp:=jai he h1
    cases p <;> simp only at h2 <;> try (cases h2;done)
    obtain ⟨⟨o,u⟩,h3,h4⟩:=bind_some h2
    obtain ⟨d,h7,rfl⟩:=jaO h4
    generalize hv : a.eval x = v at hp
    cases hp with
    | agg vs cs hl=>
      obtain ⟨v,g1,g2⟩:=jqC (P:=P) (w:=w) h3 h7 hl
      exact same (by simp [execOp,hv,g1]) g2
  case indexAddr t x i=>
    obtain ⟨dx,h1,h2⟩:=bind_some h
    obtain ⟨di,h3,h4⟩:=bind_some h2
    obtain ⟨d,h7,rfl⟩:=jaO h4
    obtain ⟨v,g1,g2⟩:=jjB (P:=P) hR h7 (jai he h1) (jai he h3)
    exact same (by simp [execOp,g1]) g2
  case index t x i=>
    obtain ⟨dx,h1,h2⟩:=bind_some h
    obtain ⟨di,h3,h4⟩:=bind_some h2
    obtain ⟨d,h7,rfl⟩:=jaO h4
    obtain ⟨v,g1,g2⟩:=jpS (P:=P) (w:=w) h7 (jai he h1) (jai he h3)
    exact same (by simp [execOp,g1]) g2
  case extract x i=>
    obtain ⟨p,h1,h2⟩:=bind_some h
    have hp:=jai he h1
    cases p <;> simp only at h2 <;> try (cases h2;done)
    obtain ⟨d,h7,rfl⟩:=jaO h2
    generalize hv : a.eval x = v at hp
    cases hp with
    | tup vs cs hl=>
      obtain ⟨u,g1,g2⟩:=hl.get h7
      exact same (by simp [execOp,hv,Instr.extract,g1]) g2
  case makeMap t x=>
    obtain ⟨dx,h1,h2⟩:=bind_some h
    obtain ⟨d,H',h5,rfl⟩:=jaN h2
    obtain ⟨v,ρ',w1,g1,g2,g3⟩:=jfJ (P:=P) (vx:=x.map a.eval) hR (by
      cases x with
      | none=>simp [evalOo] at h1;subst h1;trivial
      | some o=>
        simp only [evalOo] at h1
        obtain ⟨d0,k1,rfl⟩:=map_some h1
        exact jai he k1) h5
    exact ja0 (by simp [execOp,g1]) g2 g3
  case lookup t x i ok=>
    obtain ⟨dx,h1,h2⟩:=bind_some h
    obtain ⟨di,h3,h4⟩:=bind_some h2
    obtain ⟨d,h7,rfl⟩:=jaO h4
    obtain ⟨v,g1,g2⟩:=jnj (P:=P) hR (jai he h1) (jai he h3) h7
    exact same (by simp [execOp,g1]) g2
  case mapUpdate t x y z=>
    obtain ⟨p,h1,h2⟩:=bind_some h
    obtain ⟨q,h3,h4⟩:=bind_some h2
    obtain ⟨v,h5,h6⟩:=bind_some h4
    obtain ⟨H',h7,rfl⟩:=jdj h6
    obtain ⟨w1,g1,g2,g3⟩:=jg4 (P:=P) hR (jai he h1) (jai he h3) (jai he h5) h7
    exact jeJ (by simp [execOp,g1]) ⟨g2,ImLe.refl _,g3,fun _ _ _ h=>.inl h⟩
  case insert t x y z=>
    obtain ⟨p,h1,h2⟩:=bind_some h
    obtain ⟨q,h3,h4⟩:=bind_some h2
    obtain ⟨v,h5,h6⟩:=bind_some h4
    obtain ⟨H',h7,rfl⟩:=jdj h6
    obtain ⟨w1,g1,g2,g3⟩:=jg4 (P:=P) hR (jai he h1) (jai he h3) (jai he h5) h7
    exact jeJ (by simp [execOp,g1]) ⟨g2,ImLe.refl _,g3,fun _ _ _ h=>.inl h⟩
  case typeAssert x xt t ok=>
    obtain ⟨d0,h1,h2⟩:=bind_some h
    obtain ⟨d,h3,rfl⟩:=jaO h2
    obtain ⟨v,g1,g2⟩:=jmt (P:=P) (w:=w) (xt:=xt) (jai he h1) h3
    exact same (by simp [execOp,g1]) g2
  case call c=>
    obtain ⟨args,h1,h2⟩:=bind_some h
    have hargs:=jcA he h1
    have e2 : c.args.map a.eval = ⟨c.args.toList.map a.eval⟩:=by apply Array.ext';simp
    cases hc : c.callee with
    | builtin b=>
      simp only [hc] at h2
      obtain ⟨d,H',h3,rfl⟩:=jaN h2
      obtain ⟨v,ρ',im',w1,g1,g2,g3⟩:=jm6 (ty:=ty) (consts:=c.args.map fun | .const _=>true | _=>false) hR hargs h3
      refine ja0 ?_ g2 g3
      simp only [execOp,resolve,hc,Sem.run_bind,Sem.run_pure,Result.andThen_ok,invoke,e2]
      exact g1
    | invoke x y=>simp [hc] at h2
    | value f=>
      simp only [hc] at h2
      obtain ⟨df,h3,h4⟩:=bind_some h2
      have hf:=jai he h3
      cases df <;> simp only at h4 <;> try (cases h4;done)
      · rename_i g cs
        generalize hv : a.eval f = v at hf
        cases hf with
        | fn _ vs _ hl=>
          have hall:=hargs.append hl
          rcases jei hA hcall hR hall h4 with ⟨hb,hcalls⟩ | ⟨d,H',v',w1,rfl,k1,k2,k3⟩
          case inr=>
            refine ja0 ?_ k2 k3
            simp only [execOp,Sem.run_bind,jdL (P:=P) (w:=w) hc hv,Result.andThen_ok,invoke,e2]
            have : (⟨c.args.toList.map a.eval⟩ : Array Value) ++ ⟨vs⟩ = ⟨c.args.toList.map a.eval ++ vs⟩:=by apply Array.ext';simp
            rw [this,k1]
          intro ro n K Q hK hQ
          have hrun : (execOp a.eval ⟨dst,.call c,ty,pos,after,guard⟩).run P w = .ok (.enter g ⟨c.args.toList.map a.eval ++ vs⟩) w:=by
            simp only [execOp,Sem.run_bind,jdL (P:=P) (w:=w) hc hv,Result.andThen_ok,invoke,e2]
            have : (⟨c.args.toList.map a.eval⟩ : Array Value) ++ ⟨vs⟩ = ⟨c.args.toList.map a.eval ++ vs⟩:=by apply Array.ext';simp
            rw [this,jbo hb]
          refine jce hrun (fun d h=>by cases h) ⟨jdk,jem (hcalls.mono fun en w2 hout=>?_)⟩
          cases hout with
          | ok ρ' im' H' _ v d hm hv=>exact hK v w2 (.ok ρ' im' H' w2 v d hm hv)
          | pan ρ' im' H' _ v d hm hv=>exact hQ _ w2 (.pan ρ' im' H' w2 v d hm hv)
      · rename_i g fs
        generalize hv : a.eval f = v at hf
        cases hf with
        | bfn _ vs _ hl=>
          have hall:=hl.append hargs
          have hres : (resolve a.eval c ty).run P w = .ok { target:=.fn (.func g) #[],args:=⟨vs⟩ ++ c.args.map a.eval } w:=by
            unfold resolve
            rw [hc]
            simp [hv,Deferred.ofValue]
          have happ : (⟨vs⟩ : Array Value) ++ ⟨c.args.toList.map a.eval⟩ ++ #[] = ⟨vs ++ c.args.toList.map a.eval⟩:=by apply Array.ext';simp
          rcases jei hA hcall hR hall h4 with ⟨hb,hcalls⟩ | ⟨d,H',v',w1,rfl,k1,k2,k3⟩
          case inr=>
            refine ja0 ?_ k2 k3
            simp only [execOp,Sem.run_bind,hres,Result.andThen_ok,invoke,e2]
            rw [happ,k1]
          intro ro n K Q hK hQ
          have hrun : (execOp a.eval ⟨dst,.call c,ty,pos,after,guard⟩).run P w = .ok (.enter g ⟨vs ++ c.args.toList.map a.eval⟩) w:=by
            simp only [execOp,Sem.run_bind,hres,Result.andThen_ok,invoke,e2]
            rw [happ,jbo hb]
          refine jce hrun (fun d h=>by cases h) ⟨jdk,jem (hcalls.mono fun en w2 hout=>?_)⟩
          cases hout with
          | ok ρ' im' H' _ v d hm hv=>exact hK v w2 (.ok ρ' im' H' w2 v d hm hv)
          | pan ρ' im' H' _ v d hm hv=>exact hQ _ w2 (.pan ρ' im' H' w2 v d hm hv)
      · rename_i g
        generalize hv : a.eval f = v at hf
        cases hf with
        | yld g hg=>
          have hcalls:=hcall _ _ _ _ h4 ρ im w _ hR hargs
          unfold CallR at hcalls
          rw [Array.getElem?_eq_none (by omega)] at hcalls
          have e3 : P.funcs.size + g - P.funcs.size = g:=by omega
          simp only [e3] at hcalls
          obtain ⟨fn,tmps,assign,body,hy,hround⟩:=hcalls
          intro ro n K Q hK hQ
          have hrun : (execOp a.eval ⟨dst,.call c,ty,pos,after,guard⟩).run P w = .ok (.round (ρ g).b fn tmps assign body) w:=by
            simp only [execOp,Sem.run_bind,jjm (P:=P) (w:=w) hc hv,Result.andThen_ok,invoke,e2]
            exact hy
          refine jce hrun (fun d h=>by cases h) ⟨jdk,(hround ro (n - 1)).mono fun en w2 hout=>?_⟩
          cases hout with
          | ok ρ' im' H' _ v d hm hv=>exact hK v w2 (.ok ρ' im' H' w2 v d hm hv)
          | pan ρ' im' H' _ v d hm hv=>exact hQ _ w2 (.pan ρ' im' H' w2 v d hm hv)
  case panic x=>
    obtain ⟨p,h1,h2⟩:=bind_some h
    have hp:=jai he h1
    cases p <;> simp only at h2 <;> try (cases h2;done)
    rename_i tt dd
    simp at h2;subst h2
    generalize hv : a.eval x = v at hp
    cases hp with
    | iface _ v _ hvd=>
      intro ro n K Q hK hQ
      have hrun : (execOp a.eval ⟨dst,.panic x,ty,pos,after,guard⟩).run P w = .halt (.panic (.iface tt v)) w:=by
        simp only [execOp,hv,Instr.panic];rfl
      refine ⟨fun f _=>trivial,?_⟩
      rw [Oper.semAt_eq _ _ _ (fun c h=>by cases h),hrun]
      exact hQ _ w (.pan ρ im H w _ _ (Mv.refl hR) (.iface _ v _ hvd))
end
end Vm
end
section
namespace Vm
open Go
inductive Ex where
  | norm
  | exit (id : Nat)
  | ret
  | pan (d : D)
  deriving Inhabited
structure St where
  ex : Ex
  e : Env
  H : Heap
def wantD (ops : Array Oper) (e : Env) (o : Oper) : Option Bool:=
  match o.guard with
  | none=>some true
  | some (j,want)=>match (ops[j]?).bind (·.dst) with
    | some d=>match e d with
      | .bool b=>some (b == want)
      | _=>some false
    | none=>some false
def deferC : Op -> Option Call
  | .defer c=>some c
  | _=>none
def pushD (P : Program) (e : Env) (c : Call) : Option Env:=
  e.df.bind fun l=>match c.callee with
    | .value f=>(evalOs e c.args.toList).bind fun args=>(evalO e f).bind fun
      | .fn g cs=>if bodied P g then some ⟨e.f,some (.call g (args ++ cs) :: l)⟩ else none
      | _=>none
    | _=>none
def runOps (P : Program) (A : Ann) (call : CallF) (N : Nat) (ops : Array Oper) : List Oper -> Env -> Heap -> Option St
  | [],e,H=>some ⟨.norm,e,H⟩
  | o :: rest,e,H=>if dstOk N o.dst = false then none else
    match wantD ops e o with
    | some true=>match deferC o.op with
      | some c=>match pushD P e c with
        | some e=>runOps P A call N ops rest (putO e o.dst ud) H
        | none=>none
      | none=>match stepOp P A call o.op e H with
        | some (.ok d H)=>runOps P A call N ops rest (putO e o.dst d) H
        | some (.pan d H)=>some ⟨.pan d,e,H⟩
        | none=>none
    | some false=>runOps P A call N ops rest (putO e o.dst ud) H
    | none=>none
def quietO (A : Ann) : Op -> Bool
  | .move _ | .assign _ | .pick .. | .load .. | .nilCheck _ | .binOp .. | .unOp .. | .convert .. | .makeInterface .. | .makeFunc .. | .slice .. | .fieldAddr .. | .field .. | .indexAddr .. | .index .. | .lookup .. | .extract .. | .build ..=>true
  | .buildSlice t _ _=>A.fz t
  | .call c=>match c.callee with
    | .builtin .len | .builtin .min | .builtin .max=>true
    | .value (.func f)=>(A.rd f).isSome || pureC A f
    | _=>false
  | _=>false
def chainOn (ops : Array Oper) : Nat -> Nat -> Nat -> Bool
  | 0,_,_=>false
  | n + 1,j,k=>((ops[j]?).map fun o=>(o.after.toList.any fun e=>Region.binds .any e && e.on == k) || o.after.toList.any fun e=>Region.binds .any e && chainOn ops n e.on k).getD false
def slotsO (l : List Operand) : List Nat:=l.filterMap fun | .tmp t=>some t | _=>none
def readOps (A : Ann) : Op -> List Operand
  | .load _ a=>[a]
  | .store _ a _=>[a]
  | .indexAddr _ x _=>[x]
  | .slice _ x _ _ _=>[x]
  | .convert _ _ x=>[x]
  | .lookup _ x _ _=>[x]
  | .mapUpdate _ x _ _ | .insert _ x _ _=>[x]
  | .call c=>match c.callee with
    | .builtin .len | .builtin .append=>c.args.toList
    | .value (.func f)=>if (A.rd f).isSome then c.args.toList else []
    | _=>[]
  | _=>[]
def writeOps : Op -> List Operand
  | .store _ a _=>[a]
  | .mapUpdate _ x _ _ | .insert _ x _ _=>[x]
  | .call c=>match c.callee with
    | .builtin .append=>c.args.toList.take 1
    | _=>[]
  | _=>[]
def growO (A : Ann) : Op -> Bool
  | .alloc _ | .box .. | .makeSlice .. | .makeMap ..=>true
  | .buildSlice t _ _=>!A.fz t
  | .call c=>match c.callee with
    | .builtin .append=>true
    | .value (.func f)=>freshC A f
    | _=>false
  | _=>false
def placedO (A : Ann) : Op -> Bool
  | .alloc _ | .box .. | .makeSlice .. | .makeMap ..=>true
  | .buildSlice t _ _=>!A.fz t
  | _=>false
def lenW (A : Ann) (pl : Bool) (o : Op) : Bool:=growO A o && !(pl && placedO A o)
def storeO? : Op -> Bool
  | .store .. | .mapUpdate .. | .insert ..=>true
  | _=>false
def openO (A : Ann) (o : Op) : Bool:=quietO A o || storeO? o || growO A o
def tSl (A : Ann) (o : Oper) : List Nat:=slotsO (readOps A o.op)
def wSl (A : Ann) (o : Oper) : List Nat:=slotsO (writeOps o.op) ++ (if growO A o.op then o.dst.toList else [])
def looksL (ops : Array Oper) (o : Oper) : List Nat:=
  slotsO o.op.operands.toList ++ (match o.guard with | some (g,_)=>((ops[g]?).bind (·.dst)).toList | none=>[])
def freeOf (ops : Array Oper) (k j : Nat) : Bool:=!chainOn ops ops.size j k
def slotQ (A : Ann) (o : Op) : Bool:=quietO A o && (readOps A o).isEmpty && (writeOps o).isEmpty && !growO A o
def pairOk (A : Ann) (pl : Bool) (ops : Array Oper) (k j : Nat) : Bool:=
  match ops[k]?,ops[j]? with
  | some ok,some oj=>((openO A ok.op && openO A oj.op && (!(lenW A pl ok.op && growO A oj.op) && !(growO A ok.op && lenW A pl oj.op))) || slotQ A ok.op || slotQ A oj.op) && (match ok.dst with | some d=>!(looksL ops oj).contains d | none=>true)
  | _,_=>true
def objSl (A : Ann) (o : Oper) : List Nat:=slotsO (readOps A o.op) ++ slotsO (writeOps o.op)
def lexZ (A : Ann) (pl : Bool) (ops : Array Oper) : Bool:=
  (List.range ops.size).all fun j=>match ops[j]? with
    | some oj => (oj.after.toList.all fun e => !Region.binds .any e || decide (e.on < j)) && (!growO A oj.op || oj.dst.isSome) &&
        ((List.range ops.size).all fun k=>match ops[k]? with
          | some ok => (decide (j < k) || (match oj.dst with | some d => !(objSl A ok).contains d && ((decide (k < j) && !freeOf ops k j) || !(looksL ops ok).contains d) | none => true)) &&
              (decide (j <= k) || (match oj.dst with | some d=>ok.dst != some d | none=>true)) &&
              (decide (j <= k) || !freeOf ops k j || pairOk A pl ops k j)
          | none=>true)
    | none=>true
def lexD (A : Ann) (ops : Array Oper) : Bool:=lexZ A false ops
def lexP (A : Ann) (ops : Array Oper) : Bool:=lexZ A true ops
def pairsD (A : Ann) (ops : Array Oper) : List (List Nat × List Nat):=
  (List.range ops.size).flatMap fun j=>(List.range j).flatMap fun k=>match ops[k]?,ops[j]? with
    | some ok,some oj=>if freeOf ops k j then [(wSl A ok,tSl A oj ++ wSl A oj),(wSl A oj,tSl A ok ++ wSl A ok)].filter fun p=>!p.1.isEmpty && !p.2.isEmpty else []
    | _,_=>[]
def objsE (e : Env) (l : List Nat) : List Nat:=l.flatMap fun t=>objsD (e t)
def disjE (e : Env) (p : List Nat × List Nat) : Bool:=(objsE e p.1).all fun x=>(objsE e p.2).all fun y=>x != y
def plainEl (H : Heap) : D -> Bool
  | .str _=>true
  | d=>((elems H d).bind stripL).isSome
def appPlain (H : Heap) : List D -> Bool
  | [_,x]=>plainEl H x
  | _=>false
def stripP : List (Nat × D) -> Option (List (Nat × D))
  | []=>some []
  | (i,d) :: r=>(strip d).bind fun d'=>(stripP r).map ((i,d') :: ·)
def fzR (x : Option (D × Heap)) (H : Heap) : Option R:=
  match x with
  | some (.vec 0 0 n,[.arr xs])=>if n = xs.length then (stripL xs).map fun ys=>.ok (.sl false ys) H else none
  | some (.sl _ [],[])=>some (.ok (.sl false []) H)
  | _=>none
def stepX (P : Program) (A : Ann) (call : CallF) (o : Op) (e : Env) (H : Heap) : Option R:=
  match o with
  | .call c=>match c.callee with
    | .value (.func f)=>if (pureC A f || freshC A f) = true then (evalOs e c.args.toList).bind fun args=>if (stripL args).isSome then stepOp P A call (.call c) e H else none else stepOp P A call (.call c) e H
    | .builtin .append=>(evalOs e c.args.toList).bind fun args=>if appPlain H args = true then stepOp P A call (.call c) e H else none
    | _=>stepOp P A call (.call c) e H
  | .buildSlice t n ps=>if A.fz t then (partsD e ps.toList).bind fun l=>(stripP l).bind fun l=>fzR (buildSliceD P t n l []) H else stepOp P A call (.buildSlice t n ps) e H
  | o=>stepOp P A call o e H
def runOpsX (P : Program) (A : Ann) (call : CallF) (N : Nat) (ops : Array Oper) : List Oper -> Env -> Heap -> Option St
  | [],e,H=>if (pairsD A ops).all (disjE e) then some ⟨.norm,e,H⟩ else none
  | o :: rest,e,H=>if dstOk N o.dst = false then none else
    match wantD ops e o with
    | some true=>match stepX P A call o.op e H with
      | some (.ok d H)=>runOpsX P A call N ops rest (putO e o.dst d) H
      | _=>none
    | some false=>runOpsX P A call N ops rest (putO e o.dst ud) H
    | none=>none
def placeR (x : Option R) (H : Heap) (p : Nat) : Option R:=
  match x with
  | some (.ok d [ob])=>if bareOb ob = true /\ p < H.length /\ deadQ (hget H p) = true then (moveTo p d).map fun d=>.ok d (H.set p ob) else none
  | some (.ok d [])=>if bareD d = true then some (.ok d H) else none
  | _=>none
def bareX (e : Env) (x : Operand) : Bool:=
  match evalO e x with
  | some d=>bareD d
  | none=>false
def stepZ (P : Program) (A : Ann) (call : CallF) (pl : Option Nat) (o : Op) (e : Env) (H : Heap) : Option R:=
  match pl with
  | none=>stepX P A call o e H
  | some p=>if placedO A o then (if o.operands.toList.all (bareX e) = true then placeR (stepOp P A call o e []) H p else none) else stepX P A call o e H
def rankO (A : Ann) (l : List Oper) (i : Nat) : Nat:=(l.take i).countP fun o=>placedO A o.op
def runOpsP (P : Program) (A : Ann) (call : CallF) (N : Nat) (ops : Array Oper) : Nat -> List Oper -> Env -> Heap -> Option St
  | _,[],e,H=>if (pairsD A ops).all (disjE e) then some ⟨.norm,e,H⟩ else none
  | p,o :: rest,e,H=>if dstOk N o.dst = false then none else
    match wantD ops e o with
    | some true=>match stepZ P A call (some p) o.op e H with
      | some (.ok d H)=>runOpsP P A call N ops (p + (if placedO A o.op then 1 else 0)) rest (putO e o.dst d) H
      | _=>none
    | some false=>runOpsP P A call N ops (p + (if placedO A o.op then 1 else 0)) rest (putO e o.dst ud) H
    | none=>none
def placesN (A : Ann) (l : List Oper) : Nat:=l.countP fun o=>placedO A o.op
def iterC (body : Env -> Heap -> Option St) : Nat -> Env -> Heap -> Option St
  | 0,_,_=>none
  | k + 1,e,H=>match body e H with
    | some ⟨.norm,e,H⟩=>iterC body k e H
    | r=>r
def callQ : Dfr -> Bool
  | .call _ _=>true
  | .mark=>false
def jumpD (c : Code) (e : Env) (H : Heap) : Option St:=
  match c with
  | .ret=>some ⟨.ret,e,H⟩
  | .exit id=>some ⟨.exit id,e,H⟩
  | _=>none
def runC (P : Program) (A : Ann) (call : CallF) (k : Nat) (N : Nat) : Code -> Env -> Heap -> Option St
  | .skip,e,H=>some ⟨.norm,e,H⟩
  | .label _,e,H=>some ⟨.norm,e,H⟩
  | .region _ ops draw,e,H=>if draw then (if lexD A ops then runOpsX P A call N ops ops.toList e H else if lexP A ops then runOpsP P A call N ops H.length ops.toList e (H ++ List.replicate (placesN A ops.toList) .dead) else none) else runOps P A call N ops ops.toList e H
  | .seq a b,e,H=>match runC P A call k N a e H with
    | some ⟨.norm,e,H⟩=>runC P A call k N b e H
    | r=>r
  | .cond c a b,e,H=>match evalO e c with
    | some (.bool true)=>runC P A call k N a e H
    | some (.bool false)=>runC P A call k N b e H
    | _=>none
  | .block id b,e,H=>match runC P A call k N b e H with
    | some ⟨.exit i,e,H⟩=>if i = id then some ⟨.norm,e,H⟩ else some ⟨.exit i,e,H⟩
    | r=>r
  | .loop b,e,H=>iterC (runC P A call k N b) k e H
  | .scope b,e,H=>runC P A call k N b e H
  | .exit id,e,H=>some ⟨.exit id,e,H⟩
  | .ret,e,H=>some ⟨.ret,e,H⟩
  | .rangeFunc g ps assign body,e,H=>e.df.bind fun l=>(evalO e g).bind fun
    | .fn f cs=>if bodied P f = false ∨ l.all callQ = false then none else
      match call f (.yld H.length :: cs) (H ++ [.loop ⟨.ready,none,e.f,N,ps,assign,body⟩]) with
      | some (.ok _ H2)=>match hget H2 H.length with
        | .loop lp=>if lp.st = .busy then none else
          match lp.pend with
          | none=>some ⟨.norm,⟨e.f,some (.mark :: l)⟩,H2.set H.length .dead⟩
          | some c=>jumpD c ⟨e.f,some (.mark :: l)⟩ (H2.set H.length .dead)
        | _=>none
      | _=>none
    | _=>none
  | _,_,_=>none
def resD (P : Program) (e : Env) (H : Heap) : List ResultVar -> Option (List D)
  | []=>some []
  | .tmp t :: r=>(resD P e H r).map (e t :: ·)
  | .cell a t :: r=>(loadD P t H (e a)).bind fun d=>(resD P e H r).map (d :: ·)
def oneD : List D -> D
  | [d]=>d
  | l=>.tup l
def putsD (f : Nat -> D) : List (Tmp × D) -> Nat -> D
  | []=>f
  | (t,d) :: r=>putsD (fun j=>if j = t then d else f j) r
def leftD : Ex -> Option (Option Code)
  | .norm=>some none
  | .ret=>some (some .ret)
  | .exit id=>some (some (.exit id))
  | .pan _=>none
def lpOf : Ob -> Option Lp
  | .loop l=>some l
  | _=>none
def roundD (run : Nat -> Code -> Env -> Heap -> Option St) (r : Nat) (args : List D) (H : Heap) : Option R:=
  (lpOf (hget H r)).bind fun lp=>if lp.st = .ready /\ args.length = lp.ps.size /\ (lp.ps.toList.all fun t=>decide (t < lp.N)) = true then
    (run lp.N lp.assign ⟨putsD lp.tmps (lp.ps.toList.zip args),none⟩ H).bind fun
      | ⟨.norm,e,H1⟩=>(lpOf (hget H1 r)).bind fun l1=>if l1.st = .ready then
          (run lp.N lp.body e (H1.set r (.loop { l1 with st:=.busy }))).bind fun s=>
            (leftD s.ex).bind fun j=>(lpOf (hget s.H r)).bind fun l2=>
              some (.ok (.bool j.isNone) (s.H.set r (.loop { l2 with st:=if j.isNone then .ready else .done,pend:=j })))
          else none
      | _=>none
  else none
inductive Md where
  | ret
  | pan (d : D)
  | rcv (d : D)
  deriving Inhabited
def Md.settle : Md -> Md
  | .rcv _=>.ret
  | m=>m
def recD : Md -> D × Md
  | .pan d=>(d,.rcv d)
  | m=>(.nili,m)
def recoverC : Op -> Bool
  | .call c=>match c.callee with
    | .builtin .recover=>true
    | _=>false
  | _=>false
def plainO : Op -> Bool
  | .move _ | .assign _ | .pick .. | .alloc _ | .load .. | .store .. | .binOp .. | .unOp .. | .makeInterface .. | .fieldAddr .. | .field .. | .extract .. | .typeAssert .. | .build .. | .indexAddr ..=>true
  | _=>false
def runOpsS (P : Program) (A : Ann) (N : Nat) (ops : Array Oper) : List Oper -> Env -> Heap -> Md -> Option (Env × Heap × Md)
  | [],e,H,m=>some (e,H,m)
  | o :: rest,e,H,m=>if dstOk N o.dst = false then none else
    match wantD ops e o with
    | some true=>if recoverC o.op then runOpsS P A N ops rest (putO e o.dst (recD m).1) H (recD m).2 else
      if plainO o.op = false then none else
      match stepOp P A (fun _ _ _=>none) o.op e H with
        | some (.ok d H)=>runOpsS P A N ops rest (putO e o.dst d) H m
        | _=>none
    | some false=>runOpsS P A N ops rest (putO e o.dst ud) H m
    | none=>none
def runS (P : Program) (A : Ann) (N : Nat) (run : Code -> Env -> Heap -> Option St) : Code -> Env -> Heap -> Md -> Option (St × Md)
  | .seq a b,e,H,m=>(runS P A N run a e H m).bind fun
    | (⟨.norm,e,H⟩,m)=>runS P A N run b e H m
    | r=>some r
  | .cond c a b,e,H,m=>match evalO e c with
    | some (.bool true)=>runS P A N run a e H m
    | some (.bool false)=>runS P A N run b e H m
    | _=>none
  | .region id ops draw,e,H,m=>if draw = false /\ (ops.toList.any fun o=>recoverC o.op) = true then
      (runOpsS P A N ops ops.toList e H m).map fun (e,H,m)=>(⟨.norm,e,H⟩,m)
    else (run (.region id ops draw) e H).map fun s=>(s,m)
  | c,e,H,m=>(run c e H).map fun s=>(s,m)
def noDf : Option (List Dfr) -> Bool
  | some []=>true
  | _=>false
def lastD (P : Program) (A : Ann) (run : Nat -> Code -> Env -> Heap -> Option St) (f : FuncId) (args : List D) (m : Md) (H : Heap) : Option (Md × Heap):=
  match P.funcs[f]? with
  | some fn=>match fn.body with
    | some c=>if fn.name == "runtime.NumGoroutine" || args.length > fn.ntmps then none else
      (runS P A fn.ntmps (run fn.ntmps) c (ofArgs args) H m).bind fun
        | (⟨.norm,e,H⟩,m) | (⟨.ret,e,H⟩,m)=>if noDf e.df = true /\ (resD P e H fn.results.toList).isSome = true then some (m.settle,H) else none
        | _=>none
    | none=>none
  | none=>none
def leaveD (P : Program) (A : Ann) (run : Nat -> Code -> Env -> Heap -> Option St) (rs : List ResultVar) (e : Env) : List Dfr -> Md -> Heap -> Option R
  | [],.ret,H=>(resD P e H rs).map fun l=>.ok (oneD l) H
  | [],.pan d,H=>some (.pan d H)
  | [],.rcv _,_=>none
  | .mark :: l,m,H=>leaveD P A run rs e l m H
  | .call f args :: l,m,H=>(lastD P A run f args m H).bind fun (m,H)=>leaveD P A run rs e l m H
def runF (P : Program) (A : Ann) : Nat -> CallF
  | 0,_,_,_=>none
  | k + 1,f,args,H=>match P.funcs[f]? with
    | some fn=>match fn.body with
      | some c=>if fn.name == "runtime.NumGoroutine" || args.length > fn.ntmps then none else
        match runC P A (runF P A k) k fn.ntmps c (ofArgs args) H with
        | some ⟨.norm,e,H⟩ | some ⟨.ret,e,H⟩=>e.df.bind fun l=>leaveD P A (fun N=>runC P A (runF P A k) k N) fn.results.toList e l .ret H
        | some ⟨.pan d,e,H⟩=>e.df.bind fun l=>leaveD P A (fun N=>runC P A (runF P A k) k N) fn.results.toList e l (.pan d) H
        | _=>none
      | none=>none
    | none=>roundD (fun N=>runC P A (runF P A k) k N) (f - P.funcs.size) args H
end Vm
end
