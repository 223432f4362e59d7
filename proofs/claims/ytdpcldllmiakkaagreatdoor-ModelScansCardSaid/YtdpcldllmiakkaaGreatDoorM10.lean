/- Texts that stand behind this claim, one after the other. -/
import Derived.Test.YtdpcldllmiakkaaGreatDoorM6
import Derived.Test.YtdpcldllmiakkaaGreatDoorM9
import Derived.Test.YtdpcldllmiakkaaGreatDoorM7
import Derived.HandedShaped
import Derived.LaidLaws
set_option maxHeartbeats 4000000
set_option linter.unusedVariables false
set_option linter.unusedSimpArgs false
section
namespace Go.Proofs.W
open Go Vm Go.Proofs.Zs25
theorem leadsP {n : Nfa} {l : List Rx} (h : Pre n l) (w : List Int) (hr : ∀ r ∈ l,rightR r = true) {p : Nat} (hp : p ≤ w.length) {i s : Nat} {r : Rx} (hi : l[i]? = some r) (hs : (endsP l 1)[i]? = some s) : (s : Int) ∈ atN n (w.take p) ↔ at' (endsR w r (startB w.length)) p:=by
  have hsl : shapesL l = true:=by rw [shapesL_eq,List.all_eq_true];exact fun x hx=>(sizes hr x hx).2
  constructor
  · intro hm
    have hp:=path_at (n:=n) w p s hp hm
    have key : ∀ x y,Path n w x y → x = (0,0) → y = (0,0) ∨ GoodL w 3 l 1 (startB w.length) y.1 y.2:=by
      intro x y hp
      induction hp with
      | refl=>exact fun e=>.inl e
      | step _ g ih=>
        intro e
        rcases ih e with rfl | hg
        · obtain ⟨t,ht,rfl⟩:=go_cases h.s0 g
          exact .inr (good_starts w 3 (by omega) l 1 ht (start_at.2 rfl))
        · exact .inr (goodR_step l 1 _ _ _ _ h.fr hsl (start_len _) hg g)
    rcases key _ _ hp rfl with e | hg
    · have:=endsP_rng l 1 s (List.mem_of_getElem? hs)
      have : s = 0:=congrArg Prod.fst e
      omega
    · obtain ⟨r',k1,k2⟩:=goodR_end l 1 _ s p i hs hg
      rw [hi] at k1;cases k1
      exact k2
  · intro hh
    obtain ⟨x,g1,g2,g3⟩:=frag_at l 1 i r h.fr hi
    rw [hs] at g3
    cases g3
    obtain ⟨i0,k1,k2⟩:=sound n w r x _ _ g2 (sizes hr r (List.mem_of_getElem? hi)).2 (start_len _) hh
    rw [start_at] at k1
    subst k1
    have hp : Path n w (0,0) (endOf r x,p):=(Path.one (go_free h.s0 g1)).trans k2
    exact (at_path h.ok (by rw [h.k];omega) w _ _ hp rfl).2.2
theorem has_take {n : Nfa} {l : List Rx} (h : Pre n l) (hr : ∀ r ∈ l,rightR r = true) (w : List Int) {p : Nat} (hp : p ≤ w.length) {r : Rx} (hm : r ∈ l) : (endsR w r (startB w.length)).getD p false = hasR (w.take p) r:=by
  obtain ⟨i,hi⟩:=List.getElem?_of_mem hm
  have hil : i < l.length:=by
    rcases Nat.lt_or_ge i l.length with h' | h'
    · exact h'
    · rw [List.getElem?_eq_none h'] at hi;cases hi
  obtain ⟨s,hs⟩ : ∃ s,(endsP l 1)[i]? = some s:=⟨_,List.getElem?_eq_getElem (by rw [endsP_len];exact hil)⟩
  have h1:=leadsP h w hr hp hi hs
  have h2:=leads h hr (w.take p) hi hs
  rw [Bool.eq_iff_iff]
  exact h1.symm.trans h2
theorem lastP_spec (f : Nat → Int) : ∀ (m : Nat),(lastP f m = (-1,-1) ∧ ∀ n,1 ≤ n → n ≤ m → f n < 0) ∨ ∃ n,1 ≤ n ∧ n ≤ m ∧ 0 ≤ f n ∧ lastP f m = ((n : Int),f n) ∧ ∀ n',n < n' → n' ≤ m → f n' < 0
  | 0=>.inl ⟨rfl,fun n h1 h2=>by omega⟩
  | m + 1=>by
    rw [lastP]
    by_cases h : 0 ≤ f (m + 1)
    · rw [if_pos h]
      exact .inr ⟨m + 1,by omega,by omega,h,rfl,fun n' h1 h2=>by omega⟩
    · rw [if_neg h]
      rcases lastP_spec f m with ⟨h1,h2⟩ | ⟨n,h1,h2,h3,h4,h5⟩
      · exact .inl ⟨h1,fun n a b=>by
          by_cases e : n = m + 1
          · subst e;omega
          · exact h2 n a (by omega)⟩
      · exact .inr ⟨n,h1,by omega,h3,h4,fun n' a b=>by
          by_cases e : n' = m + 1
          · subst e;omega
          · exact h5 n' a (by omega)⟩
theorem lastP_none {f : Nat → Int} {m : Nat} (h : ∀ n,1 ≤ n → n ≤ m → f n < 0) : lastP f m = (-1,-1):=by
  rcases lastP_spec f m with ⟨h1,_⟩ | ⟨n,h1,h2,h3,_,_⟩
  · exact h1
  · have:=h n h1 h2;omega
theorem lastP_of {f : Nat → Int} {m n : Nat} (h1 : 1 ≤ n) (h2 : n ≤ m) (h3 : 0 ≤ f n) (h4 : ∀ n',n < n' → n' ≤ m → f n' < 0) : lastP f m = ((n : Int),f n):=by
  rcases lastP_spec f m with ⟨_,g⟩ | ⟨k,k1,k2,k3,k4,k5⟩
  · have:=g n h1 h2;omega
  · rcases Nat.lt_trichotomy n k with h | h | h
    · have:=h4 k h k2;omega
    · rw [k4,h]
    · have:=k5 n h h2;omega
theorem innW_none {E : List Bool} {k a : Int} : ∀ (m : Nat) (s : Int × Int),(∀ n : Nat,1 ≤ n → n ≤ m → E.getD n false = true → 0 ≤ s.2 ∧ a + n ≤ s.1) → innW E k a m s = s
  | 0,s,_=>rfl
  | m + 1,s,h=>by
    rw [innW,if_neg,innW_none m s fun n h1 h2=>h n h1 (by omega)]
    rintro ⟨h1,h2⟩
    have:=h (m + 1) (by omega) (by omega) h1
    omega
theorem innW_some {E : List Bool} {k a : Int} (hk : 0 ≤ k) {N : Nat} (h1 : 1 ≤ N) (hE : E.getD N false = true) : ∀ (m : Nat) (s : Int × Int),N ≤ m → (s.2 < 0 ∨ s.1 < a + N) → (∀ n : Nat,N < n → n ≤ m → E.getD n false = false) → innW E k a m s = (a + N,k)
  | 0,s,h,_,_=>by omega
  | m + 1,s,h,hc,hn=>by
    rw [innW]
    by_cases e : N = m + 1
    · subst e
      rw [if_pos ⟨hE,hc⟩,innW_none]
      exact fun n a1 a2 _=>⟨hk,by simp only;omega⟩
    · rw [if_neg (by rw [hn (m + 1) (by omega) (by omega)];simp)]
      exact innW_some hk h1 hE m s (by omega) hc fun n a1 a2=>hn n a1 (by omega)
def repW (a : Int) (x : Int × Int) : Int × Int:=if x.1 < 0 then (a + 1,-1) else (a + x.1,x.2)
theorem inn_rep {E : List Bool} {k a : Int} (hk : 0 ≤ k) {M : Nat} {F F' : Nat → Int} (hF : ∀ n,1 ≤ n → n ≤ M → F' n = if 0 ≤ F n then F n else if E.getD n false = true then k else -1) : innW E k a M (repW a (lastP F M)) = repW a (lastP F' M):=by
  rcases lastP_spec F M with ⟨h1,h2⟩ | ⟨x,h1,h2,h3,h4,h5⟩
  · rw [h1]
    rcases lastP_spec (fun n=>if E.getD n false = true then k else -1) M with ⟨g1,g2⟩ | ⟨N,g1,g2,g3,g4,g5⟩
    · rw [innW_none,lastP_none]
      · intro n a1 a2
        have:=g2 n a1 a2
        rw [hF n a1 a2,if_neg (by have:=h2 n a1 a2;omega)]
        exact this
      · intro n a1 a2 hE
        have:=g2 n a1 a2
        try simp only at this
        rw [if_pos hE] at this
        omega
    · have hE : E.getD N false = true:=by
        try simp only at g3
        cases hq : E.getD N false with
        | true=>rfl
        | false=>rw [hq] at g3;simp at g3
      have hN : F' N = k:=by rw [hF N g1 g2,if_neg (by have:=h2 N g1 g2;omega),if_pos hE]
      rw [innW_some hk g1 hE M _ g2 (.inl (by simp [repW])),lastP_of g1 g2 (by rw [hN];exact hk),hN]
      · simp only [repW];rw [if_neg (by omega)]
      · intro n a1 a2
        have:=g5 n a1 a2
        rw [hF n (by omega) a2,if_neg (by have:=h2 n (by omega) a2;omega)]
        exact this
      · intro n a1 a2
        have:=g5 n a1 a2
        try simp only at this
        cases hq : E.getD n false with
        | false=>rfl
        | true=>rw [if_pos hq] at this;omega
  · rw [h4]
    have hr0 : repW a ((x : Int),F x) = (a + x,F x):=by simp only [repW];rw [if_neg (by omega)]
    rw [hr0]
    rcases lastP_spec (fun n=>if x < n ∧ E.getD n false = true then k else -1) M with ⟨g1,g2⟩ | ⟨N,g1,g2,g3,g4,g5⟩
    · have hx : F' x = F x:=by rw [hF x h1 h2,if_pos h3]
      rw [innW_none,lastP_of h1 h2 (by rw [hx];exact h3),hx,hr0]
      · intro n a1 a2
        have:=g2 n (by omega) a2
        try simp only at this
        rw [hF n (by omega) a2,if_neg (by have:=h5 n a1 a2;omega)]
        split
        · rename_i hE;rw [if_pos ⟨a1,hE⟩] at this;exact this
        · omega
      · intro n a1 a2 hE
        have:=g2 n a1 a2
        try simp only at this
        refine ⟨h3,?_⟩
        by_cases hxn : x < n
        · rw [if_pos ⟨hxn,hE⟩] at this;omega
        · simp only;omega
    · have hE : x < N ∧ E.getD N false = true:=by
        try simp only at g3
        by_cases hq : x < N ∧ E.getD N false = true
        · exact hq
        · rw [if_neg hq] at g3;omega
      have hN : F' N = k:=by rw [hF N g1 g2,if_neg (by have:=h5 N hE.1 g2;omega),if_pos hE.2]
      rw [innW_some hk g1 hE.2 M _ g2 (.inr (by simp only;omega)),lastP_of g1 g2 (by rw [hN];exact hk),hN]
      · simp only [repW];rw [if_neg (by omega)]
      · intro n a1 a2
        have:=g5 n a1 a2
        try simp only at this
        rw [hF n (by omega) a2,if_neg (by have:=h5 n (by omega) a2;omega)]
        split
        · rename_i hq;rw [if_pos ⟨by omega,hq⟩] at this;exact this
        · omega
      · intro n a1 a2
        have:=g5 n a1 a2
        try simp only at this
        cases hq : E.getD n false with
        | false=>rfl
        | true=>rw [if_pos ⟨by omega,hq⟩] at this;omega
theorem rule_rep {u : List Int} {a : Int} : ∀ (l : List Rule) (k : Nat) (F F' : Nat → Int),(∀ r ∈ l,∀ n,n ≤ u.length → (endsR u r.rx (startB u.length)).getD n false = hasR (u.take n) r.rx) → (∀ n,1 ≤ n → n ≤ u.length → F' n = if 0 ≤ F n then F n else firstZ (u.take n) (l.map Rule.rx) k) →
    (∀ n,1 ≤ n → n ≤ u.length → -1 ≤ F n) → ruleW u a l k (repW a (lastP F u.length)) = repW a (lastP F' u.length)
  | [],k,F,F',hE,hF,hm=>by
    rw [ruleW]
    have : ∀ m,m ≤ u.length → lastP F m = lastP F' m:=fun m=>by
      induction m with
      | zero=>intro _;rfl
      | succ m ih=>
        intro hm2
        have h1:=hF (m + 1) (by omega) hm2
        have h2:=hm (m + 1) (by omega) hm2
        rw [List.map_nil,firstZ] at h1
        have : F' (m + 1) = F (m + 1):=by rw [h1];split <;> omega
        rw [lastP,lastP,this,ih (by omega)]
    rw [this _ (Nat.le_refl _)]
  | r :: l,k,F,F',hE,hF,hm=>by
    rw [ruleW]
    have h1:=inn_rep (E:=endsR u r.rx (startB u.length)) (k:=(k : Int)) (a:=a) (by omega) (M:=u.length) (F:=F) (F':=fun n=>if 0 ≤ F n then F n else if (endsR u r.rx (startB u.length)).getD n false = true then (k : Int) else -1) (fun n _ _=>rfl)
    rw [h1]
    have h2:=rule_rep (u:=u) (a:=a) l (k + 1) (fun n=>if 0 ≤ F n then F n else if (endsR u r.rx (startB u.length)).getD n false = true then (k : Int) else -1) F' (fun r hr=>hE r (List.mem_cons_of_mem _ hr)) (fun n a1 a2=>by
      rw [hF n a1 a2,List.map_cons,firstZ,hE r List.mem_cons_self n a2]
      by_cases c1 : 0 ≤ F n
      · rw [if_pos c1,if_pos c1,if_pos c1]
      · rw [if_neg c1,if_neg c1]
        by_cases c2 : hasR (u.take n) r.rx = true
        · rw [if_pos c2,if_pos c2,if_pos (by omega)]
        · rw [if_neg c2,if_neg c2,if_neg (by omega)]) (fun n a1 a2=>by
      show -1 ≤ (if 0 ≤ F n then F n else if (endsR u r.rx (startB u.length)).getD n false = true then (k : Int) else -1)
      split
      · omega
      · split <;> omega)
    exact h2
theorem words_cut {d : Dfa} (hr : rightD d = true) (ht : tyM d) (l : List Rule) (w : List Int) (hM : ∀ v : List Int,matchD d v = firstZ v (l.map Rule.rx) 0) (hE : ∀ u : List Int,∀ r ∈ l,∀ n,n ≤ u.length → (endsR u r.rx (startB u.length)).getD n false = hasR (u.take n) r.rx) : ∀ (n : Nat) (a : Int),0 ≤ a → wordsL l w n a = cutL d w n a
  | 0,a,_=>rfl
  | n + 1,a,h0=>by
    rw [wordsL,cutL]
    by_cases hb : a < w.length
    · rw [if_pos hb,if_pos hb]
      have hsh:=long_shift hr w a.toNat 0 (by omega) (by omega)
      rw [long_last hr ht,show (0 : Int) + (a.toNat : Int) = a by omega] at hsh
      have hlc:=long_cases d w a h0 (by omega)
      have hrep : ruleW (w.drop a.toNat) a l 0 (a + 1,-1) = repW a (lastP (fun m=>matchD d ((w.drop a.toNat).take m)) (w.drop a.toNat).length):=by
        have:=rule_rep (u:=w.drop a.toNat) (a:=a) l 0 (fun _=>-1) (fun m=>matchD d ((w.drop a.toNat).take m)) (hE _) (fun n _ _=>by rw [hM,if_neg (by omega)]) (fun n _ _=>by omega)
        rw [← this,lastP_none (fun n _ _=>by omega)]
        rfl
      rw [hrep,hsh]
      generalize longD d w a = x at hlc
      obtain ⟨x,y⟩:=x
      simp only at hlc ⊢
      have key : repW a (if x < 0 then (-1,-1) else (x - (a.toNat : Int),y)) = (if x < 0 then a + 1 else x,y):=by
        by_cases hx : x < 0
        · have hy : y = -1:=by omega
          subst hy
          rw [if_pos hx,if_pos hx];rfl
        · rw [if_neg hx,if_neg hx]
          simp only [repW]
          rw [if_neg (by omega)]
          congr 1
          omega
      rw [key]
      congr 1
      exact words_cut hr ht l w hM hE n _ (by split <;> omega)
    · rw [if_neg hb,if_neg hb]
end Go.Proofs.W
end
section
namespace Go.Proofs.W
open Go Vm Go.Proofs.Zs25
noncomputable def Am : Ann:={ mode:=B.mode,prim:=fun f=>if f = 40 then some (toldP Tryz.prog A 40) else if f = 25 then some (toldP Tryz.prog A 25) else if f = 24 then some (toldP Tryz.prog A 24) else if f = 8 then some (toldP Tryz.prog B 8) else if f = 26 then some (toldP Tryz.prog B 26) else if f = 16 then some (toldP Tryz.prog B 16) else if f = 53 then some (tabP rrT) else B.prim f,fz:=B.fz,bl:=B.bl,rd:=B.rd }
theorem Am_fz (t : TypeId) : Am.fz t = (t == 38):=rfl
attribute [go_sem] Am_fz
theorem primAm [Base] (hB : ∃ m,Base.B 0 0 = some (.int .i64 m)) : PrimOk Tryz.prog Am:=by
  have h0:=primB hB
  have hA:=primA hB
  refine ⟨h0.ext,h0.rd,fun f p h args H r hr ρ im w vs hR hvs=>?_⟩
  simp only [Am] at h
  split at h
  · rename_i e;subst e;cases h
    exact told_calls mixed hA bo40 rfl rfl hr hR hvs
  split at h
  · rename_i e;subst e;cases h
    exact told_calls mixed hA bo25 rfl rfl hr hR hvs
  split at h
  · rename_i e;subst e;cases h
    exact told_calls mixed hA bo24 rfl rfl hr hR hvs
  split at h
  · rename_i e;subst e;cases h
    exact told_calls mixed h0 bo8 rfl rfl hr hR hvs
  split at h
  · rename_i e;subst e;cases h
    exact told_calls mixed h0 bo26 rfl rfl hr hR hvs
  split at h
  · rename_i e;subst e;cases h
    exact told_calls mixed h0 bo16 rfl rfl hr hR hvs
  split at h
  · rename_i e;subst e;cases h
    exact tab_calls mixed h0 bo53 rfl rfl rrT_ok hr hR hvs
  · exact h0.ok f p h args H r hr ρ im w vs hR hvs
end Go.Proofs.W
end
section
namespace Vm
open Go
def bareAll (o : Op) (e : Env) : Bool:=o.operands.toList.all (bareX e)
section
variable {P : Program} {A : Ann} {N : Nat}
def vOpP (P : Program) (A : Ann) (b : Bool) (p : Nat) (o : Op) (e : Env) (H : Heap) (K : D → Heap → Prop) : Prop:=
  if b = true then bareAll o e = true ∧ (match placeR (stepOp P A noCall o e []) H p with
    | some (.ok d H')=>K d H'
    | _=>False)
  else vOpX A o e H (fun _ _=>True) ∧ vOpZ P A o e H K
def upB (b : Bool) (p : Nat) : Nat:=p + if b then 1 else 0
def bareO : Option D → Bool
  | some d=>bareD d
  | none=>false
theorem bareX_eq {e : Env} {x : Operand} : bareX e x = bareO (evalO e x):=by unfold bareX bareO;cases evalO e x <;> rfl
theorem bareO_some {d : D} : bareO (some d) = bareD d:=rfl
def bareR (e : Env) : Option Operand → Bool
  | none=>true
  | some x=>bareX e x
theorem bareR_none {e : Env} : bareR e none = true:=rfl
theorem bareR_some {e : Env} {x : Operand} : bareR e (some x) = bareX e x:=rfl
def bareP (e : Env) : List (Nat × Operand) → Bool
  | []=>true
  | q :: r=>bareX e q.2 && bareP e r
theorem bareP_nil {e : Env} : bareP e [] = true:=rfl
theorem bareP_cons {e : Env} {i : Nat} {x : Operand} {r : List (Nat × Operand)} : bareP e ((i,x) :: r) = (bareX e x && bareP e r):=rfl
theorem placedO_move (x : Operand) : placedO A (.move x) = false:=rfl
theorem placedO_assign (x : Operand) : placedO A (.assign x) = false:=rfl
theorem placedO_pick (x y z : Operand) : placedO A (.pick x y z) = false:=rfl
theorem placedO_build (t : TypeId) (ps : Array (Nat × Operand)) : placedO A (.build t ps) = false:=rfl
theorem placedO_load (t : TypeId) (x : Operand) : placedO A (.load t x) = false:=rfl
theorem placedO_store (t : TypeId) (x y : Operand) : placedO A (.store t x y) = false:=rfl
theorem placedO_nilCheck (x : Operand) : placedO A (.nilCheck x) = false:=rfl
theorem placedO_binOp (o : BinOp) (t : TypeId) (x y : Operand) (s : TypeId) : placedO A (.binOp o t x y s) = false:=rfl
theorem placedO_unOp (o : UnOp) (t : TypeId) (x : Operand) : placedO A (.unOp o t x) = false:=rfl
theorem placedO_convert (s t : TypeId) (x : Operand) : placedO A (.convert s t x) = false:=rfl
theorem placedO_makeInterface (t : TypeId) (x : Operand) : placedO A (.makeInterface t x) = false:=rfl
theorem placedO_makeFunc (f : Fn) (x y : Array Operand) : placedO A (.makeFunc f x y) = false:=rfl
theorem placedO_slice (t : TypeId) (x : Operand) (l h m : Option Operand) : placedO A (.slice t x l h m) = false:=rfl
theorem placedO_fieldAddr (t : TypeId) (x : Operand) (f : Nat) : placedO A (.fieldAddr t x f) = false:=rfl
theorem placedO_field (t : TypeId) (x : Operand) (f : Nat) : placedO A (.field t x f) = false:=rfl
theorem placedO_indexAddr (t : TypeId) (x y : Operand) : placedO A (.indexAddr t x y) = false:=rfl
theorem placedO_index (t : TypeId) (x y : Operand) : placedO A (.index t x y) = false:=rfl
theorem placedO_lookup (t : TypeId) (x y : Operand) (b : Bool) : placedO A (.lookup t x y b) = false:=rfl
theorem placedO_mapUpdate (t : TypeId) (x y z : Operand) : placedO A (.mapUpdate t x y z) = false:=rfl
theorem placedO_typeAssert (x : Operand) (s t : TypeId) (b : Bool) : placedO A (.typeAssert x s t b) = false:=rfl
theorem placedO_extract (x : Operand) (i : Nat) : placedO A (.extract x i) = false:=rfl
theorem placedO_panic (x : Operand) : placedO A (.panic x) = false:=rfl
theorem placedO_call (c : Call) : placedO A (.call c) = false:=rfl
theorem placedO_alloc (t : TypeId) : placedO A (.alloc t) = true:=rfl
theorem placedO_box (t : TypeId) (x : Operand) : placedO A (.box t x) = true:=rfl
theorem placedO_makeSlice (t : TypeId) (x y : Operand) : placedO A (.makeSlice t x y) = true:=rfl
theorem placedO_makeMap (t : TypeId) (r : Option Operand) : placedO A (.makeMap t r) = true:=rfl
theorem placedO_buildSlice (t : TypeId) (n : Nat) (ps : Array (Nat × Operand)) : placedO A (.buildSlice t n ps) = !A.fz t:=rfl
theorem bareAll_alloc (t : TypeId) {e : Env} : bareAll (.alloc t) e = true:=rfl
theorem bareAll_box (t : TypeId) (x : Operand) {e : Env} : bareAll (.box t x) e = bareX e x:=by simp [bareAll,Op.operands]
theorem bareAll_makeSlice (t : TypeId) (x y : Operand) {e : Env} : bareAll (.makeSlice t x y) e = (bareX e x && bareX e y):=by simp [bareAll,Op.operands]
theorem bareAll_makeMap (t : TypeId) (r : Option Operand) {e : Env} : bareAll (.makeMap t r) e = bareR e r:=by cases r <;> simp [bareAll,Op.operands,bareR]
theorem bareAll_buildSlice (t : TypeId) (n : Nat) (ps : Array (Nat × Operand)) {e : Env} : bareAll (.buildSlice t n ps) e = bareP e ps.toList:=by
  simp only [bareAll,Op.operands]
  induction ps.toList with
  | nil=>rfl
  | cons q r ih=>simp only [List.map_cons,List.all_cons,bareP,ih]
def vOpPB (b : Bool) (P : Program) (A : Ann) (p : Nat) (o : Op) (e : Env) (H : Heap) (K : D → Heap → Prop) : TyP K:=vOpP P A b p o e H K
theorem vOpPB_true {p : Nat} {o : Op} {e : Env} {H : Heap} {K : D → Heap → Prop} : @Eq Prop (vOpPB true P A p o e H K) (bareAll o e = true ∧ outB (placeR (stepOp P A noCall o e []) H p) K (fun _ _=>False)):=by
  show (bareAll o e = true ∧ (match placeR (stepOp P A noCall o e []) H p with
    | some (.ok d H')=>K d H'
    | _=>False)) = _
  unfold outB
  cases placeR (stepOp P A noCall o e []) H p with
  | none=>rfl
  | some r=>cases r <;> rfl
theorem vOpPB_false {p : Nat} {o : Op} {e : Env} {H : Heap} {K : D → Heap → Prop} : @Eq Prop (vOpPB false P A p o e H K) (plainX A o e H ∧ vOpZB P A o e H K):=by
  show (vOpX A o e H (fun _ _=>True) ∧ vOpZ P A o e H K) = _
  rw [plainX_of]
  unfold vOpZB
  rfl
theorem vOpZB_build (t : TypeId) (ps : Array (Nat × Operand)) {e : Env} {H : Heap} {K : D → Heap → Prop} : @Eq Prop (vOpZB P A (.build t ps) e H K) (vOpB P A (.build t ps) e H K (fun _ _=>False)):=by
  unfold vOpZB vOpB
  rfl
theorem upB_true {p : Nat} : upB true p = p + 1:=rfl
theorem upB_false {p : Nat} : upB false p = p:=rfl
def placeD (b : Bool) (d : Option D) (H : Heap) (p : Nat) (ob : Ob) : Option R:=if b then d.map fun d=>.ok d (H.set p ob) else none
theorem placeD_true {d : D} {H : Heap} {p : Nat} {ob : Ob} : placeD true (some d) H p ob = some (.ok d (H.set p ob)):=rfl
theorem placeR_one {d : D} {ob : Ob} {H : Heap} {p : Nat} : placeR (some (.ok d [ob])) H p = placeD (bareOb ob && decide (p < H.length) && deadQ (hget H p)) (moveTo p d) H p ob:=by
  show (if bareOb ob = true ∧ p < H.length ∧ deadQ (hget H p) = true then (moveTo p d).map fun d=>R.ok d (H.set p ob) else none) = _
  unfold placeD
  by_cases h : bareOb ob = true ∧ p < H.length ∧ deadQ (hget H p) = true
  · rw [if_pos h];simp [h.1,h.2.1,h.2.2]
  · rw [if_neg h,if_neg]
    intro h'
    simp only [Bool.and_eq_true,decide_eq_true_eq] at h'
    exact h ⟨h'.1.1,h'.1.2,h'.2⟩
def placeS (b : Bool) (d : D) (H : Heap) : Option R:=if b then some (.ok d H) else none
theorem placeS_true {d : D} {H : Heap} : placeS true d H = some (.ok d H):=rfl
theorem placeR_none {d : D} {H : Heap} {p : Nat} : placeR (some (.ok d [])) H p = placeS (bareD d) d H:=by
  unfold placeR placeS;rfl
theorem bareL_rep {n : Nat} {z : D} (h : bareD z = true) : bareL (List.replicate n z) = true:=by
  induction n with
  | zero=>rfl
  | succ n ih=>simp only [List.replicate_succ,bareL,h,ih,Bool.and_self]
theorem bareD_int {k : IntKind} {n : Int} : bareD (.int k n) = true:=rfl
theorem bareD_bool {b : Bool} : bareD (.bool b) = true:=rfl
theorem bareD_str {s : List UInt8} : bareD (.str s) = true:=rfl
theorem bareD_sl {f : Bool} {xs : List D} : bareD (.sl f xs) = bareL xs:=rfl
theorem bareD_agg {xs : List D} : bareD (.agg xs) = bareL xs:=rfl
theorem bareD_nilm : bareD .nilm = true:=rfl
theorem bareD_nilp : bareD .nilp = true:=rfl
theorem bareD_nili : bareD .nili = true:=rfl
theorem bareD_niln : bareD .niln = true:=rfl
theorem bareL_nil : bareL [] = true:=rfl
theorem bareL_cons {d : D} {r : List D} : bareL (d :: r) = (bareD d && bareL r):=rfl
theorem bareOb_arr {xs : List D} : bareOb (.arr xs) = bareL xs:=rfl
theorem deadQ_dead : deadQ .dead = true:=rfl
theorem moveTo_vec {p o n : Nat} : moveTo p (.vec 0 o n) = some (.vec p o n):=rfl
theorem moveTo_ptr {p i j : Nat} : moveTo p (.ptr 0 i j) = some (.ptr p i j):=rfl
theorem moveTo_map {p : Nat} : moveTo p (.map 0) = some (.map p):=rfl
def vOpsPC (P : Program) (A : Ann) (N : Nat) (S : List (Option Nat)) (prs : List (List Nat × List Nat)) : Nat → List Oper → Env → Heap → (Env → Heap → Prop) → Prop
  | _,[],e,H,K=>pairsP e prs ∧ K e H
  | p,o :: rest,e,H,K=>dstOk N o.dst = true ∧ match wantG S e o.guard with
    | some true=>vOpP P A (placedO A o.op) p o.op e H (fun d H'=>vOpsPC P A N S prs (upB (placedO A o.op) p) rest (putO e o.dst d) H' K)
    | some false=>vOpsPC P A N S prs (upB (placedO A o.op) p) rest (putO e o.dst ud) H K
    | none=>False
def vOpsPB (P : Program) (A : Ann) (N : Nat) (S : List (Option Nat)) (prs : List (List Nat × List Nat)) (p : Nat) (l : List Oper) (e : Env) (H : Heap) (K : Env → Heap → Prop) : TyP (S,prs,l,K):=vOpsPC P A N S prs p l e H K
def stepsPB (w : Option Bool) (P : Program) (A : Ann) (N : Nat) (S : List (Option Nat)) (prs : List (List Nat × List Nat)) (p : Nat) (o : Oper) (rest : List Oper) (e : Env) (H : Heap) (K : Env → Heap → Prop) : TyP (S,prs,o,rest,K):=
  match w with
  | some true=>vOpP P A (placedO A o.op) p o.op e H (fun d H'=>vOpsPC P A N S prs (upB (placedO A o.op) p) rest (putO e o.dst d) H' K)
  | some false=>vOpsPC P A N S prs (upB (placedO A o.op) p) rest (putO e o.dst ud) H K
  | none=>False
section
variable {S : List (Option Nat)} {prs : List (List Nat × List Nat)} {o : Oper} {rest : List Oper} {e : Env} {H : Heap} {K : Env → Heap → Prop} {p : Nat}
theorem vOpsPB_nil : @Eq Prop (vOpsPB P A N S prs p [] e H K) (pairsP e prs ∧ K e H):=rfl
theorem vOpsPB_cons : @Eq Prop (vOpsPB P A N S prs p (o :: rest) e H K) ((dstOk N o.dst = true ∧ stepsPB (wantG S e o.guard) P A N S prs p o rest e H K)):=rfl
theorem stepsPB_run : @Eq Prop (stepsPB (some true) P A N S prs p o rest e H K) (vOpPB (placedO A o.op) P A p o.op e H (fun d H'=>vOpsPB P A N S prs (upB (placedO A o.op) p) rest (putO e o.dst d) H' K)):=rfl
theorem stepsPB_skip : @Eq Prop (stepsPB (some false) P A N S prs p o rest e H K) (vOpsPB P A N S prs (upB (placedO A o.op) p) rest (putO e o.dst ud) H K):=rfl
end
end
attribute [irreducible] vOpPB vOpsPB stepsPB
attribute [go_sem ↓] vOpPB_true vOpPB_false vOpsPB_nil vOpsPB_cons stepsPB_run stepsPB_skip
attribute [go_sem] vOpZB_build bareX_eq bareO_some bareR_none bareR_some bareP_nil bareP_cons upB_true upB_false placeD_true placeR_one placeS_true placeR_none bareL_rep bareD_int bareD_bool bareD_str bareD_sl bareD_agg bareD_nilm bareD_nilp bareD_nili bareD_niln bareL_nil bareL_cons bareOb_arr deadQ_dead moveTo_vec moveTo_ptr moveTo_map placedO_move placedO_assign placedO_pick placedO_build placedO_load placedO_store placedO_nilCheck placedO_binOp placedO_unOp placedO_convert placedO_makeInterface placedO_makeFunc placedO_slice placedO_fieldAddr placedO_field placedO_indexAddr placedO_index placedO_lookup placedO_mapUpdate placedO_typeAssert placedO_extract placedO_panic placedO_call placedO_alloc placedO_box placedO_makeSlice placedO_makeMap placedO_buildSlice bareAll_alloc bareAll_box bareAll_makeSlice bareAll_makeMap bareAll_buildSlice
attribute [go_sem] vOpPB_true vOpPB_false vOpsPB_nil vOpsPB_cons stepsPB_run stepsPB_skip
end Vm
end
section
namespace Vm
open Go
theorem evB_ext {P : Program} {A : Ann} {f : FuncId} {args : List D} {d : D} {H H' : Heap} {k : ExtK} {K Kp : D → Heap → Prop} (hb : bodied P f = false) (h0 : A.rd f = none) (hk : A.bl f = some k) (h : extD k args H = some (d,H')) (c : PP (K d H')) : EvB P A f args H K Kp:=by
  rw [← evB_of]
  exact ⟨0,.ok d H',by simp only [callD,hb,if_true,h0,Option.isSome_none,Bool.false_eq_true,if_false,hk,Option.bind_some,h,Option.map_some],c⟩
theorem evB_fresh {P : Program} {A : Ann} {f : FuncId} {args : List D} {d : D} {H H' : Heap} {K Kp : D → Heap → Prop} (hb : bodied P f = true) (hq : primQ A f = false) (hm : A.mode f = .fresh) (ha : stripL args = some args) (h : EvF P A f args [] (fun d' Hc=>freshR d' Hc H = some (.ok d H')) (fun _ _=>False)) (c : PP (K d H')) : EvB P A f args H K Kp:=by
  rw [← evB_of]
  obtain ⟨k,r,h1,h2⟩:=h
  cases r with
  | pan d' Hc=>exact h2.elim
  | ok d' Hc=>
    refine ⟨k,.ok d H',?_,c⟩
    simp only [callD,hb,Bool.true_eq_false,if_false,(primQ_none hq).1,(primQ_none hq).2,hm,pures_strip ha,Option.bind_some,h1,if_true]
    exact h2
theorem evB_use {P : Program} {A : Ann} {f : FuncId} {args : List D} {H : Heap} {K Kp K' Kp' : D → Heap → Prop} (h : EvB P A f args H K' Kp') (h1 : ∀ d H',K' d H' → PP (K d H')) (h2 : ∀ d H',Kp' d H' → PP (Kp d H')) : EvB P A f args H K Kp:=by
  rw [← evB_of] at h ⊢
  exact h.mono h1 h2
def pnE (u : Option TypeDesc) (b : Bool) : Option D:=
  match u with
  | some (.pointer _)=>some (.bool b)
  | _=>none
def ppS (n : Option Nat) (b : Bool) : Option D:=
  match n with
  | some _=>some (.bool b)
  | none=>none
theorem ppS_some {n : Nat} {b : Bool} : ppS (some n) b = some (.bool b):=rfl
def ppE (P : Program) (u : Option TypeDesc) (b : Bool) : Option D:=
  match u with
  | some (.pointer e)=>ppS (orS (sizeT P e) (sizeZ P e)) b
  | _=>none
theorem ppE_ptr {P : Program} {e : TypeId} {b : Bool} : ppE P (some (.pointer e)) b = ppS (orS (sizeT P e) (sizeZ P e)) b:=rfl
theorem pnE_ptr {e : TypeId} {b : Bool} : pnE (some (.pointer e)) b = some (.bool b):=rfl
section
variable {P : Program} {t : TypeId} {r i j : Nat}
theorem binD_pn : binD P .eql t (.ptr r i j) .nilp = pnE (P.underlying t) false:=by
  show (eqD P t (.ptr r i j) .nilp).map D.bool = _
  unfold eqD pnE;cases h : P.underlying t with
  | none=>rfl
  | some u=>cases u <;> rfl
theorem binD_pnN : binD P .neq t (.ptr r i j) .nilp = pnE (P.underlying t) true:=by
  show (eqD P t (.ptr r i j) .nilp).map (fun b=>D.bool (!b)) = _
  unfold eqD pnE;cases h : P.underlying t with
  | none=>rfl
  | some u=>cases u <;> rfl
theorem binD_nn : binD P .eql t .nilp .nilp = pnE (P.underlying t) true:=by
  show (eqD P t .nilp .nilp).map D.bool = _
  unfold eqD pnE;cases h : P.underlying t with
  | none=>rfl
  | some u=>cases u <;> rfl
theorem binD_nnN : binD P .neq t .nilp .nilp = pnE (P.underlying t) false:=by
  show (eqD P t .nilp .nilp).map (fun b=>D.bool (!b)) = _
  unfold eqD pnE;cases h : P.underlying t with
  | none=>rfl
  | some u=>cases u <;> rfl
theorem binD_pp : binD P .eql t (.ptr r i j) (.ptr r i j) = ppE P (P.underlying t) true:=by
  show (eqD P t (.ptr r i j) (.ptr r i j)).map D.bool = _
  unfold eqD ppE ppS
  cases h : P.underlying t with
  | none=>rfl
  | some u=>
    cases u <;> try rfl
    rename_i e
    show Option.map D.bool (if r = r ∧ i = i ∧ j = j ∧ (sizeS P e).isSome then some true else none) = match sizeS P e with | some _=>some (.bool true) | none=>none
    cases sizeS P e <;> simp
theorem binD_ppN : binD P .neq t (.ptr r i j) (.ptr r i j) = ppE P (P.underlying t) false:=by
  show (eqD P t (.ptr r i j) (.ptr r i j)).map (fun b=>D.bool (!b)) = _
  unfold eqD ppE ppS
  cases h : P.underlying t with
  | none=>rfl
  | some u=>
    cases u <;> try rfl
    rename_i e
    show Option.map (fun b=>D.bool (!b)) (if r = r ∧ i = i ∧ j = j ∧ (sizeS P e).isSome then some true else none) = match sizeS P e with | some _=>some (.bool false) | none=>none
    cases sizeS P e <;> simp
end
attribute [go_sem] pnE_ptr ppS_some ppE_ptr binD_pn binD_pnN binD_nn binD_nnN binD_pp binD_ppN
abbrev Cells (H : Heap) (p : Nat) (cs : List D) : Prop:=hget H p = .arr [.agg cs] ∧ p < H.length
theorem Cells.set {H : Heap} {p : Nat} {cs ds : List D} (h : Cells H p cs) : Cells (H.set p (.arr [.agg ds])) p ds:=⟨hget_set_eq h.2,by simpa using h.2⟩
theorem cellD_at {H : Heap} {p j : Nat} {cs : List D} {k : IntKind} {n : Int} (h : Cells H p cs) (hc : cs[j]? = some (.int k n)) : cellD H p 0 j = some (k,n):=by
  simp [cellD,h.1,hc,D.cells]
theorem splice_one {cs : List D} {j : Nat} {v : D} (h : j < cs.length) : spliceL cs j [v] = cs.set j v:=by
  rw [List.set_eq_take_append_cons_drop,if_pos h]
  simp [spliceL]
theorem cellSet_at {H : Heap} {p j : Nat} {cs : List D} {k : IntKind} {n : Int} (h : Cells H p cs) (hj : j < cs.length) : cellSet H p 0 j (.int k n) = some (H.set p (.arr [.agg (cs.set j (.int k n))])):=by
  simp only [cellSet,h.1,List.getElem?_cons_zero,Option.bind_some]
  have : setE (.agg cs) j (.int k n) = some (.agg (cs.set j (.int k n))):=by
    simp only [setE,noTup,D.cells,aggQ,Bool.true_eq_false,if_false,List.length_singleton,Bool.false_eq_true,and_false]
    rw [if_pos ⟨by omega,trivial⟩,splice_one hj]
  rw [this]
  rfl
theorem convU_us {P : Program} {t : TypeId} {H : Heap} {p j n : Nat} {cs : List D} (h : Cells H p cs) (hj : j < cs.length) (hs : sizeT P t = some n) : convU P (some (.pointer t)) (some .unsafePointer) (.ptr p 0 j) H = some (.ptr p 0 j,H):=by
  simp [convU,h.1,D.cells,hj,hs]
mutual
theorem bare_strip : ∀ {d d' : D},strip d = some d' → bareD d = true
  | .bool _,_,_ | .int ..,_,_ | .str _,_,_ | .nilp,_,_ | .nilm,_,_ | .niln,_,_ | .nili,_,_=>rfl
  | .sl _ xs,_,h=>by
    simp only [strip,Option.map_eq_some_iff] at h
    obtain ⟨ys,hy,_⟩:=h
    exact bareL_strip hy
  | .agg xs,_,h=>by
    simp only [strip,Option.map_eq_some_iff] at h
    obtain ⟨ys,hy,_⟩:=h
    exact bareL_strip hy
  | .tup xs,_,h=>by
    simp only [strip,Option.map_eq_some_iff] at h
    obtain ⟨ys,hy,_⟩:=h
    exact bareL_strip hy
  | .ptr ..,_,h | .ept ..,_,h | .vec ..,_,h | .map _,_,h | .fn ..,_,h | .bfn ..,_,h | .iface ..,_,h | .yld _,_,h=>by simp [strip] at h
theorem bareL_strip : ∀ {l l' : List D},stripL l = some l' → bareL l = true
  | [],_,_=>rfl
  | d :: r,_,h=>by
    simp only [stripL] at h
    obtain ⟨x,hx,h⟩:=bind_some h
    obtain ⟨y,hy,_⟩:=Option.map_eq_some_iff.1 h
    simp only [bareL,bare_strip hx,bareL_strip hy,Bool.and_self]
end
end Vm
end
section
namespace Go.Proofs.W
open Go Vm Go.Proofs.Zs25
theorem bload_ok {H : Heap} {p j : Nat} {cs : List D} {n : Int} (h : Cells H p cs) (hc : cs[j]? = some (.int .u32 n)) : EvF Tryz.prog Am 51 [.ptr p 0 j] H (fun d H'=>d = .bool (n != 0) ∧ H' = H) (fun _ _=>False):=by
  refine evF_inB (n:=8) (rs:=[.tmp 2]) Tryz.func51 rfl rfl rfl rfl rfl rfl ?_
  repeat' (first | apply wz1|apply wz2|apply wz3|apply wz4|apply wz5|apply wz6 | simp -dsimp (maxSteps:=999999) (disch:=omega) only[go_sem,simprocAttr, *] | ((first | refine wz8 ?_ ?_|refine wz9 ?_ ?_|refine wz7 ?_ ?_)<;>intro hh <;> (try replace hh:=vqs hh) <;> (try (exfalso;first | exact hh | omega))))
  refine evB_ext (k:=.load .u32) (by kernel_rfl) rfl rfl (d:=.int .u32 n) (H':=H) (by simp [extD,cellD_at h hc]) ?_
  repeat' (first | apply wz1|apply wz2|apply wz3|apply wz4|apply wz5|apply wz6 | simp -dsimp (maxSteps:=999999) (disch:=omega) only[go_sem,simprocAttr, *] | ((first | refine wz8 ?_ ?_|refine wz9 ?_ ?_|refine wz7 ?_ ?_)<;>intro hh <;> (try replace hh:=vqs hh) <;> (try (exfalso;first | exact hh | omega))))
theorem b32_ok : PureF Tryz.prog Am 99 [.bool true] (.int .u32 1):=tells_pure (k:=5) (by kernel_rfl)
theorem unUP : Tryz.prog.underlying 194 = some .unsafePointer:=by kernel_rfl
theorem conv_us {H : Heap} {p j : Nat} {cs : List D} (h : Cells H p cs) (hj : j < cs.length) : convU Tryz.prog (some (.pointer 46)) (some .unsafePointer) (.ptr p 0 j) H = some (.ptr p 0 j,H):=convU_us h hj sz46
attribute [go_sem] unUP
theorem ilock_ok {H : Heap} {p j : Nat} {cs : List D} (h : Cells H p cs) (hc : cs[j]? = some (.int .i32 0)) : EvF Tryz.prog Am 96 [.ptr p 0 j] H (fun _ H'=>H' = H.set p (.arr [.agg (cs.set j (.int .i32 1))])) (fun _ _=>False):=by
  have hj : j < cs.length:=by
    rcases Nat.lt_or_ge j cs.length with h' | h'
    · exact h'
    · rw [List.getElem?_eq_none h'] at hc;cases hc
  have hu:=conv_us (Cells.set (ds:=cs.set j (.int .i32 1)) h) (j:=j) (by simpa using hj)
  refine evF_inB (n:=13) (rs:=[]) Tryz.func96 rfl rfl rfl rfl rfl rfl ?_
  repeat' (first | apply wz1|apply wz2|apply wz3|apply wz4|apply wz5|apply wz6 | simp -dsimp (maxSteps:=999999) (disch:=omega) only[go_sem,simprocAttr, *] | ((first | refine wz8 ?_ ?_|refine wz9 ?_ ?_|refine wz7 ?_ ?_)<;>intro hh <;> (try replace hh:=vqs hh) <;> (try (exfalso;first | exact hh | omega))))
  refine evB_ext (k:=.mark0) (by kernel_rfl) rfl rfl (d:=.tup []) (H':=H) rfl ?_
  repeat' (first | apply wz1|apply wz2|apply wz3|apply wz4|apply wz5|apply wz6 | simp -dsimp (maxSteps:=999999) (disch:=omega) only[go_sem,simprocAttr, *] | ((first | refine wz8 ?_ ?_|refine wz9 ?_ ?_|refine wz7 ?_ ?_)<;>intro hh <;> (try replace hh:=vqs hh) <;> (try (exfalso;first | exact hh | omega))))
  refine evB_ext (k:=.cas .i32) (by kernel_rfl) rfl rfl (d:=.bool true) (H':=H.set p (.arr [.agg (cs.set j (.int .i32 1))])) (by simp [extD,cellD_at h hc,cellSet_at h hj]) ?_
  repeat' (first | apply wz1|apply wz2|apply wz3|apply wz4|apply wz5|apply wz6 | simp -dsimp (maxSteps:=999999) (disch:=omega) only[go_sem,simprocAttr, *] | ((first | refine wz8 ?_ ?_|refine wz9 ?_ ?_|refine wz7 ?_ ?_)<;>intro hh <;> (try replace hh:=vqs hh) <;> (try (exfalso;first | exact hh | omega))))
  refine evB_ext (k:=.mark0) (by kernel_rfl) rfl rfl (d:=.tup []) (H':=_) rfl ?_
  repeat' (first | apply wz1|apply wz2|apply wz3|apply wz4|apply wz5|apply wz6 | simp -dsimp (maxSteps:=999999) (disch:=omega) only[go_sem,simprocAttr, *] | ((first | refine wz8 ?_ ?_|refine wz9 ?_ ?_|refine wz7 ?_ ?_)<;>intro hh <;> (try replace hh:=vqs hh) <;> (try (exfalso;first | exact hh | omega))))
  refine evB_ext (k:=.mark1) (by kernel_rfl) rfl rfl (d:=.tup []) (H':=_) rfl ?_
  repeat' (first | apply wz1|apply wz2|apply wz3|apply wz4|apply wz5|apply wz6 | simp -dsimp (maxSteps:=999999) (disch:=omega) only[go_sem,simprocAttr, *] | ((first | refine wz8 ?_ ?_|refine wz9 ?_ ?_|refine wz7 ?_ ?_)<;>intro hh <;> (try replace hh:=vqs hh) <;> (try (exfalso;first | exact hh | omega))))
theorem lock_ok {H : Heap} {p j : Nat} {cs : List D} (h : Cells H p cs) (hc : cs[j]? = some (.int .i32 0)) : EvF Tryz.prog Am 75 [.ptr p 0 j] H (fun _ H'=>H' = H.set p (.arr [.agg (cs.set j (.int .i32 1))])) (fun _ _=>False):=by
  refine evF_inB (n:=6) (rs:=[]) Tryz.func75 rfl rfl rfl rfl rfl rfl ?_
  repeat' (first | apply wz1|apply wz2|apply wz3|apply wz4|apply wz5|apply wz6 | simp -dsimp (maxSteps:=999999) (disch:=omega) only[go_sem,simprocAttr, *] | ((first | refine wz8 ?_ ?_|refine wz9 ?_ ?_|refine wz7 ?_ ?_)<;>intro hh <;> (try replace hh:=vqs hh) <;> (try (exfalso;first | exact hh | omega))))
  refine evB_state bo96 rfl rfl (ilock_ok h hc) ?_ (fun _ _ h=>h.elim)
  rintro _ _ rfl
  repeat' (first | apply wz1|apply wz2|apply wz3|apply wz4|apply wz5|apply wz6 | simp -dsimp (maxSteps:=999999) (disch:=omega) only[go_sem,simprocAttr, *] | ((first | refine wz8 ?_ ?_|refine wz9 ?_ ?_|refine wz7 ?_ ?_)<;>intro hh <;> (try replace hh:=vqs hh) <;> (try (exfalso;first | exact hh | omega))))
theorem iunlock_ok {H : Heap} {p j : Nat} {cs : List D} (h : Cells H p cs) (hc : cs[j]? = some (.int .i32 1)) : EvF Tryz.prog Am 97 [.ptr p 0 j] H (fun _ H'=>H' = H.set p (.arr [.agg (cs.set j (.int .i32 0))])) (fun _ _=>False):=by
  have hj : j < cs.length:=by
    rcases Nat.lt_or_ge j cs.length with h' | h'
    · exact h'
    · rw [List.getElem?_eq_none h'] at hc;cases hc
  have hu:=conv_us h (j:=j) hj
  have hw0 : IntKind.i32.wrap 0 = 0:=by decide
  obtain ⟨h1,h2⟩:=h
  refine evF_inB (n:=21) (rs:=[]) Tryz.func97 rfl rfl rfl rfl rfl rfl ?_
  repeat' (first | apply wz1|apply wz2|apply wz3|apply wz4|apply wz5|apply wz6 | simp -dsimp (maxSteps:=999999) (disch:=omega) only[go_sem,simprocAttr, *] | ((first | refine wz8 ?_ ?_|refine wz9 ?_ ?_|refine wz7 ?_ ?_)<;>intro hh <;> (try replace hh:=vqs hh) <;> (try (exfalso;first | exact hh | omega))))
  refine evB_ext (k:=.mark1) (by kernel_rfl) rfl rfl (d:=.tup []) (H':=H) rfl ?_
  repeat' (first | apply wz1|apply wz2|apply wz3|apply wz4|apply wz5|apply wz6 | simp -dsimp (maxSteps:=999999) (disch:=omega) only[go_sem,simprocAttr, *] | ((first | refine wz8 ?_ ?_|refine wz9 ?_ ?_|refine wz7 ?_ ?_)<;>intro hh <;> (try replace hh:=vqs hh) <;> (try (exfalso;first | exact hh | omega))))
  refine evB_ext (k:=.mark0) (by kernel_rfl) rfl rfl (d:=.tup []) (H':=H) rfl ?_
  repeat' (first | apply wz1|apply wz2|apply wz3|apply wz4|apply wz5|apply wz6 | simp -dsimp (maxSteps:=999999) (disch:=omega) only[go_sem,simprocAttr, *] | ((first | refine wz8 ?_ ?_|refine wz9 ?_ ?_|refine wz7 ?_ ?_)<;>intro hh <;> (try replace hh:=vqs hh) <;> (try (exfalso;first | exact hh | omega))))
  refine evB_ext (k:=.add .i32) (by kernel_rfl) rfl rfl (d:=.int .i32 0) (H':=H.set p (.arr [.agg (cs.set j (.int .i32 0))])) (by simp [extD,cellD_at ⟨h1,h2⟩ hc,cellSet_at ⟨h1,h2⟩ hj,hw0]) ?_
  repeat' (first | apply wz1|apply wz2|apply wz3|apply wz4|apply wz5|apply wz6 | simp -dsimp (maxSteps:=999999) (disch:=omega) only[go_sem,simprocAttr, *] | ((first | refine wz8 ?_ ?_|refine wz9 ?_ ?_|refine wz7 ?_ ?_)<;>intro hh <;> (try replace hh:=vqs hh) <;> (try (exfalso;first | exact hh | omega))))
  refine evB_ext (k:=.mark0) (by kernel_rfl) rfl rfl (d:=.tup []) (H':=_) rfl ?_
  repeat' (first | apply wz1|apply wz2|apply wz3|apply wz4|apply wz5|apply wz6 | simp -dsimp (maxSteps:=999999) (disch:=omega) only[go_sem,simprocAttr, *] | ((first | refine wz8 ?_ ?_|refine wz9 ?_ ?_|refine wz7 ?_ ?_)<;>intro hh <;> (try replace hh:=vqs hh) <;> (try (exfalso;first | exact hh | omega))))
theorem iadd_ok {H : Heap} {p j : Nat} {cs : List D} {n m : Int} (h : Cells H p cs) (hc : cs[j]? = some (.int .i64 n)) (h0 : 0 ≤ n + m) (h1 : n + m ≤ 1000000000) : EvF Tryz.prog Am 38 [.ptr p 0 j,.int .i64 m] H (fun _ H'=>H' = H.set p (.arr [.agg (cs.set j (.int .i64 (n + m)))])) (fun _ _=>False):=by
  have hj : j < cs.length:=by
    rcases Nat.lt_or_ge j cs.length with h' | h'
    · exact h'
    · rw [List.getElem?_eq_none h'] at hc;cases hc
  have hw : IntKind.i64.wrap (n + m) = n + m:=wi64 (by omega) (by omega)
  refine evF_inB (n:=10) (rs:=[.tmp 4]) Tryz.func38 rfl rfl rfl rfl rfl rfl ?_
  repeat' (first | apply wz1|apply wz2|apply wz3|apply wz4|apply wz5|apply wz6 | simp -dsimp (maxSteps:=999999) (disch:=omega) only[go_sem,simprocAttr, *] | ((first | refine wz8 ?_ ?_|refine wz9 ?_ ?_|refine wz7 ?_ ?_)<;>intro hh <;> (try replace hh:=vqs hh) <;> (try (exfalso;first | exact hh | omega))))
  refine evB_ext (k:=.add .i64) (by kernel_rfl) rfl rfl (d:=.int .i64 (n + m)) (H':=H.set p (.arr [.agg (cs.set j (.int .i64 (n + m)))])) (by simp [extD,cellD_at h hc,hw,cellSet_at h hj]) ?_
  repeat' (first | apply wz1|apply wz2|apply wz3|apply wz4|apply wz5|apply wz6 | simp -dsimp (maxSteps:=999999) (disch:=omega) only[go_sem,simprocAttr, *] | ((first | refine wz8 ?_ ?_|refine wz9 ?_ ?_|refine wz7 ?_ ?_)<;>intro hh <;> (try replace hh:=vqs hh) <;> (try (exfalso;first | exact hh | omega))))
theorem iload_ok {H : Heap} {p j : Nat} {cs : List D} {n : Int} (h : Cells H p cs) (hc : cs[j]? = some (.int .i64 n)) : EvF Tryz.prog Am 39 [.ptr p 0 j] H (fun d H'=>d = .int .i64 n ∧ H' = H) (fun _ _=>False):=by
  refine evF_inB (n:=7) (rs:=[.tmp 2]) Tryz.func39 rfl rfl rfl rfl rfl rfl ?_
  repeat' (first | apply wz1|apply wz2|apply wz3|apply wz4|apply wz5|apply wz6 | simp -dsimp (maxSteps:=999999) (disch:=omega) only[go_sem,simprocAttr, *] | ((first | refine wz8 ?_ ?_|refine wz9 ?_ ?_|refine wz7 ?_ ?_)<;>intro hh <;> (try replace hh:=vqs hh) <;> (try (exfalso;first | exact hh | omega))))
  refine evB_ext (k:=.load .i64) (by kernel_rfl) rfl rfl (d:=.int .i64 n) (H':=H) (by simp [extD,cellD_at h hc]) ?_
  repeat' (first | apply wz1|apply wz2|apply wz3|apply wz4|apply wz5|apply wz6 | simp -dsimp (maxSteps:=999999) (disch:=omega) only[go_sem,simprocAttr, *] | ((first | refine wz8 ?_ ?_|refine wz9 ?_ ?_|refine wz7 ?_ ?_)<;>intro hh <;> (try replace hh:=vqs hh) <;> (try (exfalso;first | exact hh | omega))))
def OnceQ (p j : Nat) (Q : Heap → List D → Prop) (H' : Heap) : Prop:=∃ H2 ds,Cells H2 p ds ∧ j + 1 < ds.length ∧ Q H2 ds ∧ H' = H2.set p (.arr [.agg ((ds.set j (.int .u32 1)).set (j + 1) (.int .i32 0))])
theorem doslow_ok {H : Heap} {p j : Nat} {cs ag : List D} {g : FuncId} {F : D} {Q : Heap → List D → Prop} (h : Cells H p cs) (hc : cs[j]? = some (.int .u32 0)) (hc1 : cs[j + 1]? = some (.int .i32 0)) (hF : F = .fn g ag ∨ F = .bfn g ag)
    (hf : EvB Tryz.prog Am g ag (H.set p (.arr [.agg (cs.set (j + 1) (.int .i32 1))])) (fun _ H2=>∃ ds,Cells H2 p ds ∧ ds[j + 1]? = some (.int .i32 1) ∧ Q H2 ds) (fun _ _=>False)) : EvF Tryz.prog Am 52 [.ptr p 0 j,F] H (fun _ H'=>OnceQ p j Q H') (fun _ _=>False):=by
  have hb1:=bo76
  have hb2:=bo77
  have hk1 : Cells (H.set p (.arr [.agg (cs.set (j + 1) (.int .i32 1))])) p (cs.set (j + 1) (.int .i32 1)):=h.set
  have hk2 : (cs.set (j + 1) (.int .i32 1))[j]? = some (.int .u32 0):=by rw [List.getElem?_set_ne (by omega)];exact hc
  have hz : ((0 : Int) != 0) = false:=by decide
  rcases hF with rfl | rfl
  all_goals
    refine evF_leaveB (n:=21) (rs:=[]) Tryz.func52 rfl rfl rfl rfl rfl ?_
    repeat' (first | apply wz1|apply wz2|apply wz3|apply wz4|apply wz5|apply wz6 | simp -dsimp (maxSteps:=999999) (disch:=omega) only[go_sem,simprocAttr, *] | ((first | refine wz8 ?_ ?_|refine wz9 ?_ ?_|refine wz7 ?_ ?_)<;>intro hh <;> (try replace hh:=vqs hh) <;> (try (exfalso;first | exact hh | omega))))
    refine evB_state bo75 rfl rfl (lock_ok h hc1) ?_ (fun _ _ h=>h.elim)
    rintro _ _ rfl
    repeat' (first | apply wz1|apply wz2|apply wz3|apply wz4|apply wz5|apply wz6 | simp -dsimp (maxSteps:=999999) (disch:=omega) only[go_sem,simprocAttr, *] | ((first | refine wz8 ?_ ?_|refine wz9 ?_ ?_|refine wz7 ?_ ?_)<;>intro hh <;> (try replace hh:=vqs hh) <;> (try (exfalso;first | exact hh | omega))))
    refine evB_state bo51 rfl rfl (bload_ok hk1 hk2) ?_ (fun _ _ h=>h.elim)
    rintro _ _ ⟨rfl,rfl⟩
    repeat' (first | apply wz1|apply wz2|apply wz3|apply wz4|apply wz5|apply wz6 | simp -dsimp (maxSteps:=999999) (disch:=omega) only[go_sem,simprocAttr, *] | ((first | refine wz8 ?_ ?_|refine wz9 ?_ ?_|refine wz7 ?_ ?_)<;>intro hh <;> (try replace hh:=vqs hh) <;> (try (exfalso;first | exact hh | omega))))
    refine evB_use hf ?_ (fun _ _ h=>h.elim)
    rintro d H2 ⟨ds,k1,k2,k3⟩
    have hj1 : j + 1 < ds.length:=by
      rcases Nat.lt_or_ge (j + 1) ds.length with h' | h'
      · exact h'
      · rw [List.getElem?_eq_none h'] at k2;cases k2
    have k4 : Cells (H2.set p (.arr [.agg (ds.set j (.int .u32 1))])) p (ds.set j (.int .u32 1)):=k1.set
    have k5 : (ds.set j (.int .u32 1))[j + 1]? = some (.int .i32 1):=by rw [List.getElem?_set_ne (by omega)];exact k2
    repeat' (first | apply wz1|apply wz2|apply wz3|apply wz4|apply wz5|apply wz6 | simp -dsimp (maxSteps:=999999) (disch:=omega) only[go_sem,simprocAttr, *] | ((first | refine wz8 ?_ ?_|refine wz9 ?_ ?_|refine wz7 ?_ ?_)<;>intro hh <;> (try replace hh:=vqs hh) <;> (try (exfalso;first | exact hh | omega))))
    refine leaveQ_norm rfl ?_
    refine lvQ_call (n:=10) Tryz.func77 rfl rfl rfl rfl rfl (Vm.wpS_calm rfl ?_)
    repeat' (first | apply wz1|apply wz2|apply wz3|apply wz4|apply wz5|apply wz6 | simp -dsimp (maxSteps:=999999) (disch:=omega) only[go_sem,simprocAttr, *] | ((first | refine wz8 ?_ ?_|refine wz9 ?_ ?_|refine wz7 ?_ ?_)<;>intro hh <;> (try replace hh:=vqs hh) <;> (try (exfalso;first | exact hh | omega))))
    refine wpB_regionXL (prs:=[]) (by kernel_rfl) rfl (by kernel_rfl) ?_;simp -dsimp (maxSteps:=999999) (disch:=omega) only[go_sem,simprocAttr, *]
    refine ⟨fun _=>rfl,evB_plain bo99 rfl rfl rfl b32_ok ?_⟩
    simp -dsimp (maxSteps:=999999) (disch:=omega) only[go_sem,simprocAttr, *]
    refine ⟨fun h=>absurd h (by decide),evB_ext (k:=.store) (by kernel_rfl) rfl rfl (d:=.tup []) (H':=H2.set p (.arr [.agg (ds.set j (.int .u32 1))])) (by simp [extD,cellSet_at k1 (Nat.lt_of_succ_lt hj1)]) ?_⟩
    repeat' (first | apply wz1|apply wz2|apply wz3|apply wz4|apply wz5|apply wz6 | simp -dsimp (maxSteps:=999999) (disch:=omega) only[go_sem,simprocAttr, *] | ((first | refine wz8 ?_ ?_|refine wz9 ?_ ?_|refine wz7 ?_ ?_)<;>intro hh <;> (try replace hh:=vqs hh) <;> (try (exfalso;first | exact hh | omega))))
    refine lvQ_call (n:=6) Tryz.func76 rfl rfl rfl rfl rfl (Vm.wpS_calm rfl ?_)
    repeat' (first | apply wz1|apply wz2|apply wz3|apply wz4|apply wz5|apply wz6 | simp -dsimp (maxSteps:=999999) (disch:=omega) only[go_sem,simprocAttr, *] | ((first | refine wz8 ?_ ?_|refine wz9 ?_ ?_|refine wz7 ?_ ?_)<;>intro hh <;> (try replace hh:=vqs hh) <;> (try (exfalso;first | exact hh | omega))))
    refine evB_state bo97 rfl rfl (iunlock_ok k4 k5) ?_ (fun _ _ h=>h.elim)
    rintro _ _ rfl
    repeat' (first | apply wz1|apply wz2|apply wz3|apply wz4|apply wz5|apply wz6 | simp -dsimp (maxSteps:=999999) (disch:=omega) only[go_sem,simprocAttr, *] | ((first | refine wz8 ?_ ?_|refine wz9 ?_ ?_|refine wz7 ?_ ?_)<;>intro hh <;> (try replace hh:=vqs hh) <;> (try (exfalso;first | exact hh | omega))))
    refine lvQ_ret (ds:=[]) rfl ⟨H2,ds,k1,hj1,k3,?_⟩
    rw [List.set_set]
theorem once_new {H : Heap} {p j : Nat} {cs ag : List D} {g : FuncId} {F : D} {Q : Heap → List D → Prop} (h : Cells H p cs) (hc : cs[j]? = some (.int .u32 0)) (hc1 : cs[j + 1]? = some (.int .i32 0)) (hF : F = .fn g ag ∨ F = .bfn g ag)
    (hf : EvB Tryz.prog Am g ag (H.set p (.arr [.agg (cs.set (j + 1) (.int .i32 1))])) (fun _ H2=>∃ ds,Cells H2 p ds ∧ ds[j + 1]? = some (.int .i32 1) ∧ Q H2 ds) (fun _ _=>False)) : EvF Tryz.prog Am 35 [.ptr p 0 j,F] H (fun _ H'=>OnceQ p j Q H') (fun _ _=>False):=by
  have hz : ((0 : Int) != 0) = false:=by decide
  refine evF_inB (n:=12) (rs:=[]) Tryz.func35 rfl rfl rfl rfl rfl rfl ?_
  repeat' (first | apply wz1|apply wz2|apply wz3|apply wz4|apply wz5|apply wz6 | simp -dsimp (maxSteps:=999999) (disch:=omega) only[go_sem,simprocAttr, *] | ((first | refine wz8 ?_ ?_|refine wz9 ?_ ?_|refine wz7 ?_ ?_)<;>intro hh <;> (try replace hh:=vqs hh) <;> (try (exfalso;first | exact hh | omega))))
  refine evB_state bo51 rfl rfl (bload_ok h hc) ?_ (fun _ _ h=>h.elim)
  rintro _ _ ⟨rfl,rfl⟩
  repeat' (first | apply wz1|apply wz2|apply wz3|apply wz4|apply wz5|apply wz6 | simp -dsimp (maxSteps:=999999) (disch:=omega) only[go_sem,simprocAttr, *] | ((first | refine wz8 ?_ ?_|refine wz9 ?_ ?_|refine wz7 ?_ ?_)<;>intro hh <;> (try replace hh:=vqs hh) <;> (try (exfalso;first | exact hh | omega))))
  refine evB_state bo52 rfl rfl (doslow_ok h hc hc1 hF hf) ?_ (fun _ _ h=>h.elim)
  intro d H' hq
  repeat' (first | apply wz1|apply wz2|apply wz3|apply wz4|apply wz5|apply wz6 | simp -dsimp (maxSteps:=999999) (disch:=omega) only[go_sem,simprocAttr, *] | ((first | refine wz8 ?_ ?_|refine wz9 ?_ ?_|refine wz7 ?_ ?_)<;>intro hh <;> (try replace hh:=vqs hh) <;> (try (exfalso;first | exact hh | omega))))
theorem once_old {H : Heap} {p j : Nat} {cs : List D} {F : D} (h : Cells H p cs) (hc : cs[j]? = some (.int .u32 1)) : EvF Tryz.prog Am 35 [.ptr p 0 j,F] H (fun _ H'=>H' = H) (fun _ _=>False):=by
  have hz : ((1 : Int) != 0) = true:=by decide
  refine evF_inB (n:=12) (rs:=[]) Tryz.func35 rfl rfl rfl rfl rfl rfl ?_
  repeat' (first | apply wz1|apply wz2|apply wz3|apply wz4|apply wz5|apply wz6 | simp -dsimp (maxSteps:=999999) (disch:=omega) only[go_sem,simprocAttr, *] | ((first | refine wz8 ?_ ?_|refine wz9 ?_ ?_|refine wz7 ?_ ?_)<;>intro hh <;> (try replace hh:=vqs hh) <;> (try (exfalso;first | exact hh | omega))))
  refine evB_state bo51 rfl rfl (bload_ok h hc) ?_ (fun _ _ h=>h.elim)
  rintro _ _ ⟨rfl,rfl⟩
  repeat' (first | apply wz1|apply wz2|apply wz3|apply wz4|apply wz5|apply wz6 | simp -dsimp (maxSteps:=999999) (disch:=omega) only[go_sem,simprocAttr, *] | ((first | refine wz8 ?_ ?_|refine wz9 ?_ ?_|refine wz7 ?_ ?_)<;>intro hh <;> (try replace hh:=vqs hh) <;> (try (exfalso;first | exact hh | omega))))
end Go.Proofs.W
end
section
namespace Go.Proofs.W
open Go Vm Go.Proofs.Zs25
def Kp1 (p : Nat) (H H' : Heap) : Prop:=H.length ≤ H'.length ∧ ∀ k,k < H.length → k ≠ p → hget H' k = hget H k
theorem Kp1.refl {p : Nat} {H : Heap} : Kp1 p H H:=⟨Nat.le_refl _,fun _ _ _=>rfl⟩
theorem Kp1.trans {p : Nat} {H H' H'' : Heap} (h : Kp1 p H H') (g : Kp1 p H' H'') : Kp1 p H H'':=⟨Nat.le_trans h.1 g.1,fun k hk hp=>by rw [g.2 k (Nat.lt_of_lt_of_le hk h.1) hp,h.2 k hk hp]⟩
theorem Kp1.set {p : Nat} {H : Heap} {o : Ob} : Kp1 p H (H.set p o):=⟨by simp,fun k _ hp=>hget_set_ne (by omega)⟩
theorem Kp1.app {p : Nat} {H L : Heap} : Kp1 p H (H ++ L):=⟨by simp,fun k hk _=>hget_app_lt hk⟩
theorem Kp1.same {p : Nat} {H H' : Heap} (h : Same H.length H H') : Kp1 p H H':=⟨h.1,fun k hk _=>h.2 k hk⟩
def scC (rs : D) (dn st : Int) (nx rl : D) (e c : Int) : List D:=[rs,.int .u32 dn,.int .i32 st,.int .u32 0,nx,rl,.int .i64 e,.int .i64 c]
theorem purV_strip {k q : Nat} {H : Heap} {xs ys : List D} (h : hget H q = .arr xs) (hs : stripL xs = some ys) : pur (k + 2) H (.vec q 0 xs.length) = some (.sl false ys,H.set q (.fro xs)):=by
  rw [pur_vec,h]
  simp only [Nat.zero_add,Nat.le_refl,if_true,List.drop_zero,List.take_length]
  rw [purL_strip hs];rfl
theorem pures_vec1 {m : Nat} {v : D} {H : Heap} {xs : List D} (h : VecAt m v H xs) (hs : stripL xs = some xs) : ∃ H',pures H [v] = some ([.sl false xs],H') ∧ Same m H H':=by
  obtain ⟨h0,⟨rfl,rfl⟩ | ⟨h1,r,h2,h3,rfl,h4⟩⟩:=h
  · exact ⟨H,pures_strip (by simp [stripL,strip]),Same.refl⟩
  · refine ⟨H.set r (.fro xs),?_,Same.set h2⟩
    simp only [pures,deepest,purL]
    rw [show (6 : Nat) = 4 + 2 from rfl,purV_strip h4 hs]
    rfl
theorem zrDfa : zeroT Tryz.prog 77 = some (.agg [.sl true [],.sl true []]):=by kernel_rfl
theorem bdDfa (ps : List (Nat × D)) : buildD Tryz.prog 77 ps = (fillD (fun i=>([(0,1),(1,1)] : List (Nat × Nat))[i]?) (D.cells (.agg [.sl true [],.sl true []])) ps).map .agg:=by kernel_rfl
attribute [go_sem] zrDfa zr_rule bdDfa
theorem headRx (l : List Rx) : headSize 3 (l.map rxD) = true:=by cases l with
  | nil=>rfl
  | cons a l=>simp [headSize,rx_cells]
theorem strip_rxm (l : List Rx) : stripL (l.map rxD) = some (l.map rxD):=by rw [← rxDs_map];exact strip_rxs l
theorem app_rx {m : Nat} {d : D} {H : Heap} {l : List Rx} (h : VecAt m d H (l.map rxD)) (x : Rx) (hl : l.length ≤ 100000) : ∃ d' H',appendD Tryz.prog 81 (H ++ [Ob.arr [rxD x]]) d (.vec H.length 0 1) = some (d',H') ∧ VecAt m d' H' ((l ++ [x]).map rxD) ∧ Same m H H':=by
  have:=VecAt.append el81 sz83 by83 zr83 rfl (by decide) h (q:=rxD x) (rx_cells x) (strip_rx x) (headRx l) (by simp;omega)
  simpa using this
theorem ready_ok {l : List Rule} {d m : Dfa} {e : Int} (hl : l.length ≤ 1000) (hB : ∀ (H H' : Heap) (v : D) (K Kp : D → Heap → Prop),pures H [v] = some ([.sl false ((l.map Rule.rx).map rxD)],H') → PP (K (.tup [dfaD d,.int .i64 e]) H') → EvB Tryz.prog Am 70 [v] H K Kp)
    (hS : e = 0 → ∀ (H : Heap) (K Kp : D → Heap → Prop),PP (K (dfaD m) H) → EvB Tryz.prog Am 71 [dfaD d] H K Kp) {H : Heap} {p : Nat} {dn st e0 c : Int} {nx rl : D} (h : Cells H p (scC (rulesD l) dn st nx rl e0 c)) :
    EvF Tryz.prog Am 46 [.ptr p 0 0] H (fun _ H'=>Cells H' p (if e = 0 then scC (rulesD l) dn st (rowsD m.next) (isD m.rule) 0 c else scC (rulesD l) dn st nx rl e c) ∧ Kp1 p H H') (fun _ _=>False):=by
  have a1:=dfa_noTup d
  have a2:=dfa_cells d
  have a3:=dfa_aggQ d
  have b1:=dfa_noTup m
  have b2:=dfa_cells m
  have b3:=dfa_aggQ m
  obtain ⟨h1,h2⟩:=h
  refine evF_inB (n:=38) (rs:=[]) Tryz.func46 rfl rfl rfl rfl rfl rfl ?_
  repeat' (first | apply wz1|apply wz2|apply wz3|apply wz4|apply wz5|apply wz6 | simp -dsimp (maxSteps:=999999) (disch:=omega) only[go_sem,simprocAttr, *,scC,rulesD] | ((first | refine wz8 (fun hh=>?_) (fun hh=>?_) | refine wz9 (fun hh=>?_) (fun hh=>?_) | refine wpB_cond (by simp -dsimp (maxSteps:=999999) (disch:=omega) only[go_sem,simprocAttr, *,scC,rulesD];exact rfl) (fun hh=>?_) (fun hh=>?_)) <;> (try replace hh:=vqs hh) <;> (try (exfalso;first | exact hh | omega))))
  refine wpB_loop (fun e Hx=>∃ (j : Nat),j ≤ l.length ∧ Same H.length H Hx ∧ e 0 = .ptr p 0 0 ∧ VecAt H.length (e 2) Hx (((l.take j).map Rule.rx).map rxD) ∧ e 10 = .sl false (l.map ruleD) ∧ e 11 = .int .i64 l.length ∧ e 12 = .int .i64 j) (fun e H=>l.length - natOf (e 12)) ?_ ?_
  · exact ⟨0,by omega,Same.refl,gs,VecAt.nil (by simp),gs,gs,gs⟩
  rintro f Hx ⟨j,hj,hsm,e0',e2,e10,e11,e12⟩ R hR
  by_cases hb : j < l.length
  case neg=>
    rw [List.take_of_length_le (by omega)] at e2
    obtain ⟨H2,hp1,hp2⟩:=pures_vec1 e2 (strip_rxm _)
    have k1 : hget H2 p = .arr [.agg (scC (rulesD l) dn st nx rl e0 c)]:=by rw [(hsm.trans hp2).2 p h2,h1]
    have k2 : p < H2.length:=Nat.lt_of_lt_of_le h2 (hsm.trans hp2).1
    have k3 : Kp1 p H H2:=Kp1.same (hsm.trans hp2)
    have hB':=hB Hx H2 (f 2)
    clear hsm hp2 hB e2 h1 h2 hR
    repeat' (first | apply wz1|apply wz2|apply wz3|apply wz4|apply wz5|apply wz6 | simp -dsimp (maxSteps:=999999) (disch:=omega) only[go_sem,simprocAttr, *] | ((first | refine wz8 ?_ ?_|refine wz9 ?_ ?_|refine wz7 ?_ ?_)<;>intro hh <;> (try replace hh:=vqs hh) <;> (try (exfalso;first | exact hh | omega))))
    refine hB' _ _ hp1 ?_
    have hst : ∀ o X,hget ((H2 ++ [X]).set p o) p = o:=fun o X=>hget_set_eq (by simp;omega)
    have fin : ∀ o X,Cells ((H2 ++ [X]).set p (.arr [.agg o])) p o ∧ Kp1 p H ((H2 ++ [X]).set p (.arr [.agg o])):=fun o X=>⟨⟨hget_set_eq (by simp;omega),by simp;omega⟩,k3.trans (Kp1.app.trans Kp1.set)⟩
    by_cases he : e = 0
    · subst he
      have hS':=hS rfl
      clear hS
      repeat' (first | apply wz1|apply wz2|apply wz3|apply wz4|apply wz5|apply wz6 | simp -dsimp (maxSteps:=999999) (disch:=omega) only[go_sem,simprocAttr, *,scC] | ((first | refine wz8 (fun hh=>?_) (fun hh=>?_) | refine wz9 (fun hh=>?_) (fun hh=>?_) | refine wpB_cond (by simp -dsimp (maxSteps:=999999) (disch:=omega) only[go_sem,simprocAttr, *,scC];exact rfl) (fun hh=>?_) (fun hh=>?_)) <;> (try replace hh:=vqs hh) <;> (try (exfalso;first | exact hh | omega))))
      refine hS' _ _ _ ?_
      repeat' (first | apply wz1|apply wz2|apply wz3|apply wz4|apply wz5|apply wz6 | simp -dsimp (maxSteps:=999999) (disch:=omega) only[go_sem,simprocAttr, *,scC] | ((first | refine wz8 (fun hh=>?_) (fun hh=>?_) | refine wz9 (fun hh=>?_) (fun hh=>?_) | refine wpB_cond (by simp -dsimp (maxSteps:=999999) (disch:=omega) only[go_sem,simprocAttr, *,scC];exact rfl) (fun hh=>?_) (fun hh=>?_)) <;> (try replace hh:=vqs hh) <;> (try (exfalso;first | exact hh | omega))))
      rw [List.set_set]
      exact fin _ _
    · repeat' (first | apply wz1|apply wz2|apply wz3|apply wz4|apply wz5|apply wz6 | simp -dsimp (maxSteps:=999999) (disch:=omega) only[go_sem,simprocAttr, *,scC] | ((first | refine wz8 (fun hh=>?_) (fun hh=>?_) | refine wz9 (fun hh=>?_) (fun hh=>?_) | refine wpB_cond (by simp -dsimp (maxSteps:=999999) (disch:=omega) only[go_sem,simprocAttr, *,scC];exact rfl) (fun hh=>?_) (fun hh=>?_)) <;> (try replace hh:=vqs hh) <;> (try (exfalso;first | exact hh | omega))))
      all_goals first | exact fin _ _ | exact (fin _ _).1 | exact (fin _ _).2
  have hrg:=rule_get hb
  have hrx:=rule_rx l[j]
  have htk : l.take (j + 1) = l.take j ++ [l[j]]:=take_succ' hb
  generalize l[j] = r at *
  have hsa : Same H.length H (Hx ++ [Ob.arr [ruleD r]]):=hsm.trans (Same.app hsm.1)
  obtain ⟨d',H',hap,hv',hs'⟩:=app_rx (e2.app (L:=[Ob.arr [ruleD r]])) r.rx (by simp;omega)
  rw [hrx] at hap
  have q1:=rule_cells r
  have hed : ruleD r = .agg [.str r.nm,.int .u8 r.rx.k,.int .u16 r.rx.s,.sl false (rxDs r.rx.kids),.bool r.br]:=rfl
  rw [show (Hx ++ [Ob.arr [ruleD r]]).length = Hx.length + 1 by simp] at hap
  rw [hed] at hap hsa
  clear hB hS hed
  repeat' (first | apply wz1|apply wz2|apply wz3|apply wz4|apply wz5|apply wz6 | simp -dsimp (maxSteps:=999999) (disch:=omega) only[go_sem,simprocAttr, *] | ((first | refine wz8 ?_ ?_|refine wz9 ?_ ?_|refine wz7 ?_ ?_)<;>intro hh <;> (try replace hh:=vqs hh) <;> (try (exfalso;first | exact hh | omega))))
  refine hR _ _ ⟨j + 1,by omega,hsa.trans hs',gs,?_,gs,gs,gs⟩ ?_
  · show VecAt H.length d' H' (((l.take (j + 1)).map Rule.rx).map rxD)
    rw [htk,List.map_append]
    exact hv'
  · simp -dsimp (maxSteps:=999999) (disch:=omega) only[go_sem,simprocAttr, *,natOf_int]
theorem machine_new {l : List Rule} {d m : Dfa} {e : Int} (hl : l.length ≤ 1000) (hB : ∀ (H H' : Heap) (v : D) (K Kp : D → Heap → Prop),pures H [v] = some ([.sl false ((l.map Rule.rx).map rxD)],H') → PP (K (.tup [dfaD d,.int .i64 e]) H') → EvB Tryz.prog Am 70 [v] H K Kp)
    (hS : e = 0 → ∀ (H : Heap) (K Kp : D → Heap → Prop),PP (K (dfaD m) H) → EvB Tryz.prog Am 71 [dfaD d] H K Kp) {H : Heap} {p : Nat} {e0 c : Int} {nx rl : D} (h : Cells H p (scC (rulesD l) 0 0 nx rl e0 c)) :
    EvF Tryz.prog Am 35 [.ptr p 0 1,.bfn 46 [.ptr p 0 0]] H (fun _ H'=>Cells H' p (if e = 0 then scC (rulesD l) 1 0 (rowsD m.next) (isD m.rule) 0 c else scC (rulesD l) 1 0 nx rl e c) ∧ Kp1 p H H') (fun _ _=>False):=by
  refine EvF.mono (once_new (Q:=fun H' ds=>ds = (if e = 0 then scC (rulesD l) 0 1 (rowsD m.next) (isD m.rule) 0 c else scC (rulesD l) 0 1 nx rl e c) ∧ Kp1 p H H') h rfl rfl (.inr rfl) ?_) ?_ (fun _ _ h=>h)
  · have hr:=ready_ok hl hB hS (H:=H.set p (.arr [.agg (scC (rulesD l) 0 1 nx rl e0 c)])) (p:=p) (c:=c) ⟨hget_set_eq h.2,by simpa using h.2⟩
    refine evB_state bo46 rfl rfl hr ?_ (fun _ _ h=>h.elim)
    rintro _ H2 ⟨h1,h2⟩
    refine ⟨_,h1,?_,rfl,Kp1.set.trans h2⟩
    split <;> rfl
  · rintro _ _ ⟨H2,ds,h1,h2,⟨rfl,h3⟩,rfl⟩
    have hd : ((if e = 0 then scC (rulesD l) 0 1 (rowsD m.next) (isD m.rule) 0 c else scC (rulesD l) 0 1 nx rl e c).set 1 (.int .u32 1)).set (1 + 1) (.int .i32 0) = (if e = 0 then scC (rulesD l) 1 0 (rowsD m.next) (isD m.rule) 0 c else scC (rulesD l) 1 0 nx rl e c):=by split <;> rfl
    rw [hd]
    exact ⟨h1.set,h3.trans Kp1.set⟩
theorem machine_old {rs nx rl : D} {H : Heap} {p : Nat} {e c : Int} {F : D} (h : Cells H p (scC rs 1 0 nx rl e c)) : EvF Tryz.prog Am 35 [.ptr p 0 1,F] H (fun _ H'=>H' = H) (fun _ _=>False):=once_old h rfl
theorem machine_ok {rs : D} {m : Dfa} {e c : Int} {cs0 : List D} {H : Heap} {p : Nat} (h : Cells H p cs0) (hO : ∀ H, Cells H p cs0 → EvF Tryz.prog Am 35 [.ptr p 0 1, .bfn 46 [.ptr p 0 0]] H (fun _ H' => Cells H' p (scC rs 1 0 (rowsD m.next) (isD m.rule) e c) ∧ Kp1 p H H') (fun _ _ => False))
    (c1 : PureF Tryz.prog Am 47 [rowsD m.next] (rowsD m.next)) (c2 : PureF Tryz.prog Am 48 [isD m.rule] (isD m.rule)) :
    EvF Tryz.prog Am 28 [.ptr p 0 0] H (fun d H'=>d = .tup [dfaD m,.int .i64 e] ∧ Cells H' p (scC rs 1 0 (rowsD m.next) (isD m.rule) e c) ∧ Kp1 p H H') (fun _ _=>False):=by
  have hp:=h.2
  have s1:=strip_rowsD m.next
  have s2:=strip_is m.rule
  have hO1:=hO (H ++ [Ob.arr [.agg [.sl true [],.sl true []]]]) ⟨by rw [hget_app_lt hp];exact h.1,by simp;omega⟩
  refine evF_inB (n:=30) (rs:=[.cell 2 77,.tmp 3]) Tryz.func28 rfl rfl rfl rfl rfl rfl ?_
  repeat' (first | apply wz1|apply wz2|apply wz3|apply wz4|apply wz5|apply wz6 | simp -dsimp (maxSteps:=999999) (disch:=omega) only[go_sem,simprocAttr, *] | ((first | refine wz8 ?_ ?_|refine wz9 ?_ ?_|refine wz7 ?_ ?_)<;>intro hh <;> (try replace hh:=vqs hh) <;> (try (exfalso;first | exact hh | omega))))
  refine evB_state bo35 rfl rfl hO1 ?_ (fun _ _ h=>h.elim)
  rintro _ H2 ⟨⟨h1,h2⟩,h3⟩
  have h4 : hget H2 H.length = .arr [.agg [.sl true [],.sl true []]]:=by rw [h3.2 H.length (by simp) (by omega),hget_app0];rfl
  have h5 : H.length < H2.length:=by have:=h3.1;simp at this;omega
  clear hO hO1
  repeat' (first | apply wz1|apply wz2|apply wz3|apply wz4|apply wz5|apply wz6 | simp -dsimp (maxSteps:=999999) (disch:=omega) only[go_sem,simprocAttr, *,scC] | ((first | refine wz8 (fun hh=>?_) (fun hh=>?_) | refine wz9 (fun hh=>?_) (fun hh=>?_) | refine wpB_cond (by simp -dsimp (maxSteps:=999999) (disch:=omega) only[go_sem,simprocAttr, *,scC];exact rfl) (fun hh=>?_) (fun hh=>?_)) <;> (try replace hh:=vqs hh) <;> (try (exfalso;first | exact hh | omega))))
  refine wpB_regionXL (prs:=[([2],[28])]) (by kernel_rfl) rfl (by kernel_rfl) ?_;simp -dsimp (maxSteps:=999999) (disch:=omega) only[go_sem,simprocAttr, *,scC]
  refine ⟨fun _=>by rw [strip1 s1];rfl,evB_plain bo47 rfl rfl (strip1 s1) c1 ?_⟩
  simp -dsimp (maxSteps:=999999) (disch:=omega) only[go_sem,simprocAttr, *,scC]
  refine ⟨fun _=>by rw [strip1 s2];rfl,evB_plain bo48 rfl rfl (strip1 s2) c2 ?_⟩
  simp -dsimp (maxSteps:=999999) (disch:=omega) only[go_sem,simprocAttr, *,scC,rowsD,isD]
  repeat' (first | apply wz1|apply wz2|apply wz3|apply wz4|apply wz5|apply wz6 | simp -dsimp (maxSteps:=999999) (disch:=omega) only[go_sem,simprocAttr, *,scC,rowsD,isD] | ((first | refine wz8 (fun hh=>?_) (fun hh=>?_) | refine wz9 (fun hh=>?_) (fun hh=>?_) | refine wpB_cond (by simp -dsimp (maxSteps:=999999) (disch:=omega) only[go_sem,simprocAttr, *,scC,rowsD,isD];exact rfl) (fun hh=>?_) (fun hh=>?_)) <;> (try replace hh:=vqs hh) <;> (try (exfalso;first | exact hh | omega))))
  refine ⟨rfl,⟨by rw [hget_set_ne (by omega)];exact h1,by simpa using h2⟩,?_⟩
  exact ⟨by have:=h3.1;simp at this ⊢;omega,fun k hk hp=>by rw [hget_set_ne (by omega),h3.2 k (by simp;omega) hp,hget_app_lt hk]⟩
theorem cut_ok {rs : D} {m : Dfa} {c : Int} {cs0 : List D} {H : Heap} {p : Nat} (w : List Int) (h : Cells H p cs0) (hO : ∀ H, Cells H p cs0 → EvF Tryz.prog Am 35 [.ptr p 0 1, .bfn 46 [.ptr p 0 0]] H (fun _ H' => Cells H' p (scC rs 1 0 (rowsD m.next) (isD m.rule) 0 c) ∧ Kp1 p H H') (fun _ _ => False))
    (c1 : PureF Tryz.prog Am 47 [rowsD m.next] (rowsD m.next)) (c2 : PureF Tryz.prog Am 48 [isD m.rule] (isD m.rule)) (h0 : 0 ≤ c) (h1 : c ≤ 1000000) (hl : (cutL m w w.length 0).length ≤ 1000000)
    (hC : ∀ (H : Heap) (K Kp : D → Heap → Prop),PP (K (.sl false ((cutL m w w.length 0).map pcD)) H) → EvB Tryz.prog Am 40 [dfaD m,isD w] H K Kp) :
    EvF Tryz.prog Am 23 [.ptr p 0 0,isD w] H (fun d H'=>d = .tup [pcsD (cutL m w w.length 0),.int .i64 0] ∧ Cells H' p (scC rs 1 0 (rowsD m.next) (isD m.rule) 0 (c + (cutL m w w.length 0).length)) ∧ Kp1 p H H') (fun _ _=>False):=by
  have a1:=dfa_noTup m
  have a2:=dfa_cells m
  have a3:=dfa_aggQ m
  generalize cutL m w w.length 0 = P at *
  refine evF_inB (n:=27) (rs:=[.tmp 4,.tmp 5]) Tryz.func23 rfl rfl rfl rfl rfl rfl ?_
  repeat' (first | apply wz1|apply wz2|apply wz3|apply wz4|apply wz5|apply wz6 | simp -dsimp (maxSteps:=999999) (disch:=omega) only[go_sem,simprocAttr, *] | ((first | refine wz8 ?_ ?_|refine wz9 ?_ ?_|refine wz7 ?_ ?_)<;>intro hh <;> (try replace hh:=vqs hh) <;> (try (exfalso;first | exact hh | omega))))
  refine evB_state bo28 rfl rfl (machine_ok h hO c1 c2) ?_ (fun _ _ h=>h.elim)
  rintro _ H2 ⟨rfl,k1,k2⟩
  have hadd:=iadd_ok (H:=H2 ++ [Ob.arr [dfaD m]]) (p:=p) (j:=7) (cs:=scC rs 1 0 (rowsD m.next) (isD m.rule) 0 c) (n:=c) (m:=P.length) ⟨by rw [hget_app_lt k1.2];exact k1.1,by have:=k1.2;simp;omega⟩ rfl (by omega) (by omega)
  clear hO
  repeat' (first | apply wz1|apply wz2|apply wz3|apply wz4|apply wz5|apply wz6 | simp -dsimp (maxSteps:=999999) (disch:=omega) only[go_sem,simprocAttr, *] | ((first | refine wz8 ?_ ?_|refine wz9 ?_ ?_|refine wz7 ?_ ?_)<;>intro hh <;> (try replace hh:=vqs hh) <;> (try (exfalso;first | exact hh | omega))))
  refine hC _ _ _ ?_
  repeat' (first | apply wz1|apply wz2|apply wz3|apply wz4|apply wz5|apply wz6 | simp -dsimp (maxSteps:=999999) (disch:=omega) only[go_sem,simprocAttr, *] | ((first | refine wz8 ?_ ?_|refine wz9 ?_ ?_|refine wz7 ?_ ?_)<;>intro hh <;> (try replace hh:=vqs hh) <;> (try (exfalso;first | exact hh | omega))))
  refine evB_state bo38 rfl rfl hadd ?_ (fun _ _ h=>h.elim)
  rintro _ _ rfl
  repeat' (first | apply wz1|apply wz2|apply wz3|apply wz4|apply wz5|apply wz6 | simp -dsimp (maxSteps:=999999) (disch:=omega) only[go_sem,simprocAttr, *] | ((first | refine wz8 ?_ ?_|refine wz9 ?_ ?_|refine wz7 ?_ ?_)<;>intro hh <;> (try replace hh:=vqs hh) <;> (try (exfalso;first | exact hh | omega))))
  exact ⟨rfl,⟨hget_set_eq (by have:=k1.2;simp;omega),by have:=k1.2;simp;omega⟩,k2.trans (Kp1.app.trans Kp1.set)⟩
end Go.Proofs.W
end
section
namespace Go.Proofs.W
open Go Vm Go.Proofs.Zs25
def simT (f : List Int) (t : Int) : Int:=if t < 0 then -1 else f.getD t.toNat 0
def simRow (d m : Dfa) (f : List Int) (s : Nat) : Bool:=
  if f.getD s 0 < 0 then decide (d.rule.getD s 0 < 0) && (List.range 16).all fun c=>decide (simT f ((d.next.getD s []).getD c 0) < 0)
  else m.rule.getD (f.getD s 0).toNat 0 == d.rule.getD s 0 && (List.range 16).all fun c=>(m.next.getD (f.getD s 0).toNat []).getD c 0 == simT f ((d.next.getD s []).getD c 0)
def simOK (d m : Dfa) (f : List Int) : Bool:=f.getD 0 0 == 0 && allN (simRow d m f) 0 d.next.length
def outD (d : Dfa) (a : Int) (w : List Int) : Int:=if runD d a w < 0 then -1 else ruleAt d (runD d a w)
theorem next_rng {d : Dfa} (hr : rightD d = true) {s : Nat} (h : s < d.next.length) (c : Int) : -1 ≤ nextD d s c ∧ nextD d s c < d.next.length:=by
  unfold nextD
  split
  · have:=right_len hr;omega
  · rename_i hc
    have hrow:=(row_of hr h).2.2
    rw [Int.toNat_natCast]
    have:=right_len hr
    by_cases hl : c.toNat < (d.next.getD s []).length
    · have e : (d.next.getD s []).getD c.toNat 0 = (d.next.getD s [])[c.toNat]:=by
        rw [List.getD_eq_getElem?_getD (l:=d.next.getD s []),List.getElem?_eq_getElem hl];rfl
      rw [e]
      exact hrow _ (List.getElem_mem hl)
    · have e : (d.next.getD s []).getD c.toNat 0 = 0:=by
        rw [List.getD_eq_getElem?_getD,List.getElem?_eq_none (by omega)];rfl
      rw [e];omega
theorem sim_next {d m : Dfa} {f : List Int} {s : Nat} (h : simRow d m f s = true) (c : Int) :
    (f.getD s 0 < 0 → simT f (nextD d s c) < 0) ∧ (¬ f.getD s 0 < 0 → nextD m (f.getD s 0) c = simT f (nextD d s c)):=by
  unfold simRow at h
  unfold nextD
  by_cases hc : c < 0 ∨ 16 ≤ c
  · rw [if_pos hc,if_pos hc]
    exact ⟨fun _=>by simp [simT],fun _=>by simp [simT]⟩
  · rw [if_neg hc,if_neg hc]
    have hm : c.toNat ∈ List.range 16:=List.mem_range.2 (by omega)
    split at h
    · rename_i hd
      simp only [Bool.and_eq_true,List.all_eq_true,decide_eq_true_eq] at h
      exact ⟨fun _=>h.2 _ hm,fun hn=>absurd hd hn⟩
    · rename_i hd
      simp only [Bool.and_eq_true,List.all_eq_true,beq_iff_eq] at h
      exact ⟨fun hn=>absurd hn hd,fun _=>h.2 _ hm⟩
theorem sim_out {d m : Dfa} {f : List Int} (hr : rightD d = true) (h : allN (simRow d m f) 0 d.next.length = true) : ∀ (w : List Int) (s : Nat),s < d.next.length → (f.getD s 0 < 0 → outD d s w = -1) ∧ (0 ≤ f.getD s 0 → outD m (f.getD s 0) w = outD d s w)
  | [],s,hs=>by
    have hrow:=allN_iff.1 h s (by omega) (by omega)
    have hrl:=(row_of hr hs).1
    unfold simRow at hrow
    unfold outD runD
    rw [if_neg (by omega)]
    have e : ruleAt d (s : Int) = d.rule.getD s 0:=by unfold ruleAt;rw [Int.toNat_natCast]
    rw [e]
    split at hrow
    · rename_i hd
      simp only [Bool.and_eq_true,decide_eq_true_eq] at hrow
      exact ⟨fun _=>by omega,fun hn=>by omega⟩
    · rename_i hd
      simp only [Bool.and_eq_true,beq_iff_eq] at hrow
      refine ⟨fun hn=>absurd hn hd,fun _=>?_⟩
      rw [if_neg hd]
      exact hrow.1
  | c :: w,s,hs=>by
    have hrow:=allN_iff.1 h s (by omega) (by omega)
    obtain ⟨h1,h2⟩:=sim_next hrow c
    obtain ⟨n1,n2⟩:=next_rng hr hs c
    have step : ∀ (d : Dfa) (a : Int),outD d a (c :: w) = if nextD d a c < 0 then -1 else outD d (nextD d a c) w:=fun d a=>by
      unfold outD
      rw [runD]
      by_cases hn : nextD d a c < 0
      · rw [if_pos hn,if_pos (by omega),if_pos hn]
      · rw [if_neg hn,if_neg hn]
    rw [step d,step m]
    by_cases hn : nextD d s c < 0
    · rw [if_pos hn]
      refine ⟨fun _=>rfl,fun h0=>?_⟩
      rw [h2 (by omega),if_pos (by simp [simT,hn])]
    · rw [if_neg hn]
      obtain ⟨t,ht⟩ : ∃ t : Nat,nextD d s c = t:=⟨(nextD d s c).toNat,by omega⟩
      rw [ht] at n2 h1 h2 ⊢
      obtain ⟨i1,i2⟩:=sim_out hr h w t (by omega)
      have hT : simT f (t : Int) = f.getD t 0:=by simp [simT];omega
      rw [hT] at h1 h2
      refine ⟨fun h0=>i1 (h1 h0),fun h0=>?_⟩
      rw [h2 (by omega)]
      by_cases hx : f.getD t 0 < 0
      · rw [if_pos hx,i1 hx]
      · rw [if_neg hx]
        exact i2 (by omega)
theorem sim_match {d m : Dfa} {f : List Int} (hd : rightD d = true) (hm : rightD m = true) (h : simOK d m f = true) (w : List Int) : matchD m w = matchD d w:=by
  unfold simOK at h
  simp only [Bool.and_eq_true,beq_iff_eq] at h
  have hl:=right_len hd
  have:=(sim_out hd h.2 w 0 (by omega)).2 (by omega)
  rw [h.1] at this
  unfold matchD
  rw [if_pos hd,if_pos hm]
  exact this
end Go.Proofs.W
end
section
namespace Go.Proofs.W
open Go Vm Go.Proofs.Zs25
theorem dbuild_law {l : List Rx} {d : Dfa} (h : dbuild l = (d,0)) : rightD d = true ∧ tyM d ∧ (∀ v,matchD d v = firstZ v l 0) ∧ (∃ n,Pre n l) ∧ (∀ r ∈ l,rightR r = true) ∧ l.length ≤ 16:=by
  unfold dbuild at h
  cases hb : buildN l with
  | none=>rw [hb] at h;simp at h
  | some n=>
    rw [hb] at h
    simp only at h
    cases hq : runB n 202 0 [clos n [0]] [] with
    | none=>rw [hq] at h;simp at h
    | some p=>
      obtain ⟨ls,nx⟩:=p
      rw [hq] at h
      simp only [Prod.mk.injEq,and_true] at h
      subst h
      obtain ⟨-,-,g3,g4⟩:=build_right hb
      have hrr:=right_row g3
      obtain ⟨k1,k2⟩:=runB_done _ _ _ _ _ _ (done_zero (clos_zero (by omega))) (by simp) hq
      obtain ⟨hp,hrt⟩:=buildN_pre hb
      exact ⟨mk_right g3 k1 k2,mk_ty k1,fun w=>(mk_match g3 k1 k2 w).trans (match_first hp hrt g3 w),⟨n,hp⟩,hrt,g4⟩
theorem words_by {l : List Rule} {d m : Dfa} (h : dbuild (l.map Rule.rx) = (d,0)) (hm : rightD m = true) (ht : tyM m) (hs : ∀ w,matchD m w = matchD d w) (w : List Int) (n : Nat) (a : Int) (h0 : 0 ≤ a) : wordsL l w n a = cutL m w n a:=by
  obtain ⟨-,-,h3,⟨nf,h4⟩,h5,-⟩:=dbuild_law h
  refine words_cut hm ht l w (fun v=>(hs v).trans (h3 v)) (fun u r hr k hk=>?_) n a h0
  exact has_take h4 h5 u hk (List.mem_map_of_mem hr)
end Go.Proofs.W
end
section
namespace Go.Proofs.W
open Go Vm Go.Proofs.Zs25
def fs1 : List Int:=[0,1,2,3,4,5,6,7,8,2,1,9,3]
theorem sim1 : simOK ⟨nx1,rl1⟩ ⟨mx1,ml1⟩ fs1 = true:=by kernel_rfl
theorem mr1 : rightD ⟨mx1,ml1⟩ = true:=by kernel_rfl
theorem mt1 : tyM ⟨mx1,ml1⟩:=show ∀ r ∈ mx1,r.length = 16 by decide
def rul1 : List Rule:=[⟨[115,116,100],gr1.getD 0 default,false⟩,⟨[98,97,100],gr1.getD 1 default,true⟩]
theorem rulx1 : rul1.map Rule.rx = gr1:=rfl
theorem law1 (w : List Int) (n : Nat) (a : Int) (h0 : 0 ≤ a) : wordsL rul1 w n a = cutL ⟨mx1,ml1⟩ w n a:=
  words_by (d:=⟨nx1,rl1⟩) (by rw [rulx1];exact dbuild_comp bld1 cmp1) mr1 mt1 (fun w=>sim_match (dbuild_law (dbuild_comp bld1 cmp1)).1 mr1 sim1 w) w n a h0
def fs2 : List Int:=[0,1,2,3,4,5,6,7,8,9,10,11,12,13,14,15,3,16,17,18,19,20,9,21,2,5,12,17]
theorem sim2 : simOK ⟨nx2,rl2⟩ ⟨mx2,ml2⟩ fs2 = true:=by kernel_rfl
theorem mr2 : rightD ⟨mx2,ml2⟩ = true:=by kernel_rfl
theorem mt2 : tyM ⟨mx2,ml2⟩:=show ∀ r ∈ mx2,r.length = 16 by decide
def rul2 : List Rule:=[⟨[99,111,110,115],gr2.getD 0 default,false⟩,⟨[118,111,119],gr2.getD 1 default,false⟩,⟨[112,108,97,99,101],gr2.getD 2 default,false⟩,⟨[98,97,100],gr2.getD 3 default,true⟩]
theorem rulx2 : rul2.map Rule.rx = gr2:=rfl
theorem law2 (w : List Int) (n : Nat) (a : Int) (h0 : 0 ≤ a) : wordsL rul2 w n a = cutL ⟨mx2,ml2⟩ w n a:=
  words_by (d:=⟨nx2,rl2⟩) (by rw [rulx2];exact dbuild_comp bld2 cmp2) mr2 mt2 (fun w=>sim_match (dbuild_law (dbuild_comp bld2 cmp2)).1 mr2 sim2 w) w n a h0
def fs3 : List Int:=[0,1,2,1,3,4,5,6,1,2,7,8]
theorem sim3 : simOK ⟨nx3,rl3⟩ ⟨mx3,ml3⟩ fs3 = true:=by kernel_rfl
theorem mr3 : rightD ⟨mx3,ml3⟩ = true:=by kernel_rfl
theorem mt3 : tyM ⟨mx3,ml3⟩:=show ∀ r ∈ mx3,r.length = 16 by decide
def rul3 : List Rule:=[⟨[115,121,108],gr3.getD 0 default,false⟩,⟨[98,97,100],gr3.getD 1 default,true⟩]
theorem rulx3 : rul3.map Rule.rx = gr3:=rfl
theorem law3 (w : List Int) (n : Nat) (a : Int) (h0 : 0 ≤ a) : wordsL rul3 w n a = cutL ⟨mx3,ml3⟩ w n a:=
  words_by (d:=⟨nx3,rl3⟩) (by rw [rulx3];exact dbuild_comp bld3 cmp3) mr3 mt3 (fun w=>sim_match (dbuild_law (dbuild_comp bld3 cmp3)).1 mr3 sim3 w) w n a h0
def fs4 : List Int:=[0,1,2,3,4,5,6,7,8,8,2,9,6,1,10,4]
theorem sim4 : simOK ⟨nx4,rl4⟩ ⟨mx4,ml4⟩ fs4 = true:=by kernel_rfl
theorem mr4 : rightD ⟨mx4,ml4⟩ = true:=by kernel_rfl
theorem mt4 : tyM ⟨mx4,ml4⟩:=show ∀ r ∈ mx4,r.length = 16 by decide
def rul4 : List Rule:=[⟨[115,121,108],gr4.getD 0 default,false⟩,⟨[98,97,100],gr4.getD 1 default,true⟩]
theorem rulx4 : rul4.map Rule.rx = gr4:=rfl
theorem law4 (w : List Int) (n : Nat) (a : Int) (h0 : 0 ≤ a) : wordsL rul4 w n a = cutL ⟨mx4,ml4⟩ w n a:=
  words_by (d:=⟨nx4,rl4⟩) (by rw [rulx4];exact dbuild_comp bld4 cmp4) mr4 mt4 (fun w=>sim_match (dbuild_law (dbuild_comp bld4 cmp4)).1 mr4 sim4 w) w n a h0
end Go.Proofs.W
end
section
namespace Go.Proofs.W
open Go Vm Go.Proofs.Zs25
theorem eqMd (xs ys : List D) : eqD Tryz.prog 26 (.agg xs) (.agg ys) = eqK [0,2,1,0] xs ys:=by kernel_rfl
attribute [go_sem] eqMd eqK eqK1
end Go.Proofs.W
end
section
namespace Go.Proofs.W
open Go Vm Go.Proofs.Zs25
theorem gra_no (x : Int) (h1 : ¬ x = 1) (h2 : ¬ x = 2) (h3 : ¬ x = 3) (h4 : ¬ x = 4) : PureF Tryz.prog B 16 [.int .i64 x] (.str []):=by
  refine evF_inB (n:=12) (rs:=[.tmp 2]) Tryz.func16 rfl rfl rfl rfl rfl rfl ?_
  repeat' (first | apply wz1|apply wz2|apply wz3|apply wz4|apply wz5|apply wz6 | simp -dsimp (maxSteps:=999999) (disch:=omega) only[go_sem,simprocAttr, *] | ((first | refine wz8 ?_ ?_|refine wz9 ?_ ?_|refine wz7 ?_ ?_)<;>intro hh <;> (try replace hh:=vqs hh) <;> (try (exfalso;first | exact hh | omega))))
  rfl
theorem eqBool (x y : Bool) : eqD Tryz.prog 4 (.bool x) (.bool y) = some (x == y):=by kernel_rfl
attribute [go_sem] eqBool
end Go.Proofs.W
end
section
namespace Go.Proofs.W
open Go Vm Go.Proofs.Zs25
theorem tabP_at {t : List (List D × D)} {args bs : List D} {H H' : Heap} {d : D} (ha : pures H args = some (bs,H')) (h : tabF bs t = some d) : tabP t args H = some (.ok d (if flat d then H else H')):=by
  unfold tabP
  rw [ha,Option.bind_some]
  simp only
  rw [h]
  rfl
structure Kind (k : Nat) (tx : List UInt8) (l : List Rule) (d m : Dfa) : Prop where
  rng : 1 ≤ k ∧ k ≤ 4
  gram : PureF Tryz.prog B 16 [.int .i64 k] (.str tx)
  ne : (tx == []) = false
  prs : tabF [.str tx] prT = some (.tup [rulesD l,.int .i64 0,.int .i64 0])
  new : ∃ n,runF Tryz.prog Am n 37 [rulesD l] [] = some (.ok (.ptr 0 0 0) [.arr [.agg (scC (rulesD l) 0 0 (.sl true []) (.sl true []) 0 0)]])
  bld : tabF [.sl false ((l.map Rule.rx).map rxD)] dbT = some (.tup [dfaD d,.int .i64 0])
  sml : ∀ H,smF [dfaD d] H = some (.ok (dfaD m) H)
  rls : PureF Tryz.prog B 26 [.int .i64 k] (rulesD l)
  c1 : PureF Tryz.prog Am 47 [rowsD m.next] (rowsD m.next)
  c2 : PureF Tryz.prog Am 48 [isD m.rule] (isD m.rule)
  law : ∀ (w : List Int) (n : Nat) (a : Int),0 ≤ a → wordsL l w n a = cutL m w n a
  right : rightD m = true
  ty : tyM m
  ok : ∀ r ∈ l,okR r.rx ∧ shapesR r.rx = true
  len : l.length ≤ 16
theorem shelf_none {kind : Int} {q : D} (hq : q = .nilp ∨ ∃ p,q = .ptr p 0 0) (hk : PureF Tryz.prog B 16 [.int .i64 kind] (.str []) ∨ q = .nilp) (H : Heap) : EvF Tryz.prog Am 21 [q,.int .i64 kind] H (fun d H'=>d = .nilp ∧ Same H.length H H') (fun _ _=>False):=by
  have g1 : ∀ X Y : Ob,hget (H ++ [X] ++ [Y]) H.length = X:=fun X Y=>by rw [hget_app_lt (by simp),hget_app0];rfl
  have g2 : ∀ X Y : Ob,hget (H ++ [X] ++ [Y]) (H.length + 1) = Y:=fun X Y=>by have:=hget_app0 (H:=H ++ [X]) (L:=[Y]);simpa [hget_cons0] using this
  rcases hq with rfl | ⟨p,rfl⟩
  · refine evF_inB (n:=27) (rs:=[.tmp 4]) Tryz.func21 rfl rfl rfl rfl rfl rfl ?_
    repeat' (first | apply wz1|apply wz2|apply wz3|apply wz4|apply wz5|apply wz6 | simp -dsimp (maxSteps:=999999) (disch:=omega) only[go_sem,simprocAttr, *] | ((first | refine wz8 ?_ ?_|refine wz9 ?_ ?_|refine wz7 ?_ ?_)<;>intro hh <;> (try replace hh:=vqs hh) <;> (try (exfalso;first | exact hh | omega))))
    exact ⟨by simp,fun k hk=>by rw [List.append_assoc,hget_app_lt hk]⟩
  · rcases hk with hk | hk
    · refine evF_inB (n:=27) (rs:=[.tmp 4]) Tryz.func21 rfl rfl rfl rfl rfl rfl ?_
      repeat' (first | apply wz1|apply wz2|apply wz3|apply wz4|apply wz5|apply wz6 | simp -dsimp (maxSteps:=999999) (disch:=omega) only[go_sem,simprocAttr, *] | ((first | refine wz8 ?_ ?_|refine wz9 ?_ ?_|refine wz7 ?_ ?_)<;>intro hh <;> (try replace hh:=vqs hh) <;> (try (exfalso;first | exact hh | omega))))
      refine evB_told (A:=B) bo16 (by rfl) (by rfl) rfl hk ?_
      repeat' (first | apply wz1|apply wz2|apply wz3|apply wz4|apply wz5|apply wz6 | simp -dsimp (maxSteps:=999999) (disch:=omega) only[go_sem,simprocAttr, *] | ((first | refine wz8 ?_ ?_|refine wz9 ?_ ?_|refine wz7 ?_ ?_)<;>intro hh <;> (try replace hh:=vqs hh) <;> (try (exfalso;first | exact hh | omega))))
      exact ⟨by simp,fun k hk=>by rw [List.append_assoc,hget_app_lt hk]⟩
    · cases hk
theorem closure_ok {k b2 b3 b5 p : Nat} {tx : List UInt8} {l : List Rule} {d m : Dfa} {H : Heap} {ds : List D} {made : Int} (hK : Kind k tx l d m) (h : Cells H p ds) (h3 : hget H b3 = .arr [.int .i64 k]) (h5 : hget H b5 = .arr [.ptr p 0 (k * 4)]) (h2 : hget H b2 = .arr [.ptr p 0 0])
    (n3 : b3 ≠ p) (n5 : b5 ≠ p) (n2 : b2 ≠ p) (hl : 29 ≤ ds.length) (hm : ds[28]? = some (.int .i64 made)) (hm0 : 0 ≤ made) (hm1 : made ≤ 1000) :
    EvF Tryz.prog Am 36 [.ptr b3 0 0,.ptr b5 0 0,.ptr b2 0 0] H (fun _ H'=>Cells H' p ((ds.set (k * 4 + 3) (.ptr H.length 0 0)).set 28 (.int .i64 (made + 1))) ∧ Cells H' H.length (scC (rulesD l) 0 0 (.sl true []) (.sl true []) 0 0) ∧ Kp1 p H H') (fun _ _=>False):=by
  obtain ⟨k1,k2⟩:=hK.rng
  have hg:=hK.gram
  obtain ⟨nn,hnew⟩:=hK.new
  have hp : tabP prT [.str tx] H = some (.ok (.tup [rulesD l,.int .i64 0,.int .i64 0]) H):=by rw [tabP_at (pures_strip rfl) hK.prs,ite_self]
  obtain ⟨hc,hlt⟩:=h
  refine evF_inB (n:=22) (rs:=[]) Tryz.func36 rfl rfl rfl rfl rfl rfl ?_
  repeat' (first | apply wz1|apply wz2|apply wz3|apply wz4|apply wz5|apply wz6 | simp -dsimp (maxSteps:=999999) (disch:=omega) only[go_sem,simprocAttr, *] | ((first | refine wz8 ?_ ?_|refine wz9 ?_ ?_|refine wz7 ?_ ?_)<;>intro hh <;> (try replace hh:=vqs hh) <;> (try (exfalso;first | exact hh | omega))))
  refine evB_told (A:=B) bo16 (by rfl) (by rfl) rfl hg ?_
  repeat' (first | apply wz1|apply wz2|apply wz3|apply wz4|apply wz5|apply wz6 | simp -dsimp (maxSteps:=999999) (disch:=omega) only[go_sem,simprocAttr, *] | ((first | refine wz8 ?_ ?_|refine wz9 ?_ ?_|refine wz7 ?_ ?_)<;>intro hh <;> (try replace hh:=vqs hh) <;> (try (exfalso;first | exact hh | omega))))
  refine evB_prim bo27 rfl hp ?_
  repeat' (first | apply wz1|apply wz2|apply wz3|apply wz4|apply wz5|apply wz6 | simp -dsimp (maxSteps:=999999) (disch:=omega) only[go_sem,simprocAttr, *] | ((first | refine wz8 ?_ ?_|refine wz9 ?_ ?_|refine wz7 ?_ ?_)<;>intro hh <;> (try replace hh:=vqs hh) <;> (try (exfalso;first | exact hh | omega))))
  refine wpB_regionXL (prs:=[([15],[1])]) (by kernel_rfl) rfl (by kernel_rfl) ?_;simp -dsimp (maxSteps:=999999) (disch:=omega) only[go_sem,simprocAttr, *]
  have hfr : freshR (.ptr 0 0 0) [.arr [.agg (scC (rulesD l) 0 0 (.sl true []) (.sl true []) 0 0)]] H = some (.ok (.ptr H.length 0 0) (H ++ [.arr [.agg (scC (rulesD l) 0 0 (.sl true []) (.sl true []) 0 0)]])):=by
    simp [freshR,bareOb,bareL,bareD,scC,bare_strip (strip_rulesD l),moveTo]
  refine ⟨fun _=>by rw [strip1 (strip_rulesD l)];rfl,evB_fresh (by kernel_rfl) (by rfl) (by rfl) (strip1 (strip_rulesD l)) ⟨nn,_,hnew,hfr⟩ ?_⟩
  have lb2:=lt_of_hget h2
  have lb3:=lt_of_hget h3
  have lb5:=lt_of_hget h5
  have hsp : List.take (k * 4 + 3) ds ++ [D.ptr H.length 0 0] ++ List.drop (k * 4 + 3 + 1) ds = ds.set (k * 4 + 3) (.ptr H.length 0 0):=splice_one (v:=.ptr H.length 0 0) (by omega)
  simp -dsimp (maxSteps:=999999) (disch:=omega) only[go_sem,simprocAttr, *]
  generalize hds : ds.set (k * 4 + 3) (.ptr H.length 0 0) = ds'
  have m1 : ds'[28]? = some (.int .i64 made):=by rw [← hds,List.getElem?_set_ne (by omega)];exact hm
  generalize hX : (Ob.arr [D.agg (scC (rulesD l) 0 0 (.sl true []) (.sl true []) 0 0)]) = X
  generalize hH5 : (H ++ [X]).set p (.arr [.agg ds']) = H5
  have w1 : Cells H5 p ds':=by rw [← hH5];exact ⟨hget_set_eq (by simp;omega),by simp;omega⟩
  have w2 : hget H5 b2 = .arr [.ptr p 0 0]:=by rw [← hH5,hget_set_ne (by omega),hget_app_lt lb2,h2]
  have w3 : hget H5 H.length = X:=by rw [← hH5,hget_set_ne (by omega),hget_app0];rfl
  have w4 : Kp1 p H H5:=by rw [← hH5];exact Kp1.app.trans Kp1.set
  have w5 : H.length < H5.length:=by rw [← hH5];simp
  have hadd:=iadd_ok (m:=1) w1 m1 (by omega) (by omega)
  have fin : Cells (H5.set p (.arr [.agg (ds'.set 28 (.int .i64 (made + 1)))])) p (ds'.set 28 (.int .i64 (made + 1))) ∧ Cells (H5.set p (.arr [.agg (ds'.set 28 (.int .i64 (made + 1)))])) H.length (scC (rulesD l) 0 0 (.sl true []) (.sl true []) 0 0) ∧ Kp1 p H (H5.set p (.arr [.agg (ds'.set 28 (.int .i64 (made + 1)))])):=
    ⟨w1.set,⟨by rw [hget_set_ne (by omega),w3,← hX],by simpa using w5⟩,w4.trans Kp1.set⟩
  clear w1 w3 w4 w5 hH5 hX hds hsp hfr hnew hp
  repeat' (first | apply wz1|apply wz2|apply wz3|apply wz4|apply wz5|apply wz6 | simp -dsimp (maxSteps:=999999) (disch:=omega) only[go_sem,simprocAttr, *] | ((first | refine wz8 ?_ ?_|refine wz9 ?_ ?_|refine wz7 ?_ ?_)<;>intro hh <;> (try replace hh:=vqs hh) <;> (try (exfalso;first | exact hh | omega))))
  refine evB_state bo38 rfl rfl hadd ?_ (fun _ _ h=>h.elim)
  rintro _ _ rfl
  repeat' (first | apply wz1|apply wz2|apply wz3|apply wz4|apply wz5|apply wz6 | simp -dsimp (maxSteps:=999999) (disch:=omega) only[go_sem,simprocAttr, *] | ((first | refine wz8 ?_ ?_|refine wz9 ?_ ?_|refine wz7 ?_ ?_)<;>intro hh <;> (try replace hh:=vqs hh) <;> (try (exfalso;first | exact hh | omega))))
  exact ⟨fin.1,fin.2.1⟩
def NewQ (k p : Nat) (cs : List D) (made : Int) (rs : D) (H : Heap) (d : D) (H' : Heap) : Prop:=∃ (r : Nat) (cs' : List D),H.length ≤ r ∧ d = .ptr r 0 0 ∧ Cells H' p cs' ∧ cs'.length = cs.length ∧ cs'[k * 4]? = some (.int .u32 1) ∧ cs'[k * 4 + 3]? = some (.ptr r 0 0) ∧ cs'[28]? = some (.int .i64 (made + 1)) ∧
  (∀ x,x ≠ k * 4 → x ≠ k * 4 + 1 → x ≠ k * 4 + 3 → x ≠ 28 → cs'[x]? = cs[x]?) ∧ Cells H' r (scC rs 0 0 (.sl true []) (.sl true []) 0 0) ∧ Kp1 p H H'
theorem shelf_new {k p : Nat} {tx : List UInt8} {l : List Rule} {d m : Dfa} {H : Heap} {cs : List D} {made : Int} (hK : Kind k tx l d m) (h : Cells H p cs) (hl : 29 ≤ cs.length) (hc : cs[k * 4]? = some (.int .u32 0)) (hc1 : cs[k * 4 + 1]? = some (.int .i32 0)) (hm : cs[28]? = some (.int .i64 made)) (hm0 : 0 ≤ made) (hm1 : made ≤ 1000) :
    EvF Tryz.prog Am 21 [.ptr p 0 0,.int .i64 k] H (NewQ k p cs made (rulesD l) H) (fun _ _=>False):=by
  obtain ⟨k1,k2⟩:=hK.rng
  have hg:=hK.gram
  have hne:=hK.ne
  obtain ⟨h1,hlt⟩:=h
  have g1 : ∀ X Y : Ob,hget (H ++ [X] ++ [Y]) H.length = X:=fun X Y=>by rw [hget_app_lt (by simp),hget_app0];rfl
  have g2 : ∀ X Y : Ob,hget (H ++ [X] ++ [Y]) (H.length + 1) = Y:=fun X Y=>by have:=hget_app0 (H:=H ++ [X]) (L:=[Y]);simpa [hget_cons0] using this
  have g3 : ∀ X Y Z : Ob,hget (H ++ [X] ++ [Y] ++ [Z]) H.length = X:=fun X Y Z=>by rw [hget_app_lt (by simp),g1]
  have g4 : ∀ X Y Z : Ob,hget (H ++ [X] ++ [Y] ++ [Z]) (H.length + 1) = Y:=fun X Y Z=>by rw [hget_app_lt (by simp),g2]
  have g5 : ∀ X Y Z : Ob,hget (H ++ [X] ++ [Y] ++ [Z]) (H.length + 1 + 1) = Z:=fun X Y Z=>by have:=hget_app0 (H:=H ++ [X] ++ [Y]) (L:=[Z]);simpa [hget_cons0] using this
  have g6 : ∀ X Y Z Z' : Ob,(H ++ [X] ++ [Y] ++ [Z]).set (H.length + 1 + 1) Z' = H ++ [X] ++ [Y] ++ [Z']:=fun X Y Z Z'=>by
    have h:=set_app0 (H:=H ++ [X] ++ [Y]) (L:=[Z]) (o:=Z')
    rw [show (H ++ [X] ++ [Y]).length = H.length + 1 + 1 by simp] at h
    rw [h];rfl
  have g7 : ∀ X Y Z : Ob,hget (H ++ [X] ++ [Y] ++ [Z]) p = hget H p:=fun X Y Z=>by rw [hget_app_lt (by simp;omega),hget_app_lt (by simp;omega),hget_app_lt (by omega)]
  refine evF_inB (n:=27) (rs:=[.tmp 4]) Tryz.func21 rfl rfl rfl rfl rfl rfl ?_
  repeat' (first | apply wz1|apply wz2|apply wz3|apply wz4|apply wz5|apply wz6 | simp -dsimp (maxSteps:=999999) (disch:=omega) only[go_sem,simprocAttr, *] | ((first | refine wz8 ?_ ?_|refine wz9 ?_ ?_|refine wz7 ?_ ?_)<;>intro hh <;> (try replace hh:=vqs hh) <;> (try (exfalso;first | exact hh | omega))))
  refine evB_told (A:=B) bo16 (by rfl) (by rfl) rfl hg ?_
  repeat' (first | apply wz1|apply wz2|apply wz3|apply wz4|apply wz5|apply wz6 | simp -dsimp (maxSteps:=999999) (disch:=omega) only[go_sem,simprocAttr, *] | ((first | refine wz8 ?_ ?_|refine wz9 ?_ ?_|refine wz7 ?_ ?_)<;>intro hh <;> (try replace hh:=vqs hh) <;> (try (exfalso;first | exact hh | omega))))
  refine wpB_regionXL (prs:=[([5],[2]),([5],[3]),([5],[16])]) (by kernel_rfl) rfl (by kernel_rfl) ?_;simp -dsimp (maxSteps:=999999) (disch:=omega) only[go_sem,simprocAttr, *]
  repeat' (first | apply wz1|apply wz2|apply wz3|apply wz4|apply wz5|apply wz6 | simp -dsimp (maxSteps:=999999) (disch:=omega) only[go_sem,simprocAttr, *] | ((first | refine wz8 ?_ ?_|refine wz9 ?_ ?_|refine wz7 ?_ ?_)<;>intro hh <;> (try replace hh:=vqs hh) <;> (try (exfalso;first | exact hh | omega))))
  generalize hH4 : H ++ [Ob.arr [D.ptr p 0 0]] ++ [Ob.arr [D.int IntKind.i64 k]] ++ [Ob.arr [D.ptr p 0 (k * 4)]] = H4
  have x1 : hget H4 p = .arr [.agg cs]:=by rw [← hH4,g7,h1]
  have x2 : hget H4 (H.length + 1) = .arr [.int .i64 k]:=by rw [← hH4,g4]
  have x3 : hget H4 (H.length + 1 + 1) = .arr [.ptr p 0 (k * 4)]:=by rw [← hH4,g5]
  have x4 : hget H4 H.length = .arr [.ptr p 0 0]:=by rw [← hH4,g3]
  have x5 : H4.length = H.length + 3:=by rw [← hH4];simp
  have x6 : ∀ q,q < H.length → hget H4 q = hget H q:=fun q hq=>by rw [← hH4,hget_app_lt (by simp;omega),hget_app_lt (by simp;omega),hget_app_lt (by omega)]
  clear hH4 g1 g2 g3 g4 g5 g6 g7
  have hx4 : Cells H4 p cs:=⟨x1,by omega⟩
  have hset : ∀ (i : Nat) (v : D) (x : Nat),x ≠ i → (cs.set i v)[x]? = cs[x]?:=fun i v x hx=>List.getElem?_set_ne (by omega)
  have hclo:=closure_ok (H:=H4.set p (.arr [.agg (cs.set (k * 4 + 1) (.int .i32 1))])) (ds:=cs.set (k * 4 + 1) (.int .i32 1)) (b2:=H.length) (b3:=H.length + 1) (b5:=H.length + 1 + 1) (p:=p) (made:=made) hK hx4.set (by rw [hget_set_ne (by omega)];exact x2) (by rw [hget_set_ne (by omega)];exact x3) (by rw [hget_set_ne (by omega)];exact x4) (by omega) (by omega) (by omega) (by simpa using hl) (by rw [List.getElem?_set_ne (by omega)];exact hm) hm0 hm1
  rw [show (H4.set p (.arr [.agg (cs.set (k * 4 + 1) (.int .i32 1))])).length = H.length + 3 by simp;omega] at hclo
  refine evB_state bo35 rfl rfl (once_new (j:=k * 4) (Q:=fun H2 ds=>ds = ((cs.set (k * 4 + 1) (.int .i32 1)).set (k * 4 + 3) (.ptr (H.length + 3) 0 0)).set 28 (.int .i64 (made + 1)) ∧ Cells H2 (H.length + 3) (scC (rulesD l) 0 0 (.sl true []) (.sl true []) 0 0) ∧ Kp1 p H4 H2) hx4 hc hc1 (.inl rfl) ?_) ?_ (fun _ _ h=>h.elim)
  · refine evB_state bo36 rfl rfl hclo ?_ (fun _ _ h=>h.elim)
    rintro _ H2 ⟨y1,y2,y3⟩
    refine ⟨_,y1,?_,rfl,y2,Kp1.set.trans y3⟩
    rw [List.getElem?_set_ne (by omega),List.getElem?_set_ne (by omega),List.getElem?_set_self (by omega)]
  rintro _ _ ⟨H2,ds,y1,y2,⟨rfl,y3,y4⟩,rfl⟩
  generalize hcs : ((((cs.set (k * 4 + 1) (.int .i32 1)).set (k * 4 + 3) (.ptr (H.length + 3) 0 0)).set 28 (.int .i64 (made + 1))).set (k * 4) (.int .u32 1)).set (k * 4 + 1) (.int .i32 0) = cs'
  have z1 : cs'[k * 4]? = some (.int .u32 1):=by rw [← hcs,List.getElem?_set_ne (by omega),List.getElem?_set_self (by simp;omega)]
  have z2 : cs'[k * 4 + 3]? = some (.ptr (H.length + 3) 0 0):=by rw [← hcs,List.getElem?_set_ne (by omega),List.getElem?_set_ne (by omega),List.getElem?_set_ne (by omega),List.getElem?_set_self (by simp;omega)]
  have z3 : cs'[28]? = some (.int .i64 (made + 1)):=by rw [← hcs,List.getElem?_set_ne (by omega),List.getElem?_set_ne (by omega),List.getElem?_set_self (by simp;omega)]
  have z4 : ∀ x,x ≠ k * 4 → x ≠ k * 4 + 1 → x ≠ k * 4 + 3 → x ≠ 28 → cs'[x]? = cs[x]?:=fun x a1 a2 a3 a4=>by rw [← hcs,List.getElem?_set_ne (by omega),List.getElem?_set_ne (by omega),List.getElem?_set_ne (by omega),List.getElem?_set_ne (by omega),List.getElem?_set_ne (by omega)]
  have z5 : cs'.length = cs.length:=by rw [← hcs];simp
  have z6 : 29 ≤ cs'.length:=by omega
  have w1 : hget (H2.set p (.arr [.agg cs'])) p = .arr [.agg cs']:=hget_set_eq y1.2
  have w2 : hget (H2.set p (.arr [.agg cs'])) (H.length + 1 + 1) = .arr [.ptr p 0 (k * 4)]:=by rw [hget_set_ne (by omega),y4.2 _ (by omega) (by omega),x3]
  have w3 : Cells (H2.set p (.arr [.agg cs'])) (H.length + 3) (scC (rulesD l) 0 0 (.sl true []) (.sl true []) 0 0):=⟨by rw [hget_set_ne (by omega)];exact y3.1,by simpa using y3.2⟩
  have w4 : Kp1 p H (H2.set p (.arr [.agg cs'])):=⟨by have:=y4.1;simp;omega,fun q hq hqp=>by rw [hget_set_ne (by omega),y4.2 q (by omega) hqp,x6 q hq]⟩
  have w5 : p < (H2.set p (.arr [.agg cs'])).length:=by simpa using y1.2
  generalize H2.set p (.arr [.agg cs']) = H5 at *
  have fin : NewQ k p cs made (rulesD l) H (.ptr (H.length + 3) 0 0) H5:=⟨H.length + 3,cs',by omega,rfl,⟨w1,w5⟩,z5,z1,z2,z3,z4,w3,w4⟩
  clear hclo hset z5 z4 w3 w4 y1 y3 y4 hcs x6
  repeat' (first | apply wz1|apply wz2|apply wz3|apply wz4|apply wz5|apply wz6 | simp -dsimp (maxSteps:=999999) (disch:=omega) only[go_sem,simprocAttr, *] | ((first | refine wz8 ?_ ?_|refine wz9 ?_ ?_|refine wz7 ?_ ?_)<;>intro hh <;> (try replace hh:=vqs hh) <;> (try (exfalso;first | exact hh | omega))))
  done
theorem shelf_old {k p r : Nat} {tx : List UInt8} {l : List Rule} {d m : Dfa} {H : Heap} {cs : List D} (hK : Kind k tx l d m) (h : Cells H p cs) (hl : 29 ≤ cs.length) (hc : cs[k * 4]? = some (.int .u32 1)) (hc3 : cs[k * 4 + 3]? = some (.ptr r 0 0)) :
    EvF Tryz.prog Am 21 [.ptr p 0 0,.int .i64 k] H (fun d H'=>d = .ptr r 0 0 ∧ Same H.length H H') (fun _ _=>False):=by
  obtain ⟨k1,k2⟩:=hK.rng
  have hg:=hK.gram
  have hne:=hK.ne
  obtain ⟨h1,hlt⟩:=h
  have g1 : ∀ X Y : Ob,hget (H ++ [X] ++ [Y]) H.length = X:=fun X Y=>by rw [hget_app_lt (by simp),hget_app0];rfl
  have g2 : ∀ X Y : Ob,hget (H ++ [X] ++ [Y]) (H.length + 1) = Y:=fun X Y=>by have:=hget_app0 (H:=H ++ [X]) (L:=[Y]);simpa [hget_cons0] using this
  have g3 : ∀ X Y Z : Ob,hget (H ++ [X] ++ [Y] ++ [Z]) H.length = X:=fun X Y Z=>by rw [hget_app_lt (by simp),g1]
  have g4 : ∀ X Y Z : Ob,hget (H ++ [X] ++ [Y] ++ [Z]) (H.length + 1) = Y:=fun X Y Z=>by rw [hget_app_lt (by simp),g2]
  have g5 : ∀ X Y Z : Ob,hget (H ++ [X] ++ [Y] ++ [Z]) (H.length + 1 + 1) = Z:=fun X Y Z=>by have:=hget_app0 (H:=H ++ [X] ++ [Y]) (L:=[Z]);simpa [hget_cons0] using this
  have g6 : ∀ X Y Z Z' : Ob,(H ++ [X] ++ [Y] ++ [Z]).set (H.length + 1 + 1) Z' = H ++ [X] ++ [Y] ++ [Z']:=fun X Y Z Z'=>by
    have h:=set_app0 (H:=H ++ [X] ++ [Y]) (L:=[Z]) (o:=Z')
    rw [show (H ++ [X] ++ [Y]).length = H.length + 1 + 1 by simp] at h
    rw [h];rfl
  have g7 : ∀ X Y Z : Ob,hget (H ++ [X] ++ [Y] ++ [Z]) p = hget H p:=fun X Y Z=>by rw [hget_app_lt (by simp;omega),hget_app_lt (by simp;omega),hget_app_lt (by omega)]
  refine evF_inB (n:=27) (rs:=[.tmp 4]) Tryz.func21 rfl rfl rfl rfl rfl rfl ?_
  repeat' (first | apply wz1|apply wz2|apply wz3|apply wz4|apply wz5|apply wz6 | simp -dsimp (maxSteps:=999999) (disch:=omega) only[go_sem,simprocAttr, *] | ((first | refine wz8 ?_ ?_|refine wz9 ?_ ?_|refine wz7 ?_ ?_)<;>intro hh <;> (try replace hh:=vqs hh) <;> (try (exfalso;first | exact hh | omega))))
  refine evB_told (A:=B) bo16 (by rfl) (by rfl) rfl hg ?_
  repeat' (first | apply wz1|apply wz2|apply wz3|apply wz4|apply wz5|apply wz6 | simp -dsimp (maxSteps:=999999) (disch:=omega) only[go_sem,simprocAttr, *] | ((first | refine wz8 ?_ ?_|refine wz9 ?_ ?_|refine wz7 ?_ ?_)<;>intro hh <;> (try replace hh:=vqs hh) <;> (try (exfalso;first | exact hh | omega))))
  refine wpB_regionXL (prs:=[([5],[2]),([5],[3]),([5],[16])]) (by kernel_rfl) rfl (by kernel_rfl) ?_;simp -dsimp (maxSteps:=999999) (disch:=omega) only[go_sem,simprocAttr, *]
  repeat' (first | apply wz1|apply wz2|apply wz3|apply wz4|apply wz5|apply wz6 | simp -dsimp (maxSteps:=999999) (disch:=omega) only[go_sem,simprocAttr, *] | ((first | refine wz8 ?_ ?_|refine wz9 ?_ ?_|refine wz7 ?_ ?_)<;>intro hh <;> (try replace hh:=vqs hh) <;> (try (exfalso;first | exact hh | omega))))
  generalize hH4 : H ++ [Ob.arr [D.ptr p 0 0]] ++ [Ob.arr [D.int IntKind.i64 k]] ++ [Ob.arr [D.ptr p 0 (k * 4)]] = H4
  have x1 : hget H4 p = .arr [.agg cs]:=by rw [← hH4,g7,h1]
  have x3 : hget H4 (H.length + 1 + 1) = .arr [.ptr p 0 (k * 4)]:=by rw [← hH4,g5]
  have x5 : H4.length = H.length + 3:=by rw [← hH4];simp
  have x6 : Same H.length H H4:=⟨by omega,fun q hq=>by rw [← hH4,hget_app_lt (by simp;omega),hget_app_lt (by simp;omega),hget_app_lt (by omega)]⟩
  clear hH4 g1 g2 g3 g4 g5 g6 g7
  refine evB_state bo35 rfl rfl (once_old (j:=k * 4) ⟨x1,by omega⟩ hc) ?_ (fun _ _ h=>h.elim)
  rintro _ _ rfl
  clear x5
  repeat' (first | apply wz1|apply wz2|apply wz3|apply wz4|apply wz5|apply wz6 | simp -dsimp (maxSteps:=999999) (disch:=omega) only[go_sem,simprocAttr, *] | ((first | refine wz8 ?_ ?_|refine wz9 ?_ ?_|refine wz7 ?_ ?_)<;>intro hh <;> (try replace hh:=vqs hh) <;> (try (exfalso;first | exact hh | omega))))
  done
end Go.Proofs.W
end
section
namespace Go.Proofs.W
open Go Vm Go.Proofs.Zs25
theorem smF_tab {a d : D} {H : Heap} (ha : strip a = some a) (h : tabF [a] smT = some d) : smF [a] H = some (.ok d H):=by
  unfold smF
  rw [tabP_at (pures_strip (strip1 ha)) h,ite_self]
theorem smF_only {H : Heap} (h : tabF [dfaD ⟨nx2,rl2⟩] smT = none) (h2 : eqPlL [dfaD ⟨nx2,rl2⟩] [dfaD ⟨nx2,rl2⟩] = true) : smF [dfaD ⟨nx2,rl2⟩] H = some (.ok (dfaD ⟨mx2,ml2⟩) H):=by
  have hp : pures H [dfaD ⟨nx2,rl2⟩] = some ([dfaD ⟨nx2,rl2⟩],H):=pures_strip (strip1 (strip_dfa _))
  have ht : tabP smT [dfaD ⟨nx2,rl2⟩] H = none:=by
    unfold tabP
    rw [hp,Option.bind_some]
    simp only
    rw [h]
    rfl
  unfold smF
  rw [ht]
  simp only
  unfold onlyP
  rw [hp,Option.bind_some]
  simp only
  rw [if_pos h2,ite_self]
theorem ok_rules {l : List Rule} {g : List Rx} (h : l.map Rule.rx = g) (h1 : ∀ r ∈ g,okR r) (h2 : g.all shapesR = true) : ∀ r ∈ l,okR r.rx ∧ shapesR r.rx = true:=fun r hr=>by
  have hm : r.rx ∈ g:=h ▸ List.mem_map_of_mem hr
  exact ⟨h1 _ hm,List.all_eq_true.1 h2 _ hm⟩
theorem kind1 : Kind 1 tx1 rul1 ⟨nx1,rl1⟩ ⟨mx1,ml1⟩ where
  rng:=by decide
  gram:=gra1_ok
  ne:=by decide
  prs:=by kernel_rfl
  new:=⟨60,by kernel_rfl⟩
  bld:=by kernel_rfl
  sml:=fun H=>smF_tab (strip_dfa _) (by kernel_rfl)
  rls:=tells_pure (k:=300) (by kernel_rfl)
  c1:=tells_pure (k:=5) (by kernel_rfl)
  c2:=tells_pure (k:=5) (by kernel_rfl)
  law:=law1
  right:=mr1
  ty:=mt1
  ok:=ok_rules rulx1 okg1 (by kernel_rfl)
  len:=by decide
theorem kind2 : Kind 2 tx2 rul2 ⟨nx2,rl2⟩ ⟨mx2,ml2⟩ where
  rng:=by decide
  gram:=gra2_ok
  ne:=by decide
  prs:=by kernel_rfl
  new:=⟨60,by kernel_rfl⟩
  bld:=by kernel_rfl
  sml:=fun H=>smF_only (by kernel_rfl) (by kernel_rfl)
  rls:=tells_pure (k:=300) (by kernel_rfl)
  c1:=tells_pure (k:=5) (by kernel_rfl)
  c2:=tells_pure (k:=5) (by kernel_rfl)
  law:=law2
  right:=mr2
  ty:=mt2
  ok:=ok_rules rulx2 okg2 (by kernel_rfl)
  len:=by decide
theorem kind3 : Kind 3 tx3 rul3 ⟨nx3,rl3⟩ ⟨mx3,ml3⟩ where
  rng:=by decide
  gram:=gra3_ok
  ne:=by decide
  prs:=by kernel_rfl
  new:=⟨60,by kernel_rfl⟩
  bld:=by kernel_rfl
  sml:=fun H=>smF_tab (strip_dfa _) (by kernel_rfl)
  rls:=tells_pure (k:=300) (by kernel_rfl)
  c1:=tells_pure (k:=5) (by kernel_rfl)
  c2:=tells_pure (k:=5) (by kernel_rfl)
  law:=law3
  right:=mr3
  ty:=mt3
  ok:=ok_rules rulx3 okg3 (by kernel_rfl)
  len:=by decide
theorem kind4 : Kind 4 tx4 rul4 ⟨nx4,rl4⟩ ⟨mx4,ml4⟩ where
  rng:=by decide
  gram:=gra4_ok
  ne:=by decide
  prs:=by kernel_rfl
  new:=⟨60,by kernel_rfl⟩
  bld:=by kernel_rfl
  sml:=fun H=>smF_tab (strip_dfa _) (by kernel_rfl)
  rls:=tells_pure (k:=300) (by kernel_rfl)
  c1:=tells_pure (k:=5) (by kernel_rfl)
  c2:=tells_pure (k:=5) (by kernel_rfl)
  law:=law4
  right:=mr4
  ty:=mt4
  ok:=ok_rules rulx4 okg4 (by kernel_rfl)
  len:=by decide
end Go.Proofs.W
end
section
namespace Go.Proofs.W
open Go Vm Go.Proofs.Zs25
def kT (k : Nat) : List UInt8:=if k = 1 then tx1 else if k = 2 then tx2 else if k = 3 then tx3 else tx4
def kL (k : Nat) : List Rule:=if k = 1 then rul1 else if k = 2 then rul2 else if k = 3 then rul3 else rul4
def kD (k : Nat) : Dfa:=if k = 1 then ⟨nx1,rl1⟩ else if k = 2 then ⟨nx2,rl2⟩ else if k = 3 then ⟨nx3,rl3⟩ else ⟨nx4,rl4⟩
def kM (k : Nat) : Dfa:=if k = 1 then ⟨mx1,ml1⟩ else if k = 2 then ⟨mx2,ml2⟩ else if k = 3 then ⟨mx3,ml3⟩ else ⟨mx4,ml4⟩
theorem kind_at {k : Nat} (h : 1 ≤ k ∧ k ≤ 4) : Kind k (kT k) (kL k) (kD k) (kM k):=by
  obtain rfl | rfl | rfl | rfl : k = 1 ∨ k = 2 ∨ k = 3 ∨ k = 4:=by omega
  · exact kind1
  · exact kind2
  · exact kind3
  · exact kind4
def scK (k : Nat) (c : Int) (rd : Bool) : List D:=if rd then scC (rulesD (kL k)) 1 0 (rowsD (kM k).next) (isD (kM k).rule) 0 c else scC (rulesD (kL k)) 0 0 (.sl true []) (.sl true []) 0 0
def upS {α : Type} (st : Nat → α) (k : Nat) (x : α) : Nat → α:=fun i=>if i = k then x else st i
structure ShAt (H : Heap) (p q : Nat) (st : Nat → Option (Nat × Int × Bool)) (sn : Nat → Bool) (made b : Int) : Prop where
  cells : ∃ cs,Cells H p cs ∧ 29 ≤ cs.length ∧ cs[28]? = some (.int .i64 made) ∧ ∀ k,1 ≤ k → k ≤ 4 →
    (st k = none → cs[k * 4]? = some (.int .u32 0) ∧ cs[k * 4 + 1]? = some (.int .i32 0)) ∧ (∀ r c rd,st k = some (r,c,rd) → cs[k * 4]? = some (.int .u32 1) ∧ cs[k * 4 + 3]? = some (.ptr r 0 0))
  seen : ∃ bs,hget H q = .arr [.agg bs] ∧ q < H.length ∧ 16 ≤ bs.length ∧ ∀ k,1 ≤ k → k ≤ 4 → bs[k]? = some (.bool (sn k))
  scan : ∀ k r c rd,1 ≤ k → k ≤ 4 → st k = some (r,c,rd) → Cells H r (scK k c rd) ∧ r ≠ p ∧ r ≠ q ∧ 0 ≤ c ∧ c ≤ b ∧ (rd = false → c = 0)
  apart : ∀ k k' r c c' rd rd',1 ≤ k → k ≤ 4 → 1 ≤ k' → k' ≤ 4 → st k = some (r,c,rd) → st k' = some (r,c',rd') → k = k'
  ne : p ≠ q
theorem ShAt.same {H H' : Heap} {p q : Nat} {st : Nat → Option (Nat × Int × Bool)} {sn : Nat → Bool} {made b : Int} (h : ShAt H p q st sn made b) (s : Same H.length H H') : ShAt H' p q st sn made b:=by
  obtain ⟨cs,⟨c1,c2⟩,c3⟩:=h.cells
  obtain ⟨bs,b1,b2,b3⟩:=h.seen
  refine ⟨⟨cs,⟨by rw [s.2 p c2];exact c1,Nat.lt_of_lt_of_le c2 s.1⟩,c3⟩,⟨bs,by rw [s.2 q b2];exact b1,Nat.lt_of_lt_of_le b2 s.1,b3⟩,fun k r c rd a1 a2 a3=>?_,h.apart,h.ne⟩
  obtain ⟨⟨g1,g2⟩,g3⟩:=h.scan k r c rd a1 a2 a3
  exact ⟨⟨by rw [s.2 r g2];exact g1,Nat.lt_of_lt_of_le g2 s.1⟩,g3⟩
theorem ShAt.app {H L : Heap} {p q : Nat} {st : Nat → Option (Nat × Int × Bool)} {sn : Nat → Bool} {made b : Int} (h : ShAt H p q st sn made b) : ShAt (H ++ L) p q st sn made b:=h.same (Same.app (Nat.le_refl _))
theorem scanner_step {H : Heap} {p q k : Nat} {st : Nat → Option (Nat × Int × Bool)} {sn : Nat → Bool} {made b : Int} (h : ShAt H p q st sn made b) (hk : 1 ≤ k ∧ k ≤ 4) (hm0 : 0 ≤ made) (hm1 : made ≤ 1000) (hb : 0 ≤ b) :
    EvF Tryz.prog Am 21 [.ptr p 0 0,.int .i64 k] H (fun d H'=>∃ r,d = .ptr r 0 0 ∧ H.length ≤ H'.length ∧ ((st k = none ∧ ShAt H' p q (upS st k (some (r,0,false))) sn (made + 1) b) ∨ ∃ c rd,st k = some (r,c,rd) ∧ ShAt H' p q st sn made b)) (fun _ _=>False):=by
  have hK:=kind_at hk
  obtain ⟨k1,k2⟩:=hk
  obtain ⟨cs,c1,c2,c3,c4⟩:=h.cells
  obtain ⟨d1,d2⟩:=c4 k k1 k2
  cases hst : st k with
  | none=>
    obtain ⟨e1,e2⟩:=d1 hst
    refine EvF.mono (shelf_new hK c1 c2 e1 e2 c3 hm0 hm1) ?_ (fun _ _ h=>h)
    rintro _ H' ⟨r,cs',n1,rfl,n2,n3,n4,n5,n6,n7,n8,n9⟩
    refine ⟨r,rfl,n9.1,.inl ⟨rfl,?_⟩⟩
    obtain ⟨bs,b1,b2,b3⟩:=h.seen
    have hp:=c1.2
    refine ⟨⟨cs',n2,by omega,n6,fun k' a1 a2=>?_⟩,⟨bs,by rw [n9.2 q b2 (Ne.symm h.ne)];exact b1,Nat.lt_of_lt_of_le b2 n9.1,b3⟩,fun k' r' c' rd' a1 a2 a3=>?_,fun k' k'' r' c' c'' rd' rd'' a1 a2 a3 a4 a5 a6=>?_,h.ne⟩
    · obtain ⟨f1,f2⟩:=c4 k' a1 a2
      by_cases e : k' = k
      · subst e
        refine ⟨fun hh=>by simp [upS] at hh,fun r' c' rd' hh=>?_⟩
        simp only [upS,if_true,Option.some.injEq,Prod.mk.injEq] at hh
        obtain ⟨rfl,-,-⟩:=hh
        exact ⟨n4,n5⟩
      · have q0:=n7 (k' * 4) (by omega) (by omega) (by omega) (by omega)
        have q1:=n7 (k' * 4 + 1) (by omega) (by omega) (by omega) (by omega)
        have q3:=n7 (k' * 4 + 3) (by omega) (by omega) (by omega) (by omega)
        simp only [upS,if_neg e]
        refine ⟨fun hh=>?_,fun r' c' rd' hh=>?_⟩
        · obtain ⟨x1,x2⟩:=f1 hh
          exact ⟨by rw [q0];exact x1,by rw [q1];exact x2⟩
        · obtain ⟨x1,x2⟩:=f2 r' c' rd' hh
          exact ⟨by rw [q0];exact x1,by rw [q3];exact x2⟩
    · by_cases e : k' = k
      · subst e
        simp only [upS,if_true,Option.some.injEq,Prod.mk.injEq] at a3
        obtain ⟨rfl,rfl,rfl⟩:=a3
        exact ⟨n8,by omega,by omega,by omega,hb,fun _=>rfl⟩
      · simp only [upS,if_neg e] at a3
        obtain ⟨⟨x1,x2⟩,x3,x4,x5⟩:=h.scan k' r' c' rd' a1 a2 a3
        exact ⟨⟨by rw [n9.2 r' x2 x3];exact x1,Nat.lt_of_lt_of_le x2 n9.1⟩,x3,x4,x5⟩
    · by_cases e : k' = k
      · by_cases e2 : k'' = k
        · rw [e,e2]
        · exfalso
          subst e
          simp only [upS,if_true,Option.some.injEq,Prod.mk.injEq] at a5
          simp only [upS,if_neg e2] at a6
          have:=(h.scan k'' r' c'' rd'' a3 a4 a6).1.2
          omega
      · by_cases e2 : k'' = k
        · exfalso
          subst e2
          simp only [upS,if_true,Option.some.injEq,Prod.mk.injEq] at a6
          simp only [upS,if_neg e] at a5
          have:=(h.scan k' r' c' rd' a1 a2 a5).1.2
          omega
        · simp only [upS,if_neg e] at a5
          simp only [upS,if_neg e2] at a6
          exact h.apart k' k'' r' c' c'' rd' rd'' a1 a2 a3 a4 a5 a6
  | some x=>
    obtain ⟨r,c,rd⟩:=x
    obtain ⟨e1,e2⟩:=d2 r c rd hst
    refine EvF.mono (shelf_old hK c1 c2 e1 e2) ?_ (fun _ _ h=>h)
    rintro _ H' ⟨rfl,hs⟩
    exact ⟨r,rfl,hs.1,.inr ⟨c,rd,rfl,h.same hs⟩⟩
theorem cutL_len {d : Dfa} {w : List Int} : ∀ (n : Nat) (a : Int),(cutL d w n a).length ≤ n
  | 0,a=>by simp [cutL]
  | n + 1,a=>by
    rw [cutL]
    split
    · have:=cutL_len (d:=d) (w:=w) n (if (longD d w a).1 < 0 then a + 1 else (longD d w a).1)
      simp only [List.length_cons];omega
    · simp
theorem cut_step {H : Heap} {p q k r : Nat} {c : Int} {rd : Bool} {st : Nat → Option (Nat × Int × Bool)} {sn : Nat → Bool} {made b : Int} (h : ShAt H p q st sn made b) (hk : 1 ≤ k ∧ k ≤ 4) (hs : st k = some (r,c,rd)) (hb : b ≤ 100000) (w : List Int) (hw : w.length ≤ 14) :
    EvF Tryz.prog Am 23 [.ptr r 0 0,isD w] H (fun d H'=>d = .tup [pcsD (cutL (kM k) w w.length 0),.int .i64 0] ∧ ∃ c',ShAt H' p q (upS st k (some (r,c',true))) sn made (b + 14)) (fun _ _=>False):=by
  have hK:=kind_at hk
  obtain ⟨k1,k2⟩:=hk
  obtain ⟨x1,x2,x3,x4,x5,x6⟩:=h.scan k r c rd k1 k2 hs
  have hlen:=cutL_len (d:=kM k) (w:=w) w.length 0
  have hscut : PureF Tryz.prog A 40 [dfaD (kM k),isD w] (pcsD (cutL (kM k) w w.length 0)):=by
    have hrl:=right_len hK.right
    have:=scut_ok (kM k) w hK.ty (by omega) (by omega) (by omega)
    rwa [hK.right,if_pos rfl] at this
  have hO : ∀ H,Cells H r (scK k c rd) → EvF Tryz.prog Am 35 [.ptr r 0 1,.bfn 46 [.ptr r 0 0]] H (fun _ H'=>Cells H' r (scC (rulesD (kL k)) 1 0 (rowsD (kM k).next) (isD (kM k).rule) 0 c) ∧ Kp1 r H H') (fun _ _=>False):=fun H hc=>by
    cases rd with
    | true=>exact EvF.mono (machine_old hc) (fun _ _ e=>by subst e;exact ⟨hc,Kp1.refl⟩) (fun _ _ h=>h)
    | false=>
      have hc0:=x6 rfl
      subst hc0
      refine EvF.mono (machine_new (m:=kM k) (d:=kD k) (e:=0) (by have:=hK.len;omega) (fun H H' v K Kp hp hk=>?_) (fun _ H K Kp hk=>?_) hc) ?_ (fun _ _ h=>h)
      · exact evB_prim bo70 (by rfl) (tabP_at hp hK.bld) hk (by rfl)
      · exact evB_prim bo71 (by rfl) (hK.sml H) hk (by rfl)
      · rintro _ H' ⟨g1,g2⟩
        exact ⟨g1,g2⟩
  refine EvF.mono (cut_ok w x1 hO hK.c1 hK.c2 x4 (by omega) (by omega) (fun H K Kp hk=>evB_told (A:=A) bo40 (by rfl) (by rfl) (stripDw (kM k) w) hscut hk)) ?_ (fun _ _ h=>h)
  rintro _ H' ⟨rfl,g1,g2⟩
  refine ⟨rfl,c + (cutL (kM k) w w.length 0).length,?_⟩
  obtain ⟨cs,c1,c2,c3,c4⟩:=h.cells
  obtain ⟨bs,b1,b2,b3⟩:=h.seen
  have hp:=c1.2
  refine ⟨⟨cs,⟨by rw [g2.2 p c1.2 (Ne.symm x2)];exact c1.1,Nat.lt_of_lt_of_le c1.2 g2.1⟩,c2,c3,fun k' a1 a2=>?_⟩,⟨bs,by rw [g2.2 q b2 (Ne.symm x3)];exact b1,Nat.lt_of_lt_of_le b2 g2.1,b3⟩,fun k' r' c' rd' a1 a2 a3=>?_,fun k' k'' r' c' c'' rd' rd'' a1 a2 a3 a4 a5 a6=>?_,h.ne⟩
  · obtain ⟨f1,f2⟩:=c4 k' a1 a2
    by_cases e : k' = k
    · subst e
      refine ⟨fun hh=>by simp [upS] at hh,fun r' c' rd' hh=>?_⟩
      simp only [upS,if_true,Option.some.injEq,Prod.mk.injEq] at hh
      obtain ⟨rfl,-,-⟩:=hh
      exact f2 _ _ _ hs
    · simp only [upS,if_neg e]
      exact ⟨f1,f2⟩
  · by_cases e : k' = k
    · subst e
      simp only [upS,if_true,Option.some.injEq,Prod.mk.injEq] at a3
      obtain ⟨rfl,rfl,rfl⟩:=a3
      exact ⟨g1,x2,x3,by omega,by omega,fun h=>by cases h⟩
    · simp only [upS,if_neg e] at a3
      obtain ⟨⟨y1,y2⟩,y3,y4,y5,y6,y7⟩:=h.scan k' r' c' rd' a1 a2 a3
      have hne : r' ≠ r:=fun er=>e (h.apart k' k r' c' c rd' rd a1 a2 k1 k2 a3 (by rw [hs,er]))
      exact ⟨⟨by rw [g2.2 r' y2 hne];exact y1,Nat.lt_of_lt_of_le y2 g2.1⟩,y3,y4,y5,by omega,y7⟩
  · have hx : ∀ k1 r1 c1 rd1,upS st k (some (r,c + (cutL (kM k) w w.length 0).length,true)) k1 = some (r1,c1,rd1) → ∃ c2 rd2,st k1 = some (r1,c2,rd2):=fun k1 r1 c1 rd1 hh=>by
      by_cases e : k1 = k
      · subst e
        simp only [upS,if_true,Option.some.injEq,Prod.mk.injEq] at hh
        obtain ⟨rfl,-,-⟩:=hh
        exact ⟨_,_,hs⟩
      · simp only [upS,if_neg e] at hh
        exact ⟨_,_,hh⟩
    obtain ⟨_,_,h1⟩:=hx _ _ _ _ a5
    obtain ⟨_,_,h2⟩:=hx _ _ _ _ a6
    exact h.apart k' k'' r' _ _ _ _ a1 a2 a3 a4 h1 h2
theorem ShAt.store {H : Heap} {p q k : Nat} {st : Nat → Option (Nat × Int × Bool)} {sn : Nat → Bool} {made b : Int} (h : ShAt H p q st sn made b) {bs : List D} (h1 : hget H q = .arr [.agg bs]) : ShAt (H.set q (.arr [.agg (bs.set k (.bool true))])) p q st (upS sn k true) made b:=by
  obtain ⟨cs,⟨c1,c2⟩,c3⟩:=h.cells
  obtain ⟨bs',b1,b2,b3,b4⟩:=h.seen
  have e : bs' = bs:=by rw [b1] at h1;cases h1;rfl
  subst e
  refine ⟨⟨cs,⟨by rw [hget_set_ne h.ne.symm];exact c1,by simpa using c2⟩,c3⟩,⟨_,hget_set_eq b2,by simpa using b2,by simpa using b3,fun k' a1 a2=>?_⟩,fun k' r c rd a1 a2 a3=>?_,h.apart,h.ne⟩
  · by_cases e : k' = k
    · subst e
      rw [List.getElem?_set_self (by omega)]
      simp [upS]
    · rw [List.getElem?_set_ne (fun e'=>e e'.symm),b4 k' a1 a2]
      simp [upS,e]
  · obtain ⟨⟨g1,g2⟩,g3⟩:=h.scan k' r c rd a1 a2 a3
    exact ⟨⟨by rw [hget_set_ne (fun e=>g3.2.1 e.symm)];exact g1,by simpa using g2⟩,g3⟩
theorem made_ok {H : Heap} {p q : Nat} {st : Nat → Option (Nat × Int × Bool)} {sn : Nat → Bool} {made b : Int} (h : ShAt H p q st sn made b) : EvF Tryz.prog Am 22 [.ptr p 0 0] H (fun d H'=>d = .int .i64 made ∧ H' = H) (fun _ _=>False):=by
  obtain ⟨cs,c1,c2,c3,c4⟩:=h.cells
  refine evF_inB (n:=9) (rs:=[.tmp 2]) Tryz.func22 rfl rfl rfl rfl rfl rfl ?_
  repeat' (first | apply wz1|apply wz2|apply wz3|apply wz4|apply wz5|apply wz6 | simp -dsimp (maxSteps:=999999) (disch:=omega) only[go_sem,simprocAttr, *] | ((first | refine wz8 ?_ ?_|refine wz9 ?_ ?_|refine wz7 ?_ ?_)<;>intro hh <;> (try replace hh:=vqs hh) <;> (try (exfalso;first | exact hh | omega))))
  refine evB_state bo39 rfl rfl (iload_ok c1 c3) ?_ (fun _ _ h=>h.elim)
  rintro _ _ ⟨rfl,rfl⟩
  repeat' (first | apply wz1|apply wz2|apply wz3|apply wz4|apply wz5|apply wz6 | simp -dsimp (maxSteps:=999999) (disch:=omega) only[go_sem,simprocAttr, *] | ((first | refine wz8 ?_ ?_|refine wz9 ?_ ?_|refine wz7 ?_ ?_)<;>intro hh <;> (try replace hh:=vqs hh) <;> (try (exfalso;first | exact hh | omega))))
theorem made_nil {H : Heap} : EvF Tryz.prog Am 22 [.nilp] H (fun d H'=>d = .int .i64 0 ∧ H' = H) (fun _ _=>False):=by
  refine evF_inB (n:=9) (rs:=[.tmp 2]) Tryz.func22 rfl rfl rfl rfl rfl rfl ?_
  repeat' (first | apply wz1|apply wz2|apply wz3|apply wz4|apply wz5|apply wz6 | simp -dsimp (maxSteps:=999999) (disch:=omega) only[go_sem,simprocAttr, *] | ((first | refine wz8 ?_ ?_|refine wz9 ?_ ?_|refine wz7 ?_ ?_)<;>intro hh <;> (try replace hh:=vqs hh) <;> (try (exfalso;first | exact hh | omega))))
end Go.Proofs.W
end
section
namespace Go.Proofs.W
open Go Vm Go.Proofs.Zs25
abbrev YesM (f : FuncId) (args : List D) : Prop:=EvF Tryz.prog Am f args [] (fun d _=>d = .bool true) (fun _ _=>False)
theorem run_of_yesM {f : FuncId} {args : List D} (h : YesM f args) : ∃ k H',runF Tryz.prog Am k f args [] = some (.ok (.bool true) H'):=by
  obtain ⟨k,r,h1,h2⟩:=h
  cases r with
  | pan d H=>exact h2.elim
  | ok d H=>exact ⟨k,H,by rw [h1,show d = .bool true from h2]⟩
theorem sh_start {H : Heap} {cs bs : List D} (h1 : hget H 0 = .arr [.agg cs]) (h2 : hget H 1 = .arr [.agg bs]) (hl : 2 ≤ H.length) (hc : cs = (List.replicate 7 [D.int .u32 0,.int .i32 0,.int .u32 0,.nilp]).flatten ++ [.int .i64 0]) (hb : bs = List.replicate 16 (.bool false)) : ShAt H 0 1 (fun _=>none) (fun _=>false) 0 0:=by
  subst hc hb
  refine ⟨⟨_,⟨h1,by omega⟩,by decide,rfl,fun k a1 a2=>⟨fun _=>?_,fun r c rd h=>(by cases h)⟩⟩,⟨_,h2,by omega,by decide,fun k a1 a2=>?_⟩,fun k r c rd _ _ h=>(by cases h),fun k k' r c c' rd rd' _ _ _ _ h _=>(by cases h),by decide⟩
  · obtain rfl | rfl | rfl | rfl : k = 1 ∨ k = 2 ∨ k = 3 ∨ k = 4:=by omega
    all_goals exact ⟨rfl,rfl⟩
  · obtain rfl | rfl | rfl | rfl : k = 1 ∨ k = 2 ∨ k = 3 ∨ k = 4:=by omega
    all_goals rfl
theorem ShAt.mono {H : Heap} {p q : Nat} {st : Nat → Option (Nat × Int × Bool)} {sn : Nat → Bool} {made b b' : Int} (h : ShAt H p q st sn made b) (hb : b ≤ b') : ShAt H p q st sn made b':=
  ⟨h.cells,h.seen,fun k r c rd a1 a2 a3=>by
    obtain ⟨x1,x2,x3,x4,x5,x6⟩:=h.scan k r c rd a1 a2 a3
    exact ⟨x1,x2,x3,x4,by omega,x6⟩,h.apart,h.ne⟩
theorem scans_law (ks : List Int) (hks : ∀ x ∈ ks,0 ≤ x ∧ x < 256) (w : List Int) : YesM 5 [.sl false (ks.map (.int .u8)),isD w]:=by
  have ew : isD w = .sl false (w.map (.int .i64)):=rfl
  refine evF_inB (n:=97) (rs:=[.tmp 4]) Tryz.func5 rfl rfl rfl rfl rfl rfl ?_
  repeat' (first | apply wz1|apply wz2|apply wz3|apply wz4|apply wz5|apply wz6 | simp -dsimp (maxSteps:=999999) (disch:=omega) only[go_sem,simprocAttr, *] | ((first | refine wz8 ?_ ?_|refine wz9 ?_ ?_|refine wz7 ?_ ?_)<;>intro hh <;> (try replace hh:=vqs hh) <;> (try (exfalso;first | exact hh | omega))))
  refine evB_told (A:=B) bo8 (by rfl) (by rfl) rfl alive_B ?_
  by_cases hg : ks.length ≤ 20 ∧ w.length ≤ 14
  case neg=>
    by_cases h1 : ks.length ≤ 20
    · have h3 : ¬ w.length ≤ 14:=fun h=>hg ⟨h1,h⟩
      clear hg
      repeat' (first | apply wz1|apply wz2|apply wz3|apply wz4|apply wz5|apply wz6 | simp -dsimp (maxSteps:=999999) (disch:=omega) only[go_sem,simprocAttr, *] | ((first | refine wz8 ?_ ?_|refine wz9 ?_ ?_|refine wz7 ?_ ?_)<;>intro hh <;> (try replace hh:=vqs hh) <;> (try (exfalso;first | exact hh | omega))))
    · clear hg
      repeat' (first | apply wz1|apply wz2|apply wz3|apply wz4|apply wz5|apply wz6 | simp -dsimp (maxSteps:=999999) (disch:=omega) only[go_sem,simprocAttr, *] | ((first | refine wz8 ?_ ?_|refine wz9 ?_ ?_|refine wz7 ?_ ?_)<;>intro hh <;> (try replace hh:=vqs hh) <;> (try (exfalso;first | exact hh | omega))))
  obtain ⟨g1,g2⟩:=hg
  repeat' (first | apply wz1|apply wz2|apply wz3|apply wz4|apply wz5|apply wz6 | simp -dsimp (maxSteps:=999999) (disch:=omega) only[go_sem,simprocAttr, *] | ((first | refine wz8 ?_ ?_|refine wz9 ?_ ?_|refine wz7 ?_ ?_)<;>intro hh <;> (try replace hh:=vqs hh) <;> (try (exfalso;first | exact hh | omega))))
  refine wpB_loop (fun e H=>∃ (i : Nat) (st : Nat → Option (Nat × Int × Bool)) (sn : Nat → Bool) (made : Int),i ≤ ks.length ∧ ShAt H 0 1 st sn made (14 * i) ∧ (∀ k,1 ≤ k → k ≤ 4 → sn k = (st k).isSome) ∧ 0 ≤ made ∧ made ≤ i ∧ e 0 = .sl false (ks.map (.int .u8)) ∧ e 1 = isD w ∧ e 5 = .ptr 0 0 0 ∧ e 6 = .nilp ∧ e 7 = .int .i64 made ∧ e 8 = .ptr 1 0 0 ∧ e 9 = .int .i64 i) (fun e H=>ks.length - natOf (e 9)) ?_ ?_
  · exact ⟨0,_,_,0,by omega,sh_start rfl rfl (by simp) rfl rfl,fun _ _ _=>rfl,by omega,by omega,gs,gs,gs,gs,gs,gs,gs⟩
  rintro e H ⟨i,st,sn,made,hi,hS,hsn,hm0,hm1,e0,e1,e5,e6,e7,e8,e9⟩ R hR
  by_cases hb : i < ks.length
  case neg=>repeat' (first | apply wz1|apply wz2|apply wz3|apply wz4|apply wz5|apply wz6 | simp -dsimp (maxSteps:=999999) (disch:=omega) only[go_sem,simprocAttr, *] | ((first | refine wz8 ?_ ?_|refine wz9 ?_ ?_|refine wz7 ?_ ?_)<;>intro hh <;> (try replace hh:=vqs hh) <;> (try (exfalso;first | exact hh | omega))))
  have hx:=hks ks[i] (List.getElem_mem hb)
  have hc : (ks.map (D.int .u8))[i]? = some (.int .u8 ks[i]):=by simp [hb]
  generalize ks[i] = x at hx hc
  have hz0:=Int.tmod_nonneg (9 : Int) hx.1
  have hz1:=Int.tmod_lt_of_pos x (show (0 : Int) < 9 by omega)
  have h9 : ¬ ((9 : Int) = 0):=by omega
  obtain ⟨z,hz⟩ : ∃ z,x.tmod 9 = z:=⟨_,rfl⟩
  rw [hz] at hz0 hz1
  by_cases hk : 2 ≤ z ∧ z ≤ 5
  case neg=>
    have hgr:=gra_no (z - 1) (by omega) (by omega) (by omega) (by omega)
    repeat' (first | apply wz1|apply wz2|apply wz3|apply wz4|apply wz5|apply wz6 | simp -dsimp (maxSteps:=999999) (disch:=omega) only[go_sem,simprocAttr, *] | ((first | refine wz8 ?_ ?_|refine wz9 ?_ ?_|refine wz7 ?_ ?_)<;>intro hh <;> (try replace hh:=vqs hh) <;> (try (exfalso;first | exact hh | omega))))
    refine evB_state bo21 rfl rfl (shelf_none (.inr ⟨0,rfl⟩) (.inl hgr) H) ?_ (fun _ _ h=>h.elim)
    rintro _ H1 ⟨rfl,s1⟩
    replace hS:=hS.same s1
    repeat' (first | apply wz1|apply wz2|apply wz3|apply wz4|apply wz5|apply wz6 | simp -dsimp (maxSteps:=999999) (disch:=omega) only[go_sem,simprocAttr, *] | ((first | refine wz8 ?_ ?_|refine wz9 ?_ ?_|refine wz7 ?_ ?_)<;>intro hh <;> (try replace hh:=vqs hh) <;> (try (exfalso;first | exact hh | omega))))
    refine evB_state bo21 rfl rfl (shelf_none (.inl rfl) (.inr rfl) H1) ?_ (fun _ _ h=>h.elim)
    rintro _ H2 ⟨rfl,s2⟩
    replace hS:=hS.same s2
    repeat' (first | apply wz1|apply wz2|apply wz3|apply wz4|apply wz5|apply wz6 | simp -dsimp (maxSteps:=999999) (disch:=omega) only[go_sem,simprocAttr, *] | ((first | refine wz8 ?_ ?_|refine wz9 ?_ ?_|refine wz7 ?_ ?_)<;>intro hh <;> (try replace hh:=vqs hh) <;> (try (exfalso;first | exact hh | omega))))
    refine evB_state bo22 rfl rfl made_nil ?_ (fun _ _ h=>h.elim)
    rintro _ _ ⟨rfl,rfl⟩
    repeat' (first | apply wz1|apply wz2|apply wz3|apply wz4|apply wz5|apply wz6 | simp -dsimp (maxSteps:=999999) (disch:=omega) only[go_sem,simprocAttr, *] | ((first | refine wz8 ?_ ?_|refine wz9 ?_ ?_|refine wz7 ?_ ?_)<;>intro hh <;> (try replace hh:=vqs hh) <;> (try (exfalso;first | exact hh | omega))))
    all_goals
      refine evB_state bo22 rfl rfl (made_ok hS) ?_ (fun _ _ h=>h.elim)
      rintro _ _ ⟨rfl,rfl⟩
      have hmm : (made != made) = false:=by simp
      repeat' (first | apply wz1|apply wz2|apply wz3|apply wz4|apply wz5|apply wz6 | simp -dsimp (maxSteps:=999999) (disch:=omega) only[go_sem,simprocAttr, *] | ((first | refine wz8 ?_ ?_|refine wz9 ?_ ?_|refine wz7 ?_ ?_)<;>intro hh <;> (try replace hh:=vqs hh) <;> (try (exfalso;first | exact hh | omega))))
      refine hR _ _ ⟨i + 1,st,sn,made,by omega,?_,hsn,by omega,by omega,gs,gs,gs,gs,gs,gs,gs⟩ ?_
      · exact hS.mono (by omega)
      · simp -dsimp (maxSteps:=999999) (disch:=omega) only[go_sem,simprocAttr, *,natOf_int]
  obtain ⟨k,rfl⟩ : ∃ k : Nat,z = (k : Int) + 1:=⟨(z - 1).toNat,by omega⟩
  have hk' : 1 ≤ k ∧ k ≤ 4:=by omega
  have hkz : (k : Int) + 1 - 1 = k:=by omega
  repeat' (first | apply wz1|apply wz2|apply wz3|apply wz4|apply wz5|apply wz6 | simp -dsimp (maxSteps:=999999) (disch:=omega) only[go_sem,simprocAttr, *] | ((first | refine wz8 ?_ ?_|refine wz9 ?_ ?_|refine wz7 ?_ ?_)<;>intro hh <;> (try replace hh:=vqs hh) <;> (try (exfalso;first | exact hh | omega))))
  refine evB_state bo21 rfl rfl (scanner_step hS hk' hm0 (by omega) (by omega)) ?_ (fun _ _ h=>h.elim)
  rintro _ H1 ⟨r,rfl,hl1,hcase⟩
  have hK:=kind_at hk'
  have hscan : ∃ st1 c rd made1,st1 k = some (r,c,rd) ∧ ShAt H1 0 1 st1 sn made1 (14 * i) ∧ made1 = made + (if sn k then 0 else 1) ∧ ∀ k',1 ≤ k' → k' ≤ 4 → k' ≠ k → sn k' = (st1 k').isSome:=by
    rcases hcase with ⟨h1,h2⟩ | ⟨c,rd,h1,h2⟩
    · refine ⟨_,0,false,_,by simp [upS],h2,by rw [hsn k hk'.1 hk'.2,h1];rfl,fun k' a1 a2 a3=>by rw [hsn k' a1 a2];simp [upS,a3]⟩
    · exact ⟨st,c,rd,made,h1,h2,by rw [hsn k hk'.1 hk'.2,h1];simp,fun k' a1 a2 _=>hsn k' a1 a2⟩
  clear hcase hS hsn
  obtain ⟨st1,c,rd,made1,hst,hS,hmade,hsn⟩:=hscan
  have hcut:=fun H' (h : ShAt H' 0 1 st1 (upS sn k true) made1 (14 * i))=>cut_step h hk' hst (by omega) w g2
  have hrule:=hK.rls
  have hwords : PureF Tryz.prog A 25 [rulesD (kL k),isD w] (pcsD (cutL (kM k) w w.length 0)):=by
    have:=words_ok (kL k) (by have:=hK.len;omega) hK.ok w (by omega)
    rwa [hK.law w w.length 0 (by omega)] at this
  have hlenP:=cutL_len (d:=kM k) (w:=w) w.length 0
  have hsame:=same_ok (cutL (kM k) w w.length 0) [] (Nat.le_trans hlenP (by omega))
  have sr:=strip_rulesD (kL k)
  have sw:=strip_is w
  have sp:=strip_pcsD (cutL (kM k) w w.length 0)
  generalize cutL (kM k) w w.length 0 = P at *
  repeat' (first | apply wz1|apply wz2|apply wz3|apply wz4|apply wz5|apply wz6 | simp -dsimp (maxSteps:=999999) (disch:=omega) only[go_sem,simprocAttr, *] | ((first | refine wz8 ?_ ?_|refine wz9 ?_ ?_|refine wz7 ?_ ?_)<;>intro hh <;> (try replace hh:=vqs hh) <;> (try (exfalso;first | exact hh | omega))))
  refine evB_state bo21 rfl rfl (shelf_none (.inl rfl) (.inr rfl) H1) ?_ (fun _ _ h=>h.elim)
  rintro _ H2 ⟨rfl,s2⟩
  replace hS:=hS.same s2
  repeat' (first | apply wz1|apply wz2|apply wz3|apply wz4|apply wz5|apply wz6 | simp -dsimp (maxSteps:=999999) (disch:=omega) only[go_sem,simprocAttr, *] | ((first | refine wz8 ?_ ?_|refine wz9 ?_ ?_|refine wz7 ?_ ?_)<;>intro hh <;> (try replace hh:=vqs hh) <;> (try (exfalso;first | exact hh | omega))))
  refine evB_state bo22 rfl rfl made_nil ?_ (fun _ _ h=>h.elim)
  rintro _ _ ⟨rfl,rfl⟩
  obtain ⟨bs,b1,b2,b3,b4⟩:=hS.seen
  have hbk:=b4 k hk'.1 hk'.2
  have hsp : List.take (k * 1) bs ++ [D.bool true] ++ List.drop (k * 1 + 1) bs = bs.set k (.bool true):=by
    rw [Nat.mul_one]
    exact splice_one (v:=.bool true) (by omega)
  have hbk1 : bs[k * 1]? = some (.bool (sn k)):=by rw [Nat.mul_one];exact hbk
  have hmm : (made1 != made1) = false:=by simp
  have fin : ∀ (c' : Int) (H' : Heap),ShAt H' 0 1 (upS st1 k (some (r,c',true))) (upS sn k true) made1 (14 * i + 14) → EvF Tryz.prog Am 21 [.ptr 0 0 0,.int .i64 k] H' (fun d H''=>d = .ptr r 0 0 ∧ ShAt H'' 0 1 (upS st1 k (some (r,c',true))) (upS sn k true) made1 (14 * i + 14)) (fun _ _=>False):=fun c' H' h=>by
    have hmb : 0 ≤ made1 ∧ made1 ≤ 1000:=by split at hmade <;> omega
    refine EvF.mono (scanner_step h hk' hmb.1 hmb.2 (by omega)) ?_ (fun _ _ h=>h)
    rintro _ H'' ⟨r',rfl,_,h1 | ⟨c'',rd'',h1,h2⟩⟩
    · have:=h1.1
      simp [upS] at this
    · have : r = r':=by
        simp only [upS,if_true,Option.some.injEq,Prod.mk.injEq] at h1
        exact h1.1
      subst this
      exact ⟨rfl,h2⟩
  cases hsk : sn k with
  | false=>
    rw [hsk] at hmade hbk1
    simp only [Bool.false_eq_true,if_false] at hmade
    subst hmade
    have hS3:=hS.store (k:=k) b1
    have hcut':=hcut _ hS3
    clear hcut hbk b4 hS3
    repeat' (first | apply wz1|apply wz2|apply wz3|apply wz4|apply wz5|apply wz6 | simp -dsimp (maxSteps:=999999) (disch:=omega) only[go_sem,simprocAttr, *] | ((first | refine wz8 ?_ ?_|refine wz9 ?_ ?_|refine wz7 ?_ ?_)<;>intro hh <;> (try replace hh:=vqs hh) <;> (try (exfalso;first | exact hh | omega))))
    refine evB_state bo23 rfl rfl hcut' ?_ (fun _ _ h=>h.elim)
    rintro _ H4 ⟨rfl,c',hS4⟩
    repeat' (first | apply wz1|apply wz2|apply wz3|apply wz4|apply wz5|apply wz6 | simp -dsimp (maxSteps:=999999) (disch:=omega) only[go_sem,simprocAttr, *] | ((first | refine wz8 ?_ ?_|refine wz9 ?_ ?_|refine wz7 ?_ ?_)<;>intro hh <;> (try replace hh:=vqs hh) <;> (try (exfalso;first | exact hh | omega))))
    refine evB_told (A:=B) bo26 (by rfl) (by rfl) rfl hrule ?_
    repeat' (first | apply wz1|apply wz2|apply wz3|apply wz4|apply wz5|apply wz6 | simp -dsimp (maxSteps:=999999) (disch:=omega) only[go_sem,simprocAttr, *] | ((first | refine wz8 ?_ ?_|refine wz9 ?_ ?_|refine wz7 ?_ ?_)<;>intro hh <;> (try replace hh:=vqs hh) <;> (try (exfalso;first | exact hh | omega))))
    refine evB_told (A:=A) bo25 (by rfl) (by rfl) (strip2 sr sw) hwords ?_
    repeat' (first | apply wz1|apply wz2|apply wz3|apply wz4|apply wz5|apply wz6 | simp -dsimp (maxSteps:=999999) (disch:=omega) only[go_sem,simprocAttr, *] | ((first | refine wz8 ?_ ?_|refine wz9 ?_ ?_|refine wz7 ?_ ?_)<;>intro hh <;> (try replace hh:=vqs hh) <;> (try (exfalso;first | exact hh | omega))))
    refine evB_told (A:=A) bo24 (by rfl) (by rfl) (strip2 sp sp) hsame ?_
    repeat' (first | apply wz1|apply wz2|apply wz3|apply wz4|apply wz5|apply wz6 | simp -dsimp (maxSteps:=999999) (disch:=omega) only[go_sem,simprocAttr, *] | ((first | refine wz8 ?_ ?_|refine wz9 ?_ ?_|refine wz7 ?_ ?_)<;>intro hh <;> (try replace hh:=vqs hh) <;> (try (exfalso;first | exact hh | omega))))
    refine evB_state bo22 rfl rfl (made_ok hS4) ?_ (fun _ _ h=>h.elim)
    rintro _ _ ⟨rfl,rfl⟩
    repeat' (first | apply wz1|apply wz2|apply wz3|apply wz4|apply wz5|apply wz6 | simp -dsimp (maxSteps:=999999) (disch:=omega) only[go_sem,simprocAttr, *] | ((first | refine wz8 ?_ ?_|refine wz9 ?_ ?_|refine wz7 ?_ ?_)<;>intro hh <;> (try replace hh:=vqs hh) <;> (try (exfalso;first | exact hh | omega))))
    refine evB_state bo21 rfl rfl (fin c' _ hS4) ?_ (fun _ _ h=>h.elim)
    rintro _ H5 ⟨rfl,hS5⟩
    repeat' (first | apply wz1|apply wz2|apply wz3|apply wz4|apply wz5|apply wz6 | simp -dsimp (maxSteps:=999999) (disch:=omega) only[go_sem,simprocAttr, *] | ((first | refine wz8 ?_ ?_|refine wz9 ?_ ?_|refine wz7 ?_ ?_)<;>intro hh <;> (try replace hh:=vqs hh) <;> (try (exfalso;first | exact hh | omega))))
    refine hR _ _ ⟨i + 1,upS st1 k (some (r,c',true)),upS sn k true,_,by omega,hS5.mono (by omega),fun k' a1 a2=>?_,?_,?_,gs,gs,gs,gs,gs,gs,gs⟩ ?_
    · by_cases e : k' = k
      · subst e;simp [upS]
      · simp only [upS,if_neg e]
        exact hsn k' a1 a2 e
    · omega
    · omega
    · simp -dsimp (maxSteps:=999999) (disch:=omega) only[go_sem,simprocAttr, *,natOf_int]
  | true=>
    have hup : upS sn k true = sn:=by
      funext i
      by_cases e : i = k
      · subst e;simp [upS,hsk]
      · simp [upS,e]
    rw [hsk] at hmade hbk1
    simp only [if_true,Int.add_zero] at hmade
    subst hmade
    have hcut':=hcut _ (by rw [hup];exact hS)
    clear hcut hbk b4
    repeat' (first | apply wz1|apply wz2|apply wz3|apply wz4|apply wz5|apply wz6 | simp -dsimp (maxSteps:=999999) (disch:=omega) only[go_sem,simprocAttr, *] | ((first | refine wz8 ?_ ?_|refine wz9 ?_ ?_|refine wz7 ?_ ?_)<;>intro hh <;> (try replace hh:=vqs hh) <;> (try (exfalso;first | exact hh | omega))))
    refine evB_state bo23 rfl rfl hcut' ?_ (fun _ _ h=>h.elim)
    rintro _ H4 ⟨rfl,c',hS4⟩
    repeat' (first | apply wz1|apply wz2|apply wz3|apply wz4|apply wz5|apply wz6 | simp -dsimp (maxSteps:=999999) (disch:=omega) only[go_sem,simprocAttr, *] | ((first | refine wz8 ?_ ?_|refine wz9 ?_ ?_|refine wz7 ?_ ?_)<;>intro hh <;> (try replace hh:=vqs hh) <;> (try (exfalso;first | exact hh | omega))))
    refine evB_told (A:=B) bo26 (by rfl) (by rfl) rfl hrule ?_
    repeat' (first | apply wz1|apply wz2|apply wz3|apply wz4|apply wz5|apply wz6 | simp -dsimp (maxSteps:=999999) (disch:=omega) only[go_sem,simprocAttr, *] | ((first | refine wz8 ?_ ?_|refine wz9 ?_ ?_|refine wz7 ?_ ?_)<;>intro hh <;> (try replace hh:=vqs hh) <;> (try (exfalso;first | exact hh | omega))))
    refine evB_told (A:=A) bo25 (by rfl) (by rfl) (strip2 sr sw) hwords ?_
    repeat' (first | apply wz1|apply wz2|apply wz3|apply wz4|apply wz5|apply wz6 | simp -dsimp (maxSteps:=999999) (disch:=omega) only[go_sem,simprocAttr, *] | ((first | refine wz8 ?_ ?_|refine wz9 ?_ ?_|refine wz7 ?_ ?_)<;>intro hh <;> (try replace hh:=vqs hh) <;> (try (exfalso;first | exact hh | omega))))
    refine evB_told (A:=A) bo24 (by rfl) (by rfl) (strip2 sp sp) hsame ?_
    repeat' (first | apply wz1|apply wz2|apply wz3|apply wz4|apply wz5|apply wz6 | simp -dsimp (maxSteps:=999999) (disch:=omega) only[go_sem,simprocAttr, *] | ((first | refine wz8 ?_ ?_|refine wz9 ?_ ?_|refine wz7 ?_ ?_)<;>intro hh <;> (try replace hh:=vqs hh) <;> (try (exfalso;first | exact hh | omega))))
    refine evB_state bo22 rfl rfl (made_ok hS4) ?_ (fun _ _ h=>h.elim)
    rintro _ _ ⟨rfl,rfl⟩
    repeat' (first | apply wz1|apply wz2|apply wz3|apply wz4|apply wz5|apply wz6 | simp -dsimp (maxSteps:=999999) (disch:=omega) only[go_sem,simprocAttr, *] | ((first | refine wz8 ?_ ?_|refine wz9 ?_ ?_|refine wz7 ?_ ?_)<;>intro hh <;> (try replace hh:=vqs hh) <;> (try (exfalso;first | exact hh | omega))))
    refine evB_state bo21 rfl rfl (fin c' _ hS4) ?_ (fun _ _ h=>h.elim)
    rintro _ H5 ⟨rfl,hS5⟩
    repeat' (first | apply wz1|apply wz2|apply wz3|apply wz4|apply wz5|apply wz6 | simp -dsimp (maxSteps:=999999) (disch:=omega) only[go_sem,simprocAttr, *] | ((first | refine wz8 ?_ ?_|refine wz9 ?_ ?_|refine wz7 ?_ ?_)<;>intro hh <;> (try replace hh:=vqs hh) <;> (try (exfalso;first | exact hh | omega))))
    refine hR _ _ ⟨i + 1,upS st1 k (some (r,c',true)),upS sn k true,_,by omega,hS5.mono (by omega),fun k' a1 a2=>?_,?_,?_,gs,gs,gs,gs,gs,gs,gs⟩ ?_
    · by_cases e : k' = k
      · subst e;simp [upS]
      · simp only [upS,if_neg e]
        exact hsn k' a1 a2 e
    · omega
    · omega
    · simp -dsimp (maxSteps:=999999) (disch:=omega) only[go_sem,simprocAttr, *,natOf_int]
end Go.Proofs.W
end
section
namespace Vm
open Go
section
variable {P : Program}
theorem typedE_one {e : TypeId} {xs : List D} (ha : aggT P e = false) (h : TypedE P e xs) {α : Type} (f : α → D) (hf : ∀ x,Typed P e [x] → ∃ a,x = f a) : ∃ l : List α,xs = l.map f:=by
  induction xs with
  | nil=>exact ⟨[],rfl⟩
  | cons x xs ih=>
    cases h with
    | agg _ cs _ ha' h hr=>rw [ha] at ha';cases ha'
    | one _ _ _ ha' h hr=>
      obtain ⟨l,hl⟩:=ih hr
      obtain ⟨a,hb⟩:=hf x h
      exact ⟨a :: l,by rw [List.map_cons,← hl,hb]⟩
theorem typedA_slice {t e : TypeId} {ts : List TypeId} {ds : List D} (hu : P.underlying t = some (.slice e)) (ha : aggT P t = false) (h : TypedA P (t :: ts) ds) : ∃ xs r,ds = .sl false xs :: r ∧ xs.length ≤ maxLen ∧ TypedE P e xs ∧ TypedA P ts r:=by
  obtain ⟨d,r,rfl,h1,h2⟩:=typedA_one ha h
  obtain ⟨s,hs,hl,hx⟩:=typed_slice hu h1
  cases hs
  exact ⟨s,r,rfl,hl,hx,h2⟩
theorem typedE_ints {e : TypeId} {k : IntKind} {xs : List D} (hu : P.underlying e = some (.int k)) (ha : aggT P e = false) (h : TypedE P e xs) : ∃ l : List Int,xs = l.map (.int k):=
  typedE_one ha h _ fun x hx=>by
    obtain ⟨n,hn,-⟩:=typed_int hu hx
    cases hn
    exact ⟨n,rfl⟩
end
theorem law_lifted {C : Checked} {os : Os} {f : FuncId} {fn : Func} {s : ChangeSpec} {H : Type} {enc : TypeId × Value → H} {conds : List PathCond} {laid : List (String × DataW Unit)} {A : Ann} {S : List TypeId} {tb : TypeId}
    (started : os.Started) (own : ownKnob C.prog.godebug = none) (noInit : C.prog.inits.idxOf? f = none) (hfn : C.prog.funcs[f]? = some fn)
    (witness : ∃ (w : World) (tape : Tape) (i : Input),w.os = os ∧ (w.forCall tape i).Shaped C.prog ∧ i.vars = [] ∧ Input.okWide C.prog (w.forCall tape i) .any w.heap.size f i ∧
      ((s.pre enc C.prog fn conds false (w.forCall tape i).memory i.args ∧ laidMetH C.prog laid (w.forCall tape i).memory) ∧ sizedMet enc C.prog fn (OpenSpec.ofChange s) false (w.forCall tape i).memory i.args) ∧ ({} : Assume).holds C.prog (lone (Frame.enter C.prog f i.args .normal) [] (w.forCall tape i)))
    (hvars : s.vars = []) (hl : laidOutB C.prog = true)
    (hts : (fn.params.toList.all fun t=>C.prog.readableRec t && decide (t < C.prog.types.size)) = true) (hS : plainS C.prog S = true) (hpl : (fn.params.toList.all fun t=>S.contains t) = true)
    (hbod : bodied C.prog f = true) (hres : fn.resultTypes = #[tb]) (htb : C.prog.underlying tb = some .bool)
    (hs : ∀ ds : List (DataW H),ds.length = fn.params.size → (s.fn H ds).results = [.lit (.bool true)] ∧ (s.fn H ds).args = ds ∧ (s.fn H ds).vars = [])
    (hprim : ∀ W : World,W.ShapedOpen C.prog → @PrimOk ⟨im0 W⟩ C.prog A)
    (hrun : ∀ Ds,TypedA C.prog fn.params.toList Ds → ∃ k H',runF C.prog A k f Ds [] = some (.ok (.bool true) H')) :
    ReturnsInHanded {} C os f .any (fun w args=>(s.pre enc C.prog fn conds false w args ∧ laidMetH C.prog laid w) ∧ sizedMet enc C.prog fn (OpenSpec.ofChange s) false w args) (s.post enc C.prog fn false true false false):=by
  refine returnsInHanded_of_calls own started noInit witness ?_
  intro w tape i _ hsh _ hok hpre hholds
  obtain ⟨_,_,_,fn',hfn',_,_,_,_,hval⟩:=hok
  have e : fn' = fn:=Option.some.inj (hfn'.symm.trans hfn)
  subst e
  obtain ⟨⟨⟨ds,gs,before,hw,hc⟩,hx⟩,hz⟩:=hpre
  have hw':=DataW.Whole.of_heap (w':=w.forCall tape i) (by rfl) hw
  have hts' : ∀ t ∈ fn'.params.toList,C.prog.readableRec t = true ∧ t < C.prog.types.size:=fun t ht=>by
    have h2 : C.prog.readableRec t = true ∧ decide (t < C.prog.types.size) = true:=by simpa only [Bool.and_eq_true] using List.all_eq_true.1 hts t ht
    exact ⟨h2.1,of_decide_eq_true h2.2⟩
  refine (law_contract hvars hl hts' hS hpl hbod hres htb hs hrun (w.forCall tape i) w.heap.size i.args ds gs before hval hw' (hprim _ hsh)).mono fun e W' ⟨v,he,hp⟩=>?_
  subst he
  exact ChangeSpec.post_blind hp
end Vm
end
section
-- use:
namespace Go.Proofs.W
open Go Vm Go.Proofs.Zs25
theorem typedE_bytes {e : TypeId} {xs : List D} (hu : Tryz.prog.underlying e = some (.int .u8)) (ha : aggT Tryz.prog e = false) (h : TypedE Tryz.prog e xs) : ∃ l : List Int,xs = l.map (.int .u8) ∧ ∀ x ∈ l,0 ≤ x ∧ x < 256:=by
  induction xs with
  | nil=>exact ⟨[],rfl,by simp⟩
  | cons x xs ih=>
    cases h with
    | agg _ cs _ ha' h hr=>rw [ha] at ha';cases ha'
    | one _ _ _ ha' h hr=>
      obtain ⟨l,hl,hq⟩:=ih hr
      obtain ⟨n,hn,hw⟩:=typed_int hu h
      cases hn
      refine ⟨n :: l,by rw [List.map_cons,← hl],fun y hy=>?_⟩
      rcases List.mem_cons.1 hy with rfl | hy
      · simp [Lit.wf,IntKind.min,IntKind.max,IntKind.signed,IntKind.bits] at hw;omega
      · exact hq y hy
end Go.Proofs.W
end
