/- Texts that stand behind this claim, one after the other. -/
import Derived.Test.YtcacifbfoifojaaM1
import Derived.Laws.BytesString
/- Every operation of the interpreter is the model's. -/
section
set_option linter.unusedVariables false
set_option linter.unusedSimpArgs false
namespace Vm
open Go Go.RowKit
variable [Base]

omit [Base] in
theorem bind_some {α β : Type} {x : Option α} {f : α → Option β} {b : β} (h : x.bind f = some b) : ∃ a, x = some a ∧ f a = some b := by
  cases x with
  | none => cases h
  | some a => exact ⟨a, rfl, h⟩
omit [Base] in
theorem map_some {α β : Type} {x : Option α} {f : α → β} {b : β} (h : x.map f = some b) : ∃ a, x = some a ∧ f a = b := by
  cases x with
  | none => cases h
  | some a => exact ⟨a, rfl, by simpa using h⟩
omit [Base] in
theorem okD_some {H : Heap} {x : Option D} {r : R} (h : okD H x = some r) : ∃ d, x = some d ∧ r = .ok d H := by
  obtain ⟨d, h1, h2⟩ := map_some h; exact ⟨d, h1, h2.symm⟩
omit [Base] in
theorem okH_some {x : Option (D × Heap)} {r : R} (h : okH x = some r) : ∃ d H, x = some (d, H) ∧ r = .ok d H := by
  obtain ⟨⟨d, H⟩, h1, h2⟩ := map_some h; exact ⟨d, H, h1, h2.symm⟩
omit [Base] in
theorem okU_some {x : Option Heap} {r : R} (h : okU x = some r) : ∃ H, x = some H ∧ r = .ok ud H := by
  obtain ⟨H, h1, h2⟩ := map_some h; exact ⟨H, h1, h2.symm⟩

section
variable {P : Program} {ρ : Rho} {im : Im} {H : Heap} {w w' : World} {n N : Nat} {a : Act} {e : Env} {A : Ann} {call : CallF} {r : R}

omit [Base] in
theorem bytesBack_ints : ∀ {xs : List D} {s : List UInt8}, bytesBack xs = some s → ∃ ns : List Int, xs = ns.map (D.int .u8) ∧ s = ns.map fun n => UInt8.ofNat n.toNat
  | [], s, h => by simp [bytesBack] at h; subst h; exact ⟨[], rfl, rfl⟩
  | .int .u8 n :: r, s, h => by
    simp only [bytesBack] at h
    obtain ⟨s', h1, rfl⟩ := map_some h
    obtain ⟨ns, rfl, rfl⟩ := bytesBack_ints h1
    exact ⟨n :: ns, rfl, rfl⟩
  | .int .i8 _ :: _, s, h | .int .i16 _ :: _, s, h | .int .i32 _ :: _, s, h | .int .i64 _ :: _, s, h => by simp [bytesBack] at h
  | .int .u16 _ :: _, s, h | .int .u32 _ :: _, s, h | .int .u64 _ :: _, s, h => by simp [bytesBack] at h
  | .bool _ :: _, s, h | .str _ :: _, s, h | .nilp :: _, s, h | .ptr .. :: _, s, h | .ept .. :: _, s, h | .sl .. :: _, s, h | .vec .. :: _, s, h | .map _ :: _, s, h => by simp [bytesBack] at h
  | .nilm :: _, s, h | .fn .. :: _, s, h | .niln :: _, s, h | .iface .. :: _, s, h | .nili :: _, s, h | .agg _ :: _, s, h | .tup _ :: _, s, h | .yld _ :: _, s, h => by simp [bytesBack] at h
omit [Base] in
theorem bytes_cells : ∀ {ns : List Int} {vs : List Value}, RepL ρ n im vs (flatC (ns.map (D.int .u8))) → vs = ns.map (Value.int .u8)
  | [], vs, h => by cases h; rfl
  | m :: ns, vs, h => by
    simp only [List.map_cons, flatC, List.flatMap_cons, D.cells, List.cons_append, List.nil_append] at h
    cases h with
    | cons v _ vs _ _ hv hr =>
      cases hv
      rw [bytes_cells hr]; rfl
omit [Base] in
theorem push_all (ns : List Int) : ∀ (r : ByteArray), (ns.foldl (fun r n => r.push (UInt8.ofNat n.toNat)) r).data.toList = r.data.toList ++ ns.map fun n => UInt8.ofNat n.toNat := by
  induction ns with
  | nil => intro r; simp
  | cons m ns ih => intro r; simp only [List.foldl_cons, ih, List.map_cons]; simp [ByteArray.push]
theorem convD_run {s t : TypeId} {x d : D} {vx : Value} {H' : Heap} (hR : Rel ρ im H w) (hx : Rep ρ H.length im vx x) (h : convD P s t x H = some (d, H')) : H' = H ∧ ∃ v, (convert s t vx).run P w = .ok v w ∧ Rep ρ H.length im v d := by
  unfold convD at h
  split at h
  · rename_i k1 k k2 m h1 h2
    simp at h; obtain ⟨rfl, rfl⟩ := h
    cases hx
    exact ⟨rfl, _, by simp [convert, run_underlying h1, run_underlying h2, Conv.intToInt], .int _ _⟩
  · rename_i s' h1 h2
    simp at h; obtain ⟨rfl, rfl⟩ := h
    refine ⟨rfl, _, ?_, hx⟩
    cases hx
    simp [convert, run_underlying h1, run_underlying h2]
  · rename_i e x' h1 h2
    split at h
    · rename_i h3
      obtain ⟨xs, h4, h5⟩ := bind_some h
      obtain ⟨s, h6, h7⟩ := map_some h5
      cases h7
      obtain ⟨a0, cap, sz, vs, rfl, g1, _, _, g4⟩ := elems_read hR hx h4
      obtain ⟨ns, rfl, rfl⟩ := bytesBack_ints h6
      have hvs := bytes_cells g1
      refine ⟨rfl, ?_⟩
      have hconv : ∀ v : Value, (convert s t (.slice a0 (ns.map (D.int .u8)).length cap)).run P w = (Conv.bytesToString (.slice a0 (ns.map (D.int .u8)).length cap)).run P w := by
        intro _
        simp [convert, run_underlying h1, run_underlying h2, run_underlying h3]
      rw [hconv undef]
      have main : ∃ ba : ByteArray, (Conv.bytesToString (.slice a0 (ns.map (D.int .u8)).length cap)).run P w = .ok (.string ba) w ∧ ba.data.toList = ns.map fun n => UInt8.ofNat n.toNat := by
        cases a0 with
        | none =>
          have : ns = [] := by
            cases ns with
            | nil => rfl
            | cons m ns => obtain ⟨b, o, e, _⟩ := g4 (by simp); cases e
          subst this
          exact ⟨ByteArray.empty, by simp [Conv.bytesToString], rfl⟩
        | some ad =>
          refine ⟨_, run_bytesToString w ad _ cap ns ?_, by simpa using push_all ns ByteArray.empty⟩
          have := run_loadCells_list (P := P) (w := w) ad vs (fun j v hj => by
            have hj' : j < vs.length := by
              rcases Nat.lt_or_ge j vs.length with h | h
              · exact h
              · rw [List.getElem?_eq_none h] at hj; cases hj
            obtain ⟨b, o, e, g⟩ := g4 (by rintro e; rw [hvs] at hj'; simp at e; subst e; simp at hj')
            cases e
            rw [add_plain, g j hj', hj])
          rw [hvs] at this
          simpa using this
      obtain ⟨ba, m1, m2⟩ := main
      exact ⟨_, m1, by rw [← m2]; exact .str ba⟩
    · cases h
  · cases h

def assertC (P : Program) (x : D) (u : TypeId) (ok : Bool) : Option D :=
  match x with
  | .iface t v => if t = u then some (if ok then .tup [v, .bool true] else v) else if ok then (zeroT P u).map fun z => .tup [z, .bool false] else none
  | .nili => if ok then (zeroT P u).map fun z => .tup [z, .bool false] else none
  | _ => none
omit [Base] in
theorem assertD_run {x d : D} {vx : Value} {u xt : TypeId} {ok : Bool} (hx : Rep ρ n im vx x) (h : assertD P x u ok = some d) : ∃ v, (Instr.typeAssert vx xt u ok).run P w = .ok v w ∧ Rep ρ n im v d := by
  unfold assertD at h
  cases hu : P.underlying u with
  | none => simp [hu] at h
  | some td =>
    have zero : ∀ {d : D}, (zeroT P u).map (fun z => D.tup [z, .bool false]) = some d → ∃ z, (zeroValue u).run P w = .ok z w ∧ Rep ρ n im (.tuple #[z, .bool false]) d := fun h => by
      obtain ⟨z, h1, rfl⟩ := map_some h
      obtain ⟨zv, g1, g2, _⟩ := run_zero h1 w
      exact ⟨zv, g1, .tup [zv, .bool false] [z, .bool false] (.cons _ _ _ _ (ofV_rep g2) (.cons _ _ _ _ (.bool false) .nil))⟩
    have main : assertC P x u ok = some d ∧ (∀ ms, td ≠ .interface ms) := by
      clear hx zero
      cases td <;> simp only [hu] at h <;> first | (cases h; done) | exact ⟨h, fun ms e => by cases e⟩
    obtain ⟨k, hni⟩ := main
    clear h
    unfold Instr.typeAssert
    cases hx with
    | iface t v d' hv =>
      simp only [assertC] at k
      by_cases ht : t = u
      · rw [if_pos ht] at k
        subst ht
        simp at k
        refine ⟨if ok then .tuple #[v, .bool true] else v, ?_, ?_⟩
        · simp only [Sem.run_bind, run_underlying hu, Result.andThen_ok]
          cases td <;> first | (exact (hni _ rfl).elim) | simp
        · cases ok
          · simp at k; subst k; simpa using hv
          · simp at k; subst k
            exact .tup [v, .bool true] [d', .bool true] (.cons _ _ _ _ hv (.cons _ _ _ _ (.bool true) .nil))
      · rw [if_neg ht] at k
        cases ok with
        | false => simp at k
        | true =>
          simp only [if_true] at k
          obtain ⟨z, g1, g2⟩ := zero k
          refine ⟨_, ?_, g2⟩
          simp only [Sem.run_bind, run_underlying hu, Result.andThen_ok]
          cases td <;> first | (exact (hni _ rfl).elim) | simp [ht, g1]
    | nili =>
      simp only [assertC] at k
      cases ok with
      | false => simp at k
      | true =>
        simp only [if_true] at k
        obtain ⟨z, g1, g2⟩ := zero k
        refine ⟨_, ?_, g2⟩
        simp only [Sem.run_bind, run_underlying hu, Result.andThen_ok]
        cases td <;> first | (exact (hni _ rfl).elim) | simp [g1]
    | _ => simp [assertC] at k
omit [Base] in
theorem callsIn_fw {ro : Option Nat} {n : Nat} {f : FuncId} {args : Array Value} {w : World} {R : Ending → World → Prop} (h : Calls P f args w R) : CallsIn (FW ro) n P f args w R :=
  have h' : CallsIn Fence.wide n P f args w R := callsIn_wide.2 h
  h'
omit [Base] in
theorem resolve_yield {ρe : Operand → Value} {c : Call} {ty : TypeId} {f : Operand} (hc : c.callee = .value f) {l : Nat} (hf : ρe f = .func (.yield l) #[] #[]) :
    (resolve ρe c ty).run P w = .ok { target := .fn (.yield l) #[], args := c.args.map ρe } w := by
  unfold resolve
  rw [hc]
  simp [hf, Deferred.ofValue]
theorem stepOp_ok (hA : PrimOk P A) (hcall : CallOk P call) {o : Oper} (hR : Rel ρ im H w) (he : EnvR ρ H.length im N a e) (h : stepOp P A call o.op e H = some r) : OpOk P ρ im H w a o r := by
  obtain ⟨dst, op, ty, pos, after, guard⟩ := o
  have same : ∀ {v : Value} {d : D}, (execOp a.eval ⟨dst, op, ty, pos, after, guard⟩).run P w = .ok (.value v) w → Rep ρ H.length im v d → OpOk P ρ im H w a ⟨dst, op, ty, pos, after, guard⟩ (.ok d H) := fun h1 h2 => opOk_same hR h1 h2
  cases op <;> simp only [stepOp] at h <;> try (cases h; done)
  case move x => obtain ⟨d, h1, rfl⟩ := okD_some h; exact same (by simp [execOp]) (evalO_rep he h1)
  case assign x => obtain ⟨d, h1, rfl⟩ := okD_some h; exact same (by simp [execOp]) (evalO_rep he h1)
  case pick c x y =>
    obtain ⟨dc, h1, h2⟩ := bind_some h
    have hc := evalO_rep he h1
    cases dc <;> simp only at h2 <;> try (cases h2; done)
    rename_i b
    obtain ⟨d, h3, rfl⟩ := okD_some h2
    have hc' := hc.bool_inv
    cases b
    · exact same (v := a.eval y) (by simp [execOp, hc', asBool]) (evalO_rep he (by simpa using h3))
    · exact same (v := a.eval x) (by simp [execOp, hc', asBool]) (evalO_rep he (by simpa using h3))
  case alloc t =>
    obtain ⟨z, h1, h2⟩ := map_some h
    subst h2
    obtain ⟨zv, hzr, hzo, hnt⟩ := run_zero h1 w
    obtain ⟨ρ', w1, g1, g2, g3⟩ := box_run (P := P) hR (ofV_rep hzo) hnt t
    exact opOk_value (v := .pointer (some ⟨w.heap.size, 0, none⟩)) (by simp [execOp, Instr.alloc, hzr, g1]) g2 g3
  case box t x =>
    obtain ⟨d, h1, h2⟩ := bind_some h
    split at h2
    · rename_i hn
      simp at h2; subst h2
      obtain ⟨ρ', w1, g1, g2, g3⟩ := box_run (P := P) hR (evalO_rep he h1) (fun l e => by subst e; simp [noTup] at hn) t
      exact opOk_value (v := .pointer (some ⟨w.heap.size, 0, none⟩)) (by simp [execOp, Instr.box, g1]) g2 g3
    · cases h2
  case build t ps =>
    obtain ⟨l, h1, h2⟩ := bind_some h
    obtain ⟨d, h3, rfl⟩ := okD_some h2
    obtain ⟨v, g1, g2⟩ := build_run (P := P) (w := w) (partsD_rep he h1) h3
    refine same ?_ g2
    have e1 : (ps.map fun (i, x) => (i, a.eval x)) = ⟨ps.toList.map fun (i, x) => (i, a.eval x)⟩ := by apply Array.ext'; simp
    simp only [execOp, e1]
    simp [g1]
  case buildSlice t m ps =>
    obtain ⟨l, h1, h2⟩ := bind_some h
    obtain ⟨d, H', h3, rfl⟩ := okH_some h2
    obtain ⟨v, ρ', w1, g1, g2, g3⟩ := buildSlice_run (P := P) hR (partsD_rep he h1) h3
    refine opOk_value ?_ g2 g3
    have e1 : (ps.map fun (i, x) => (i, a.eval x)) = ⟨ps.toList.map fun (i, x) => (i, a.eval x)⟩ := by apply Array.ext'; simp
    simp only [execOp, e1]
    simp [g1]
  case load t x =>
    obtain ⟨p, h1, h2⟩ := bind_some h
    obtain ⟨d, h3, rfl⟩ := okD_some h2
    obtain ⟨v, g1, g2⟩ := loadD_run (P := P) hR (evalO_rep he h1) h3
    exact same (by simp [execOp, g1]) g2
  case store t x y =>
    obtain ⟨p, h1, h2⟩ := bind_some h
    obtain ⟨v, h3, h4⟩ := bind_some h2
    obtain ⟨H', h5, rfl⟩ := okU_some h4
    obtain ⟨w1, g1, g2, g3⟩ := storeD_run (P := P) hR (evalO_rep he h1) (evalO_rep he h3) h5
    exact opOk_skip (by simp [execOp, g1]) ⟨g2, ImLe.refl _, g3, fun _ _ _ h => .inl h⟩
  case nilCheck x =>
    obtain ⟨p, h1, h2⟩ := bind_some h
    have hp := evalO_rep he h1
    cases p <;> simp only at h2 <;> try (cases h2; done)
    · simp at h2; subst h2
      generalize hv : a.eval x = v at hp
      cases hp with
      | ptr _ _ _ hr => exact same (by simp only [execOp, hv]; rfl) (.ptr _ _ _ hr)
    · simp at h2; subst h2
      generalize hv : a.eval x = v at hp
      cases hp with
      | ept b o _ _ vs hc hl => exact same (by simp only [execOp, hv]; rfl) (.ept b o _ _ vs hc hl)
    · simp at h2; subst h2
      generalize hv : a.eval x = v at hp
      cases hp with
      | fn _ vs _ hl => exact same (by simp only [execOp, hv]; rfl) (.fn _ vs _ hl)
  case binOp op t x y yt =>
    obtain ⟨p, h1, h2⟩ := bind_some h
    obtain ⟨q, h3, h4⟩ := bind_some h2
    obtain ⟨d, h5, rfl⟩ := okD_some h4
    obtain ⟨v, g1, g2⟩ := binD_run (P := P) (w := w) h5 (evalO_rep he h1) (evalO_rep he h3) x y
    refine same ?_ g2
    simp only [execOp, Sem.run_bind] at g1 ⊢
    rw [g1]; rfl
  case unOp op t x =>
    obtain ⟨p, h1, h2⟩ := bind_some h
    obtain ⟨d, h5, rfl⟩ := okD_some h2
    obtain ⟨v, g1, g2⟩ := unD_run (P := P) (w := w) h5 (evalO_rep he h1)
    exact same (by simp [execOp, g1]) g2
  case convert s t x =>
    obtain ⟨p, h1, h2⟩ := bind_some h
    obtain ⟨d, H', h5, rfl⟩ := okH_some h2
    obtain ⟨rfl, v, g1, g2⟩ := convD_run (P := P) hR (evalO_rep he h1) h5
    exact same (by simp [execOp, g1]) g2
  case makeInterface t x =>
    obtain ⟨p, h1, h2⟩ := bind_some h
    have hp := evalO_rep he h1
    split at h2
    · cases h2
    · rename_i td hni hu
      simp at h2; subst h2
      refine same ?_ (.iface t _ _ hp)
      have : (Instr.makeInterface t (a.eval x)).run P w = .ok (.iface t (a.eval x)) w := by
        cases td <;> first | (exact (hni _ rfl).elim) | (simp [Instr.makeInterface, run_underlying hu])
      simp [execOp, this]
    · cases h2
  case makeFunc fn fs cs =>
    cases fn <;> simp only at h <;> try (cases h; done)
    rename_i f
    split at h
    · rename_i hfs
      obtain ⟨l, h1, h2⟩ := map_some h
      subst h2
      have hl := evalOs_rep he h1
      have e1 : fs = #[] := by simpa using hfs
      subst e1
      refine same ?_ (.fn f _ _ hl)
      have e2 : cs.map a.eval = ⟨cs.toList.map a.eval⟩ := by apply Array.ext'; simp
      simp [execOp, Instr.makeFunc, e2]
    · cases h
  case makeSlice t l c =>
    obtain ⟨dl, h1, h2⟩ := bind_some h
    obtain ⟨dc, h3, h4⟩ := bind_some h2
    obtain ⟨d, H', h5, rfl⟩ := okH_some h4
    obtain ⟨v, ρ', w1, g1, g2, g3⟩ := makeSlice_run (P := P) hR (evalO_rep he h1) (evalO_rep he h3) h5
    exact opOk_value (by simp [execOp, g1]) g2 g3
  case slice t x lo hi mx =>
    obtain ⟨dx, h1, h2⟩ := bind_some h
    obtain ⟨dlo, h3, h4⟩ := bind_some h2
    obtain ⟨dhi, h5, h6⟩ := bind_some h4
    obtain ⟨dmx, h7, h8⟩ := bind_some h6
    obtain ⟨d, h9, rfl⟩ := okD_some h8
    obtain ⟨v, g1, g2⟩ := slice_run (P := P) hR h9 (evalO_rep he h1) (evalOo_rep he h3) (evalOo_rep he h5) (evalOo_rep he h7)
    exact same (by simp [execOp, g1]) g2
  case fieldAddr t x f =>
    obtain ⟨p, h1, h2⟩ := bind_some h
    obtain ⟨⟨o, u⟩, h3, h4⟩ := bind_some h2
    obtain ⟨z, h5, h6⟩ := bind_some h4
    obtain ⟨d, h7, rfl⟩ := okD_some h6
    obtain ⟨v, g1, g2⟩ := fieldAt_run (P := P) (w := w) h3 h5 h7 (evalO_rep he h1)
    exact same (by simp [execOp, g1]) g2
  case field t x f =>
    obtain ⟨p, h1, h2⟩ := bind_some h
    have hp := evalO_rep he h1
    cases p <;> simp only at h2 <;> try (cases h2; done)
    obtain ⟨⟨o, u⟩, h3, h4⟩ := bind_some h2
    obtain ⟨d, h7, rfl⟩ := okD_some h4
    generalize hv : a.eval x = v at hp
    cases hp with
    | agg vs cs hl =>
      obtain ⟨v, g1, g2⟩ := field_run (P := P) (w := w) h3 h7 hl
      exact same (by simp [execOp, hv, g1]) g2
  case indexAddr t x i =>
    obtain ⟨dx, h1, h2⟩ := bind_some h
    obtain ⟨di, h3, h4⟩ := bind_some h2
    obtain ⟨d, h7, rfl⟩ := okD_some h4
    obtain ⟨v, g1, g2⟩ := indexAddr_run (P := P) hR h7 (evalO_rep he h1) (evalO_rep he h3)
    exact same (by simp [execOp, g1]) g2
  case index t x i =>
    obtain ⟨dx, h1, h2⟩ := bind_some h
    obtain ⟨di, h3, h4⟩ := bind_some h2
    obtain ⟨d, h7, rfl⟩ := okD_some h4
    obtain ⟨v, g1, g2⟩ := index_run (P := P) (w := w) h7 (evalO_rep he h1) (evalO_rep he h3)
    exact same (by simp [execOp, g1]) g2
  case extract x i =>
    obtain ⟨p, h1, h2⟩ := bind_some h
    have hp := evalO_rep he h1
    cases p <;> simp only at h2 <;> try (cases h2; done)
    obtain ⟨d, h7, rfl⟩ := okD_some h2
    generalize hv : a.eval x = v at hp
    cases hp with
    | tup vs cs hl =>
      obtain ⟨u, g1, g2⟩ := hl.get h7
      exact same (by simp [execOp, hv, Instr.extract, g1]) g2
  case typeAssert x xt t ok =>
    obtain ⟨d0, h1, h2⟩ := bind_some h
    obtain ⟨d, h3, rfl⟩ := okD_some h2
    obtain ⟨v, g1, g2⟩ := assertD_run (P := P) (w := w) (xt := xt) (evalO_rep he h1) h3
    exact same (by simp [execOp, g1]) g2
  case call c =>
    obtain ⟨args, h1, h2⟩ := bind_some h
    have hargs := evalOs_rep he h1
    have e2 : c.args.map a.eval = ⟨c.args.toList.map a.eval⟩ := by apply Array.ext'; simp
    cases hc : c.callee with
    | builtin b =>
      simp only [hc] at h2
      obtain ⟨d, H', h3, rfl⟩ := okH_some h2
      obtain ⟨v, ρ', im', w1, g1, g2, g3⟩ := builtin_ok (ty := ty) (consts := c.args.map fun | .const _ => true | _ => false) hR hargs h3
      refine opOk_value ?_ g2 g3
      simp only [execOp, resolve, hc, Sem.run_bind, Sem.run_pure, Result.andThen_ok, invoke, e2]
      exact g1
    | invoke x y => simp [hc] at h2
    | value f =>
      simp only [hc] at h2
      obtain ⟨df, h3, h4⟩ := bind_some h2
      have hf := evalO_rep he h3
      cases df <;> simp only at h4 <;> try (cases h4; done)
      · rename_i g cs
        generalize hv : a.eval f = v at hf
        cases hf with
        | fn _ vs _ hl =>
          have hall := hargs.append hl
          obtain ⟨hb, hcalls⟩ := callD_ok hA hcall hR hall h4
          intro ro n K Q hK hQ
          have hrun : (execOp a.eval ⟨dst, .call c, ty, pos, after, guard⟩).run P w = .ok (.enter g ⟨c.args.toList.map a.eval ++ vs⟩) w := by
            simp only [execOp, Sem.run_bind, resolve_run (P := P) (w := w) hc hv, Result.andThen_ok, invoke, e2]
            have : (⟨c.args.toList.map a.eval⟩ : Array Value) ++ ⟨vs⟩ = ⟨c.args.toList.map a.eval ++ vs⟩ := by apply Array.ext'; simp
            rw [this, callFunc_run hb]
          refine wpIn_run hrun (fun d h => by cases h) ⟨fw_depth, callsIn_fw (hcalls.mono fun en w2 hout => ?_)⟩
          cases hout with
          | ok ρ' im' H' _ v d hm hv => exact hK v w2 (.ok ρ' im' H' w2 v d hm hv)
          | pan ρ' im' H' _ v d hm hv => exact hQ _ w2 (.pan ρ' im' H' w2 v d hm hv)
      · rename_i g
        generalize hv : a.eval f = v at hf
        cases hf with
        | yld g hg =>
          have hcalls := hcall _ _ _ _ h4 ρ im w _ hR hargs
          unfold CallR at hcalls
          rw [Array.getElem?_eq_none (by omega)] at hcalls
          have e3 : P.funcs.size + g - P.funcs.size = g := by omega
          simp only [e3] at hcalls
          obtain ⟨fn, tmps, assign, body, hy, hround⟩ := hcalls
          intro ro n K Q hK hQ
          have hrun : (execOp a.eval ⟨dst, .call c, ty, pos, after, guard⟩).run P w = .ok (.round (ρ g).b fn tmps assign body) w := by
            simp only [execOp, Sem.run_bind, resolve_yield (P := P) (w := w) hc hv, Result.andThen_ok, invoke, e2]
            exact hy
          refine wpIn_run hrun (fun d h => by cases h) ⟨fw_depth, (hround ro (n - 1)).mono fun en w2 hout => ?_⟩
          cases hout with
          | ok ρ' im' H' _ v d hm hv => exact hK v w2 (.ok ρ' im' H' w2 v d hm hv)
          | pan ρ' im' H' _ v d hm hv => exact hQ _ w2 (.pan ρ' im' H' w2 v d hm hv)
  case panic x =>
    obtain ⟨p, h1, h2⟩ := bind_some h
    have hp := evalO_rep he h1
    cases p <;> simp only at h2 <;> try (cases h2; done)
    rename_i tt dd
    simp at h2; subst h2
    generalize hv : a.eval x = v at hp
    cases hp with
    | iface _ v _ hvd =>
      intro ro n K Q hK hQ
      have hrun : (execOp a.eval ⟨dst, .panic x, ty, pos, after, guard⟩).run P w = .halt (.panic (.iface tt v)) w := by
        simp only [execOp, hv, Instr.panic]; rfl
      refine ⟨fun f _ => trivial, ?_⟩
      rw [Oper.semAt_eq _ _ _ (fun c h => by cases h), hrun]
      exact hQ _ w (.pan ρ im H w _ _ (Mv.refl hR) (.iface _ v _ hvd))
end
end Vm
end
/- The interpreter's code and calls. -/
section
set_option linter.unusedVariables false
namespace Vm
open Go

inductive Ex where
  | norm
  | exit (id : Nat)
  | ret
  | pan (d : D)
  deriving Inhabited
structure St where
  ex : Ex
  e : Env
  H : Heap

def wantD (ops : Array Oper) (e : Env) (o : Oper) : Option Bool :=
  match o.guard with
  | none => some true
  | some (j, want) => match (ops[j]?).bind (·.dst) with
    | some d => match e d with
      | .bool b => some (b == want)
      | _ => some false
    | none => some false
def deferC : Op → Option Call
  | .defer c => some c
  | _ => none
/-- one more call waits for the function's end -/
def pushD (P : Program) (e : Env) (c : Call) : Option Env :=
  e.df.bind fun l => match c.callee with
    | .value f => (evalOs e c.args.toList).bind fun args => (evalO e f).bind fun
      | .fn g cs => if bodied P g then some ⟨e.f, some (.call g (args ++ cs) :: l)⟩ else none
      | _ => none
    | _ => none
def runOps (P : Program) (A : Ann) (call : CallF) (N : Nat) (ops : Array Oper) : List Oper → Env → Heap → Option St
  | [], e, H => some ⟨.norm, e, H⟩
  | o :: rest, e, H => if dstOk N o.dst = false then none else
    match wantD ops e o with
    | some true => match deferC o.op with
      | some c => match pushD P e c with
        | some e => runOps P A call N ops rest (putO e o.dst ud) H
        | none => none
      | none => match stepOp P A call o.op e H with
        | some (.ok d H) => runOps P A call N ops rest (putO e o.dst d) H
        | some (.pan d H) => some ⟨.pan d, e, H⟩
        | none => none
    | some false => runOps P A call N ops rest (putO e o.dst ud) H
    | none => none
/-! ### regions whose order is open -/
def quietO (A : Ann) : Op → Bool
  | .move _ | .assign _ | .pick .. | .load .. | .nilCheck _ | .binOp .. | .unOp .. | .convert .. | .makeInterface .. | .makeFunc .. | .slice .. | .fieldAddr .. | .field .. | .indexAddr .. | .index .. | .extract .. | .build .. => true
  | .buildSlice t _ _ => A.fz t
  | .call c => match c.callee with
    | .builtin .len | .builtin .min | .builtin .max => true
    | .value (.func f) => (A.prim f).isNone && A.mode f == .pure
    | _ => false
  | _ => false
/-- an operation waits on another, be it through others -/
def chainOn (ops : Array Oper) : Nat → Nat → Nat → Bool
  | 0, _, _ => false
  | n + 1, j, k => ((ops[j]?).map fun o => (o.after.toList.any fun e => Region.binds .any e && e.on == k) || o.after.toList.any fun e => Region.binds .any e && chainOn ops n e.on k).getD false
def quietAt (A : Ann) (ops : Array Oper) (k : Nat) : Bool := ((ops[k]?).map fun o => quietO A o.op).getD false
/-- the objects that a value leads to by itself -/
def objsD : D → List Nat
  | .ptr r _ _ | .vec r _ _ | .map r => [r]
  | _ => []
def slotsO (l : List Operand) : List Nat := l.filterMap fun | .tmp t => some t | _ => none
/-- operands whose objects an operation reads, or writes -/
def readOps : Op → List Operand
  | .load _ a => [a]
  | .store _ a _ => [a]
  | .indexAddr _ x _ => [x]
  | .slice _ x _ _ _ => [x]
  | .convert _ _ x => [x]
  | .call c => match c.callee with
    | .builtin .len | .builtin .append => c.args.toList
    | _ => []
  | _ => []
def writeOps : Op → List Operand
  | .store _ a _ => [a]
  | .call c => match c.callee with
    | .builtin .append => c.args.toList.take 1
    | _ => []
  | _ => []
/-- an operation that lays new objects -/
def growO (A : Ann) : Op → Bool
  | .alloc _ | .box .. | .makeSlice .. => true
  | .buildSlice t _ _ => !A.fz t
  | .call c => match c.callee with
    | .builtin .append => true
    | _ => false
  | _ => false
def storeO? : Op → Bool
  | .store .. => true
  | _ => false
/-- an operation of which is known what it reads and writes -/
def openO (A : Ann) (o : Op) : Bool := quietO A o || storeO? o || growO A o
def tSl (o : Oper) : List Nat := slotsO (readOps o.op)
def wSl (A : Ann) (o : Oper) : List Nat := slotsO (writeOps o.op) ++ (if growO A o.op then o.dst.toList else [])
def looksL (ops : Array Oper) (o : Oper) : List Nat :=
  slotsO o.op.operands.toList ++ (match o.guard with | some (g, _) => ((ops[g]?).bind (·.dst)).toList | none => [])
def freeOf (ops : Array Oper) (k j : Nat) : Bool := !chainOn ops ops.size j k
def pairOk (A : Ann) (ops : Array Oper) (k j : Nat) : Bool :=
  match ops[k]?, ops[j]? with
  | some ok, some oj => openO A ok.op && openO A oj.op && !(growO A ok.op && growO A oj.op) && (match ok.dst with | some d => !(looksL ops oj).contains d | none => true)
  | _, _ => true
/-- slots that lead to what an operation reads or writes -/
def objSl (o : Oper) : List Nat := slotsO (readOps o.op) ++ slotsO (writeOps o.op)
def lexD (A : Ann) (ops : Array Oper) : Bool :=
  (List.range ops.size).all fun j => match ops[j]? with
    | some oj => (oj.after.toList.all fun e => !Region.binds .any e || decide (e.on < j)) && (!growO A oj.op || oj.dst.isSome) &&
        ((List.range ops.size).all fun k => match ops[k]? with
          | some ok => (decide (j < k) || (match oj.dst with | some d => !(objSl ok).contains d && ((decide (k < j) && !freeOf ops k j) || !(looksL ops ok).contains d) | none => true)) &&
              (decide (j ≤ k) || (match oj.dst with | some d => ok.dst != some d | none => true)) &&
              (decide (j ≤ k) || !freeOf ops k j || pairOk A ops k j)
          | none => true)
    | none => true
/-- what two operations that do not wait on one another lead to: apart -/
def pairsD (A : Ann) (ops : Array Oper) : List (List Nat × List Nat) :=
  (List.range ops.size).flatMap fun j => (List.range j).flatMap fun k => match ops[k]?, ops[j]? with
    | some ok, some oj => if freeOf ops k j then [(wSl A ok, tSl oj ++ wSl A oj), (wSl A oj, tSl ok ++ wSl A ok)].filter fun p => !p.1.isEmpty && !p.2.isEmpty else []
    | _, _ => []
def objsE (e : Env) (l : List Nat) : List Nat := l.flatMap fun t => objsD (e t)
def disjE (e : Env) (p : List Nat × List Nat) : Bool := (objsE e p.1).all fun x => (objsE e p.2).all fun y => x != y
/-- what is appended is plain -/
def plainEl (H : Heap) : D → Bool
  | .str _ => true
  | d => ((elems H d).bind stripL).isSome
def appPlain (H : Heap) : List D → Bool
  | [_, x] => plainEl H x
  | _ => false
/-- plain parts -/
def stripP : List (Nat × D) → Option (List (Nat × D))
  | [] => some []
  | (i, d) :: r => (strip d).bind fun d' => (stripP r).map ((i, d') :: ·)
def fzR (x : Option (D × Heap)) (H : Heap) : Option R :=
  match x with
  | some (.vec 0 0 n, [.arr xs]) => if n = xs.length then (stripL xs).map fun ys => .ok (.sl false ys) H else none
  | some (.sl _ [], []) => some (.ok (.sl false []) H)
  | _ => none
/-- an operation there: a pure call has plain arguments; what is appended is plain -/
def stepX (P : Program) (A : Ann) (call : CallF) (o : Op) (e : Env) (H : Heap) : Option R :=
  match o with
  | .call c => match c.callee with
    | .value (.func f) => if (A.prim f).isNone && A.mode f == .pure then (evalOs e c.args.toList).bind fun args => if (stripL args).isSome then stepOp P A call (.call c) e H else none else stepOp P A call (.call c) e H
    | .builtin .append => (evalOs e c.args.toList).bind fun args => if appPlain H args = true then stepOp P A call (.call c) e H else none
    | _ => stepOp P A call (.call c) e H
  | .buildSlice t n ps => if A.fz t then (partsD e ps.toList).bind fun l => (stripP l).bind fun l => fzR (buildSliceD P t n l []) H else stepOp P A call (.buildSlice t n ps) e H
  | o => stepOp P A call o e H
def runOpsX (P : Program) (A : Ann) (call : CallF) (N : Nat) (ops : Array Oper) : List Oper → Env → Heap → Option St
  | [], e, H => if (pairsD A ops).all (disjE e) then some ⟨.norm, e, H⟩ else none
  | o :: rest, e, H => if dstOk N o.dst = false then none else
    match wantD ops e o with
    | some true => match stepX P A call o.op e H with
      | some (.ok d H) => runOpsX P A call N ops rest (putO e o.dst d) H
      | _ => none
    | some false => runOpsX P A call N ops rest (putO e o.dst ud) H
    | none => none
def iterC (body : Env → Heap → Option St) : Nat → Env → Heap → Option St
  | 0, _, _ => none
  | k + 1, e, H => match body e H with
    | some ⟨.norm, e, H⟩ => iterC body k e H
    | r => r
def callQ : Dfr → Bool
  | .call _ _ => true
  | .mark => false
/-- a jump that was left by a round -/
def jumpD (c : Code) (e : Env) (H : Heap) : Option St :=
  match c with
  | .ret => some ⟨.ret, e, H⟩
  | .exit id => some ⟨.exit id, e, H⟩
  | _ => none
def runC (P : Program) (A : Ann) (call : CallF) (k : Nat) (N : Nat) : Code → Env → Heap → Option St
  | .skip, e, H => some ⟨.norm, e, H⟩
  | .label _, e, H => some ⟨.norm, e, H⟩
  | .region _ ops draw, e, H => if draw then (if lexD A ops then runOpsX P A call N ops ops.toList e H else none) else runOps P A call N ops ops.toList e H
  | .seq a b, e, H => match runC P A call k N a e H with
    | some ⟨.norm, e, H⟩ => runC P A call k N b e H
    | r => r
  | .cond c a b, e, H => match evalO e c with
    | some (.bool true) => runC P A call k N a e H
    | some (.bool false) => runC P A call k N b e H
    | _ => none
  | .block id b, e, H => match runC P A call k N b e H with
    | some ⟨.exit i, e, H⟩ => if i = id then some ⟨.norm, e, H⟩ else some ⟨.exit i, e, H⟩
    | r => r
  | .loop b, e, H => iterC (runC P A call k N b) k e H
  | .exit id, e, H => some ⟨.exit id, e, H⟩
  | .ret, e, H => some ⟨.ret, e, H⟩
  | .rangeFunc g ps assign body, e, H => e.df.bind fun l => (evalO e g).bind fun
    | .fn f cs => if bodied P f = false ∨ l.all callQ = false then none else
      match call f (.yld H.length :: cs) (H ++ [.loop ⟨.ready, none, e.f, N, ps, assign, body⟩]) with
      | some (.ok _ H2) => match hget H2 H.length with
        | .loop lp => if lp.st = .busy then none else
          match lp.pend with
          | none => some ⟨.norm, ⟨e.f, some (.mark :: l)⟩, H2.set H.length .dead⟩
          | some c => jumpD c ⟨e.f, some (.mark :: l)⟩ (H2.set H.length .dead)
        | _ => none
      | _ => none
    | _ => none
  | _, _, _ => none
def resD (P : Program) (e : Env) (H : Heap) : List ResultVar → Option (List D)
  | [] => some []
  | .tmp t :: r => (resD P e H r).map (e t :: ·)
  | .cell a t :: r => (loadD P t H (e a)).bind fun d => (resD P e H r).map (d :: ·)
def oneD : List D → D
  | [d] => d
  | l => .tup l
/-! ### rounds -/
def putsD (f : Nat → D) : List (Tmp × D) → Nat → D
  | [] => f
  | (t, d) :: r => putsD (fun j => if j = t then d else f j) r
/-- how a round leaves: what waits behind the loop -/
def leftD : Ex → Option (Option Code)
  | .norm => some none
  | .ret => some (some .ret)
  | .exit id => some (some (.exit id))
  | .pan _ => none
def lpOf : Ob → Option Lp
  | .loop l => some l
  | _ => none
def roundD (run : Nat → Code → Env → Heap → Option St) (r : Nat) (args : List D) (H : Heap) : Option R :=
  (lpOf (hget H r)).bind fun lp => if lp.st = .ready ∧ args.length = lp.ps.size ∧ (lp.ps.toList.all fun t => decide (t < lp.N)) = true then
    (run lp.N lp.assign ⟨putsD lp.tmps (lp.ps.toList.zip args), none⟩ H).bind fun
      | ⟨.norm, e, H1⟩ => (lpOf (hget H1 r)).bind fun l1 => if l1.st = .ready then
          (run lp.N lp.body e (H1.set r (.loop { l1 with st := .busy }))).bind fun s =>
            (leftD s.ex).bind fun j => (lpOf (hget s.H r)).bind fun l2 =>
              some (.ok (.bool j.isNone) (s.H.set r (.loop { l2 with st := if j.isNone then .ready else .done, pend := j })))
          else none
      | _ => none
  else none
/-! ### calls that waited -/
/-- how a function is left: it returns; a panic goes up; a panic that was recovered -/
inductive Md where
  | ret
  | pan (d : D)
  | rcv (d : D)
  deriving Inhabited
def Md.settle : Md → Md
  | .rcv _ => .ret
  | m => m
def recD : Md → D × Md
  | .pan d => (d, .rcv d)
  | m => (.nili, m)
def recoverC : Op → Bool
  | .call c => match c.callee with
    | .builtin .recover => true
    | _ => false
  | _ => false
def plainO : Op → Bool
  | .move _ | .assign _ | .pick .. | .alloc _ | .load .. | .store .. | .binOp .. | .unOp .. | .makeInterface .. | .fieldAddr .. | .field .. | .extract .. | .typeAssert .. | .build .. | .indexAddr .. => true
  | _ => false
def runOpsS (P : Program) (A : Ann) (N : Nat) (ops : Array Oper) : List Oper → Env → Heap → Md → Option (Env × Heap × Md)
  | [], e, H, m => some (e, H, m)
  | o :: rest, e, H, m => if dstOk N o.dst = false then none else
    match wantD ops e o with
    | some true => if recoverC o.op then runOpsS P A N ops rest (putO e o.dst (recD m).1) H (recD m).2 else
      if plainO o.op = false then none else
      match stepOp P A (fun _ _ _ => none) o.op e H with
        | some (.ok d H) => runOpsS P A N ops rest (putO e o.dst d) H m
        | _ => none
    | some false => runOpsS P A N ops rest (putO e o.dst ud) H m
    | none => none
def runS (P : Program) (A : Ann) (N : Nat) (run : Code → Env → Heap → Option St) : Code → Env → Heap → Md → Option (St × Md)
  | .seq a b, e, H, m => (runS P A N run a e H m).bind fun
    | (⟨.norm, e, H⟩, m) => runS P A N run b e H m
    | r => some r
  | .cond c a b, e, H, m => match evalO e c with
    | some (.bool true) => runS P A N run a e H m
    | some (.bool false) => runS P A N run b e H m
    | _ => none
  | .region id ops draw, e, H, m => if draw = false ∧ (ops.toList.any fun o => recoverC o.op) = true then
      (runOpsS P A N ops ops.toList e H m).map fun (e, H, m) => (⟨.norm, e, H⟩, m)
    else (run (.region id ops draw) e H).map fun s => (s, m)
  | c, e, H, m => (run c e H).map fun s => (s, m)
def noDf : Option (List Dfr) → Bool
  | some [] => true
  | _ => false
/-- a call that waited, when it comes up -/
def lastD (P : Program) (A : Ann) (run : Nat → Code → Env → Heap → Option St) (f : FuncId) (args : List D) (m : Md) (H : Heap) : Option (Md × Heap) :=
  match P.funcs[f]? with
  | some fn => match fn.body with
    | some c => if fn.name == "runtime.NumGoroutine" || args.length > fn.ntmps then none else
      (runS P A fn.ntmps (run fn.ntmps) c (ofArgs args) H m).bind fun
        | (⟨.norm, e, H⟩, m) | (⟨.ret, e, H⟩, m) => if noDf e.df = true ∧ (resD P e H fn.results.toList).isSome = true then some (m.settle, H) else none
        | _ => none
    | none => none
  | none => none
def leaveD (P : Program) (A : Ann) (run : Nat → Code → Env → Heap → Option St) (rs : List ResultVar) (e : Env) : List Dfr → Md → Heap → Option R
  | [], .ret, H => (resD P e H rs).map fun l => .ok (oneD l) H
  | [], .pan d, H => some (.pan d H)
  | [], .rcv _, _ => none
  | .mark :: l, m, H => leaveD P A run rs e l m H
  | .call f args :: l, m, H => (lastD P A run f args m H).bind fun (m, H) => leaveD P A run rs e l m H
def runF (P : Program) (A : Ann) : Nat → CallF
  | 0, _, _, _ => none
  | k + 1, f, args, H => match P.funcs[f]? with
    | some fn => match fn.body with
      | some c => if fn.name == "runtime.NumGoroutine" || args.length > fn.ntmps then none else
        match runC P A (runF P A k) k fn.ntmps c (ofArgs args) H with
        | some ⟨.norm, e, H⟩ | some ⟨.ret, e, H⟩ => e.df.bind fun l => leaveD P A (fun N => runC P A (runF P A k) k N) fn.results.toList e l .ret H
        | some ⟨.pan d, e, H⟩ => e.df.bind fun l => leaveD P A (fun N => runC P A (runF P A k) k N) fn.results.toList e l (.pan d) H
        | _ => none
      | none => none
    | none => roundD (fun N => runC P A (runF P A k) k N) (f - P.funcs.size) args H
end Vm
end
