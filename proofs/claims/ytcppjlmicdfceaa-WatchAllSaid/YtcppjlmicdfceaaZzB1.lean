/- What a statement's arguments read as, as the interpreter's data. -/
import Derived.Test.YtcppjlmicdfceaaZzWa
import Derived.Carry
set_option linter.unusedVariables false
set_option linter.unusedSimpArgs false
namespace Vm
open Go Go.RowKit

/-- the fields of a struct lie one behind the other -/
def laysT (P : Program) : Nat → List Field → Option Nat
  | off, [] => some off
  | off, f :: r => if f.offset = off then laysT P (off + P.cellsOf f.type) r else none
/-- types of plain data: numbers, bools, texts, slices, structs and arrays of these -/
def plainT (P : Program) : Nat → TypeId → Bool
  | 0, _ => false
  | k + 1, t => match P.underlying t with
    | some .bool | some (.int _) | some .string => P.cellsOf t == 1
    | some (.slice e) => P.cellsOf t == 1 && plainT P k e && decide (0 < P.cellsOf e)
    | some (.struct fs) => (laysT P 0 fs.toList == some (P.cellsOf t)) && fs.toList.all fun f => plainT P k f.type
    | some (.array n e) => (P.cellsOf t == n * P.cellsOf e) && plainT P k e
    | _ => false
def aggT (P : Program) (t : TypeId) : Bool := (isAggT P t).getD false
mutual
/-- cells of a type -/
inductive Typed (P : Program) : TypeId → List D → Prop
  | bool (t : TypeId) (b : Bool) (h : P.underlying t = some .bool) : Typed P t [.bool b]
  | int (t : TypeId) (k : IntKind) (n : Int) (h : P.underlying t = some (.int k)) (hn : (Lit.int k n).wf = true) : Typed P t [.int k n]
  | str (t : TypeId) (s : List UInt8) (h : P.underlying t = some .string) (hs : s.length ≤ maxLen) : Typed P t [.str s]
  | slice (t e : TypeId) (xs : List D) (h : P.underlying t = some (.slice e)) (hl : xs.length ≤ maxLen) (hx : TypedE P e xs) : Typed P t [.sl false xs]
  | struct (t : TypeId) (fs : Array Field) (ds : List D) (h : P.underlying t = some (.struct fs)) (hf : TypedF P (fs.toList.map (·.type)) ds) : Typed P t ds
  | array (t e : TypeId) (n : Nat) (ds : List D) (h : P.underlying t = some (.array n e)) (hf : TypedF P (List.replicate n e) ds) : Typed P t ds
/-- elements of a type -/
inductive TypedE (P : Program) : TypeId → List D → Prop
  | nil (e : TypeId) : TypedE P e []
  | agg (e : TypeId) (cs : List D) (xs : List D) (ha : aggT P e = true) (h : Typed P e cs) (hr : TypedE P e xs) : TypedE P e (.agg cs :: xs)
  | one (e : TypeId) (x : D) (xs : List D) (ha : aggT P e = false) (h : Typed P e [x]) (hr : TypedE P e xs) : TypedE P e (x :: xs)
/-- cells of types, one behind the other -/
inductive TypedF (P : Program) : List TypeId → List D → Prop
  | nil : TypedF P [] []
  | cons (t : TypeId) (ts : List TypeId) (ds es : List D) (h : Typed P t ds) (hr : TypedF P ts es) : TypedF P (t :: ts) (ds ++ es)
end
/-- arguments of types -/
inductive TypedA (P : Program) : List TypeId → List D → Prop
  | nil : TypedA P [] []
  | agg (t : TypeId) (ts : List TypeId) (cs ds : List D) (ha : aggT P t = true) (h : Typed P t cs) (hr : TypedA P ts ds) : TypedA P (t :: ts) (.agg cs :: ds)
  | one (t : TypeId) (ts : List TypeId) (d : D) (ds : List D) (ha : aggT P t = false) (h : Typed P t [d]) (hr : TypedA P ts ds) : TypedA P (t :: ts) (d :: ds)

def im0 (w : World) : Im := fun b o => w.cell? ⟨b, o, none⟩
theorem rel0 (w : World) (ρ : Rho) : Rel ρ (im0 w) [] w :=
  ⟨fun b o v h => h, fun r hr => by simp at hr, fun r s hr => by simp at hr, fun r hr => by simp at hr⟩

theorem laysT_le {P : Program} : ∀ {fs : List Field} {off tot : Nat}, laysT P off fs = some tot → off ≤ tot
  | [], off, tot, h => by simp [laysT] at h; omega
  | f :: r, off, tot, h => by
    simp only [laysT] at h
    split at h
    · have := laysT_le h; omega
    · cases h
theorem cells?_spec {w : World} {a : Addr} {m : Nat} {cs : List Value} (h : w.cells? 0 a m = some cs) : cs.length = m ∧ ∀ j, j < m → w.cell? (a.add j) = cs[j]? := by
  unfold World.cells? at h
  rw [if_pos (Nat.zero_le _)] at h
  have key : ∀ (l : List Nat) (cs : List Value), l.mapM (fun i => w.cell? (a.add i)) = some cs → cs.length = l.length ∧ ∀ (j : Nat) (i : Nat), l[j]? = some i → w.cell? (a.add i) = cs[j]? := by
    intro l
    induction l with
    | nil => intro cs h; simp at h; subst h; simp
    | cons x l ih =>
      intro cs h
      rw [List.mapM_cons] at h
      cases hx : w.cell? (a.add x) with
      | none => simp [hx] at h
      | some v =>
        cases hl : l.mapM (fun i => w.cell? (a.add i)) with
        | none => simp [hx, hl] at h
        | some vs =>
          simp [hx, hl] at h; subst h
          obtain ⟨h1, h2⟩ := ih vs hl
          refine ⟨by simp [h1], fun j i hj => ?_⟩
          cases j with
          | zero => simp at hj; subst hj; simp [hx]
          | succ j => simpa using h2 j i (by simpa using hj)
  obtain ⟨h1, h2⟩ := key _ _ h
  refine ⟨by simpa using h1, fun j hj => h2 j j (by simp [hj])⟩
theorem add_add (a : Addr) (x y : Nat) (hs : a.spot = none) : (a.add x).add y = a.add (x + y) := by
  obtain ⟨b, o, s⟩ := a
  simp at hs; subst hs
  simp [add_plain, Nat.add_assoc]
theorem typed_one {P : Program} {t : TypeId} {ds : List D} (h : Typed P t ds) (ha : aggT P t = false) : ∃ d, ds = [d] ∧ (∀ cs, d ≠ .agg cs) := by
  cases h with
  | bool b h => exact ⟨_, rfl, fun cs h => by cases h⟩
  | int k n h hn => exact ⟨_, rfl, fun cs h => by cases h⟩
  | str s h hs => exact ⟨_, rfl, fun cs h => by cases h⟩
  | slice e xs h hl hx => exact ⟨_, rfl, fun cs h => by cases h⟩
  | struct => rename_i h hf; simp [aggT, isAggT, h] at ha
  | array => rename_i h hf; simp [aggT, isAggT, h] at ha
section
variable {H : Type} {enc : TypeId × Value → H} {P : Program} {w : World} {spare : Nat → Bool} {ρ : Rho} {n : Nat}
theorem trod_struct_eq {k : Nat} {t : TypeId} {cs : List Value} {fs : Array Field} (hu : P.underlying t = some (.struct fs)) : DataW.trod enc P w 0 spare true (k + 1) t cs =
    if cs.length = P.cellsOf t then (fs.toList.mapM fun f => DataW.trod enc P w 0 spare true k f.type ((cs.drop f.offset).take (P.cellsOf f.type))).map fun xs => (.agg (xs.map (·.1)), xs.flatMap (·.2)) else none := by
  conv => lhs; unfold DataW.trod
  rw [hu]
theorem trod_array_eq {k m : Nat} {t e : TypeId} {cs : List Value} (hu : P.underlying t = some (.array m e)) : DataW.trod enc P w 0 spare true (k + 1) t cs =
    if cs.length = P.cellsOf t then ((List.range m).mapM fun i => DataW.trod enc P w 0 spare true k e ((cs.drop (i * P.cellsOf e)).take (P.cellsOf e))).map fun xs => (.agg (xs.map (·.1)), xs.flatMap (·.2)) else none := by
  conv => lhs; unfold DataW.trod
  rw [hu]
theorem trod_typed : ∀ (k : Nat) (pk : Nat) (t : TypeId) (cs : List Value) (x : DataW H × List MemPlace), DataW.trod enc P w 0 spare true k t cs = some x → plainT P pk t = true →
    ∃ ds, RepL ρ n (im0 w) cs ds ∧ Typed P t ds
  | 0, pk, t, cs, x, h, hp => by simp [DataW.trod] at h
  | k + 1, 0, t, cs, x, h, hp => by simp [plainT] at hp
  | k + 1, pk + 1, t, cs, x, h, hp => by
    have ih := fun t cs x => trod_typed k pk t cs x
    simp only [plainT] at hp
    cases hu : P.underlying t with
    | none => simp [hu] at hp
    | some td =>
      rw [hu] at hp
      have h' := h
      unfold DataW.trod at h
      rw [hu] at h
      cases td <;> simp only at hp <;> try (cases hp; done)
      case bool =>
        split at h <;> rename_i heq <;> first | (cases heq; done) | skip
        all_goals (first | (cases h; done) | skip)
        rename_i b
        exact ⟨[.bool b], .cons _ _ _ _ rfl (.bool b) .nil, .bool t b hu⟩
      case int kk =>
        split at h <;> rename_i heq <;> first | (cases heq; done) | skip
        all_goals (first | (cases h; done) | skip)
        cases heq
        split at h
        · rename_i hc
          obtain ⟨rfl, hw⟩ := hc
          exact ⟨[.int _ _], .cons _ _ _ _ rfl (.int _ _) .nil, .int t _ _ hu hw⟩
        · cases h
      case string =>
        split at h <;> rename_i heq <;> first | (cases heq; done) | skip
        all_goals (first | (cases h; done) | skip)
        rename_i s
        split at h
        · rename_i hc
          have hl : s.data.toList.length = s.size := by rw [Array.length_toList]; rfl
          exact ⟨[.str s.data.toList], .cons _ _ _ _ rfl (.str s) .nil, .str t _ hu (by omega)⟩
        · cases h
      case slice e =>
        simp only [Bool.and_eq_true, decide_eq_true_eq] at hp
        obtain ⟨⟨_, hpe⟩, hpos⟩ := hp
        split at h <;> rename_i heq <;> first | (cases heq; done) | skip
        all_goals (first | (cases h; done) | skip)
        · cases heq
          exact ⟨[.sl false []], .cons _ _ _ _ rfl (.sl0 _ _ _ (by simp)) .nil, .slice t e [] hu (Nat.zero_le _) (.nil e)⟩
        · rename_i a len cap
          cases heq
          split at h
          · rename_i hc
            obtain ⟨_, hlc, hcm⟩ := hc
            dsimp only at h
            cases hm : (List.range len).mapM (fun i => (w.cells? 0 (a.add (i * P.cellsOf e)) (P.cellsOf e)).bind (DataW.trod enc P w 0 spare true k e)) with
            | none => rw [hm] at h; simp at h
            | some elems =>
              -- element by element
              have key : ∀ (l : List Nat) (el : List (DataW H × List MemPlace)), l.mapM (fun i => (w.cells? 0 (a.add (i * P.cellsOf e)) (P.cellsOf e)).bind (DataW.trod enc P w 0 spare true k e)) = some el →
                  ∀ s, (∀ (j i : Nat), l[j]? = some i → i = s + j) → (l ≠ [] → a.spot = none) →
                  ∃ xs vs, xs.length = l.length ∧ TypedE P e xs ∧ RepL ρ n (im0 w) vs (flatC xs) ∧ (∀ y, y ∈ xs → y.cells.length = P.cellsOf e) ∧ ∀ q, q < vs.length → w.cell? (a.add (s * P.cellsOf e + q)) = vs[q]? := by
                intro l
                induction l with
                | nil => intro el _ s _ _; exact ⟨[], [], rfl, .nil e, .nil, by simp, by simp⟩
                | cons i l ihl =>
                  intro el hel s hs hsp
                  rw [List.mapM_cons] at hel
                  have hi : i = s := by simpa using hs 0 i rfl
                  subst hi
                  cases hcs : w.cells? 0 (a.add (i * P.cellsOf e)) (P.cellsOf e) with
                  | none => simp [hcs] at hel
                  | some ci =>
                    cases htr : DataW.trod enc P w 0 spare true k e ci with
                    | none => simp [hcs, htr] at hel
                    | some xi =>
                      cases hrest : l.mapM (fun i => (w.cells? 0 (a.add (i * P.cellsOf e)) (P.cellsOf e)).bind (DataW.trod enc P w 0 spare true k e)) with
                      | none => simp [hcs, htr, hrest] at hel
                      | some er =>
                        obtain ⟨ds, hds, hty⟩ := ih e ci xi htr hpe
                        obtain ⟨hcl, hcell⟩ := cells?_spec hcs
                        have hsp' := hsp (by simp)
                        obtain ⟨xs, vs, h1, h2, h3, h4, h5⟩ := ihl er hrest (i + 1) (fun j i' hj => by have := hs (j + 1) i' (by simpa using hj); omega) (fun _ => hsp')
                        have hdl : ds.length = P.cellsOf e := by rw [← hds.length, hcl]
                        have fin : ∀ x : D, x.cells = ds → TypedE P e (x :: xs) → ∃ xs vs, xs.length = (i :: l).length ∧ TypedE P e xs ∧ RepL ρ n (im0 w) vs (flatC xs) ∧ (∀ y, y ∈ xs → y.cells.length = P.cellsOf e) ∧ ∀ q, q < vs.length → w.cell? (a.add (i * P.cellsOf e + q)) = vs[q]? := by
                          intro x hxc hte
                          refine ⟨x :: xs, ci ++ vs, by simp [h1], hte, ?_, ?_, ?_⟩
                          · simp only [flatC, List.flatMap_cons, hxc]; exact hds.append h3
                          · intro y hy
                            rcases List.mem_cons.1 hy with rfl | hy
                            · rw [hxc]; exact hdl
                            · exact h4 y hy
                          · intro q hq
                            rcases Nat.lt_or_ge q ci.length with hlt | hge
                            · rw [List.getElem?_append_left hlt, ← hcell q (by omega), add_add a _ _ hsp']
                            · rw [List.getElem?_append_right hge, ← h5 (q - ci.length) (by simp at hq; omega)]
                              congr 2
                              rw [Nat.add_mul]; omega
                        cases ha : aggT P e with
                        | true => exact fin (.agg ds) rfl (.agg e ds xs ha hty h2)
                        | false =>
                          obtain ⟨d, rfl, hna⟩ := typed_one hty ha
                          exact fin d (by cases d <;> first | rfl | exact (hna _ rfl).elim) (.one e d xs ha hty h2)
              have hspot : List.range len ≠ [] → a.spot = none := by
                intro hne
                have hl0 : 0 < len := by cases len with
                  | zero => simp at hne
                  | succ _ => omega
                obtain ⟨l', hl'⟩ : ∃ l', List.range len = 0 :: l' := ⟨(List.range len).tail, by cases len with
                  | zero => omega
                  | succ m => simp [List.range_succ_eq_map]⟩
                rw [hl', List.mapM_cons] at hm
                cases hcs : w.cells? 0 (a.add (0 * P.cellsOf e)) (P.cellsOf e) with
                | none => simp only [hcs] at hm; simp at hm
                | some ci =>
                  obtain ⟨hcl, hcell⟩ := cells?_spec hcs
                  have h0 := hcell 0 hpos
                  rw [List.getElem?_eq_getElem (by omega)] at h0
                  have e1 : (a.add (0 * P.cellsOf e)).add 0 = a := by simp [Addr.add]
                  rw [e1] at h0
                  unfold World.cell? at h0
                  split at h0
                  · split at h0
                    · cases h0
                    · rename_i hs; simpa using hs
                  · cases h0
              obtain ⟨xs, vs, h1, h2, h3, h4, h5⟩ := key (List.range len) elems hm 0 (fun j i hj => by
                rw [List.getElem?_range] at hj
                · simp at hj; omega
                · rcases Nat.lt_or_ge j len with h | h
                  · exact h
                  · rw [List.getElem?_eq_none (by simpa using h)] at hj; cases hj) hspot
              have hxl : xs.length = len := by simpa using h1
              cases hxs : xs with
              | nil =>
                subst hxs
                simp at hxl; subst hxl
                exact ⟨[.sl false []], .cons _ _ _ _ rfl (.sl0 _ _ _ (by simp)) .nil, .slice t e [] hu (Nat.zero_le _) (.nil e)⟩
              | cons x xr =>
                have hsn := hspot (by rw [hxs] at hxl; simp at hxl; intro h0; have := congrArg List.length h0; simp at this; omega)
                obtain ⟨b, o, sp⟩ := a
                simp at hsn; subst hsn
                refine ⟨[.sl false xs], .cons _ _ _ _ rfl ?_ .nil, .slice t e xs hu (by omega) h2⟩
                rw [← hxl]
                refine .sl b o (P.cellsOf e) cap false xs vs h4 (fun q hq => ?_) h3 (by simp) (by omega)
                have := h5 q hq
                rw [add_plain] at this
                simpa [im0] using this
          · cases h
      case struct fs =>
        simp only [Bool.and_eq_true, beq_iff_eq, List.all_eq_true] at hp
        obtain ⟨hlay, hall⟩ := hp
        have hbody : cs.length = P.cellsOf t ∧ ∃ xs, (fs.toList.mapM fun f => DataW.trod enc P w 0 spare true k f.type ((cs.drop f.offset).take (P.cellsOf f.type))) = some xs := by
          rw [trod_struct_eq hu] at h'
          split at h'
          · rename_i hc
            cases hm : (fs.toList.mapM fun f => DataW.trod enc P w 0 spare true k f.type ((cs.drop f.offset).take (P.cellsOf f.type))) with
            | none => simp [hm] at h'
            | some xs => exact ⟨hc, xs, rfl⟩
          · cases h'
        obtain ⟨hcl, xs, hm⟩ := hbody
        have key : ∀ (l : List Field) (off : Nat) (xs : List (DataW H × List MemPlace)), laysT P off l = some (P.cellsOf t) → (∀ f, f ∈ l → plainT P pk f.type = true) →
            (l.mapM fun f => DataW.trod enc P w 0 spare true k f.type ((cs.drop f.offset).take (P.cellsOf f.type))) = some xs → ∃ ds, RepL ρ n (im0 w) (cs.drop off) ds ∧ TypedF P (l.map (·.type)) ds := by
          intro l
          induction l with
          | nil =>
            intro off xs hl _ _
            simp [laysT] at hl
            rw [List.drop_eq_nil_of_le (by omega)]
            exact ⟨[], .nil, .nil⟩
          | cons f l ihl =>
            intro off xs hl hpl hml
            simp only [laysT] at hl
            split at hl
            · rename_i hoff
              rw [List.mapM_cons] at hml
              cases htr : DataW.trod enc P w 0 spare true k f.type ((cs.drop f.offset).take (P.cellsOf f.type)) with
              | none => simp [htr] at hml
              | some x0 =>
                cases hrest : (l.mapM fun f => DataW.trod enc P w 0 spare true k f.type ((cs.drop f.offset).take (P.cellsOf f.type))) with
                | none => simp [htr, hrest] at hml
                | some xr =>
                  obtain ⟨ds, h1, h2⟩ := ih f.type _ _ htr (hpl f (by simp))
                  obtain ⟨es, h3, h4⟩ := ihl (off + P.cellsOf f.type) xr hl (fun g hg => hpl g (by simp [hg])) hrest
                  refine ⟨ds ++ es, ?_, .cons _ _ _ _ h2 h4⟩
                  have e1 : cs.drop off = (cs.drop f.offset).take (P.cellsOf f.type) ++ cs.drop (off + P.cellsOf f.type) := by
                    rw [hoff, ← List.drop_drop, List.take_append_drop]
                  rw [e1]
                  exact h1.append h3
            · cases hl
        obtain ⟨ds, h1, h2⟩ := key fs.toList 0 xs hlay hall hm
        exact ⟨ds, by simpa using h1, .struct t fs ds hu h2⟩
      case array m e =>
        simp only [Bool.and_eq_true, beq_iff_eq] at hp
        obtain ⟨hsz, hpe⟩ := hp
        have hbody : cs.length = P.cellsOf t ∧ ∃ xs, ((List.range m).mapM fun i => DataW.trod enc P w 0 spare true k e ((cs.drop (i * P.cellsOf e)).take (P.cellsOf e))) = some xs := by
          rw [trod_array_eq hu] at h'
          split at h'
          · rename_i hc
            cases hm : ((List.range m).mapM fun i => DataW.trod enc P w 0 spare true k e ((cs.drop (i * P.cellsOf e)).take (P.cellsOf e))) with
            | none => simp [hm] at h'
            | some xs => exact ⟨hc, xs, rfl⟩
          · cases h'
        obtain ⟨hcl, xs, hm⟩ := hbody
        have key : ∀ (r s : Nat) (xs : List (DataW H × List MemPlace)), s + r = m →
            ((List.range' s r).mapM fun i => DataW.trod enc P w 0 spare true k e ((cs.drop (i * P.cellsOf e)).take (P.cellsOf e))) = some xs → ∃ ds, RepL ρ n (im0 w) (cs.drop (s * P.cellsOf e)) ds ∧ TypedF P (List.replicate r e) ds := by
          intro r
          induction r with
          | zero =>
            intro s xs hs _
            rw [List.drop_eq_nil_of_le (by rw [hcl, hsz]; have : s = m := by omega
                                           subst this; exact Nat.le_refl _)]
            exact ⟨[], .nil, .nil⟩
          | succ r ihr =>
            intro s xs hs hml
            rw [List.range'_succ, List.mapM_cons] at hml
            cases htr : DataW.trod enc P w 0 spare true k e ((cs.drop (s * P.cellsOf e)).take (P.cellsOf e)) with
            | none => simp [htr] at hml
            | some x0 =>
              cases hrest : ((List.range' (s + 1) r).mapM fun i => DataW.trod enc P w 0 spare true k e ((cs.drop (i * P.cellsOf e)).take (P.cellsOf e))) with
              | none => simp [htr, hrest] at hml
              | some xr =>
                obtain ⟨ds, h1, h2⟩ := ih e _ _ htr hpe
                obtain ⟨es, h3, h4⟩ := ihr (s + 1) xr (by omega) hrest
                refine ⟨ds ++ es, ?_, .cons _ _ _ _ h2 h4⟩
                have e1 : cs.drop (s * P.cellsOf e) = (cs.drop (s * P.cellsOf e)).take (P.cellsOf e) ++ cs.drop ((s + 1) * P.cellsOf e) := by
                  rw [Nat.add_mul, Nat.one_mul, ← List.drop_drop, List.take_append_drop]
                rw [e1]
                exact h1.append h3
        rw [List.range_eq_range'] at hm
        obtain ⟨ds, h1, h2⟩ := key m 0 xs (by omega) hm
        exact ⟨ds, by simpa using h1, .array t e m ds hu h2⟩
end
end Vm
