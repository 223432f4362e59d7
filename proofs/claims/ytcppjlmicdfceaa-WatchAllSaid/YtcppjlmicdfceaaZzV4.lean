/- The relation between the interpreter's objects and the model's memory; reads, writes, new blocks. -/
import Derived.Test.YtcppjlmicdfceaaZzV3t
set_option linter.unusedVariables false
set_option linter.unusedSimpArgs false
namespace Vm
open Go Go.RowKit

def live : Ob → Prop
  | .arr _ | .map _ | .loop _ => True
  | _ => False
inductive RepM (ρ : Rho) (n : Nat) (im : Im) : List MapEntry → List (D × D) → Prop
  | nil : RepM ρ n im [] []
  | cons (m : MapEntry) (k v : D) (ms : List MapEntry) (es : List (D × D)) (hk : Rep ρ n im m.key k) (hv : Rep ρ n im m.val v) (hr : RepM ρ n im ms es) : RepM ρ n im (m :: ms) ((k, v) :: es)
def ObOk (ρ : Rho) (n : Nat) (im : Im) (w : World) (g : Reg) : Ob → Prop
  | .arr xs => ∃ (c : Array Value) (t : TypeId) (fz : Nat × Nat), w.heap[g.b]? = some (.cells c t fz) ∧ c.size = g.cap * g.sz ∧ (∀ x, x ∈ xs → x.cells.length = g.sz) ∧
      xs.length ≤ g.cap ∧ RepL ρ n im (c.toList.take (xs.length * g.sz)) (flatC xs) ∧ (c.size ≤ fz.1 ∨ fz.2 ≤ fz.1)
  | .fro xs => ∃ (vs : List Value), (∀ x, x ∈ xs → x.cells.length = g.sz) ∧ xs.length ≤ g.cap ∧ RepL ρ n im vs (flatC xs) ∧ ∀ k, k < vs.length → im g.b k = vs[k]?
  | .map es => ∃ (ms : Array MapEntry) (clock : Nat), w.heap[g.b]? = some (.map ms clock) ∧ RepM ρ n im ms.toList es
  | .loop l => ∃ rec : Loop, w.heap[g.b]? = some (.loop rec) ∧ rec.state = l.st ∧ rec.pending = l.pend ∧ rec.tmps.size = l.N ∧ (∀ i, Rep ρ n im (rec.tmps.getD i undef) (l.tmps i)) ∧ rec.params = l.ps ∧ rec.assign = l.assign ∧ rec.body = l.body
  | .dead => True
structure Rel (ρ : Rho) (im : Im) (H : Heap) (w : World) : Prop where
  imc : ∀ b o v, im b o = some v → w.cell? ⟨b, o, none⟩ = some v
  obj : ∀ r, r < H.length → ObOk ρ H.length im w (ρ r) (hget H r)
  sep : ∀ r s, r < H.length → s < H.length → r ≠ s → live (hget H r) → live (hget H s) → (ρ r).b ≠ (ρ s).b
  own : ∀ r, r < H.length → live (hget H r) → ∀ o, im (ρ r).b o = none
structure Tr (ρ : Rho) (H : Heap) (w : World) (ρ' : Rho) (H' : Heap) (w' : World) : Prop where
  os : w'.os = w.os
  tape : w'.tape = w.tape
  output : w'.output = w.output
  size : w.heap.size ≤ w'.heap.size
  len : H.length ≤ H'.length
  ext : ∀ r, r < H.length → ρ' r = ρ r
  keep : ∀ b, b < w.heap.size → (∀ r, r < H.length → live (hget H r) → (ρ r).b ≠ b) → w'.heap[b]? = w.heap[b]?
  own : ∀ r, r < H'.length → live (hget H' r) → (ρ' r).b < w.heap.size → ∃ s, s < H.length ∧ live (hget H s) ∧ (ρ s).b = (ρ' r).b

theorem Tr.refl (ρ : Rho) (H : Heap) (w : World) : Tr ρ H w ρ H w :=
  ⟨rfl, rfl, rfl, Nat.le_refl _, Nat.le_refl _, fun _ _ => rfl, fun _ _ _ => rfl, fun r hr hl _ => ⟨r, hr, hl, rfl⟩⟩
theorem Tr.trans {ρ ρ1 ρ2 : Rho} {H H1 H2 : Heap} {w w1 w2 : World} (h : Tr ρ H w ρ1 H1 w1) (k : Tr ρ1 H1 w1 ρ2 H2 w2) : Tr ρ H w ρ2 H2 w2 := by
  refine ⟨k.os.trans h.os, k.tape.trans h.tape, k.output.trans h.output, Nat.le_trans h.size k.size, Nat.le_trans h.len k.len, ?_, ?_, ?_⟩
  · intro r hr; rw [k.ext r (Nat.lt_of_lt_of_le hr h.len), h.ext r hr]
  · intro b hb hn
    rw [← h.keep b hb hn]
    refine k.keep b (Nat.lt_of_lt_of_le hb h.size) ?_
    intro r hr hl he
    obtain ⟨s, hs, hls, hbs⟩ := h.own r hr hl (by omega)
    exact hn s hs hls (by omega)
  · intro r hr hl hb
    obtain ⟨s, hs, hls, hbs⟩ := k.own r hr hl (Nat.lt_of_lt_of_le hb h.size)
    obtain ⟨s', hs', hls', hbs'⟩ := h.own s hs hls (by omega)
    exact ⟨s', hs', hls', by omega⟩

theorem Rel.block_lt {ρ : Rho} {im : Im} {H : Heap} {w : World} (h : Rel ρ im H w) {r : Nat} (hr : r < H.length) (hl : live (hget H r)) : (ρ r).b < w.heap.size := by
  have := h.obj r hr
  cases ho : hget H r with
  | arr xs =>
    rw [ho] at this; obtain ⟨c, t, fz, hc, _⟩ := this
    exact (Array.getElem?_eq_some_iff.1 hc).1
  | map es =>
    rw [ho] at this; obtain ⟨ms, clock, hc, _⟩ := this
    exact (Array.getElem?_eq_some_iff.1 hc).1
  | loop l =>
    rw [ho] at this; obtain ⟨rec, hc, _⟩ := this
    exact (Array.getElem?_eq_some_iff.1 hc).1
  | fro xs => rw [ho] at hl; exact hl.elim
  | dead => rw [ho] at hl; exact hl.elim
theorem Rel.im_lt {ρ : Rho} {im : Im} {H : Heap} {w : World} (h : Rel ρ im H w) {b o : Nat} {v : Value} (hv : im b o = some v) : b < w.heap.size :=
  World.block_lt_of_cell? (w := w) (a := ⟨b, o, none⟩) (h.imc b o v hv)

/-! ### flat cells -/
theorem flatC_length {xs : List D} {sz : Nat} (h : ∀ x, x ∈ xs → x.cells.length = sz) : (flatC xs).length = xs.length * sz := by
  induction xs with
  | nil => simp
  | cons x xs ih =>
    have h0 := h x (by simp)
    have := ih (fun y hy => h y (by simp [hy]))
    simp only [flatC] at this ⊢
    simp only [List.flatMap_cons, List.length_append, h0, this, List.length_cons, Nat.succ_mul]
    omega
theorem flatC_append (xs ys : List D) : flatC (xs ++ ys) = flatC xs ++ flatC ys := by simp [flatC]
theorem flatC_take {xs : List D} {sz : Nat} (h : ∀ x, x ∈ xs → x.cells.length = sz) : ∀ k, (flatC xs).take (k * sz) = flatC (xs.take k) := by
  induction xs with
  | nil => intro k; simp
  | cons x xs ih =>
    intro k
    have h0 := h x (by simp)
    cases k with
    | zero => simp
    | succ k =>
      have := ih (fun y hy => h y (by simp [hy])) k
      simp only [flatC] at this ⊢
      simp only [List.flatMap_cons, List.take_succ_cons, Nat.succ_mul]
      rw [List.take_append, List.take_of_length_le (by omega), h0, show k * sz + sz - sz = k * sz by omega, this]
theorem flatC_drop {xs : List D} {sz : Nat} (h : ∀ x, x ∈ xs → x.cells.length = sz) : ∀ k, (flatC xs).drop (k * sz) = flatC (xs.drop k) := by
  induction xs with
  | nil => intro k; simp
  | cons x xs ih =>
    intro k
    have h0 := h x (by simp)
    cases k with
    | zero => simp
    | succ k =>
      have := ih (fun y hy => h y (by simp [hy])) k
      simp only [flatC] at this ⊢
      simp only [List.flatMap_cons, List.drop_succ_cons, Nat.succ_mul]
      rw [List.drop_append, List.drop_eq_nil_of_le (by omega), h0, show k * sz + sz - sz = k * sz by omega, this, List.nil_append]
theorem flatC_get {xs : List D} {sz i : Nat} {x : D} (h : ∀ x, x ∈ xs → x.cells.length = sz) (hi : xs[i]? = some x) : ((flatC xs).drop (i * sz)).take sz = x.cells := by
  rw [flatC_drop h]
  obtain ⟨hl, rfl⟩ := List.getElem?_eq_some_iff.1 hi
  rw [List.drop_eq_getElem_cons hl]
  simp only [flatC, List.flatMap_cons]
  have := h xs[i] (List.getElem_mem hl)
  rw [List.take_append_of_le_length (by omega), List.take_of_length_le (by omega)]
theorem flatC_set {xs : List D} {sz i : Nat} {y : D} (h : ∀ x, x ∈ xs → x.cells.length = sz) (hi : i < xs.length) : flatC (xs.set i y) = (flatC xs).take (i * sz) ++ y.cells ++ (flatC xs).drop ((i + 1) * sz) := by
  rw [flatC_take h, flatC_drop h]
  rw [List.set_eq_take_append_cons_drop, if_pos hi]
  simp [flatC]

section
variable {P : Program}
mutual
theorem ofV_rep {ρ : Rho} {n : Nat} {im : Im} : ∀ {v : Value} {d : D}, ofV v = some d → Rep ρ n im v d
  | .bool b, d, h => by simp [ofV] at h; subst h; exact .bool b
  | .int k m, d, h => by simp [ofV] at h; subst h; exact .int k m
  | .string s, d, h => by simp [ofV] at h; subst h; exact .str s
  | .pointer none, d, h => by simp [ofV] at h; subst h; exact .nilp
  | .pointer (some _), d, h => by simp [ofV] at h
  | .slice a n c, d, h => by
    cases a with
    | some a => simp [ofV] at h
    | none =>
      cases n with
      | succ n => simp [ofV] at h
      | zero =>
        cases c with
        | succ n => simp [ofV] at h
        | zero => simp [ofV] at h; subst h; exact .sl0 none 0 true (fun _ => rfl)
  | .map none, d, h => by simp [ofV] at h; subst h; exact .nilm
  | .map (some _), d, h => by simp [ofV] at h
  | .nilFunc, d, h => by simp [ofV] at h; subst h; exact .niln
  | .nilIface, d, h => by simp [ofV] at h; subst h; exact .nili
  | .agg ⟨cs⟩, d, h => by
    simp only [ofV] at h
    split at h
    · rename_i h1
      cases hc : ofVs cs with
      | none => simp [hc] at h
      | some ds => simp [hc] at h; subst h; exact .agg cs ds (ofVs_rep hc (by simpa using h1))
    · simp at h
  | .func f a c, d, h => by
    match f, a, c, h with
    | .func f, ⟨[]⟩, ⟨[]⟩, h => simp [ofV] at h; subst h; exact .fn f [] [] .nil
    | .func f, ⟨[]⟩, ⟨_ :: _⟩, h => simp [ofV] at h
    | .func f, ⟨_ :: _⟩, _, h => simp [ofV] at h
    | .method _, _, _, h => simp [ofV] at h
    | .methodOf _ _, _, _, h => simp [ofV] at h
    | .via _ _ _ _, _, _, h => simp [ofV] at h
    | .yield _, _, _, h => simp [ofV] at h
  | .tuple a, d, h => by
    match a, h with
    | ⟨[]⟩, h => simp [ofV] at h; subst h; exact .tup [] [] .nil
    | ⟨_ :: _⟩, h => simp [ofV] at h
  | .float _ _, d, h => by simp [ofV] at h
  | .complex _ _ _, d, h => by simp [ofV] at h
  | .chan _, d, h => by simp [ofV] at h
  | .iface _ _, d, h => by simp [ofV] at h
theorem ofVs_rep {ρ : Rho} {n : Nat} {im : Im} : ∀ {vs : List Value} {ds : List D}, ofVs vs = some ds → (∀ v ∈ vs, v.oneCell' = true) → RepL ρ n im vs ds
  | [], ds, h, _ => by simp [ofVs] at h; subst h; exact .nil
  | v :: vs, ds, h, h1 => by
    simp only [ofVs] at h
    cases hv : ofV v with
    | none => simp [hv] at h
    | some d =>
      cases hs : ofVs vs with
      | none => simp [hv, hs] at h
      | some es =>
        simp [hv, hs] at h; subst h
        exact .cons v d vs es (h1 v (by simp)) (ofV_rep hv) (ofVs_rep hs (fun u hu => h1 u (by simp [hu])))
end
theorem run_zero {t : TypeId} {d : D} (h : zeroT P t = some d) (w : World) : ∃ v, (zeroValue t).run P w = .ok v w ∧ ofV v = some d ∧ ∀ l, d ≠ .tup l := by
  unfold zeroT at h
  cases hi : P.info? t with
  | none => simp [hi] at h
  | some i =>
    simp only [hi, Option.bind_some] at h
    cases hz : i.zero with
    | none => simp [hz] at h
    | some v =>
      simp only [hz, Option.bind_some] at h
      cases hv : ofV v with
      | none => simp [hv] at h
      | some d' =>
        simp only [hv, Option.bind_some] at h
        refine ⟨v, by simp [zeroValue, typeInfo, hi, hz], ?_⟩
        cases d' <;> simp at h <;> subst h <;> exact ⟨hv, fun l e => by cases e⟩
end
end Vm
