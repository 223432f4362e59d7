/- How the interpreter's data stand for the model's values and memory. -/
import Derived.Test.YtcppjlmicdfceaaZzV2
import Derived.Laws.Cells
import Derived.Laws.IdiomCopy
import Derived.Laws.Entries
import Derived.Laws.NewFold
import Derived.Orders
import Derived.Still
import Derived.Below
set_option linter.unusedVariables false
set_option linter.unusedSimpArgs false
namespace Vm
open Go

structure Reg where
  b : Nat
  sz : Nat
  cap : Nat
  deriving Inhabited
abbrev Rho := Nat → Reg
abbrev Im := Nat → Nat → Option Value
abbrev flatC (xs : List D) : List D := xs.flatMap D.cells

mutual
inductive Rep (ρ : Rho) (n : Nat) (im : Im) : Value → D → Prop
  | bool (b : Bool) : Rep ρ n im (.bool b) (.bool b)
  | int (k : IntKind) (m : Int) : Rep ρ n im (.int k m) (.int k m)
  | str (s : ByteArray) : Rep ρ n im (.string s) (.str s.data.toList)
  | nilp : Rep ρ n im (.pointer none) .nilp
  | ptr (r i j : Nat) (h : r < n) : Rep ρ n im (.pointer (some ⟨(ρ r).b, i * (ρ r).sz + j, none⟩)) (.ptr r i j)
  | ept (b o : Nat) (x : D) (j : Nat) (vs : List Value) (hc : ∀ k, k < vs.length → im b (o + k) = vs[k]?) (h : RepL ρ n im vs x.cells) :
      Rep ρ n im (.pointer (some ⟨b, o + j, none⟩)) (.ept x j)
  | sl0 (a : Option Addr) (cap : Nat) (f : Bool) (hf : f = true → cap = 0) : Rep ρ n im (.slice a 0 cap) (.sl f [])
  | sl (b o sz cap : Nat) (f : Bool) (xs : List D) (vs : List Value) (hs : ∀ x, x ∈ xs → x.cells.length = sz) (hc : ∀ k, k < vs.length → im b (o + k) = vs[k]?)
      (h : RepL ρ n im vs (flatC xs)) (hf : f = true → cap = xs.length) (hcap : xs.length ≤ cap) : Rep ρ n im (.slice (some ⟨b, o, none⟩) xs.length cap) (.sl f xs)
  | vec (r o m : Nat) (h : r < n) (hm : o + m ≤ (ρ r).cap) : Rep ρ n im (.slice (some ⟨(ρ r).b, o * (ρ r).sz, none⟩) m ((ρ r).cap - o)) (.vec r o m)
  | map (r : Nat) (h : r < n) : Rep ρ n im (.map (some (ρ r).b)) (.map r)
  | nilm : Rep ρ n im (.map none) .nilm
  | fn (f : FuncId) (vs : List Value) (cs : List D) (h : RepA ρ n im vs cs) : Rep ρ n im (.func (.func f) ⟨[]⟩ ⟨vs⟩) (.fn f cs)
  | niln : Rep ρ n im .nilFunc .niln
  | iface (t : TypeId) (v : Value) (d : D) (h : Rep ρ n im v d) : Rep ρ n im (.iface t v) (.iface t d)
  | nili : Rep ρ n im .nilIface .nili
  | agg (vs : List Value) (cs : List D) (h : RepL ρ n im vs cs) : Rep ρ n im (.agg ⟨vs⟩) (.agg cs)
  | tup (vs : List Value) (cs : List D) (h : RepA ρ n im vs cs) : Rep ρ n im (.tuple ⟨vs⟩) (.tup cs)
  | yld (r : Nat) (h : r < n) : Rep ρ n im (.func (.yield (ρ r).b) #[] #[]) (.yld r)
/-- one behind the other, each a value -/
inductive RepA (ρ : Rho) (n : Nat) (im : Im) : List Value → List D → Prop
  | nil : RepA ρ n im [] []
  | cons (v : Value) (d : D) (vs : List Value) (ds : List D) (h : Rep ρ n im v d) (hr : RepA ρ n im vs ds) : RepA ρ n im (v :: vs) (d :: ds)
/-- one behind the other, each of one cell -/
inductive RepL (ρ : Rho) (n : Nat) (im : Im) : List Value → List D → Prop
  | nil : RepL ρ n im [] []
  | cons (v : Value) (d : D) (vs : List Value) (ds : List D) (h1 : v.oneCell' = true) (h : Rep ρ n im v d) (hr : RepL ρ n im vs ds) : RepL ρ n im (v :: vs) (d :: ds)
end

structure ImLe (im im' : Im) : Prop where
  le : ∀ b o v, im b o = some v → im' b o = some v
theorem ImLe.refl (im : Im) : ImLe im im := ⟨fun _ _ _ h => h⟩
theorem ImLe.trans {a b c : Im} (h : ImLe a b) (k : ImLe b c) : ImLe a c := ⟨fun x y v e => k.le x y v (h.le x y v e)⟩
theorem im_list {im im' : Im} (hi : ImLe im im') {b o : Nat} {vs : List Value} (hc : ∀ k, k < vs.length → im b (o + k) = vs[k]?) : ∀ k, k < vs.length → im' b (o + k) = vs[k]? := by
  intro k hk
  have := hc k hk
  rw [List.getElem?_eq_getElem hk] at this ⊢
  exact hi.le _ _ _ this

section
variable {ρ ρ' : Rho} {n n' : Nat} {im im' : Im}
mutual
theorem Rep.mono (he : ∀ r, r < n → ρ' r = ρ r) (hn : n ≤ n') (hi : ImLe im im') : ∀ {v : Value} {d : D}, Rep ρ n im v d → Rep ρ' n' im' v d
  | _, _, .bool b => .bool b
  | _, _, .int k m => .int k m
  | _, _, .str s => .str s
  | _, _, .nilp => .nilp
  | _, _, .ptr r i j h => by
    have := he r h
    rw [← this]; exact .ptr r i j (by omega)
  | _, _, .ept b o x j vs hc h => .ept b o x j vs (im_list hi hc) (RepL.mono he hn hi h)
  | _, _, .sl0 a cap f hf => .sl0 a cap f hf
  | _, _, .sl b o sz cap f xs vs hs hc h hf hcap => .sl b o sz cap f xs vs hs (im_list hi hc) (RepL.mono he hn hi h) hf hcap
  | _, _, .vec r o m h hm => by
    have e := he r h
    rw [← e] at hm ⊢; exact .vec r o m (by omega) hm
  | _, _, .map r h => by
    have := he r h
    rw [← this]; exact .map r (by omega)
  | _, _, .nilm => .nilm
  | _, _, .fn f vs cs h => .fn f vs cs (RepA.mono he hn hi h)
  | _, _, .niln => .niln
  | _, _, .iface t v d h => .iface t v d (Rep.mono he hn hi h)
  | _, _, .nili => .nili
  | _, _, .agg vs cs h => .agg vs cs (RepL.mono he hn hi h)
  | _, _, .tup vs cs h => .tup vs cs (RepA.mono he hn hi h)
  | _, _, .yld r h => by
    have := he r h
    rw [← this]; exact .yld r (by omega)
theorem RepA.mono (he : ∀ r, r < n → ρ' r = ρ r) (hn : n ≤ n') (hi : ImLe im im') : ∀ {vs : List Value} {ds : List D}, RepA ρ n im vs ds → RepA ρ' n' im' vs ds
  | _, _, .nil => .nil
  | _, _, .cons v d vs ds h hr => .cons v d vs ds (Rep.mono he hn hi h) (RepA.mono he hn hi hr)
theorem RepL.mono (he : ∀ r, r < n → ρ' r = ρ r) (hn : n ≤ n') (hi : ImLe im im') : ∀ {vs : List Value} {ds : List D}, RepL ρ n im vs ds → RepL ρ' n' im' vs ds
  | _, _, .nil => .nil
  | _, _, .cons v d vs ds h1 h hr => .cons v d vs ds h1 (Rep.mono he hn hi h) (RepL.mono he hn hi hr)
end

theorem RepL.length : ∀ {vs : List Value} {ds : List D}, RepL ρ n im vs ds → vs.length = ds.length
  | _, _, .nil => rfl
  | _, _, .cons _ _ _ _ _ _ hr => by simp [RepL.length hr]
theorem RepA.length : ∀ {vs : List Value} {ds : List D}, RepA ρ n im vs ds → vs.length = ds.length
  | _, _, .nil => rfl
  | _, _, .cons _ _ _ _ _ hr => by simp [RepA.length hr]
theorem RepL.get : ∀ {vs : List Value} {ds : List D}, RepL ρ n im vs ds → ∀ {k : Nat} {d : D}, ds[k]? = some d → ∃ v, vs[k]? = some v ∧ v.oneCell' = true ∧ Rep ρ n im v d
  | _, _, .nil, k, d, h => by simp at h
  | _, _, .cons v d vs ds h1 h hr, 0, d', e => by simp at e; subst e; exact ⟨v, rfl, h1, h⟩
  | _, _, .cons v d vs ds h1 h hr, k + 1, d', e => by simpa using RepL.get hr (k := k) (by simpa using e)
theorem RepA.get : ∀ {vs : List Value} {ds : List D}, RepA ρ n im vs ds → ∀ {k : Nat} {d : D}, ds[k]? = some d → ∃ v, vs[k]? = some v ∧ Rep ρ n im v d
  | _, _, .nil, k, d, h => by simp at h
  | _, _, .cons v d vs ds h hr, 0, d', e => by simp at e; subst e; exact ⟨v, rfl, h⟩
  | _, _, .cons v d vs ds h hr, k + 1, d', e => by simpa using RepA.get hr (k := k) (by simpa using e)
theorem RepL.one : ∀ {vs : List Value} {ds : List D}, RepL ρ n im vs ds → ∀ v ∈ vs, v.oneCell' = true
  | _, _, .nil, v, h => by simp at h
  | _, _, .cons _ _ _ _ h1 _ hr, v, h => by
    rcases List.mem_cons.1 h with rfl | h
    · exact h1
    · exact RepL.one hr v h
theorem RepL.toA : ∀ {vs : List Value} {ds : List D}, RepL ρ n im vs ds → RepA ρ n im vs ds
  | _, _, .nil => .nil
  | _, _, .cons v d vs ds _ h hr => .cons v d vs ds h (RepL.toA hr)
theorem RepL.append : ∀ {vs us : List Value} {ds es : List D}, RepL ρ n im vs ds → RepL ρ n im us es → RepL ρ n im (vs ++ us) (ds ++ es)
  | _, _, _, _, .nil, k => k
  | _, _, _, _, .cons v d vs ds h1 h hr, k => .cons v d _ _ h1 h (RepL.append hr k)
theorem RepA.append : ∀ {vs us : List Value} {ds es : List D}, RepA ρ n im vs ds → RepA ρ n im us es → RepA ρ n im (vs ++ us) (ds ++ es)
  | _, _, _, _, .nil, k => k
  | _, _, _, _, .cons v d vs ds h hr, k => .cons v d _ _ h (RepA.append hr k)
theorem RepL.take : ∀ {vs : List Value} {ds : List D}, RepL ρ n im vs ds → ∀ k, RepL ρ n im (vs.take k) (ds.take k)
  | _, _, .nil, k => by simp; exact .nil
  | _, _, .cons v d vs ds h1 h hr, 0 => .nil
  | _, _, .cons v d vs ds h1 h hr, k + 1 => .cons v d _ _ h1 h (RepL.take hr k)
theorem RepL.drop : ∀ {vs : List Value} {ds : List D}, RepL ρ n im vs ds → ∀ k, RepL ρ n im (vs.drop k) (ds.drop k)
  | _, _, .nil, k => by simp; exact .nil
  | _, _, .cons v d vs ds h1 h hr, 0 => .cons v d vs ds h1 h hr
  | _, _, .cons v d vs ds h1 h hr, k + 1 => by simpa using RepL.drop hr k
theorem RepL.snoc {vs : List Value} {ds : List D} {v : Value} {d : D} (h : RepL ρ n im vs ds) (h1 : v.oneCell' = true) (hv : Rep ρ n im v d) : RepL ρ n im (vs ++ [v]) (ds ++ [d]) :=
  h.append (.cons v d [] [] h1 hv .nil)
theorem RepA.single {v : Value} {d : D} (hv : Rep ρ n im v d) : RepA ρ n im [v] [d] := .cons v d [] [] hv .nil

/-- the cells of a value that is no tuple -/
theorem Rep.cells {v : Value} {d : D} (h : Rep ρ n im v d) (ht : ∀ l, d ≠ .tup l) : RepL ρ n im v.cells.toList d.cells := by
  have one : ∀ {v : Value} {d : D}, v.oneCell' = true → Rep ρ n im v d → RepL ρ n im [v] [d] := fun h1 h => .cons _ _ [] [] h1 h .nil
  cases h with
  | agg vs cs h => simpa [Value.cells, D.cells] using h
  | tup vs cs h => exact absurd rfl (ht cs)
  | bool b => exact one rfl (.bool b)
  | int k m => exact one rfl (.int k m)
  | str s => exact one rfl (.str s)
  | nilp => exact one rfl .nilp
  | ptr r i j h => exact one rfl (.ptr r i j h)
  | ept b o x j vs hc h => exact one rfl (.ept b o x j vs hc h)
  | sl0 a cap f hf => exact one rfl (.sl0 a cap f hf)
  | sl b o sz cap f xs vs hs hc h hf hcap => exact one rfl (.sl b o sz cap f xs vs hs hc h hf hcap)
  | vec r o m h hm => exact one rfl (.vec r o m h hm)
  | map r h => exact one rfl (.map r h)
  | nilm => exact one rfl .nilm
  | fn f vs cs h => exact one rfl (.fn f vs cs h)
  | niln => exact one rfl .niln
  | iface t v d h => exact one rfl (.iface t v d h)
  | nili => exact one rfl .nili
  | yld r h => exact one rfl (.yld r h)
end
end Vm
