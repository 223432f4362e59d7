/- Lists of one's own above a mark; what lies below stays. -/
import Derived.Test.YtcppjlmicdfceaaZzP5
set_option linter.unusedVariables false
set_option linter.unusedSimpArgs false
namespace Vm
open Go

/-- what lay below a mark lies there as it was -/
def Same (m : Nat) (H H' : Heap) : Prop := H.length ≤ H'.length ∧ ∀ k, k < m → hget H' k = hget H k
theorem Same.refl {m : Nat} {H : Heap} : Same m H H := ⟨Nat.le_refl _, fun _ _ => rfl⟩
theorem Same.trans {m : Nat} {H H' H'' : Heap} (h : Same m H H') (g : Same m H' H'') : Same m H H'' := ⟨Nat.le_trans h.1 g.1, fun k hk => by rw [g.2 k hk, h.2 k hk]⟩
theorem Same.app {m : Nat} {H L : Heap} (h : m ≤ H.length) : Same m H (H ++ L) := ⟨by simp, fun k hk => hget_app_lt (by omega)⟩
theorem Same.set {m r : Nat} {H : Heap} {o : Ob} (h : m ≤ r) : Same m H (H.set r o) := ⟨by simp, fun k hk => hget_set_ne (by omega)⟩
theorem Same.le {m n : Nat} {H H' : Heap} (h : Same m H H') (hn : n ≤ m) : Same n H H' := ⟨h.1, fun k hk => h.2 k (by omega)⟩
/-- a list of one's own that lies above a mark -/
def VecAt (m : Nat) (d : D) (H : Heap) (xs : List D) : Prop :=
  m ≤ H.length ∧ ((xs = [] ∧ d = .sl true []) ∨ (xs ≠ [] ∧ ∃ r, m ≤ r ∧ r < H.length ∧ d = .vec r 0 xs.length ∧ hget H r = .arr xs))
theorem VecAt.nil {m : Nat} {H : Heap} (h : m ≤ H.length) : VecAt m (.sl true []) H [] := ⟨h, .inl ⟨rfl, rfl⟩⟩
theorem VecAt.app {m : Nat} {d : D} {H L : Heap} {xs : List D} (h : VecAt m d H xs) : VecAt m d (H ++ L) xs := by
  obtain ⟨h0, h | ⟨h1, r, h2, h3, h4, h5⟩⟩ := h
  · exact ⟨by simp; omega, .inl h⟩
  · exact ⟨by simp; omega, .inr ⟨h1, r, h2, by simp; omega, h4, by rw [hget_app_lt h3, h5]⟩⟩
theorem VecAt.setLow {m k : Nat} {o : Ob} {d : D} {H : Heap} {xs : List D} (h : VecAt m d H xs) (hk : k < m) : VecAt m d (H.set k o) xs := by
  obtain ⟨h0, h | ⟨h1, r, h2, h3, h4, h5⟩⟩ := h
  · exact ⟨by simpa using h0, .inl h⟩
  · exact ⟨by simpa using h0, .inr ⟨h1, r, h2, by simpa using h3, h4, by rw [hget_set_ne (by omega), h5]⟩⟩
theorem VecAt.cases {m : Nat} {d : D} {H : Heap} {xs : List D} (h : VecAt m d H xs) (hx : xs ≠ []) : ∃ r, m ≤ r ∧ r < H.length ∧ d = .vec r 0 xs.length ∧ hget H r = .arr xs := by
  obtain ⟨h0, h | ⟨h1, h2⟩⟩ := h
  · exact absurd h.1 hx
  · exact h2
theorem VecAt.nilEq {m : Nat} {d : D} {H : Heap} (h : VecAt m d H []) : d = .sl true [] := by
  obtain ⟨h0, h | ⟨h1, h2⟩⟩ := h
  · exact h.2
  · exact absurd rfl h1
theorem VecAt.one {m : Nat} {d : D} {H : Heap} {xs : List D} (h : VecAt m d H xs) : d.cells = [d] ∧ aggQ d = false ∧ noTup d = true := by
  obtain ⟨h0, h | ⟨h1, r, h2, h3, h4, h5⟩⟩ := h
  · rw [h.2]; exact ⟨rfl, rfl, rfl⟩
  · rw [h4]; exact ⟨rfl, rfl, rfl⟩
theorem VecAt.is {m : Nat} {d : D} {H : Heap} {xs : List D} (h : VecAt m d H xs) : VecIs d H xs := by
  obtain ⟨h0, h | ⟨h1, r, h2, h3, h4, h5⟩⟩ := h
  · exact .inl h
  · exact .inr ⟨h1, r, h4, h5, h3⟩
theorem VecAt.out {m : Nat} {d : D} {H : Heap} {xs : List D} (h : VecAt m d H xs) (hs : stripL xs = some xs) : outPure H d = some (.sl false xs) := h.is.out hs
theorem VecAt.store {m r i : Nat} {H : Heap} {xs : List D} {x : D} (hm : m ≤ r) (hr : r < H.length) (hi : i < xs.length) : VecAt m (.vec r 0 xs.length) (H.set r (.arr (xs.set i x))) (xs.set i x) :=
  ⟨by simp; omega, .inr ⟨fun h => by have := congrArg List.length h; simp at this; subst this; simp at hi, r, hm, by simpa using hr, by simp, hget_set_eq hr⟩⟩
theorem vecSize_of {H : Heap} {r n : Nat} {xs : List D} (h : hget H r = .arr xs) (hx : xs ≠ []) (hs : headSize n xs = true) : vecSize H r n = true := by
  unfold vecSize
  rw [h]
  cases xs with
  | nil => exact absurd rfl hx
  | cons x l => exact hs
/-- one more -/
theorem VecAt.append {P : Program} {t e : TypeId} {n w m : Nat} {z d q : D} {H : Heap} {xs : List D} (he : elemT P t = some e) (hn : sizeT P e = some n) (hw : bytesT P e = some w) (hz : zeroT P e = some z) (hzn : z.cells.length = n) (hw0 : w ≠ 0)
    (h : VecAt m d H xs) (hq : q.cells.length = n) (hs : strip q = some q) (hx : headSize n xs = true) (hm : (xs.length + 1) * w ≤ 140737488355328) :
    ∃ d' H', appendD P t (H ++ [Ob.arr [q]]) d (.vec H.length 0 1) = some (d', H') ∧ VecAt m d' H' (xs ++ [q]) ∧ Same m H H' := by
  have hadd : addedD (H ++ [Ob.arr [q]]) (.vec H.length 0 1) = some ([q], H ++ [Ob.arr [q]]) := by
    have : pures (H ++ [Ob.arr [q]]) [q] = some ([q], H ++ [Ob.arr [q]]) := pures_strip (by simp [stripL, hs])
    simp [addedD, elems, hget_app0, hget_cons0, this]
  have hqs : headSize n [q] = true := by simp [headSize, hq]
  obtain ⟨h0, ⟨rfl, rfl⟩ | ⟨h1, r, h2, h4, rfl, h3⟩⟩ := h
  · refine ⟨.vec (H.length + 1) 0 1, H ++ [Ob.arr [q]] ++ [Ob.arr [q]], ?_, ⟨by simp; omega, .inr ⟨by simp, H.length + 1, by omega, by simp, rfl, ?_⟩⟩, ⟨by simp; try omega, fun k hk => ?_⟩⟩
    · simp only [appendD, he, hn, hw, hz, Option.bind_some, hadd, hzn]
      simp [hw0, hqs, headSize, mostBytes]
      exact ⟨hq, by simpa using hm⟩
    · have := hget_app0 (H := H ++ [Ob.arr [q]]) (L := [Ob.arr [q]])
      simp only [List.length_append, List.length_cons, List.length_nil, Nat.zero_add] at this
      rw [this]; rfl
    · rw [List.append_assoc, hget_app_lt (by omega)]
  · have hg : hget (H ++ [Ob.arr [q]]) r = .arr xs := by rw [hget_app_lt h4, h3]
    have hne : xs.isEmpty = false := by simpa using h1
    refine ⟨.vec (H.length + 1) 0 (xs.length + 1), (H ++ [Ob.arr [q]]).set r Ob.dead ++ [Ob.arr (xs ++ [q])], ?_, ⟨by simp; omega, .inr ⟨by simp, H.length + 1, by omega, by simp, by simp, ?_⟩⟩, ⟨by simp; try omega, fun k hk => ?_⟩⟩
    · simp only [appendD, he, hn, hw, hz, Option.bind_some, hadd, hzn]
      simp [hw0, hqs, hg, hx, hne, hm, mostBytes]
    · have := hget_app0 (H := (H ++ [Ob.arr [q]]).set r Ob.dead) (L := [Ob.arr (xs ++ [q])])
      simp only [List.length_set, List.length_append, List.length_cons, List.length_nil, Nat.zero_add] at this
      rw [this]; rfl
    · rw [hget_app_lt (by simp; omega), hget_set_ne (by omega), hget_app_lt (by omega)]
end Vm
