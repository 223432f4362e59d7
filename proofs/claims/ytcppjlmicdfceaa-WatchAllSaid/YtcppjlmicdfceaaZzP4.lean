/- Lists that grow by one. -/
import Derived.Test.YtcppjlmicdfceaaZzP3
set_option linter.unusedVariables false
set_option linter.unusedSimpArgs false
namespace Vm
open Go

/-- a list of one's own, as it lies now -/
def VecIs (d : D) (H : Heap) (xs : List D) : Prop :=
  (xs = [] ∧ d = .sl true []) ∨ (xs ≠ [] ∧ ∃ r, d = .vec r 0 xs.length ∧ hget H r = .arr xs ∧ r < H.length)
theorem VecIs.nil {H : Heap} : VecIs (.sl true []) H [] := .inl ⟨rfl, rfl⟩
theorem hget_app_lt {H L : Heap} {r : Nat} (h : r < H.length) : hget (H ++ L) r = hget H r := by
  simp [hget, List.getD_eq_getElem?_getD, List.getElem?_append_left h]
theorem VecIs.grow {d : D} {H L : Heap} {xs : List D} (h : VecIs d H xs) : VecIs d (H ++ L) xs := by
  rcases h with h | ⟨h1, r, h2, h3, h4⟩
  · exact .inl h
  · exact .inr ⟨h1, r, h2, by rw [hget_app_lt h4, h3], by simp; omega⟩
theorem VecIs.out {d : D} {H : Heap} {xs : List D} (h : VecIs d H xs) (hs : stripL xs = some xs) : outPure H d = some (.sl false xs) := by
  rcases h with ⟨rfl, rfl⟩ | ⟨h1, r, rfl, h3, h4⟩
  · exact outPure_strip rfl
  · have e1 : pur deepest H (.vec r 0 xs.length) = (if 0 + xs.length ≤ xs.length then (purL (pur (4 + 1)) (H.set r (.fro xs)) ((xs.drop 0).take xs.length)).map fun (l, H) => (.sl false l, H) else none) := by
      unfold deepest
      rw [pur]
      simp only [strip, h3]
    rw [outPure, e1, if_pos (by omega), List.drop_zero, List.take_length, purL_strip hs]
    rfl
theorem append_one {P : Program} {t e : TypeId} {n w : Nat} {z d q : D} {H : Heap} {xs : List D} (he : elemT P t = some e) (hn : sizeT P e = some n) (hw : bytesT P e = some w) (hz : zeroT P e = some z) (hzn : z.cells.length = n) (hw0 : w ≠ 0)
    (h : VecIs d H xs) (hq : q.cells.length = n) (hs : strip q = some q) (hx : headSize n xs = true) (hm : (xs.length + 1) * w ≤ mostBytes) :
    ∃ d' H', appendD P t (H ++ [.arr [q]]) d (.vec H.length 0 1) = some (d', H') ∧ VecIs d' H' (xs ++ [q]) := by
  have hadd : addedD (H ++ [.arr [q]]) (.vec H.length 0 1) = some ([q], H ++ [.arr [q]]) := by
    have : pures (H ++ [.arr [q]]) [q] = some ([q], H ++ [.arr [q]]) := pures_strip (by simp [stripL, hs])
    simp [addedD, elems, hget_app0, hget_cons0, this]
  have hqs : headSize n [q] = true := by simp [headSize, hq]
  rcases h with ⟨rfl, rfl⟩ | ⟨h1, r, rfl, h3, h4⟩
  · refine ⟨.vec (H ++ [Ob.arr [q]]).length 0 1, H ++ [.arr [q]] ++ [.arr [q]], ?_, .inr ⟨by simp, (H ++ [Ob.arr [q]]).length, rfl, ?_, by simp⟩⟩
    · simp only [appendD, he, hn, hw, hz, Option.bind_some, hadd, hzn]
      simp [hw0, hqs, headSize]
      exact ⟨hq, by simpa using hm⟩
    · have := hget_app0 (H := H ++ [.arr [q]]) (L := [.arr [q]])
      rw [this]; rfl
  · have hg : hget (H ++ [.arr [q]]) r = .arr xs := by rw [hget_app_lt h4, h3]
    have hne : xs.isEmpty = false := by simpa using h1
    refine ⟨.vec (H ++ [Ob.arr [q]]).length 0 (xs.length + 1), (H ++ [Ob.arr [q]]).set r Ob.dead ++ [Ob.arr (xs ++ [q])], ?_, .inr ⟨by simp, (H ++ [Ob.arr [q]]).length, by simp, ?_, by simp⟩⟩
    · simp only [appendD, he, hn, hw, hz, Option.bind_some, hadd, hzn]
      simp [hw0, hqs, hg, hx, hne, hm]
    · have := hget_app0 (H := (H ++ [Ob.arr [q]]).set r Ob.dead) (L := [Ob.arr (xs ++ [q])])
      rw [List.length_set] at this
      rw [this]; rfl
end Vm
