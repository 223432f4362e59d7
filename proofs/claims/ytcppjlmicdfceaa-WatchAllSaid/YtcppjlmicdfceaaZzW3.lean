/- append, make, literals, copy: as the interpreter has them, in the model. -/
import Derived.Test.YtcppjlmicdfceaaZzW2
set_option linter.unusedVariables false
set_option linter.unusedSimpArgs false
namespace Vm
open Go Go.RowKit

section
variable {P : Program} {ρ : Rho} {im : Im} {H : Heap} {w w' : World} {n : Nat}

theorem zero_size {e : TypeId} {z : D} {m : Nat} (hz : zeroT P e = some z) (hm : z.cells.length = m) : ∃ i v, P.info? e = some i ∧ i.zero = some v ∧ v.cells.size = m ∧ ofV v = some z := by
  unfold zeroT at hz
  cases hi : P.info? e with
  | none => simp [hi] at hz
  | some i =>
    simp only [hi, Option.bind_some] at hz
    cases hv : i.zero with
    | none => simp [hv] at hz
    | some v =>
      simp only [hv, Option.bind_some] at hz
      cases ho : ofV v with
      | none => simp [ho] at hz
      | some d =>
        simp only [ho, Option.bind_some] at hz
        have hnt : (∀ l, d ≠ .tup l) ∧ d = z := by cases d <;> simp at hz <;> subst hz <;> exact ⟨(fun l e => by cases e), rfl⟩
        obtain ⟨hnt, rfl⟩ := hnt
        have := (ofV_rep (ρ := fun _ => default) (n := 0) (im := fun _ _ => none) ho).cells hnt
        exact ⟨i, v, rfl, hv, by have := this.length; simp at this; omega, ho⟩
theorem bytesT_spec {e : TypeId} {b : Nat} (h : bytesT P e = some b) : ∃ i, P.info? e = some i ∧ i.bytes = b := by
  unfold bytesT at h
  cases hi : P.info? e with
  | none => simp [hi] at h
  | some i => simp [hi] at h; exact ⟨i, rfl, h⟩
theorem zeroCells_size (zero : Array Value) (k : Nat) : (Builtin.zeroCells zero k).size = k * zero.size := by simp [Builtin.zeroCells]

/-- a row that is made anew, some cells of it told -/
theorem Rel.allocRow (hR : Rel ρ im H w) {sz cap : Nat} {xs : List D} {vs : List Value} {rest : Array Value} {t : TypeId} (hl : RepL ρ H.length im vs (flatC xs)) (hs : ∀ x, x ∈ xs → x.cells.length = sz)
    (hc : xs.length ≤ cap) (hrest : rest.size = (cap - xs.length) * sz) :
    ∃ ρ', Mv ρ im H w ρ' im (H ++ [.arr xs]) (w.alloc (.cells (vs.toArray ++ rest) t)) ∧ ρ' H.length = ⟨w.heap.size, sz, cap⟩ := by
  have hvl : vs.length = xs.length * sz := by rw [hl.length, flatC_length hs]
  obtain ⟨h1, h2⟩ := hR.alloc (sz := sz) (cap := cap) (xs := xs) (c := vs.toArray ++ rest) (t := t) (fz := (0, 0)) (by
      simp [hvl, hrest]; rw [← Nat.add_mul]; congr 1; omega) hs hc (by
      rw [show (vs.toArray ++ rest).toList = vs ++ rest.toList by simp, List.take_append_of_le_length (by omega), List.take_of_length_le (by omega)]; exact hl) (.inr (Nat.le_refl _))
  exact ⟨_, ⟨h1, ImLe.refl _, h2, fun _ _ _ h => .inl h⟩, newR_eq⟩
theorem vec_rep {r m : Nat} {b sz cap : Nat} (hr : r < n) (he : ρ r = ⟨b, sz, cap⟩) (hm : m ≤ cap) : Rep ρ n im (.slice (some ⟨b, 0, none⟩) m cap) (.vec r 0 m) := by
  have := Rep.vec (ρ := ρ) (n := n) (im := im) r 0 m hr (by rw [he]; simpa using hm)
  simpa [he] using this
theorem hget_arr_lt {r : Nat} {xs : List D} (h : hget H r = .arr xs) : r < H.length := hget_lt h (by simp)

set_option maxHeartbeats 1000000 in
theorem append_run {t u ty : TypeId} {s x d : D} {vs vx : Value} {H' : Heap} (hR : Rel ρ im H w) (hu : (∃ e', P.underlying u = some (.slice e')) ∨ P.underlying u = some .string) (hs : Rep ρ H.length im vs s) (hx : Rep ρ H.length im vx x)
    (h : appendD P t H s x = some (d, H')) :
    ∃ v ρ' im' w', (Builtin.append_ #[t, u] ty #[vs, vx]).run P w = .ok v w' ∧ Mv ρ im H w ρ' im' H' w' ∧ Rep ρ' H'.length im' v d := by
  unfold appendD at h
  cases he : elemT P t with
  | none => simp [he] at h
  | some e =>
  cases hz : sizeT P e with
  | none => simp [he, hz] at h
  | some z =>
  cases hb : bytesT P e with
  | none => simp [he, hz, hb] at h
  | some by' =>
  cases hzr : zeroT P e with
  | none => simp [he, hz, hb, hzr] at h
  | some zd =>
  cases hy : addedD H x with
  | none => simp [he, hz, hb, hzr, hy] at h
  | some p =>
  obtain ⟨ys, H1⟩ := p
  simp only [he, hz, hb, hzr, hy, Option.bind_some] at h
  split at h
  · cases h
  · rename_i hzl
    simp only [ne_eq, not_or, Decidable.not_not] at hzl
    obtain ⟨hzl, hbp⟩ := hzl
    have ht := elemT_spec he
    obtain ⟨i, zv, hi, hiz, hzs, _⟩ := zero_size hzr hzl
    have hisz : i.size = z := by obtain ⟨i', h1, h2, _⟩ := info_of_size hz; rw [hi] at h1; cases h1; exact h2
    have hib : i.bytes = by' := by obtain ⟨i', h1, h2⟩ := bytesT_spec hb; rw [hi] at h1; cases h1; exact h2
    split at h
    · rename_i hem
      have hys : ys = [] := by simpa using hem
      subst hys
      obtain ⟨im1, us, m1, hl, hsz, hsrc⟩ := added_src (z := z) hR hu hx hy (by rfl)
      have : us = [] := by cases hl; rfl
      subst this
      have hsl : ∃ a n c, vs = .slice a n c ∧ n ≤ c ∧ d = s ∧ H' = H1 := by
        cases s <;> simp at h
        · obtain ⟨rfl, rfl⟩ := h
          obtain ⟨a0, cap, rfl, _, hc⟩ := hs.sl_inv
          exact ⟨_, _, _, rfl, hc, rfl, rfl⟩
        · obtain ⟨rfl, rfl⟩ := h
          cases hs with
          | vec r o m hr hm => exact ⟨_, _, _, rfl, by omega, rfl, rfl⟩
      obtain ⟨a, n, c, rfl, hle, rfl, rfl⟩ := hsl
      rw [← hisz] at hsrc
      exact ⟨_, ρ, im1, w, run_append_nothing w t u ty e i ht hi a n c hle vx hsrc, m1, m1.rep hs⟩
    · rename_i hne
      split at h
      · cases h
      · rename_i hhy
        simp only [Bool.not_eq_false] at hhy
        obtain ⟨im1, us, m1, hl, hsz, hsrc⟩ := added_src (z := z) hR hu hx hy hhy
        have hyl : 0 < ys.length := by
          cases ys with
          | nil => simp at hne
          | cons y ys => simp
        have hbpos : 0 < by' := Nat.pos_of_ne_zero hbp
        -- what grows into a new row
        have grow : ∀ (xs : List D) (a0 : Option Addr) (cap : Nat) (ρ1 : Rho) (H2 : Heap), Mv ρ im H w ρ1 im1 H2 w → H2.length = H1.length → (∀ r, r < H1.length → ρ1 r = ρ r) → vs = .slice a0 xs.length cap → cap < xs.length + ys.length →
            (∃ os, RepL ρ1 H2.length im1 os (flatC xs) ∧ (∀ x, x ∈ xs → x.cells.length = z) ∧ (xs ≠ [] → ∃ b o, a0 = some ⟨b, o, none⟩ ∧ ∀ k, k < os.length → w.cell? ⟨b, o + k, none⟩ = os[k]?)) →
            (xs.length + ys.length) * by' ≤ mostBytes → d = .vec H1.length 0 (xs.length + ys.length) → H' = H2 ++ [.arr (xs ++ ys)] →
            ∃ v ρ' im' w', (Builtin.append_ #[t, u] ty #[vs, vx]).run P w = .ok v w' ∧ Mv ρ im H w ρ' im' H' w' ∧ Rep ρ' H'.length im' v d := by
          intro xs a0 cap ρ1 H2 m2 hlen2 hext hvs hcap ⟨os, hos, hosz, homem⟩ hmost hd hH
          subst hvs; subst hd; subst hH
          have hol : os.length = xs.length * z := by rw [hos.length, flatC_length hosz]
          have hneed : xs.length + ys.length ≤ mostBytes := Nat.le_trans (Nat.le_mul_of_pos_right _ hbpos) hmost
          unfold mostBytes at hneed hmost
          have hold : (Builtin.firstCells i.size xs.length (.slice a0 xs.length cap)).run P w.drew = .ok os.toArray w.drew := by
            rw [hisz]
            cases xs with
            | nil =>
              have : os = [] := List.eq_nil_of_length_eq_zero (by simpa using hol)
              subst this
              cases a0 <;> simp [Builtin.firstCells, loadCells, loadCellsFrom]
            | cons x xs =>
              obtain ⟨b, o, rfl, hc⟩ := homem (by simp)
              exact run_firstCells_some w.drew z _ _ _ _ os hol (fun j q hq => by
                rw [add_plain, World.cell?_drew, hc j (by rcases Nat.lt_or_ge j os.length with h | h; exact h; simp [List.getElem?_eq_none h] at hq)]; exact hq)
          rw [← hisz] at hsrc
          have hrun := run_append_grow_src (P := P) w t u ty e i zv ht hi hiz a0 xs.length cap os hold vx ys.length us hsrc hcap (by omega) (growslice_fits hcap (by rw [hib]; omega))
          have hge := grownCap_ge w (xs.length + ys.length) cap e
          have hRd : Rel ρ1 im1 H2 w.drew := m2.rel.drew
          have hl2 : RepL ρ1 H2.length im1 us (flatC ys) := by
            rw [hlen2]
            refine hl.mono (fun r hr => hext r hr) (Nat.le_refl _) (ImLe.refl _)
          obtain ⟨ρ3, m3, he3⟩ := hRd.allocRow (sz := z) (cap := grownCap w (xs.length + ys.length) cap e) (xs := xs ++ ys) (vs := os ++ us) (rest := Builtin.zeroCells zv.cells (grownCap w (xs.length + ys.length) cap e - (xs.length + ys.length))) (t := e)
            (by rw [flatC_append]; exact hos.append hl2)
            (fun x hx => by rcases List.mem_append.1 hx with h | h; exact hosz x h; exact hsz x h) (by simpa using hge) (by rw [zeroCells_size, hzs]; simp)
          refine ⟨_, ρ3, im1, _, hrun, (m2.trans ⟨hRd, ImLe.refl _, Tr.drew, fun _ _ _ h => .inl h⟩).trans m3, ?_⟩
          rw [← hlen2]
          exact vec_rep (by simp) (by simpa using he3) hge
        split at h
        · rename_i xs
          split at h
          · rename_i hc
            simp at h
            obtain ⟨rfl, rfl⟩ := h
            obtain ⟨a0, cap, rfl, hfull, _⟩ := hs.sl_inv
            have hcapx := hfull rfl
            obtain ⟨a1, c1, sz1, os, e1, hos, hosz, _, hom⟩ := elems_read m1.rel (m1.rep hs) (xs := xs) rfl
            cases e1
            refine grow xs a0 cap ρ H1 m1 rfl (fun _ _ => rfl) rfl (by omega) ⟨os, hos, ?_, hom⟩ hc.2 rfl rfl
            rcases headSize_spec hc.1 hosz with h0 | h0
            · rw [h0]; simp
            · intro x hx; rw [hosz x hx, h0]
          · cases h
        · rename_i r m
          cases hg : hget H1 r with
          | dead => simp [hg] at h
          | loop l => simp [hg] at h
          | fro xs => simp [hg] at h
          | map es => simp [hg] at h
          | arr xs =>
            simp only [hg] at h
            split at h
            · rename_i hc
              simp at h
              obtain ⟨rfl, rfl⟩ := h
              obtain ⟨hhx, hxe, hm, hmost⟩ := hc
              have hr1 := hget_arr_lt hg
              have hlive : live (hget H1 r) := by rw [hg]; trivial
              have hs1 := m1.rep hs
              cases hs with
              | vec _ _ _ hr0 hmc =>
              obtain ⟨a1, c1, sz1, os, e1, hos, hosz, _, hom⟩ := elems_read m1.rel hs1 (xs := xs) (by simp [elems, hg, hm])
              cases e1
              have hob := m1.rel.obj r hr1
              rw [hg] at hob
              obtain ⟨c, tt, fz, h1, h2, h3, h4, h5, h6⟩ := hob
              have hszz : ∀ x, x ∈ xs → x.cells.length = z := by
                rcases headSize_spec hhx h3 with h0 | h0
                · rw [h0]; simp
                · intro x hx; rw [h3 x hx, h0]
              by_cases hroom : xs.length + ys.length ≤ (ρ r).cap
              · have hsz2 : (ρ r).sz = z := by
                  rcases headSize_spec hhx h3 with h0 | h0
                  · rw [h0] at hxe; simp at hxe
                  · exact h0
                have hul : us.length = ys.length * z := by rw [hl.length, flatC_length hsz]
                have hcs : c.size = (ρ r).cap * z := by rw [h2, hsz2]
                have hfit : (xs.length + ys.length) * z ≤ (ρ r).cap * z := Nat.mul_le_mul_right _ hroom
                rw [Nat.add_mul] at hfit
                have hcell : ∀ j, j < us.length → (w.cell? ⟨(ρ r).b, 0 * (ρ r).sz + xs.length * i.size + j, none⟩).isSome = true := fun j hj => by
                  simp [World.cell?, h1]; rw [hisz]; omega
                have hfr : ∀ j, j < us.length → w.frozen? ⟨(ρ r).b, 0 * (ρ r).sz + xs.length * i.size + j, none⟩ = false := fun j hj => by
                  simp only [World.frozen?, h1]
                  simp only [Bool.and_eq_false_iff, decide_eq_false_iff_not]
                  rw [hisz]
                  omega
                have hrun := run_append_room_src w t u ty e i ht hi (ρ r).b (0 * (ρ r).sz) xs.length ((ρ r).cap - 0) vx ys.length us (by rw [hisz]; exact hsrc) (by omega) hcell hfr
                have hoff : 0 * (ρ r).sz + xs.length * i.size = xs.length * z := by rw [hisz]; omega
                rw [hoff] at hrun
                obtain ⟨q1, q2, q3, q4⟩ := setCells_same (ρ r).b us (xs.length * z) w
                obtain ⟨hR2, hT2⟩ := m1.rel.replace (w' := w.setCells (ρ r).b (xs.length * z) us) hr1 hlive (ob := .arr (xs ++ ys)) (fun b hb => heap_setCells_ne _ _ _ _ _ hb) q1 q2 q3 q4
                  ⟨_, tt, fz, heap_setCells _ _ _ _ _ _ _ h1, by rw [setMany_size, h2], fun x hx => by
                      rw [hsz2]; rcases List.mem_append.1 hx with h | h; exact hszz x h; exact hsz x h, by simpa using hroom, by
                      rw [setMany_toList _ _ _ (by omega), flatC_append, hsz2]
                      have e2 : List.take ((xs ++ ys).length * z) (List.take (xs.length * z) c.toList ++ us ++ List.drop (xs.length * z + us.length) c.toList) = List.take (xs.length * z) c.toList ++ us := by
                        rw [List.take_append_of_le_length (by simp [Nat.add_mul]; omega), List.take_of_length_le (by simp [Nat.add_mul]; omega)]
                      rw [e2]
                      rw [hsz2] at h5
                      exact (h5.append hl).mono (fun s hs => newR_lt hs) (by omega) (ImLe.refl _), by rw [setMany_size]; exact h6⟩
                have m2 : Mv ρ im1 H1 w _ im1 (H1.set r .dead ++ [.arr (xs ++ ys)]) (w.setCells (ρ r).b (xs.length * z) us) := ⟨hR2, ImLe.refl _, hT2, fun _ _ _ h => .inl h⟩
                refine ⟨_, _, im1, _, hrun, m1.trans m2, ?_⟩
                have := vec_rep (ρ := newR ρ H1.length (ρ r)) (n := (H1.set r Ob.dead ++ [Ob.arr (xs ++ ys)]).length) (im := im1) (r := H1.length) (m := xs.length + ys.length) (b := (ρ r).b) (sz := (ρ r).sz) (cap := (ρ r).cap) (by simp) newR_eq (by omega)
                simpa using this
              · -- a new row; the old one is let go
                have hk : Rel ρ im1 (H1.set r .dead) w := m1.rel.setOb hr1 hlive (fun _ _ => rfl) trivial
                have tk : Tr ρ H1 w ρ (H1.set r .dead) w := Tr.setOb hr1 hlive (fun _ _ => rfl) rfl rfl rfl rfl
                have m2 := m1.trans (⟨hk, ImLe.refl _, tk, fun _ _ _ h => .inl h⟩ : Mv ρ im1 H1 w ρ im1 (H1.set r .dead) w)
                refine grow xs _ _ ρ (H1.set r .dead) m2 (by simp) (fun _ _ => rfl) rfl (by omega) ⟨os, by simpa using hos, hszz, hom⟩ hmost rfl rfl
            · cases h
        · cases h
end
end Vm
