/- Loads and stores, as the interpreter has them, in the model. -/
import Derived.Test.YtcppjlmicdfceaaZzV5
set_option linter.unusedVariables false
set_option linter.unusedSimpArgs false
namespace Vm
open Go Go.RowKit

theorem add_plain (b o k : Nat) : (⟨b, o, none⟩ : Addr).add k = ⟨b, o + k, none⟩ := by unfold Addr.add; split <;> simp_all

theorem splice_take {α : Type} (L V : List α) (a j s N dl : Nat) (h : a + s ≤ N) (hN : N ≤ L.length) (hj : j + dl ≤ s) (hV : V.length = dl) :
    (L.take (a + j) ++ V ++ L.drop (a + j + dl)).take N =
      (L.take N).take a ++ ((((L.take N).drop a).take s).take j ++ V ++ (((L.take N).drop a).take s).drop (j + dl)) ++ (L.take N).drop (a + s) := by
  apply List.ext_getElem?
  intro k
  simp only [List.getElem?_append, List.getElem?_take, List.getElem?_drop, List.length_append, List.length_take, List.length_drop, hV]
  grind
section
variable {P : Program} {ρ : Rho} {im : Im} {H : Heap} {w : World} {n : Nat}

/-- a part of a row of values -/
structure PartV (P : Program) (t : TypeId) (vs : List Value) (j : Nat) (v : Value) : Prop where
  ex : ∃ n ag, sizeT P t = some n ∧ isAggT P t = some ag ∧ j + n ≤ vs.length ∧ (ag = true → v = .agg ⟨(vs.drop j).take n⟩) ∧ (ag = false → n = 1 ∧ vs[j]? = some v)

theorem partD_rep {t : TypeId} {cs : List D} {vs : List Value} {j : Nat} {d : D} (h : partD P t cs j = some d) (hr : RepL ρ n im vs cs) : ∃ v, PartV P t vs j v ∧ Rep ρ n im v d := by
  unfold partD at h
  cases hs : sizeT P t with
  | none => simp [hs] at h
  | some m =>
    cases ha : isAggT P t with
    | none => simp [hs, ha] at h
    | some ag =>
      simp only [hs, ha, Option.bind_some] at h
      split at h
      · rename_i hle
        cases ag with
        | true =>
          simp at h; subst h
          exact ⟨.agg ⟨(vs.drop j).take m⟩, ⟨m, true, hs, ha, by rw [hr.length]; exact hle, fun _ => rfl, (fun h => by cases h)⟩, .agg _ _ ((hr.drop j).take m)⟩
        | false =>
          simp only [Bool.false_eq_true, if_false] at h
          split at h
          · rename_i h1
            obtain ⟨v, hv, _, hrep⟩ := hr.get h
            exact ⟨v, ⟨m, false, hs, ha, by rw [hr.length]; exact hle, (fun h => by cases h), fun _ => ⟨h1, hv⟩⟩, hrep⟩
          · cases h
      · cases h
theorem partE_rep {t : TypeId} {x : D} {vs : List Value} {j : Nat} {d : D} (h : partE P t x j = some d) (hr : RepL ρ n im vs x.cells) : ∃ v, PartV P t vs j v ∧ Rep ρ n im v d := by
  unfold partE at h
  cases hs : sizeT P t with
  | none => simp [hs] at h
  | some m =>
    cases ha : isAggT P t with
    | none => simp [hs, ha] at h
    | some ag =>
      simp only [hs, ha, Option.bind_some] at h
      split at h
      · rename_i hc
        obtain ⟨rfl, hl, hq⟩ := hc
        simp at h; subst h
        have hlen := hr.length
        cases ag with
        | true =>
          cases x <;> simp [aggQ] at hq
          rename_i cs
          refine ⟨.agg ⟨vs⟩, ⟨m, true, hs, ha, by omega, fun _ => ?_, (fun h => by cases h)⟩, .agg vs cs hr⟩
          simp; rw [List.take_of_length_le (by omega)]
        | false =>
          have hx : x.cells = [x] := by cases x <;> simp [aggQ] at hq <;> rfl
          rw [hx] at hr hl hlen
          cases hr with
          | cons v d vs ds h1 h hr =>
            cases hr
            exact ⟨v, ⟨m, false, hs, ha, by simp at hl ⊢; omega, (fun h => by cases h), fun _ => ⟨by simpa using hl.symm, rfl⟩⟩, h⟩
      · exact partD_rep h hr

/-- the load of a part of a row of cells that lies in memory -/
theorem run_loadPart {t : TypeId} {vs : List Value} {j b p : Nat} {v : Value} (h : PartV P t vs j v) (hc : ∀ k, k < vs.length → w.cell? ⟨b, p + k, none⟩ = vs[k]?) :
    (Instr.loadAt t (.pointer (some ⟨b, p + j, none⟩))).run P w = .ok v w := by
  obtain ⟨m, ag, hs, ha, hle, h1, h2⟩ := h.ex
  unfold Instr.loadAt loadVar
  simp only [Instr.sureAddr, Sem.run_bind, Sem.run_pure, Result.andThen_ok, run_aggT ha, Sem.run_ite, run_size hs]
  cases ag with
  | true =>
    have e := h1 rfl
    subst e
    have hl : ((vs.drop j).take m).length = m := by simp; omega
    have := run_loadCells_list (P := P) w ⟨b, p + j, none⟩ ((vs.drop j).take m) (fun k u hu => by
      rw [add_plain]
      rw [List.getElem?_take] at hu
      split at hu
      · rw [List.getElem?_drop] at hu
        rw [Nat.add_assoc, hc (j + k) (by omega)]; exact hu
      · cases hu)
    rw [hl] at this
    simp [this]
  | false =>
    obtain ⟨rfl, hv⟩ := h2 rfl
    have := hc j (by omega)
    simp [this, hv]

/-- what a pointer leads to -/
theorem loadD_run {t : TypeId} {p d : D} {pv : Value} (hR : Rel ρ im H w) (hp : Rep ρ H.length im pv p) (h : loadD P t H p = some d) :
    ∃ v, (Instr.loadAt t pv).run P w = .ok v w ∧ Rep ρ H.length im v d := by
  cases hp with
  | ptr r i j hr =>
    simp only [loadD] at h
    have hob := hR.obj r hr
    cases hx : hget H r with
    | dead => simp [hx] at h
    | loop l => simp [hx] at h
    | map es => simp [hx] at h
    | arr xs =>
      rw [hx] at hob
      simp only [hx] at h
      cases hi : xs[i]? with
      | none => simp [hi] at h
      | some x =>
        simp [hi] at h
        obtain ⟨c, ty, fz, h1, h2, h3, h4, h5, h6⟩ := hob
        have hxl := h3 x (List.mem_of_getElem? hi)
        have hil := (List.getElem?_eq_some_iff.1 hi).1
        have hsub : RepL ρ H.length im (((c.toList.take (xs.length * (ρ r).sz)).drop (i * (ρ r).sz)).take (ρ r).sz) x.cells := by
          have := (h5.drop (i * (ρ r).sz)).take (ρ r).sz
          rwa [flatC_get h3 hi] at this
        obtain ⟨v, hpv, hrep⟩ := partE_rep h hsub
        refine ⟨v, ?_, hrep⟩
        refine run_loadPart hpv (fun k hk => ?_)
        have hk' : k < (ρ r).sz := by have := hsub.length; omega
        have hm : (i + 1) * (ρ r).sz ≤ xs.length * (ρ r).sz := Nat.mul_le_mul_right _ hil
        rw [Nat.add_mul, Nat.one_mul] at hm
        rw [List.getElem?_take_of_lt hk', List.getElem?_drop, List.getElem?_take_of_lt (by omega)]
        simp [World.cell?, h1]
    | fro xs =>
      rw [hx] at hob
      simp only [hx] at h
      cases hi : xs[i]? with
      | none => simp [hi] at h
      | some x =>
        simp [hi] at h
        obtain ⟨vs, h1, h2, h3, h4⟩ := hob
        have hil := (List.getElem?_eq_some_iff.1 hi).1
        have hsub : RepL ρ H.length im ((vs.drop (i * (ρ r).sz)).take (ρ r).sz) x.cells := by
          have := (h3.drop (i * (ρ r).sz)).take (ρ r).sz
          rwa [flatC_get h1 hi] at this
        obtain ⟨v, hpv, hrep⟩ := partE_rep h hsub
        refine ⟨v, run_loadPart hpv (fun k hk => ?_), hrep⟩
        have hk' : k < (ρ r).sz := by have := hsub.length; have := h1 x (List.mem_of_getElem? hi); omega
        have hm : (i + 1) * (ρ r).sz ≤ xs.length * (ρ r).sz := Nat.mul_le_mul_right _ hil
        rw [Nat.add_mul, Nat.one_mul] at hm
        have hvl : vs.length = xs.length * (ρ r).sz := by rw [h3.length, flatC_length h1]
        rw [List.getElem?_take_of_lt hk', List.getElem?_drop]
        have h5 := h4 (i * (ρ r).sz + k) (by omega)
        rw [List.getElem?_eq_getElem (by omega)] at h5 ⊢
        exact hR.imc _ _ _ h5
  | ept b o x j vs hc hl =>
    simp only [loadD] at h
    obtain ⟨v, hpv, hrep⟩ := partE_rep h hl
    refine ⟨v, run_loadPart hpv (fun k hk => ?_), hrep⟩
    have := hc k hk
    rw [List.getElem?_eq_getElem hk] at this ⊢
    exact hR.imc _ _ _ this
  | _ => simp [loadD] at h

/-- what a store leaves in an element -/
theorem setE_rep {x d y : D} {j : Nat} {v : Value} (h : setE x j d = some y) (hv : Rep ρ n im v d) :
    j + d.cells.length ≤ x.cells.length ∧ RepL ρ n im v.cells.toList d.cells ∧ y.cells.length = x.cells.length ∧
      ∀ {vs : List Value}, RepL ρ n im vs x.cells → RepL ρ n im (vs.take j ++ v.cells.toList ++ vs.drop (j + d.cells.length)) y.cells := by
  unfold setE at h
  split at h
  · cases h
  · rename_i hnt
    have hc : RepL ρ n im v.cells.toList d.cells := hv.cells (fun l e => by subst e; simp [noTup] at hnt)
    split at h
    · rename_i hw
      obtain ⟨rfl, hl, _⟩ := hw
      simp at h; subst h
      refine ⟨by omega, hc, hl, fun hvs => ?_⟩
      have := hvs.length
      simp only [List.take_zero, List.nil_append, Nat.zero_add]
      rw [List.drop_eq_nil_of_le (by omega), List.append_nil]; exact hc
    · split at h
      · rename_i hle
        simp at h; subst h
        refine ⟨hle.1, hc, ?_, fun hvs => ?_⟩
        · show (spliceL x.cells j d.cells).length = _
          simp only [spliceL, List.length_append, List.length_take, List.length_drop]; omega
        · show RepL ρ n im _ (spliceL x.cells j d.cells)
          simpa [spliceL] using ((hvs.take j).append hc).append (hvs.drop (j + d.cells.length))
      · cases h

theorem storeD_run {t : TypeId} {p d : D} {pv v : Value} {H' : Heap} (hR : Rel ρ im H w) (hp : Rep ρ H.length im pv p) (hv : Rep ρ H.length im v d) (h : storeD P t H p d = some H') :
    ∃ w', (Instr.storeAt t pv v).run P w = .ok () w' ∧ Rel ρ im H' w' ∧ Tr ρ H w ρ H' w' := by
  cases hp with
  | ptr r i j hr =>
    simp only [storeD] at h
    have hob := hR.obj r hr
    cases hx : hget H r with
    | dead => simp [hx] at h
    | loop l => simp [hx] at h
    | map es => simp [hx] at h
    | fro xs => simp [hx] at h
    | arr xs =>
      rw [hx] at hob
      simp only [hx] at h
      have hl : live (hget H r) := by rw [hx]; trivial
      cases hs : sizeT P t with
      | none => simp [hs] at h
      | some m =>
        simp only [hs, Option.bind_some] at h
        split at h
        · rename_i hcm
          cases hi : xs[i]? with
          | none => simp [hi] at h
          | some x =>
            cases hy : setE x j d with
            | none => simp [hi, hy] at h
            | some y =>
              simp [hi, hy] at h; subst h
              obtain ⟨hjle, hcells, hylen, hput⟩ := setE_rep hy hv
              obtain ⟨c, ty, fz, h1, h2, h3, h4, h5, h6⟩ := hob
              have hxl := h3 x (List.mem_of_getElem? hi)
              have hil := (List.getElem?_eq_some_iff.1 hi).1
              have hm : (i + 1) * (ρ r).sz ≤ xs.length * (ρ r).sz := Nat.mul_le_mul_right _ hil
              have hcap : xs.length * (ρ r).sz ≤ (ρ r).cap * (ρ r).sz := Nat.mul_le_mul_right _ h4
              rw [Nat.add_mul, Nat.one_mul] at hm
              have hvl : v.cells.toList.length = m := by rw [hcells.length, hcm]
              have hvs : v.cells.size = m := by simpa using hvl
              have hcell : ∀ k, k < v.cells.toList.length → (w.cell? ⟨(ρ r).b, i * (ρ r).sz + j + 0 + k, none⟩).isSome = true := fun k hk => by
                have : i * (ρ r).sz + j + 0 + k < c.size := by omega
                simp [World.cell?, h1]; omega
              have hfr : ∀ k, k < v.cells.toList.length → w.frozen? ⟨(ρ r).b, i * (ρ r).sz + j + 0 + k, none⟩ = false := fun k hk => by
                have hlt : i * (ρ r).sz + j + 0 + k < c.size := by omega
                simp only [World.frozen?, h1]
                simp only [Bool.and_eq_false_iff, decide_eq_false_iff_not]
                omega
              have hrun := run_storeCells_cells (P := P) (ρ r).b (i * (ρ r).sz + j) v.cells.toList 0 w hcell hfr hcells.one
              refine ⟨w.setCells (ρ r).b (i * (ρ r).sz + j) v.cells.toList, ?_, ?_, ?_⟩
              · unfold Instr.storeAt storeVar
                simp only [Instr.sureAddr, Sem.run_bind, Sem.run_pure, Result.andThen_ok, run_size hs, Sem.run_ite]
                rw [if_neg (by simp [hvs])]
                simpa using hrun
              · obtain ⟨e1, e2, e3, e4⟩ := setCells_same (ρ r).b v.cells.toList (i * (ρ r).sz + j) w
                refine hR.setOb hr hl (fun b hb => heap_setCells_ne _ _ _ _ _ hb) ⟨_, ty, fz, heap_setCells _ _ _ _ _ _ _ h1, ?_, ?_, ?_, ?_, ?_⟩
                · rw [setMany_size, h2]
                · intro z hz
                  rcases List.mem_or_eq_of_mem_set hz with hz | hz
                  · exact h3 z hz
                  · subst hz; omega
                · simpa using h4
                · rw [List.length_set, flatC_set h3 hil, setMany_toList _ _ _ (by omega), hcells.length]
                  have hx5 : RepL ρ H.length im (((c.toList.take (xs.length * (ρ r).sz)).drop (i * (ρ r).sz)).take (ρ r).sz) x.cells := by
                    have := (h5.drop (i * (ρ r).sz)).take (ρ r).sz
                    rwa [flatC_get h3 hi] at this
                  have key := ((h5.take (i * (ρ r).sz)).append (hput hx5)).append (h5.drop ((i + 1) * (ρ r).sz))
                  have e : List.take (xs.length * (ρ r).sz) (List.take (i * (ρ r).sz + j) c.toList ++ v.cells.toList ++ List.drop (i * (ρ r).sz + j + d.cells.length) c.toList) =
                      List.take (i * (ρ r).sz) (List.take (xs.length * (ρ r).sz) c.toList) ++ (List.take j (List.take (ρ r).sz (List.drop (i * (ρ r).sz) (List.take (xs.length * (ρ r).sz) c.toList))) ++ v.cells.toList ++
                        List.drop (j + d.cells.length) (List.take (ρ r).sz (List.drop (i * (ρ r).sz) (List.take (xs.length * (ρ r).sz) c.toList)))) ++ List.drop ((i + 1) * (ρ r).sz) (List.take (xs.length * (ρ r).sz) c.toList) := by
                    rw [Nat.add_mul, Nat.one_mul]
                    exact splice_take _ _ _ _ _ _ _ hm (by simp; omega) (by omega) (by omega)
                  rw [e]; exact key
                · rw [setMany_size]; exact h6
              · obtain ⟨e1, e2, e3, e4⟩ := setCells_same (ρ r).b v.cells.toList (i * (ρ r).sz + j) w
                exact Tr.setOb hr hl (fun b hb => heap_setCells_ne _ _ _ _ _ hb) e1 e2 e3 e4
        · cases h
  | _ => simp [storeD] at h
end
end Vm
