/- Structs and slices that are written out or made: as the interpreter has them, in the model. -/
import Derived.Test.YtcppjlmicdfceaaZzW3
import Derived.Laws.MakeOwn
set_option linter.unusedVariables false
set_option linter.unusedSimpArgs false
namespace Vm
open Go Go.RowKit

section
variable {P : Program} {ρ : Rho} {im : Im} {H : Heap} {w w' : World} {n N : Nat} {a : Act} {e : Env}

/-- parts by their numbers -/
inductive RepP (ρ : Rho) (n : Nat) (im : Im) : List (Nat × Value) → List (Nat × D) → Prop
  | nil : RepP ρ n im [] []
  | cons (i : Nat) (v : Value) (d : D) (vs : List (Nat × Value)) (ds : List (Nat × D)) (h : Rep ρ n im v d) (hr : RepP ρ n im vs ds) : RepP ρ n im ((i, v) :: vs) ((i, d) :: ds)
theorem partsD_rep (he : EnvR ρ n im N a e) : ∀ {l : List (Nat × Operand)} {ds : List (Nat × D)}, partsD e l = some ds → RepP ρ n im (l.map fun (i, x) => (i, a.eval x)) ds
  | [], ds, h => by simp [partsD] at h; subst h; exact .nil
  | (i, o) :: r, ds, h => by
    simp only [partsD] at h
    cases h0 : evalO e o with
    | none => simp [h0] at h
    | some d =>
      cases h1 : partsD e r with
      | none => simp [h0, h1] at h
      | some es => simp [h0, h1] at h; subst h; exact .cons i _ _ _ _ (evalO_rep he h0) (partsD_rep he h1)
theorem run_mapM_places : ∀ {fs : List Field} {ps : List (Nat × Nat)}, placesT P fs = some ps → ∀ w, (fs.mapM fun (f : Field) => (do pure (f.offset, ← Go.sizeOf f.type) : Sem (Nat × Nat))).run P w = .ok ps w
  | [], ps, h, w => by simp [placesT] at h; subst h; simp
  | f :: r, ps, h, w => by
    simp only [placesT] at h
    cases hi : P.info? f.type with
    | none => simp [hi] at h
    | some i =>
      cases hr : placesT P r with
      | none => simp [hi, hr] at h
      | some qs =>
        simp [hi, hr] at h; subst h
        have ih := run_mapM_places hr w
        simp [List.mapM_cons, Go.sizeOf, typeInfo, hi] at ih ⊢
        simp [ih]
theorem foldl_splice (vs : List Value) : ∀ (off : Nat) (cells : Array Value), off + vs.length ≤ cells.size →
    (vs.zipIdx.foldl (fun cs (c, j) => cs.setIfInBounds (off + j) c) cells) = setMany cells off vs := by
  have gen : ∀ (vs : List Value) (k off : Nat) (cells : Array Value), ((vs.zipIdx k).foldl (fun cs (c, j) => cs.setIfInBounds (off + j) c) cells) = setMany cells (off + k) vs := by
    intro vs
    induction vs with
    | nil => intros; rfl
    | cons v r ih => intro k off cells; simp only [List.zipIdx_cons, List.foldl_cons, setMany, ih]; rw [Nat.add_assoc]
  intro off cells _
  have := gen vs 0 off cells
  simpa using this
theorem fill_rep {place : Nat → Option (Nat × Nat)} : ∀ {ps : List (Nat × Value)} {ds : List (Nat × D)} {cells : Array Value} {cs out : List D}, RepP ρ n im ps ds → RepL ρ n im cells.toList cs → fillD place cs ds = some out →
    ∃ cells', Instr.fill place cells ps = some cells' ∧ RepL ρ n im cells'.toList out
  | _, _, cells, cs, out, .nil, hc, h => by simp [fillD] at h; subst h; exact ⟨cells, rfl, hc⟩
  | _, _, cells, cs, out, .cons i v d vs ds hv hr, hc, h => by
    simp only [fillD] at h
    cases hp : place i with
    | none => simp [hp] at h
    | some q =>
      obtain ⟨off, sz⟩ := q
      simp only [hp, Option.bind_some] at h
      split at h
      · rename_i hcond
        obtain ⟨h1, h2, h3⟩ := hcond
        have hvc := hv.cells (fun l e => by subst e; simp [noTup] at h3)
        have hvl : v.cells.size = sz := by have := hvc.length; simp at this; omega
        have hcl : cells.size = cs.length := by have := hc.length; simpa using this
        have hnew : RepL ρ n im (setMany cells off v.cells.toList).toList (spliceL cs off d.cells) := by
          rw [setMany_toList _ _ _ (by simp; omega)]
          unfold spliceL
          have := hvc.length
          rw [← this]
          exact ((hc.take off).append hvc).append (hc.drop _)
        obtain ⟨cells', g1, g2⟩ := fill_rep hr hnew h
        refine ⟨cells', ?_, g2⟩
        unfold Instr.fill
        simp only [hp]
        rw [if_neg (by simp; omega)]
        have := foldl_splice v.cells.toList off cells (by simp; omega)
        have e2 : (v.cells.zipIdx.foldl (fun cs (c, j) => cs.setIfInBounds (off + j) c) cells) = setMany cells off v.cells.toList := by
          rw [← this, ← Array.foldl_toList, Array.toList_zipIdx]
        rw [← g1, ← e2]
      · cases h
theorem build_run {t : TypeId} {ps : List (Nat × Value)} {ds : List (Nat × D)} {d : D} (hp : RepP ρ n im ps ds) (h : buildD P t ds = some d) : ∃ v, (Instr.build t ⟨ps⟩).run P w = .ok v w ∧ Rep ρ n im v d := by
  unfold buildD at h
  cases hz : zeroT P t with
  | none => simp [hz] at h
  | some z =>
    simp only [hz, Option.bind_some] at h
    obtain ⟨zv, hzr, hzo, hnt⟩ := run_zero hz w
    have hzc := (ofV_rep (ρ := ρ) (n := n) (im := im) hzo).cells hnt
    split at h
    · rename_i fs hu
      cases hpl : placesT P fs.toList with
      | none => simp [hpl] at h
      | some pl =>
        simp only [hpl, Option.bind_some] at h
        cases hf : fillD (fun i => pl[i]?) z.cells ds with
        | none => simp [hf] at h
        | some out =>
          simp [hf] at h; subst h
          obtain ⟨cells', g1, g2⟩ := fill_rep hp hzc hf
          refine ⟨.agg cells', ?_, by obtain ⟨l⟩ := cells'; exact .agg l out g2⟩
          have hm := run_mapM_places hpl w
          have hm' : (fs.mapM fun (f : Field) => (do pure (f.offset, ← Go.sizeOf f.type) : Sem (Nat × Nat))).run P w = .ok pl.toArray w := by
            rw [Array.mapM_eq_mapM_toList]
            simp only [Sem.run_map, hm, Result.andThen_ok]
          have g1' : Instr.fill (fun i => pl.toArray[i]?) zv.cells ps = some cells' := by rw [← g1]; congr 1; funext i; simp
          simp only [Instr.build, Sem.run_bind, hzr, Result.andThen_ok, run_underlying hu, hm', g1', Sem.run_pure]
    · rename_i m el hu
      cases hs : sizeT P el with
      | none => simp [hs] at h
      | some sz =>
        simp only [hs, Option.bind_some] at h
        cases hf : fillD (fun i => some (i * sz, sz)) z.cells ds with
        | none => simp [hf] at h
        | some out =>
          simp [hf] at h; subst h
          obtain ⟨cells', g1, g2⟩ := fill_rep hp hzc hf
          refine ⟨.agg cells', ?_, by obtain ⟨l⟩ := cells'; exact .agg l out g2⟩
          simp only [Instr.build, Sem.run_bind, hzr, Result.andThen_ok, run_underlying hu, run_size hs, g1, Sem.run_pure]
    · cases h

/-! ### rows of zeros -/
theorem range_mod {zs : Array Value} (h : zs.size ≠ 0) (k : Nat) : ((Array.range (k * zs.size)).map (zs[· % zs.size]!)).toList = (List.replicate k zs.toList).flatten := by
  induction k with
  | zero => simp
  | succ k ih =>
    simp only [Array.toList_map, Array.toList_range] at ih ⊢
    rw [List.replicate_succ', List.flatten_append, ← ih, Nat.succ_mul, List.range_add, List.map_append]
    congr 1
    simp only [List.map_map, List.flatten_cons, List.flatten_nil, List.append_nil]
    apply List.ext_getElem?
    intro j
    by_cases hj : j < zs.size
    · have : (k * zs.size + j) % zs.size = j := by rw [Nat.mul_comm, Nat.mul_add_mod]; exact Nat.mod_eq_of_lt hj
      simp [hj, this]
    · simp [hj, List.getElem?_eq_none]
theorem rep_zeros {z : D} {zs : Array Value} (hz : RepL ρ n im zs.toList z.cells) (k : Nat) : RepL ρ n im (List.replicate k zs.toList).flatten (flatC (List.replicate k z)) := by
  induction k with
  | zero => exact .nil
  | succ k ih => simp only [List.replicate_succ, List.flatten_cons, flatC, List.flatMap_cons]; exact hz.append ih
theorem fillE_rep {z : Nat} : ∀ {ps : List (Nat × Value)} {ds : List (Nat × D)} {cells : Array Value} {xs out : List D}, RepP ρ n im ps ds → RepL ρ n im cells.toList (flatC xs) → (∀ x, x ∈ xs → x.cells.length = z) → fillE z xs ds = some out →
    ∃ cells', Instr.fill (fun i => some (i * z, z)) cells ps = some cells' ∧ RepL ρ n im cells'.toList (flatC out) ∧ (∀ x, x ∈ out → x.cells.length = z) ∧ out.length = xs.length ∧ cells'.size = cells.size
  | _, _, cells, xs, out, .nil, hc, hs, h => by simp [fillE] at h; subst h; exact ⟨cells, rfl, hc, hs, rfl, rfl⟩
  | _, _, cells, xs, out, .cons i v d vs ds hv hr, hc, hs, h => by
    simp only [fillE] at h
    split at h
    · rename_i hcond
      obtain ⟨h1, h2, h3⟩ := hcond
      have hvc := hv.cells (fun l e => by subst e; simp [noTup] at h3)
      have hvl : v.cells.size = z := by have := hvc.length; simp at this; omega
      have hcl : cells.size = xs.length * z := by have := hc.length; rw [flatC_length hs] at this; simpa using this
      have hm : (i + 1) * z ≤ xs.length * z := Nat.mul_le_mul_right _ h2
      rw [Nat.add_mul, Nat.one_mul] at hm
      have hnew : RepL ρ n im (setMany cells (i * z) v.cells.toList).toList (flatC (xs.set i d)) := by
        rw [setMany_toList _ _ _ (by simp; omega), flatC_set hs h2, Nat.add_mul, Nat.one_mul]
        have : v.cells.toList.length = z := by simpa using hvl
        rw [this]
        exact ((hc.take _).append hvc).append (hc.drop _)
      have hs' : ∀ x, x ∈ xs.set i d → x.cells.length = z := fun x hx => by
        rcases List.mem_or_eq_of_mem_set hx with hx | hx
        · exact hs x hx
        · subst hx; exact h1
      obtain ⟨cells', g1, g2, g3, g4, g5⟩ := fillE_rep hr hnew hs' h
      refine ⟨cells', ?_, g2, g3, by simpa using g4, by rw [g5, setMany_size]⟩
      unfold Instr.fill
      simp only
      rw [if_neg (by simp; omega)]
      have := foldl_splice v.cells.toList (i * z) cells (by simp; omega)
      have e2 : (v.cells.zipIdx.foldl (fun cs (c, j) => cs.setIfInBounds (i * z + j) c) cells) = setMany cells (i * z) v.cells.toList := by
        rw [← this, ← Array.foldl_toList, Array.toList_zipIdx]
      rw [← g1, ← e2]
    · cases h
theorem buildSlice_run {t : TypeId} {len : Nat} {ps : List (Nat × Value)} {ds : List (Nat × D)} {d : D} {H' : Heap} (hR : Rel ρ im H w) (hp : RepP ρ H.length im ps ds) (h : buildSliceD P t len ds H = some (d, H')) :
    ∃ v ρ' w', (Instr.buildSlice t len ⟨ps⟩).run P w = .ok v w' ∧ Mv ρ im H w ρ' im H' w' ∧ Rep ρ' H'.length im v d := by
  unfold buildSliceD at h
  cases he : elemT P t with
  | none => simp [he] at h
  | some e =>
  cases hs : sizeT P e with
  | none => simp [he, hs] at h
  | some z =>
  cases hz : zeroT P e with
  | none => simp [he, hs, hz] at h
  | some zd =>
  simp only [he, hs, hz, Option.bind_some] at h
  split at h
  · rename_i hc
    obtain ⟨hzl, hmost⟩ := hc
    have hu := elemT_spec he
    obtain ⟨zv, hzr, hzo, hnt⟩ := run_zero hz w
    have hzc := (ofV_rep (ρ := ρ) (n := H.length) (im := im) hzo).cells hnt
    have hzs : zv.cells.size = z := by have := hzc.length; simp at this; omega
    have hzp : z ≠ 0 := by obtain ⟨_, _, _, h⟩ := info_of_size hs; exact h
    split at h
    · rename_i h0
      subst h0
      split at h
      · rename_i hem
        simp at h; obtain ⟨rfl, rfl⟩ := h
        have : ds = [] := by simpa using hem
        subst this
        cases hp
        refine ⟨.slice (some ⟨w.heap.size, 0, none⟩) 0 0, ρ, w.alloc (.cells #[] e), ?_, ⟨hR.world fun b hb => heap_alloc_lt hb, ImLe.refl _, Tr.world (fun b hb => heap_alloc_lt hb) (by simp) rfl rfl rfl, fun _ _ _ h => .inl h⟩, .sl0 _ _ _ (fun _ => rfl)⟩
        simp [Instr.buildSlice, run_underlying hu, run_size hs, Instr.fill, newRow, Array.range_zero']
      · cases h
    · rename_i h0
      cases hf : fillE z (List.replicate len zd) ds with
      | none => simp [hf] at h
      | some out =>
        simp [hf] at h; obtain ⟨rfl, rfl⟩ := h
        have hz0 := rep_zeros hzc len
        have hrow := range_mod (zs := zv.cells) (by omega) len
        rw [← hrow] at hz0
        obtain ⟨cells', g1, g2, g3, g4, g5⟩ := fillE_rep hp hz0 (fun x hx => by rw [List.eq_of_mem_replicate hx]; exact hzl) hf
        have hol : out.length = len := by rw [g4]; simp
        have hcl : cells'.size = len * z := by have := g2.length; rw [flatC_length g3, hol] at this; simpa using this
        obtain ⟨ρ', m1, e1⟩ := hR.allocRow (sz := z) (cap := len) (xs := out) (vs := cells'.toList) (rest := #[]) (t := e) g2 g3 (by omega) (by simp [hol])
        refine ⟨.slice (some ⟨w.heap.size, 0, none⟩) len len, ρ', _, ?_, m1, ?_⟩
        · have hn : ¬ (len * z > 2 ^ 24) := by omega
          have hn0 : ¬ (len * z = 0) := Nat.mul_ne_zero h0 hzp
          simp only [Instr.buildSlice, Sem.run_bind, run_underlying hu, Result.andThen_ok, run_size hs, Sem.run_ite, if_neg hn, Sem.run_pure, if_neg hn0, hzr]
          have : len * z = len * zv.cells.size := by rw [hzs]
          rw [this]
          simp only [g1, newRow, Sem.run_bind, run_newObj_alloc, Result.andThen_ok, Sem.run_pure]
          simp
        · exact vec_rep (by simp) e1 (Nat.le_refl _)
  · cases h
end
end Vm
