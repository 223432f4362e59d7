/- The other operations, and all of them together. -/
import Derived.Test.YtcppjlmicdfceaaZzW4
set_option linter.unusedVariables false
set_option linter.unusedSimpArgs false
namespace Vm
open Go Go.RowKit

section
variable {P : Program} {ρ : Rho} {im : Im} {H : Heap} {w w' : World} {n N : Nat} {a : Act} {e : Env}

theorem makeSlice_run {t : TypeId} {l c d : D} {vl vc : Value} {H' : Heap} (hR : Rel ρ im H w) (hl : Rep ρ H.length im vl l) (hc : Rep ρ H.length im vc c) (h : makeSliceD P t l c H = some (d, H')) :
    ∃ v ρ' w', (Instr.makeSlice t vl vc).run P w = .ok v w' ∧ Mv ρ im H w ρ' im H' w' ∧ Rep ρ' H'.length im v d := by
  unfold makeSliceD at h
  split at h
  · rename_i kl x kc y
    cases hl; cases hc
    cases he : elemT P t with
    | none => simp [he] at h
    | some e =>
    cases hs : sizeT P e with
    | none => simp [he, hs] at h
    | some z =>
    cases hb : bytesT P e with
    | none => simp [he, hs, hb] at h
    | some by' =>
    cases hz : zeroT P e with
    | none => simp [he, hs, hb, hz] at h
    | some zd =>
    simp only [he, hs, hb, hz, Option.bind_some] at h
    split at h
    · rename_i hcond
      obtain ⟨h0, h1, h2, h3, hzl⟩ := hcond
      have hu := elemT_spec he
      obtain ⟨i, zv, hi, hiz, hzs, hzo⟩ := zero_size hz hzl
      have hisz : i.size = z := by obtain ⟨i', h1, h2, _⟩ := info_of_size hs; rw [hi] at h1; cases h1; exact h2
      have hib : i.bytes = by' := by obtain ⟨i', h1, h2⟩ := bytesT_spec hb; rw [hi] at h1; cases h1; exact h2
      have hnt : ∀ l, zd ≠ .tup l := by obtain ⟨_, _, _, q⟩ := run_zero hz w; exact q
      have hzc := (ofV_rep (ρ := ρ) (n := H.length) (im := im) hzo).cells hnt
      have hzp : z ≠ 0 := by obtain ⟨_, _, _, h⟩ := info_of_size hs; exact h
      unfold mostBytes at h2
      have hby : (i.bytes : Int) * y ≤ 281474976710656 := by
        rw [hib]
        have e1 : (by' : Int) * y = ((y.toNat * by' : Nat) : Int) := by
          rw [Int.natCast_mul, Int.toNat_of_nonneg (by omega), Int.mul_comm]
        rw [e1]; omega
      have hrun := run_make (P := P) w t e i zv hu hi hiz kl kc x y h0 h1 hby (by omega)
      split at h
      · rename_i hy0
        simp at h; obtain ⟨rfl, rfl⟩ := h
        have : x = 0 := by omega
        subst hy0; subst this
        refine ⟨_, ρ, _, hrun, ⟨hR.world fun b hb => heap_alloc_lt hb, ImLe.refl _, Tr.world (fun b hb => heap_alloc_lt hb) (by simp) rfl rfl rfl, fun _ _ _ h => .inl h⟩, .sl0 _ _ _ (fun _ => rfl)⟩
      · rename_i hy0
        simp at h; obtain ⟨rfl, rfl⟩ := h
        have hlt : x.toNat ≤ y.toNat := by omega
        have hz0 := rep_zeros hzc x.toNat
        have hrow := range_mod (zs := zv.cells) (by omega) x.toNat
        have hrow2 := range_mod (zs := zv.cells) (by omega) y.toNat
        have htake : (madeCells zv.cells (y.toNat * i.size)).toList.take ((List.replicate x.toNat zd).length * z) = (List.replicate x.toNat zv.cells.toList).flatten := by
          have e1 : (madeCells zv.cells (y.toNat * i.size)).toList = (List.replicate y.toNat zv.cells.toList).flatten := by
            rw [← hrow2, hisz, ← hzs]; rfl
          rw [e1, show y.toNat = x.toNat + (y.toNat - x.toNat) by omega, ← List.replicate_append_replicate, List.flatten_append, List.length_replicate]
          have hfl : (List.replicate x.toNat zv.cells.toList).flatten.length = x.toNat * z := by
            rw [List.length_flatten]; simp [hzs]
          rw [List.take_append_of_le_length (by omega), List.take_of_length_le (by omega)]
        obtain ⟨r1, r2⟩ := hR.alloc (sz := z) (cap := y.toNat) (xs := List.replicate x.toNat zd) (c := madeCells zv.cells (y.toNat * i.size)) (t := e) (fz := (0, 0)) (by rw [size_madeCells, hisz])
          (fun q hq => by rw [List.eq_of_mem_replicate hq]; exact hzl) (by simpa using hlt) (by rw [htake]; exact hz0) (.inr (Nat.le_refl _))
        exact ⟨_, _, _, hrun, ⟨r1, ImLe.refl _, r2, fun _ _ _ h => .inl h⟩, vec_rep (by simp) newR_eq hlt⟩
    · cases h
  · cases h

theorem len_run {t ty : TypeId} {x : D} {vx : Value} {m : Nat} (hR : Rel ρ im H w) (hx : Rep ρ H.length im vx x) (h : lenD P t H x = some m) : (Builtin.len_ #[t] ty #[vx]).run P w = .ok (.int .i64 m) w := by
  unfold lenD at h
  split at h
  · rename_i s hu
    simp at h; subst h
    cases hx with
    | str bs =>
      have : bs.data.toList.length = bs.size := by rw [Array.length_toList]; rfl
      simp [Builtin.len_, run_underlying hu, goInt]
  · rename_i k el hu
    simp at h; subst h
    simp [Builtin.len_, run_underlying hu, goInt]
  · rename_i el f xs hu
    simp at h; subst h
    obtain ⟨a0, cap, rfl, _, _⟩ := hx.sl_inv
    simp [Builtin.len_, run_underlying hu, goInt]
  · rename_i el r o k hu
    simp at h; subst h
    cases hx
    simp [Builtin.len_, run_underlying hu, goInt]
  · rename_i k v hu
    simp at h; subst h
    cases hx
    simp [Builtin.len_, run_underlying hu, goInt]
  · rename_i k v r hu
    cases hg : hget H r with
    | arr xs => simp [hg] at h
    | fro xs => simp [hg] at h
    | dead => simp [hg] at h
    | loop l => simp [hg] at h
    | map es =>
      simp [hg] at h; subst h
      cases hx with
      | map _ hr =>
        have hob := hR.obj r hr
        rw [hg] at hob
        obtain ⟨ms, cl, h1, h2⟩ := hob
        have hl : ms.size = es.length := by
          have : ∀ {ms : List MapEntry} {es : List (D × D)}, RepM ρ H.length im ms es → ms.length = es.length := by
            intro ms es h
            induction h with
            | nil => rfl
            | cons _ _ _ _ _ _ _ _ ih => simp [ih]
          simpa using this h2
        simp [Builtin.len_, run_underlying hu, goInt, getObj, Sem.run, h1, hl]
  · cases h
theorem fold1_run {f : D → D → Option D} {g : Value → Value → Sem Value} (hfg : ∀ (x y d : D) (vx vy : Value), f x y = some d → Rep ρ n im vx x → Rep ρ n im vy y → ∃ v, (g vx vy).run P w = .ok v w ∧ Rep ρ n im v d) :
    ∀ {l : List D} {vs : List Value} {x d : D} {v0 : Value}, Rep ρ n im v0 x → RepA ρ n im vs l → l.foldlM f x = some d → ∃ v, (vs.foldlM g v0).run P w = .ok v w ∧ Rep ρ n im v d
  | [], vs, x, d, v0, h0, hl, h => by cases hl; simp at h; subst h; exact ⟨v0, by simp, h0⟩
  | y :: l, vs, x, d, v0, h0, hl, h => by
    cases hl with
    | cons v _ vs _ hv hr =>
      simp only [List.foldlM_cons] at h
      cases hf : f x y with
      | none => simp [hf] at h
      | some z =>
        simp [hf] at h
        obtain ⟨u, h1, h2⟩ := hfg x y z v0 v hf h0 hv
        obtain ⟨v', h3, h4⟩ := fold1_run hfg h2 hr h
        exact ⟨v', by simp [List.foldlM_cons, h1, h3], h4⟩
theorem min_run {ts : Array TypeId} {ty : TypeId} {l : List D} {vs : List Value} {d : D} (hl : RepA ρ n im vs l) (h : fold1 minD l = some d) : ∃ v, (Builtin.min_ ts ty ⟨vs⟩).run P w = .ok v w ∧ Rep ρ n im v d := by
  cases hl with
  | nil => simp [fold1] at h
  | cons v x vs l hv hr =>
    simp only [fold1] at h
    refine fold1_run (f := minD) (g := Builtin.min2) (fun x y d vx vy h hx hy => ?_) hv hr h
    unfold minD at h
    split at h
    · split at h
      · rename_i k a k' b hk
        simp at h; subst h; cases hx; cases hy
        exact ⟨_, by simp [Builtin.min2], .int _ _⟩
      · cases h
    · cases h
theorem max_run {ts : Array TypeId} {ty : TypeId} {l : List D} {vs : List Value} {d : D} (hl : RepA ρ n im vs l) (h : fold1 maxD l = some d) : ∃ v, (Builtin.max_ ts ty ⟨vs⟩).run P w = .ok v w ∧ Rep ρ n im v d := by
  cases hl with
  | nil => simp [fold1] at h
  | cons v x vs l hv hr =>
    simp only [fold1] at h
    refine fold1_run (f := maxD) (g := Builtin.max2) (fun x y d vx vy h hx hy => ?_) hv hr h
    unfold maxD at h
    split at h
    · split at h
      · rename_i k a k' b hk
        simp at h; subst h; cases hx; cases hy
        exact ⟨_, by simp [Builtin.max2], .int _ _⟩
      · cases h
    · cases h

theorem resolve_run {ρe : Operand → Value} {c : Call} {ty : TypeId} {f : Operand} (hc : c.callee = .value f) {g : FuncId} {cs : List Value} (hf : ρe f = .func (.func g) ⟨[]⟩ ⟨cs⟩) :
    (resolve ρe c ty).run P w = .ok { target := .fn (.func g) ⟨cs⟩, args := c.args.map ρe } w := by
  unfold resolve
  rw [hc]
  simp [hf, Deferred.ofValue]
end
end Vm
