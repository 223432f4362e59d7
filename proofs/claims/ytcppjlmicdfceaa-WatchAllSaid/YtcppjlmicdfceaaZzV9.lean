/- Each operation of the interpreter is the model's: slices that are cut, made, grown. -/
import Derived.Test.YtcppjlmicdfceaaZzV8
set_option linter.unusedVariables false
set_option linter.unusedSimpArgs false
namespace Vm
open Go Go.RowKit

section
variable {P : Program} {ρ : Rho} {im : Im} {H : Heap} {w : World} {N n : Nat} {a : Act} {e : Env}

inductive RepO (ρ : Rho) (n : Nat) (im : Im) : Option Value → Option D → Prop
  | none : RepO ρ n im none none
  | some (v : Value) (d : D) (h : Rep ρ n im v d) : RepO ρ n im (some v) (some d)
theorem evalOo_rep (he : EnvR ρ n im N a e) {o : Option Operand} {d : Option D} (h : evalOo e o = some d) : RepO ρ n im (o.map a.eval) d := by
  cases o with
  | none => simp [evalOo] at h; subst h; exact .none
  | some o =>
    simp only [evalOo] at h
    cases h0 : evalO e o with
    | none => simp [h0] at h
    | some d => simp [h0] at h; subst h; exact .some _ _ (evalO_rep he h0)
theorem bound_some {x : D} {v : Value} {k dflt : Nat} (h : bound (some x) dflt = some k) (hv : Rep ρ n im v x) : ∃ kk, v = .int kk k := by
  unfold bound at h
  cases x <;> simp at h
  rename_i kk m
  cases hv
  exact ⟨kk, by rw [← h.2]; simp [Int.toNat_of_nonneg h.1]⟩
theorem run_sliceBound {kk : IntKind} {k y : Nat} {code : BoundsCode} (h : k ≤ y) : (Instr.sliceBound (.int kk k) y code).run P w = .ok k w := by
  have h2 : (k : Int) ≤ y := by omega
  simp [Instr.sliceBound, asIntOf, h2]
theorem run_sliceBounds {isSlice : Bool} {len cap l h : Nat} {lo hi : Option Value} {dl dh : Option D} (hlo : RepO ρ n im lo dl) (hhi : RepO ρ n im hi dh) (el : bound dl 0 = some l) (eh : bound dh len = some h) (hle : l ≤ h) (hc : h ≤ cap) :
    (Instr.sliceBounds isSlice len cap lo hi none).run P w = .ok (l, h, cap) w := by
  unfold Instr.sliceBounds
  cases hhi with
  | none =>
    simp [bound] at eh; subst eh
    cases hlo with
    | none => simp [bound] at el; subst el; simp
    | some v d hv => obtain ⟨kk, rfl⟩ := bound_some el hv; simp [run_sliceBound hle]
  | some v d hv =>
    obtain ⟨kk, rfl⟩ := bound_some eh hv
    cases hlo with
    | none => simp [bound] at el; subst el; simp [run_sliceBound hc]
    | some v' d' hv' => obtain ⟨kk', rfl⟩ := bound_some el hv'; simp [run_sliceBound hle, run_sliceBound hc]
theorem run_sliceBounds3 {isSlice : Bool} {len cap l h m : Nat} {lo : Option Value} {hi mx : Value} {dl : Option D} {dh dm : D} (hlo : RepO ρ n im lo dl) (hhi : Rep ρ n im hi dh) (hmx : Rep ρ n im mx dm) (el : bound dl 0 = some l) (eh : bound (some dh) len = some h)
    (em : bound (some dm) 0 = some m) (hle : l ≤ h) (hm : h ≤ m) (hc : m ≤ cap) : (Instr.sliceBounds isSlice len cap lo (some hi) (some mx)).run P w = .ok (l, h, m) w := by
  unfold Instr.sliceBounds
  obtain ⟨k1, rfl⟩ := bound_some eh hhi
  obtain ⟨k2, rfl⟩ := bound_some em hmx
  cases hlo with
  | none => simp [bound] at el; subst el; simp [run_sliceBound hc, run_sliceBound hm]
  | some v' d' hv' => obtain ⟨kk', rfl⟩ := bound_some el hv'; simp [run_sliceBound hle, run_sliceBound hc, run_sliceBound hm]

/-- a piece of a slice that never turns -/
theorem sl_piece {xs : List D} {f : Bool} {vx : Value} {z l h cap m : Nat} {f' : Bool} {a0 : Option Addr} (hx : Rep ρ n im (.slice a0 xs.length cap) (.sl f xs)) (hz : headSize z xs = true) (hle : l ≤ h) (hh : h ≤ xs.length) (hm : h ≤ m) (hmc : m ≤ cap)
    (hf : f' = true → m = h) : Rep ρ n im (.slice (if m = l then a0 else a0.map (·.add (l * z))) (h - l) (m - l)) (.sl f' ((xs.take h).drop l)) := by
  by_cases he : h = l
  · subst he
    have : (xs.take h).drop h = [] := by simp [List.drop_eq_nil_iff]
    rw [this, Nat.sub_self]
    exact .sl0 _ _ _ (fun h => by have := hf h; omega)
  · have hlt : l < h := by omega
    rw [if_neg (by omega)]
    have gen : ∀ {v : Value} {d : D}, Rep ρ n im v d → v = .slice a0 xs.length cap → d = .sl f xs → Rep ρ n im (.slice (a0.map (·.add (l * z))) (h - l) (m - l)) (.sl f' ((xs.take h).drop l)) := by
      intro v d hr hv hd
      cases hr <;> try (cases hd; done)
      · cases hd; simp at hh; omega
      · rename_i b o sz c f0 xs0 vs hs hc hl hf0 hcap
        cases hd
        cases hv
        have hzz : sz = z := by
          rcases headSize_spec hz hs with h0 | h0
          · subst h0; simp at hh; omega
          · exact h0
        subst hzz
        have hvl : vs.length = xs.length * sz := by rw [hl.length, flatC_length hs]
        have hsub : ∀ x, x ∈ (xs.take h).drop l → x.cells.length = sz := fun x hx => hs x (List.mem_of_mem_take (List.mem_of_mem_drop hx))
        have hlen : ((xs.take h).drop l).length = h - l := by simp; omega
        have hh' : h * sz ≤ xs.length * sz := Nat.mul_le_mul_right _ hh
        have hll : l * sz ≤ h * sz := Nat.mul_le_mul_right _ hle
        have := Rep.sl (ρ := ρ) (n := n) (im := im) b (o + l * sz) sz (m - l) f' ((xs.take h).drop l) ((vs.drop (l * sz)).take (h * sz - l * sz)) hsub (row_get hc (by omega))
          (by
            have := (hl.take (h * sz)).drop (l * sz)
            rw [flatC_take hs, flatC_drop (fun x hx => hs x (List.mem_of_mem_take hx))] at this
            rwa [List.drop_take] at this)
          (fun q => by rw [hlen]; have := hf q; omega) (by rw [hlen]; omega)
        rw [hlen] at this
        simpa [add_plain] using this
    exact gen hx rfl rfl
theorem Rep.sl_inv {v : Value} {f : Bool} {xs : List D} (h : Rep ρ n im v (.sl f xs)) : ∃ a0 cap, v = .slice a0 xs.length cap ∧ (f = true → cap = xs.length) ∧ xs.length ≤ cap := by
  cases h with
  | sl0 a cap f hf => exact ⟨a, cap, rfl, hf, Nat.zero_le _⟩
  | sl b o sz cap f xs vs hs hc hl hf hcap => exact ⟨_, cap, rfl, hf, hcap⟩
theorem vecSize_spec (hR : Rel ρ im H w) {r z : Nat} (hr : r < H.length) (h : vecSize H r z = true) : (ρ r).sz = z := by
  have hob := hR.obj r hr
  unfold vecSize at h
  split at h
  · rename_i x xs hg
    rw [hg] at hob; obtain ⟨_, _, _, _, _, h3, _⟩ := hob
    rw [← h3 x (by simp)]; simpa using h
  · rename_i x xs hg
    rw [hg] at hob; obtain ⟨_, h3, _⟩ := hob
    rw [← h3 x (by simp)]; simpa using h
  · cases h

theorem slice_run {t : TypeId} {x d : D} {lo hi mx : Option D} {vx : Value} {vlo vhi vmx : Option Value} (hR : Rel ρ im H w) (h : sliceD P t H x lo hi mx = some d) (hx : Rep ρ H.length im vx x)
    (hlo : RepO ρ H.length im vlo lo) (hhi : RepO ρ H.length im vhi hi) (hmx : RepO ρ H.length im vmx mx) : ∃ v, (Instr.sliceAt t vx vlo vhi vmx).run P w = .ok v w ∧ Rep ρ H.length im v d := by
  unfold sliceD at h
  split at h
  · rename_i s hu
    cases hmx
    cases hl : bound lo 0 with
    | none => simp [hl] at h
    | some l =>
      cases hh : bound hi s.length with
      | none => simp [hl, hh] at h
      | some k =>
        simp only [hl, hh, Option.bind_some] at h
        split at h
        · rename_i hc
          simp at h; subst h
          cases hx with
          | str bs =>
            have hsz : bs.data.toList.length = bs.size := by rw [Array.length_toList]; rfl
            rw [hsz] at hh hc
            refine ⟨.string (bs.extract l k), ?_, ?_⟩
            · simp [Instr.sliceAt, Instr.slice, run_underlying hu, run_sliceBounds hlo hhi hl hh hc.1 hc.2]
            · have : (bs.extract l k).data.toList = (bs.data.toList.take k).drop l := by
                rw [ByteArray.data_extract]; simp [List.extract_eq_take_drop, List.drop_take]
              rw [← this]; exact .str _
        · cases h
  · rename_i el f xs hu
    cases hmx
    cases hz : sizeT P el with
    | none => simp [hz] at h
    | some z =>
    cases hl : bound lo 0 with
    | none => simp [hz, hl] at h
    | some l =>
      cases hh : bound hi xs.length with
      | none => simp [hz, hl, hh] at h
      | some k =>
        simp only [hz, hl, hh, Option.bind_some] at h
        split at h
        · rename_i hc
          simp at h; subst h
          obtain ⟨a0, cap, rfl, hfull, hcap⟩ := hx.sl_inv
          refine ⟨_, ?_, sl_piece hx hc.2.2 hc.1 hc.2.1 (m := cap) (by omega) (Nat.le_refl _) (fun q => ?_) (vx := .slice a0 xs.length cap)⟩
          · simp [Instr.sliceAt, Instr.slice, run_underlying hu, run_sliceBounds hlo hhi hl hh hc.1 (by omega : k ≤ cap), run_size hz]
          · simp at q; have := hfull q.1; omega
        · cases h
  · rename_i el f xs m0 hu
    cases hmx with
    | some vm _ hm =>
    cases hz : sizeT P el with
    | none => simp [hz] at h
    | some z =>
    cases hl : bound lo 0 with
    | none => simp [hz, hl] at h
    | some l =>
      cases hh : bound hi xs.length with
      | none => simp [hz, hl, hh] at h
      | some k =>
        cases hmm : bound (some m0) 0 with
        | none => simp [hz, hl, hh, hmm] at h
        | some m =>
        simp only [hz, hl, hh, hmm, Option.bind_some] at h
        split at h
        · rename_i hc
          simp at h; subst h
          obtain ⟨a0, cap, rfl, hfull, hcap⟩ := hx.sl_inv
          cases hhi with
          | none => simp at hc
          | some vh dh hrh =>
          refine ⟨_, ?_, sl_piece hx hc.2.2.2.1 hc.1 (by omega) (m := m) hc.2.1 (by omega) (fun q => ?_) (vx := .slice a0 xs.length cap)⟩
          · simp [Instr.sliceAt, Instr.slice, run_underlying hu, run_sliceBounds3 hlo hrh hm hl hh hmm hc.1 hc.2.1 (by omega : m ≤ cap), run_size hz]
          · simp at q; omega
        · cases h
  · rename_i el r o m hu
    cases hmx
    cases hz : sizeT P el with
    | none => simp [hz] at h
    | some z =>
    cases hl : bound lo 0 with
    | none => simp [hz, hl] at h
    | some l =>
      cases hh : bound hi m with
      | none => simp [hz, hl, hh] at h
      | some k =>
        simp only [hz, hl, hh, Option.bind_some] at h
        split at h
        · rename_i hc
          simp at h; subst h
          cases hx with
          | vec _ _ _ hr hm =>
            have hsz := vecSize_spec hR hr hc.2.2
            refine ⟨.slice (if (ρ r).cap - o = l then some ⟨(ρ r).b, o * (ρ r).sz, none⟩ else some ((⟨(ρ r).b, o * (ρ r).sz, none⟩ : Addr).add (l * z))) (k - l) ((ρ r).cap - o - l), ?_, ?_⟩
            · simp [Instr.sliceAt, Instr.slice, run_underlying hu, run_sliceBounds hlo hhi hl hh hc.1 (by omega : k ≤ (ρ r).cap - o), run_size hz]
            · by_cases he : l = k
              · rw [if_pos he]; subst he; rw [Nat.sub_self]; exact .sl0 _ _ _ (by simp)
              · rw [if_neg he, if_neg (by omega), add_plain, ← hsz, ← Nat.add_mul, Nat.sub_sub]
                exact .vec r (o + l) (k - l) hr (by omega)
        · cases h
  · cases h
end
end Vm
