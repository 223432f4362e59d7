/- append, as the interpreter has it, in the model. -/
import Derived.Test.YtcppjlmicdfceaaZzW1
import Derived.Deep.AppendSrc
import Derived.Deep.Upon
import Derived.Laws.AppendOwn
set_option linter.unusedVariables false
set_option linter.unusedSimpArgs false
namespace Vm
open Go Go.RowKit

section
variable {P : Program} {ρ : Rho} {im : Im} {H : Heap} {w w' : World} {n : Nat}

/-- an object's block goes over to a new object -/
theorem Rel.replace (h : Rel ρ im H w) {r : Nat} (hr : r < H.length) (hl : live (hget H r)) {ob : Ob} (hb : ∀ b, b ≠ (ρ r).b → w'.heap[b]? = w.heap[b]?) (hs : w'.heap.size = w.heap.size)
    (ho : w'.os = w.os) (ht : w'.tape = w.tape) (hout : w'.output = w.output) (hob : ObOk (newR ρ H.length (ρ r)) (H.length + 1) im w' (ρ r) ob) :
    Rel (newR ρ H.length (ρ r)) im (H.set r .dead ++ [ob]) w' ∧ Tr ρ H w (newR ρ H.length (ρ r)) (H.set r .dead ++ [ob]) w' := by
  have h1 : Rel ρ im (H.set r .dead) w' := h.setOb hr hl hb trivial
  have hlen : (H.set r Ob.dead).length = H.length := by simp
  have lv : ∀ s, s < H.length → live (hget (H.set r .dead) s) → r ≠ s ∧ live (hget H s) := fun s hs hls => by
    by_cases e : r = s
    · subst e; rw [hget_set_eq hr] at hls; exact hls.elim
    · rw [hget_set_ne e] at hls; exact ⟨e, hls⟩
  constructor
  · have := h1.push (g := ρ r) (ob := ob) (fun s hs' hls => by
      rw [hlen] at hs'
      obtain ⟨e, hls'⟩ := lv s hs' hls
      exact (h.sep r s hr hs' e hl hls').symm) (fun _ => h.own r hr hl) (by rw [hlen]; exact hob)
    rwa [hlen] at this
  · refine ⟨ho, ht, hout, by omega, by simp, fun s hs' => newR_lt hs', fun b hbs hn => hb b (fun e => hn r hr hl e.symm), fun s hs' hls hlt => ?_⟩
    simp only [List.length_append, List.length_singleton, hlen] at hs'
    rcases Nat.lt_succ_iff_lt_or_eq.1 hs' with h' | h'
    · rw [hget_append_lt (by rw [hlen]; exact h')] at hls
      exact ⟨s, h', (lv s h' hls).2, by rw [newR_lt h']⟩
    · subst h'
      exact ⟨r, hr, hl, by rw [newR_eq]⟩

theorem elems_read (hR : Rel ρ im H w) {d : D} {v : Value} {xs : List D} (hv : Rep ρ H.length im v d) (h : elems H d = some xs) :
    ∃ a0 cap sz vs, v = .slice a0 xs.length cap ∧ RepL ρ H.length im vs (flatC xs) ∧ (∀ x, x ∈ xs → x.cells.length = sz) ∧ xs.length ≤ cap ∧ (xs ≠ [] → ∃ b o, a0 = some ⟨b, o, none⟩ ∧ ∀ k, k < vs.length → w.cell? ⟨b, o + k, none⟩ = vs[k]?) := by
  cases d <;> simp only [elems] at h <;> try (cases h; done)
  case sl f ys =>
    simp at h; subst h
    cases hv with
    | sl0 a cap f hf => exact ⟨a, cap, 0, [], rfl, .nil, by simp, Nat.zero_le _, fun h => absurd rfl h⟩
    | sl b o sz cap f _ vs hs hc hl hf hcap =>
      refine ⟨_, cap, sz, vs, rfl, hl, hs, hcap, fun _ => ⟨b, o, rfl, fun k hk => ?_⟩⟩
      have := hc k hk
      rw [List.getElem?_eq_getElem hk] at this ⊢
      exact hR.imc _ _ _ this
  case vec r o m =>
    cases hv with
    | vec _ _ _ hr hm =>
      have hob := hR.obj r hr
      cases hx : hget H r with
      | dead => simp [hx] at h
      | loop l => simp [hx] at h
      | map es => simp [hx] at h
      | arr ys =>
        rw [hx] at hob
        simp only [hx] at h
        split at h
        · rename_i hle
          simp at h; subst h
          obtain ⟨c, t, fz, h1, h2, h3, h4, h5, h6⟩ := hob
          have hlen : ((ys.drop o).take m).length = m := by simp; omega
          have hmm : (o + m) * (ρ r).sz ≤ ys.length * (ρ r).sz := Nat.mul_le_mul_right _ hle
          have hcc : ys.length * (ρ r).sz ≤ (ρ r).cap * (ρ r).sz := Nat.mul_le_mul_right _ h4
          rw [Nat.add_mul] at hmm
          refine ⟨_, _, (ρ r).sz, ((c.toList.take (ys.length * (ρ r).sz)).drop (o * (ρ r).sz)).take (m * (ρ r).sz), by rw [hlen], ?_, fun x hx => h3 x (List.mem_of_mem_drop (List.mem_of_mem_take hx)), by rw [hlen]; omega, fun _ => ⟨_, _, rfl, fun k hk => ?_⟩⟩
          · have := (h5.drop (o * (ρ r).sz)).take (m * (ρ r).sz)
            rwa [flatC_drop h3, flatC_take (fun x hx => h3 x (List.mem_of_mem_drop hx))] at this
          · simp at hk
            rw [List.getElem?_take_of_lt (by omega), List.getElem?_drop, List.getElem?_take_of_lt (by omega)]
            simp [World.cell?, h1]
        · cases h
      | fro ys =>
        rw [hx] at hob
        simp only [hx] at h
        split at h
        · rename_i hle
          simp at h; subst h
          obtain ⟨vs, h1, h2, h3, h4⟩ := hob
          have hlen : ((ys.drop o).take m).length = m := by simp; omega
          have hmm : (o + m) * (ρ r).sz ≤ ys.length * (ρ r).sz := Nat.mul_le_mul_right _ hle
          rw [Nat.add_mul] at hmm
          have hvl : vs.length = ys.length * (ρ r).sz := by rw [h3.length, flatC_length h1]
          refine ⟨_, _, (ρ r).sz, (vs.drop (o * (ρ r).sz)).take (m * (ρ r).sz), by rw [hlen], ?_, fun x hx => h1 x (List.mem_of_mem_drop (List.mem_of_mem_take hx)), by rw [hlen]; omega, fun _ => ⟨_, _, rfl, fun k hk => ?_⟩⟩
          · have := (h3.drop (o * (ρ r).sz)).take (m * (ρ r).sz)
            rwa [flatC_drop h1, flatC_take (fun x hx => h1 x (List.mem_of_mem_drop hx))] at this
          · simp at hk
            rw [List.getElem?_take_of_lt (by omega), List.getElem?_drop]
            have h5 := h4 (o * (ρ r).sz + k) (by omega)
            rw [List.getElem?_eq_getElem (by omega)] at h5 ⊢
            exact hR.imc _ _ _ h5
        · cases h
theorem bytes_rep (s : ByteArray) : RepL ρ n im (byteCells s) (flatC (bytesOf s.data.toList)) := by
  unfold byteCells bytesOf
  generalize s.data.toList = l
  induction l with
  | nil => exact .nil
  | cons b l ih => simp only [List.map_cons, flatC, List.flatMap_cons]; exact .cons _ _ _ _ rfl (.int _ _) ih
/-- what is appended or copied -/
theorem added_src (hR : Rel ρ im H w) {d : D} {v : Value} {ys : List D} {H1 : Heap} {z : Nat} {tx : TypeId} (hk : (∃ e', P.underlying tx = some (.slice e')) ∨ P.underlying tx = some .string) (hv : Rep ρ H.length im v d)
    (h : addedD H d = some (ys, H1)) (hz : headSize z ys = true) :
    ∃ im1 vs, Mv ρ im H w ρ im1 H1 w ∧ RepL ρ H1.length im1 vs (flatC ys) ∧ (∀ y, y ∈ ys → y.cells.length = z) ∧ Src P z tx v ys.length vs w := by
  by_cases hs : ∃ s, d = .str s
  · obtain ⟨s, rfl⟩ := hs
    simp [addedD] at h
    obtain ⟨rfl, rfl⟩ := h
    cases hv with
    | str bs =>
      have hsz : ∀ y, y ∈ bytesOf bs.data.toList → y.cells.length = 1 := by
        intro y hy; simp [bytesOf] at hy; obtain ⟨b, _, rfl⟩ := hy; rfl
      have hl : (bytesOf bs.data.toList).length = bs.size := by unfold bytesOf; rw [List.length_map, Array.length_toList]; rfl
      refine ⟨im, byteCells bs, Mv.refl hR, bytes_rep bs, ?_, ?_⟩
      · rcases headSize_spec hz hsz with h0 | h0
        · rw [h0]; simp
        · intro y hy; rw [hsz y hy, h0]
      · have key : Src P z tx (.string bs) bs.size (byteCells bs) w := by
          refine ⟨hk, fun _ => rfl, ?_, ?_, ?_, ?_⟩
          · simpa [Builtin.firstCells] using firstCells_string (P := P) bs w
          · simpa [Builtin.firstCells] using firstCells_string (P := P) bs w.drew
          · rw [byteCells_length]
            rcases headSize_spec hz hsz with h0 | h0
            · have : bs.size = 0 := by rw [← hl, h0]; rfl
              simp [this]
            · rw [← h0]; simp
          · intro u hu; unfold byteCells at hu; obtain ⟨_, _, rfl⟩ := List.mem_map.1 hu; rfl
        rw [hl]; exact key
  · have ha : addedD H d = (elems H d).bind fun xs => pures H xs := by
      cases d <;> first | rfl | exact absurd ⟨_, rfl⟩ hs
    have he : ∃ xs, elems H d = some xs ∧ pures H xs = some (ys, H1) := by
      rw [ha] at h
      cases hel : elems H d with
      | none => simp [hel] at h
      | some xs => exact ⟨xs, rfl, by simpa [hel] using h⟩
    obtain ⟨xs, he, hp⟩ := he
    obtain ⟨a0, cap, sz, vs, rfl, hl, hsz, hcap, hmem⟩ := elems_read hR hv he
    obtain ⟨us, hus, hcs, hns⟩ := flat_values hl
    obtain ⟨im1, m1, rep, nt⟩ := pures_ok hR hus hp
    have hlen : ys.length = xs.length := by rw [← rep.length, hus.length]
    have hsy := values_sz hus rep hns (nt hns) hsz
    have hl1 : RepL ρ H1.length im1 vs (flatC ys) := by rw [← hcs]; exact values_flat rep (nt hns)
    have hszz : ∀ y, y ∈ ys → y.cells.length = z := by
      rcases headSize_spec hz hsy with h0 | h0
      · rw [h0]; simp
      · intro y hy; rw [hsy y hy, h0]
    refine ⟨im1, vs, m1, hl1, hszz, ?_⟩
    have hvl : vs.length = ys.length * z := by rw [hl1.length, flatC_length hszz]
    have fin : ∀ (hk' : ∃ e', P.underlying tx = some (.slice e')), Src P z tx (.slice a0 xs.length cap) ys.length vs w := by
      rintro ⟨e', hk'⟩
      rw [← hlen]
      cases xs with
      | nil =>
        have hy0 : ys = [] := List.eq_nil_of_length_eq_zero (by simpa using hlen)
        subst hy0
        have hv0 : vs = [] := List.eq_nil_of_length_eq_zero (by simpa using hvl)
        subst hv0
        cases a0 with
        | none => exact Src.ofNil w hk' cap
        | some a => exact Src.ofSlice w hk' a 0 cap [] (by simp) (by simp) (by simp)
      | cons x xs =>
        obtain ⟨b, o, rfl, hc⟩ := hmem (by simp)
        refine Src.ofSlice w hk' _ _ cap vs hvl (fun j u hu => ?_) hl.one
        rw [add_plain, hc j (by rcases Nat.lt_or_ge j vs.length with h | h; exact h; simp [List.getElem?_eq_none h] at hu)]
        exact hu
    rcases hk with hk | hk
    · exact fin hk
    · -- a slice value under a string's type: the two readings are the same
      have base := fun (e : TypeId) => e
      refine ⟨.inr hk, fun _ => by rw [hlen]; rfl, ?_, ?_, hvl, hl.one⟩
      · cases xs with
        | nil =>
          have hy0 : ys = [] := List.eq_nil_of_length_eq_zero (by simpa using hlen)
          subst hy0
          have hv0 : vs = [] := List.eq_nil_of_length_eq_zero (by simpa using hvl)
          subst hv0
          cases a0 <;> simp [Builtin.firstCells, loadCells, loadCellsFrom]
        | cons x xs =>
          obtain ⟨b, o, rfl, hc⟩ := hmem (by simp)
          rw [hlen] at hvl ⊢
          exact run_firstCells_some w z _ _ _ _ vs hvl (fun j u hu => by
            rw [add_plain, hc j (by rcases Nat.lt_or_ge j vs.length with h | h; exact h; simp [List.getElem?_eq_none h] at hu)]; exact hu)
      · cases xs with
        | nil =>
          have hy0 : ys = [] := List.eq_nil_of_length_eq_zero (by simpa using hlen)
          subst hy0
          have hv0 : vs = [] := List.eq_nil_of_length_eq_zero (by simpa using hvl)
          subst hv0
          cases a0 <;> simp [Builtin.firstCells, loadCells, loadCellsFrom]
        | cons x xs =>
          obtain ⟨b, o, rfl, hc⟩ := hmem (by simp)
          rw [hlen] at hvl ⊢
          exact run_firstCells_some w.drew z _ _ _ _ vs hvl (fun j u hu => by
            rw [add_plain, World.cell?_drew, hc j (by rcases Nat.lt_or_ge j vs.length with h | h; exact h; simp [List.getElem?_eq_none h] at hu)]; exact hu)
end
end Vm
