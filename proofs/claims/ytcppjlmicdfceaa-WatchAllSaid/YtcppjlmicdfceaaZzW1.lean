/- Plain data out of what stands in memory: nothing turns for the model. -/
import Derived.Test.YtcppjlmicdfceaaZzV9
set_option linter.unusedVariables false
set_option linter.unusedSimpArgs false
namespace Vm
open Go Go.RowKit

theorem stripL_cons {d : D} {r l : List D} (h : stripL (d :: r) = some l) : ∃ d' r', strip d = some d' ∧ stripL r = some r' ∧ l = d' :: r' := by
  simp only [stripL] at h
  cases h0 : strip d with
  | none => simp [h0] at h
  | some d' =>
    cases h1 : stripL r with
    | none => simp [h0, h1] at h
    | some r' => simp [h0, h1] at h; exact ⟨d', r', rfl, rfl, h.symm⟩
theorem stripL_append {a b a' b' : List D} (h : stripL a = some a') (k : stripL b = some b') : stripL (a ++ b) = some (a' ++ b') := by
  induction a generalizing a' with
  | nil => simp [stripL] at h; subst h; simpa using k
  | cons d r ih =>
    obtain ⟨d', r', h0, h1, rfl⟩ := stripL_cons h
    simp [stripL, h0, ih h1]
theorem strip_cells {d d' : D} (h : strip d = some d') : stripL d.cells = some d'.cells := by
  cases d <;> simp only [strip] at h <;> try (cases h; done)
  case agg cs =>
    cases hc : stripL cs with
    | none => simp [hc] at h
    | some l => simp [hc] at h; subst h; simpa [D.cells] using hc
  case sl f xs =>
    cases hc : stripL xs with
    | none => simp [hc] at h
    | some l => simp [hc] at h; subst h; simp [D.cells, stripL, strip, hc]
  case tup xs =>
    cases hc : stripL xs with
    | none => simp [hc] at h
    | some l => simp [hc] at h; subst h; simp [D.cells, stripL, strip, hc]
  all_goals (simp at h; subst h; simp [D.cells, stripL, strip])
theorem stripL_length {a b : List D} (h : stripL a = some b) : a.length = b.length := by
  induction a generalizing b with
  | nil => simp [stripL] at h; subst h; rfl
  | cons d r ih => obtain ⟨d', r', h0, h1, rfl⟩ := stripL_cons h; simp [ih h1]
theorem strip_cells_len {d d' : D} (h : strip d = some d') : d'.cells.length = d.cells.length := (stripL_length (strip_cells h)).symm
theorem stripL_flat {a b : List D} (h : stripL a = some b) : stripL (flatC a) = some (flatC b) := by
  induction a generalizing b with
  | nil => simp [stripL] at h; subst h; rfl
  | cons d r ih =>
    obtain ⟨d', r', h0, h1, rfl⟩ := stripL_cons h
    simpa [flatC] using stripL_append (strip_cells h0) (ih h1)
theorem stripL_sz {a b : List D} {sz : Nat} (h : stripL a = some b) (hs : ∀ x, x ∈ a → x.cells.length = sz) : ∀ x, x ∈ b → x.cells.length = sz := by
  induction a generalizing b with
  | nil => simp [stripL] at h; subst h; simp
  | cons d r ih =>
    obtain ⟨d', r', h0, h1, rfl⟩ := stripL_cons h
    intro x hx
    rcases List.mem_cons.1 hx with rfl | hx
    · rw [strip_cells_len h0]; exact hs d (by simp)
    · exact ih h1 (fun x hx => hs x (by simp [hx])) x hx
section
variable {ρ : Rho} {n : Nat} {im : Im}
mutual
theorem Rep.strip : ∀ {v : Value} {d d' : D}, Rep ρ n im v d → Vm.strip d = some d' → Rep ρ n im v d'
  | _, _, _, .bool b, h => by simp [Vm.strip] at h; subst h; exact .bool b
  | _, _, _, .int k m, h => by simp [Vm.strip] at h; subst h; exact .int k m
  | _, _, _, .str s, h => by simp [Vm.strip] at h; subst h; exact .str s
  | _, _, _, .nilp, h => by simp [Vm.strip] at h; subst h; exact .nilp
  | _, _, _, .ptr r i j hr, h => by simp [Vm.strip] at h
  | _, _, _, .ept b o x j vs hc hl, h => by simp [Vm.strip] at h
  | _, _, _, .sl0 a cap f hf, h => by simp [Vm.strip, stripL] at h; subst h; exact .sl0 a cap false (by simp)
  | _, _, _, .sl b o sz cap f xs vs hs hc hl hf hcap, h => by
    simp only [Vm.strip] at h
    cases hx : stripL xs with
    | none => simp [hx] at h
    | some l =>
      simp [hx] at h; subst h
      have hlen := stripL_length hx
      rw [hlen]
      exact .sl b o sz cap false l vs (stripL_sz hx hs) hc (RepL.strip hl (stripL_flat hx)) (by simp) (by omega)
  | _, _, _, .vec r o m hr hm, h => by simp [Vm.strip] at h
  | _, _, _, .map r hr, h => by simp [Vm.strip] at h
  | _, _, _, .nilm, h => by simp [Vm.strip] at h; subst h; exact .nilm
  | _, _, _, .fn f vs cs hl, h => by simp [Vm.strip] at h
  | _, _, _, .niln, h => by simp [Vm.strip] at h; subst h; exact .niln
  | _, _, _, .iface t v d hv, h => by simp [Vm.strip] at h
  | _, _, _, .nili, h => by simp [Vm.strip] at h; subst h; exact .nili
  | _, _, _, .agg vs cs hl, h => by
    simp only [Vm.strip] at h
    cases hx : stripL cs with
    | none => simp [hx] at h
    | some l => simp [hx] at h; subst h; exact .agg vs l (RepL.strip hl hx)
  | _, _, _, .tup vs cs hl, h => by
    simp only [Vm.strip] at h
    cases hx : stripL cs with
    | none => simp [hx] at h
    | some l => simp [hx] at h; subst h; exact .tup vs l (RepA.strip hl hx)
  | _, _, _, .yld r hr, h => by simp [Vm.strip] at h
theorem RepL.strip : ∀ {vs : List Value} {ds ds' : List D}, RepL ρ n im vs ds → stripL ds = some ds' → RepL ρ n im vs ds'
  | _, _, _, .nil, h => by simp [stripL] at h; subst h; exact .nil
  | _, _, _, .cons v d vs ds h1 hv hr, h => by
    obtain ⟨d', r', h0, h2, rfl⟩ := stripL_cons h
    exact .cons v d' vs r' h1 (Rep.strip hv h0) (RepL.strip hr h2)
theorem RepA.strip : ∀ {vs : List Value} {ds ds' : List D}, RepA ρ n im vs ds → stripL ds = some ds' → RepA ρ n im vs ds'
  | _, _, _, .nil, h => by simp [stripL] at h; subst h; exact .nil
  | _, _, _, .cons v d vs ds hv hr, h => by
    obtain ⟨d', r', h0, h2, rfl⟩ := stripL_cons h
    exact .cons v d' vs r' (Rep.strip hv h0) (RepA.strip hr h2)
end

/-! ### elements as values -/
abbrev cellsV (us : List Value) : List Value := us.flatMap fun v => v.cells.toList
theorem RepL.split {a b : List D} : ∀ {vs : List Value}, RepL ρ n im vs (a ++ b) → ∃ v1 v2, vs = v1 ++ v2 ∧ RepL ρ n im v1 a ∧ RepL ρ n im v2 b := by
  induction a with
  | nil => intro vs h; exact ⟨[], vs, rfl, .nil, h⟩
  | cons d r ih =>
    intro vs h
    cases h with
    | cons v _ vs' _ h1 hv hr =>
      obtain ⟨v1, v2, rfl, p, q⟩ := ih hr
      exact ⟨v :: v1, v2, rfl, .cons _ _ _ _ h1 hv p, q⟩
theorem Rep.notTup {v : Value} {d : D} (h : Rep ρ n im v d) (h1 : v.oneCell' = true) : ∀ l, d ≠ .tup l := by
  rintro l rfl; cases h; simp [Value.oneCell'] at h1
theorem elem_value {d : D} {vs : List Value} (h : RepL ρ n im vs d.cells) : ∃ u, Rep ρ n im u d ∧ u.cells.toList = vs ∧ ∀ l, d ≠ .tup l := by
  by_cases hd : ∃ cs, d = .agg cs
  · obtain ⟨cs, rfl⟩ := hd
    exact ⟨.agg ⟨vs⟩, .agg vs cs h, by simp [Value.cells], fun l e => by cases e⟩
  · have e : d.cells = [d] := by cases d <;> first | rfl | exact (hd ⟨_, rfl⟩).elim
    rw [e] at h
    cases h with
    | cons v _ _ _ h1 hv hr =>
      cases hr
      refine ⟨v, hv, ?_, hv.notTup h1⟩
      cases v <;> simp [Value.oneCell'] at h1 <;> rfl
theorem flat_values {xs : List D} : ∀ {vs : List Value}, RepL ρ n im vs (flatC xs) → ∃ us, RepA ρ n im us xs ∧ cellsV us = vs ∧ ∀ x, x ∈ xs → ∀ l, x ≠ .tup l := by
  induction xs with
  | nil => intro vs h; cases h; exact ⟨[], .nil, rfl, by simp⟩
  | cons x xs ih =>
    intro vs h
    obtain ⟨v1, v2, rfl, p, q⟩ := RepL.split (a := x.cells) (b := flatC xs) (by simpa [flatC] using h)
    obtain ⟨u, hu, hc, hn⟩ := elem_value p
    obtain ⟨us, hus, hcs, hns⟩ := ih q
    refine ⟨u :: us, .cons _ _ _ _ hu hus, by simp [hc, ← hcs], ?_⟩
    intro y hy
    rcases List.mem_cons.1 hy with rfl | hy
    · exact hn
    · exact hns y hy
theorem values_flat {us : List Value} {xs : List D} (h : RepA ρ n im us xs) (hn : ∀ x, x ∈ xs → ∀ l, x ≠ .tup l) : RepL ρ n im (cellsV us) (flatC xs) := by
  induction xs generalizing us with
  | nil => cases h; exact .nil
  | cons x xs ih =>
    cases h with
    | cons u _ us _ hu hr => simpa [flatC] using (hu.cells (hn x (by simp))).append (ih hr (fun y hy => hn y (by simp [hy])))
theorem values_sz {us : List Value} {xs ys : List D} {sz : Nat} {ρ' : Rho} {n' : Nat} {im' : Im} (h : RepA ρ n im us xs) (k : RepA ρ' n' im' us ys) (hn : ∀ x, x ∈ xs → ∀ l, x ≠ .tup l) (hn' : ∀ x, x ∈ ys → ∀ l, x ≠ .tup l)
    (hs : ∀ x, x ∈ xs → x.cells.length = sz) : ∀ y, y ∈ ys → y.cells.length = sz := by
  induction xs generalizing us ys with
  | nil => cases h; cases k; simp
  | cons x xs ih =>
    cases h with
    | cons u _ us _ hu hr =>
      cases k with
      | cons _ y _ ys hy hk =>
        intro z hz
        rcases List.mem_cons.1 hz with rfl | hz
        · have h1 := (hu.cells (hn x (by simp))).length
          have h2 := (hy.cells (hn' z (by simp))).length
          rw [← h2, h1]; exact hs x (by simp)
        · exact ih hr hk (fun y hy => hn y (by simp [hy])) (fun y hy => hn' y (by simp [hy])) (fun y hy => hs y (by simp [hy])) z hz
end

/-! ### plain data -/
def PurOk (f : Heap → D → Option (D × Heap)) : Prop :=
  ∀ (H : Heap) (d d' : D) (H' : Heap) (ρ : Rho) (im : Im) (w : World) (v : Value), Rel ρ im H w → Rep ρ H.length im v d → f H d = some (d', H') →
    ∃ im', Mv ρ im H w ρ im' H' w ∧ Rep ρ H'.length im' v d' ∧ ((∀ l, d ≠ .tup l) → ∀ l, d' ≠ .tup l)
theorem purL_ok {f : Heap → D → Option (D × Heap)} (hf : PurOk f) : ∀ (l : List D) (l' : List D) (H H' : Heap) (ρ : Rho) (im : Im) (w : World) (vs : List Value), Rel ρ im H w → RepA ρ H.length im vs l → purL f H l = some (l', H') →
    ∃ im', Mv ρ im H w ρ im' H' w ∧ RepA ρ H'.length im' vs l' ∧ ((∀ x, x ∈ l → ∀ t, x ≠ .tup t) → ∀ x, x ∈ l' → ∀ t, x ≠ .tup t)
  | [], l', H, H', ρ, im, w, vs, hR, hl, h => by
    simp [purL] at h; obtain ⟨rfl, rfl⟩ := h
    cases hl; exact ⟨im, Mv.refl hR, .nil, fun _ => by simp⟩
  | d :: r, l', H, H', ρ, im, w, vs, hR, hl, h => by
    cases hl with
    | cons v _ vs _ hv hr =>
      simp only [purL] at h
      cases h0 : f H d with
      | none => simp [h0] at h
      | some p =>
        obtain ⟨d', H1⟩ := p
        simp only [h0, Option.bind_some] at h
        cases h1 : purL f H1 r with
        | none => simp [h1] at h
        | some q =>
          obtain ⟨r', H2⟩ := q
          simp [h1] at h
          obtain ⟨rfl, rfl⟩ := h
          obtain ⟨im1, m1, rep1, nt1⟩ := hf H d d' H1 ρ im w v hR hv h0
          obtain ⟨im2, m2, rep2, nt2⟩ := purL_ok hf r r' H1 H2 ρ im1 w vs m1.rel (m1.repA hr) h1
          refine ⟨im2, m1.trans m2, .cons _ _ _ _ (m2.rep rep1) rep2, fun hn x hx => ?_⟩
          rcases List.mem_cons.1 hx with rfl | hx
          · exact nt1 (hn d (by simp))
          · exact nt2 (fun y hy => hn y (by simp [hy])) x hx
theorem strip_notTup {d d' : D} (h : strip d = some d') (hn : ∀ l, d ≠ .tup l) : ∀ l, d' ≠ .tup l := by
  cases d <;> simp only [strip] at h <;> try (cases h; done)
  case tup l => exact absurd rfl (hn l)
  case agg cs => cases hc : stripL cs <;> simp [hc] at h; subst h; exact fun l e => by cases e
  case sl f cs => cases hc : stripL cs <;> simp [hc] at h; subst h; exact fun l e => by cases e
  all_goals (simp at h; subst h; exact fun l e => by cases e)

/-- elements of a row that is written no more, cut out -/
theorem fro_piece {ρ : Rho} {im : Im} {n o m : Nat} {xs ys : List D} {us : List Value} {sz cap b : Nat} {vs : List Value} (hs : ∀ x, x ∈ xs → x.cells.length = sz) (hlen : o + m ≤ xs.length)
    (hvs : vs.length = xs.length * sz) (hc : ∀ k, k < vs.length → im b k = vs[k]?) (hus : cellsV us = ((vs.drop (o * sz)).take (m * sz))) (hy : RepA ρ n im us ys)
    (hn : ∀ x, x ∈ ys → ∀ l, x ≠ .tup l) (hsy : ∀ y, y ∈ ys → y.cells.length = sz) (hyl : ys.length = m) (hcap : m ≤ cap) :
    Rep ρ n im (.slice (some ⟨b, o * sz, none⟩) m cap) (.sl false ys) := by
  have hm : (o + m) * sz ≤ xs.length * sz := Nat.mul_le_mul_right _ hlen
  rw [Nat.add_mul] at hm
  rw [← hyl]
  refine .sl b (o * sz) sz cap false ys (cellsV us) hsy (fun k hk => ?_) (values_flat hy hn) (by simp) (by omega)
  rw [hus] at hk ⊢
  simp at hk
  rw [List.getElem?_take_of_lt (by omega), List.getElem?_drop, hc _ (by omega)]
theorem pur_ok : ∀ k, PurOk (pur k)
  | 0 => fun H d d' H' ρ im w v hR hv h => by simp [pur] at h
  | k + 1 => fun H d d' H' ρ im w v hR hv h => by
    have ih := pur_ok k
    simp only [pur] at h
    cases hst : strip d with
    | some d1 =>
      simp [hst] at h
      obtain ⟨rfl, rfl⟩ := h
      exact ⟨im, Mv.refl hR, hv.strip hst, strip_notTup hst⟩
    | none =>
      simp only [hst] at h
      cases d <;> simp only at h <;> try (cases h; done)
      case agg cs =>
        cases hp : purL (pur k) H cs with
        | none => simp [hp] at h
        | some q =>
          obtain ⟨l, H1⟩ := q
          simp [hp] at h
          obtain ⟨rfl, rfl⟩ := h
          cases hv with
          | agg vs _ hl =>
            obtain ⟨im', m1, rep, nt⟩ := purL_ok ih _ _ _ _ ρ im w vs hR hl.toA hp
            refine ⟨im', m1, .agg vs l ?_, fun _ l e => by cases e⟩
            have hone := hl.one
            have gen : ∀ {vs : List Value} {l : List D}, (∀ v ∈ vs, v.oneCell' = true) → RepA ρ H1.length im' vs l → RepL ρ H1.length im' vs l := by
              intro vs l h1 hA
              induction vs generalizing l with
              | nil => cases hA; exact .nil
              | cons v vs ih => cases hA with | cons _ d _ ds hd hr => exact .cons _ _ _ _ (h1 v (by simp)) hd (ih (fun u hu => h1 u (by simp [hu])) hr)
            exact gen hone rep
      case tup cs =>
        cases hp : purL (pur k) H cs with
        | none => simp [hp] at h
        | some q =>
          obtain ⟨l, H1⟩ := q
          simp [hp] at h
          obtain ⟨rfl, rfl⟩ := h
          cases hv with
          | tup vs _ hl =>
            obtain ⟨im', m1, rep, nt⟩ := purL_ok ih _ _ _ _ ρ im w vs hR hl hp
            exact ⟨im', m1, .tup vs l rep, fun hn => absurd rfl (hn cs)⟩
      case vec r o m =>
        cases hv with
        | vec _ _ _ hr hm =>
          cases hx : hget H r with
          | dead => simp [hx] at h
          | loop l => simp [hx] at h
          | map es => simp [hx] at h
          | arr xs =>
            simp only [hx] at h
            split at h
            · rename_i hle
              cases hp : purL (pur k) (H.set r (.fro xs)) ((xs.drop o).take m) with
              | none => simp [hp] at h
              | some q =>
                obtain ⟨l, H1⟩ := q
                simp [hp] at h
                obtain ⟨rfl, rfl⟩ := h
                obtain ⟨vs0, hR1, hle1, htr1⟩ := hR.freeze hr hx
                have m1 : Mv ρ im H w ρ _ (H.set r (.fro xs)) w := ⟨hR1, hle1, htr1, fun b o v hv => by
                  by_cases e : b = (ρ r).b
                  · exact .inr (.inr ⟨r, hr, by rw [hx]; trivial, e.symm⟩)
                  · simp [imAdd, e] at hv; exact .inl hv⟩
                have hob := hR1.obj r (by simpa using hr)
                rw [hget_set_eq hr] at hob
                obtain ⟨vs, h1, h2, h3, h4⟩ := hob
                have hsub : RepL ρ (H.set r (.fro xs)).length (imAdd im (ρ r).b vs0) ((vs.drop (o * (ρ r).sz)).take (m * (ρ r).sz)) (flatC ((xs.drop o).take m)) := by
                  have := (h3.drop (o * (ρ r).sz)).take (m * (ρ r).sz)
                  rwa [flatC_drop h1, flatC_take (fun x hx => h1 x (List.mem_of_mem_drop hx))] at this
                obtain ⟨us, hus, hcs, hns⟩ := flat_values hsub
                obtain ⟨im', m2, rep, nt⟩ := purL_ok ih _ _ _ _ ρ _ w us hR1 hus hp
                refine ⟨im', m1.trans m2, ?_, fun _ l e => by cases e⟩
                have hsx : ∀ x, x ∈ (xs.drop o).take m → x.cells.length = (ρ r).sz := fun x hx => h1 x (List.mem_of_mem_drop (List.mem_of_mem_take hx))
                refine fro_piece (xs := xs) (us := us) (vs := vs) h1 hle (by rw [h3.length, flatC_length h1]) ?_ hcs rep (nt hns) (values_sz hus rep hns (nt hns) hsx) ?_ (by omega)
                · intro j hj
                  have := h4 j hj
                  rw [List.getElem?_eq_getElem hj] at this ⊢
                  exact m2.le.le _ _ _ this
                · rw [← rep.length, hus.length]; simp; omega
            · cases h
          | fro xs =>
            simp only [hx] at h
            split at h
            · rename_i hle
              cases hp : purL (pur k) H ((xs.drop o).take m) with
              | none => simp [hp] at h
              | some q =>
                obtain ⟨l, H1⟩ := q
                simp [hp] at h
                obtain ⟨rfl, rfl⟩ := h
                have hob := hR.obj r hr
                rw [hx] at hob
                obtain ⟨vs, h1, h2, h3, h4⟩ := hob
                have hsub : RepL ρ H.length im ((vs.drop (o * (ρ r).sz)).take (m * (ρ r).sz)) (flatC ((xs.drop o).take m)) := by
                  have := (h3.drop (o * (ρ r).sz)).take (m * (ρ r).sz)
                  rwa [flatC_drop h1, flatC_take (fun x hx => h1 x (List.mem_of_mem_drop hx))] at this
                obtain ⟨us, hus, hcs, hns⟩ := flat_values hsub
                obtain ⟨im', m2, rep, nt⟩ := purL_ok ih _ _ _ _ ρ _ w us hR hus hp
                refine ⟨im', m2, ?_, fun _ l e => by cases e⟩
                have hsx : ∀ x, x ∈ (xs.drop o).take m → x.cells.length = (ρ r).sz := fun x hx => h1 x (List.mem_of_mem_drop (List.mem_of_mem_take hx))
                refine fro_piece (xs := xs) (us := us) (vs := vs) h1 hle (by rw [h3.length, flatC_length h1]) ?_ hcs rep (nt hns) (values_sz hus rep hns (nt hns) hsx) ?_ (by omega)
                · intro j hj
                  have := h4 j hj
                  rw [List.getElem?_eq_getElem hj] at this ⊢
                  exact m2.le.le _ _ _ this
                · rw [← rep.length, hus.length]; simp; omega
            · cases h
theorem pures_ok {l l' : List D} {H H' : Heap} {ρ : Rho} {im : Im} {w : World} {vs : List Value} (hR : Rel ρ im H w) (hl : RepA ρ H.length im vs l) (h : pures H l = some (l', H')) :
    ∃ im', Mv ρ im H w ρ im' H' w ∧ RepA ρ H'.length im' vs l' ∧ ((∀ x, x ∈ l → ∀ t, x ≠ .tup t) → ∀ x, x ∈ l' → ∀ t, x ≠ .tup t) :=
  purL_ok (pur_ok deepest) l l' H H' ρ im w vs hR hl h
end Vm
