/- How the relation moves: draws, new blocks, writes, blocks that are let go or written no more. -/
import Derived.Test.YtcppjlmicdfceaaZzV4
set_option linter.unusedVariables false
set_option linter.unusedSimpArgs false
namespace Vm
open Go Go.RowKit

theorem hget_append_lt {H : Heap} {ob : Ob} {r : Nat} (h : r < H.length) : hget (H ++ [ob]) r = hget H r := by
  simp [hget, List.getD, List.getElem?_append_left h]
theorem hget_append_eq {H : Heap} {ob : Ob} : hget (H ++ [ob]) H.length = ob := by
  simp [hget, List.getD]
theorem hget_set_eq {H : Heap} {ob : Ob} {r : Nat} (h : r < H.length) : hget (H.set r ob) r = ob := by
  simp [hget, List.getD, h]
theorem hget_set_ne {H : Heap} {ob : Ob} {r s : Nat} (h : r ≠ s) : hget (H.set r ob) s = hget H s := by
  simp [hget, List.getD, List.getElem?_set_ne h]
theorem hget_lt {H : Heap} {r : Nat} {ob : Ob} (h : hget H r = ob) (hd : ob ≠ .dead) : r < H.length := by
  rcases Nat.lt_or_ge r H.length with h' | h'
  · exact h'
  · simp [hget, List.getD, List.getElem?_eq_none h'] at h; exact absurd h.symm hd

theorem RepM.mono {ρ ρ' : Rho} {n n' : Nat} {im im' : Im} (he : ∀ r, r < n → ρ' r = ρ r) (hn : n ≤ n') (hi : ImLe im im') : ∀ {ms : List MapEntry} {es : List (D × D)}, RepM ρ n im ms es → RepM ρ' n' im' ms es
  | _, _, .nil => .nil
  | _, _, .cons m k v ms es hk hv hr => .cons m k v ms es (hk.mono he hn hi) (hv.mono he hn hi) (RepM.mono he hn hi hr)
theorem ObOk.mono {ρ ρ' : Rho} {n n' : Nat} {im im' : Im} {w w' : World} {g : Reg} {ob : Ob} (he : ∀ r, r < n → ρ' r = ρ r) (hn : n ≤ n') (hi : ImLe im im')
    (hw : live ob → w'.heap[g.b]? = w.heap[g.b]?) (h : ObOk ρ n im w g ob) : ObOk ρ' n' im' w' g ob := by
  cases ob with
  | arr xs =>
    obtain ⟨c, t, fz, h1, h2, h3, h4, h5, h6⟩ := h
    exact ⟨c, t, fz, (hw trivial).trans h1, h2, h3, h4, h5.mono he hn hi, h6⟩
  | fro xs =>
    obtain ⟨vs, h1, h2, h3, h4⟩ := h
    exact ⟨vs, h1, h2, h3.mono he hn hi, im_list (o := 0) hi (by simpa using h4) |> fun h k hk => by simpa using h k hk⟩
  | map es =>
    obtain ⟨ms, cl, h1, h2⟩ := h
    exact ⟨ms, cl, (hw trivial).trans h1, h2.mono he hn hi⟩
  | loop l =>
    obtain ⟨rec, h1, h2, h3, h4, h5, h6⟩ := h
    exact ⟨rec, (hw trivial).trans h1, h2, h3, h4, fun i => (h5 i).mono he hn hi, h6⟩
  | dead => trivial

theorem cell?_congr {w w' : World} {b o : Nat} (h : w'.heap[b]? = w.heap[b]?) : w'.cell? ⟨b, o, none⟩ = w.cell? ⟨b, o, none⟩ := World.cell?_of_block (w := w) h

section
variable {ρ : Rho} {im : Im} {H : Heap} {w w' : World}

/-- the same objects in a world that has turned none of its blocks -/
theorem Rel.world (h : Rel ρ im H w) (hb : ∀ b, b < w.heap.size → w'.heap[b]? = w.heap[b]?) : Rel ρ im H w' := by
  refine ⟨fun b o v hv => ?_, fun r hr => ?_, h.sep, h.own⟩
  · rw [cell?_congr (hb b (h.im_lt hv))]; exact h.imc b o v hv
  · exact (h.obj r hr).mono (fun _ _ => rfl) (Nat.le_refl _) (ImLe.refl _) (fun hl => hb _ (h.block_lt hr hl))
theorem Tr.world (hb : ∀ b, b < w.heap.size → w'.heap[b]? = w.heap[b]?) (hs : w.heap.size ≤ w'.heap.size) (ho : w'.os = w.os) (ht : w'.tape = w.tape) (hout : w'.output = w.output) : Tr ρ H w ρ H w' :=
  ⟨ho, ht, hout, hs, Nat.le_refl _, fun _ _ => rfl, fun b hb' _ => hb b hb', fun r hr hl _ => ⟨r, hr, hl, rfl⟩⟩
theorem Rel.drew (h : Rel ρ im H w) : Rel ρ im H w.drew := h.world fun _ _ => rfl
theorem Tr.drew : Tr ρ H w ρ H w.drew := Tr.world (fun _ _ => rfl) (Nat.le_refl _) rfl rfl rfl

/-- one more thing known never to turn -/
def newR (ρ : Rho) (n : Nat) (g : Reg) : Rho := fun r => if r = n then g else ρ r
theorem newR_lt {n r : Nat} {g : Reg} (h : r < n) : newR ρ n g r = ρ r := by simp [newR, Nat.ne_of_lt h]
theorem newR_eq {n : Nat} {g : Reg} : newR ρ n g n = g := by simp [newR]

theorem Rel.push (h : Rel ρ im H w) {g : Reg} {ob : Ob} (hb : ∀ s, s < H.length → live (hget H s) → (ρ s).b ≠ g.b) (him : live ob → ∀ o, im g.b o = none)
    (ho : ObOk (newR ρ H.length g) (H.length + 1) im w g ob) : Rel (newR ρ H.length g) im (H ++ [ob]) w := by
  have hl : (H ++ [ob]).length = H.length + 1 := by simp
  refine ⟨h.imc, fun r hr => ?_, fun r s hr hs hne hlr hls => ?_, fun r hr hlr o => ?_⟩
  · rw [hl] at hr ⊢
    rcases Nat.lt_succ_iff_lt_or_eq.1 hr with h' | h'
    · rw [hget_append_lt h', newR_lt h']
      exact (h.obj r h').mono (fun s hs => newR_lt hs) (by omega) (ImLe.refl _) (fun _ => rfl)
    · subst h'; rw [hget_append_eq, newR_eq]; exact ho
  · rw [hl] at hr hs
    rcases Nat.lt_succ_iff_lt_or_eq.1 hr with hr' | hr' <;> rcases Nat.lt_succ_iff_lt_or_eq.1 hs with hs' | hs'
    · rw [hget_append_lt hr'] at hlr; rw [hget_append_lt hs'] at hls
      rw [newR_lt hr', newR_lt hs']; exact h.sep r s hr' hs' hne hlr hls
    · subst hs'; rw [hget_append_lt hr'] at hlr; rw [newR_lt hr', newR_eq]; exact hb r hr' hlr
    · subst hr'; rw [hget_append_lt hs'] at hls; rw [newR_lt hs', newR_eq]; exact (hb s hs' hls).symm
    · exact absurd (hr'.trans hs'.symm) hne
  · rw [hl] at hr
    rcases Nat.lt_succ_iff_lt_or_eq.1 hr with hr' | hr'
    · rw [hget_append_lt hr'] at hlr; rw [newR_lt hr']; exact h.own r hr' hlr o
    · subst hr'; rw [hget_append_eq] at hlr; rw [newR_eq]; exact him hlr o
theorem Tr.push {g : Reg} {ob : Ob} (hg : live ob → w.heap.size ≤ g.b ∨ ∃ s, s < H.length ∧ live (hget H s) ∧ (ρ s).b = g.b) : Tr ρ H w (newR ρ H.length g) (H ++ [ob]) w := by
  refine ⟨rfl, rfl, rfl, Nat.le_refl _, by simp, fun r hr => newR_lt hr, fun _ _ _ => rfl, fun r hr hl hb => ?_⟩
  simp only [List.length_append, List.length_singleton] at hr
  rcases Nat.lt_succ_iff_lt_or_eq.1 hr with hr' | hr'
  · rw [hget_append_lt hr'] at hl; exact ⟨r, hr', hl, by rw [newR_lt hr']⟩
  · subst hr'; rw [hget_append_eq] at hl; rw [newR_eq] at hb ⊢
    rcases hg hl with h | h
    · omega
    · exact h

/-- an object of its own block turns, or is let go -/
theorem Rel.setOb (h : Rel ρ im H w) {r : Nat} (hr : r < H.length) (hl : live (hget H r)) {ob : Ob} (hb : ∀ b, b ≠ (ρ r).b → w'.heap[b]? = w.heap[b]?)
    (ho : ObOk ρ H.length im w' (ρ r) ob) : Rel ρ im (H.set r ob) w' := by
  have hlen : (H.set r ob).length = H.length := by simp
  refine ⟨fun b o v hv => ?_, fun s hs => ?_, fun s t hs ht hne hls hlt => ?_, fun s hs hls o => ?_⟩
  · rw [cell?_congr (hb b (fun e => by rw [e, h.own r hr hl o] at hv; cases hv))]; exact h.imc b o v hv
  · rw [hlen] at hs ⊢
    by_cases e : r = s
    · subst e; rw [hget_set_eq hr]; exact ho
    · rw [hget_set_ne e]
      exact (h.obj s hs).mono (fun _ _ => rfl) (Nat.le_refl _) (ImLe.refl _) (fun hls => hb _ (fun eb => h.sep r s hr hs e hl hls eb.symm))
  · rw [hlen] at hs ht
    have fix : ∀ s, s < H.length → live (hget (H.set r ob) s) → live (hget H s) := fun s hs hls => by
      by_cases e : r = s
      · subst e; exact hl
      · rwa [hget_set_ne e] at hls
    exact h.sep s t hs ht hne (fix s hs hls) (fix t ht hlt)
  · rw [hlen] at hs
    by_cases e : r = s
    · subst e; exact h.own r hr hl o
    · rw [hget_set_ne e] at hls; exact h.own s hs hls o
theorem Tr.setOb {r : Nat} (hr : r < H.length) (hl : live (hget H r)) {ob : Ob} (hb : ∀ b, b ≠ (ρ r).b → w'.heap[b]? = w.heap[b]?) (hs : w'.heap.size = w.heap.size)
    (ho : w'.os = w.os) (ht : w'.tape = w.tape) (hout : w'.output = w.output) : Tr ρ H w ρ (H.set r ob) w' := by
  refine ⟨ho, ht, hout, by omega, by simp, fun _ _ => rfl, fun b hbs hn => hb b (fun e => hn r hr hl e.symm), fun s hs' hls _ => ?_⟩
  rw [List.length_set] at hs'
  by_cases e : r = s
  · subst e; exact ⟨r, hr, hl, rfl⟩
  · rw [hget_set_ne e] at hls; exact ⟨s, hs', hls, rfl⟩

/-- cells of a row that is frozen here: it turns no more -/
def imAdd (im : Im) (b : Nat) (vs : List Value) : Im := fun b' o => if b' = b then vs[o]? else im b' o
theorem ImLe.add {b : Nat} {vs : List Value} (h : ∀ o, im b o = none) : ImLe im (imAdd im b vs) := by
  refine ⟨fun b' o v hv => ?_⟩
  by_cases e : b' = b
  · subst e; rw [h o] at hv; cases hv
  · simp [imAdd, e, hv]
theorem Rel.freeze (h : Rel ρ im H w) {r : Nat} (hr : r < H.length) {xs : List D} (hx : hget H r = .arr xs) :
    ∃ vs, Rel ρ (imAdd im (ρ r).b vs) (H.set r (.fro xs)) w ∧ ImLe im (imAdd im (ρ r).b vs) ∧ Tr ρ H w ρ (H.set r (.fro xs)) w := by
  have hl : live (hget H r) := by rw [hx]; trivial
  have hown := h.own r hr hl
  have hob := h.obj r hr
  rw [hx] at hob
  obtain ⟨c, t, fz, h1, h2, h3, h4, h5, h6⟩ := hob
  refine ⟨c.toList.take (xs.length * (ρ r).sz), ?_, ImLe.add hown, ?_⟩
  · have hle := ImLe.add (im := im) (vs := c.toList.take (xs.length * (ρ r).sz)) hown
    refine ⟨fun b o v hv => ?_, fun s hs => ?_, fun s t hs ht hne hls hlt => ?_, fun s hs hls o => ?_⟩
    · by_cases e : b = (ρ r).b
      · subst e
        simp only [imAdd, if_true] at hv
        have : c[o]? = some v := by
          rw [List.getElem?_take] at hv
          split at hv
          · simpa using hv
          · cases hv
        simp [World.cell?, h1, this]
      · simp [imAdd, e] at hv; exact h.imc b o v hv
    · rw [List.length_set] at hs ⊢
      by_cases e : r = s
      · subst e
        rw [hget_set_eq hr]
        refine ⟨_, h3, h4, h5.mono (fun _ _ => rfl) (Nat.le_refl _) hle, fun k hk => by simp [imAdd]⟩
      · rw [hget_set_ne e]
        exact (h.obj s hs).mono (fun _ _ => rfl) (Nat.le_refl _) hle (fun _ => rfl)
    · rw [List.length_set] at hs ht
      have fix : ∀ s, s < H.length → live (hget (H.set r (.fro xs)) s) → live (hget H s) := fun s hs hls => by
        by_cases e : r = s
        · subst e; exact hl
        · rwa [hget_set_ne e] at hls
      exact h.sep s t hs ht hne (fix s hs hls) (fix t ht hlt)
    · rw [List.length_set] at hs
      by_cases e : r = s
      · subst e; rw [hget_set_eq hr] at hls; exact hls.elim
      · rw [hget_set_ne e] at hls
        have := h.sep r s hr hs e hl hls
        simp [imAdd, this.symm, h.own s hs hls o]
  · exact Tr.setOb hr hl (fun _ _ => rfl) rfl rfl rfl rfl

/-- a new block -/
theorem heap_alloc_lt {o : Obj} {b : Nat} (h : b < w.heap.size) : (w.alloc o).heap[b]? = w.heap[b]? := Below.heap_alloc w o b h
theorem heap_alloc_new {o : Obj} : (w.alloc o).heap[w.heap.size]? = some o := by show (w.heap.push o)[w.heap.size]? = _; simp
theorem Rel.alloc (h : Rel ρ im H w) {sz cap : Nat} {xs : List D} {c : Array Value} {t : TypeId} {fz : Nat × Nat} (h2 : c.size = cap * sz) (h3 : ∀ x, x ∈ xs → x.cells.length = sz)
    (h4 : xs.length ≤ cap) (h5 : RepL ρ H.length im (c.toList.take (xs.length * sz)) (flatC xs)) (h6 : c.size ≤ fz.1 ∨ fz.2 ≤ fz.1) :
    Rel (newR ρ H.length ⟨w.heap.size, sz, cap⟩) im (H ++ [.arr xs]) (w.alloc (.cells c t fz)) ∧ Tr ρ H w (newR ρ H.length ⟨w.heap.size, sz, cap⟩) (H ++ [.arr xs]) (w.alloc (.cells c t fz)) := by
  have hw : Rel ρ im H (w.alloc (.cells c t fz)) := h.world fun b hb => heap_alloc_lt hb
  have him : ∀ o, im w.heap.size o = none := fun o => by
    cases e : im w.heap.size o with
    | none => rfl
    | some v => have := h.im_lt e; omega
  constructor
  · refine hw.push (fun s hs hl => ?_) (fun _ => him) ⟨c, t, fz, heap_alloc_new, h2, h3, h4, h5.mono (fun r hr => newR_lt hr) (by omega) (ImLe.refl _), h6⟩
    have := h.block_lt hs hl
    simp; omega
  · refine ⟨rfl, rfl, rfl, by simp, by simp, fun r hr => newR_lt hr, fun b hb _ => heap_alloc_lt hb, fun r hr hl hb => ?_⟩
    simp only [List.length_append, List.length_singleton] at hr
    rcases Nat.lt_succ_iff_lt_or_eq.1 hr with hr' | hr'
    · rw [hget_append_lt hr'] at hl; exact ⟨r, hr', hl, by rw [newR_lt hr']⟩
    · subst hr'; rw [newR_eq] at hb; simp at hb
/-- a new map -/
theorem Rel.allocMap (h : Rel ρ im H w) {clock : Nat} :
    Rel (newR ρ H.length ⟨w.heap.size, 0, 0⟩) im (H ++ [.map []]) (w.alloc (.map #[] clock)) ∧ Tr ρ H w (newR ρ H.length ⟨w.heap.size, 0, 0⟩) (H ++ [.map []]) (w.alloc (.map #[] clock)) := by
  have hw : Rel ρ im H (w.alloc (.map #[] clock)) := h.world fun b hb => heap_alloc_lt hb
  have him : ∀ o, im w.heap.size o = none := fun o => by
    cases e : im w.heap.size o with
    | none => rfl
    | some v => have := h.im_lt e; omega
  constructor
  · refine hw.push (fun s hs hl => ?_) (fun _ => him) ⟨#[], clock, heap_alloc_new, .nil⟩
    have := h.block_lt hs hl
    simp; omega
  · refine ⟨rfl, rfl, rfl, by simp, by simp, fun r hr => newR_lt hr, fun b hb _ => heap_alloc_lt hb, fun r hr hl hb => ?_⟩
    simp only [List.length_append, List.length_singleton] at hr
    rcases Nat.lt_succ_iff_lt_or_eq.1 hr with hr' | hr'
    · rw [hget_append_lt hr'] at hl; exact ⟨r, hr', hl, by rw [newR_lt hr']⟩
    · subst hr'; rw [newR_eq] at hb; simp at hb

/-! ### many cells written -/
def setMany (c : Array Value) : Nat → List Value → Array Value
  | _, [] => c
  | o, v :: r => setMany (c.setIfInBounds o v) (o + 1) r
theorem setMany_size (vs : List Value) : ∀ (c : Array Value) (o : Nat), (setMany c o vs).size = c.size := by
  induction vs with
  | nil => intros; rfl
  | cons v r ih => intro c o; simp [setMany, ih]
theorem setMany_toList (vs : List Value) : ∀ (c : Array Value) (o : Nat), o + vs.length ≤ c.size → (setMany c o vs).toList = c.toList.take o ++ vs ++ c.toList.drop (o + vs.length) := by
  induction vs with
  | nil => intro c o _; simp [setMany]
  | cons v r ih =>
    intro c o h
    simp only [List.length_cons] at h
    rw [setMany, ih _ _ (by simp; omega)]
    simp only [Array.toList_setIfInBounds, List.length_cons]
    have hlt : o < c.toList.length := by simp; omega
    have h1 : (c.toList.set o v).take (o + 1) = c.toList.take o ++ [v] := by
      rw [List.set_eq_take_append_cons_drop, if_pos hlt, List.take_append, List.take_of_length_le (by simp; omega)]
      have : o + 1 - (c.toList.take o).length = 1 := by simp at hlt ⊢; omega
      rw [this]; simp
    rw [h1, List.drop_set_of_lt (by omega), show o + 1 + r.length = o + (r.length + 1) by omega]
    simp
theorem heap_setCells (b : Nat) (vs : List Value) : ∀ (o : Nat) (w : World) (c : Array Value) (t : TypeId) (fz : Nat × Nat), w.heap[b]? = some (.cells c t fz) → (w.setCells b o vs).heap[b]? = some (.cells (setMany c o vs) t fz) := by
  induction vs with
  | nil => intro o w c t fz h; exact h
  | cons v r ih =>
    intro o w c t fz h
    rw [World.setCells, setMany]
    exact ih (o + 1) _ _ t fz (by simp [World.setCell, Array.getElem?_modify, h])
theorem heap_setCells_ne (b : Nat) (vs : List Value) : ∀ (o : Nat) (w : World) (b' : Nat), b' ≠ b → (w.setCells b o vs).heap[b']? = w.heap[b']? := by
  induction vs with
  | nil => intros; rfl
  | cons v r ih =>
    intro o w b' h
    rw [World.setCells, ih _ _ _ h]
    exact Below.heap_setCell _ _ _ _ h
theorem setCells_same (b : Nat) (vs : List Value) : ∀ (o : Nat) (w : World), (w.setCells b o vs).heap.size = w.heap.size ∧ (w.setCells b o vs).os = w.os ∧ (w.setCells b o vs).tape = w.tape ∧ (w.setCells b o vs).output = w.output := by
  induction vs with
  | nil => intro o w; exact ⟨rfl, rfl, rfl, rfl⟩
  | cons v r ih =>
    intro o w
    obtain ⟨h1, h2, h3, h4⟩ := ih (o + 1) (w.setCell ⟨b, o, none⟩ v)
    rw [World.setCells]
    exact ⟨by rw [h1]; simp, by rw [h2]; rfl, by rw [h3]; rfl, by rw [h4]; rfl⟩
end
end Vm
