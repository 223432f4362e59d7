/- A range over a function, in the model: the record of the loop; the statement; the jump that is left. -/
import Derived.Test.YtcppjlmicdfceaaZzD2
set_option linter.unusedVariables false
set_option linter.unusedSimpArgs false
namespace Vm
open Go Go.RowKit

section
variable {P : Program} {A : Ann} {call : CallF} {N : Nat} {ρ : Rho} {im : Im} {H : Heap} {w w' : World} {n : Nat} {a : Act} {e : Env}

def LpOk (ρ : Rho) (n : Nat) (im : Im) (rec : Loop) (l : Lp) : Prop :=
  rec.state = l.st ∧ rec.pending = l.pend ∧ rec.tmps.size = l.N ∧ (∀ i, Rep ρ n im (rec.tmps.getD i undef) (l.tmps i)) ∧ rec.params = l.ps ∧ rec.assign = l.assign ∧ rec.body = l.body
theorem lpOf_some {ob : Ob} {l : Lp} (h : lpOf ob = some l) : ob = .loop l := by
  cases ob <;> simp [lpOf] at h
  subst h; rfl
theorem loop_at (hR : Rel ρ im H w) {r : Nat} {l : Lp} (h : hget H r = .loop l) : r < H.length ∧ live (hget H r) ∧ ∃ rec : Loop, w.heap[(ρ r).b]? = some (.loop rec) ∧ LpOk ρ H.length im rec l := by
  have hr := hget_lt h (fun e => by cases e)
  refine ⟨hr, by rw [h]; trivial, ?_⟩
  have := hR.obj r hr
  rw [h] at this
  obtain ⟨rec, h1, h2⟩ := this
  exact ⟨rec, h1, h2⟩
theorem putObj_other {b r : Nat} {o : Obj} (h : b ≠ r) : (w.putObj r o).heap[b]? = w.heap[b]? := World.putObj_heap_other h
/-- the record of a loop turns -/
theorem Mv.loop (hR : Rel ρ im H w) {r : Nat} {l l' : Lp} (h : hget H r = .loop l) {rec : Loop} (hb : w.heap[(ρ r).b]? = some (.loop rec)) {rec' : Loop} (hl : LpOk ρ H.length im rec' l') :
    Mv ρ im H w ρ im (H.set r (.loop l')) (w.putObj (ρ r).b (.loop rec')) := by
  obtain ⟨hr, hlv, _⟩ := loop_at hR h
  have hlt : (ρ r).b < w.heap.size := (Array.getElem?_eq_some_iff.1 hb).1
  refine ⟨hR.setOb hr hlv (fun b hbn => putObj_other hbn) ⟨rec', World.putObj_heap_same hlt, hl⟩, ImLe.refl _, Tr.setOb hr hlv (fun b hbn => putObj_other hbn) (by simp) rfl rfl rfl, fun _ _ _ h => .inl h⟩
theorem Mv.loopEnd (hR : Rel ρ im H w) {r : Nat} {l : Lp} (h : hget H r = .loop l) (o : Obj) :
    Mv ρ im H w ρ im (H.set r .dead) (w.putObj (ρ r).b o) := by
  obtain ⟨hr, hlv, _⟩ := loop_at hR h
  refine ⟨hR.setOb hr hlv (fun b hbn => putObj_other hbn) trivial, ImLe.refl _, Tr.setOb hr hlv (fun b hbn => putObj_other hbn) (by simp) rfl rfl rfl, fun _ _ _ h => .inl h⟩
/-- the loop is entered -/
theorem Mv.loopNew (hR : Rel ρ im H w) {l : Lp} {rec : Loop} (hl : LpOk ρ H.length im rec l) (o : Obj) :
    Mv ρ im H w (newR ρ H.length ⟨w.heap.size + 1, 0, 0⟩) im (H ++ [.loop l]) ((w.alloc o).alloc (.loop rec)) ∧
      ((w.alloc o).alloc (.loop rec)).heap[w.heap.size]? = some o ∧ unowned (newR ρ H.length ⟨w.heap.size + 1, 0, 0⟩) (H ++ [.loop l]) w.heap.size := by
  have hb : ∀ b, b < w.heap.size → ((w.alloc o).alloc (.loop rec)).heap[b]? = w.heap[b]? := fun b hb => (heap_alloc_lt (by simp; omega)).trans (heap_alloc_lt hb)
  have hw : Rel ρ im H ((w.alloc o).alloc (.loop rec)) := hR.world hb
  have hnew : ((w.alloc o).alloc (.loop rec)).heap[w.heap.size + 1]? = some (.loop rec) := by
    have := heap_alloc_new (w := w.alloc o) (o := .loop rec)
    rwa [World.size_alloc] at this
  refine ⟨⟨hw.push (fun s hs hls => ?_) (fun _ o' => ?_) ⟨rec, hnew, hl.1, hl.2.1, hl.2.2.1, fun i => (hl.2.2.2.1 i).mono (fun r hr => newR_lt hr) (by omega) (ImLe.refl _), hl.2.2.2.2⟩, ImLe.refl _, ?_, fun _ _ _ h => .inl h⟩, ?_, ?_⟩
  · have := hR.block_lt hs hls
    show (ρ s).b ≠ w.heap.size + 1
    omega
  · cases e : im (w.heap.size + 1) o' with
    | none => rfl
    | some v => have := hR.im_lt e; omega
  · have t1 : Tr ρ H w ρ H ((w.alloc o).alloc (.loop rec)) := Tr.world hb (by simp; omega) rfl rfl rfl
    refine ⟨rfl, rfl, rfl, by simp; omega, by simp, fun r hr => newR_lt hr, fun b hb' _ => hb b hb', fun r hr hl hb' => ?_⟩
    simp only [List.length_append, List.length_singleton] at hr
    rcases Nat.lt_succ_iff_lt_or_eq.1 hr with hr' | hr'
    · rw [hget_append_lt hr'] at hl; exact ⟨r, hr', hl, by rw [newR_lt hr']⟩
    · subst hr'; rw [newR_eq] at hb'; simp at hb'; omega
  · have : ((w.alloc o).alloc (.loop rec)).heap[w.heap.size]? = (w.alloc o).heap[w.heap.size]? := heap_alloc_lt (by simp)
    rw [this]; exact heap_alloc_new
  · intro r hr hl e
    simp only [List.length_append, List.length_singleton] at hr
    rcases Nat.lt_succ_iff_lt_or_eq.1 hr with hr' | hr'
    · rw [hget_append_lt hr'] at hl; rw [newR_lt hr'] at e
      have := hR.block_lt hr' hl; omega
    · subst hr'; rw [newR_eq] at e; simp at e

theorem jumpD_ok {c : Code} {s : St} {n0 : Nat} (hR : Rel ρ im H w) (he : EnvR ρ H.length im N a e) (hd : DfR ρ n0 im H w none a.defers e.df) (h : jumpD c e H = some s) : c.wpIn (FW none) n P (After ρ im H w N n0 none s) a w := by
  cases c <;> simp [jumpD] at h <;> subst h
  · exact wpIn_exit (.plain hR he hd (fun d h => by cases h))
  · exact wpIn_ret (.plain hR he hd (fun d h => by cases h))

theorem range_ok (hcall : CallOk P call) {g : Operand} {ps : Array Tmp} {assign body : Code} {k : Nat} : CodeOk P N (runC P A call k N (.rangeFunc g ps assign body)) (.rangeFunc g ps assign body) := by
  intro ρ im H w a e s n0 ro n hR he hd h
  simp only [runC] at h
  obtain ⟨l, h1, h2⟩ := bind_some h
  obtain ⟨df, h3, h4⟩ := bind_some h2
  obtain ⟨rfl, hdl⟩ := hd.r l h1
  have hf := evalO_rep he h3
  cases df <;> simp only at h4 <;> try (cases h4; done)
  rename_i gf cs
  split at h4
  · cases h4
  · rename_i hb
    simp only [not_or, Bool.not_eq_false] at hb
    obtain ⟨hb, hq⟩ := hb
    generalize hv : a.eval g = v at hf
    cases hf with
    | fn _ vs _ hvs =>
      cases hc : call gf (.yld H.length :: cs) (H ++ [.loop ⟨.ready, none, e.f, N, ps, assign, body⟩]) with
      | none => simp [hc] at h4
      | some r =>
        cases r with
        | pan _ _ => simp [hc] at h4
        | ok d2 H2 =>
          simp only [hc] at h4
          refine wpIn_rangeFunc fun fn hfn => ?_
          -- the record
          let rec0 : Loop := { state := .ready, pending := none, fn, tmps := a.tmps, params := ps, assign, body, defers := w.heap.size }
          have hl0 : LpOk ρ H.length im rec0 ⟨.ready, none, e.f, N, ps, assign, body⟩ := ⟨rfl, rfl, he.size, he.get, rfl, rfl, rfl⟩
          obtain ⟨m1, hdb, hun⟩ := Mv.loopNew hR hl0 (.deferred (some []))
          have hrep : RepA (newR ρ H.length ⟨w.heap.size + 1, 0, 0⟩) (H ++ [Ob.loop ⟨.ready, none, e.f, N, ps, assign, body⟩]).length im (.func (.yield (w.heap.size + 1)) #[] #[] :: vs) (.yld H.length :: cs) := by
            refine .cons _ _ _ _ ?_ (m1.repA hvs)
            have := Rep.yld (ρ := newR ρ H.length ⟨w.heap.size + 1, 0, 0⟩) (n := (H ++ [Ob.loop ⟨.ready, none, e.f, N, ps, assign, body⟩]).length) (im := im) H.length (by simp)
            rwa [newR_eq] at this
          have hcalls := (hcall _ _ _ _ hc _ _ _ _ m1.rel hrep).calls hb
          refine ⟨w.heap.size + 1, [{ target := .collected w.heap.size, args := #[] }], _, { target := .fn (.func gf) ⟨vs⟩, args := #[.func (.yield (w.heap.size + 1)) #[] #[]] }, (w.alloc (.deferred (some []))).alloc (.loop rec0), gf, ⟨.func (.yield (w.heap.size + 1)) #[] #[] :: vs⟩, (w.alloc (.deferred (some []))).alloc (.loop rec0), run_enterLoop_outer _ _ _ _ _, ?_, fun _ _ => trivial, ?_, fw_depth, callsIn_fw (hcalls.mono fun en w2 hout => ?_)⟩
          · simp only [resolve, hv]
            simp [Deferred.ofValue]
            exact ⟨rfl, rfl⟩
          · simp only [invoke]
            have : (#[Value.func (.yield (w.heap.size + 1)) #[] #[]] : Array Value) ++ ⟨vs⟩ = ⟨.func (.yield (w.heap.size + 1)) #[] #[] :: vs⟩ := by apply Array.ext'; simp
            rw [this, callFunc_run hb]
          · cases hout with
            | ok ρ2 im2 _ _ v2 _ m2 hv2 =>
              cases hg : hget H2 H.length with
              | loop lp =>
                simp only [hg] at h4
                split at h4
                · cases h4
                · rename_i hbusy
                  obtain ⟨hr2, hlv2, rec, hrec, hlp⟩ := loop_at m2.rel hg
                  have hρ : (ρ2 H.length).b = w.heap.size + 1 := by
                    rw [m2.tr.ext H.length (by simp), newR_eq]
                  rw [hρ] at hrec
                  have m12 := m1.trans m2
                  have m3 := Mv.loopEnd m2.rel hg (.loop { rec with state := .exhausted })
                  rw [hρ] at m3
                  have m := m12.trans m3
                  have hdf : DfR ρ2 n0 im2 (H2.set H.length .dead) (w2.putObj (w.heap.size + 1) (.loop { rec with state := .exhausted })) none ({ target := .collected w.heap.size, args := #[] } :: a.defers) (some (.mark :: l)) := by
                    have hlt : w.heap.size < ((w.alloc (.deferred (some []))).alloc (.loop rec0)).heap.size := by simp; omega
                    have hun2 := hun.mv m2 hlt
                    refine ⟨Nat.le_trans hd.n m.tr.size, fun l' hl' => ⟨rfl, ?_⟩⟩
                    simp at hl'; subst hl'
                    refine .mark w.heap.size _ _ hd.n ?_ (hun2.mv m3 (Nat.lt_of_lt_of_le hlt m2.tr.size)) hq (hdl.mv m)
                    rw [putObj_other (by omega)]
                    exact (m2.tr.keep w.heap.size hlt hun).trans hdb
                  have he' : EnvR ρ2 (H2.set H.length Ob.dead).length im2 N { a with defers := { target := .collected w.heap.size, args := #[] } :: a.defers } ⟨e.f, some (.mark :: l)⟩ := ⟨(m.env he).size, (m.env he).get⟩
                  have hend : (Instr.endLoop (w.heap.size + 1)).run P w2 = .ok lp.pend (w2.putObj (w.heap.size + 1) (.loop { rec with state := .exhausted })) := by
                    rw [← hlp.2.1]; exact run_endLoop hrec (by rw [hlp.1]; exact hbusy)
                  refine ⟨lp.pend, _, hend, ?_⟩
                  cases hp : lp.pend with
                  | none =>
                    simp only [hp] at h4
                    simp at h4; subst h4
                    exact ⟨ρ2, im2, m, he', hdf, .nilIface, rfl, fun d hd => by cases hd⟩
                  | some c =>
                    simp only [hp] at h4
                    exact wpIn_mono (jumpD_ok m.rel he' hdf h4) fun x a' w' haf => haf.mv m
              | _ => simp [hg] at h4
end
end Vm
