/- Texts that stand behind this claim, one after the other. -/
import Derived.Test.YtfigdlahcihpjaaGreatM6
import Derived.Shelf.Small.Wraps
import Derived.Shelf.Strconv.Itoa0
import Derived.Shelf.Sort.Plain
import Derived.Ground.Names2Prog
import Derived.Shelf.Slices.CompactI
import Derived.Shelf.Slices.SearchI
import Derived.Shelf.Slices.Cells
import Derived.Shelf.Slices.In.SortNone
import Derived.Test.YtfigdlahcihpjaaGreatProg
import Derived.HandedShaped
import Derived.LaidLaws
/- Layout tables: the lookups of features. -/
section
set_option maxHeartbeats 4000000
set_option linter.unusedVariables false
set_option linter.unusedSimpArgs false
namespace Go.Proofs.W
open Go Vm Go.Proofs.Zs14

def okF (fs : List TL) (tag : List UInt8) (f : Int) : Bool := decide (0 ≤ f) && decide (f < fs.length) && ((fs.getD f.toNat ([], [])).1 == tag)
def catL (fs : List TL) (tag : List UInt8) (feats : List Int) : List Int := feats.flatMap fun f => if okF fs tag f then (fs.getD f.toNat ([], [])).2 else []
theorem cat_take {fs : List TL} {tag : List UInt8} {feats : List Int} {j : Nat} (h : j < feats.length) : catL fs tag (feats.take (j + 1)) = catL fs tag (feats.take j) ++ if okF fs tag feats[j] then (fs.getD feats[j].toNat ([], [])).2 else [] := by
  unfold catL
  rw [take_succ' h, List.flatMap_append]; simp
theorem cat_len {fs : List TL} {tag : List UInt8} (hf : ∀ x ∈ fs, x.2.length ≤ 1000) : ∀ (feats : List Int), (catL fs tag feats).length ≤ 1000 * feats.length
  | [] => by simp [catL]
  | f :: r => by
    have ih := cat_len (tag := tag) hf r
    unfold catL at ih ⊢
    simp only [List.flatMap_cons, List.length_append, List.length_cons]
    have : (if okF fs tag f then (fs.getD f.toNat ([], [])).2 else []).length ≤ 1000 := by
      split
      · rcases Nat.lt_or_ge f.toNat fs.length with h | h
        · rw [List.getD_eq_getElem?_getD, List.getElem?_eq_getElem h]; exact hf _ (List.getElem_mem h)
        · rw [List.getD_eq_getElem?_getD, List.getElem?_eq_none h]; simp
      · simp
    omega
theorem add_is (H : Heap) (l : List Int) : addedD H (.sl false (l.map (.int .i64))) = some (l.map (.int .i64), H) := by
  simp only [addedD, elems, Option.bind_some, puresA]
  split
  · rfl
  · exact pures_strip (strip_ints l)
/-- numbers behind a list of one's own -/
theorem app_is {m : Nat} {d : D} {H : Heap} {xs : List Int} (h : VecAt m d H (xs.map (.int .i64))) (l : List Int) (hl : xs.length + l.length ≤ 1000000) : ∃ d' H', appendD Tryz.prog 27 H d (.sl false (l.map (.int .i64))) = some (d', H') ∧ VecAt m d' H' ((xs ++ l).map (.int .i64)) ∧ Same m H H' := by
  by_cases hn : l = []
  · subst hn
    refine ⟨d, H, ?_, by simpa using h, Same.refl⟩
    simp only [appendD, el27, sz3, by3, zr3, Option.bind_some, add_is]
    obtain ⟨h0, ⟨h1, rfl⟩ | ⟨h1, r, h2, h3, rfl, h4⟩⟩ := h
    · rfl
    · rfl
  · have := vecAt_appendL (t := 27) (H1 := H) (y := .sl false (l.map (.int .i64))) el27 sz3 by3 zr3 rfl (by decide) h (Nat.le_refl _) (fun r _ => rfl) (add_is H l) (by simpa using hn) (headInts l) (headInts xs) (by simp; omega)
    simpa using this
theorem lookups_ok (ss fs : List TL) (ls : List D) (tag : List UInt8) (feats : List Int) (hf : ∀ x ∈ fs, x.2.length ≤ 1000) (hl : feats.length ≤ 1000) : PureF Tryz.prog A 8 [layD ss fs ls, isD feats, .str tag] (isD (Lib.compact (sortZ (catL fs tag feats)))) := by
  have a1 := lay_noTup ss fs ls
  have a2 := lay_cells ss fs ls
  have a3 := lay_aggQ ss fs ls
  have ew : isD feats = .sl false (feats.map (.int .i64)) := rfl
  refine evF_inB (n := 48) (rs := [.tmp 6]) Tryz.func8 rfl rfl rfl rfl rfl rfl ?_
  repeat' (first | refine wz1 ?_ | refine wz2 ?_ | refine wz3 ?_ | refine wz4 ?_ | refine wz5 ?_ | refine wz6 ?_ | simp -dsimp (maxSteps:=999999) (disch:=omega) only[go_sem,simprocAttr, *] | ((first | refine wz8 (fun hh => ?_) (fun hh => ?_) | refine wz9 (fun hh => ?_) (fun hh => ?_) | refine wz7 (fun hh => ?_) (fun hh => ?_)) <;> (try replace hh := vqs hh) <;> (try (exfalso; first | exact hh | omega))))
  refine wpB_loop (fun e H => ∃ (j : Nat) (d : D), j ≤ feats.length ∧ hget H 0 = .arr [layD ss fs ls] ∧ VecAt 1 d H ((catL fs tag (feats.take j)).map (.int .i64)) ∧ e 2 = .str tag ∧ e 3 = .ptr 0 0 0 ∧ e 7 = d ∧ e 10 = isD feats ∧ e 11 = .int .i64 feats.length ∧ e 12 = .int .i64 j) (fun e H => feats.length - natOf (e 12)) ?_ ?_
  · exact ⟨0, .sl true [], by omega, rfl, VecAt.nil (by simp), gs, gs, gs, gs, gs, gs⟩
  rintro e H ⟨j, d, hj, h0, hv, e2, e3, e7, e10, e11, e12⟩ R hR
  by_cases hb : j < feats.length
  · have hct := cat_take (fs := fs) (tag := tag) hb
    have hx : (feats.map (D.int .i64))[j]? = some (.int .i64 feats[j]) := by simp [hb]
    have hcl := cat_len (tag := tag) hf (feats.take j)
    rw [List.length_take, Nat.min_eq_left (by omega)] at hcl
    generalize feats[j] = f at hct hx
    by_cases hin : 0 ≤ f ∧ f < fs.length
    · obtain ⟨f0, f1⟩ := hin
      have hfb : f.toNat < fs.length := by omega
      have hg := tl_get hfb
      have hgd : fs.getD f.toNat ([], []) = fs[f.toNat] := by simp [List.getD_eq_getElem?_getD, hfb]
      have hlx := hf _ (List.getElem_mem hfb)
      have hok : okF fs tag f = ((fs[f.toNat]).1 == tag) := by simp [okF, f0, f1, hgd]
      rw [hok, hgd] at hct
      clear hok hgd
      generalize fs[f.toNat] = x at hg hct hlx
      have b1 := tl_noTup x
      have b2 := tl_cells x
      have b3 := tl_aggQ x
      obtain ⟨d', H', ha, hv', hsm⟩ := app_is hv x.2 (by omega)
      have h0' := hsm.2 0 (by omega)
      rw [h0] at h0'
      cases hq : (x.1 == tag) with
      | true =>
        rw [hq, if_pos rfl] at hct
        rw [← hct] at hv'
        clear hct
        repeat' (first | refine wz1 ?_ | refine wz2 ?_ | refine wz3 ?_ | refine wz4 ?_ | refine wz5 ?_ | refine wz6 ?_ | simp -dsimp (maxSteps:=999999) (disch:=omega) only[go_sem,simprocAttr, *] | ((first | refine wz8 (fun hh => ?_) (fun hh => ?_) | refine wz9 (fun hh => ?_) (fun hh => ?_) | refine wz7 (fun hh => ?_) (fun hh => ?_)) <;> (try replace hh := vqs hh) <;> (try (exfalso; first | exact hh | omega))))
        refine hR _ _ ⟨j + 1, d', by omega, gs, hv', gs, gs, gs, gs, gs, gs⟩ ?_
        simp -dsimp (maxSteps:=999999) (disch:=omega) only[go_sem,simprocAttr, *,natOf_int]
      | false =>
        rw [hq, if_neg (by decide), List.append_nil] at hct
        rw [← hct] at hv
        clear hct hv' ha
        repeat' (first | refine wz1 ?_ | refine wz2 ?_ | refine wz3 ?_ | refine wz4 ?_ | refine wz5 ?_ | refine wz6 ?_ | simp -dsimp (maxSteps:=999999) (disch:=omega) only[go_sem,simprocAttr, *] | ((first | refine wz8 (fun hh => ?_) (fun hh => ?_) | refine wz9 (fun hh => ?_) (fun hh => ?_) | refine wz7 (fun hh => ?_) (fun hh => ?_)) <;> (try replace hh := vqs hh) <;> (try (exfalso; first | exact hh | omega))))
        refine hR _ _ ⟨j + 1, d, by omega, gs, hv, gs, gs, gs, gs, gs, gs⟩ ?_
        simp -dsimp (maxSteps:=999999) (disch:=omega) only[go_sem,simprocAttr, *,natOf_int]
    · have hok : okF fs tag f = false := by
        unfold okF
        rcases Int.lt_or_le f 0 with h | h
        · simp; omega
        · simp; omega
      rw [hok, if_neg (by decide), List.append_nil] at hct
      rw [← hct] at hv
      clear hct hok
      by_cases f0 : 0 ≤ f
      · have f1 : (fs.length : Int) ≤ f := by omega
        clear hin
        repeat' (first | refine wz1 ?_ | refine wz2 ?_ | refine wz3 ?_ | refine wz4 ?_ | refine wz5 ?_ | refine wz6 ?_ | simp -dsimp (maxSteps:=999999) (disch:=omega) only[go_sem,simprocAttr, *] | ((first | refine wz8 (fun hh => ?_) (fun hh => ?_) | refine wz9 (fun hh => ?_) (fun hh => ?_) | refine wz7 (fun hh => ?_) (fun hh => ?_)) <;> (try replace hh := vqs hh) <;> (try (exfalso; first | exact hh | omega))))
        refine hR _ _ ⟨j + 1, d, by omega, gs, hv, gs, gs, gs, gs, gs, gs⟩ ?_
        simp -dsimp (maxSteps:=999999) (disch:=omega) only[go_sem,simprocAttr, *,natOf_int]
      · clear hin
        repeat' (first | refine wz1 ?_ | refine wz2 ?_ | refine wz3 ?_ | refine wz4 ?_ | refine wz5 ?_ | refine wz6 ?_ | simp -dsimp (maxSteps:=999999) (disch:=omega) only[go_sem,simprocAttr, *] | ((first | refine wz8 (fun hh => ?_) (fun hh => ?_) | refine wz9 (fun hh => ?_) (fun hh => ?_) | refine wz7 (fun hh => ?_) (fun hh => ?_)) <;> (try replace hh := vqs hh) <;> (try (exfalso; first | exact hh | omega))))
        refine hR _ _ ⟨j + 1, d, by omega, gs, hv, gs, gs, gs, gs, gs, gs⟩ ?_
        simp -dsimp (maxSteps:=999999) (disch:=omega) only[go_sem,simprocAttr, *,natOf_int]
  · have hcl := cat_len (tag := tag) hf feats
    rw [List.take_of_length_le (by omega)] at hv
    obtain ⟨H3, hs1, hs2, hs3⟩ := sort_vec hv (by omega)
    obtain ⟨d4, H4, hc1, hc2, hc3⟩ := compact_vec hs2 (by rw [sortZ_len]; omega)
    repeat' (first | refine wz1 ?_ | refine wz2 ?_ | refine wz3 ?_ | refine wz4 ?_ | refine wz5 ?_ | refine wz6 ?_ | simp -dsimp (maxSteps:=999999) (disch:=omega) only[go_sem,simprocAttr, *] | ((first | refine wz8 (fun hh => ?_) (fun hh => ?_) | refine wz9 (fun hh => ?_) (fun hh => ?_) | refine wz7 (fun hh => ?_) (fun hh => ?_)) <;> (try replace hh := vqs hh) <;> (try (exfalso; first | exact hh | omega))))
    refine evB_prim bo11 rfl hs1 ?_
    repeat' (first | refine wz1 ?_ | refine wz2 ?_ | refine wz3 ?_ | refine wz4 ?_ | refine wz5 ?_ | refine wz6 ?_ | simp -dsimp (maxSteps:=999999) (disch:=omega) only[go_sem,simprocAttr, *] | ((first | refine wz8 (fun hh => ?_) (fun hh => ?_) | refine wz9 (fun hh => ?_) (fun hh => ?_) | refine wz7 (fun hh => ?_) (fun hh => ?_)) <;> (try replace hh := vqs hh) <;> (try (exfalso; first | exact hh | omega))))
    refine evB_prim bo12 rfl hc1 ?_
    repeat' (first | refine wz1 ?_ | refine wz2 ?_ | refine wz3 ?_ | refine wz4 ?_ | refine wz5 ?_ | refine wz6 ?_ | simp -dsimp (maxSteps:=999999) (disch:=omega) only[go_sem,simprocAttr, *] | ((first | refine wz8 (fun hh => ?_) (fun hh => ?_) | refine wz9 (fun hh => ?_) (fun hh => ?_) | refine wz7 (fun hh => ?_) (fun hh => ?_)) <;> (try replace hh := vqs hh) <;> (try (exfalso; first | exact hh | omega))))
/-- the document's -/
theorem mem_cat {fs : List TL} {tag : List UInt8} {feats : List Int} {n : Int} : n ∈ catL fs tag feats ↔ ∃ f ∈ feats, okF fs tag f = true ∧ n ∈ (fs.getD f.toNat ([], [])).2 := by
  unfold catL
  simp only [List.mem_flatMap]
  constructor
  · rintro ⟨f, h1, h2⟩
    split at h2
    · exact ⟨f, h1, by assumption, h2⟩
    · cases h2
  · rintro ⟨f, h1, h2, h3⟩
    exact ⟨f, h1, by rw [if_pos h2]; exact h3⟩
def inL (n : Nat) (l : List Int) : Bool := l.any fun x => x == (n : Int)
theorem inL_iff {n : Nat} {l : List Int} : inL n l = true ↔ (n : Int) ∈ l := by simp [inL]
theorem inL_app {n : Nat} {a b : List Int} : inL n (a ++ b) = (inL n a || inL n b) := by simp [inL]
theorem reflookups_ok (ss fs : List TL) (ls : List D) (tag : List UInt8) (feats : List Int) (hf : ∀ x ∈ fs, x.2.length ≤ 1000) (hl : feats.length ≤ 1000) (hfs : fs.length ≤ 1000000) : PureF Tryz.prog A 9 [layD ss fs ls, isD feats, .str tag] (isD (listZ 64 fun n => inL n (catL fs tag feats))) := by
  have a1 := lay_noTup ss fs ls
  have a2 := lay_cells ss fs ls
  have a3 := lay_aggQ ss fs ls
  have ew : isD feats = .sl false (feats.map (.int .i64)) := rfl
  refine evF_inB (n := 87) (rs := [.tmp 6]) Tryz.func9 rfl rfl rfl rfl rfl rfl ?_
  repeat' (first | refine wz1 ?_ | refine wz2 ?_ | refine wz3 ?_ | refine wz4 ?_ | refine wz5 ?_ | refine wz6 ?_ | simp -dsimp (maxSteps:=999999) (disch:=omega) only[go_sem,simprocAttr, *] | ((first | refine wz8 (fun hh => ?_) (fun hh => ?_) | refine wz9 (fun hh => ?_) (fun hh => ?_) | refine wz7 (fun hh => ?_) (fun hh => ?_)) <;> (try replace hh := vqs hh) <;> (try (exfalso; first | exact hh | omega))))
  refine wpB_loop (fun e H => ∃ (n : Nat) (d : D), n ≤ 64 ∧ hget H 0 = .arr [layD ss fs ls] ∧ VecAt 1 d H ((listZ n fun n => inL n (catL fs tag feats)).map (.int .i64)) ∧ e 1 = isD feats ∧ e 2 = .str tag ∧ e 3 = .ptr 0 0 0 ∧ e 7 = d ∧ e 8 = .int .i64 n) (fun e H => 64 - natOf (e 8)) ?_ ?_
  · exact ⟨0, .sl true [], by omega, rfl, VecAt.nil (by simp), gs, gs, gs, gs, gs⟩
  rintro e H ⟨n, d, hn, h0, hv, e1, e2, e3, e7, e8⟩ R hR
  by_cases hbn : n < 64
  case neg =>
    obtain rfl : n = 64 := by omega
    have hout := hv.out (strip_ints _)
    repeat' (first | refine wz1 ?_ | refine wz2 ?_ | refine wz3 ?_ | refine wz4 ?_ | refine wz5 ?_ | refine wz6 ?_ | simp -dsimp (maxSteps:=999999) (disch:=omega) only[go_sem,simprocAttr, *] | ((first | refine wz8 (fun hh => ?_) (fun hh => ?_) | refine wz9 (fun hh => ?_) (fun hh => ?_) | refine wz7 (fun hh => ?_) (fun hh => ?_)) <;> (try replace hh := vqs hh) <;> (try (exfalso; first | exact hh | omega))))
    rfl
  have hls := listZ_succ (k := n) (p := fun n => inL n (catL fs tag feats))
  have hlen := listZ_len n (fun n => inL n (catL fs tag feats))
  repeat' (first | refine wz1 ?_ | refine wz2 ?_ | refine wz3 ?_ | refine wz4 ?_ | refine wz5 ?_ | refine wz6 ?_ | simp -dsimp (maxSteps:=999999) (disch:=omega) only[go_sem,simprocAttr, *] | ((first | refine wz8 (fun hh => ?_) (fun hh => ?_) | refine wz9 (fun hh => ?_) (fun hh => ?_) | refine wz7 (fun hh => ?_) (fun hh => ?_)) <;> (try replace hh := vqs hh) <;> (try (exfalso; first | exact hh | omega))))
  refine wpB_loop (fun e H2 => ∃ j : Nat, j ≤ feats.length ∧ H2 = H ∧ e 1 = isD feats ∧ e 2 = .str tag ∧ e 3 = .ptr 0 0 0 ∧ e 7 = d ∧ e 8 = .int .i64 n ∧ e 9 = .bool (inL n (catL fs tag (feats.take j))) ∧ e 10 = .int .i64 j) (fun e H => feats.length - natOf (e 10)) ?_ ?_
  · exact ⟨0, by omega, rfl, gs, gs, gs, gs, gs, by simp -dsimp (maxSteps:=999999) (disch:=omega) only[go_sem,simprocAttr, *,List.take_zero, show inL n (catL fs tag []) = false from rfl], gs⟩
  have e8o := e8
  clear e1 e2 e3 e7 e8
  rintro e H2 ⟨j, hj, rfl, e1, e2, e3, e7, e8, e9, e10⟩ R2 hR2
  by_cases hb : j < feats.length
  case neg =>
    rw [List.take_of_length_le (by omega)] at e9
    obtain ⟨d', H', ha, hv', hsm⟩ := app_int hv (n : Int) (by omega)
    have h0' := hsm.2 0 (by omega)
    rw [h0] at h0'
    cases hq : inL n (catL fs tag feats) with
    | true =>
      rw [hq] at hls e9
      simp only [if_true] at hls
      rw [← hls] at hv'
      clear hls
      repeat' (first | refine wz1 ?_ | refine wz2 ?_ | refine wz3 ?_ | refine wz4 ?_ | refine wz5 ?_ | refine wz6 ?_ | simp -dsimp (maxSteps:=999999) (disch:=omega) only[go_sem,simprocAttr, *] | ((first | refine wz8 (fun hh => ?_) (fun hh => ?_) | refine wz9 (fun hh => ?_) (fun hh => ?_) | refine wz7 (fun hh => ?_) (fun hh => ?_)) <;> (try replace hh := vqs hh) <;> (try (exfalso; first | exact hh | omega))))
      refine hR _ _ ⟨n + 1, d', by omega, gs, hv', gs, gs, gs, gs, gs⟩ ?_
      simp -dsimp (maxSteps:=999999) (disch:=omega) only[go_sem,simprocAttr, *,natOf_int]
    | false =>
      rw [hq] at hls e9
      simp only [Bool.false_eq_true, if_false, List.append_nil] at hls
      rw [← hls] at hv
      clear hls hv' ha
      repeat' (first | refine wz1 ?_ | refine wz2 ?_ | refine wz3 ?_ | refine wz4 ?_ | refine wz5 ?_ | refine wz6 ?_ | simp -dsimp (maxSteps:=999999) (disch:=omega) only[go_sem,simprocAttr, *] | ((first | refine wz8 (fun hh => ?_) (fun hh => ?_) | refine wz9 (fun hh => ?_) (fun hh => ?_) | refine wz7 (fun hh => ?_) (fun hh => ?_)) <;> (try replace hh := vqs hh) <;> (try (exfalso; first | exact hh | omega))))
      refine hR _ _ ⟨n + 1, d, by omega, gs, hv, gs, gs, gs, gs, gs⟩ ?_
      simp -dsimp (maxSteps:=999999) (disch:=omega) only[go_sem,simprocAttr, *,natOf_int]
  have hct := cat_take (fs := fs) (tag := tag) hb
  have hx : (feats.map (D.int .i64))[j]? = some (.int .i64 feats[j]) := by simp [hb]
  generalize feats[j] = f at hct hx
  have hst := congrArg (inL n) hct
  rw [inL_app] at hst
  clear hct hls
  generalize inL n (catL fs tag (feats.take j)) = b0 at *
  by_cases hin : 0 ≤ f ∧ f < fs.length
  · obtain ⟨f0, f1⟩ := hin
    have hfb : f.toNat < fs.length := by omega
    have hg := tl_get hfb
    have hgd : fs.getD f.toNat ([], []) = fs[f.toNat] := by simp [List.getD_eq_getElem?_getD, hfb]
    have hlx := hf _ (List.getElem_mem hfb)
    have hok : okF fs tag f = ((fs[f.toNat]).1 == tag) := by simp [okF, f0, f1, hgd]
    rw [hok, hgd] at hst
    clear hok hgd
    generalize fs[f.toNat] = x at hg hst hlx
    have b1 := tl_noTup x
    have b2 := tl_cells x
    have b3 := tl_aggQ x
    cases hq : (x.1 == tag) with
    | false =>
      rw [hq, if_neg (by decide), show inL n [] = false from rfl, Bool.or_false] at hst
      repeat' (first | refine wz1 ?_ | refine wz2 ?_ | refine wz3 ?_ | refine wz4 ?_ | refine wz5 ?_ | refine wz6 ?_ | simp -dsimp (maxSteps:=999999) (disch:=omega) only[go_sem,simprocAttr, *] | ((first | refine wz8 (fun hh => ?_) (fun hh => ?_) | refine wz9 (fun hh => ?_) (fun hh => ?_) | refine wz7 (fun hh => ?_) (fun hh => ?_)) <;> (try replace hh := vqs hh) <;> (try (exfalso; first | exact hh | omega))))
      refine wpB_regionXL (prs := []) (by kernel_rfl) rfl (by kernel_rfl) ?_; simp -dsimp (maxSteps:=999999) (disch:=omega) only[go_sem,simprocAttr, *]
      repeat' (first | refine wz1 ?_ | refine wz2 ?_ | refine wz3 ?_ | refine wz4 ?_ | refine wz5 ?_ | refine wz6 ?_ | simp -dsimp (maxSteps:=999999) (disch:=omega) only[go_sem,simprocAttr, *] | ((first | refine wz8 (fun hh => ?_) (fun hh => ?_) | refine wz9 (fun hh => ?_) (fun hh => ?_) | refine wz7 (fun hh => ?_) (fun hh => ?_)) <;> (try replace hh := vqs hh) <;> (try (exfalso; first | exact hh | omega))))
      refine hR2 _ _ ⟨j + 1, by omega, rfl, gs, gs, gs, gs, gs, by rw [hst]; simp -dsimp (maxSteps:=999999) (disch:=omega) only[go_sem,simprocAttr, *], gs⟩ ?_
      simp -dsimp (maxSteps:=999999) (disch:=omega) only[go_sem,simprocAttr, *,natOf_int]
    | true =>
      rw [hq, if_pos rfl] at hst
      repeat' (first | refine wz1 ?_ | refine wz2 ?_ | refine wz3 ?_ | refine wz4 ?_ | refine wz5 ?_ | refine wz6 ?_ | simp -dsimp (maxSteps:=999999) (disch:=omega) only[go_sem,simprocAttr, *] | ((first | refine wz8 (fun hh => ?_) (fun hh => ?_) | refine wz9 (fun hh => ?_) (fun hh => ?_) | refine wz7 (fun hh => ?_) (fun hh => ?_)) <;> (try replace hh := vqs hh) <;> (try (exfalso; first | exact hh | omega))))
      refine wpB_regionXL (prs := []) (by kernel_rfl) rfl (by kernel_rfl) ?_; simp -dsimp (maxSteps:=999999) (disch:=omega) only[go_sem,simprocAttr, *]
      repeat' (first | refine wz1 ?_ | refine wz2 ?_ | refine wz3 ?_ | refine wz4 ?_ | refine wz5 ?_ | refine wz6 ?_ | simp -dsimp (maxSteps:=999999) (disch:=omega) only[go_sem,simprocAttr, *] | ((first | refine wz8 (fun hh => ?_) (fun hh => ?_) | refine wz9 (fun hh => ?_) (fun hh => ?_) | refine wz7 (fun hh => ?_) (fun hh => ?_)) <;> (try replace hh := vqs hh) <;> (try (exfalso; first | exact hh | omega))))
      refine wpB_loop (fun e Hk => ∃ k : Nat, k ≤ x.2.length ∧ Hk = H2 ∧ e 1 = isD feats ∧ e 2 = .str tag ∧ e 3 = .ptr 0 0 0 ∧ e 7 = d ∧ e 8 = .int .i64 n ∧ e 9 = .bool (b0 || inL n (x.2.take k)) ∧ e 10 = .int .i64 j ∧ e 11 = .int .i64 k) (fun e H => x.2.length - natOf (e 11)) ?_ ?_
      · exact ⟨0, by omega, rfl, gs, gs, gs, gs, gs, by rw [List.take_zero, show inL n [] = false from rfl, Bool.or_false]; simp -dsimp (maxSteps:=999999) (disch:=omega) only[go_sem,simprocAttr, *], gs, gs⟩
      have e10o := e10
      clear e1 e2 e3 e7 e8 e9 e10
      rintro e Hk ⟨k, hk, rfl, e1, e2, e3, e7, e8, e9, e10, e11⟩ R3 hR3
      by_cases hbk : k < x.2.length
      · have hxk : (x.2.map (D.int .i64))[k]? = some (.int .i64 x.2[k]) := by simp [hbk]
        have htk : inL n (x.2.take (k + 1)) = (inL n (x.2.take k) || (x.2[k] == (n : Int))) := by rw [take_succ' hbk, inL_app]; simp [inL]
        generalize x.2[k] = z at hxk htk
        clear hst
        cases hfl : (b0 || inL n (x.2.take k)) with
        | true =>
          rw [hfl] at e9
          have hnx : (b0 || inL n (x.2.take (k + 1))) = true := by rw [htk, ← Bool.or_assoc, hfl]; rfl
          clear htk
          repeat' (first | refine wz1 ?_ | refine wz2 ?_ | refine wz3 ?_ | refine wz4 ?_ | refine wz5 ?_ | refine wz6 ?_ | simp -dsimp (maxSteps:=999999) (disch:=omega) only[go_sem,simprocAttr, *] | ((first | refine wz8 (fun hh => ?_) (fun hh => ?_) | refine wz9 (fun hh => ?_) (fun hh => ?_) | refine wz7 (fun hh => ?_) (fun hh => ?_)) <;> (try replace hh := vqs hh) <;> (try (exfalso; first | exact hh | omega))))
          refine wpB_regionXL (prs := []) (by kernel_rfl) rfl (by kernel_rfl) ?_; simp -dsimp (maxSteps:=999999) (disch:=omega) only[go_sem,simprocAttr, *]
          repeat' (first | refine wz1 ?_ | refine wz2 ?_ | refine wz3 ?_ | refine wz4 ?_ | refine wz5 ?_ | refine wz6 ?_ | simp -dsimp (maxSteps:=999999) (disch:=omega) only[go_sem,simprocAttr, *] | ((first | refine wz8 (fun hh => ?_) (fun hh => ?_) | refine wz9 (fun hh => ?_) (fun hh => ?_) | refine wz7 (fun hh => ?_) (fun hh => ?_)) <;> (try replace hh := vqs hh) <;> (try (exfalso; first | exact hh | omega))))
          refine wpB_regionXL (prs := []) (by kernel_rfl) rfl (by kernel_rfl) ?_; simp -dsimp (maxSteps:=999999) (disch:=omega) only[go_sem,simprocAttr, *]
          repeat' (first | refine wz1 ?_ | refine wz2 ?_ | refine wz3 ?_ | refine wz4 ?_ | refine wz5 ?_ | refine wz6 ?_ | simp -dsimp (maxSteps:=999999) (disch:=omega) only[go_sem,simprocAttr, *] | ((first | refine wz8 (fun hh => ?_) (fun hh => ?_) | refine wz9 (fun hh => ?_) (fun hh => ?_) | refine wz7 (fun hh => ?_) (fun hh => ?_)) <;> (try replace hh := vqs hh) <;> (try (exfalso; first | exact hh | omega))))
          refine hR3 _ _ ⟨k + 1, by omega, rfl, gs, gs, gs, gs, gs, by rw [hnx]; simp -dsimp (maxSteps:=999999) (disch:=omega) only[go_sem,simprocAttr, *], gs, gs⟩ ?_
          simp -dsimp (maxSteps:=999999) (disch:=omega) only[go_sem,simprocAttr, *,natOf_int]
        | false =>
          rw [hfl] at e9
          have hnx : (b0 || inL n (x.2.take (k + 1))) = (z == (n : Int)) := by rw [htk, ← Bool.or_assoc, hfl]; rfl
          clear htk
          repeat' (first | refine wz1 ?_ | refine wz2 ?_ | refine wz3 ?_ | refine wz4 ?_ | refine wz5 ?_ | refine wz6 ?_ | simp -dsimp (maxSteps:=999999) (disch:=omega) only[go_sem,simprocAttr, *] | ((first | refine wz8 (fun hh => ?_) (fun hh => ?_) | refine wz9 (fun hh => ?_) (fun hh => ?_) | refine wz7 (fun hh => ?_) (fun hh => ?_)) <;> (try replace hh := vqs hh) <;> (try (exfalso; first | exact hh | omega))))
          refine wpB_regionXL (prs := []) (by kernel_rfl) rfl (by kernel_rfl) ?_; simp -dsimp (maxSteps:=999999) (disch:=omega) only[go_sem,simprocAttr, *]
          repeat' (first | refine wz1 ?_ | refine wz2 ?_ | refine wz3 ?_ | refine wz4 ?_ | refine wz5 ?_ | refine wz6 ?_ | simp -dsimp (maxSteps:=999999) (disch:=omega) only[go_sem,simprocAttr, *] | ((first | refine wz8 (fun hh => ?_) (fun hh => ?_) | refine wz9 (fun hh => ?_) (fun hh => ?_) | refine wz7 (fun hh => ?_) (fun hh => ?_)) <;> (try replace hh := vqs hh) <;> (try (exfalso; first | exact hh | omega))))
          refine wpB_regionXL (prs := []) (by kernel_rfl) rfl (by kernel_rfl) ?_; simp -dsimp (maxSteps:=999999) (disch:=omega) only[go_sem,simprocAttr, *]
          repeat' (first | refine wz1 ?_ | refine wz2 ?_ | refine wz3 ?_ | refine wz4 ?_ | refine wz5 ?_ | refine wz6 ?_ | simp -dsimp (maxSteps:=999999) (disch:=omega) only[go_sem,simprocAttr, *] | ((first | refine wz8 (fun hh => ?_) (fun hh => ?_) | refine wz9 (fun hh => ?_) (fun hh => ?_) | refine wz7 (fun hh => ?_) (fun hh => ?_)) <;> (try replace hh := vqs hh) <;> (try (exfalso; first | exact hh | omega))))
          refine hR3 _ _ ⟨k + 1, by omega, rfl, gs, gs, gs, gs, gs, by rw [hnx]; simp -dsimp (maxSteps:=999999) (disch:=omega) only[go_sem,simprocAttr, *], gs, gs⟩ ?_
          simp -dsimp (maxSteps:=999999) (disch:=omega) only[go_sem,simprocAttr, *,natOf_int]
      · rw [List.take_of_length_le (by omega), ← hst] at e9
        repeat' (first | refine wz1 ?_ | refine wz2 ?_ | refine wz3 ?_ | refine wz4 ?_ | refine wz5 ?_ | refine wz6 ?_ | simp -dsimp (maxSteps:=999999) (disch:=omega) only[go_sem,simprocAttr, *] | ((first | refine wz8 (fun hh => ?_) (fun hh => ?_) | refine wz9 (fun hh => ?_) (fun hh => ?_) | refine wz7 (fun hh => ?_) (fun hh => ?_)) <;> (try replace hh := vqs hh) <;> (try (exfalso; first | exact hh | omega))))
        refine wpB_regionXL (prs := []) (by kernel_rfl) rfl (by kernel_rfl) ?_; simp -dsimp (maxSteps:=999999) (disch:=omega) only[go_sem,simprocAttr, *]
        repeat' (first | refine wz1 ?_ | refine wz2 ?_ | refine wz3 ?_ | refine wz4 ?_ | refine wz5 ?_ | refine wz6 ?_ | simp -dsimp (maxSteps:=999999) (disch:=omega) only[go_sem,simprocAttr, *] | ((first | refine wz8 (fun hh => ?_) (fun hh => ?_) | refine wz9 (fun hh => ?_) (fun hh => ?_) | refine wz7 (fun hh => ?_) (fun hh => ?_)) <;> (try replace hh := vqs hh) <;> (try (exfalso; first | exact hh | omega))))
        refine hR2 _ _ ⟨j + 1, by omega, rfl, gs, gs, gs, gs, gs, gs, gs⟩ ?_
        simp -dsimp (maxSteps:=999999) (disch:=omega) only[go_sem,simprocAttr, *,natOf_int]
  · have hok : okF fs tag f = false := by
      unfold okF
      rcases Int.lt_or_le f 0 with h | h
      · simp; omega
      · simp; omega
    rw [hok, if_neg (by decide), show inL n [] = false from rfl, Bool.or_false] at hst
    clear hok
    by_cases f0 : 0 ≤ f
    · have f1 : (fs.length : Int) ≤ f := by omega
      clear hin
      repeat' (first | refine wz1 ?_ | refine wz2 ?_ | refine wz3 ?_ | refine wz4 ?_ | refine wz5 ?_ | refine wz6 ?_ | simp -dsimp (maxSteps:=999999) (disch:=omega) only[go_sem,simprocAttr, *] | ((first | refine wz8 (fun hh => ?_) (fun hh => ?_) | refine wz9 (fun hh => ?_) (fun hh => ?_) | refine wz7 (fun hh => ?_) (fun hh => ?_)) <;> (try replace hh := vqs hh) <;> (try (exfalso; first | exact hh | omega))))
      refine wpB_regionXL (prs := []) (by kernel_rfl) rfl (by kernel_rfl) ?_; simp -dsimp (maxSteps:=999999) (disch:=omega) only[go_sem,simprocAttr, *]
      repeat' (first | refine wz1 ?_ | refine wz2 ?_ | refine wz3 ?_ | refine wz4 ?_ | refine wz5 ?_ | refine wz6 ?_ | simp -dsimp (maxSteps:=999999) (disch:=omega) only[go_sem,simprocAttr, *] | ((first | refine wz8 (fun hh => ?_) (fun hh => ?_) | refine wz9 (fun hh => ?_) (fun hh => ?_) | refine wz7 (fun hh => ?_) (fun hh => ?_)) <;> (try replace hh := vqs hh) <;> (try (exfalso; first | exact hh | omega))))
      refine hR2 _ _ ⟨j + 1, by omega, rfl, gs, gs, gs, gs, gs, by rw [hst]; simp -dsimp (maxSteps:=999999) (disch:=omega) only[go_sem,simprocAttr, *], gs⟩ ?_
      simp -dsimp (maxSteps:=999999) (disch:=omega) only[go_sem,simprocAttr, *,natOf_int]
    · clear hin
      repeat' (first | refine wz1 ?_ | refine wz2 ?_ | refine wz3 ?_ | refine wz4 ?_ | refine wz5 ?_ | refine wz6 ?_ | simp -dsimp (maxSteps:=999999) (disch:=omega) only[go_sem,simprocAttr, *] | ((first | refine wz8 (fun hh => ?_) (fun hh => ?_) | refine wz9 (fun hh => ?_) (fun hh => ?_) | refine wz7 (fun hh => ?_) (fun hh => ?_)) <;> (try replace hh := vqs hh) <;> (try (exfalso; first | exact hh | omega))))
      refine wpB_regionXL (prs := []) (by kernel_rfl) rfl (by kernel_rfl) ?_; simp -dsimp (maxSteps:=999999) (disch:=omega) only[go_sem,simprocAttr, *]
      repeat' (first | refine wz1 ?_ | refine wz2 ?_ | refine wz3 ?_ | refine wz4 ?_ | refine wz5 ?_ | refine wz6 ?_ | simp -dsimp (maxSteps:=999999) (disch:=omega) only[go_sem,simprocAttr, *] | ((first | refine wz8 (fun hh => ?_) (fun hh => ?_) | refine wz9 (fun hh => ?_) (fun hh => ?_) | refine wz7 (fun hh => ?_) (fun hh => ?_)) <;> (try replace hh := vqs hh) <;> (try (exfalso; first | exact hh | omega))))
      refine hR2 _ _ ⟨j + 1, by omega, rfl, gs, gs, gs, gs, gs, by rw [hst]; simp -dsimp (maxSteps:=999999) (disch:=omega) only[go_sem,simprocAttr, *], gs⟩ ?_
      simp -dsimp (maxSteps:=999999) (disch:=omega) only[go_sem,simprocAttr, *,natOf_int]
end Go.Proofs.W
end
/- The law on scripts and lookups of layout tables. -/
section
set_option maxHeartbeats 4000000
set_option linter.unusedVariables false
set_option linter.unusedSimpArgs false
namespace Go.Proofs.W
open Go Vm Go.Proofs.Zs14

theorem find_mem {w : List UInt8} : ∀ {l : List TL} {x : TL}, findT w l = some x → x ∈ l
  | s :: l, x, h => by
    rw [findT] at h
    split at h
    · cases h; simp
    · exact List.mem_cons_of_mem _ (find_mem h)
theorem script_len {ss : List TL} {tag : List UInt8} (h : ∀ x ∈ ss, x.2.length ≤ 9223372036854775807) : (scriptR ss tag).1.2.length ≤ 9223372036854775807 := by
  unfold scriptR
  cases h1 : findT tag ss with
  | some x => exact h x (find_mem h1)
  | none =>
    cases h2 : findT dflt ss with
    | some x => exact h x (find_mem h2)
    | none => decide
theorem finds_eq {fs : List TL} {tag : List UInt8} {feats : List Int} (h : ∀ x ∈ fs, x.2.length ≤ 70 ∧ ∀ v ∈ x.2, 0 ≤ v ∧ v ≤ 63) : Lib.compact (sortZ (catL fs tag feats)) = listZ 64 fun n => inL n (catL fs tag feats) := by
  obtain ⟨h1, h2⟩ := compact_sorted (catL fs tag feats)
  refine strict_unique h1 (listZ_strict _ _) fun x => ?_
  rw [h2, mem_listZ]
  constructor
  · intro hx
    obtain ⟨f, -, h4, h5⟩ := mem_cat.1 hx
    have hb : f.toNat < fs.length := by
      simp only [okF, Bool.and_eq_true, decide_eq_true_eq] at h4
      omega
    rw [List.getD_eq_getElem?_getD, List.getElem?_eq_getElem hb] at h5
    have := (h _ (List.getElem_mem hb)).2 x h5
    exact ⟨x.toNat, by omega, inL_iff.2 (by rw [show ((x.toNat : Nat) : Int) = x by omega]; exact hx), by omega⟩
  · rintro ⟨i, -, h3, rfl⟩
    exact inL_iff.1 h3
theorem strip3L {ss fs : List TL} {ls : List D} (h : stripL ls = some ls) (tag : List UInt8) : stripL [layD ss fs ls, .str tag] = some [layD ss fs ls, .str tag] := strip2 (strip_lay h) rfl
theorem strip4L {ss fs : List TL} {ls : List D} (h : stripL ls = some ls) (tag : List UInt8) (feats : List Int) : stripL [layD ss fs ls, isD feats, .str tag] = some [layD ss fs ls, isD feats, .str tag] := strip3 (strip_lay h) (strip_is feats) rfl
theorem strip2I (a b : List Int) : stripL [isD a, isD b] = some [isD a, isD b] := strip2 (strip_is a) (strip_is b)
theorem finds_law (ss fs : List TL) (ls : List D) (tag : List UInt8) (feats : List Int) (hls : stripL ls = some ls) (hss : ∀ x ∈ ss, x.2.length ≤ 9223372036854775807) (hfs : ∀ x ∈ fs, x.2.length ≤ 9223372036854775807) : Yes 3 [layD ss fs ls, .str tag, isD feats] := by
  have a1 := lay_noTup ss fs ls
  have a2 := lay_cells ss fs ls
  have a3 := lay_aggQ ss fs ls
  have ew : isD feats = .sl false (feats.map (.int .i64)) := rfl
  refine evF_inB (n := 118) (rs := [.tmp 6]) Tryz.func3 rfl rfl rfl rfl rfl rfl ?_
  repeat' (first | refine wz1 ?_ | refine wz2 ?_ | refine wz3 ?_ | refine wz4 ?_ | refine wz5 ?_ | refine wz6 ?_ | simp -dsimp (maxSteps:=999999) (disch:=omega) only[go_sem,simprocAttr, *] | ((first | refine wz8 (fun hh => ?_) (fun hh => ?_) | refine wz9 (fun hh => ?_) (fun hh => ?_) | refine wz7 (fun hh => ?_) (fun hh => ?_)) <;> (try replace hh := vqs hh) <;> (try (exfalso; first | exact hh | omega))))
  refine evB_plain bo4 rfl rfl rfl alive_ok ?_
  by_cases g1 : ss.length ≤ 70
  case neg => repeat' (first | refine wz1 ?_ | refine wz2 ?_ | refine wz3 ?_ | refine wz4 ?_ | refine wz5 ?_ | refine wz6 ?_ | simp -dsimp (maxSteps:=999999) (disch:=omega) only[go_sem,simprocAttr, *] | ((first | refine wz8 (fun hh => ?_) (fun hh => ?_) | refine wz9 (fun hh => ?_) (fun hh => ?_) | refine wz7 (fun hh => ?_) (fun hh => ?_)) <;> (try replace hh := vqs hh) <;> (try (exfalso; first | exact hh | omega))))
  by_cases g2 : fs.length ≤ 70
  case neg => repeat' (first | refine wz1 ?_ | refine wz2 ?_ | refine wz3 ?_ | refine wz4 ?_ | refine wz5 ?_ | refine wz6 ?_ | simp -dsimp (maxSteps:=999999) (disch:=omega) only[go_sem,simprocAttr, *] | ((first | refine wz8 (fun hh => ?_) (fun hh => ?_) | refine wz9 (fun hh => ?_) (fun hh => ?_) | refine wz7 (fun hh => ?_) (fun hh => ?_)) <;> (try replace hh := vqs hh) <;> (try (exfalso; first | exact hh | omega))))
  by_cases g3 : feats.length ≤ 70
  case neg => repeat' (first | refine wz1 ?_ | refine wz2 ?_ | refine wz3 ?_ | refine wz4 ?_ | refine wz5 ?_ | refine wz6 ?_ | simp -dsimp (maxSteps:=999999) (disch:=omega) only[go_sem,simprocAttr, *] | ((first | refine wz8 (fun hh => ?_) (fun hh => ?_) | refine wz9 (fun hh => ?_) (fun hh => ?_) | refine wz7 (fun hh => ?_) (fun hh => ?_)) <;> (try replace hh := vqs hh) <;> (try (exfalso; first | exact hh | omega))))
  repeat' (first | refine wz1 ?_ | refine wz2 ?_ | refine wz3 ?_ | refine wz4 ?_ | refine wz5 ?_ | refine wz6 ?_ | simp -dsimp (maxSteps:=999999) (disch:=omega) only[go_sem,simprocAttr, *] | ((first | refine wz8 (fun hh => ?_) (fun hh => ?_) | refine wz9 (fun hh => ?_) (fun hh => ?_) | refine wz7 (fun hh => ?_) (fun hh => ?_)) <;> (try replace hh := vqs hh) <;> (try (exfalso; first | exact hh | omega))))
  refine wpB_loop (fun e H => ∃ i : Nat, i ≤ fs.length ∧ H = [Ob.arr [layD ss fs ls]] ∧ e 1 = .str tag ∧ e 2 = isD feats ∧ e 3 = .ptr 0 0 0 ∧ e 7 = .int .i64 i ∧ ∀ x ∈ fs.take i, x.2.length ≤ 70 ∧ ∀ v ∈ x.2, 0 ≤ v ∧ v ≤ 63) (fun e H => fs.length - natOf (e 7)) ?_ ?_
  · exact ⟨0, by omega, gs, gs, gs, gs, gs, by simp⟩
  rintro e H ⟨i, hi, rfl, e1, e2, e3, e7, hall⟩ R hR
  by_cases hb : i < fs.length
  · have hx := tl_get hb
    have htk := take_succ' hb
    have hfx := hfs _ (List.getElem_mem hb)
    generalize fs[i] = x at hx htk hfx
    have b1 := tl_noTup x
    have b2 := tl_cells x
    have b3 := tl_aggQ x
    by_cases g4 : x.2.length ≤ 70
    case neg => repeat' (first | refine wz1 ?_ | refine wz2 ?_ | refine wz3 ?_ | refine wz4 ?_ | refine wz5 ?_ | refine wz6 ?_ | simp -dsimp (maxSteps:=999999) (disch:=omega) only[go_sem,simprocAttr, *] | ((first | refine wz8 (fun hh => ?_) (fun hh => ?_) | refine wz9 (fun hh => ?_) (fun hh => ?_) | refine wz7 (fun hh => ?_) (fun hh => ?_)) <;> (try replace hh := vqs hh) <;> (try (exfalso; first | exact hh | omega))))
    have hnx : (∀ v ∈ x.2, 0 ≤ v ∧ v ≤ 63) → ∀ y ∈ fs.take (i + 1), y.2.length ≤ 70 ∧ ∀ v ∈ y.2, 0 ≤ v ∧ v ≤ 63 := fun h y hy => by
      rw [htk] at hy
      rcases List.mem_append.1 hy with hy | hy
      · exact hall y hy
      · rw [List.mem_singleton.1 hy]; exact ⟨g4, h⟩
    clear htk hall hfs hss
    repeat' (first | refine wz1 ?_ | refine wz2 ?_ | refine wz3 ?_ | refine wz4 ?_ | refine wz5 ?_ | refine wz6 ?_ | simp -dsimp (maxSteps:=999999) (disch:=omega) only[go_sem,simprocAttr, *] | ((first | refine wz8 (fun hh => ?_) (fun hh => ?_) | refine wz9 (fun hh => ?_) (fun hh => ?_) | refine wz7 (fun hh => ?_) (fun hh => ?_)) <;> (try replace hh := vqs hh) <;> (try (exfalso; first | exact hh | omega))))
    refine wpB_loop (fun e H => ∃ k : Nat, k ≤ x.2.length ∧ H = [Ob.arr [layD ss fs ls]] ∧ e 1 = .str tag ∧ e 2 = isD feats ∧ e 3 = .ptr 0 0 0 ∧ e 7 = .int .i64 i ∧ e 8 = .int .i64 k ∧ ∀ v ∈ x.2.take k, 0 ≤ v ∧ v ≤ 63) (fun e H => x.2.length - natOf (e 8)) ?_ ?_
    · exact ⟨0, by omega, gs, gs, gs, gs, gs, gs, by simp⟩
    have e7o := e7
    clear e1 e2 e3 e7
    rintro e H ⟨k, hk, rfl, e1, e2, e3, e7, e8, hin⟩ R2 hR2
    by_cases hbk : k < x.2.length
    · have hxk : (x.2.map (D.int .i64))[k]? = some (.int .i64 x.2[k]) := by simp [hbk]
      have htk := take_succ' hbk
      generalize x.2[k] = z at hxk htk
      by_cases z0 : 0 ≤ z
      case neg => clear hin htk hnx; repeat' (first | refine wz1 ?_ | refine wz2 ?_ | refine wz3 ?_ | refine wz4 ?_ | refine wz5 ?_ | refine wz6 ?_ | simp -dsimp (maxSteps:=999999) (disch:=omega) only[go_sem,simprocAttr, *] | ((first | refine wz8 (fun hh => ?_) (fun hh => ?_) | refine wz9 (fun hh => ?_) (fun hh => ?_) | refine wz7 (fun hh => ?_) (fun hh => ?_)) <;> (try replace hh := vqs hh) <;> (try (exfalso; first | exact hh | omega))))
      by_cases z1 : z ≤ 63
      case neg => clear hin htk hnx; repeat' (first | refine wz1 ?_ | refine wz2 ?_ | refine wz3 ?_ | refine wz4 ?_ | refine wz5 ?_ | refine wz6 ?_ | simp -dsimp (maxSteps:=999999) (disch:=omega) only[go_sem,simprocAttr, *] | ((first | refine wz8 (fun hh => ?_) (fun hh => ?_) | refine wz9 (fun hh => ?_) (fun hh => ?_) | refine wz7 (fun hh => ?_) (fun hh => ?_)) <;> (try replace hh := vqs hh) <;> (try (exfalso; first | exact hh | omega))))
      have hin2 : ∀ v ∈ x.2.take (k + 1), 0 ≤ v ∧ v ≤ 63 := fun v hv => by
        rw [htk] at hv
        rcases List.mem_append.1 hv with hv | hv
        · exact hin v hv
        · rw [List.mem_singleton.1 hv]; exact ⟨z0, z1⟩
      clear hin htk hnx
      repeat' (first | refine wz1 ?_ | refine wz2 ?_ | refine wz3 ?_ | refine wz4 ?_ | refine wz5 ?_ | refine wz6 ?_ | simp -dsimp (maxSteps:=999999) (disch:=omega) only[go_sem,simprocAttr, *] | ((first | refine wz8 (fun hh => ?_) (fun hh => ?_) | refine wz9 (fun hh => ?_) (fun hh => ?_) | refine wz7 (fun hh => ?_) (fun hh => ?_)) <;> (try replace hh := vqs hh) <;> (try (exfalso; first | exact hh | omega))))
      refine hR2 _ _ ⟨k + 1, by omega, gs, gs, gs, gs, gs, gs, hin2⟩ ?_
      simp -dsimp (maxSteps:=999999) (disch:=omega) only[go_sem,simprocAttr, *,natOf_int]
    · rw [List.take_of_length_le (by omega)] at hin
      have hnx2 := hnx hin
      clear hnx hin
      repeat' (first | refine wz1 ?_ | refine wz2 ?_ | refine wz3 ?_ | refine wz4 ?_ | refine wz5 ?_ | refine wz6 ?_ | simp -dsimp (maxSteps:=999999) (disch:=omega) only[go_sem,simprocAttr, *] | ((first | refine wz8 (fun hh => ?_) (fun hh => ?_) | refine wz9 (fun hh => ?_) (fun hh => ?_) | refine wz7 (fun hh => ?_) (fun hh => ?_)) <;> (try replace hh := vqs hh) <;> (try (exfalso; first | exact hh | omega))))
      refine hR _ _ ⟨i + 1, by omega, gs, gs, gs, gs, gs, hnx2⟩ ?_
      simp -dsimp (maxSteps:=999999) (disch:=omega) only[go_sem,simprocAttr, *,natOf_int]
  · rw [List.take_of_length_le (by omega)] at hall
    have hS := script_ok ss fs ls tag (by omega)
    have hRS := refscript_ok ss fs ls tag (by omega)
    have hf1 : ∀ x ∈ fs, x.2.length ≤ 1000 := fun x hx => by have := (hall x hx).1; omega
    have hL := lookups_ok ss fs ls tag feats hf1 (by omega)
    have hRL := reflookups_ok ss fs ls tag feats hf1 (by omega) (by omega)
    have hcl := cat_len (tag := tag) hf1 feats
    have hsl := script_len (tag := tag) hss
    have hI1 := ints_ok (scriptR ss tag).1.2 (scriptR ss tag).1.2 hsl
    rw [finds_eq hall] at hL
    have hI2 := ints_ok (listZ 64 fun n => inL n (catL fs tag feats)) (listZ 64 fun n => inL n (catL fs tag feats)) (by have := listZ_len 64 (fun n => inL n (catL fs tag feats)); omega)
    simp only [beq_self_eq_true] at hI1 hI2
    have s1 := strip3L (ss := ss) (fs := fs) hls tag
    have s2 := strip4L (ss := ss) (fs := fs) hls tag feats
    have s3 := strip2I (scriptR ss tag).1.2 (scriptR ss tag).1.2
    have s4 := strip2I (listZ 64 fun n => inL n (catL fs tag feats)) (listZ 64 fun n => inL n (catL fs tag feats))
    generalize (listZ 64 fun n => inL n (catL fs tag feats)) = lz at *
    generalize scriptR ss tag = x at *
    obtain ⟨x, b⟩ := x
    simp only at hI1 s3
    clear hall hf1 hfs hss hcl hsl
    have b1 := tl_noTup x
    have b2 := tl_cells x
    have b3 := tl_aggQ x
    have ex : isD x.2 = .sl false (x.2.map (.int .i64)) := rfl
    rw [ex] at hI1 s3
    repeat' (first | refine wz1 ?_ | refine wz2 ?_ | refine wz3 ?_ | refine wz4 ?_ | refine wz5 ?_ | refine wz6 ?_ | simp -dsimp (maxSteps:=999999) (disch:=omega) only[go_sem,simprocAttr, *] | ((first | refine wz8 (fun hh => ?_) (fun hh => ?_) | refine wz9 (fun hh => ?_) (fun hh => ?_) | refine wz7 (fun hh => ?_) (fun hh => ?_)) <;> (try replace hh := vqs hh) <;> (try (exfalso; first | exact hh | omega))))
    refine evB_plain bo5 rfl rfl s1 hS ?_
    repeat' (first | refine wz1 ?_ | refine wz2 ?_ | refine wz3 ?_ | refine wz4 ?_ | refine wz5 ?_ | refine wz6 ?_ | simp -dsimp (maxSteps:=999999) (disch:=omega) only[go_sem,simprocAttr, *,tbD] | ((first | refine wz8 (fun hh => ?_) (fun hh => ?_) | refine wz9 (fun hh => ?_) (fun hh => ?_) | refine wpB_cond (by simp -dsimp (maxSteps:=999999) (disch:=omega) only[go_sem,simprocAttr, *,tbD]; exact rfl) (fun hh => ?_) (fun hh => ?_)) <;> (try replace hh := vqs hh) <;> (try (exfalso; first | exact hh | omega))))
    refine evB_plain bo6 rfl rfl s1 hRS ?_
    repeat' (first | refine wz1 ?_ | refine wz2 ?_ | refine wz3 ?_ | refine wz4 ?_ | refine wz5 ?_ | refine wz6 ?_ | simp -dsimp (maxSteps:=999999) (disch:=omega) only[go_sem,simprocAttr, *,tbD] | ((first | refine wz8 (fun hh => ?_) (fun hh => ?_) | refine wz9 (fun hh => ?_) (fun hh => ?_) | refine wpB_cond (by simp -dsimp (maxSteps:=999999) (disch:=omega) only[go_sem,simprocAttr, *,tbD]; exact rfl) (fun hh => ?_) (fun hh => ?_)) <;> (try replace hh := vqs hh) <;> (try (exfalso; first | exact hh | omega))))
    have hbb : eqD Tryz.prog 4 (.bool b) (.bool b) = some true := by simp [eqD, un4]
    refine wpB_regionXL (prs := []) (by kernel_rfl) rfl (by kernel_rfl) ?_; simp -dsimp (maxSteps:=999999) (disch:=omega) only[go_sem,simprocAttr, *]
    refine ⟨fun _ => by first | rfl | exact congrArg Option.isSome s3, evB_plain bo7 rfl rfl s3 hI1 ?_⟩
    simp -dsimp (maxSteps:=999999) (disch:=omega) only[go_sem,simprocAttr, *]
    refine ⟨fun _ => by first | rfl | exact congrArg Option.isSome s2, evB_plain bo8 rfl rfl s2 hL ?_⟩
    simp -dsimp (maxSteps:=999999) (disch:=omega) only[go_sem,simprocAttr, *]
    refine ⟨fun _ => by first | rfl | exact congrArg Option.isSome s2, evB_plain bo9 rfl rfl s2 hRL ?_⟩
    simp -dsimp (maxSteps:=999999) (disch:=omega) only[go_sem,simprocAttr, *]
    refine ⟨fun _ => by first | rfl | exact congrArg Option.isSome s4, evB_plain bo7 rfl rfl s4 hI2 ?_⟩
    repeat' (first | refine wz1 ?_ | refine wz2 ?_ | refine wz3 ?_ | refine wz4 ?_ | refine wz5 ?_ | refine wz6 ?_ | simp -dsimp (maxSteps:=999999) (disch:=omega) only[go_sem,simprocAttr, *] | ((first | refine wz8 (fun hh => ?_) (fun hh => ?_) | refine wz9 (fun hh => ?_) (fun hh => ?_) | refine wz7 (fun hh => ?_) (fun hh => ?_)) <;> (try replace hh := vqs hh) <;> (try (exfalso; first | exact hh | omega))))
end Go.Proofs.W
end
/-
  DERIVED: THE SHELF's CONTRACTS AT THIS DUMP, IN PLAIN WORDS (tools/lay-plain.mjs out of 'TryzShelf.lean', which tools/lay-shelf.mjs wrote): THE SAME DECLARATIONS UNDER THE SAME NAMES: 'import', 'namespace', 'open', 'def', 'theorem' AND NOTHING ELSE: no command of the shelf's: FOR A HAND-IN. Each laying: the table of numbers ('.._ren') and one theorem, a field a fact of the dump's own or the kernel's comparison; each contract: ONE APPLICATION.
-/
section
namespace Go.Proofs
open Go.Shelf
def Tryz.lays189_ren : Go.Shelf.Ren := ⟨fun | 189 => 11 | 125 => 16 | 257 => 15 | 128 => 39 | 129 => 40 | 294 => 30 | 295 => 31 | 296 => 32 | 297 => 33 | 298 => 34 | 299 => 35 | 216 => 36 | 300 => 37 | 301 => 38 | 328 => 53 | 329 => 54 | 330 => 55 | 331 => 56 | 332 => 57 | 215 => 58 | 343 => 71 | n => n, fun | 28 => 27 | 3 => 3 | 46 => 53 | 0 => 0 | 51 => 81 | 53 => 83 | 4 => 4 | 183 => 74 | 182 => 73 | 131 => 54 | 5 => 5 | 9 => 9 | 218 => 113 | 222 => 117 | 228 => 142 | 229 => 143 | n => n, fun | n => n⟩
theorem Tryz.lays189 : Go.Proofs.Lays.n189 Tryz.prog Tryz.lays189_ren := {
  mixed := by kernel_rfl
  f125 := Tryz.func16.trans (congrArg some (by kernel_rfl))
  f128 := Tryz.func39.trans (congrArg some (by kernel_rfl))
  f129 := Tryz.func40.trans (congrArg some (by kernel_rfl))
  f189 := Tryz.func11.trans (congrArg some (by kernel_rfl))
  f215 := Tryz.func58.trans (congrArg some (by kernel_rfl))
  f216 := Tryz.func36.trans (congrArg some (by kernel_rfl))
  f257 := Tryz.func15.trans (congrArg some (by kernel_rfl))
  f294 := Tryz.func30.trans (congrArg some (by kernel_rfl))
  f295 := Tryz.func31.trans (congrArg some (by kernel_rfl))
  f296 := Tryz.func32.trans (congrArg some (by kernel_rfl))
  f297 := Tryz.func33.trans (congrArg some (by kernel_rfl))
  f298 := Tryz.func34.trans (congrArg some (by kernel_rfl))
  f299 := Tryz.func35.trans (congrArg some (by kernel_rfl))
  f300 := Tryz.func37.trans (congrArg some (by kernel_rfl))
  f301 := Tryz.func38.trans (congrArg some (by kernel_rfl))
  f328 := Tryz.func53.trans (congrArg some (by kernel_rfl))
  f329 := Tryz.func54.trans (congrArg some (by kernel_rfl))
  f330 := Tryz.func55.trans (congrArg some (by kernel_rfl))
  f331 := Tryz.func56.trans (congrArg some (by kernel_rfl))
  f332 := Tryz.func57.trans (congrArg some (by kernel_rfl))
  f343 := Tryz.func71.trans (congrArg some (by kernel_rfl))
  t0 := Tryz.underlying0
  a0 := Tryz.isAgg0
  z0 := Tryz.sizeOf0
  v0 := Tryz.zeroValue0
  t3 := Tryz.underlying3
  a3 := Tryz.isAgg3
  z3 := Tryz.sizeOf3
  v3 := Tryz.zeroValue3
  t4 := Tryz.underlying4
  a4 := Tryz.isAgg4
  z4 := Tryz.sizeOf4
  v4 := Tryz.zeroValue4
  t5 := Tryz.underlying5
  a5 := Tryz.isAgg5
  z5 := Tryz.sizeOf5
  v5 := Tryz.zeroValue5
  t9 := Tryz.underlying9
  a9 := Tryz.isAgg9
  z9 := Tryz.sizeOf9
  v9 := Tryz.zeroValue9
  t28 := Tryz.underlying27
  a28 := Tryz.isAgg27
  z28 := Tryz.sizeOf27
  v28 := Tryz.zeroValue27
  t46 := Tryz.underlying53
  a46 := Tryz.isAgg53
  z46 := Tryz.sizeOf53
  v46 := Tryz.zeroValue53
  t51 := Tryz.underlying81
  a51 := Tryz.isAgg81
  z51 := Tryz.sizeOf81
  v51 := Tryz.zeroValue81
  t53 := Tryz.underlying83
  a53 := Tryz.isAgg83
  z53 := Tryz.sizeOf83
  v53 := Tryz.zeroValue83
  t131 := Tryz.underlying54
  a131 := Tryz.isAgg54
  z131 := Tryz.sizeOf54
  v131 := Tryz.zeroValue54
  t182 := Tryz.underlying73
  a182 := Tryz.isAgg73
  z182 := Tryz.sizeOf73
  v182 := Tryz.zeroValue73
  t183 := Tryz.underlying74
  a183 := Tryz.isAgg74
  z183 := Tryz.sizeOf74
  v183 := Tryz.zeroValue74
  t218 := Tryz.underlying113
  a218 := Tryz.isAgg113
  z218 := Tryz.sizeOf113
  v218 := Tryz.zeroValue113
  t222 := Tryz.underlying117
  a222 := Tryz.isAgg117
  z222 := Tryz.sizeOf117
  v222 := Tryz.zeroValue117
  t228 := Tryz.underlying142
  a228 := Tryz.isAgg142
  z228 := Tryz.sizeOf142
  v228 := Tryz.zeroValue142
  t229 := Tryz.underlying143
  a229 := Tryz.isAgg143
  z229 := Tryz.sizeOf143
  v229 := Tryz.zeroValue143 }
open Go.Sort Go.RowKit in
theorem Tryz.slices_Sort_int (blk off cap : Nat) (zs : List Int) (w : World) (hH : Holds (Value.int .i64) w blk off zs.toArray) (hblk : blk < w.heap.size) (hsz : zs.length < 4611686018427387904) :
    Calls Tryz.prog 11 #[.slice (some ⟨blk, off, none⟩) zs.length cap] w fun e w' =>
      e = .returned (.tuple #[]) ∧ ∃ n os, w' = grow (putRow (Value.int .i64) (Sort.ahead w n) blk off (zs.mergeSort fun x y => decide (x ≤ y)).toArray) os := Any.slices_Sort_int Tryz.lays189 blk off cap zs w hH hblk hsz
open Go.RowKit Go.Sort in
/-- .. and plain. (LAID: no walk: one application.) -/
theorem Tryz.slices_Sort_int_none (p : Option Addr) (cap : Nat) (w : World) :
    Calls Tryz.prog 11 #[.slice p 0 cap] w fun e w' => e = .returned (.tuple #[]) ∧ w' = w := Any.slices_Sort_int_none Tryz.lays189 p cap w
def Tryz.laysNm220_ren : Go.Shelf.Ren := ⟨fun | 20 => 12 | n => n, fun | 22 => 27 | 3 => 3 | 4 => 4 | 0 => 0 | n => n, fun | n => n⟩
theorem Tryz.laysNm220 : Go.Proofs.Lays2.n20 Tryz.prog Tryz.laysNm220_ren := {
  mixed := by kernel_rfl
  f20 := Tryz.func12.trans (congrArg some (by kernel_rfl))
  t0 := Tryz.underlying0
  a0 := Tryz.isAgg0
  z0 := Tryz.sizeOf0
  v0 := Tryz.zeroValue0
  t3 := Tryz.underlying3
  a3 := Tryz.isAgg3
  z3 := Tryz.sizeOf3
  v3 := Tryz.zeroValue3
  t4 := Tryz.underlying4
  a4 := Tryz.isAgg4
  z4 := Tryz.sizeOf4
  v4 := Tryz.zeroValue4
  t22 := Tryz.underlying27
  a22 := Tryz.isAgg27
  z22 := Tryz.sizeOf27
  v22 := Tryz.zeroValue27
  i3 := by kernel_rfl }
open Go.RowKit Go.Lib Go.Sort in
/-- slices.Compact at []int: "Compact replaces consecutive runs of equal elements with a single copy. This is like the uniq command found on Unix. Compact modifies the contents of the slice s and returns the modified slice, which may have a smaller length. Compact zeroes the elements between the new length and the original length. The result preserves the nilness of s.": IT RETURNS THE SLICE CUT TO 'Lib.compact zs'; ITS CELLS HOLD 'Lib.compact zs', THEN ZERO VALUES up to the old length; all else is as it was, but for the count of draws. IN THE WORDS OF slices.Sort's CONTRACT ('Holds', 'putRow'): so the everyday 'slices.Sort(xs); xs = slices.Compact(xs)' goes from the one contract to the other. It asks 'zs.length ≤ cap' (every slice's: the reslicing 's[:k]' looks at it). Length 0, nil: '.._empty'. (LAID: no walk: one application.) -/
theorem Tryz.slices_Compact_int (blk off cap : Nat) (zs : List Int) (w : World) (hH : Holds (Value.int .i64) w blk off zs.toArray) (hsz : zs.length ≤ 9223372036854775807) (hcap : zs.length ≤ cap) :
    Calls Tryz.prog 12 #[.slice (some ⟨blk, off, none⟩) zs.length cap] w fun e w' => e = .returned (.slice (some ⟨blk, off, none⟩) (Lib.compact zs).length cap) ∧ ∃ q, w' = putRow (Value.int .i64) (Sort.ahead w q) blk off (Lib.compact zs ++ List.replicate (zs.length - (Lib.compact zs).length) 0).toArray := Any.slices_Compact_int Tryz.laysNm220 blk off cap zs w hH hsz hcap
open Go.RowKit Go.Lib Go.Sort in
/-- The same at a slice of length 0, a nil one too: it comes back as it is. (LAID: no walk: one application.) -/
theorem Tryz.slices_Compact_int_empty (a : Option Addr) (cap : Nat) (w : World) :
    Calls Tryz.prog 12 #[.slice a 0 cap] w fun e w' => e = .returned (.slice a 0 cap) ∧ w' = w := Any.slices_Compact_int_empty Tryz.laysNm220 a cap w
end Go.Proofs
end
/- The chapter on layout tables: the functions that are taken as they are. -/
section
set_option maxHeartbeats 4000000
set_option linter.unusedVariables false
set_option linter.unusedSimpArgs false
namespace Go.Proofs.W
open Go Vm Go.Proofs.Zs14

theorem primA [Base] : PrimOk Tryz.prog A := by
  refine ⟨fun f k h => (by cases h), fun f g h => (by cases h), ?_⟩
  intro f p h args H r hr ρ im w vs hR hvs
  simp only [A] at h
  split at h
  · rename_i e; subst e; cases h
    exact pSort_at (fun blk cap zs w h1 h2 h3 => Tryz.slices_Sort_int blk 0 cap zs w h1 h2 h3) (fun p cap w => Tryz.slices_Sort_int_none p cap w) args H r hr ρ im w vs hR hvs
  split at h
  · rename_i e; subst e; cases h
    exact pCompact_at (fun blk cap zs w h1 h2 h3 => Tryz.slices_Compact_int blk 0 cap zs w h1 h2 h3) (fun p cap w => Tryz.slices_Compact_int_empty p cap w) args H r hr ρ im w vs hR hvs
  · cases h
end Go.Proofs.W
end
/- From a law's runs to the row that lists variables. -/
section
set_option linter.unusedVariables false
namespace Vm
open Go
section
variable {P : Program}
theorem typed_str {t : TypeId} {ds : List D} (hu : P.underlying t = some .string) (h : Typed P t ds) : ∃ s, ds = [.str s] ∧ s.length ≤ maxLen := by
  cases h with
  | bool _ b h => rw [hu] at h; cases h
  | int _ k1 n h hn => rw [hu] at h; cases h
  | str _ s h hs => exact ⟨s, rfl, hs⟩
  | slice _ e xs h hl hx => rw [hu] at h; cases h
  | struct _ fs ds h hf => rw [hu] at h; cases h
  | array _ e n ds h hf => rw [hu] at h; cases h
theorem typed_bool {t : TypeId} {ds : List D} (hu : P.underlying t = some .bool) (h : Typed P t ds) : ∃ b, ds = [.bool b] := by
  cases h with
  | bool _ b h => exact ⟨b, rfl⟩
  | int _ k1 n h hn => rw [hu] at h; cases h
  | str _ s h hs => rw [hu] at h; cases h
  | slice _ e xs h hl hx => rw [hu] at h; cases h
  | struct _ fs ds h hf => rw [hu] at h; cases h
  | array _ e n ds h hf => rw [hu] at h; cases h
theorem typedF_cons {t : TypeId} {ts : List TypeId} {ds : List D} (h : TypedF P (t :: ts) ds) : ∃ a b, ds = a ++ b ∧ Typed P t a ∧ TypedF P ts b := by
  cases h with
  | cons _ _ a b h hr => exact ⟨a, b, rfl, h, hr⟩
theorem typedE_one {e : TypeId} {xs : List D} (ha : aggT P e = false) (h : TypedE P e xs) {α : Type} (f : α → D) (hf : ∀ x, Typed P e [x] → ∃ a, x = f a) : ∃ l : List α, xs = l.map f := by
  induction xs with
  | nil => exact ⟨[], rfl⟩
  | cons x xs ih =>
    cases h with
    | agg _ cs _ ha' h hr => rw [ha] at ha'; cases ha'
    | one _ _ _ ha' h hr =>
      obtain ⟨l, hl⟩ := ih hr
      obtain ⟨a, hb⟩ := hf x h
      exact ⟨a :: l, by rw [List.map_cons, ← hl, hb]⟩
/-- as 'typedE_agg', for what lies within: each element is less than the list -/
theorem typedE_aggI {e : TypeId} {xs : List D} (ha : aggT P e = true) (h : TypedE P e xs) {α : Type} (f : α → D) (q : α → Prop) (hf : ∀ cs, SizeOf.sizeOf cs < SizeOf.sizeOf xs → Typed P e cs → ∃ a, D.agg cs = f a ∧ q a) : ∃ l : List α, xs = l.map f ∧ ∀ a ∈ l, q a := by
  induction xs with
  | nil => exact ⟨[], rfl, by simp⟩
  | cons x xs ih =>
    cases h with
    | agg _ cs _ ha' h hr =>
      obtain ⟨l, hl, hq⟩ := ih hr (fun cs hc => hf cs (by simp only [List.cons.sizeOf_spec]; omega))
      obtain ⟨a, hb, hqa⟩ := hf cs (by simp only [List.cons.sizeOf_spec, D.agg.sizeOf_spec]; omega) h
      refine ⟨a :: l, by rw [List.map_cons, ← hl, hb], fun y hy => ?_⟩
      rcases List.mem_cons.1 hy with rfl | hy
      · exact hqa
      · exact hq y hy
    | one _ _ _ ha' h hr => rw [ha] at ha'; cases ha'
theorem typedF_nil' {ds : List D} (h : TypedF P [] ds) : ds = [] := by cases h; rfl
theorem typedA_str {t : TypeId} {ts : List TypeId} {ds : List D} (hu : P.underlying t = some .string) (ha : aggT P t = false) (h : TypedA P (t :: ts) ds) : ∃ s r, ds = .str s :: r ∧ s.length ≤ maxLen ∧ TypedA P ts r := by
  obtain ⟨d, r, rfl, h1, h2⟩ := typedA_one ha h
  obtain ⟨s, hs, hl⟩ := typed_str hu h1
  cases hs
  exact ⟨s, r, rfl, hl, h2⟩
theorem typedA_int {t : TypeId} {k : IntKind} {ts : List TypeId} {ds : List D} (hu : P.underlying t = some (.int k)) (ha : aggT P t = false) (h : TypedA P (t :: ts) ds) : ∃ n r, ds = .int k n :: r ∧ (Lit.int k n).wf = true ∧ TypedA P ts r := by
  obtain ⟨d, r, rfl, h1, h2⟩ := typedA_one ha h
  obtain ⟨s, hs, hl⟩ := typed_int hu h1
  cases hs
  exact ⟨s, r, rfl, hl, h2⟩
theorem typedA_slice {t e : TypeId} {ts : List TypeId} {ds : List D} (hu : P.underlying t = some (.slice e)) (ha : aggT P t = false) (h : TypedA P (t :: ts) ds) : ∃ xs r, ds = .sl false xs :: r ∧ xs.length ≤ maxLen ∧ TypedE P e xs ∧ TypedA P ts r := by
  obtain ⟨d, r, rfl, h1, h2⟩ := typedA_one ha h
  obtain ⟨s, hs, hl, hx⟩ := typed_slice hu h1
  cases hs
  exact ⟨s, r, rfl, hl, hx, h2⟩
theorem typedE_ints {e : TypeId} {k : IntKind} {xs : List D} (hu : P.underlying e = some (.int k)) (ha : aggT P e = false) (h : TypedE P e xs) : ∃ l : List Int, xs = l.map (.int k) :=
  typedE_one ha h _ fun x hx => by
    obtain ⟨n, hn, -⟩ := typed_int hu hx
    cases hn
    exact ⟨n, rfl⟩
end

/-- the row's contract, where it lists variables and a function reads one of the library's own -/
theorem law_lifted {C : Checked} {os : Os} {f : FuncId} {fn : Func} {s : ChangeSpec} {H : Type} {enc : TypeId × Value → H} {conds : List PathCond} {laid : List (String × DataW Unit)} {A : Ann} {S : List TypeId} {tb : TypeId}
    (started : os.Started) (own : ownKnob C.prog.godebug = none) (noInit : C.prog.inits.idxOf? f = none) (hfn : C.prog.funcs[f]? = some fn)
    (witness : ∃ (w : World) (tape : Tape) (i : Input), w.os = os ∧ (w.forCall tape i).Shaped C.prog ∧ i.vars = [] ∧ Input.okWide C.prog (w.forCall tape i) .any w.heap.size f i ∧
      ((s.pre enc C.prog fn conds false (w.forCall tape i).memory i.args ∧ laidMetH C.prog laid (w.forCall tape i).memory) ∧ sizedMet enc C.prog fn (OpenSpec.ofChange s) false (w.forCall tape i).memory i.args) ∧ ({} : Assume).holds C.prog (lone (Frame.enter C.prog f i.args .normal) [] (w.forCall tape i)))
    (hvars : s.vars = []) (hl : laidOutB C.prog = true)
    (hts : (fn.params.toList.all fun t => C.prog.readableRec t && decide (t < C.prog.types.size)) = true) (hS : plainS C.prog S = true) (hpl : (fn.params.toList.all fun t => S.contains t) = true)
    (hbod : bodied C.prog f = true) (hres : fn.resultTypes = #[tb]) (htb : C.prog.underlying tb = some .bool)
    (hs : ∀ ds : List (DataW H), ds.length = fn.params.size → (s.fn H ds).results = [.lit (.bool true)] ∧ (s.fn H ds).args = ds ∧ (s.fn H ds).vars = [])
    (hprim : ∀ W : World, W.ShapedOpen C.prog → @PrimOk ⟨im0 W⟩ C.prog A)
    (hrun : ∀ Ds, TypedA C.prog fn.params.toList Ds → ∃ k H', runF C.prog A k f Ds [] = some (.ok (.bool true) H')) :
    ReturnsInHanded {} C os f .any (fun w args => (s.pre enc C.prog fn conds false w args ∧ laidMetH C.prog laid w) ∧ sizedMet enc C.prog fn (OpenSpec.ofChange s) false w args) (s.post enc C.prog fn false true false false) := by
  refine returnsInHanded_of_calls own started noInit witness ?_
  intro w tape i _ hsh _ hok hpre hholds
  obtain ⟨_, _, _, fn', hfn', _, _, _, _, hval⟩ := hok
  have e : fn' = fn := Option.some.inj (hfn'.symm.trans hfn)
  subst e
  obtain ⟨⟨⟨ds, gs, before, hw, hc⟩, hx⟩, hz⟩ := hpre
  have hw' := DataW.Whole.of_heap (w' := w.forCall tape i) (by rfl) hw
  have hts' : ∀ t ∈ fn'.params.toList, C.prog.readableRec t = true ∧ t < C.prog.types.size := fun t ht => by
    have h2 : C.prog.readableRec t = true ∧ decide (t < C.prog.types.size) = true := by simpa only [Bool.and_eq_true] using List.all_eq_true.1 hts t ht
    exact ⟨h2.1, of_decide_eq_true h2.2⟩
  refine (law_contract hvars hl hts' hS hpl hbod hres htb hs hrun (w.forCall tape i) w.heap.size i.args ds gs before hval hw' (hprim _ hsh)).mono fun e W' ⟨v, he, hp⟩ => ?_
  subst he
  exact ChangeSpec.post_blind hp
end Vm
end
/- The chapter on layout tables: what typed data are. -/
section
set_option maxHeartbeats 4000000
set_option linter.unusedVariables false
set_option linter.unusedSimpArgs false
namespace Go.Proofs.W
open Go Vm Go.Proofs.Zs14

theorem typedA_agg {t : TypeId} {ts : List TypeId} {ds : List D} (ha : aggT Tryz.prog t = true) (h : TypedA Tryz.prog (t :: ts) ds) : ∃ cs r, ds = .agg cs :: r ∧ Typed Tryz.prog t cs ∧ TypedA Tryz.prog ts r := by
  cases h with
  | agg _ _ cs ds _ h hr => exact ⟨cs, ds, rfl, h, hr⟩
  | one _ _ d ds ha' => rw [ha] at ha'; cases ha'
theorem stripL_app : ∀ {a b : List D}, stripL a = some a → stripL b = some b → stripL (a ++ b) = some (a ++ b)
  | [], b, _, h => h
  | x :: a, b, h, h2 => by
    rw [stripL] at h
    cases hx : strip x with
    | none => rw [hx] at h; cases h
    | some y =>
      rw [hx] at h
      cases hr : stripL a with
      | none => rw [hr] at h; cases h
      | some l =>
        rw [hr] at h
        simp only [Option.bind_some, Option.map_some, Option.some.injEq, List.cons.injEq] at h
        obtain ⟨rfl, rfl⟩ := h
        have := stripL_app hr h2
        rw [List.cons_append, stripL, hx, this]; rfl
mutual
theorem typed_strip : ∀ {t : TypeId} {cs : List D}, Typed Tryz.prog t cs → stripL cs = some cs
  | _, _, .bool .. => rfl
  | _, _, .int .. => rfl
  | _, _, .str .. => rfl
  | _, _, .slice _ _ xs _ _ hx => by rw [stripL, strip, typedE_strip hx]; rfl
  | _, _, .struct _ _ _ _ hf => typedF_strip hf
  | _, _, .array _ _ _ _ _ hf => typedF_strip hf
theorem typedE_strip : ∀ {t : TypeId} {xs : List D}, TypedE Tryz.prog t xs → stripL xs = some xs
  | _, _, .nil _ => rfl
  | _, _, .agg _ cs xs _ h hr => by rw [stripL, strip, typed_strip h, typedE_strip hr]; rfl
  | _, _, .one _ x xs _ h hr => stripL_app (a := [x]) (typed_strip h) (typedE_strip hr)
theorem typedF_strip : ∀ {ts : List TypeId} {ds : List D}, TypedF Tryz.prog ts ds → stripL ds = some ds
  | _, _, .nil => rfl
  | _, _, .cons _ _ _ _ h hr => stripL_app (typed_strip h) (typedF_strip hr)
end
theorem ftScript : fieldTs Tryz.prog 32 = some [9, 27] := by kernel_rfl
theorem ftFeature : fieldTs Tryz.prog 30 = some [9, 27] := by kernel_rfl
theorem ftLayout : fieldTs Tryz.prog 26 = some [22, 23, 24] := by kernel_rfl
theorem tl_of_typed {t : TypeId} (hft : fieldTs Tryz.prog t = some [9, 27]) {cs : List D} (h : Typed Tryz.prog t cs) : ∃ x : TL, D.agg cs = tlD x ∧ x.2.length ≤ 9223372036854775807 := by
  have hf0 := typed_fields hft h
  obtain ⟨a, b, rfl, ha, hf1⟩ := typedF_cons hf0
  obtain ⟨s, rfl, -⟩ := typed_str un9 ha
  obtain ⟨a, b2, rfl, ha, hf2⟩ := typedF_cons hf1
  obtain ⟨xs, rfl, hl, hx⟩ := typed_slice un27 ha
  cases typedF_nil hf2
  obtain ⟨l, rfl⟩ := typedE_ints un3 (by kernel_rfl) hx
  exact ⟨(s, l), rfl, Nat.le_trans (by simpa using hl) (by decide)⟩
theorem lay_of_typed {cs : List D} (h : Typed Tryz.prog 26 cs) : ∃ (ss fs : List TL) (ls : List D), D.agg cs = layD ss fs ls ∧ stripL ls = some ls ∧ (∀ x ∈ ss, x.2.length ≤ 9223372036854775807) ∧ ∀ x ∈ fs, x.2.length ≤ 9223372036854775807 := by
  have hf0 := typed_fields ftLayout h
  obtain ⟨a, b, rfl, ha, hf1⟩ := typedF_cons hf0
  obtain ⟨x1, rfl, -, h1⟩ := typed_slice un22 ha
  obtain ⟨a, b, rfl, ha, hf2⟩ := typedF_cons hf1
  obtain ⟨x2, rfl, -, h2⟩ := typed_slice un23 ha
  obtain ⟨a, b, rfl, ha, hf3⟩ := typedF_cons hf2
  obtain ⟨x3, rfl, -, h3⟩ := typed_slice un24 ha
  cases typedF_nil hf3
  obtain ⟨ss, rfl, hs⟩ := typedE_aggI (by kernel_rfl) h1 tlD (fun x => x.2.length ≤ 9223372036854775807) fun cs _ hc => tl_of_typed ftScript hc
  obtain ⟨fs, rfl, hf⟩ := typedE_aggI (by kernel_rfl) h2 tlD (fun x => x.2.length ≤ 9223372036854775807) fun cs _ hc => tl_of_typed ftFeature hc
  exact ⟨ss, fs, x3, rfl, typedE_strip h3, hs, hf⟩
end Go.Proofs.W
end
