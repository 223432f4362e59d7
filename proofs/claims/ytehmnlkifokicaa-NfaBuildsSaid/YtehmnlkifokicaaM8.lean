/- Texts that stand behind this claim, one after the other. -/
import Derived.Test.YtehmnlkifokicaaM6
import Derived.Test.YtehmnlkifokicaaM7
/- The machine of an expression, walked. -/
section
set_option maxHeartbeats 4000000
set_option linter.unusedVariables false
set_option linter.unusedSimpArgs false
namespace Go.Proofs.W
open Go Vm Go.Proofs.Zsb6

theorem addState_lens {n : Nfa} : (addState n).set.length = n.set.length + 1 := by simp [addState]
theorem fl_le (n : Nfa) (f : Nat) : (n.free.getD f []).length ≤ fN n := le_fN
/-- what make holds behind its kids -/
structure Held (M : Nat) (H : Heap) (L : List D) (q : Nat) (r : Rx) (dK : D) (ps : List (Nat × Nat)) (n : Nfa) (ds : List D) (H' : Heap) : Prop where
  ma : MkAt M n ds H'
  mv : Mv6 L H (mkL M ds) H'
  hq : hget H' q = .arr [rxD r]
  hl : H.length ≤ q
  nq : ¬ own (mkL M ds) q
  ql : q < H'.length
  vK : VecIs dK H' (psD ps)
  nK : ∀ r ∈ objsD dK, H.length ≤ r ∧ ¬ own (mkL M ds) r
theorem Held.next {M : Nat} {H : Heap} {L : List D} {q : Nat} {r : Rx} {dK : D} {ps : List (Nat × Nat)} {n n' : Nfa} {ds ds' : List D} {H1 H2 : Heap} (h : Held M H L q r dK ps n ds H1) (hm : MkAt M n' ds' H2) (hv : Mv6 (mkL M ds) H1 (mkL M ds') H2) : Held M H L q r dK ps n' ds' H2 := by
  refine ⟨hm, h.mv.trans hv, by rw [hv.keep q h.ql h.nq, h.hq], h.hl, fun ho => ?_, by have := hv.len; have := h.ql; omega, vec_keep h.vK hv.len fun r hr => hv.keep r (vec_lt h.vK hr) (h.nK r hr).2, fun r hr => ⟨(h.nK r hr).1, fun ho => ?_⟩⟩
  · rcases hv.ow q ho with h1 | h1
    · exact h.nq h1
    · have := h.ql; omega
  · rcases hv.ow r ho with h1 | h1
    · exact (h.nK r hr).2 h1
    · have := vec_lt h.vK hr; omega
theorem Held.grow {M : Nat} {H : Heap} {L : List D} {q : Nat} {r : Rx} {dK : D} {ps : List (Nat × Nat)} {n : Nfa} {ds : List D} {H1 : Heap} (h : Held M H L q r dK ps n ds H1) (ob : List Ob) : Held M H L q r dK ps n ds (H1 ++ ob) :=
  ⟨h.ma.keep (by simp) fun r hr => hget_app_lt (own_lt h.ma.ms hr), ⟨fun r hr ho => by rw [hget_app_lt (by have := h.mv.len; omega), h.mv.keep r hr ho], by have := h.mv.len; simp; omega, h.mv.ow⟩, by rw [hget_app_lt h.ql]; exact h.hq, h.hl, h.nq, by have := h.ql; simp; omega, vec_keep h.vK (by simp) fun r hr => hget_app_lt (vec_lt h.vK hr), h.nK⟩
theorem Held.free {M : Nat} {H : Heap} {L : List D} {q : Nat} {r : Rx} {dK : D} {ps : List (Nat × Nat)} {n : Nfa} {ds : List D} {H1 : Heap} (h : Held M H L q r dK ps n ds H1) (f : Nat) (hf : f < kN n) (t : Int) (bk : kN n ≤ 100000) (bf : fN n ≤ 100000) :
    EvF Try.prog A 18 [.ptr M 0 0, .int .i64 f, .int .i64 t] H1 (fun _ H' => ∃ ds', Held M H L q r dK ps (addFree n f t) ds' H' ∧ Mv6 (mkL M ds) H1 (mkL M ds') H') (fun _ _ => False) :=
  (free_ok M n ds H1 h.ma bk f hf t (by have := fl_le n f; omega)).mono (fun _ _ ⟨ds', h1, h2⟩ => ⟨ds', h.next h1 h2, h2⟩) (fun _ _ h => h)
theorem ps_get {d : D} {H : Heap} {ps : List (Nat × Nat)} {j : Nat} (h : VecIs d H (psD ps)) (hj : j < ps.length) : ∃ r, d = .vec r 0 ps.length ∧ hget H r = .arr (psD ps) ∧ r < H.length ∧ (psD ps)[j]? = some (pD ps[j]) ∧ vecO (.arr (psD ps)) 2 = true := by
  have hne : psD ps ≠ [] := by intro e; have := congrArg List.length e; simp [psD] at this; subst this; simp at hj
  obtain ⟨r, h1, h2, h3⟩ := vec_get h hne
  exact ⟨r, by simpa [psD] using h1, h2, h3, by simp [psD, hj], vecO_arr hne (headPs _)⟩
theorem vec_at {rK o m : Nat} {H : Heap} {xs : List D} (h : VecIs (.vec rK o m) H xs) : hget H rK = .arr xs ∧ rK < H.length := by
  rcases h with ⟨_, h⟩ | ⟨_, r, h, h2, h3⟩
  · cases h
  · cases h; exact ⟨h2, h3⟩
theorem len_size : ∀ l : List Rx, l.length ≤ sizeL l
  | [] => Nat.le_refl _
  | r :: l => by have := len_size l; have := sizeR_pos r; simp only [List.length_cons, sizeL]; omega
theorem make_ok : ∀ (m : Nat) (r : Rx), depth r ≤ m → shapesR r = true → okR r → MakeOk r := by
  intro m
  induction m with
  | zero => intro r h; cases r; simp [depth] at h
  | succ m ih =>
    rintro ⟨k, s, l⟩ hd hs hr M n ds H h b1 b2
    have hkids : ∀ x ∈ l, MakeOk x := by
      intro x hx
      simp only [shapesR, Bool.and_eq_true, shapesL_eq, List.all_eq_true] at hs
      refine ih x ?_ (hs.2 x hx) (okL_get hr.2.2.2.2.2 x hx)
      simp only [depth] at hd
      have : ∀ (l : List Rx), x ∈ l → depth x ≤ depthL l := by
        intro l
        induction l with
        | nil => intro h; cases h
        | cons y l ih =>
          intro h
          simp only [depthL]
          rcases List.mem_cons.1 h with rfl | h
          · omega
          · have := ih h; omega
      have := this l hx
      omega
    simp only [shapesR, Bool.and_eq_true, shape1] at hs
    obtain ⟨hsh, hsl⟩ := hs
    simp only [sizeR] at b1 b2
    have hMl := h.ms.m
    have hS1 := state_ok M n ds (H ++ [Ob.arr [rxD (.mk k s l)]]) (h.keep (by simp) fun r hr => hget_app_lt (own_lt h.ms hr)) (by simp only [kN] at b1; omega)
    have q1 := rx_cells (.mk k s l)
    have q2 := rx_aggQ (.mk k s l)
    have q3 := rx_noTup (.mk k s l)
    refine evF_inB (n := 122) (rs := [.tmp 4, .tmp 5]) Try.func17 rfl rfl rfl rfl rfl rfl ?_
    simp only [rx_mk] at hS1
    repeat' (first | refine wz1 ?_ | refine wz2 ?_ | refine wz3 ?_ | refine wz4 ?_ | refine wz5 ?_ | refine wz6 ?_ | simp -dsimp (maxSteps:=999999) (disch:=omega) only[go_sem,simprocAttr, *] | ((first | refine wz8 (fun hh => ?_) (fun hh => ?_) | refine wz9 (fun hh => ?_) (fun hh => ?_) | refine wz7 (fun hh => ?_) (fun hh => ?_)) <;> (try replace hh := vqs hh) <;> (try (exfalso; first | exact hh | omega))))
    refine evB_state bo15 rfl rfl hS1 ?_ (fun _ _ h => h.elim)
    rintro _ H1 ⟨rfl, ds1, hm1, hv1⟩
    have hv1l := hv1.len
    simp only [List.length_append, List.length_cons, List.length_nil] at hv1l
    have hq1 : hget H1 H.length = .arr [rxD (.mk k s l)] := by
      rw [hv1.keep H.length (by simp) (fun ho => by have := own_lt h.ms ho; omega), hget_app0]; rfl
    have hnq1 : ¬ own (mkL M ds1) H.length := fun ho => by
      rcases hv1.ow _ ho with h1 | h1
      · have := own_lt h.ms h1; omega
      · simp at h1; omega
    have hK := kids_ok k s l hkids (by have := len_size l; omega) M (addState n) ds1 H1 hm1 (by rw [addState_k]; omega) (by rw [addState_f]; omega)
    simp only [rx_mk] at hq1 hK
    repeat' (first | refine wz1 ?_ | refine wz2 ?_ | refine wz3 ?_ | refine wz4 ?_ | refine wz5 ?_ | refine wz6 ?_ | simp -dsimp (maxSteps:=999999) (disch:=omega) only[go_sem,simprocAttr, *] | ((first | refine wz8 (fun hh => ?_) (fun hh => ?_) | refine wz9 (fun hh => ?_) (fun hh => ?_) | refine wz7 (fun hh => ?_) (fun hh => ?_)) <;> (try replace hh := vqs hh) <;> (try (exfalso; first | exact hh | omega))))
    refine evB_state bo28 rfl rfl hK ?_ (fun _ _ h => h.elim)
    rintro dK H2 ⟨ds2, hm2, hv2, hvK, hnK⟩
    have hv2l := hv2.len
    have hH2 : Held M H (mkL M ds) H.length (.mk k s l) dK (kidsN l (addState n)).2 (kidsN l (addState n)).1 ds2 H2 := by
      refine ⟨hm2, ?_, by rw [hv2.keep _ (by omega) hnq1, hq1]; rfl, Nat.le_refl _, fun ho => ?_, by omega, hvK, fun r hr => ⟨by have := (hnK r hr).1; omega, (hnK r hr).2⟩⟩
      · refine Mv6.trans ⟨fun r hr ho => ?_, by omega, fun r ho => ?_⟩ hv2
        · rw [hv1.keep r (by simp; omega) ho, hget_app_lt hr]
        · rcases hv1.ow r ho with h1 | h1
          · exact .inl h1
          · exact .inr (by simp at h1; omega)
      · rcases hv2.ow _ ho with h1 | h1
        · exact hnq1 h1
        · omega
    have hkk := kidsN_k l (addState n)
    have hff := kidsN_f l (addState n)
    have hin := kidsN_in l (addState n)
    rw [addState_k] at hkk hin
    rw [addState_f] at hff
    have hlen := kidsN_len l (addState n)
    have hmake : makeN (.mk k s l) n = (wire k s n.set.length (kidsN l (addState n)).1.set.length (kidsN l (addState n)).2 (addState (kidsN l (addState n)).1), (n.set.length, (kidsN l (addState n)).1.set.length)) := by rw [makeN]
    rw [hmake]
    clear hmake hK hS1 hnK hvK hv1 hq1 hnq1 hm1 hkids hv2
    generalize hQ : kidsN l (addState n) = Q at *
    obtain ⟨n2, ps⟩ := Q
    clear hQ
    simp only at hH2 hkk hff hin hlen hm2 ⊢
    have hS2 := state_ok M n2 ds2 H2 hm2 (by simp only [kN] at hkk b1; omega)
    repeat' (first | refine wz1 ?_ | refine wz2 ?_ | refine wz3 ?_ | refine wz4 ?_ | refine wz5 ?_ | refine wz6 ?_ | simp -dsimp (maxSteps:=999999) (disch:=omega) only[go_sem,simprocAttr, *] | ((first | refine wz8 (fun hh => ?_) (fun hh => ?_) | refine wz9 (fun hh => ?_) (fun hh => ?_) | refine wz7 (fun hh => ?_) (fun hh => ?_)) <;> (try replace hh := vqs hh) <;> (try (exfalso; first | exact hh | omega))))
    refine evB_state bo15 rfl rfl hS2 ?_ (fun _ _ h => h.elim)
    rintro _ H3 ⟨rfl, ds3, hm3, hv3⟩
    have hH3 := hH2.next hm3 hv3
    have hq3 := hH3.hq
    simp only [rx_mk] at hq3
    have hk3 := addState_k n2
    have hf3 := addState_f n2
    clear hS2 hm2 hH2 hv3 hv2l hv1l hm3
    obtain ⟨hr1, hr2, hr3, hr4, hr5, hr6⟩ := hr
    have u1 : n.set.length + 1 + 2 * sizeL l ≤ n2.set.length := by simp only [kN] at hkk; omega
    have u2 : n2.set.length ≤ n.set.length + 1 + 2 * sizeL l := by simp only [kN] at hkk; omega
    have u3 : (addState n2).set.length ≤ n2.set.length + 1 := by simp only [kN] at hk3; omega
    have u4 : n2.set.length + 1 ≤ (addState n2).set.length := by simp only [kN] at hk3; omega
    have u5 : fN (addState n2) + 2 * ps.length + 6 ≤ 90000 := by omega
    have u6 : ps.length ≤ l.length ∧ l.length ≤ ps.length := by omega
    have u7 : n.set.length + 2 * sizeL l + 2 ≤ 90000 := by simp only [kN] at b1; omega
    have u8 : l.length ≤ sizeL l := len_size l
    have hin' : ∀ p ∈ ps, p.1 < n2.set.length ∧ p.2 < n2.set.length := fun p hp => by have := hin p hp; simp only [kN] at this; omega
    clear hkk hk3 hf3 hlen hin hff b1 b2
    have hneK : ∀ HH, lenU (some (TypeDesc.slice 62)) HH dK = some ps.length := fun HH => by
      rcases hH3.vK with ⟨e1, rfl⟩ | ⟨e1, r, rfl, -, -⟩
      · have : ps = [] := by simpa [psD] using e1
        subst this; rfl
      · simp [lenU, psD]
    by_cases h0 : k = 0
    · subst h0
      have hF := hH3.free n.set.length (by simp only [kN]; omega) (n2.set.length : Int) (by simp only [kN]; omega) (by omega)
      repeat' (first | refine wz1 ?_ | refine wz2 ?_ | refine wz3 ?_ | refine wz4 ?_ | refine wz5 ?_ | refine wz6 ?_ | simp -dsimp (maxSteps:=999999) (disch:=omega) only[go_sem,simprocAttr, *] | ((first | refine wz8 (fun hh => ?_) (fun hh => ?_) | refine wz9 (fun hh => ?_) (fun hh => ?_) | refine wz7 (fun hh => ?_) (fun hh => ?_)) <;> (try replace hh := vqs hh) <;> (try (exfalso; first | exact hh | omega))))
      refine evB_state bo18 rfl rfl hF ?_ (fun _ _ h => h.elim)
      rintro _ H4 ⟨ds4, hH4, -⟩
      repeat' (first | refine wz1 ?_ | refine wz2 ?_ | refine wz3 ?_ | refine wz4 ?_ | refine wz5 ?_ | refine wz6 ?_ | simp -dsimp (maxSteps:=999999) (disch:=omega) only[go_sem,simprocAttr, *] | ((first | refine wz8 (fun hh => ?_) (fun hh => ?_) | refine wz9 (fun hh => ?_) (fun hh => ?_) | refine wz7 (fun hh => ?_) (fun hh => ?_)) <;> (try replace hh := vqs hh) <;> (try (exfalso; first | exact hh | omega))))
      exact ⟨rfl, ds4, by simpa [wire] using hH4.ma, hH4.mv⟩
    by_cases h1 : k = 1
    · subst h1
      obtain ⟨ms, hM, hdl, lS, lT, lR⟩ := hH3.ma
      obtain ⟨dF, dS, dT, dR, fs, rfl⟩ := ds_four hdl
      simp only [List.take_succ_cons, List.take_zero, List.drop_succ_cons, List.drop_zero] at ms hM
      have hneS : (addState n2).set.map (D.int .u16) ≠ [] := by intro e; have := congrArg List.length e; simp at this; rw [this] at u4; simp at u4
      have hneT : (addState n2).to.map (D.int .i64) ≠ [] := by intro e; have := congrArg List.length e; simp at this; rw [this] at lT; simp at lT; omega
      obtain ⟨rS, hdS, hgS, hrS⟩ := vec_get (ms.v 1 (by simp)) (by simpa [nfaX] using hneS)
      obtain ⟨rT, hdT, hgT, hrT⟩ := vec_get (ms.v 2 (by simp)) (by simpa [nfaX] using hneT)
      simp only [List.getD_cons_zero, List.getD_cons_succ, nfaX, List.length_map] at hdS hgS hdT hgT
      have n1 : rS ≠ rT := fun e => ms.ap 2 3 (by omega) rS (by simp [hdS, objsD]) (by simp [hdT, objsD, e])
      have n2' : rS ≠ M := fun e => ms.notM (i := 1) (by simp [hdS, objsD, e])
      have n3 : rT ≠ M := fun e => ms.notM (i := 2) (by simp [hdT, objsD, e])
      have n4 : rS ≠ H.length := fun e => hH3.nq ⟨2, by simp [hdS, objsD, e]⟩
      have n5 : rT ≠ H.length := fun e => hH3.nq ⟨3, by simp [hdT, objsD, e]⟩
      have voS : vecO (.arr ((addState n2).set.map (D.int .u16))) 1 = true := vecO_arr hneS (headU16 _)
      have voT : vecO (.arr ((addState n2).to.map (D.int .i64))) 1 = true := vecO_arr hneT (headInts _)
      have m1 := ms.setv (p := 1) (r := rS) (n := (addState n2).set.length) (by simp) (by simpa using hdS) (xs := ((addState n2).set.set n.set.length s).map (.int .u16)) (by simp) (by omega)
      have m2 := m1.setv (p := 2) (r := rT) (n := (addState n2).to.length) (by simp) (by simpa using hdT) (xs := ((addState n2).to.set n.set.length (n2.set.length : Int)).map (.int .i64)) (by simp) (by omega)
      have hfin : ∃ ds', MkAt M (wire 1 s n.set.length n2.set.length ps (addState n2)) ds' ((H3.set rS (.arr (((addState n2).set.map (D.int .u16)).set n.set.length (.int .u16 s)))).set rT (.arr (((addState n2).to.map (D.int .i64)).set n.set.length (.int .i64 n2.set.length)))) ∧ Mv6 (mkL M ds) H (mkL M ds') ((H3.set rS (.arr (((addState n2).set.map (D.int .u16)).set n.set.length (.int .u16 s)))).set rT (.arr (((addState n2).to.map (D.int .i64)).set n.set.length (.int .i64 n2.set.length)))) := by
        rw [← List.map_set, ← List.map_set]
        refine ⟨dF :: dS :: dT :: dR :: fs, ⟨by simpa [nfaX, wire, setTo] using m2, ?_, by simp, by simp [wire, setTo, lS], by simp [wire, setTo, lT], by simp [wire, setTo, lR]⟩, hH3.mv.trans ⟨fun r hr ho => ?_, by simp, fun r h => .inl h⟩⟩
        · rw [hget_set_ne n3, hget_set_ne n2', hM]; rfl
        · rw [hget_set_ne fun e => ho ⟨3, by simp [hdT, objsD, e]⟩, hget_set_ne fun e => ho ⟨2, by simp [hdS, objsD, e]⟩]
      clear m1 m2 hneS hneT
      have lT' : (addState n2).to.length = (addState n2).set.length := lT
      subst hdS hdT
      clear lS lT lR
      repeat' (first | refine wz1 ?_ | refine wz2 ?_ | refine wz3 ?_ | refine wz4 ?_ | refine wz5 ?_ | refine wz6 ?_ | simp -dsimp (maxSteps:=999999) (disch:=omega) only[go_sem,simprocAttr, *] | ((first | refine wz8 (fun hh => ?_) (fun hh => ?_) | refine wz9 (fun hh => ?_) (fun hh => ?_) | refine wz7 (fun hh => ?_) (fun hh => ?_)) <;> (try replace hh := vqs hh) <;> (try (exfalso; first | exact hh | omega))))
      refine wpB_regionXL (prs := []) (by kernel_rfl) rfl (by kernel_rfl) ?_
      simp -dsimp (maxSteps:=999999) (disch:=omega) only[go_sem,simprocAttr, *]
      repeat' (first | refine wz1 ?_ | refine wz2 ?_ | refine wz3 ?_ | refine wz4 ?_ | refine wz5 ?_ | refine wz6 ?_ | simp -dsimp (maxSteps:=999999) (disch:=omega) only[go_sem,simprocAttr, *] | ((first | refine wz8 (fun hh => ?_) (fun hh => ?_) | refine wz9 (fun hh => ?_) (fun hh => ?_) | refine wz7 (fun hh => ?_) (fun hh => ?_)) <;> (try replace hh := vqs hh) <;> (try (exfalso; first | exact hh | omega))))
      first | rfl | exact ⟨rfl, hfin⟩
    by_cases h2 : k = 2
    · subst h2
      repeat' (first | refine wz1 ?_ | refine wz2 ?_ | refine wz3 ?_ | refine wz4 ?_ | refine wz5 ?_ | refine wz6 ?_ | simp -dsimp (maxSteps:=999999) (disch:=omega) only[go_sem,simprocAttr, *] | ((first | refine wz8 (fun hh => ?_) (fun hh => ?_) | refine wz9 (fun hh => ?_) (fun hh => ?_) | refine wz7 (fun hh => ?_) (fun hh => ?_)) <;> (try replace hh := vqs hh) <;> (try (exfalso; first | exact hh | omega))))
      obtain ⟨PS, hPS⟩ : ∃ PS, PS = ps := ⟨_, rfl⟩
      refine wpB_loop (fun e Hj => ∃ (j last : Nat) (nj : Nfa) (dsj : List D), j ≤ ps.length ∧ last < kN (addState n2) ∧ Held M H (mkL M ds) H.length (.mk 2 s l) dK ps nj dsj Hj ∧ kN nj ≤ kN (addState n2) ∧ kN (addState n2) ≤ kN nj ∧ fN nj ≤ fN (addState n2) + j ∧ catW n2.set.length nj last (ps.drop j) = wire 2 s n.set.length n2.set.length ps (addState n2)
        ∧ e 0 = .ptr M 0 0 ∧ e 6 = .int .i64 n.set.length ∧ e 8 = .int .i64 n2.set.length ∧ e 9 = .int .i64 last ∧ e 57 = dK ∧ e 58 = .int .i64 ps.length ∧ e 59 = .int .i64 j) (fun e H => ps.length - natOf (e 59)) ?_ ?_
      · exact ⟨0, n.set.length, _, ds3, by omega, by simp only [kN]; omega, hH3, Nat.le_refl _, Nat.le_refl _, by omega, by simp [wire], gs, gs, gs, gs, gs, gs, gs⟩
      clear hH3 hq3 hPS PS
      rintro e Hj ⟨j, last, nj, dsj, hj, hlast, hHj, k1, k2, hfj, hw, e0, e6, e8, e9, e57, e58, e59⟩ R hR
      by_cases hb : j < ps.length
      · obtain ⟨rK, hdK, hgK, hrK, hpj, hvo⟩ := ps_get hHj.vK hb
        have hpn := hin' ps[j] (List.getElem_mem hb)
        have hF := (hHj.grow [Ob.arr [pD ps[j]]]).free last (by omega) (ps[j].1 : Int) (by simp only [kN] at k1 ⊢; omega) (by omega)
        rw [List.drop_eq_getElem_cons hb, catW] at hw
        simp only [pD] at hpj hF
        repeat' (first | refine wz1 ?_ | refine wz2 ?_ | refine wz3 ?_ | refine wz4 ?_ | refine wz5 ?_ | refine wz6 ?_ | simp -dsimp (maxSteps:=999999) (disch:=omega) only[go_sem,simprocAttr, *] | ((first | refine wz8 (fun hh => ?_) (fun hh => ?_) | refine wz9 (fun hh => ?_) (fun hh => ?_) | refine wz7 (fun hh => ?_) (fun hh => ?_)) <;> (try replace hh := vqs hh) <;> (try (exfalso; first | exact hh | omega))))
        refine evB_state bo18 rfl rfl hF ?_ (fun _ _ h => h.elim)
        rintro _ H4 ⟨ds4, hH4, hv4⟩
        have hp4 : hget H4 Hj.length = .arr [.agg [.int .i64 ps[j].1, .int .i64 ps[j].2]] := by
          rw [hv4.keep Hj.length (by simp) (fun ho => by have := own_lt hHj.ma.ms ho; omega), hget_app0]; rfl
        repeat' (first | refine wz1 ?_ | refine wz2 ?_ | refine wz3 ?_ | refine wz4 ?_ | refine wz5 ?_ | refine wz6 ?_ | simp -dsimp (maxSteps:=999999) (disch:=omega) only[go_sem,simprocAttr, *] | ((first | refine wz8 (fun hh => ?_) (fun hh => ?_) | refine wz9 (fun hh => ?_) (fun hh => ?_) | refine wz7 (fun hh => ?_) (fun hh => ?_)) <;> (try replace hh := vqs hh) <;> (try (exfalso; first | exact hh | omega))))
        refine hR _ _ ⟨j + 1, ps[j].2, _, ds4, by omega, by simp only [kN]; omega, hH4, by rw [addFree_k]; exact k1, by rw [addFree_k]; exact k2, by have := addFree_f nj last (ps[j].1 : Int); omega, hw, gs, gs, gs, gs, gs, gs, gs⟩ ?_
        simp -dsimp (maxSteps:=999999) (disch:=omega) only[go_sem,simprocAttr, *,natOf_int]
      · rw [List.drop_eq_nil_of_le (by omega), catW] at hw
        have hF := hHj.free last (by omega) (n2.set.length : Int) (by simp only [kN] at k1 ⊢; omega) (by omega)
        repeat' (first | refine wz1 ?_ | refine wz2 ?_ | refine wz3 ?_ | refine wz4 ?_ | refine wz5 ?_ | refine wz6 ?_ | simp -dsimp (maxSteps:=999999) (disch:=omega) only[go_sem,simprocAttr, *] | ((first | refine wz8 (fun hh => ?_) (fun hh => ?_) | refine wz9 (fun hh => ?_) (fun hh => ?_) | refine wz7 (fun hh => ?_) (fun hh => ?_)) <;> (try replace hh := vqs hh) <;> (try (exfalso; first | exact hh | omega))))
        refine evB_state bo18 rfl rfl hF ?_ (fun _ _ h => h.elim)
        rintro _ H4 ⟨ds4, hH4, -⟩
        repeat' (first | refine wz1 ?_ | refine wz2 ?_ | refine wz3 ?_ | refine wz4 ?_ | refine wz5 ?_ | refine wz6 ?_ | simp -dsimp (maxSteps:=999999) (disch:=omega) only[go_sem,simprocAttr, *] | ((first | refine wz8 (fun hh => ?_) (fun hh => ?_) | refine wz9 (fun hh => ?_) (fun hh => ?_) | refine wz7 (fun hh => ?_) (fun hh => ?_)) <;> (try replace hh := vqs hh) <;> (try (exfalso; first | exact hh | omega))))
        exact ⟨rfl, ds4, by rw [← hw]; exact hH4.ma, hH4.mv⟩
    by_cases h3 : k = 3
    · subst h3
      repeat' (first | refine wz1 ?_ | refine wz2 ?_ | refine wz3 ?_ | refine wz4 ?_ | refine wz5 ?_ | refine wz6 ?_ | simp -dsimp (maxSteps:=999999) (disch:=omega) only[go_sem,simprocAttr, *] | ((first | refine wz8 (fun hh => ?_) (fun hh => ?_) | refine wz9 (fun hh => ?_) (fun hh => ?_) | refine wz7 (fun hh => ?_) (fun hh => ?_)) <;> (try replace hh := vqs hh) <;> (try (exfalso; first | exact hh | omega))))
      refine wpB_loop (fun e Hj => ∃ (j : Nat) (nj : Nfa) (dsj : List D), j ≤ ps.length ∧ Held M H (mkL M ds) H.length (.mk 3 s l) dK ps nj dsj Hj ∧ kN nj ≤ kN (addState n2) ∧ kN (addState n2) ≤ kN nj ∧ fN nj ≤ fN (addState n2) + 2 * j ∧ altW n.set.length n2.set.length nj (ps.drop j) = wire 3 s n.set.length n2.set.length ps (addState n2)
        ∧ e 0 = .ptr M 0 0 ∧ e 6 = .int .i64 n.set.length ∧ e 8 = .int .i64 n2.set.length ∧ e 75 = dK ∧ e 76 = .int .i64 ps.length ∧ e 77 = .int .i64 j) (fun e H => ps.length - natOf (e 77)) ?_ ?_
      · exact ⟨0, _, ds3, by omega, hH3, Nat.le_refl _, Nat.le_refl _, by omega, by simp [wire], gs, gs, gs, gs, gs, gs⟩
      clear hH3 hq3
      rintro e Hj ⟨j, nj, dsj, hj, hHj, k1, k2, hfj, hw, e0, e6, e8, e75, e76, e77⟩ R hR
      by_cases hb : j < ps.length
      · obtain ⟨rK, hdK, hgK, hrK, hpj, hvo⟩ := ps_get hHj.vK hb
        have hpn := hin' ps[j] (List.getElem_mem hb)
        have hF := (hHj.grow [Ob.arr [pD ps[j]]]).free n.set.length (by simp only [kN] at k2 ⊢; omega) (ps[j].1 : Int) (by simp only [kN] at k1 ⊢; omega) (by omega)
        rw [List.drop_eq_getElem_cons hb, altW] at hw
        simp only [pD] at hpj hF
        repeat' (first | refine wz1 ?_ | refine wz2 ?_ | refine wz3 ?_ | refine wz4 ?_ | refine wz5 ?_ | refine wz6 ?_ | simp -dsimp (maxSteps:=999999) (disch:=omega) only[go_sem,simprocAttr, *] | ((first | refine wz8 (fun hh => ?_) (fun hh => ?_) | refine wz9 (fun hh => ?_) (fun hh => ?_) | refine wz7 (fun hh => ?_) (fun hh => ?_)) <;> (try replace hh := vqs hh) <;> (try (exfalso; first | exact hh | omega))))
        refine evB_state bo18 rfl rfl hF ?_ (fun _ _ h => h.elim)
        rintro _ H4 ⟨ds4, hH4, hv4⟩
        have hp4 : hget H4 Hj.length = .arr [.agg [.int .i64 ps[j].1, .int .i64 ps[j].2]] := by
          rw [hv4.keep Hj.length (by simp) (fun ho => by have := own_lt hHj.ma.ms ho; omega), hget_app0]; rfl
        have hf4 := addFree_f nj n.set.length (ps[j].1 : Int)
        have hF2 := hH4.free ps[j].2 (by show ps[j].2 < nj.set.length; simp only [kN] at k2; omega) (n2.set.length : Int) (by rw [addFree_k]; simp only [kN] at k1 ⊢; omega) (by omega)
        repeat' (first | refine wz1 ?_ | refine wz2 ?_ | refine wz3 ?_ | refine wz4 ?_ | refine wz5 ?_ | refine wz6 ?_ | simp -dsimp (maxSteps:=999999) (disch:=omega) only[go_sem,simprocAttr, *] | ((first | refine wz8 (fun hh => ?_) (fun hh => ?_) | refine wz9 (fun hh => ?_) (fun hh => ?_) | refine wz7 (fun hh => ?_) (fun hh => ?_)) <;> (try replace hh := vqs hh) <;> (try (exfalso; first | exact hh | omega))))
        refine evB_state bo18 rfl rfl hF2 ?_ (fun _ _ h => h.elim)
        rintro _ H5 ⟨ds5, hH5, hv5⟩
        repeat' (first | refine wz1 ?_ | refine wz2 ?_ | refine wz3 ?_ | refine wz4 ?_ | refine wz5 ?_ | refine wz6 ?_ | simp -dsimp (maxSteps:=999999) (disch:=omega) only[go_sem,simprocAttr, *] | ((first | refine wz8 (fun hh => ?_) (fun hh => ?_) | refine wz9 (fun hh => ?_) (fun hh => ?_) | refine wz7 (fun hh => ?_) (fun hh => ?_)) <;> (try replace hh := vqs hh) <;> (try (exfalso; first | exact hh | omega))))
        refine hR _ _ ⟨j + 1, _, ds5, by omega, hH5, by rw [addFree_k, addFree_k]; exact k1, by rw [addFree_k, addFree_k]; exact k2, by have := addFree_f (addFree nj n.set.length (ps[j].1 : Int)) ps[j].2 (n2.set.length : Int); omega, hw, gs, gs, gs, gs, gs, gs⟩ ?_
        simp -dsimp (maxSteps:=999999) (disch:=omega) only[go_sem,simprocAttr, *,natOf_int]
      · rw [List.drop_eq_nil_of_le (by omega), altW] at hw
        repeat' (first | refine wz1 ?_ | refine wz2 ?_ | refine wz3 ?_ | refine wz4 ?_ | refine wz5 ?_ | refine wz6 ?_ | simp -dsimp (maxSteps:=999999) (disch:=omega) only[go_sem,simprocAttr, *] | ((first | refine wz8 (fun hh => ?_) (fun hh => ?_) | refine wz9 (fun hh => ?_) (fun hh => ?_) | refine wz7 (fun hh => ?_) (fun hh => ?_)) <;> (try replace hh := vqs hh) <;> (try (exfalso; first | exact hh | omega))))
        exact ⟨rfl, dsj, by rw [← hw]; exact hHj.ma, hHj.mv⟩
    by_cases h4 : k = 4
    · subst h4
      obtain ⟨p, rfl⟩ : ∃ p, ps = [p] := by
        have : ps.length = 1 := by simp at hsh; omega
        match ps, this with
        | [p], _ => exact ⟨p, rfl⟩
      obtain ⟨rK, hdK, hgK, hrK, -, hvo⟩ := ps_get (j := 0) hH3.vK (by simp)
      have hpn := hin' p (by simp)
      simp only [psD, List.map_cons, List.map_nil, pD] at hgK hvo
      simp only [List.length_cons, List.length_nil] at hdK u5
      subst hdK
      have hF := hH3.free p.2 (by simp only [kN]; omega) (p.1 : Int) (by simp only [kN]; omega) (by omega)
      repeat' (first | refine wz1 ?_ | refine wz2 ?_ | refine wz3 ?_ | refine wz4 ?_ | refine wz5 ?_ | refine wz6 ?_ | simp -dsimp (maxSteps:=999999) (disch:=omega) only[go_sem,simprocAttr, *] | ((first | refine wz8 (fun hh => ?_) (fun hh => ?_) | refine wz9 (fun hh => ?_) (fun hh => ?_) | refine wz7 (fun hh => ?_) (fun hh => ?_)) <;> (try replace hh := vqs hh) <;> (try (exfalso; first | exact hh | omega))))
      refine wpB_regionXL (prs := []) (by kernel_rfl) rfl (by kernel_rfl) ?_
      simp -dsimp (maxSteps:=999999) (disch:=omega) only[go_sem,simprocAttr, *]
      refine ⟨fun h => absurd h (by decide), evB_state bo18 rfl rfl hF ?_ (fun _ _ h => h.elim)⟩
      rintro _ H4 ⟨ds4, hH4, -⟩
      have g4 := (vec_at hH4.vK).1
      have f4 := addFree_f (addState n2) p.2 (p.1 : Int)
      simp only [psD, List.map_cons, List.map_nil, pD] at g4
      have hFa := hH4.free n.set.length (by show n.set.length < (addState n2).set.length; omega) (p.1 : Int) (by show (addState n2).set.length ≤ 100000; omega) (by omega)
      repeat' (first | refine wz1 ?_ | refine wz2 ?_ | refine wz3 ?_ | refine wz4 ?_ | refine wz5 ?_ | refine wz6 ?_ | simp -dsimp (maxSteps:=999999) (disch:=omega) only[go_sem,simprocAttr, *] | ((first | refine wz8 (fun hh => ?_) (fun hh => ?_) | refine wz9 (fun hh => ?_) (fun hh => ?_) | refine wz7 (fun hh => ?_) (fun hh => ?_)) <;> (try replace hh := vqs hh) <;> (try (exfalso; first | exact hh | omega))))
      refine evB_state bo18 rfl rfl hFa ?_ (fun _ _ h => h.elim)
      rintro _ H5 ⟨ds5, hH5, -⟩
      have g5 := (vec_at hH5.vK).1
      have f5 := addFree_f (addFree (addState n2) p.2 p.1) n.set.length (p.1 : Int)
      simp only [psD, List.map_cons, List.map_nil, pD] at g5
      have hFb := hH5.free n.set.length (by show n.set.length < (addState n2).set.length; omega) (n2.set.length : Int) (by show (addState n2).set.length ≤ 100000; omega) (by omega)
      repeat' (first | refine wz1 ?_ | refine wz2 ?_ | refine wz3 ?_ | refine wz4 ?_ | refine wz5 ?_ | refine wz6 ?_ | simp -dsimp (maxSteps:=999999) (disch:=omega) only[go_sem,simprocAttr, *] | ((first | refine wz8 (fun hh => ?_) (fun hh => ?_) | refine wz9 (fun hh => ?_) (fun hh => ?_) | refine wz7 (fun hh => ?_) (fun hh => ?_)) <;> (try replace hh := vqs hh) <;> (try (exfalso; first | exact hh | omega))))
      refine evB_state bo18 rfl rfl hFb ?_ (fun _ _ h => h.elim)
      rintro _ H6 ⟨ds6, hH6, -⟩
      have g6 := (vec_at hH6.vK).1
      have f6 := addFree_f (addFree (addFree (addState n2) p.2 p.1) n.set.length (p.1 : Int)) n.set.length (n2.set.length : Int)
      simp only [psD, List.map_cons, List.map_nil, pD] at g6
      have hFc := hH6.free p.2 (by show p.2 < (addState n2).set.length; omega) (n2.set.length : Int) (by show (addState n2).set.length ≤ 100000; omega) (by omega)
      repeat' (first | refine wz1 ?_ | refine wz2 ?_ | refine wz3 ?_ | refine wz4 ?_ | refine wz5 ?_ | refine wz6 ?_ | simp -dsimp (maxSteps:=999999) (disch:=omega) only[go_sem,simprocAttr, *] | ((first | refine wz8 (fun hh => ?_) (fun hh => ?_) | refine wz9 (fun hh => ?_) (fun hh => ?_) | refine wz7 (fun hh => ?_) (fun hh => ?_)) <;> (try replace hh := vqs hh) <;> (try (exfalso; first | exact hh | omega))))
      refine evB_state bo18 rfl rfl hFc ?_ (fun _ _ h => h.elim)
      rintro _ H7 ⟨ds7, hH7, -⟩
      repeat' (first | refine wz1 ?_ | refine wz2 ?_ | refine wz3 ?_ | refine wz4 ?_ | refine wz5 ?_ | refine wz6 ?_ | simp -dsimp (maxSteps:=999999) (disch:=omega) only[go_sem,simprocAttr, *] | ((first | refine wz8 (fun hh => ?_) (fun hh => ?_) | refine wz9 (fun hh => ?_) (fun hh => ?_) | refine wz7 (fun hh => ?_) (fun hh => ?_)) <;> (try replace hh := vqs hh) <;> (try (exfalso; first | exact hh | omega))))
      exact ⟨rfl, ds7, by simpa [wire, optW] using hH7.ma, hH7.mv⟩
    by_cases h5 : k = 5
    · subst h5
      obtain ⟨p, rfl⟩ : ∃ p, ps = [p] := by
        have : ps.length = 1 := by simp at hsh; omega
        match ps, this with
        | [p], _ => exact ⟨p, rfl⟩
      obtain ⟨rK, hdK, hgK, hrK, -, hvo⟩ := ps_get (j := 0) hH3.vK (by simp)
      have hpn := hin' p (by simp)
      simp only [psD, List.map_cons, List.map_nil, pD] at hgK hvo
      simp only [List.length_cons, List.length_nil] at hdK u5
      subst hdK
      have hH4 := hH3
      have g4 := hgK
      have hFa := hH4.free n.set.length (by show n.set.length < (addState n2).set.length; omega) (p.1 : Int) (by show (addState n2).set.length ≤ 100000; omega) (by omega)
      repeat' (first | refine wz1 ?_ | refine wz2 ?_ | refine wz3 ?_ | refine wz4 ?_ | refine wz5 ?_ | refine wz6 ?_ | simp -dsimp (maxSteps:=999999) (disch:=omega) only[go_sem,simprocAttr, *] | ((first | refine wz8 (fun hh => ?_) (fun hh => ?_) | refine wz9 (fun hh => ?_) (fun hh => ?_) | refine wz7 (fun hh => ?_) (fun hh => ?_)) <;> (try replace hh := vqs hh) <;> (try (exfalso; first | exact hh | omega))))
      refine evB_state bo18 rfl rfl hFa ?_ (fun _ _ h => h.elim)
      rintro _ H5 ⟨ds5, hH5, -⟩
      have g5 := (vec_at hH5.vK).1
      have f5 := addFree_f (addState n2) n.set.length (p.1 : Int)
      simp only [psD, List.map_cons, List.map_nil, pD] at g5
      have hFb := hH5.free n.set.length (by show n.set.length < (addState n2).set.length; omega) (n2.set.length : Int) (by show (addState n2).set.length ≤ 100000; omega) (by omega)
      repeat' (first | refine wz1 ?_ | refine wz2 ?_ | refine wz3 ?_ | refine wz4 ?_ | refine wz5 ?_ | refine wz6 ?_ | simp -dsimp (maxSteps:=999999) (disch:=omega) only[go_sem,simprocAttr, *] | ((first | refine wz8 (fun hh => ?_) (fun hh => ?_) | refine wz9 (fun hh => ?_) (fun hh => ?_) | refine wz7 (fun hh => ?_) (fun hh => ?_)) <;> (try replace hh := vqs hh) <;> (try (exfalso; first | exact hh | omega))))
      refine evB_state bo18 rfl rfl hFb ?_ (fun _ _ h => h.elim)
      rintro _ H6 ⟨ds6, hH6, -⟩
      have g6 := (vec_at hH6.vK).1
      have f6 := addFree_f (addFree (addState n2) n.set.length (p.1 : Int)) n.set.length (n2.set.length : Int)
      simp only [psD, List.map_cons, List.map_nil, pD] at g6
      have hFc := hH6.free p.2 (by show p.2 < (addState n2).set.length; omega) (n2.set.length : Int) (by show (addState n2).set.length ≤ 100000; omega) (by omega)
      repeat' (first | refine wz1 ?_ | refine wz2 ?_ | refine wz3 ?_ | refine wz4 ?_ | refine wz5 ?_ | refine wz6 ?_ | simp -dsimp (maxSteps:=999999) (disch:=omega) only[go_sem,simprocAttr, *] | ((first | refine wz8 (fun hh => ?_) (fun hh => ?_) | refine wz9 (fun hh => ?_) (fun hh => ?_) | refine wz7 (fun hh => ?_) (fun hh => ?_)) <;> (try replace hh := vqs hh) <;> (try (exfalso; first | exact hh | omega))))
      refine evB_state bo18 rfl rfl hFc ?_ (fun _ _ h => h.elim)
      rintro _ H7 ⟨ds7, hH7, -⟩
      repeat' (first | refine wz1 ?_ | refine wz2 ?_ | refine wz3 ?_ | refine wz4 ?_ | refine wz5 ?_ | refine wz6 ?_ | simp -dsimp (maxSteps:=999999) (disch:=omega) only[go_sem,simprocAttr, *] | ((first | refine wz8 (fun hh => ?_) (fun hh => ?_) | refine wz9 (fun hh => ?_) (fun hh => ?_) | refine wz7 (fun hh => ?_) (fun hh => ?_)) <;> (try replace hh := vqs hh) <;> (try (exfalso; first | exact hh | omega))))
      exact ⟨rfl, ds7, by simpa [wire, optW] using hH7.ma, hH7.mv⟩
    · simp [h0, h1, h2, h3, h4, h5] at hsh
end Go.Proofs.W
end
/- A machine made is handed back. -/
section
set_option maxHeartbeats 4000000
set_option linter.unusedVariables false
set_option linter.unusedSimpArgs false
namespace Go.Proofs.W
open Go Vm Go.Proofs.Zsb6

def isA (H : Heap) (r : Nat) (xs : List D) : Prop := hget H r = .arr xs ∨ hget H r = .fro xs
def Soft (H H' : Heap) : Prop := ∀ r xs, isA H r xs → isA H' r xs
def VecA (d : D) (H : Heap) (xs : List D) : Prop := (xs = [] ∧ d = .sl true []) ∨ ∃ r, d = .vec r 0 xs.length ∧ isA H r xs ∧ r < H.length
theorem vecIs_a {d : D} {H : Heap} {xs : List D} (h : VecIs d H xs) : VecA d H xs := by
  rcases h with h | ⟨_, r, h1, h2, h3⟩
  · exact .inl h
  · exact .inr ⟨r, h1, .inl h2, h3⟩
theorem VecA.soft {d : D} {H H' : Heap} {xs : List D} (h : VecA d H xs) (hs : Soft H H') (hl : H.length ≤ H'.length) : VecA d H' xs := by
  rcases h with h | ⟨r, h1, h2, h3⟩
  · exact .inl h
  · exact .inr ⟨r, h1, hs r xs h2, by omega⟩
theorem Soft.refl {H : Heap} : Soft H H := fun _ _ h => h
theorem Soft.trans {H H1 H2 : Heap} (h : Soft H H1) (g : Soft H1 H2) : Soft H H2 := fun r xs k => g r xs (h r xs k)
theorem Soft.fro {H : Heap} {r : Nat} {xs : List D} (h : hget H r = .arr xs) (hr : r < H.length) : Soft H (H.set r (.fro xs)) := by
  intro k ys hk
  by_cases e : r = k
  · subst e
    rcases hk with hk | hk
    · rw [h] at hk; cases hk; exact .inr (hget_set_eq hr)
    · rw [h] at hk; cases hk
  · unfold isA; rw [hget_set_ne e]; exact hk
/-- a list whose elements are handed back one by one -/
theorem pur_lift {k : Nat} {H : Heap} {d : D} {xs ys : List D} (h : VecA d H xs) (he : ∀ H1, Soft H H1 → H.length ≤ H1.length → ∃ H2, purL (pur k) H1 xs = some (ys, H2) ∧ Soft H1 H2 ∧ H1.length ≤ H2.length) (hy : xs = [] → ys = []) :
    ∃ H2, pur (k + 1) H d = some (.sl false ys, H2) ∧ Soft H H2 ∧ H.length ≤ H2.length := by
  rcases h with ⟨h1, rfl⟩ | ⟨r, rfl, h2, h3⟩
  · rw [hy h1]
    exact ⟨H, by simp [pur, strip, stripL], Soft.refl, Nat.le_refl _⟩
  · rw [pur_vec]
    rcases h2 with h2 | h2
    · obtain ⟨H2, g1, g2, g3⟩ := he (H.set r (.fro xs)) (Soft.fro h2 h3) (by simp)
      refine ⟨H2, ?_, (Soft.fro h2 h3).trans g2, by simpa using g3⟩
      rw [h2]
      simp only [Nat.zero_add, Nat.le_refl, if_true, List.drop_zero, List.take_length, g1, Option.map_some]
    · obtain ⟨H2, g1, g2, g3⟩ := he H Soft.refl (Nat.le_refl _)
      refine ⟨H2, ?_, g2, g3⟩
      rw [h2]
      simp only [Nat.zero_add, Nat.le_refl, if_true, List.drop_zero, List.take_length, g1, Option.map_some]
theorem pur_plainA {k : Nat} {H : Heap} {d : D} {xs : List D} (h : VecA d H xs) (hs : stripL xs = some xs) : ∃ H2, pur (k + 2) H d = some (.sl false xs, H2) ∧ Soft H H2 ∧ H.length ≤ H2.length :=
  pur_lift h (fun H1 _ _ => ⟨H1, purL_strip hs, Soft.refl, Nat.le_refl _⟩) (fun h => h)
theorem pur_rows {k : Nat} : ∀ (fs : List D) (X : List (List Int)) (H : Heap), fs.length = X.length → (∀ i x, X[i]? = some x → VecA (fs.getD i ud) H (x.map (.int .i64))) → ∃ H2, purL (pur (k + 2)) H fs = some (X.map isD, H2) ∧ Soft H H2 ∧ H.length ≤ H2.length
  | [], [], H, _, _ => ⟨H, rfl, Soft.refl, Nat.le_refl _⟩
  | [], x :: X, H, h, _ => by simp at h
  | d :: fs, [], H, h, _ => by simp at h
  | d :: fs, x :: X, H, h, hv => by
    obtain ⟨H1, g1, g2, g3⟩ := pur_plainA (k := k) (hv 0 x rfl) (strip_ints x)
    obtain ⟨H2, k1, k2, k3⟩ := pur_rows (k := k) fs X H1 (by simpa using h) fun i y hy => by
      have := hv (i + 1) y (by simpa using hy)
      exact VecA.soft (by simpa using this) g2 g3
    refine ⟨H2, ?_, g2.trans k2, by omega⟩
    simp only [List.getD_cons_zero] at g1
    simp only [purL, g1, Option.bind_some, k1, Option.map_some, List.map_cons]
    rfl
theorem pur_agg' {k : Nat} {cs : List D} {H : Heap} (h : stripL cs = none) : pur (k + 1) H (.agg cs) = (purL (pur k) H cs).map fun (l, H) => (.agg l, H) := by
  conv => lhs; unfold Vm.pur
  simp only [strip, h, Option.map_none]
theorem out_mk {M : Nat} {n : Nfa} {ds : List D} {H : Heap} (h : MkAt M n ds H) (hne : 1 ≤ n.set.length) (e : Int) : outPure H (.tup [.agg (ds.take 4), .int .i64 e]) = some (.tup [nfaD n, .int .i64 e]) := by
  obtain ⟨ms, hM, hdl, lS, lT, lR⟩ := h
  obtain ⟨dF, dS, dT, dR, fs, rfl⟩ := ds_four hdl
  simp only [List.take_succ_cons, List.take_zero, List.drop_succ_cons, List.drop_zero] at ms hM ⊢
  have hfl : fs.length = n.free.length := by have := ms.lenX; simp [nfaX] at this; omega
  have vF : VecA dF H fs := by have := vecIs_a (ms.v 0 (by simp)); simpa [nfaX] using this
  have vS : VecA dS H (n.set.map (.int .u16)) := by have := vecIs_a (ms.v 1 (by simp)); simpa [nfaX] using this
  have vT : VecA dT H (n.to.map (.int .i64)) := by have := vecIs_a (ms.v 2 (by simp)); simpa [nfaX] using this
  have vR : VecA dR H (n.rule.map (.int .i64)) := by have := vecIs_a (ms.v 3 (by simp)); simpa [nfaX] using this
  have vE : ∀ i x, n.free[i]? = some x → VecA (fs.getD i ud) H (x.map (.int .i64)) := fun i x hx => by
    have hi : i < n.free.length := by
      rcases Nat.lt_or_ge i n.free.length with h | h
      · exact h
      · rw [List.getElem?_eq_none h] at hx; cases hx
    have := vecIs_a (ms.v (i + 4) (by simp; omega))
    have e1 : (dF :: dS :: dT :: dR :: fs).getD (i + 4) ud = fs.getD i ud := by simp
    have e2 : (nfaX n fs).getD (i + 4) [] = x.map (.int .i64) := by
      simp only [nfaX, List.getD_cons_succ]
      simp only [List.getD_eq_getElem?_getD, List.getElem?_map, hx]
      rfl
    rwa [e1, e2] at this
  have hnil : fs = [] → n.free.map isD = [] := fun h => by
    rw [h] at hfl
    have : n.free = [] := List.length_eq_zero_iff.1 (by simpa using hfl.symm)
    rw [this]; rfl
  obtain ⟨H1, p1, s1, l1⟩ := pur_lift (k := 3) vF (fun H1 h1 h2 => pur_rows (k := 1) fs n.free H1 hfl fun i x hx => (vE i x hx).soft h1 h2) hnil
  obtain ⟨H2, p2, s2, l2⟩ := pur_plainA (k := 2) (vS.soft s1 l1) (strip_u16s _)
  obtain ⟨H3, p3, s3, l3⟩ := pur_plainA (k := 2) (vT.soft (s1.trans s2) (by omega)) (strip_ints _)
  obtain ⟨H4, p4, s4, l4⟩ := pur_plainA (k := 2) (vR.soft ((s1.trans s2).trans s3) (by omega)) (strip_ints _)
  have hnone : stripL [dF, dS, dT, dR] = none := by
    have : strip dF = none := by
      rcases vF with ⟨h1, _⟩ | ⟨r, h1, _⟩
      · rw [h1] at hfl; simp at hfl; omega
      · rw [h1]; rfl
    simp [stripL, this]
  have hnone2 : stripL [D.agg [dF, dS, dT, dR], .int .i64 e] = none := by rw [stripL, strip, hnone]; rfl
  unfold outPure deepest
  rw [pur_tup hnone2]
  simp only [purL]
  rw [pur_agg' hnone]
  simp only [purL, p1, p2, p3, p4, Option.bind_some, Option.map_some]
  rw [pur_strip (show strip (.int .i64 e) = some (.int .i64 e) from rfl)]
  rfl
end Go.Proofs.W
end
/- The machine of expressions, walked. -/
section
set_option maxHeartbeats 4000000
set_option linter.unusedVariables false
set_option linter.unusedSimpArgs false
namespace Go.Proofs.W
open Go Vm Go.Proofs.Zsb6

def setRule (n : Nfa) (o : Nat) (i : Int) : Nfa := { n with rule := n.rule.set o i }
def emptyN : Nfa := ⟨[], [], [], []⟩
def buildFrom : Nat → List Rx → Nfa → Option Nfa
  | _, [], n => some n
  | i, r :: l, n => if rightR r then buildFrom (i + 1) l (setRule (addFree (makeN r n).1 0 (makeN r n).2.1) (makeN r n).2.2 i) else none
def buildN (l : List Rx) : Option Nfa := if 1 ≤ l.length ∧ l.length ≤ 16 then buildFrom 0 l (addState emptyN) else none
def rxsD (l : List Rx) : D := .sl false (rxDs l)
def builtD : Option Nfa → D
  | some n => .tup [nfaD n, .int .i64 0]
  | none => .tup [nfaD emptyN, .int .i64 1]
theorem mk_empty {H : Heap} : MkAt H.length emptyN [.sl true [], .sl true [], .sl true [], .sl true []] (H ++ [.arr [.agg [.sl true [], .sl true [], .sl true [], .sl true []]]]) := by
  refine ⟨⟨fun i hi => ?_, rfl, fun i j hij r hi hj => ?_, by simp⟩, by rw [hget_app0]; rfl, by simp, rfl, rfl, rfl⟩
  · match i, hi with
    | 0, _ => exact VecIs.nil
    | 1, _ => exact VecIs.nil
    | 2, _ => exact VecIs.nil
    | 3, _ => exact VecIs.nil
  · match i, j with
    | 0, 0 => exact hij rfl
    | 0, 1 => cases hj
    | 0, 2 => cases hj
    | 0, 3 => cases hj
    | 0, 4 => cases hj
    | 0, j + 5 => simp [ud, objsD] at hj
    | 1, _ => cases hi
    | 2, _ => cases hi
    | 3, _ => cases hi
    | 4, _ => cases hi
    | i + 5, _ => simp [ud, objsD] at hi
theorem zrN : zeroT Try.prog 29 = some (.agg [.sl true [], .sl true [], .sl true [], .sl true []]) := by kernel_rfl
theorem zrM : zeroT Try.prog 47 = some (.agg [.sl true [], .sl true [], .sl true [], .sl true []]) := by kernel_rfl
theorem bdN0 : buildD Try.prog 29 [] = some (.agg [.sl true [], .sl true [], .sl true [], .sl true []]) := by kernel_rfl
theorem bdM0 : buildD Try.prog 47 [] = some (.agg [.sl true [], .sl true [], .sl true [], .sl true []]) := by kernel_rfl
attribute [local go_sem] zrN zrM bdN0 bdM0
set_option maxRecDepth 20000 in
theorem build_okS (l : List Rx) (hl0 : l.length ≤ 16 → ∀ r ∈ l, okR r) (hll : l.length ≤ 100000) : PureF Try.prog A 6 [rxsD l] (builtD (buildN l)) := by
  refine evF_inB (n := 55) (rs := [.cell 2 29, .tmp 3]) Try.func6 rfl rfl rfl rfl rfl rfl ?_
  by_cases c1 : l.length = 0
  · have : buildN l = none := by simp [buildN, c1]
    rw [this]
    repeat' (first | refine wz1 ?_ | refine wz2 ?_ | refine wz3 ?_ | refine wz4 ?_ | refine wz5 ?_ | refine wz6 ?_ | simp -dsimp (maxSteps:=999999) (disch:=omega) only[go_sem,simprocAttr, *,rxsD] | ((first | refine wz8 (fun hh => ?_) (fun hh => ?_) | refine wz9 (fun hh => ?_) (fun hh => ?_) | refine wpB_cond (by simp -dsimp (maxSteps:=999999) (disch:=omega) only[go_sem,simprocAttr, *,rxsD]; exact rfl) (fun hh => ?_) (fun hh => ?_)) <;> (try replace hh := vqs hh) <;> (try (exfalso; first | exact hh | omega))))
    exact outPure_strip rfl
  by_cases c2 : l.length ≤ 16
  case neg =>
    have : buildN l = none := by simp [buildN, c2]
    rw [this]
    repeat' (first | refine wz1 ?_ | refine wz2 ?_ | refine wz3 ?_ | refine wz4 ?_ | refine wz5 ?_ | refine wz6 ?_ | simp -dsimp (maxSteps:=999999) (disch:=omega) only[go_sem,simprocAttr, *,rxsD] | ((first | refine wz8 (fun hh => ?_) (fun hh => ?_) | refine wz9 (fun hh => ?_) (fun hh => ?_) | refine wpB_cond (by simp -dsimp (maxSteps:=999999) (disch:=omega) only[go_sem,simprocAttr, *,rxsD]; exact rfl) (fun hh => ?_) (fun hh => ?_)) <;> (try replace hh := vqs hh) <;> (try (exfalso; first | exact hh | omega))))
    exact outPure_strip rfl
  have hl := hl0 c2
  clear hl0
  have hb : buildN l = buildFrom 0 (l.drop 0) (addState emptyN) := by
    have : 1 ≤ l.length := by omega
    simp [buildN, c2, this]
  rw [hb]
  have hS := state_ok 1 emptyN _ _ (mk_empty (H := [.arr [.agg [.sl true [], .sl true [], .sl true [], .sl true []]]])) (by simp [emptyN])
  simp only [List.cons_append, List.nil_append, List.length_cons, List.length_nil, Nat.zero_add] at hS
  repeat' (first | refine wz1 ?_ | refine wz2 ?_ | refine wz3 ?_ | refine wz4 ?_ | refine wz5 ?_ | refine wz6 ?_ | simp -dsimp (maxSteps:=999999) (disch:=omega) only[go_sem,simprocAttr, *,rxsD] | ((first | refine wz8 (fun hh => ?_) (fun hh => ?_) | refine wz9 (fun hh => ?_) (fun hh => ?_) | refine wpB_cond (by simp -dsimp (maxSteps:=999999) (disch:=omega) only[go_sem,simprocAttr, *,rxsD]; exact rfl) (fun hh => ?_) (fun hh => ?_)) <;> (try replace hh := vqs hh) <;> (try (exfalso; first | exact hh | omega))))
  refine evB_state bo15 rfl rfl hS ?_ (fun _ _ h => h.elim)
  rintro _ H1 ⟨rfl, ds1, hm1, hv1⟩
  repeat' (first | refine wz1 ?_ | refine wz2 ?_ | refine wz3 ?_ | refine wz4 ?_ | refine wz5 ?_ | refine wz6 ?_ | simp -dsimp (maxSteps:=999999) (disch:=omega) only[go_sem,simprocAttr, *] | ((first | refine wz8 (fun hh => ?_) (fun hh => ?_) | refine wz9 (fun hh => ?_) (fun hh => ?_) | refine wz7 (fun hh => ?_) (fun hh => ?_)) <;> (try replace hh := vqs hh) <;> (try (exfalso; first | exact hh | omega))))
  have hv1l := hv1.len
  simp only [List.length_cons, List.length_nil] at hv1l
  have h00 : hget H1 0 = .arr [.agg [.sl true [], .sl true [], .sl true [], .sl true []]] := by
    rw [hv1.keep 0 (by simp) (fun ho => by
      obtain ⟨k, hk⟩ := ho
      match k, hk with
      | 0, hk => simp [objsD] at hk
      | 1, hk => cases hk
      | 2, hk => cases hk
      | 3, hk => cases hk
      | 4, hk => cases hk
      | k + 5, hk => simp [ud, objsD] at hk)]
    rfl
  have hn0 : ¬ own (mkL 1 ds1) 0 := fun ho => by
    rcases hv1.ow 0 ho with h | h
    · obtain ⟨k, hk⟩ := h
      match k, hk with
      | 0, hk => simp [objsD] at hk
      | 1, hk => cases hk
      | 2, hk => cases hk
      | 3, hk => cases hk
      | 4, hk => cases hk
      | k + 5, hk => simp [ud, objsD] at hk
    · simp at h
  generalize hG : buildFrom 0 (l.drop 0) (addState emptyN) = G
  refine wpB_loop (fun e Hj => ∃ (j : Nat) (nj : Nfa) (dsj : List D), j ≤ l.length ∧ MkAt 1 nj dsj Hj ∧ hget Hj 0 = .arr [.agg [.sl true [], .sl true [], .sl true [], .sl true []]] ∧ ¬ own (mkL 1 dsj) 0 ∧ 1 ≤ kN nj ∧ kN nj ≤ 1 + 200 * j ∧ fN nj ≤ 700 * j ∧ G = buildFrom j (l.drop j) nj
    ∧ e 2 = .ptr 0 0 0 ∧ e 4 = .ptr 1 0 0 ∧ e 22 = rxsD l ∧ e 23 = .int .i64 l.length ∧ e 24 = .int .i64 j) (fun e H => l.length - natOf (e 24)) ?_ ?_
  · exact ⟨0, _, ds1, by omega, hm1, h00, hn0, by simp [kN, addState, emptyN], by simp [kN, addState, emptyN], by simp [fN, addState, emptyN], hG.symm, gs, gs, by simp -dsimp (maxSteps:=999999) (disch:=omega) only[go_sem,simprocAttr, *,rxsD], by simp -dsimp (maxSteps:=999999) (disch:=omega) only[go_sem,simprocAttr, *,rxsD], gs⟩
  clear hG hS hm1 hv1 h00 hn0 hv1l hb
  rintro e Hj ⟨j, nj, dsj, hj, hmj, h0j, hnj, hk1, hk, hf, hG, e2, e4, e22, e23, e24⟩ R hR
  by_cases hb : j < l.length
  · have hr := hl l[j] (List.getElem_mem hb)
    have hx : (rxDs l)[j]? = some (rxD l[j]) := by rw [rxDs_at, List.getElem?_eq_getElem hb]; rfl
    have q1 := rx_cells l[j]
    have q2 := rx_aggQ l[j]
    have q3 := rx_noTup l[j]
    have hRt := rightP_ok l[j] hr
    have hst := strip1 (strip_rx l[j])
    have hM1 := hmj.ms.m
    have hl0 := lt_of_hget h0j
    rw [List.drop_eq_getElem_cons hb, buildFrom] at hG
    cases hrt : rightR l[j] with
    | false =>
      rw [hrt] at hG hRt
      have hG' : G = none := by simpa using hG
      rw [hG']
      clear hG
      generalize hw : rxD l[j] = dk at *
      have hl1 : 0 < (Hj ++ [Ob.arr [dk]]).length := by simp
      repeat' (first | refine wz1 ?_ | refine wz2 ?_ | refine wz3 ?_ | refine wz4 ?_ | refine wz5 ?_ | refine wz6 ?_ | simp -dsimp (maxSteps:=999999) (disch:=omega) only[go_sem,simprocAttr, *,rxsD] | ((first | refine wz8 (fun hh => ?_) (fun hh => ?_) | refine wz9 (fun hh => ?_) (fun hh => ?_) | refine wpB_cond (by simp -dsimp (maxSteps:=999999) (disch:=omega) only[go_sem,simprocAttr, *,rxsD]; exact rfl) (fun hh => ?_) (fun hh => ?_)) <;> (try replace hh := vqs hh) <;> (try (exfalso; first | exact hh | omega))))
      refine evB_plain bo16 rfl rfl hst hRt ?_
      repeat' (first | refine wz1 ?_ | refine wz2 ?_ | refine wz3 ?_ | refine wz4 ?_ | refine wz5 ?_ | refine wz6 ?_ | simp -dsimp (maxSteps:=999999) (disch:=omega) only[go_sem,simprocAttr, *] | ((first | refine wz8 (fun hh => ?_) (fun hh => ?_) | refine wz9 (fun hh => ?_) (fun hh => ?_) | refine wz7 (fun hh => ?_) (fun hh => ?_)) <;> (try replace hh := vqs hh) <;> (try (exfalso; first | exact hh | omega))))
      exact outPure_strip rfl
    | true =>
      rw [hrt] at hG hRt
      have hG' : G = buildFrom (j + 1) (l.drop (j + 1)) (setRule (addFree (makeN l[j] nj).1 0 (makeN l[j] nj).2.1) (makeN l[j] nj).2.2 j) := by simpa using hG
      clear hG
      have hsz : sizeR l[j] ≤ 100 ∧ shapesR l[j] = true := by
        simp only [rightR, Bool.and_eq_true, decide_eq_true_eq] at hrt
        exact ⟨(nodes_size _).1 hrt.1.2, hrt.2⟩
      have hmk := make_ok _ l[j] (Nat.le_refl _) hsz.2 hr 1 nj dsj (Hj ++ [Ob.arr [rxD l[j]]]) (hmj.keep (by simp) fun r hr => hget_app_lt (own_lt hmj.ms hr)) (by omega) (by omega)
      have e1 := makeN_k l[j] nj
      have e2' := makeN_f l[j] nj
      have e3 := makeN_io l[j] nj
      have b1 := hmk
      have hl1 : 0 < (Hj ++ [Ob.arr [rxD l[j]]]).length := by simp
      generalize hw : rxD l[j] = dk at *
      have u1 : kN (makeN l[j] nj).1 ≤ 1 + 200 * (j + 1) := by omega
      have u2 : fN (makeN l[j] nj).1 + 1 ≤ 700 * (j + 1) := by omega
      have u3 : kN nj + 2 ≤ kN (makeN l[j] nj).1 := by have := sizeR_pos l[j]; omega
      have u4 : (makeN l[j] nj).2.2 < kN (makeN l[j] nj).1 := by rw [e3]; show _ < _; omega
      clear e1 e2' e3 b1
      generalize hQ : makeN l[j] nj = Q at *
      obtain ⟨n2, i2, o2⟩ := Q
      simp only at hmk hG' u1 u2 u3 u4
      repeat' (first | refine wz1 ?_ | refine wz2 ?_ | refine wz3 ?_ | refine wz4 ?_ | refine wz5 ?_ | refine wz6 ?_ | simp -dsimp (maxSteps:=999999) (disch:=omega) only[go_sem,simprocAttr, *,rxsD] | ((first | refine wz8 (fun hh => ?_) (fun hh => ?_) | refine wz9 (fun hh => ?_) (fun hh => ?_) | refine wpB_cond (by simp -dsimp (maxSteps:=999999) (disch:=omega) only[go_sem,simprocAttr, *,rxsD]; exact rfl) (fun hh => ?_) (fun hh => ?_)) <;> (try replace hh := vqs hh) <;> (try (exfalso; first | exact hh | omega))))
      refine evB_plain bo16 rfl rfl hst hRt ?_
      repeat' (first | refine wz1 ?_ | refine wz2 ?_ | refine wz3 ?_ | refine wz4 ?_ | refine wz5 ?_ | refine wz6 ?_ | simp -dsimp (maxSteps:=999999) (disch:=omega) only[go_sem,simprocAttr, *] | ((first | refine wz8 (fun hh => ?_) (fun hh => ?_) | refine wz9 (fun hh => ?_) (fun hh => ?_) | refine wz7 (fun hh => ?_) (fun hh => ?_)) <;> (try replace hh := vqs hh) <;> (try (exfalso; first | exact hh | omega))))
      refine evB_state bo17 rfl rfl hmk ?_ (fun _ _ h => h.elim)
      rintro _ H2 ⟨rfl, ds2, hm2, hv2⟩
      have hF := free_ok 1 n2 ds2 H2 hm2 (by simp only [kN] at u1; omega) 0 (by simp only [kN] at u3; omega) (i2 : Int) (by have := fl_le n2 0; omega)
      have hn2 : ¬ own (mkL 1 ds2) 0 := fun ho => by
        rcases hv2.ow 0 ho with h | h
        · exact hnj h
        · simp at h
      have h02 : hget H2 0 = .arr [.agg [.sl true [], .sl true [], .sl true [], .sl true []]] := by
        rw [hv2.keep 0 hl1 hnj, hget_app_lt hl0, h0j]
      have hl2 := lt_of_hget h02
      rw [show ((0 : Nat) : Int) = 0 from rfl] at hF
      repeat' (first | refine wz1 ?_ | refine wz2 ?_ | refine wz3 ?_ | refine wz4 ?_ | refine wz5 ?_ | refine wz6 ?_ | simp -dsimp (maxSteps:=999999) (disch:=omega) only[go_sem,simprocAttr, *] | ((first | refine wz8 (fun hh => ?_) (fun hh => ?_) | refine wz9 (fun hh => ?_) (fun hh => ?_) | refine wz7 (fun hh => ?_) (fun hh => ?_)) <;> (try replace hh := vqs hh) <;> (try (exfalso; first | exact hh | omega))))
      refine evB_state bo18 rfl rfl hF ?_ (fun _ _ h => h.elim)
      rintro _ H3 ⟨ds3, hm3, hv3⟩
      have hn3 : ¬ own (mkL 1 ds3) 0 := fun ho => by
        rcases hv3.ow 0 ho with h | h
        · exact hn2 h
        · omega
      have h03 : hget H3 0 = .arr [.agg [.sl true [], .sl true [], .sl true [], .sl true []]] := by
        rw [hv3.keep 0 hl2 hn2, h02]
      have hf3 := addFree_f n2 0 (i2 : Int)
      generalize hN3 : addFree n2 0 (i2 : Int) = n3 at *
      have hk3 : kN n3 = kN n2 := by rw [← hN3]; rfl
      have u5 : o2 < kN n3 := by omega
      have u6 : kN n3 ≤ 1 + 200 * (j + 1) := by omega
      have u7 : 1 ≤ kN n3 := by omega
      clear hk3 hN3
      obtain ⟨ms, hM, hdl, lS, lT, lR⟩ := hm3
      obtain ⟨dF, dS, dT, dR, fs, rfl⟩ := ds_four hdl
      simp only [List.take_succ_cons, List.take_zero, List.drop_succ_cons, List.drop_zero] at ms hM
      have hneR : n3.rule.map (D.int .i64) ≠ [] := by intro e; have := congrArg List.length e; simp at this; rw [this] at lR; simp only [kN] at u7; simp at lR; omega
      obtain ⟨rR, hdR, hgR, hrR⟩ := vec_get (ms.v 3 (by simp)) (by simpa [nfaX] using hneR)
      simp only [List.getD_cons_zero, List.getD_cons_succ, nfaX, List.length_map] at hdR hgR
      have n3' : rR ≠ 1 := fun e => ms.notM (i := 3) (by simp [hdR, objsD, e])
      have n4 : rR ≠ 0 := fun e => hn3 ⟨4, by simp [hdR, objsD, e]⟩
      have voR : vecO (.arr (n3.rule.map (D.int .i64))) 1 = true := vecO_arr hneR (headInts _)
      have hoR : o2 < n3.rule.length := by simp only [kN] at u5; omega
      have m1 := ms.setv (p := 3) (r := rR) (n := n3.rule.length) (by simp) (by simpa using hdR) (xs := (n3.rule.set o2 (j : Int)).map (.int .i64)) (by simp) (by omega)
      have hmN : MkAt 1 (setRule n3 o2 j) (dF :: dS :: dT :: dR :: fs) (H3.set rR (.arr ((n3.rule.map (D.int .i64)).set o2 (.int .i64 j)))) := by
        rw [← List.map_set]
        exact ⟨by simpa [nfaX, setRule] using m1, by rw [hget_set_ne n3', hM]; rfl, by simp, lS, lT, by simpa [setRule] using lR⟩
      have h0N : hget (H3.set rR (.arr ((n3.rule.map (D.int .i64)).set o2 (.int .i64 j)))) 0 = .arr [.agg [.sl true [], .sl true [], .sl true [], .sl true []]] := by
        rw [hget_set_ne n4, h03]
      clear m1 hneR lR
      subst hdR
      repeat' (first | refine wz1 ?_ | refine wz2 ?_ | refine wz3 ?_ | refine wz4 ?_ | refine wz5 ?_ | refine wz6 ?_ | simp -dsimp (maxSteps:=999999) (disch:=omega) only[go_sem,simprocAttr, *] | ((first | refine wz8 (fun hh => ?_) (fun hh => ?_) | refine wz9 (fun hh => ?_) (fun hh => ?_) | refine wz7 (fun hh => ?_) (fun hh => ?_)) <;> (try replace hh := vqs hh) <;> (try (exfalso; first | exact hh | omega))))
      refine hR _ _ ⟨j + 1, setRule n3 o2 j, _, by omega, hmN, h0N, hn3, u7, u6, by have : fN (setRule n3 o2 j) = fN n3 := rfl; omega, hG', gs, gs, by simp -dsimp (maxSteps:=999999) (disch:=omega) only[go_sem,simprocAttr, *,rxsD], gs, gs⟩ ?_
      simp -dsimp (maxSteps:=999999) (disch:=omega) only[go_sem,simprocAttr, *,natOf_int]
  · rw [List.drop_eq_nil_of_le (by omega)] at hG
    have hG' : G = some nj := hG
    have hM := hmj.hM
    have hl0 := lt_of_hget h0j
    have hout := fun ob => out_mk (hmj.keep (H' := Hj.set 0 ob) (by simp) fun r hr => hget_set_ne fun e => hnj (e ▸ hr)) hk1 0
    obtain ⟨dF, dS, dT, dR, fs, rfl⟩ := ds_four hmj.len
    simp only [List.take_succ_cons, List.take_zero] at hM hout
    rw [hG']
    repeat' (first | refine wz1 ?_ | refine wz2 ?_ | refine wz3 ?_ | refine wz4 ?_ | refine wz5 ?_ | refine wz6 ?_ | simp -dsimp (maxSteps:=999999) (disch:=omega) only[go_sem,simprocAttr, *] | ((first | refine wz8 (fun hh => ?_) (fun hh => ?_) | refine wz9 (fun hh => ?_) (fun hh => ?_) | refine wz7 (fun hh => ?_) (fun hh => ?_)) <;> (try replace hh := vqs hh) <;> (try (exfalso; first | exact hh | omega))))
    exact hout _
theorem build_ok (l : List Rx) (hl : ∀ r ∈ l, okR r) (hll : l.length ≤ 100000) : PureF Try.prog A 6 [rxsD l] (builtD (buildN l)) := build_okS l (fun _ => hl) hll
end Go.Proofs.W
end
/- The machine of expressions may be. -/
section
set_option maxHeartbeats 4000000
set_option linter.unusedVariables false
set_option linter.unusedSimpArgs false
namespace Go.Proofs.W
open Go Vm Go.Proofs.Zsb6

structure OkM (n : Nfa) : Prop where
  lF : n.free.length = kN n
  lT : n.to.length = kN n
  lR : n.rule.length = kN n
  fr : ∀ i x, x ∈ n.free.getD i [] → 0 ≤ x ∧ x < kN n
  st : ∀ i, n.set.getD i 0 ≠ 0 → 0 ≤ n.to.getD i 0 ∧ n.to.getD i 0 < kN n
  ru : ∀ i, -1 ≤ n.rule.getD i (-1) ∧ n.rule.getD i (-1) < 16
theorem OkM.addState {n : Nfa} (h : OkM n) : OkM (addState n) := by
  refine ⟨by simp [W.addState, h.lF, kN], by simp [W.addState, h.lT, kN], by simp [W.addState, h.lR, kN], fun i x hx => ?_, fun i hi => ?_, fun i => ?_⟩
  · rw [addState_k]
    simp only [W.addState, getD_push] at hx
    split at hx
    · cases hx
    · have := h.fr i x hx; omega
  · rw [addState_k]
    simp only [W.addState, getD_push] at hi ⊢
    split at hi
    · exact absurd rfl hi
    · have := h.st i hi
      split
      · omega
      · omega
  · simp only [W.addState, getD_push]
    split
    · omega
    · exact h.ru i
theorem OkM.addFree {n : Nfa} (h : OkM n) (f : Nat) (t : Int) (ht : 0 ≤ t ∧ t < kN n) : OkM (addFree n f t) := by
  refine ⟨by simp [W.addFree, h.lF, kN], h.lT, h.lR, fun i x hx => ?_, h.st, h.ru⟩
  simp only [W.addFree, getD_set] at hx
  rw [addFree_k]
  split at hx
  · rcases List.mem_append.1 hx with hx | hx
    · exact h.fr f x hx
    · have : x = t := by simpa using hx
      subst this; exact ht
  · exact h.fr i x hx
theorem OkM.setTo {n : Nfa} (h : OkM n) (i : Nat) (s : Int) (o : Nat) (ho : o < kN n) : OkM (setTo n i s o) := by
  refine ⟨by rw [setTo_k]; exact h.lF, by rw [setTo_k]; simpa [W.setTo] using h.lT, by rw [setTo_k]; exact h.lR, fun j x hx => by rw [setTo_k]; exact h.fr j x hx, fun j hj => ?_, h.ru⟩
  rw [setTo_k]
  simp only [W.setTo, getD_set] at hj ⊢
  by_cases e : i = j ∧ i < n.to.length
  · rw [if_pos e]; omega
  · rw [if_neg e]
    rw [if_neg (by rw [h.lT] at e; exact e)] at hj
    exact h.st j hj
theorem OkM.catW (o : Nat) : ∀ (ps : List (Nat × Nat)) (n : Nfa) (last : Nat), OkM n → o < kN n → (∀ p ∈ ps, p.1 < kN n) → OkM (catW o n last ps)
  | [], n, last, h, ho, _ => h.addFree last o ⟨by omega, by omega⟩
  | p :: r, n, last, h, ho, hp => by
    have := hp p (by simp)
    exact OkM.catW o r _ p.2 (h.addFree last p.1 ⟨by omega, by omega⟩) ho fun q hq => hp q (by simp [hq])
theorem OkM.altW (i o : Nat) : ∀ (ps : List (Nat × Nat)) (n : Nfa), OkM n → o < kN n → (∀ p ∈ ps, p.1 < kN n) → OkM (altW i o n ps)
  | [], n, h, ho, _ => h
  | p :: r, n, h, ho, hp => by
    have := hp p (by simp)
    exact OkM.altW i o r _ ((h.addFree i p.1 ⟨by omega, by omega⟩).addFree p.2 o ⟨by omega, by rw [addFree_k]; omega⟩) ho fun q hq => hp q (by simp [hq])
theorem OkM.optW {n : Nfa} (h : OkM n) (i o a b : Nat) (ha : a < kN n) (ho : o < kN n) : OkM (optW n i o a b) :=
  ((h.addFree i a ⟨by omega, by omega⟩).addFree i o ⟨by omega, by rw [addFree_k]; omega⟩).addFree b o ⟨by omega, by rw [addFree_k, addFree_k]; omega⟩
theorem OkM.wire {n : Nfa} (h : OkM n) (k s : Int) (i o : Nat) (ps : List (Nat × Nat)) (ho : o < kN n) (hp : ∀ p ∈ ps, p.1 < kN n) : OkM (wire k s i o ps n) := by
  unfold W.wire
  split
  · exact h.addFree i o ⟨by omega, by omega⟩
  split
  · exact h.setTo i s o ho
  split
  · exact OkM.catW o ps n i h ho hp
  split
  · exact OkM.altW i o ps n h ho hp
  split
  · exact h
  · rename_i p r
    have := hp p (by simp)
    split
    · exact (h.addFree p.2 p.1 ⟨by omega, by omega⟩).optW i o p.1 p.2 (by rw [addFree_k]; omega) (by rw [addFree_k]; omega)
    split
    · exact h.optW i o p.1 p.2 (by omega) ho
    · exact h
mutual
theorem OkM.makeN : ∀ (r : Rx) (n : Nfa), OkM n → OkM (makeN r n).1
  | .mk k s l, n, h => by
    have h1 := OkM.kidsN l (W.addState n) h.addState
    have hin := kidsN_in l (W.addState n)
    have hk := kidsN_k l (W.addState n)
    simp only [W.makeN]
    refine h1.addState.wire k s _ _ _ ?_ fun p hp => ?_
    · rw [addState_k]; simp only [kN]; omega
    · have := hin p hp; rw [addState_k (W.kidsN l (W.addState n)).1]; omega
theorem OkM.kidsN : ∀ (l : List Rx) (n : Nfa), OkM n → OkM (kidsN l n).1
  | [], n, h => h
  | r :: l, n, h => OkM.kidsN l _ (OkM.makeN r n h)
end
theorem OkM.setRule {n : Nfa} (h : OkM n) (o : Nat) (i : Int) (hi : 0 ≤ i ∧ i < 16) : OkM (setRule n o i) := by
  refine ⟨h.lF, h.lT, by simpa [W.setRule] using h.lR, h.fr, h.st, fun j => ?_⟩
  simp only [W.setRule, getD_set]
  split
  · omega
  · exact h.ru j
theorem sizes {l : List Rx} (h : ∀ r ∈ l, rightR r = true) : ∀ r ∈ l, sizeR r ≤ 100 ∧ shapesR r = true := fun r hr => by
  have := h r hr
  simp only [rightR, Bool.and_eq_true, decide_eq_true_eq] at this
  exact ⟨(nodes_size _).1 this.1.2, this.2⟩
theorem buildFrom_ok : ∀ (l : List Rx) (i : Nat) (n n' : Nfa), OkM n → 1 ≤ kN n → i + l.length ≤ 16 → buildFrom i l n = some n' → OkM n' ∧ kN n' ≤ kN n + 200 * l.length ∧ 1 ≤ kN n' ∧ fN n' ≤ fN n + 700 * l.length
  | [], i, n, n', h, hk, hi, hb => by
    have : n = n' := by simpa [buildFrom] using hb
    subst this
    exact ⟨h, by simp, hk, by simp⟩
  | r :: l, i, n, n', h, hk, hi, hb => by
    rw [buildFrom] at hb
    split at hb
    · rename_i hr
      simp only [List.length_cons] at hi ⊢
      have e1 := makeN_k r n
      have e2 := makeN_f r n
      have e3 := makeN_io r n
      have hs := (sizes (l := [r]) (by simpa using hr) r (by simp)).1
      have hpos := sizeR_pos r
      have h1 := OkM.makeN r n h
      have h2 := h1.addFree 0 (W.makeN r n).2.1 (by rw [e3]; show 0 ≤ ((kN n : Nat) : Int) ∧ ((kN n : Nat) : Int) < _; omega)
      have h3 := h2.setRule (W.makeN r n).2.2 i ⟨by omega, by omega⟩
      have hf := addFree_f (W.makeN r n).1 0 (W.makeN r n).2.1
      have hkk : kN (setRule (addFree (W.makeN r n).1 0 (W.makeN r n).2.1) (W.makeN r n).2.2 i) = kN (W.makeN r n).1 := rfl
      have hff : fN (setRule (addFree (W.makeN r n).1 0 (W.makeN r n).2.1) (W.makeN r n).2.2 i) = fN (addFree (W.makeN r n).1 0 (W.makeN r n).2.1) := rfl
      obtain ⟨g1, g2, g3, g4⟩ := buildFrom_ok l (i + 1) _ n' h3 (by omega) (by omega) hb
      exact ⟨g1, by omega, g3, by omega⟩
    · cases hb
theorem getD_def {α : Type} {l : List α} {i : Nat} {d e : α} (h : i < l.length) : l.getD i d = l.getD i e := by simp [List.getD, h]
theorem build_right {l : List Rx} {n : Nfa} (h : buildN l = some n) : OkM n ∧ OkN n ∧ rightN n = true ∧ l.length ≤ 16 := by
  unfold buildN at h
  split at h
  · rename_i hl
    have h0 : OkM (addState emptyN) := OkM.addState ⟨rfl, rfl, rfl, fun i x hx => by simp [emptyN] at hx, fun i hi => by simp [emptyN] at hi, fun i => by simp [emptyN]⟩
    obtain ⟨g1, g2, g3, g4⟩ := buildFrom_ok l 0 _ n h0 (by simp [kN, addState, emptyN]) (by omega) h
    have e1 : kN (addState emptyN) = 1 := rfl
    have e2 : fN (addState emptyN) = 0 := rfl
    refine ⟨g1, ⟨by simp only [kN] at g2 e1 ⊢; omega, fun x hx => ?_⟩, ?_, hl.2⟩
    · obtain ⟨i, hi, rfl⟩ := List.mem_iff_getElem.1 hx
      have := fl_le n i
      simp [List.getD, hi] at this
      omega
    · have hk : 1 ≤ n.set.length ∧ n.set.length ≤ 3300 ∧ n.free.length = n.set.length ∧ n.to.length = n.set.length ∧ n.rule.length = n.set.length := ⟨g3, by simp only [kN] at g2 e1; omega, g1.lF, g1.lT, g1.lR⟩
      simp only [rightN, Bool.and_eq_true, decide_eq_true_eq, allN_iff]
      refine ⟨hk, fun i _ hi => ?_⟩
      have hru := g1.ru i
      rw [getD_def (d := -1) (e := 0) (by omega)] at hru
      simp only [rowOk, Bool.and_eq_true, decide_eq_true_eq, List.all_eq_true, isS_iff, Bool.not_eq_true', Bool.and_eq_false_iff, decide_eq_false_iff_not, Bool.not_eq_false']
      refine ⟨⟨⟨?_, hru.1⟩, hru.2⟩, fun x hx => g1.fr i x hx⟩
      by_cases hs : n.set.getD i 0 = 0
      · exact .inl (by simpa using hs)
      · exact .inr (g1.st i hs)
  · cases h
end Go.Proofs.W
end
/- An expression's steps, laid from a state on into a machine, in the document's words. -/
section
set_option maxHeartbeats 4000000
set_option linter.unusedVariables false
set_option linter.unusedSimpArgs false
namespace Go.Proofs.W
open Go Vm Go.Proofs.Zsb6

def addI (n : Nfa) (i : Nat) (x : Nat) : Nfa := { n with free := n.free.set i (intoL (n.free.getD i []) (x : Int)) }
/-- what a kid, being laid, brings -/
def kidW (k : Int) (at_ en next kid last : Nat) (n : Nfa) : Nfa × Nat :=
  if k = 2 then (addI n last next, kid) else if k = 4 then (addI (addI (addI n kid next) at_ next) kid en, last) else (addI (addI n at_ next) kid en, last)
mutual
def layN : Rx → Nat → Nfa → Nfa
  | .mk k s l, a, n => if k = 1 then { n with set := n.set.set a s, to := n.to.set a ((a + 2 * sizeL l + 1 : Nat) : Int) } else
    let x := layL k a (a + 2 * sizeL l + 1) l (a + 1) a (if k ≠ 2 ∧ k ≠ 3 then addI n a (a + 2 * sizeL l + 1) else n)
    if k = 2 then addI x.1 x.2 (a + 2 * sizeL l + 1) else x.1
def layL (k : Int) (a en : Nat) : List Rx → Nat → Nat → Nfa → Nfa × Nat
  | [], _, last, n => (n, last)
  | r :: l, next, last, n =>
    let x := kidW k a en next (next + 2 * sizeR r - 1) last (layN r next n)
    layL k a en l (next + 2 * sizeR r) x.2 x.1
end
theorem sum_set {l : List (List Int)} {f : Nat} {y : List Int} (hy : y.length ≤ (l.getD f []).length + 1) : ((l.set f y).map List.length).sum ≤ (l.map List.length).sum + 1 := by
  induction l generalizing f with
  | nil => simp
  | cons x l ih =>
    cases f with
    | zero => simp at hy ⊢; omega
    | succ f => have := ih (f := f) (by simpa using hy); simp at this ⊢; omega
theorem addI_f (n : Nfa) (i x : Nat) : fN (addI n i x) ≤ fN n + 1 := sum_set (into_len _ _)
theorem addI_k (n : Nfa) (i x : Nat) : kN (addI n i x) = kN n := rfl
/-- a list of free steps, as it lies -/
def frD (l : List Int) : D := if l = [] then .sl true [] else isD l
theorem fr_cells (l : List Int) : (frD l).cells = [frD l] := by unfold frD; split <;> rfl
theorem fr_aggQ (l : List Int) : aggQ (frD l) = false := by unfold frD; split <;> rfl
theorem fr_noTup (l : List Int) : noTup (frD l) = true := by unfold frD; split <;> rfl
theorem fr_ne {l : List Int} (h : l ≠ []) : frD l = isD l := if_neg h
theorem fr_strip (l : List Int) : strip (frD l) = some (isD l) := by
  unfold frD
  split
  · rename_i h; rw [h]; rfl
  · exact strip_is l
theorem fr_pures (l : List Int) (x : Int) (H : Heap) : pures H [frD l, .int .i64 x] = some ([isD l, .int .i64 x], H) := by
  have h1 : pur 6 H (frD l) = some (isD l, H) := by rw [show (6 : Nat) = 5 + 1 from rfl]; unfold Vm.pur; rw [fr_strip]
  have h2 : pur 6 H (.int .i64 x) = some (.int .i64 x, H) := rfl
  simp only [pures, deepest, purL, h1, h2, Option.bind_some, Option.map_some]
theorem fr_isSome (l : List Int) (x : Int) : (stripL [frD l, .int .i64 x]).isSome = true := by
  simp [stripL, fr_strip, strip]
structure LyAt (rF rS rT rR : Nat) (n : Nfa) (H : Heap) : Prop where
  F : hget H rF = .arr (n.free.map frD)
  S : hget H rS = .arr (n.set.map (.int .u16))
  T : hget H rT = .arr (n.to.map (.int .i64))
  R : hget H rR = .arr (n.rule.map (.int .i64))
  lF : n.free.length = kN n
  lT : n.to.length = kN n
  lR : n.rule.length = kN n
  d1 : rF ≠ rS
  d2 : rF ≠ rT
  d3 : rF ≠ rR
  d4 : rS ≠ rT
  d5 : rS ≠ rR
  d6 : rT ≠ rR
def lyD (rF rS rT rR K : Nat) : D := .agg [.vec rF 0 K, .vec rS 0 K, .vec rT 0 K, .vec rR 0 K]
theorem LyAt.keep {rF rS rT rR : Nat} {n : Nfa} {H H' : Heap} (h : LyAt rF rS rT rR n H) (hF : hget H' rF = hget H rF) (hS : hget H' rS = hget H rS) (hT : hget H' rT = hget H rT) (hR : hget H' rR = hget H rR) : LyAt rF rS rT rR n H' :=
  ⟨hF.trans h.F, hS.trans h.S, hT.trans h.T, hR.trans h.R, h.lF, h.lT, h.lR, h.d1, h.d2, h.d3, h.d4, h.d5, h.d6⟩
theorem LyAt.lt {rF rS rT rR : Nat} {n : Nfa} {H : Heap} (h : LyAt rF rS rT rR n H) : rF < H.length ∧ rS < H.length ∧ rT < H.length ∧ rR < H.length :=
  ⟨lt_of_hget h.F, lt_of_hget h.S, lt_of_hget h.T, lt_of_hget h.R⟩
theorem LyAt.app {rF rS rT rR : Nat} {n : Nfa} {H L : Heap} (h : LyAt rF rS rT rR n H) : LyAt rF rS rT rR n (H ++ L) := by
  obtain ⟨h1, h2, h3, h4⟩ := h.lt
  exact h.keep (hget_app_lt h1) (hget_app_lt h2) (hget_app_lt h3) (hget_app_lt h4)
theorem fr_map_set (fl : List (List Int)) (i : Nat) (x : Int) : (fl.map frD).set i (isD (intoL (fl.getD i []) x)) = (fl.set i (intoL (fl.getD i []) x)).map frD := by
  rw [List.map_set, fr_ne (into_ne _ _)]
theorem LyAt.addI {rF rS rT rR : Nat} {n : Nfa} {H : Heap} (h : LyAt rF rS rT rR n H) (i x : Nat) : LyAt rF rS rT rR (addI n i x) (H.set rF (.arr ((n.free.map frD).set i (isD (intoL (n.free.getD i []) (x : Int)))))) := by
  refine ⟨?_, by rw [hget_set_ne h.d1]; exact h.S, by rw [hget_set_ne h.d2]; exact h.T, by rw [hget_set_ne h.d3]; exact h.R, by simp [W.addI, h.lF, kN], h.lT, h.lR, h.d1, h.d2, h.d3, h.d4, h.d5, h.d6⟩
  rw [hget_set_eq h.lt.1, fr_map_set]; rfl
/-- what lay below stays, but for three objects -/
def But (rF rS rT m : Nat) (H H' : Heap) : Prop := H.length ≤ H'.length ∧ ∀ q, q < m → q ≠ rF → q ≠ rS → q ≠ rT → hget H' q = hget H q
theorem But.refl {rF rS rT m : Nat} {H : Heap} : But rF rS rT m H H := ⟨Nat.le_refl _, fun _ _ _ _ _ => rfl⟩
theorem But.trans {rF rS rT m : Nat} {H H' H'' : Heap} (h : But rF rS rT m H H') (g : But rF rS rT m H' H'') : But rF rS rT m H H'' := ⟨Nat.le_trans h.1 g.1, fun q a b c d => (g.2 q a b c d).trans (h.2 q a b c d)⟩
theorem But.app {rF rS rT m : Nat} {H L : Heap} (h : m ≤ H.length) : But rF rS rT m H (H ++ L) := ⟨by simp, fun q a _ _ _ => hget_app_lt (by omega)⟩
theorem But.setF {rF rS rT m : Nat} {H : Heap} {ob : Ob} : But rF rS rT m H (H.set rF ob) := ⟨by simp, fun q _ b _ _ => hget_set_ne (Ne.symm b)⟩
theorem But.setS {rF rS rT m : Nat} {H : Heap} {ob : Ob} : But rF rS rT m H (H.set rS ob) := ⟨by simp, fun q _ _ b _ => hget_set_ne (Ne.symm b)⟩
theorem But.setT {rF rS rT m : Nat} {H : Heap} {ob : Ob} : But rF rS rT m H (H.set rT ob) := ⟨by simp, fun q _ _ _ b => hget_set_ne (Ne.symm b)⟩
theorem But.le {rF rS rT m k : Nat} {H H' : Heap} (h : But rF rS rT m H H') (hk : k ≤ m) : But rF rS rT k H H' := ⟨h.1, fun q a => h.2 q (by omega)⟩
/-- one more free step, in the machine's lists as they lie -/
theorem step_I {rF rS rT rR : Nat} {n : Nfa} {H : Heap} (h : LyAt rF rS rT rR n H) {i : Nat} (hi : i < kN n) (x : Nat) (hf : fN n ≤ 90000) :
    (n.free.map frD)[i]? = some (frD (n.free.getD i [])) ∧ vecSize H rF 1 = true ∧ PureF Try.prog A 22 [isD (n.free.getD i []), .int .i64 x] (isD (intoL (n.free.getD i []) (x : Int))) ∧ rF < H.length := by
  have hil : i < n.free.length := by rw [h.lF]; exact hi
  refine ⟨by simp [List.getD_eq_getElem?_getD, hil], ?_, into_ok _ _ ?_, h.lt.1⟩
  · refine vecSize_of h.F (fun e => ?_) ?_
    · have := congrArg List.length e; simp at this; rw [this] at hil; simp at hil
    · cases hq : n.free with
      | nil => rfl
      | cons y r => simp [headSize, fr_cells]
  · have : (n.free.getD i []).length ≤ fN n := le_fN
    omega
mutual
theorem layN_k : ∀ (r : Rx) (a : Nat) (n : Nfa), kN (layN r a n) = kN n
  | .mk k s l, a, n => by
    rw [layN]
    split
    · simp [kN]
    · simp only
      have h1 := layL_k k a (a + 2 * sizeL l + 1) l (a + 1) a (if k ≠ 2 ∧ k ≠ 3 then addI n a (a + 2 * sizeL l + 1) else n)
      have h2 : kN (if k ≠ 2 ∧ k ≠ 3 then addI n a (a + 2 * sizeL l + 1) else n) = kN n := by split <;> rfl
      split
      · rw [addI_k, h1, h2]
      · rw [h1, h2]
theorem layL_k (k : Int) (a en : Nat) : ∀ (l : List Rx) (next last : Nat) (n : Nfa), kN (layL k a en l next last n).1 = kN n
  | [], _, _, n => rfl
  | r :: l, next, last, n => by
    simp only [layL]
    rw [layL_k k a en l, kidW_k, layN_k r]
theorem kidW_k (k : Int) (a en next kid last : Nat) (n : Nfa) : kN (kidW k a en next kid last n).1 = kN n := by
  unfold kidW
  split
  · rfl
  · split <;> rfl
end
theorem kidW_f (k : Int) (a en next kid last : Nat) (n : Nfa) : fN (kidW k a en next kid last n).1 ≤ fN n + 3 := by
  unfold kidW
  split
  · have := addI_f n last next
    exact Nat.le_trans this (by omega)
  · split
    · have h1 := addI_f n kid next
      have h2 := addI_f (addI n kid next) a next
      have h3 := addI_f (addI (addI n kid next) a next) kid en
      exact Nat.le_trans h3 (by omega)
    · have h1 := addI_f n a next
      have h2 := addI_f (addI n a next) kid en
      exact Nat.le_trans h2 (by omega)
theorem kidW_last (k : Int) (a en next kid last : Nat) (n : Nfa) : (kidW k a en next kid last n).2 = if k = 2 then kid else last := by
  unfold kidW
  split
  · rfl
  · split <;> rfl
mutual
theorem layN_f : ∀ (r : Rx) (a : Nat) (n : Nfa), fN (layN r a n) + 3 ≤ fN n + 5 * sizeR r
  | .mk k s l, a, n => by
    rw [layN]
    simp only [sizeR]
    split
    · show fN n + 3 ≤ _; omega
    · have h1 := layL_f k a (a + 2 * sizeL l + 1) l (a + 1) a (if k ≠ 2 ∧ k ≠ 3 then addI n a (a + 2 * sizeL l + 1) else n)
      have h2 : fN (if k ≠ 2 ∧ k ≠ 3 then addI n a (a + 2 * sizeL l + 1) else n) ≤ fN n + 1 := by
        split
        · exact addI_f _ _ _
        · omega
      split
      · have := addI_f (layL k a (a + 2 * sizeL l + 1) l (a + 1) a (if k ≠ 2 ∧ k ≠ 3 then addI n a (a + 2 * sizeL l + 1) else n)).1 (layL k a (a + 2 * sizeL l + 1) l (a + 1) a (if k ≠ 2 ∧ k ≠ 3 then addI n a (a + 2 * sizeL l + 1) else n)).2 (a + 2 * sizeL l + 1)
        omega
      · omega
theorem layL_f (k : Int) (a en : Nat) : ∀ (l : List Rx) (next last : Nat) (n : Nfa), fN (layL k a en l next last n).1 ≤ fN n + 5 * sizeL l
  | [], _, _, n => by simp [layL]
  | r :: l, next, last, n => by
    simp only [layL, sizeL]
    have h1 := layL_f k a en l (next + 2 * sizeR r) (kidW k a en next (next + 2 * sizeR r - 1) last (layN r next n)).2 (kidW k a en next (next + 2 * sizeR r - 1) last (layN r next n)).1
    have h2 := kidW_f k a en next (next + 2 * sizeR r - 1) last (layN r next n)
    have h3 := layN_f r next n
    have h4 := sizeR_pos r
    omega
end
end Go.Proofs.W
end
/- An expression's steps, laid: the walk. -/
section
set_option maxHeartbeats 4000000
set_option linter.unusedVariables false
set_option linter.unusedSimpArgs false
namespace Go.Proofs.W
open Go Vm Go.Proofs.Zsb6

theorem depth_of_mem {x : Rx} : ∀ {l : List Rx}, x ∈ l → depth x ≤ depthL l
  | y :: l, h => by
    simp only [depthL]
    rcases List.mem_cons.1 h with rfl | h
    · omega
    · have := depth_of_mem h; omega
theorem size_of_mem {x : Rx} : ∀ {l : List Rx}, x ∈ l → sizeR x ≤ sizeL l
  | y :: l, h => by
    simp only [sizeL]
    rcases List.mem_cons.1 h with rfl | h
    · omega
    · have := size_of_mem h; omega
theorem ly_cells (rF rS rT rR K : Nat) : (lyD rF rS rT rR K).cells = [.vec rF 0 K, .vec rS 0 K, .vec rT 0 K, .vec rR 0 K] := rfl
theorem ly_aggQ (rF rS rT rR K : Nat) : aggQ (lyD rF rS rT rR K) = true := rfl
theorem ly_noTup (rF rS rT rR K : Nat) : noTup (lyD rF rS rT rR K) = true := rfl
/-- one more free step: all that the walk asks -/
theorem addI_pack {rF rS rT rR : Nat} {n : Nfa} {H : Heap} (h : LyAt rF rS rT rR n H) {i : Nat} (hi : i < kN n) (x : Nat) (hf : fN n ≤ 90000) :
    ∃ (f v : D) (qs : List D) (Hn : Heap), (n.free.map frD)[i]? = some f ∧ f.cells = [f] ∧ aggQ f = false ∧ noTup f = true ∧ pures H [f, .int .i64 x] = some (qs, H) ∧ (stripL [f, .int .i64 x]).isSome = true ∧ PureF Try.prog A 22 qs v ∧ v.cells = [v] ∧ aggQ v = false ∧ noTup v = true ∧
      H.set rF (.arr ((n.free.map frD).set i v)) = Hn ∧ LyAt rF rS rT rR (addI n i x) Hn ∧ (∀ m, But rF rS rT m H Hn) ∧ Hn.length = H.length ∧ (∀ q, q ≠ rF → hget Hn q = hget H q) ∧ vecSize H rF 1 = true := by
  obtain ⟨s1, s2, s3, s4⟩ := step_I h hi x hf
  exact ⟨_, _, _, _, s1, fr_cells _, fr_aggQ _, fr_noTup _, fr_pures _ _ H, fr_isSome _ _, s3, rfl, rfl, rfl, rfl, h.addI i x, fun m => But.setF, by simp, fun q hq => hget_set_ne (Ne.symm hq), s2⟩
theorem lay_ok : ∀ (d : Nat) (r : Rx), depth r ≤ d → d ≤ 12 → okR r → sizeR r ≤ 100 → ∀ (rF rS rT rR : Nat) (n : Nfa) (a : Nat) (H : Heap), LyAt rF rS rT rR n H → a + 2 * sizeR r ≤ kN n → kN n ≤ 10000 → fN n + 5 * sizeR r ≤ 80000 →
    EvF Try.prog A 21 [lyD rF rS rT rR (kN n), rxD r, .int .i64 a] H (fun _ H' => LyAt rF rS rT rR (layN r a n) H' ∧ But rF rS rT H.length H H') (fun _ _ => False) := by
  intro d
  induction d with
  | zero => rintro ⟨k, s, l⟩ h; simp [depth] at h
  | succ d ih =>
    rintro ⟨k, s, l⟩ hd hd12 hr hsz rF rS rT rR n a H h ha hK hf
    have hkids : ∀ x ∈ l, _ := fun x hx => ih x (by have := depth_of_mem hx; simp only [depth] at hd; omega) (by omega) (okL_get hr.2.2.2.2.2 x hx) (by have := size_of_mem hx; simp only [sizeR] at hsz; omega)
    have hnk : ∀ x ∈ l, PureF Try.prog A 20 [rxD x] (.int .i64 (sizeR x)) := fun x hx => by
      have h1 : sizeR x ≤ 100 := by have := size_of_mem hx; simp only [sizeR] at hsz; omega
      have := nodes_ok 12 x (okL_get hr.2.2.2.2.2 x hx) (by have := depth_of_mem hx; simp only [depth] at hd; omega) (by omega)
      rwa [(nodes_small x).1 h1] at this
    have hn0 := nodes_ok 12 (.mk k s l) hr (by omega) (by omega)
    rw [(nodes_small _).1 hsz] at hn0
    have hst0 := strip1 (strip_rx (.mk k s l))
    obtain ⟨l1, l2, l3, l4⟩ := h.lt
    have hlen : (H ++ [Ob.arr [lyD rF rS rT rR (kN n)]]).length = H.length + 1 := by simp
    have hb : H.length ≤ H.length := Nat.le_refl _
    simp only [sizeR] at hn0 hsz ha hf
    obtain ⟨en, hen⟩ : ∃ en, en = a + 2 * sizeL l + 1 := ⟨_, rfl⟩
    obtain ⟨n1, hn1⟩ : ∃ n1, n1 = if k ≠ 2 ∧ k ≠ 3 then addI n a en else n := ⟨_, rfl⟩
    have hlay : layN (.mk k s l) a n = if k = 1 then { n with set := n.set.set a s, to := n.to.set a (en : Int) } else if k = 2 then addI (layL k a en l (a + 1) a n1).1 (layL k a en l (a + 1) a n1).2 en else (layL k a en l (a + 1) a n1).1 := by
      rw [hn1, hen, layN]
    have hen2 : (a : Int) + 2 * ((sizeL l : Int) + 1) - 1 = (en : Int) := by omega
    rw [hlay]
    have he1 : en ≤ a + 2 * sizeL l + 1 := by omega
    have he2 : a + 2 * sizeL l + 1 ≤ en := by omega
    clear hlay hen
    replace hn1 : Hid (n1 = if k ≠ 2 ∧ k ≠ 3 then addI n a en else n) := hn1
    rw [rx_mk] at hst0 hn0
    have b1 := ly_cells rF rS rT rR (kN n)
    have b2 := ly_aggQ rF rS rT rR (kN n)
    have b3 := ly_noTup rF rS rT rR (kN n)
    obtain ⟨H2, hH2⟩ : ∃ H2, H ++ [Ob.arr [lyD rF rS rT rR (kN n)]] ++ [Ob.arr [D.agg [.int .u8 k, .int .u16 s, .sl false (rxDs l)]]] = H2 := ⟨_, rfl⟩
    have h3 : hget H2 H.length = .arr [lyD rF rS rT rR (kN n)] := by rw [← hH2, hget_app_lt (by simp), hget_new]
    have h4 : hget H2 (H.length + 1) = .arr [D.agg [.int .u8 k, .int .u16 s, .sl false (rxDs l)]] := by rw [← hH2, ← hlen, hget_new]
    have hL2 : LyAt rF rS rT rR n H2 := by rw [← hH2]; exact h.app.app
    have hB2 : But rF rS rT H.length H H2 := by rw [← hH2]; exact (But.app (Nat.le_refl _)).trans (But.app (by simp))
    have hl2 : H2.length = H.length + 2 := by rw [← hH2]; simp
    have p1 : rF ≠ H.length ∧ rS ≠ H.length ∧ rT ≠ H.length ∧ rF ≠ H.length + 1 ∧ rS ≠ H.length + 1 ∧ rT ≠ H.length + 1 := by omega
    generalize hgp : H.length = p at *
    have hgp1 : p ≤ H.length := by omega
    have hgp2 : H.length ≤ p := by omega
    have hl2a : H2.length ≤ p + 2 := by omega
    have hl2b : p + 2 ≤ H2.length := by omega
    have hgl := hgp
    clear hl2 hlen hb h l1 l2 l3 l4
    refine evF_inB (n := 167) (rs := []) Try.func21 rfl rfl rfl rfl rfl rfl ?_
    repeat' (first | refine wz1 ?_ | refine wz2 ?_ | refine wz3 ?_ | refine wz4 ?_ | refine wz5 ?_ | refine wz6 ?_ | simp -dsimp (maxSteps:=999999) (disch:=omega) only[go_sem,simprocAttr, *,rx_mk] | ((first | refine wz8 (fun hh => ?_) (fun hh => ?_) | refine wz9 (fun hh => ?_) (fun hh => ?_) | refine wpB_cond (by simp -dsimp (maxSteps:=999999) (disch:=omega) only[go_sem,simprocAttr, *,rx_mk]; exact rfl) (fun hh => ?_) (fun hh => ?_)) <;> (try replace hh := vqs hh) <;> (try (exfalso; first | exact hh | omega))))
    refine evB_plain bo20 rfl rfl hst0 hn0 ?_
    simp -dsimp (maxSteps:=999999) (disch:=omega) only[go_sem,simprocAttr, *]
    by_cases hk1 : k = 1
    · have hSz : vecSize H2 rS 1 = true := vecSize_of hL2.S (fun e => by have := congrArg List.length e; simp only [List.length_map, List.length_nil, kN] at this ha; omega) (headU16 _)
      have hSa : (n.set.map (D.int .u16))[a]? = some (.int .u16 (n.set.getD a 0)) := by
        have : a < n.set.length := by simp only [kN] at ha; omega
        simp [List.getD_eq_getElem?_getD, this]
      have hlS := hL2.lt.2.1
      have hT2 : hget (H2.set rS (.arr ((n.set.map (D.int .u16)).set a (.int .u16 s)))) rT = .arr (n.to.map (.int .i64)) := by rw [hget_set_ne hL2.d4]; exact hL2.T
      have hTz : vecSize (H2.set rS (.arr ((n.set.map (D.int .u16)).set a (.int .u16 s)))) rT 1 = true := vecSize_of hT2 (fun e => by have := congrArg List.length e; have := hL2.lT; simp only [List.length_map, List.length_nil, kN] at *; omega) (headInts _)
      have hTa : (n.to.map (D.int .i64))[a]? = some (.int .i64 (n.to.getD a 0)) := by
        have : a < n.to.length := by have := hL2.lT; omega
        simp [List.getD_eq_getElem?_getD, this]
      have h3' : hget (H2.set rS (.arr ((n.set.map (D.int .u16)).set a (.int .u16 s)))) p = .arr [lyD rF rS rT rR (kN n)] := by rw [hget_set_ne p1.2.1]; exact h3
      have hfin : LyAt rF rS rT rR { n with set := n.set.set a s, to := n.to.set a (en : Int) } ((H2.set rS (.arr ((n.set.map (D.int .u16)).set a (.int .u16 s)))).set rT (.arr ((n.to.map (D.int .i64)).set a (.int .i64 en)))) := by
        refine ⟨by rw [hget_set_ne (Ne.symm hL2.d2), hget_set_ne (Ne.symm hL2.d1)]; exact hL2.F, ?_, ?_, by rw [hget_set_ne hL2.d6, hget_set_ne hL2.d5]; exact hL2.R, ?_, ?_, ?_, hL2.d1, hL2.d2, hL2.d3, hL2.d4, hL2.d5, hL2.d6⟩
        · rw [hget_set_ne (Ne.symm hL2.d4), hget_set_eq hlS, List.map_set]
        · rw [hget_set_eq (by simpa using hL2.lt.2.2.1), List.map_set]
        · have := hL2.lF; simpa [kN] using this
        · have := hL2.lT; simpa [kN] using this
        · have := hL2.lR; simpa [kN] using this
      have hBf : But rF rS rT p H ((H2.set rS (.arr ((n.set.map (D.int .u16)).set a (.int .u16 s)))).set rT (.arr ((n.to.map (D.int .i64)).set a (.int .i64 en)))) := (hB2.trans But.setS).trans But.setT
      have hS2 := hL2.S
      have haK : a < kN n := by omega
      rw [if_pos hk1]
      clear ih hkids hnk hn0 hst0 hL2 hB2 hH2
      subst hk1
      repeat' (first | refine wz1 ?_ | refine wz2 ?_ | refine wz3 ?_ | refine wz4 ?_ | refine wz5 ?_ | refine wz6 ?_ | simp -dsimp (maxSteps:=999999) (disch:=omega) only[go_sem,simprocAttr, *] | ((first | refine wz8 (fun hh => ?_) (fun hh => ?_) | refine wz9 (fun hh => ?_) (fun hh => ?_) | refine wz7 (fun hh => ?_) (fun hh => ?_)) <;> (try replace hh := vqs hh) <;> (try (exfalso; first | exact hh | omega))))
      all_goals exact ⟨hfin, hBf⟩
    rw [if_neg hk1]
    refine wz1 ?_
    refine wz1 ?_
    refine wz2 ?_
    simp -dsimp (maxSteps:=999999) (disch:=omega) only[go_sem,simprocAttr, *]
    refine wz7 (fun hh => ?_) (fun hh => ?_)
    · exact absurd hh (by simp)
    refine wz4 ?_
    simp -dsimp (maxSteps:=999999) (disch:=omega) only[go_sem,simprocAttr, *]
    refine wpB_mid (fun e H3 => LyAt rF rS rT rR n1 H3 ∧ But rF rS rT p H H3 ∧ p + 2 ≤ H3.length ∧ hget H3 p = .arr [lyD rF rS rT rR (kN n)] ∧ hget H3 (p + 1) = .arr [D.agg [.int .u8 k, .int .u16 s, .sl false (rxDs l)]] ∧ e 2 = .int .i64 a ∧ e 3 = .ptr p 0 0 ∧ e 4 = .ptr (p + 1) 0 0 ∧ e 6 = .int .i64 en) ?_ ?_
    · intro R hR
      by_cases c23 : k ≠ 2 ∧ k ≠ 3
      · have hn1' : n1 = addI n a en := by rw [show n1 = _ from hn1, if_pos c23]
        obtain ⟨s1, s2, s3, s4⟩ := step_I hL2 (i := a) (by omega) en (by omega)
        have hp := fr_pures (n.free.getD a []) (en : Int) H2
        have hps := fr_isSome (n.free.getD a []) (en : Int)
        have hLn := hL2.addI a en
        have hBn : But rF rS rT p H (H2.set rF (.arr ((n.free.map frD).set a (isD (intoL (n.free.getD a []) (en : Int)))))) := hB2.trans But.setF
        have hF2 := hL2.F
        have f1 := fr_cells (n.free.getD a [])
        have f2 := fr_aggQ (n.free.getD a [])
        have f3 := fr_noTup (n.free.getD a [])
        have g3 : hget (H2.set rF (.arr ((n.free.map frD).set a (isD (intoL (n.free.getD a []) (en : Int)))))) p = _ := (hget_set_ne p1.1).trans h3
        have g4 : hget (H2.set rF (.arr ((n.free.map frD).set a (isD (intoL (n.free.getD a []) (en : Int)))))) (p + 1) = _ := (hget_set_ne p1.2.2.2.1).trans h4
        have haK : a < kN n := by omega
        have gl : p + 2 ≤ (H2.set rF (.arr ((n.free.map frD).set a (isD (intoL (n.free.getD a []) (en : Int)))))).length := by simpa using hl2b
        rw [← hn1'] at hLn
        obtain ⟨c2, c3⟩ := c23
        generalize hq : isD (intoL (n.free.getD a []) (en : Int)) = q at *
        have q1 : q.cells = [q] := by rw [← hq]; rfl
        have q2 : aggQ q = false := by rw [← hq]; rfl
        have q3 : noTup q = true := by rw [← hq]; rfl
        clear ih hkids hnk hn0 hst0 hL2 hB2 hH2 hn1 hq
        generalize hob : H2.set rF (.arr ((n.free.map frD).set a q)) = H3 at *
        repeat' (first | refine wz1 ?_ | refine wz2 ?_ | refine wz3 ?_ | refine wz4 ?_ | refine wz5 ?_ | refine wz6 ?_ | simp -dsimp (maxSteps:=999999) (disch:=omega) only[go_sem,simprocAttr, *] | ((first | refine wz8 (fun hh => ?_) (fun hh => ?_) | refine wz9 (fun hh => ?_) (fun hh => ?_) | refine wz7 (fun hh => ?_) (fun hh => ?_)) <;> (try replace hh := vqs hh) <;> (try (exfalso; first | exact hh | omega))))
        refine wpB_regionXL (prs := []) (by kernel_rfl) rfl (by kernel_rfl) ?_; simp -dsimp (maxSteps:=999999) (disch:=omega) only[go_sem,simprocAttr, *]
        refine evB_pureK bo22 rfl rfl hp s3 ?_
        intro H4 hH4
        obtain rfl : H4 = H2 := by rcases hH4 with h | h <;> exact h
        repeat' (first | refine wz1 ?_ | refine wz2 ?_ | refine wz3 ?_ | refine wz4 ?_ | refine wz5 ?_ | refine wz6 ?_ | simp -dsimp (maxSteps:=999999) (disch:=omega) only[go_sem,simprocAttr, *] | ((first | refine wz8 (fun hh => ?_) (fun hh => ?_) | refine wz9 (fun hh => ?_) (fun hh => ?_) | refine wz7 (fun hh => ?_) (fun hh => ?_)) <;> (try replace hh := vqs hh) <;> (try (exfalso; first | exact hh | omega))))
        refine hR _ _ ⟨hLn, hBn, gl, g3, g4, gs, gs, gs, gs⟩
      · have hn1' : n1 = n := by rw [show n1 = _ from hn1, if_neg c23]
        rw [hn1'] at hR
        have hk23 : k = 2 ∨ k = 3 := by
          by_cases h2 : k = 2
          · exact .inl h2
          · exact .inr (by by_cases h3 : k = 3; exact h3; exact absurd ⟨h2, h3⟩ c23)
        clear ih hkids hnk hn0 hst0 hH2 hn1 c23 hn1'
        rcases hk23 with rfl | rfl
        · repeat' (first | refine wz1 ?_ | refine wz2 ?_ | refine wz3 ?_ | refine wz4 ?_ | refine wz5 ?_ | refine wz6 ?_ | simp -dsimp (maxSteps:=999999) (disch:=omega) only[go_sem,simprocAttr, *] | ((first | refine wz8 (fun hh => ?_) (fun hh => ?_) | refine wz9 (fun hh => ?_) (fun hh => ?_) | refine wz7 (fun hh => ?_) (fun hh => ?_)) <;> (try replace hh := vqs hh) <;> (try (exfalso; first | exact hh | omega))))
          refine hR _ _ ⟨hL2, hB2, hl2b, h3, h4, gs, gs, gs, gs⟩
        · repeat' (first | refine wz1 ?_ | refine wz2 ?_ | refine wz3 ?_ | refine wz4 ?_ | refine wz5 ?_ | refine wz6 ?_ | simp -dsimp (maxSteps:=999999) (disch:=omega) only[go_sem,simprocAttr, *] | ((first | refine wz8 (fun hh => ?_) (fun hh => ?_) | refine wz9 (fun hh => ?_) (fun hh => ?_) | refine wz7 (fun hh => ?_) (fun hh => ?_)) <;> (try replace hh := vqs hh) <;> (try (exfalso; first | exact hh | omega))))
          refine hR _ _ ⟨hL2, hB2, hl2b, h3, h4, gs, gs, gs, gs⟩
    · have hk1n : kN n1 = kN n := by rw [show n1 = _ from hn1]; split <;> rfl
      have hf1 : fN n1 ≤ fN n + 1 := by
        rw [show n1 = _ from hn1]
        split
        · exact addI_f n a en
        · omega
      clear hn1 h3 h4 hL2 hB2 hH2 hl2a hl2b hen2 hn0 hst0
      rintro e H3 ⟨hL3, hB3, hl3, h3, h4, e2, e3, e4, e6⟩
      generalize hG : layL k a en l (a + 1) a n1 = G
      have hG0 : G = layL k a en (l.drop 0) (a + 1) a n1 := hG.symm
      have hsz0 : a + 1 + 2 * sizeL (l.drop 0) ≤ en := by rw [List.drop_zero]; omega
      have hfz0 : fN n1 + 5 * sizeL (l.drop 0) ≤ 80000 := by rw [List.drop_zero]; omega
      have hll : l.length ≤ 1000 := by have := len_size l; omega
      clear hG
      repeat' (first | refine wz1 ?_ | refine wz2 ?_ | refine wz3 ?_ | refine wz4 ?_ | refine wz5 ?_ | refine wz6 ?_ | simp -dsimp (maxSteps:=999999) (disch:=omega) only[go_sem,simprocAttr, *] | ((first | refine wz8 (fun hh => ?_) (fun hh => ?_) | refine wz9 (fun hh => ?_) (fun hh => ?_) | refine wz7 (fun hh => ?_) (fun hh => ?_)) <;> (try replace hh := vqs hh) <;> (try (exfalso; first | exact hh | omega))))
      refine wpB_loop (fun e Hj => ∃ (j nx la : Nat) (nj : Nfa), j ≤ l.length ∧ LyAt rF rS rT rR nj Hj ∧ But rF rS rT p H Hj ∧ p + 2 ≤ Hj.length ∧ hget Hj p = .arr [lyD rF rS rT rR (kN n)] ∧ hget Hj (p + 1) = .arr [D.agg [.int .u8 k, .int .u16 s, .sl false (rxDs l)]] ∧ kN nj = kN n ∧ la < kN n ∧ a + 1 ≤ nx ∧ nx + 2 * sizeL (l.drop j) ≤ en ∧ fN nj + 5 * sizeL (l.drop j) ≤ 80000 ∧ G = layL k a en (l.drop j) nx la nj ∧ e 2 = .int .i64 a ∧ e 3 = .ptr p 0 0 ∧ e 4 = .ptr (p + 1) 0 0 ∧ e 6 = .int .i64 en ∧ e 7 = .int .i64 nx ∧ e 8 = .int .i64 la ∧ e 9 = .int .i64 j) (fun e H => l.length - natOf (e 9)) ?_ ?_
      · exact ⟨0, a + 1, a, n1, by omega, hL3, hB3, hl3, h3, h4, hk1n, by omega, by omega, hsz0, hfz0, hG0, gs, gs, gs, gs, gs, gs, gs⟩
      clear hL3 hB3 hl3 h3 h4 e2 e3 e4 e6 hG0 hsz0 hfz0 hk1n hf1
      rintro e Hj ⟨j, nx, la, nj, hj, hL, hB, hl, h3, h4, hkj, hla, hnx, hsz, hfz, hG, e2, e3, e4, e6, e7, e8, e9⟩ R hR
      by_cases hb : j < l.length
      · have hxm := List.getElem_mem hb
        have hx : (rxDs l)[j]? = some (rxD l[j]) := by rw [rxDs_at, List.getElem?_eq_getElem hb]; rfl
        have hkx := hkids l[j] hxm rF rS rT rR nj nx Hj hL
        have hnx1 := hnk l[j] hxm
        rw [List.drop_eq_getElem_cons hb] at hsz hfz hG
        simp only [sizeL] at hsz hfz
        have hdr : sizeL (l.drop (j + 1)) = sizeL (l.drop (j + 1)) := rfl
        rw [layL] at hG
        have hxp := sizeR_pos l[j]
        have hst := strip1 (strip_rx l[j])
        have c1 := rx_cells l[j]
        have c2 := rx_aggQ l[j]
        have c3 := rx_noTup l[j]
        generalize l[j] = x at *
        have hkx2 := hkx (by omega) (by omega) (by omega)
        rw [hkj] at hkx2
        obtain ⟨kd, hkd⟩ : ∃ kd, kd = nx + 2 * sizeR x - 1 := ⟨_, rfl⟩
        rw [← hkd] at hG
        have hkd1 : kd + 1 ≤ nx + 2 * sizeR x := by omega
        have hkd2 : nx + 2 * sizeR x ≤ kd + 1 := by omega
        have hkd3 : (nx : Int) + 2 * (sizeR x : Int) - 1 = (kd : Int) := by omega
        have hkk : nx + 2 * sizeR x = kd + 1 := by omega
        rw [hkk] at hG
        clear hkk
        have hnf := layN_f x nx nj
        have hnk2 := layN_k x nx nj
        rw [hkj] at hnk2
        clear hkd hkx ih hkids hnk hL hdr
        repeat' (first | refine wz1 ?_ | refine wz2 ?_ | refine wz3 ?_ | refine wz4 ?_ | refine wz5 ?_ | refine wz6 ?_ | simp -dsimp (maxSteps:=999999) (disch:=omega) only[go_sem,simprocAttr, *] | ((first | refine wz8 (fun hh => ?_) (fun hh => ?_) | refine wz9 (fun hh => ?_) (fun hh => ?_) | refine wz7 (fun hh => ?_) (fun hh => ?_)) <;> (try replace hh := vqs hh) <;> (try (exfalso; first | exact hh | omega))))
        refine wpB_regionXL (prs := []) (by kernel_rfl) rfl (by kernel_rfl) ?_; simp -dsimp (maxSteps:=999999) (disch:=omega) only[go_sem,simprocAttr, *]
        refine ⟨fun h => Bool.noConfusion (show false = true from h), evB_state bo21 rfl rfl hkx2 ?_ (fun _ _ h => h.elim)⟩
        rintro _ H4 ⟨hL4, hB4⟩
        generalize layN x nx nj = n4 at *
        have hB5 := hB.trans (hB4.le (show p ≤ Hj.length by omega))
        have h35 := (hB4.2 p (by omega) (Ne.symm p1.1) (Ne.symm p1.2.1) (Ne.symm p1.2.2.1)).trans h3
        have h45 := (hB4.2 (p + 1) (by omega) (Ne.symm p1.2.2.2.1) (Ne.symm p1.2.2.2.2.1) (Ne.symm p1.2.2.2.2.2)).trans h4
        have hl5 := hB4.1
        clear hkx2 hB hB4 h3 h4
        have hF4 := hL4.F
        have hkw := kidW_f k a en nx kd la n4
        have hkw2 := kidW_k k a en nx kd la n4
        have hkw3 := kidW_last k a en nx kd la n4
        repeat' (first | refine wz1 ?_ | refine wz2 ?_ | refine wz3 ?_ | refine wz4 ?_ | refine wz5 ?_ | refine wz6 ?_ | simp -dsimp (maxSteps:=999999) (disch:=omega) only[go_sem,simprocAttr, *] | ((first | refine wz8 (fun hh => ?_) (fun hh => ?_) | refine wz9 (fun hh => ?_) (fun hh => ?_) | refine wz7 (fun hh => ?_) (fun hh => ?_)) <;> (try replace hh := vqs hh) <;> (try (exfalso; first | exact hh | omega))))
        refine evB_plain bo20 rfl rfl hst hnx1 ?_
        by_cases hk2 : k = 2
        · have hkd : kidW k a en nx kd la n4 = (addI n4 la nx, kd) := by rw [kidW, if_pos hk2]
          rw [hkd] at hG hkw
          simp only at hG hkw
          obtain ⟨f, v, qs, Hn, s1, s2, s3, s4, s5, s6, s7, s8, s9, s10, s11, s12, s13, s14, s15, s16⟩ := addI_pack hL4 (i := la) (by omega) nx (by omega)
          have g3 := (s15 p (Ne.symm p1.1)).trans h35
          have g4 := (s15 (p + 1) (Ne.symm p1.2.2.2.1)).trans h45
          have gB := hB5.trans (s13 p)
          clear hkd hkw2 hkw3 hB5 hL4
          repeat' (first | refine wz1 ?_ | refine wz2 ?_ | refine wz3 ?_ | refine wz4 ?_ | refine wz5 ?_ | refine wz6 ?_ | simp -dsimp (maxSteps:=999999) (disch:=omega) only[go_sem,simprocAttr, *] | ((first | refine wz8 (fun hh => ?_) (fun hh => ?_) | refine wz9 (fun hh => ?_) (fun hh => ?_) | refine wz7 (fun hh => ?_) (fun hh => ?_)) <;> (try replace hh := vqs hh) <;> (try (exfalso; first | exact hh | omega))))
          refine wpB_regionXL (prs := []) (by kernel_rfl) rfl (by kernel_rfl) ?_; simp -dsimp (maxSteps:=999999) (disch:=omega) only[go_sem,simprocAttr, *]
          refine evB_pureK bo22 rfl rfl s5 s7 ?_
          intro H6 hH6
          obtain rfl : H6 = H4 := by rcases hH6 with h | h <;> exact h
          repeat' (first | refine wz1 ?_ | refine wz2 ?_ | refine wz3 ?_ | refine wz4 ?_ | refine wz5 ?_ | refine wz6 ?_ | simp -dsimp (maxSteps:=999999) (disch:=omega) only[go_sem,simprocAttr, *] | ((first | refine wz8 (fun hh => ?_) (fun hh => ?_) | refine wz9 (fun hh => ?_) (fun hh => ?_) | refine wz7 (fun hh => ?_) (fun hh => ?_)) <;> (try replace hh := vqs hh) <;> (try (exfalso; first | exact hh | omega))))
          refine hR _ _ ⟨j + 1, kd + 1, kd, addI n4 la nx, by omega, s12, gB, by omega, g3, g4, by rw [addI_k]; omega, by omega, by omega, by omega, by omega, hG, gs, gs, gs, gs, gs, gs, gs⟩ ?_
          simp -dsimp (maxSteps:=999999) (disch:=omega) only[go_sem,simprocAttr, *,natOf_int]
        by_cases hk4 : k = 4
        · have hkd : kidW k a en nx kd la n4 = (addI (addI (addI n4 kd nx) a nx) kd en, la) := by rw [kidW, if_neg hk2, if_pos hk4]
          rw [hkd] at hG hkw
          simp only at hG hkw
          have q1 := addI_f n4 kd nx
          have q2 := addI_f (addI n4 kd nx) a nx
          obtain ⟨f1, v1, qs1, H1x, s11, s12, s13, s14, s15, s16, s17, s18, s19, s110, s111, s112, s113, s114, s115, s116⟩ := addI_pack hL4 (i := kd) (by (try simp only [addI_k]); omega) nx (by omega)
          have g13 := (s115 p (Ne.symm p1.1)).trans h35
          have g14 := (s115 (p + 1) (Ne.symm p1.2.2.2.1)).trans h45
          have g1B := hB5.trans (s113 p)
          have g1F := s112.F
          obtain ⟨f2, v2, qs2, H2x, s21, s22, s23, s24, s25, s26, s27, s28, s29, s210, s211, s212, s213, s214, s215, s216⟩ := addI_pack s112 (i := a) (by (try simp only [addI_k]); omega) nx (by omega)
          have g23 := (s215 p (Ne.symm p1.1)).trans g13
          have g24 := (s215 (p + 1) (Ne.symm p1.2.2.2.1)).trans g14
          have g2B := g1B.trans (s213 p)
          have g2F := s212.F
          obtain ⟨f3, v3, qs3, H3x, s31, s32, s33, s34, s35, s36, s37, s38, s39, s310, s311, s312, s313, s314, s315, s316⟩ := addI_pack s212 (i := kd) (by (try simp only [addI_k]); omega) en (by omega)
          have g33 := (s315 p (Ne.symm p1.1)).trans g23
          have g34 := (s315 (p + 1) (Ne.symm p1.2.2.2.1)).trans g24
          have g3B := g2B.trans (s313 p)
          have g3F := s312.F
          clear hkd hkw2 hkw3 hB5 hL4 g1B g2B
          repeat' (first | refine wz1 ?_ | refine wz2 ?_ | refine wz3 ?_ | refine wz4 ?_ | refine wz5 ?_ | refine wz6 ?_ | simp -dsimp (maxSteps:=999999) (disch:=omega) only[go_sem,simprocAttr, *] | ((first | refine wz8 (fun hh => ?_) (fun hh => ?_) | refine wz9 (fun hh => ?_) (fun hh => ?_) | refine wz7 (fun hh => ?_) (fun hh => ?_)) <;> (try replace hh := vqs hh) <;> (try (exfalso; first | exact hh | omega))))
          refine wpB_regionXL (prs := []) (by kernel_rfl) rfl (by kernel_rfl) ?_; simp -dsimp (maxSteps:=999999) (disch:=omega) only[go_sem,simprocAttr, *]
          refine evB_pureK bo22 rfl rfl s15 s17 ?_
          intro H6 hH6
          obtain rfl : H6 = H4 := by rcases hH6 with h | h <;> exact h
          repeat' (first | refine wz1 ?_ | refine wz2 ?_ | refine wz3 ?_ | refine wz4 ?_ | refine wz5 ?_ | refine wz6 ?_ | simp -dsimp (maxSteps:=999999) (disch:=omega) only[go_sem,simprocAttr, *] | ((first | refine wz8 (fun hh => ?_) (fun hh => ?_) | refine wz9 (fun hh => ?_) (fun hh => ?_) | refine wz7 (fun hh => ?_) (fun hh => ?_)) <;> (try replace hh := vqs hh) <;> (try (exfalso; first | exact hh | omega))))
          refine wpB_regionXL (prs := []) (by kernel_rfl) rfl (by kernel_rfl) ?_; simp -dsimp (maxSteps:=999999) (disch:=omega) only[go_sem,simprocAttr, *]
          refine evB_pureK bo22 rfl rfl s25 s27 ?_
          intro H6 hH6
          obtain rfl : H6 = H1x := by rcases hH6 with h | h <;> exact h
          repeat' (first | refine wz1 ?_ | refine wz2 ?_ | refine wz3 ?_ | refine wz4 ?_ | refine wz5 ?_ | refine wz6 ?_ | simp -dsimp (maxSteps:=999999) (disch:=omega) only[go_sem,simprocAttr, *] | ((first | refine wz8 (fun hh => ?_) (fun hh => ?_) | refine wz9 (fun hh => ?_) (fun hh => ?_) | refine wz7 (fun hh => ?_) (fun hh => ?_)) <;> (try replace hh := vqs hh) <;> (try (exfalso; first | exact hh | omega))))
          refine wpB_regionXL (prs := []) (by kernel_rfl) rfl (by kernel_rfl) ?_; simp -dsimp (maxSteps:=999999) (disch:=omega) only[go_sem,simprocAttr, *]
          refine evB_pureK bo22 rfl rfl s35 s37 ?_
          intro H6 hH6
          obtain rfl : H6 = H2x := by rcases hH6 with h | h <;> exact h
          repeat' (first | refine wz1 ?_ | refine wz2 ?_ | refine wz3 ?_ | refine wz4 ?_ | refine wz5 ?_ | refine wz6 ?_ | simp -dsimp (maxSteps:=999999) (disch:=omega) only[go_sem,simprocAttr, *] | ((first | refine wz8 (fun hh => ?_) (fun hh => ?_) | refine wz9 (fun hh => ?_) (fun hh => ?_) | refine wz7 (fun hh => ?_) (fun hh => ?_)) <;> (try replace hh := vqs hh) <;> (try (exfalso; first | exact hh | omega))))
          refine hR _ _ ⟨j + 1, kd + 1, la, addI (addI (addI n4 kd nx) a nx) kd en, by omega, s312, g3B, by omega, g33, g34, by simp only [addI_k]; omega, by omega, by omega, by omega, by omega, hG, gs, gs, gs, gs, gs, gs, gs⟩ ?_
          simp -dsimp (maxSteps:=999999) (disch:=omega) only[go_sem,simprocAttr, *,natOf_int]
        · have hkd : kidW k a en nx kd la n4 = (addI (addI n4 a nx) kd en, la) := by rw [kidW, if_neg hk2, if_neg hk4]
          rw [hkd] at hG hkw
          simp only at hG hkw
          have q1 := addI_f n4 a nx
          obtain ⟨f1, v1, qs1, H1x, s11, s12, s13, s14, s15, s16, s17, s18, s19, s110, s111, s112, s113, s114, s115, s116⟩ := addI_pack hL4 (i := a) (by (try simp only [addI_k]); omega) nx (by omega)
          have g13 := (s115 p (Ne.symm p1.1)).trans h35
          have g14 := (s115 (p + 1) (Ne.symm p1.2.2.2.1)).trans h45
          have g1B := hB5.trans (s113 p)
          have g1F := s112.F
          obtain ⟨f2, v2, qs2, H2x, s21, s22, s23, s24, s25, s26, s27, s28, s29, s210, s211, s212, s213, s214, s215, s216⟩ := addI_pack s112 (i := kd) (by (try simp only [addI_k]); omega) en (by omega)
          have g23 := (s215 p (Ne.symm p1.1)).trans g13
          have g24 := (s215 (p + 1) (Ne.symm p1.2.2.2.1)).trans g14
          have g2B := g1B.trans (s213 p)
          have g2F := s212.F
          clear hkd hkw2 hkw3 hB5 hL4 g1B
          repeat' (first | refine wz1 ?_ | refine wz2 ?_ | refine wz3 ?_ | refine wz4 ?_ | refine wz5 ?_ | refine wz6 ?_ | simp -dsimp (maxSteps:=999999) (disch:=omega) only[go_sem,simprocAttr, *] | ((first | refine wz8 (fun hh => ?_) (fun hh => ?_) | refine wz9 (fun hh => ?_) (fun hh => ?_) | refine wz7 (fun hh => ?_) (fun hh => ?_)) <;> (try replace hh := vqs hh) <;> (try (exfalso; first | exact hh | omega))))
          refine wpB_regionXL (prs := []) (by kernel_rfl) rfl (by kernel_rfl) ?_; simp -dsimp (maxSteps:=999999) (disch:=omega) only[go_sem,simprocAttr, *]
          refine evB_pureK bo22 rfl rfl s15 s17 ?_
          intro H6 hH6
          obtain rfl : H6 = H4 := by rcases hH6 with h | h <;> exact h
          repeat' (first | refine wz1 ?_ | refine wz2 ?_ | refine wz3 ?_ | refine wz4 ?_ | refine wz5 ?_ | refine wz6 ?_ | simp -dsimp (maxSteps:=999999) (disch:=omega) only[go_sem,simprocAttr, *] | ((first | refine wz8 (fun hh => ?_) (fun hh => ?_) | refine wz9 (fun hh => ?_) (fun hh => ?_) | refine wz7 (fun hh => ?_) (fun hh => ?_)) <;> (try replace hh := vqs hh) <;> (try (exfalso; first | exact hh | omega))))
          refine wpB_regionXL (prs := []) (by kernel_rfl) rfl (by kernel_rfl) ?_; simp -dsimp (maxSteps:=999999) (disch:=omega) only[go_sem,simprocAttr, *]
          refine evB_pureK bo22 rfl rfl s25 s27 ?_
          intro H6 hH6
          obtain rfl : H6 = H1x := by rcases hH6 with h | h <;> exact h
          repeat' (first | refine wz1 ?_ | refine wz2 ?_ | refine wz3 ?_ | refine wz4 ?_ | refine wz5 ?_ | refine wz6 ?_ | simp -dsimp (maxSteps:=999999) (disch:=omega) only[go_sem,simprocAttr, *] | ((first | refine wz8 (fun hh => ?_) (fun hh => ?_) | refine wz9 (fun hh => ?_) (fun hh => ?_) | refine wz7 (fun hh => ?_) (fun hh => ?_)) <;> (try replace hh := vqs hh) <;> (try (exfalso; first | exact hh | omega))))
          refine hR _ _ ⟨j + 1, kd + 1, la, addI (addI n4 a nx) kd en, by omega, s212, g2B, by omega, g23, g24, by simp only [addI_k]; omega, by omega, by omega, by omega, by omega, hG, gs, gs, gs, gs, gs, gs, gs⟩ ?_
          simp -dsimp (maxSteps:=999999) (disch:=omega) only[go_sem,simprocAttr, *,natOf_int]
      · rw [List.drop_eq_nil_of_le (by omega)] at hG
        have hG' : G = (nj, la) := hG
        clear hG ih hkids hnk
        rw [hG']
        simp only
        by_cases hk2 : k = 2
        · rw [if_pos hk2]
          obtain ⟨f, v, qs, Hn, s1, s2, s3, s4, s5, s6, s7, s8, s9, s10, s11, s12, s13, s14, s15, s16⟩ := addI_pack hL (i := la) (by omega) en (by omega)
          have gB := hB.trans (s13 p)
          have hF := hL.F
          clear hL hB hG'
          repeat' (first | refine wz1 ?_ | refine wz2 ?_ | refine wz3 ?_ | refine wz4 ?_ | refine wz5 ?_ | refine wz6 ?_ | simp -dsimp (maxSteps:=999999) (disch:=omega) only[go_sem,simprocAttr, *] | ((first | refine wz8 (fun hh => ?_) (fun hh => ?_) | refine wz9 (fun hh => ?_) (fun hh => ?_) | refine wz7 (fun hh => ?_) (fun hh => ?_)) <;> (try replace hh := vqs hh) <;> (try (exfalso; first | exact hh | omega))))
          refine wpB_regionXL (prs := []) (by kernel_rfl) rfl (by kernel_rfl) ?_; simp -dsimp (maxSteps:=999999) (disch:=omega) only[go_sem,simprocAttr, *]
          refine evB_pureK bo22 rfl rfl s5 s7 ?_
          intro H6 hH6
          obtain rfl : H6 = Hj := by rcases hH6 with h | h <;> exact h
          repeat' (first | refine wz1 ?_ | refine wz2 ?_ | refine wz3 ?_ | refine wz4 ?_ | refine wz5 ?_ | refine wz6 ?_ | simp -dsimp (maxSteps:=999999) (disch:=omega) only[go_sem,simprocAttr, *] | ((first | refine wz8 (fun hh => ?_) (fun hh => ?_) | refine wz9 (fun hh => ?_) (fun hh => ?_) | refine wz7 (fun hh => ?_) (fun hh => ?_)) <;> (try replace hh := vqs hh) <;> (try (exfalso; first | exact hh | omega))))
          all_goals exact ⟨s12, gB⟩
        · rw [if_neg hk2]
          clear hG'
          repeat' (first | refine wz1 ?_ | refine wz2 ?_ | refine wz3 ?_ | refine wz4 ?_ | refine wz5 ?_ | refine wz6 ?_ | simp -dsimp (maxSteps:=999999) (disch:=omega) only[go_sem,simprocAttr, *] | ((first | refine wz8 (fun hh => ?_) (fun hh => ?_) | refine wz9 (fun hh => ?_) (fun hh => ?_) | refine wz7 (fun hh => ?_) (fun hh => ?_)) <;> (try replace hh := vqs hh) <;> (try (exfalso; first | exact hh | omega))))
          all_goals exact ⟨hL, hB⟩
end Go.Proofs.W
end
/- Regions whose new objects have their places ahead: how a proof steps through one. -/
section
set_option linter.unusedVariables false
set_option linter.unusedSimpArgs false
namespace Vm
open Go
def bareAll (o : Op) (e : Env) : Bool := o.operands.toList.all (bareX e)
section
variable {P : Program} {A : Ann} {N : Nat}
/-- one operation there -/
def vOpP (P : Program) (A : Ann) (b : Bool) (p : Nat) (o : Op) (e : Env) (H : Heap) (K : D → Heap → Prop) : Prop :=
  if b = true then bareAll o e = true ∧ (match placeR (stepOp P A noCall o e []) H p with
    | some (.ok d H') => K d H'
    | _ => False)
  else vOpX A o e H (fun _ _ => True) ∧ vOpZ P A o e H K
def upB (b : Bool) (p : Nat) : Nat := p + if b then 1 else 0
def vOpsP (P : Program) (A : Ann) (N : Nat) (ops : Array Oper) : Nat → List Oper → Env → Heap → (Env → Heap → Prop) → Prop
  | _, [], e, H, K => (pairsD A ops).all (disjE e) = true ∧ K e H
  | p, o :: rest, e, H, K => dstOk N o.dst = true ∧ match wantD ops e o with
    | some true => vOpP P A (placedO A o.op) p o.op e H (fun d H' => vOpsP P A N ops (upB (placedO A o.op) p) rest (putO e o.dst d) H' K)
    | some false => vOpsP P A N ops (upB (placedO A o.op) p) rest (putO e o.dst ud) H K
    | none => False
theorem vOpP_step {p : Nat} {o : Op} {e : Env} {H : Heap} {K : D → Heap → Prop} (h : vOpP P A (placedO A o) p o e H K) : ∃ k d H', stepZ P A (runF P A k) (some p) o e H = some (.ok d H') ∧ K d H' := by
  unfold vOpP at h
  by_cases hp : placedO A o = true
  · rw [if_pos hp] at h
    obtain ⟨h1, h2⟩ := h
    cases hs : stepOp P A noCall o e [] with
    | none => rw [hs] at h2; exact h2.elim
    | some r =>
      rw [hs] at h2
      cases hr : placeR (some r) H p with
      | none => rw [hr] at h2; exact h2.elim
      | some x =>
        rw [hr] at h2
        cases x with
        | pan d H' => exact h2.elim
        | ok d H' =>
          refine ⟨0, d, H', ?_, h2⟩
          simp only [stepZ, if_pos hp]
          rw [if_pos (show o.operands.toList.all (bareX e) = true from h1), stepOp_mono (noCall_le _) hs, hr]
  · rw [if_neg hp] at h
    obtain ⟨k, d, H', h1, h2⟩ := vOpZ_step h.1 h.2
    refine ⟨k, d, H', ?_, h2⟩
    simp only [stepZ, if_neg hp]
    exact h1
theorem vOpsP_run {ops : Array Oper} : ∀ {l : List Oper} {p : Nat} {e : Env} {H : Heap} {K : Env → Heap → Prop}, vOpsP P A N ops p l e H K →
    ∃ k s, runOpsP P A (runF P A k) N ops p l e H = some s ∧ s.ex = .norm ∧ K s.e s.H
  | [], p, e, H, K, h => ⟨0, ⟨.norm, e, H⟩, by simp only [runOpsP]; rw [if_pos h.1], rfl, h.2⟩
  | o :: r, p, e, H, K, h => by
    obtain ⟨hd, h⟩ := h
    have hd' : ¬ dstOk N o.dst = false := by simp [hd]
    cases hw : wantD ops e o with
    | none => simp [hw] at h
    | some b =>
      cases b with
      | false =>
        simp only [hw] at h
        obtain ⟨k, s, h1, h2⟩ := vOpsP_run h
        exact ⟨k, s, by simp only [runOpsP, if_neg hd', hw]; exact h1, h2⟩
      | true =>
        simp only [hw] at h
        obtain ⟨k, d, H', h1, h2⟩ := vOpP_step h
        obtain ⟨k2, s, h3, h4⟩ := vOpsP_run h2
        refine ⟨max k k2, s, ?_, h4⟩
        simp only [runOpsP, if_neg hd', hw, stepZ_mono (runF_le (Nat.le_max_left k k2)) h1]
        exact runOpsP_mono (runF_le (Nat.le_max_right k k2)) h3
theorem wpc_regionP {id : Nat} {ops : Array Oper} {e : Env} {H : Heap} {Q : Ex → Env → Heap → Prop} (hn : lexD A ops = false) (hl : lexP A ops = true) (h : vOpsP P A N ops H.length ops.toList e (H ++ List.replicate (placesN A ops.toList) .dead) (fun e H => Q .norm e H)) : WpC P A N (.region id ops true) e H Q := by
  obtain ⟨k, s, h1, h2, h3⟩ := vOpsP_run h
  exact ⟨k, s, by simp only [runC, if_true, hn, Bool.false_eq_true, if_false, hl]; exact h1, by rw [h2]; exact h3⟩
def bareO : Option D → Bool
  | some d => bareD d
  | none => false
theorem bareX_eq {e : Env} {x : Operand} : bareX e x = bareO (evalO e x) := by unfold bareX bareO; cases evalO e x <;> rfl
theorem bareO_some {d : D} : bareO (some d) = bareD d := rfl
def bareR (e : Env) : Option Operand → Bool
  | none => true
  | some x => bareX e x
theorem bareR_none {e : Env} : bareR e none = true := rfl
theorem bareR_some {e : Env} {x : Operand} : bareR e (some x) = bareX e x := rfl
def bareP (e : Env) : List (Nat × Operand) → Bool
  | [] => true
  | q :: r => bareX e q.2 && bareP e r
theorem bareP_nil {e : Env} : bareP e [] = true := rfl
theorem bareP_cons {e : Env} {i : Nat} {x : Operand} {r : List (Nat × Operand)} : bareP e ((i, x) :: r) = (bareX e x && bareP e r) := rfl
theorem placedO_move (x : Operand) : placedO A (.move x) = false := rfl
theorem placedO_assign (x : Operand) : placedO A (.assign x) = false := rfl
theorem placedO_pick (x y z : Operand) : placedO A (.pick x y z) = false := rfl
theorem placedO_build (t : TypeId) (ps : Array (Nat × Operand)) : placedO A (.build t ps) = false := rfl
theorem placedO_load (t : TypeId) (x : Operand) : placedO A (.load t x) = false := rfl
theorem placedO_store (t : TypeId) (x y : Operand) : placedO A (.store t x y) = false := rfl
theorem placedO_nilCheck (x : Operand) : placedO A (.nilCheck x) = false := rfl
theorem placedO_binOp (o : BinOp) (t : TypeId) (x y : Operand) (s : TypeId) : placedO A (.binOp o t x y s) = false := rfl
theorem placedO_unOp (o : UnOp) (t : TypeId) (x : Operand) : placedO A (.unOp o t x) = false := rfl
theorem placedO_convert (s t : TypeId) (x : Operand) : placedO A (.convert s t x) = false := rfl
theorem placedO_makeInterface (t : TypeId) (x : Operand) : placedO A (.makeInterface t x) = false := rfl
theorem placedO_makeFunc (f : Fn) (x y : Array Operand) : placedO A (.makeFunc f x y) = false := rfl
theorem placedO_slice (t : TypeId) (x : Operand) (l h m : Option Operand) : placedO A (.slice t x l h m) = false := rfl
theorem placedO_fieldAddr (t : TypeId) (x : Operand) (f : Nat) : placedO A (.fieldAddr t x f) = false := rfl
theorem placedO_field (t : TypeId) (x : Operand) (f : Nat) : placedO A (.field t x f) = false := rfl
theorem placedO_indexAddr (t : TypeId) (x y : Operand) : placedO A (.indexAddr t x y) = false := rfl
theorem placedO_index (t : TypeId) (x y : Operand) : placedO A (.index t x y) = false := rfl
theorem placedO_lookup (t : TypeId) (x y : Operand) (b : Bool) : placedO A (.lookup t x y b) = false := rfl
theorem placedO_mapUpdate (t : TypeId) (x y z : Operand) : placedO A (.mapUpdate t x y z) = false := rfl
theorem placedO_typeAssert (x : Operand) (s t : TypeId) (b : Bool) : placedO A (.typeAssert x s t b) = false := rfl
theorem placedO_extract (x : Operand) (i : Nat) : placedO A (.extract x i) = false := rfl
theorem placedO_panic (x : Operand) : placedO A (.panic x) = false := rfl
theorem placedO_call (c : Call) : placedO A (.call c) = false := rfl
theorem placedO_alloc (t : TypeId) : placedO A (.alloc t) = true := rfl
theorem placedO_box (t : TypeId) (x : Operand) : placedO A (.box t x) = true := rfl
theorem placedO_makeSlice (t : TypeId) (x y : Operand) : placedO A (.makeSlice t x y) = true := rfl
theorem placedO_makeMap (t : TypeId) (r : Option Operand) : placedO A (.makeMap t r) = true := rfl
theorem placedO_buildSlice (t : TypeId) (n : Nat) (ps : Array (Nat × Operand)) : placedO A (.buildSlice t n ps) = !A.fz t := rfl
theorem bareAll_alloc (t : TypeId) {e : Env} : bareAll (.alloc t) e = true := rfl
theorem bareAll_box (t : TypeId) (x : Operand) {e : Env} : bareAll (.box t x) e = bareX e x := by simp [bareAll, Op.operands]
theorem bareAll_makeSlice (t : TypeId) (x y : Operand) {e : Env} : bareAll (.makeSlice t x y) e = (bareX e x && bareX e y) := by simp [bareAll, Op.operands]
theorem bareAll_makeMap (t : TypeId) (r : Option Operand) {e : Env} : bareAll (.makeMap t r) e = bareR e r := by cases r <;> simp [bareAll, Op.operands, bareR]
theorem bareAll_buildSlice (t : TypeId) (n : Nat) (ps : Array (Nat × Operand)) {e : Env} : bareAll (.buildSlice t n ps) e = bareP e ps.toList := by
  simp only [bareAll, Op.operands]
  induction ps.toList with
  | nil => rfl
  | cons q r ih => simp only [List.map_cons, List.all_cons, bareP, ih]
def vOpPB (b : Bool) (P : Program) (A : Ann) (p : Nat) (o : Op) (e : Env) (H : Heap) (K : D → Heap → Prop) : TyP K := vOpP P A b p o e H K
theorem vOpPB_true {p : Nat} {o : Op} {e : Env} {H : Heap} {K : D → Heap → Prop} : @Eq Prop (vOpPB true P A p o e H K) (bareAll o e = true ∧ outB (placeR (stepOp P A noCall o e []) H p) K (fun _ _ => False)) := by
  show (bareAll o e = true ∧ (match placeR (stepOp P A noCall o e []) H p with
    | some (.ok d H') => K d H'
    | _ => False)) = _
  unfold outB
  cases placeR (stepOp P A noCall o e []) H p with
  | none => rfl
  | some r => cases r <;> rfl
theorem vOpPB_false {p : Nat} {o : Op} {e : Env} {H : Heap} {K : D → Heap → Prop} : @Eq Prop (vOpPB false P A p o e H K) (plainX A o e H ∧ vOpZB P A o e H K) := by
  show (vOpX A o e H (fun _ _ => True) ∧ vOpZ P A o e H K) = _
  rw [plainX_of]
  unfold vOpZB
  rfl
theorem vOpZB_build (t : TypeId) (ps : Array (Nat × Operand)) {e : Env} {H : Heap} {K : D → Heap → Prop} : @Eq Prop (vOpZB P A (.build t ps) e H K) (vOpB P A (.build t ps) e H K (fun _ _ => False)) := by
  unfold vOpZB vOpB
  rfl
theorem upB_true {p : Nat} : upB true p = p + 1 := rfl
theorem upB_false {p : Nat} : upB false p = p := rfl
def placeD (b : Bool) (d : Option D) (H : Heap) (p : Nat) (ob : Ob) : Option R := if b then d.map fun d => .ok d (H.set p ob) else none
theorem placeD_true {d : D} {H : Heap} {p : Nat} {ob : Ob} : placeD true (some d) H p ob = some (.ok d (H.set p ob)) := rfl
theorem placeR_one {d : D} {ob : Ob} {H : Heap} {p : Nat} : placeR (some (.ok d [ob])) H p = placeD (bareOb ob && decide (p < H.length) && deadQ (hget H p)) (moveTo p d) H p ob := by
  show (if bareOb ob = true ∧ p < H.length ∧ deadQ (hget H p) = true then (moveTo p d).map fun d => R.ok d (H.set p ob) else none) = _
  unfold placeD
  by_cases h : bareOb ob = true ∧ p < H.length ∧ deadQ (hget H p) = true
  · rw [if_pos h]; simp [h.1, h.2.1, h.2.2]
  · rw [if_neg h, if_neg]
    intro h'
    simp only [Bool.and_eq_true, decide_eq_true_eq] at h'
    exact h ⟨h'.1.1, h'.1.2, h'.2⟩
def placeS (b : Bool) (d : D) (H : Heap) : Option R := if b then some (.ok d H) else none
theorem placeS_true {d : D} {H : Heap} : placeS true d H = some (.ok d H) := rfl
theorem placeR_none {d : D} {H : Heap} {p : Nat} : placeR (some (.ok d [])) H p = placeS (bareD d) d H := by
  unfold placeR placeS; rfl
theorem bareL_rep {n : Nat} {z : D} (h : bareD z = true) : bareL (List.replicate n z) = true := by
  induction n with
  | zero => rfl
  | succ n ih => simp only [List.replicate_succ, bareL, h, ih, Bool.and_self]
theorem bareD_int {k : IntKind} {n : Int} : bareD (.int k n) = true := rfl
theorem bareD_bool {b : Bool} : bareD (.bool b) = true := rfl
theorem bareD_str {s : List UInt8} : bareD (.str s) = true := rfl
theorem bareD_sl {f : Bool} {xs : List D} : bareD (.sl f xs) = bareL xs := rfl
theorem bareD_agg {xs : List D} : bareD (.agg xs) = bareL xs := rfl
theorem bareD_nilm : bareD .nilm = true := rfl
theorem bareD_nilp : bareD .nilp = true := rfl
theorem bareD_nili : bareD .nili = true := rfl
theorem bareD_niln : bareD .niln = true := rfl
theorem bareL_nil : bareL [] = true := rfl
theorem bareL_cons {d : D} {r : List D} : bareL (d :: r) = (bareD d && bareL r) := rfl
theorem bareOb_arr {xs : List D} : bareOb (.arr xs) = bareL xs := rfl
theorem deadQ_dead : deadQ .dead = true := rfl
theorem moveTo_vec {p o n : Nat} : moveTo p (.vec 0 o n) = some (.vec p o n) := rfl
theorem moveTo_ptr {p i j : Nat} : moveTo p (.ptr 0 i j) = some (.ptr p i j) := rfl
theorem moveTo_map {p : Nat} : moveTo p (.map 0) = some (.map p) := rfl
def vOpsPC (P : Program) (A : Ann) (N : Nat) (S : List (Option Nat)) (prs : List (List Nat × List Nat)) : Nat → List Oper → Env → Heap → (Env → Heap → Prop) → Prop
  | _, [], e, H, K => pairsP e prs ∧ K e H
  | p, o :: rest, e, H, K => dstOk N o.dst = true ∧ match wantG S e o.guard with
    | some true => vOpP P A (placedO A o.op) p o.op e H (fun d H' => vOpsPC P A N S prs (upB (placedO A o.op) p) rest (putO e o.dst d) H' K)
    | some false => vOpsPC P A N S prs (upB (placedO A o.op) p) rest (putO e o.dst ud) H K
    | none => False
theorem vOpsPC_eq {all : List Oper} : ∀ {l : List Oper} {p : Nat} {e : Env} {H : Heap} {K : Env → Heap → Prop}, vOpsPC P A N (all.map (·.dst)) (pairsD A all.toArray) p l e H K = vOpsP P A N all.toArray p l e H K
  | [], p, e, H, K => by simp only [vOpsPC, vOpsP, pairsP_iff]
  | o :: l, p, e, H, K => by
    have ih : ∀ p e H, vOpsPC P A N (all.map (·.dst)) (pairsD A all.toArray) p l e H K = vOpsP P A N all.toArray p l e H K := fun p e H => vOpsPC_eq
    simp only [vOpsPC, vOpsP, wantD_eq, ih]
def vOpsPB (P : Program) (A : Ann) (N : Nat) (S : List (Option Nat)) (prs : List (List Nat × List Nat)) (p : Nat) (l : List Oper) (e : Env) (H : Heap) (K : Env → Heap → Prop) : TyP (S, prs, l, K) := vOpsPC P A N S prs p l e H K
def stepsPB (w : Option Bool) (P : Program) (A : Ann) (N : Nat) (S : List (Option Nat)) (prs : List (List Nat × List Nat)) (p : Nat) (o : Oper) (rest : List Oper) (e : Env) (H : Heap) (K : Env → Heap → Prop) : TyP (S, prs, o, rest, K) :=
  match w with
  | some true => vOpP P A (placedO A o.op) p o.op e H (fun d H' => vOpsPC P A N S prs (upB (placedO A o.op) p) rest (putO e o.dst d) H' K)
  | some false => vOpsPC P A N S prs (upB (placedO A o.op) p) rest (putO e o.dst ud) H K
  | none => False
section
variable {S : List (Option Nat)} {prs : List (List Nat × List Nat)} {o : Oper} {rest : List Oper} {e : Env} {H : Heap} {K : Env → Heap → Prop} {p : Nat}
theorem vOpsPB_nil : @Eq Prop (vOpsPB P A N S prs p [] e H K) (pairsP e prs ∧ K e H) := rfl
theorem vOpsPB_cons : @Eq Prop (vOpsPB P A N S prs p (o :: rest) e H K) ((dstOk N o.dst = true ∧ stepsPB (wantG S e o.guard) P A N S prs p o rest e H K)) := rfl
theorem stepsPB_run : @Eq Prop (stepsPB (some true) P A N S prs p o rest e H K) (vOpPB (placedO A o.op) P A p o.op e H (fun d H' => vOpsPB P A N S prs (upB (placedO A o.op) p) rest (putO e o.dst d) H' K)) := rfl
theorem stepsPB_skip : @Eq Prop (stepsPB (some false) P A N S prs p o rest e H K) (vOpsPB P A N S prs (upB (placedO A o.op) p) rest (putO e o.dst ud) H K) := rfl
end
theorem wpB_regionPL {id : Nat} {l : List Oper} {S : List (Option Nat)} {e : Env} {H : Heap} {Q : Ex → Env → Heap → Prop} (hn : lexD A l.toArray = false) (hl : lexP A l.toArray = true) {prs : List (List Nat × List Nat)} (hS : l.map (·.dst) = S) (hp : pairsD A l.toArray = prs) {m : Nat} (hm : placesN A l = m) (h : vOpsPB P A N S prs H.length l e (H ++ List.replicate m .dead) (fun e H => Q .norm e H)) : WpB P A N (.region id l.toArray true) e H Q := by
  subst hS hp hm
  have h' : vOpsP P A N l.toArray H.length l e (H ++ List.replicate (placesN A l) .dead) (fun e H => Q .norm e H) := by rw [← vOpsPC_eq]; exact h
  rw [← wpB_of]
  exact wpc_regionP hn hl (by simpa using h')
end
attribute [irreducible] vOpPB vOpsPB stepsPB
attribute [go_sem ↓] vOpPB_true vOpPB_false vOpsPB_nil vOpsPB_cons stepsPB_run stepsPB_skip
attribute [go_sem] vOpZB_build bareX_eq bareO_some bareR_none bareR_some bareP_nil bareP_cons upB_true upB_false placeD_true placeR_one placeS_true placeR_none bareL_rep bareD_int bareD_bool bareD_str bareD_sl bareD_agg bareD_nilm bareD_nilp bareD_nili bareD_niln bareL_nil bareL_cons bareOb_arr deadQ_dead moveTo_vec moveTo_ptr moveTo_map placedO_move placedO_assign placedO_pick placedO_build placedO_load placedO_store placedO_nilCheck placedO_binOp placedO_unOp placedO_convert placedO_makeInterface placedO_makeFunc placedO_slice placedO_fieldAddr placedO_field placedO_indexAddr placedO_index placedO_lookup placedO_mapUpdate placedO_typeAssert placedO_extract placedO_panic placedO_call placedO_alloc placedO_box placedO_makeSlice placedO_makeMap placedO_buildSlice bareAll_alloc bareAll_box bareAll_makeSlice bareAll_makeMap bareAll_buildSlice
attribute [go_sem] vOpPB_true vOpPB_false vOpsPB_nil vOpsPB_cons stepsPB_run stepsPB_skip
end Vm
end
/- The document's machine of expressions: the walk. -/
section
set_option maxHeartbeats 4000000
set_option linter.unusedVariables false
set_option linter.unusedSimpArgs false
namespace Go.Proofs.W
open Go Vm Go.Proofs.Zsb6

def zeroN (K : Nat) : Nfa := ⟨List.replicate K [], List.replicate K 0, List.replicate K 0, List.replicate K (-1)⟩
def refFrom : List Rx → Nat → Nat → Nfa → Nfa
  | [], _, _, n => n
  | r :: l, i, a, n => refFrom l (i + 1) (a + 2 * sizeR r) (setRule (addI (layN r a n) 0 a) (a + 2 * sizeR r - 1) (i : Int))
def refN (l : List Rx) : Option Nfa := if l.length ≤ 16 ∧ l ≠ [] ∧ l.all rightR = true then some (refFrom l 0 1 (zeroN (1 + 2 * sizeL l))) else none
def refD : Option Nfa → D
  | some n => .tup [nfaD n, .bool true]
  | none => .tup [nfaD emptyN, .bool false]
theorem fr_rows : ∀ (fl : List (List Int)) (k : Nat) (H : Heap), purL (pur (k + 1)) H (fl.map frD) = some (fl.map isD, H)
  | [], k, H => rfl
  | x :: fl, k, H => by
    have h1 : pur (k + 1) H (frD x) = some (isD x, H) := by unfold Vm.pur; rw [fr_strip]
    simp only [List.map_cons, purL, h1, Option.bind_some, fr_rows fl k H, Option.map_some]
theorem out_ly {rF rS rT rR : Nat} {n : Nfa} {H : Heap} (h : LyAt rF rS rT rR n H) (b : Bool) : outPure H (.tup [lyD rF rS rT rR (kN n), .bool b]) = some (.tup [nfaD n, .bool b]) := by
  have vF : VecA (.vec rF 0 (kN n)) H (n.free.map frD) := .inr ⟨rF, by simp [h.lF], .inl h.F, h.lt.1⟩
  have vS : VecA (.vec rS 0 (kN n)) H (n.set.map (.int .u16)) := .inr ⟨rS, by simp [kN], .inl h.S, h.lt.2.1⟩
  have vT : VecA (.vec rT 0 (kN n)) H (n.to.map (.int .i64)) := .inr ⟨rT, by simp [h.lT], .inl h.T, h.lt.2.2.1⟩
  have vR : VecA (.vec rR 0 (kN n)) H (n.rule.map (.int .i64)) := .inr ⟨rR, by simp [h.lR], .inl h.R, h.lt.2.2.2⟩
  obtain ⟨H1, p1, s1, l1⟩ := pur_lift (k := 3) vF (fun H1 h1 h2 => ⟨H1, fr_rows n.free 2 H1, Soft.refl, Nat.le_refl _⟩) (fun e => by
    have : n.free = [] := by simpa using e
    rw [this]; rfl)
  obtain ⟨H2, p2, s2, l2⟩ := pur_plainA (k := 2) (vS.soft s1 l1) (strip_u16s _)
  obtain ⟨H3, p3, s3, l3⟩ := pur_plainA (k := 2) (vT.soft (s1.trans s2) (by omega)) (strip_ints _)
  obtain ⟨H4, p4, s4, l4⟩ := pur_plainA (k := 2) (vR.soft ((s1.trans s2).trans s3) (by omega)) (strip_ints _)
  have hnone : stripL [D.vec rF 0 (kN n), .vec rS 0 (kN n), .vec rT 0 (kN n), .vec rR 0 (kN n)] = none := rfl
  have hnone2 : stripL [lyD rF rS rT rR (kN n), .bool b] = none := rfl
  unfold outPure deepest
  rw [pur_tup hnone2]
  simp only [purL]
  rw [lyD, pur_agg' hnone]
  simp only [purL, p1, p2, p3, p4, Option.bind_some, Option.map_some]
  rw [pur_strip (show strip (.bool b) = some (.bool b) from rfl)]
  rfl
theorem mkS (t e : TypeId) (w K : Nat) (z : D) (he : elemT Try.prog t = some e) (hn : sizeT Try.prog e = some 1) (hw : bytesT Try.prog e = some w) (hz : zeroT Try.prog e = some z) (hzn : z.cells.length = 1) (hK : 0 < K) (hK2 : K * w ≤ 140737488355328) (hK3 : K ≤ 100000) : makeSliceD Try.prog t (.int .i64 K) (.int .i64 K) [] = some (.vec 0 0 K, [.arr (List.replicate K z)]) := by
  simp only [makeSliceD, he, hn, hw, hz, Option.bind_some, Int.toNat_natCast]
  rw [if_pos ⟨by omega, by omega, by simpa [mostBytes] using hK2, by omega, hzn⟩, if_neg (by omega)]
  rfl
theorem zrN4 : zeroT Try.prog 29 = some (.agg [.sl true [], .sl true [], .sl true [], .sl true []]) := by kernel_rfl
theorem bdN4 : buildD Try.prog 29 [] = some (.agg [.sl true [], .sl true [], .sl true [], .sl true []]) := by kernel_rfl
theorem bdN5 (K : Nat) : buildD Try.prog 29 [(0, .vec 1 0 K), (1, .vec 2 0 K), (2, .vec 3 0 K), (3, .vec 4 0 K)] = some (lyD 1 2 3 4 K) := by kernel_rfl
set_option maxRecDepth 20000 in
theorem refbuild_ok (l : List Rx) (hl : ∀ (i : Nat) (h : i < l.length), i < 16 → okR l[i]) (hll : l.length ≤ 100000) : PureF Try.prog A 7 [rxsD l] (refD (refN l)) := by
  generalize hG : refN l = G
  replace hG : Hid (G = refN l) := hG.symm
  refine evF_inB (n := 94) (rs := [.cell 2 29, .tmp 3]) Try.func7 rfl rfl rfl rfl rfl rfl ?_
  repeat' (first | refine wz1 ?_ | refine wz2 ?_ | refine wz3 ?_ | refine wz4 ?_ | refine wz5 ?_ | refine wz6 ?_ | simp -dsimp (maxSteps:=999999) (disch:=omega) only[go_sem,simprocAttr, *,rxsD, zrN4] | ((first | refine wz8 (fun hh => ?_) (fun hh => ?_) | refine wz9 (fun hh => ?_) (fun hh => ?_) | refine wpB_cond (by simp -dsimp (maxSteps:=999999) (disch:=omega) only[go_sem,simprocAttr, *,rxsD, zrN4]; exact rfl) (fun hh => ?_) (fun hh => ?_)) <;> (try replace hh := vqs hh) <;> (try (exfalso; first | exact hh | omega))))
  refine wpB_loop (fun e H => ∃ j : Nat, j ≤ l.length ∧ j ≤ 16 ∧ H = [Ob.arr [.agg [.sl true [], .sl true [], .sl true [], .sl true []]]] ∧ e 0 = rxsD l ∧ e 2 = .ptr 0 0 0 ∧ e 4 = .int .i64 (1 + 2 * sizeL (l.take j) : Nat) ∧ e 5 = .int .i64 j ∧ sizeL (l.take j) ≤ 100 * j ∧ (l.take j).all rightR = true) (fun e H => l.length - natOf (e 5)) ?_ ?_
  · exact ⟨0, by omega, by omega, rfl, by simp -dsimp (maxSteps:=999999) (disch:=omega) only[go_sem,simprocAttr, *,rxsD], gs, by rw [List.take_zero]; simp -dsimp (maxSteps:=999999) (disch:=omega) only[go_sem,simprocAttr, *,sizeL], gs, by simp [sizeL], by simp⟩
  rintro e H ⟨j, hj, hj16, rfl, e0, e2, e4, e5, hsz, hall⟩ R hR
  by_cases hb : j < l.length
  · by_cases h16 : j < 16
    case neg =>
      have hz : G = none := by rw [show G = _ from hG, refN, if_neg (fun h => by have := h.1; omega)]
      rw [hz]
      repeat' (first | refine wz1 ?_ | refine wz2 ?_ | refine wz3 ?_ | refine wz4 ?_ | refine wz5 ?_ | refine wz6 ?_ | simp -dsimp (maxSteps:=999999) (disch:=omega) only[go_sem,simprocAttr, *,rxsD, bdN4] | ((first | refine wz8 (fun hh => ?_) (fun hh => ?_) | refine wz9 (fun hh => ?_) (fun hh => ?_) | refine wpB_cond (by simp -dsimp (maxSteps:=999999) (disch:=omega) only[go_sem,simprocAttr, *,rxsD, bdN4]; exact rfl) (fun hh => ?_) (fun hh => ?_)) <;> (try replace hh := vqs hh) <;> (try (exfalso; first | exact hh | omega))))
      exact outPure_strip rfl
    have hx : (rxDs l)[j]? = some (rxD l[j]) := by rw [rxDs_at, List.getElem?_eq_getElem hb]; rfl
    have hok := hl j hb h16
    have hRt := right_ok l[j] hok
    have hN := fun (h2 : depth l[j] ≤ 12) => nodes_ok 12 l[j] hok h2 (by omega)
    have hst := strip1 (strip_rx l[j])
    have c1 := rx_cells l[j]
    have c2 := rx_aggQ l[j]
    have c3 := rx_noTup l[j]
    have htk := take_succ' hb
    cases hrt : rightR l[j] with
    | false =>
      have hz : G = none := by
        rw [show G = _ from hG, refN, if_neg (fun h => ?_)]
        have := List.all_eq_true.1 h.2.2 _ (List.getElem_mem hb)
        rw [hrt] at this; cases this
      rw [hz]
      rw [hrt] at hRt
      clear hN htk hok
      generalize rxD l[j] = dk at *
      repeat' (first | refine wz1 ?_ | refine wz2 ?_ | refine wz3 ?_ | refine wz4 ?_ | refine wz5 ?_ | refine wz6 ?_ | simp -dsimp (maxSteps:=999999) (disch:=omega) only[go_sem,simprocAttr, *,rxsD] | ((first | refine wz8 (fun hh => ?_) (fun hh => ?_) | refine wz9 (fun hh => ?_) (fun hh => ?_) | refine wpB_cond (by simp -dsimp (maxSteps:=999999) (disch:=omega) only[go_sem,simprocAttr, *,rxsD]; exact rfl) (fun hh => ?_) (fun hh => ?_)) <;> (try replace hh := vqs hh) <;> (try (exfalso; first | exact hh | omega))))
      refine evB_plain bo19 rfl rfl hst hRt ?_
      repeat' (first | refine wz1 ?_ | refine wz2 ?_ | refine wz3 ?_ | refine wz4 ?_ | refine wz5 ?_ | refine wz6 ?_ | simp -dsimp (maxSteps:=999999) (disch:=omega) only[go_sem,simprocAttr, *,bdN4] | ((first | refine wz8 (fun hh => ?_) (fun hh => ?_) | refine wz9 (fun hh => ?_) (fun hh => ?_) | refine wpB_cond (by simp -dsimp (maxSteps:=999999) (disch:=omega) only[go_sem,simprocAttr, *,bdN4]; exact rfl) (fun hh => ?_) (fun hh => ?_)) <;> (try replace hh := vqs hh) <;> (try (exfalso; first | exact hh | omega))))
      exact outPure_strip rfl
    | true =>
      have hrn : depth l[j] ≤ 12 ∧ nodesR l[j] ≤ 100 := by
        simp only [rightR, Bool.and_eq_true, decide_eq_true_eq] at hrt
        exact hrt.1
      have hns := (nodes_size l[j]).1 hrn.2
      have hN2 := hN hrn.1
      rw [(nodes_small l[j]).1 hns] at hN2
      have hall2 : (l.take (j + 1)).all rightR = true := by rw [htk, List.all_append, hall]; simp [hrt]
      have hs2 : sizeL (l.take (j + 1)) = sizeL (l.take j) + sizeR l[j] := by rw [htk, sizeL_app]; simp [sizeL]
      rw [hrt] at hRt
      clear hN htk hok hall hrn
      generalize sizeL (l.take j) = sj at *
      generalize sizeR l[j] = sx at *
      generalize rxD l[j] = dk at *
      repeat' (first | refine wz1 ?_ | refine wz2 ?_ | refine wz3 ?_ | refine wz4 ?_ | refine wz5 ?_ | refine wz6 ?_ | simp -dsimp (maxSteps:=999999) (disch:=omega) only[go_sem,simprocAttr, *,rxsD] | ((first | refine wz8 (fun hh => ?_) (fun hh => ?_) | refine wz9 (fun hh => ?_) (fun hh => ?_) | refine wpB_cond (by simp -dsimp (maxSteps:=999999) (disch:=omega) only[go_sem,simprocAttr, *,rxsD]; exact rfl) (fun hh => ?_) (fun hh => ?_)) <;> (try replace hh := vqs hh) <;> (try (exfalso; first | exact hh | omega))))
      refine evB_plain bo19 rfl rfl hst hRt ?_
      repeat' (first | refine wz1 ?_ | refine wz2 ?_ | refine wz3 ?_ | refine wz4 ?_ | refine wz5 ?_ | refine wz6 ?_ | simp -dsimp (maxSteps:=999999) (disch:=omega) only[go_sem,simprocAttr, *,rxsD] | ((first | refine wz8 (fun hh => ?_) (fun hh => ?_) | refine wz9 (fun hh => ?_) (fun hh => ?_) | refine wpB_cond (by simp -dsimp (maxSteps:=999999) (disch:=omega) only[go_sem,simprocAttr, *,rxsD]; exact rfl) (fun hh => ?_) (fun hh => ?_)) <;> (try replace hh := vqs hh) <;> (try (exfalso; first | exact hh | omega))))
      refine evB_plain bo20 rfl rfl hst hN2 ?_
      repeat' (first | refine wz1 ?_ | refine wz2 ?_ | refine wz3 ?_ | refine wz4 ?_ | refine wz5 ?_ | refine wz6 ?_ | simp -dsimp (maxSteps:=999999) (disch:=omega) only[go_sem,simprocAttr, *] | ((first | refine wz8 (fun hh => ?_) (fun hh => ?_) | refine wz9 (fun hh => ?_) (fun hh => ?_) | refine wz7 (fun hh => ?_) (fun hh => ?_)) <;> (try replace hh := vqs hh) <;> (try (exfalso; first | exact hh | omega))))
      refine hR _ _ ⟨j + 1, by omega, by omega, gs, by simp -dsimp (maxSteps:=999999) (disch:=omega) only[go_sem,simprocAttr, *,rxsD], gs, ?_, gs, by omega, hall2⟩ ?_
      · rw [hs2]
        simp -dsimp (maxSteps:=999999) (disch:=omega) only[go_sem,simprocAttr, *]
        congr 1
        omega
      · simp -dsimp (maxSteps:=999999) (disch:=omega) only[go_sem,simprocAttr, *,natOf_int]
  · rw [List.take_of_length_le (by omega)] at hsz hall e4
    by_cases hne : l = []
    · have hz : G = none := by rw [show G = _ from hG, refN, if_neg (fun h => h.2.1 hne)]
      rw [hz]
      subst hne
      clear hR
      repeat' (first | refine wz1 ?_ | refine wz2 ?_ | refine wz3 ?_ | refine wz4 ?_ | refine wz5 ?_ | refine wz6 ?_ | simp -dsimp (maxSteps:=999999) (disch:=omega) only[go_sem,simprocAttr, *,rxsD, bdN4] | ((first | refine wz8 (fun hh => ?_) (fun hh => ?_) | refine wz9 (fun hh => ?_) (fun hh => ?_) | refine wpB_cond (by simp -dsimp (maxSteps:=999999) (disch:=omega) only[go_sem,simprocAttr, *,rxsD, bdN4]; exact rfl) (fun hh => ?_) (fun hh => ?_)) <;> (try replace hh := vqs hh) <;> (try (exfalso; first | exact hh | omega))))
      exact outPure_strip rfl
    · have h16 : l.length ≤ 16 := by omega
      have hz : G = some (refFrom l 0 1 (zeroN (1 + 2 * sizeL l))) := by rw [show G = _ from hG, refN, if_pos ⟨h16, hne, hall⟩]
      have hlen0 : 0 < l.length := by cases l with | nil => exact absurd rfl hne | cons _ _ => simp
      have hok : ∀ r ∈ l, okR r := fun r hr => by
        obtain ⟨i, hi, rfl⟩ := List.mem_iff_getElem.1 hr
        exact hl i hi (by omega)
      have hrt : ∀ r ∈ l, depth r ≤ 12 ∧ sizeR r ≤ 100 := fun r hr => by
        have := List.all_eq_true.1 hall r hr
        simp only [rightR, Bool.and_eq_true, decide_eq_true_eq] at this
        exact ⟨this.1.1, (nodes_size r).1 this.1.2⟩
      obtain ⟨K, hK⟩ : ∃ K, K = 1 + 2 * sizeL l := ⟨_, rfl⟩
      rw [← hK] at hz e4
      have hK1 : K ≤ 1 + 2 * sizeL l := by omega
      have hK2 : 1 + 2 * sizeL l ≤ K := by omega
      rw [hz]
      have m1 := mkS 25 27 24 K (.sl true []) el25 sz27 by27 zr27 rfl (by omega) (by omega) (by omega)
      have m2 := mkS 26 36 2 K (.int .u16 0) el26 sz36 by36 zr36 rfl (by omega) (by omega) (by omega)
      have m3 := mkS 27 3 8 K (.int .i64 0) el27 sz3 by3 zr3 rfl (by omega) (by omega) (by omega)
      have r1 : bareL (List.replicate K (D.sl true [])) = true := bareL_rep rfl
      have r2 : bareL (List.replicate K (D.int .u16 0)) = true := bareL_rep rfl
      have r3 : bareL (List.replicate K (D.int .i64 0)) = true := bareL_rep rfl
      clear hG hz hl hR hK hall
      repeat' (first | refine wz1 ?_ | refine wz2 ?_ | refine wz3 ?_ | refine wz4 ?_ | refine wz5 ?_ | refine wz6 ?_ | simp -dsimp (maxSteps:=999999) (disch:=omega) only[go_sem,simprocAttr, *,rxsD] | ((first | refine wz8 (fun hh => ?_) (fun hh => ?_) | refine wz9 (fun hh => ?_) (fun hh => ?_) | refine wpB_cond (by simp -dsimp (maxSteps:=999999) (disch:=omega) only[go_sem,simprocAttr, *,rxsD]; exact rfl) (fun hh => ?_) (fun hh => ?_)) <;> (try replace hh := vqs hh) <;> (try (exfalso; first | exact hh | omega))))
      refine wpB_regionPL (m := 5) (prs := [([40], [42]), ([42], [40]), ([40], [44]), ([44], [40]), ([42], [44]), ([44], [42]), ([40], [46]), ([46], [40]), ([42], [46]), ([46], [42]), ([44], [46]), ([46], [44]), ([40], [6]), ([6], [40]), ([42], [6]), ([6], [42]), ([44], [6]), ([6], [44]), ([46], [6]), ([6], [46])]) (by kernel_rfl) (by kernel_rfl) rfl (by kernel_rfl) (by kernel_rfl) ?_
      simp -dsimp (maxSteps:=999999) (disch:=omega) only[go_sem,simprocAttr, *,zrN4, bdN5]
      have b1 := ly_cells 1 2 3 4 K
      have b2 := ly_aggQ 1 2 3 4 K
      have b3 := ly_noTup 1 2 3 4 K
      repeat' (first | refine wz1 ?_ | refine wz2 ?_ | refine wz3 ?_ | refine wz4 ?_ | refine wz5 ?_ | refine wz6 ?_ | simp -dsimp (maxSteps:=999999) (disch:=omega) only[go_sem,simprocAttr, *] | ((first | refine wz8 (fun hh => ?_) (fun hh => ?_) | refine wz9 (fun hh => ?_) (fun hh => ?_) | refine wz7 (fun hh => ?_) (fun hh => ?_)) <;> (try replace hh := vqs hh) <;> (try (exfalso; first | exact hh | omega))))
      refine wpB_loop (fun e H => ∃ j : Nat, j ≤ K ∧ H = [Ob.arr [.agg [.sl true [], .sl true [], .sl true [], .sl true []]], Ob.arr (List.replicate K (.sl true [])), Ob.arr (List.replicate K (.int .u16 0)), Ob.arr (List.replicate K (.int .i64 0)), Ob.arr (List.replicate j (.int .i64 (-1)) ++ List.replicate (K - j) (.int .i64 0)), Ob.arr [lyD 1 2 3 4 K]] ∧ e 0 = rxsD l ∧ e 2 = .ptr 0 0 0 ∧ e 4 = .int .i64 K ∧ e 6 = .ptr 5 0 0 ∧ e 7 = .int .i64 j) (fun e H => K - natOf (e 7)) ?_ ?_
      · exact ⟨0, by omega, rfl, by simp -dsimp (maxSteps:=999999) (disch:=omega) only[go_sem,simprocAttr, *,rxsD], gs, gs, gs, gs⟩
      clear e0 e2 e4 e5
      rintro e H ⟨j, hj, rfl, e0, e2, e4, e6, e7⟩ R hR
      by_cases hbK : j < K
      · have hcell : (List.replicate j (D.int .i64 (-1)) ++ List.replicate (K - j) (D.int .i64 0))[j]? = some (.int .i64 0) := by
          rw [List.getElem?_append_right (by simp), List.length_replicate, Nat.sub_self, List.getElem?_replicate, if_pos (by omega)]
        have hset : (List.replicate j (D.int .i64 (-1)) ++ List.replicate (K - j) (D.int .i64 0)).set j (D.int .i64 (-1)) = List.replicate (j + 1) (D.int .i64 (-1)) ++ List.replicate (K - (j + 1)) (D.int .i64 0) := by
          rw [List.set_append_right _ _ (by simp), show K - j = (K - (j + 1)) + 1 by omega, List.replicate_succ]
          simp [List.replicate_succ', List.append_assoc]
        have hvs : ∀ H : Heap, hget H 4 = .arr (List.replicate j (D.int .i64 (-1)) ++ List.replicate (K - j) (D.int .i64 0)) → vecSize H 4 1 = true := fun H h => vecSize_of h (fun e => by have := congrArg List.length e; simp only [List.length_append, List.length_replicate, List.length_nil] at this; omega) (by
          cases hjj : j with
          | zero => rw [show K - 0 = (K - 1) + 1 by omega, List.replicate_succ]; rfl
          | succ q => rw [List.replicate_succ]; rfl)
        have hvs2 := hvs [Ob.arr [.agg [.sl true [], .sl true [], .sl true [], .sl true []]], Ob.arr (List.replicate K (.sl true [])), Ob.arr (List.replicate K (.int .u16 0)), Ob.arr (List.replicate K (.int .i64 0)), Ob.arr (List.replicate j (.int .i64 (-1)) ++ List.replicate (K - j) (.int .i64 0)), Ob.arr [lyD 1 2 3 4 K]] rfl
        clear hvs
        generalize List.replicate j (D.int .i64 (-1)) ++ List.replicate (K - j) (D.int .i64 0) = xs at *
        repeat' (first | refine wz1 ?_ | refine wz2 ?_ | refine wz3 ?_ | refine wz4 ?_ | refine wz5 ?_ | refine wz6 ?_ | simp -dsimp (maxSteps:=999999) (disch:=omega) only[go_sem,simprocAttr, *] | ((first | refine wz8 (fun hh => ?_) (fun hh => ?_) | refine wz9 (fun hh => ?_) (fun hh => ?_) | refine wz7 (fun hh => ?_) (fun hh => ?_)) <;> (try replace hh := vqs hh) <;> (try (exfalso; first | exact hh | omega))))
        refine hR _ _ ⟨j + 1, by omega, gs, by simp -dsimp (maxSteps:=999999) (disch:=omega) only[go_sem,simprocAttr, *,rxsD], gs, gs, gs, gs⟩ ?_
        simp -dsimp (maxSteps:=999999) (disch:=omega) only[go_sem,simprocAttr, *,natOf_int]
      obtain rfl : j = K := by omega
      clear hR
      have hly : LyAt 1 2 3 4 (zeroN j) [Ob.arr [.agg [.sl true [], .sl true [], .sl true [], .sl true []]], Ob.arr (List.replicate j (.sl true [])), Ob.arr (List.replicate j (.int .u16 0)), Ob.arr (List.replicate j (.int .i64 0)), Ob.arr (List.replicate j (.int .i64 (-1)) ++ List.replicate (j - j) (.int .i64 0)), Ob.arr [lyD 1 2 3 4 j]] := by
        refine ⟨?_, ?_, ?_, ?_, by simp [zeroN, kN], by simp [zeroN, kN], by simp [zeroN, kN], by omega, by omega, by omega, by omega, by omega, by omega⟩
        · simp [hget, zeroN, frD]
        · simp [hget, zeroN]
        · simp [hget, zeroN]
        · simp [hget, zeroN]
      have hkz : kN (zeroN j) = j := by simp [kN, zeroN]
      have hfz : fN (zeroN j) = 0 := by simp [fN, zeroN]
      obtain ⟨G2, hG2⟩ : ∃ G2, G2 = refFrom l 0 1 (zeroN j) := ⟨_, rfl⟩
      rw [← hG2]
      have hG3 : Hid (G2 = refFrom (l.drop 0) 0 1 (zeroN j)) := hG2
      have hs0 : 1 + 2 * sizeL (l.drop 0) ≤ j := by rw [List.drop_zero]; omega
      have hs1 : j ≤ 1 + 2 * sizeL (l.drop 0) := by rw [List.drop_zero]; omega
      have hsl : sizeL (l.drop 0) ≤ 1600 := by rw [List.drop_zero]; omega
      clear hG2 m1 m2 m3 r1 r2 r3 hbK hj hj16 hb
      generalize hHH : [Ob.arr [.agg [.sl true [], .sl true [], .sl true [], .sl true []]], Ob.arr (List.replicate j (.sl true [])), Ob.arr (List.replicate j (.int .u16 0)), Ob.arr (List.replicate j (.int .i64 0)), Ob.arr (List.replicate j (.int .i64 (-1)) ++ List.replicate (j - j) (.int .i64 0)), Ob.arr [lyD 1 2 3 4 j]] = H1 at *
      have h0 : hget H1 0 = .arr [.agg [.sl true [], .sl true [], .sl true [], .sl true []]] := by rw [← hHH]; rfl
      have h5 : hget H1 5 = .arr [lyD 1 2 3 4 j] := by rw [← hHH]; rfl
      have hl6 : 6 ≤ H1.length := by rw [← hHH]; simp
      clear hHH
      repeat' (first | refine wz1 ?_ | refine wz2 ?_ | refine wz3 ?_ | refine wz4 ?_ | refine wz5 ?_ | refine wz6 ?_ | simp -dsimp (maxSteps:=999999) (disch:=omega) only[go_sem,simprocAttr, *] | ((first | refine wz8 (fun hh => ?_) (fun hh => ?_) | refine wz9 (fun hh => ?_) (fun hh => ?_) | refine wz7 (fun hh => ?_) (fun hh => ?_)) <;> (try replace hh := vqs hh) <;> (try (exfalso; first | exact hh | omega))))
      refine wpB_loop (fun e Hi => ∃ (i a : Nat) (n : Nfa), i ≤ l.length ∧ LyAt 1 2 3 4 n Hi ∧ kN n = j ∧ hget Hi 0 = .arr [.agg [.sl true [], .sl true [], .sl true [], .sl true []]] ∧ hget Hi 5 = .arr [lyD 1 2 3 4 j] ∧ 6 ≤ Hi.length ∧ 1 ≤ a ∧ a + 2 * sizeL (l.drop i) ≤ j ∧ j ≤ a + 2 * sizeL (l.drop i) ∧ fN n + 5 * sizeL (l.drop i) ≤ 70000 ∧ G2 = refFrom (l.drop i) i a n ∧ e 0 = rxsD l ∧ e 2 = .ptr 0 0 0 ∧ e 6 = .ptr 5 0 0 ∧ e 8 = .int .i64 a ∧ e 9 = .int .i64 i) (fun e H => l.length - natOf (e 9)) ?_ ?_
      · exact ⟨0, 1, zeroN j, by omega, hly, hkz, h0, h5, hl6, by omega, hs0, hs1, by omega, hG3, by simp -dsimp (maxSteps:=999999) (disch:=omega) only[go_sem,simprocAttr, *,rxsD], gs, gs, gs, gs⟩
      clear hly h0 h5 hl6 hs0 hs1 hG3 e0 e2 e4 e6 e7 hsl
      rintro e Hi ⟨i, a, n, hi, hL, hkn, h0, h5, hl6, ha1, ha2, ha3, hf, hG, e0, e2, e6, e8, e9⟩ R hR
      by_cases hb : i < l.length
      · have hxm := List.getElem_mem hb
        have hx : (rxDs l)[i]? = some (rxD l[i]) := by rw [rxDs_at, List.getElem?_eq_getElem hb]; rfl
        rw [List.drop_eq_getElem_cons hb] at ha2 ha3 hf hG
        simp only [sizeL] at ha2 ha3 hf
        obtain ⟨hdx, hsx⟩ := hrt _ hxm
        have hlay := lay_ok 12 l[i] hdx (by omega) (hok _ hxm) hsx 1 2 3 4 n a Hi hL (by omega) (by omega) (by omega)
        have hnn := nodes_ok 12 l[i] (hok _ hxm) hdx (by omega)
        rw [(nodes_small _).1 hsx] at hnn
        have hnf := layN_f l[i] a n
        have hnk := layN_k l[i] a n
        have hst := strip1 (strip_rx l[i])
        have c1 := rx_cells l[i]
        have c2 := rx_aggQ l[i]
        have c3 := rx_noTup l[i]
        have hxp := sizeR_pos l[i]
        rw [refFrom] at hG
        rw [hkn] at hlay
        clear hrt hok hL
        generalize l[i] = x at *
        generalize layN x a n = n2 at *
        repeat' (first | refine wz1 ?_ | refine wz2 ?_ | refine wz3 ?_ | refine wz4 ?_ | refine wz5 ?_ | refine wz6 ?_ | simp -dsimp (maxSteps:=999999) (disch:=omega) only[go_sem,simprocAttr, *,rxsD] | ((first | refine wz8 (fun hh => ?_) (fun hh => ?_) | refine wz9 (fun hh => ?_) (fun hh => ?_) | refine wpB_cond (by simp -dsimp (maxSteps:=999999) (disch:=omega) only[go_sem,simprocAttr, *,rxsD]; exact rfl) (fun hh => ?_) (fun hh => ?_)) <;> (try replace hh := vqs hh) <;> (try (exfalso; first | exact hh | omega))))
        refine wpB_regionXL (prs := []) (by kernel_rfl) rfl (by kernel_rfl) ?_; simp -dsimp (maxSteps:=999999) (disch:=omega) only[go_sem,simprocAttr, *,rxsD]
        refine ⟨fun h => Bool.noConfusion (show false = true from h), evB_state bo21 rfl rfl hlay ?_ (fun _ _ h => h.elim)⟩
        rintro _ H4 ⟨hL4, hB4⟩
        have h04 := (hB4.2 0 (by omega) (by omega) (by omega) (by omega)).trans h0
        have h54 := (hB4.2 5 (by omega) (by omega) (by omega) (by omega)).trans h5
        have hl4 := hB4.1
        have hF4 := hL4.F
        obtain ⟨f, v, qs, Hn, s1, s2, s3, s4, s5, s6, s7, s8, s9, s10, s11, s12, s13, s14, s15, s16⟩ := addI_pack hL4 (i := 0) (by omega) a (by omega)
        have h0n := (s15 0 (by omega)).trans h04
        have h5n := (s15 5 (by omega)).trans h54
        have hRn := s12.R
        have hfi := addI_f n2 0 a
        have hkn2 : kN (addI n2 0 a) = j := by rw [addI_k]; omega
        obtain ⟨en, hen⟩ : ∃ en, en = a + 2 * sizeR x - 1 := ⟨_, rfl⟩
        have hkk : a + 2 * sizeR x = en + 1 := by omega
        rw [← hen, hkk] at hG
        have hen1 : (a : Int) + 2 * (sizeR x : Int) - 1 = (en : Int) := by omega
        have hen2 : (a : Int) + 2 * (sizeR x : Int) = (en : Int) + 1 := by omega
        have henj : en < j := by omega
        have hlR := s12.lR
        rw [hkn2] at hlR
        generalize addI n2 0 a = n3 at *
        have hRc : (n3.rule.map (D.int .i64))[en]? = some (.int .i64 (n3.rule.getD en 0)) := by
          have : en < n3.rule.length := by omega
          simp [List.getD_eq_getElem?_getD, this]
        have hRz : vecSize Hn 4 1 = true := vecSize_of hRn (fun e => by have := congrArg List.length e; simp only [List.length_map, List.length_nil] at this; omega) (headInts _)
        have hLn : LyAt 1 2 3 4 (setRule n3 en (i : Int)) (Hn.set 4 (.arr ((n3.rule.map (D.int .i64)).set en (.int .i64 i)))) := by
          obtain ⟨l1, l2, l3, l4⟩ := s12.lt
          refine ⟨by rw [hget_set_ne (by omega)]; exact s12.F, by rw [hget_set_ne (by omega)]; exact s12.S, by rw [hget_set_ne (by omega)]; exact s12.T, by rw [hget_set_eq l4, ← List.map_set]; rfl, s12.lF, s12.lT, ?_, by omega, by omega, by omega, by omega, by omega, by omega⟩
          have := s12.lR
          simpa [setRule, kN] using this
        have g0 : hget (Hn.set 4 (.arr ((n3.rule.map (D.int .i64)).set en (.int .i64 i)))) 0 = _ := (hget_set_ne (by omega)).trans h0n
        have g5 : hget (Hn.set 4 (.arr ((n3.rule.map (D.int .i64)).set en (.int .i64 i)))) 5 = _ := (hget_set_ne (by omega)).trans h5n
        have gl : 6 ≤ (Hn.set 4 (.arr ((n3.rule.map (D.int .i64)).set en (.int .i64 i)))).length := by rw [List.length_set]; omega
        clear hlay hL4 hB4 s12 s13 s15 hen hkk h0 h5
        repeat' (first | refine wz1 ?_ | refine wz2 ?_ | refine wz3 ?_ | refine wz4 ?_ | refine wz5 ?_ | refine wz6 ?_ | simp -dsimp (maxSteps:=999999) (disch:=omega) only[go_sem,simprocAttr, *,rxsD] | ((first | refine wz8 (fun hh => ?_) (fun hh => ?_) | refine wz9 (fun hh => ?_) (fun hh => ?_) | refine wpB_cond (by simp -dsimp (maxSteps:=999999) (disch:=omega) only[go_sem,simprocAttr, *,rxsD]; exact rfl) (fun hh => ?_) (fun hh => ?_)) <;> (try replace hh := vqs hh) <;> (try (exfalso; first | exact hh | omega))))
        refine wpB_regionXL (prs := []) (by kernel_rfl) rfl (by kernel_rfl) ?_; simp -dsimp (maxSteps:=999999) (disch:=omega) only[go_sem,simprocAttr, *,rxsD]
        refine evB_pureK bo22 rfl rfl s5 s7 ?_
        intro H6 hH6
        obtain rfl : H6 = H4 := by rcases hH6 with h | h <;> exact h
        repeat' (first | refine wz1 ?_ | refine wz2 ?_ | refine wz3 ?_ | refine wz4 ?_ | refine wz5 ?_ | refine wz6 ?_ | simp -dsimp (maxSteps:=999999) (disch:=omega) only[go_sem,simprocAttr, *,rxsD] | ((first | refine wz8 (fun hh => ?_) (fun hh => ?_) | refine wz9 (fun hh => ?_) (fun hh => ?_) | refine wpB_cond (by simp -dsimp (maxSteps:=999999) (disch:=omega) only[go_sem,simprocAttr, *,rxsD]; exact rfl) (fun hh => ?_) (fun hh => ?_)) <;> (try replace hh := vqs hh) <;> (try (exfalso; first | exact hh | omega))))
        refine evB_plain bo20 rfl rfl hst hnn ?_
        repeat' (first | refine wz1 ?_ | refine wz2 ?_ | refine wz3 ?_ | refine wz4 ?_ | refine wz5 ?_ | refine wz6 ?_ | simp -dsimp (maxSteps:=999999) (disch:=omega) only[go_sem,simprocAttr, *] | ((first | refine wz8 (fun hh => ?_) (fun hh => ?_) | refine wz9 (fun hh => ?_) (fun hh => ?_) | refine wz7 (fun hh => ?_) (fun hh => ?_)) <;> (try replace hh := vqs hh) <;> (try (exfalso; first | exact hh | omega))))
        refine hR _ _ ⟨i + 1, en + 1, _, by omega, hLn, by show kN n3 = j; omega, g0, g5, gl, by omega, by omega, by omega, by show fN n3 + _ ≤ _; omega, hG, by simp -dsimp (maxSteps:=999999) (disch:=omega) only[go_sem,simprocAttr, *,rxsD], gs, gs, gs, gs⟩ ?_
        simp -dsimp (maxSteps:=999999) (disch:=omega) only[go_sem,simprocAttr, *,natOf_int]
      · rw [List.drop_eq_nil_of_le (by omega)] at hG
        have hG' : G2 = n := hG
        have hout := fun ob => out_ly (hL.keep (H' := Hi.set 0 ob) (hget_set_ne (by omega)) (hget_set_ne (by omega)) (hget_set_ne (by omega)) (hget_set_ne (by omega))) true
        have hl0 := lt_of_hget h0
        rw [hkn] at hout
        rw [hG']
        clear hG' hG hL
        repeat' (first | refine wz1 ?_ | refine wz2 ?_ | refine wz3 ?_ | refine wz4 ?_ | refine wz5 ?_ | refine wz6 ?_ | simp -dsimp (maxSteps:=999999) (disch:=omega) only[go_sem,simprocAttr, *,rxsD] | ((first | refine wz8 (fun hh => ?_) (fun hh => ?_) | refine wz9 (fun hh => ?_) (fun hh => ?_) | refine wpB_cond (by simp -dsimp (maxSteps:=999999) (disch:=omega) only[go_sem,simprocAttr, *,rxsD]; exact rfl) (fun hh => ?_) (fun hh => ?_)) <;> (try replace hh := vqs hh) <;> (try (exfalso; first | exact hh | omega))))
        exact hout _
end Go.Proofs.W
end
/- What a machine reads: places and steps; what an expression's fragment is. -/
section
set_option maxHeartbeats 4000000
set_option linter.unusedVariables false
set_option linter.unusedSimpArgs false
namespace Go.Proofs.W
open Go Vm Go.Proofs.Zsb6

/-- a step of a machine that reads a word: a state and a place -/
inductive Go1 (n : Nfa) (w : List Int) : Nat × Nat → Nat × Nat → Prop
  | eps {s t p : Nat} : (t : Int) ∈ n.free.getD s [] → Go1 n w (s, p) (t, p)
  | sym {s t p : Nat} {c : Int} : w[p]? = some c → hit n c s = true → n.to.getD s 0 = (t : Int) → Go1 n w (s, p) (t, p + 1)
inductive Path (n : Nfa) (w : List Int) : Nat × Nat → Nat × Nat → Prop
  | refl {x : Nat × Nat} : Path n w x x
  | step {x y z : Nat × Nat} : Path n w x y → Go1 n w y z → Path n w x z
theorem Path.trans {n : Nfa} {w : List Int} {x y z : Nat × Nat} (h : Path n w x y) (g : Path n w y z) : Path n w x z := by
  induction g with
  | refl => exact h
  | step _ g ih => exact .step ih g
theorem Path.one {n : Nfa} {w : List Int} {x y : Nat × Nat} (h : Go1 n w x y) : Path n w x y := .step .refl h
/-- what goes out of a state: free steps alone -/
def FreeOnly (n : Nfa) (s : Nat) (l : List Nat) : Prop := n.set.getD s 0 = 0 ∧ n.free.getD s [] = l.map fun (t : Nat) => (t : Int)
theorem hit_zero {n : Nfa} {c : Int} {s : Nat} (h : n.set.getD s 0 = 0) : hit n c s = false := by
  rw [hit, h]; simp [inB, bitZ_zero]
/-- where an expression at a state ends -/
abbrev endOf (r : Rx) (a : Nat) : Nat := a + 2 * sizeR r - 1
mutual
/-- a machine has an expression's steps, from a state on -/
def Frag (n : Nfa) : Rx → Nat → Prop
  | .mk k s l, a =>
    (if k = 1 then n.set.getD a 0 = s ∧ n.to.getD a 0 = ((endOf (.mk k s l) a : Nat) : Int) ∧ n.free.getD a [] = []
      else FreeOnly n a (if k = 0 then [endOf (.mk k s l) a] else if k = 2 then [a + 1] else if k = 3 then starts l (a + 1) else [a + 1, endOf (.mk k s l) a])) ∧
    FragL n k (a + 1) (endOf (.mk k s l) a) l (a + 1)
/-- those of kids; what goes out of each one's end -/
def FragL (n : Nfa) (k : Int) (a0 b : Nat) : List Rx → Nat → Prop
  | [], _ => True
  | r :: l, a => Frag n r a ∧ FreeOnly n (endOf r a) (if k = 2 then [if l.isEmpty then b else a + 2 * sizeR r] else if k = 4 then [a0, b] else [b]) ∧ FragL n k a0 b l (a + 2 * sizeR r)
def starts : List Rx → Nat → List Nat
  | [], _ => []
  | r :: l, a => a :: starts l (a + 2 * sizeR r)
end
/-- what is true at a place -/
def at' (l : List Bool) (p : Nat) : Prop := l.getD p false = true
theorem at_or {a b : List Bool} {N p : Nat} (ha : a.length = N) (hb : b.length = N) : at' (orB a b) p ↔ at' a p ∨ at' b p := by
  unfold at' orB
  rcases Nat.lt_or_ge p N with h | h
  · simp only [List.getD_eq_getElem?_getD, List.getElem?_zipWith, List.getElem?_eq_getElem (show p < a.length by omega), List.getElem?_eq_getElem (show p < b.length by omega)]
    simp
  · simp only [List.getD_eq_getElem?_getD, List.getElem?_zipWith, List.getElem?_eq_none (show a.length ≤ p by omega), List.getElem?_eq_none (show b.length ≤ p by omega)]
    simp
theorem at_lt {a : List Bool} {p : Nat} (h : at' a p) : p < a.length := by
  rcases Nat.lt_or_ge p a.length with h' | h'
  · exact h'
  · unfold at' at h; rw [List.getD_eq_getElem?_getD, List.getElem?_eq_none h'] at h; simp at h
theorem at_rep {N p : Nat} : ¬ at' (List.replicate N false) p := by
  unfold at'
  rw [List.getD_eq_getElem?_getD, List.getElem?_replicate]
  split <;> simp
theorem at_step {s : Int} {w : List Int} {fl : List Bool} {q : Nat} (hfl : fl.length = w.length + 1) : at' (stepB s w fl) q ↔ ∃ p c, q = p + 1 ∧ at' fl p ∧ w[p]? = some c ∧ inB s c = true := by
  unfold at' stepB
  cases q with
  | zero => simp
  | succ p =>
    simp only [List.getD_eq_getElem?_getD, List.getElem?_cons_succ, List.getElem?_zipWith]
    rcases Nat.lt_or_ge p w.length with h | h
    · rw [List.getElem?_eq_getElem h, List.getElem?_eq_getElem (show p < fl.length by omega)]
      simp only [Option.getD_some, Bool.and_eq_true]
      constructor
      · rintro ⟨h1, h2⟩; exact ⟨p, w[p], rfl, by rw [List.getElem?_eq_getElem (show p < fl.length by omega)]; simpa using h1, List.getElem?_eq_getElem h, h2⟩
      · rintro ⟨p', c, h1, h2, h3, h4⟩
        obtain rfl : p' = p := by omega
        rw [List.getElem?_eq_getElem h] at h3
        cases h3
        rw [List.getElem?_eq_getElem (show p' < fl.length by omega)] at h2
        exact ⟨by simpa using h2, h4⟩
    · rw [List.getElem?_eq_none (show w.length ≤ p by omega)]
      constructor
      · intro h'; cases hh : fl[p]? <;> simp [hh] at h'
      · rintro ⟨p', c, h1, h2, h3, h4⟩
        obtain rfl : p' = p := by omega
        rw [List.getElem?_eq_none (show w.length ≤ p' by omega)] at h3; cases h3
/-- how many are not -/
def cfB (l : List Bool) : Nat := (l.filter (!·)).length
theorem cfB_le (l : List Bool) : cfB l ≤ l.length := List.length_filter_le _ _
theorem cfB_or : ∀ {a b : List Bool}, a.length = b.length → orB a b ≠ a → cfB (orB a b) < cfB a := by
  have le : ∀ {a b : List Bool}, a.length = b.length → cfB (orB a b) ≤ cfB a := by
    intro a
    induction a with
    | nil => intro b h; simp [orB, cfB]
    | cons x a ih =>
      intro b h
      cases b with
      | nil => simp at h
      | cons y b =>
        have := ih (b := b) (by simpa using h)
        simp only [orB, cfB, List.zipWith_cons_cons] at this ⊢
        cases x <;> cases y <;> simp at this ⊢ <;> omega
  intro a
  induction a with
  | nil => intro b h hne; simp [orB] at hne
  | cons x a ih =>
    intro b h hne
    cases b with
    | nil => simp at h
    | cons y b =>
      have h1 := le (a := a) (b := b) (by simpa using h)
      have h2 := ih (b := b) (by simpa using h)
      simp only [orB, cfB, List.zipWith_cons_cons] at h1 h2 hne ⊢
      cases x <;> cases y <;> simp at h1 h2 hne ⊢
      · exact h2 hne
      · omega
      · exact h2 hne
      · exact h2 hne
theorem cfB_zero : ∀ {a b : List Bool}, a.length = b.length → cfB a = 0 → orB a b = a
  | [], [], _, _ => rfl
  | [], _ :: _, h, _ => by simp at h
  | _ :: _, [], h, _ => by simp at h
  | x :: a, y :: b, h, h0 => by
    cases x with
    | false => simp [cfB] at h0
    | true =>
      have := cfB_zero (a := a) (b := b) (by simpa using h) (by simpa [cfB] using h0)
      simp only [orB, List.zipWith_cons_cons] at this ⊢
      simp [this]
theorem rounds_fix {f : List Bool → List Bool} {N : Nat} (hf : ∀ l, l.length = N → (f l).length = N) : ∀ (m : Nat) (l : List Bool), l.length = N → cfB l ≤ m → orB (roundsB f false m l) (f (roundsB f false m l)) = roundsB f false m l
  | 0, l, h, hc => by
    simp only [roundsB]
    exact cfB_zero (by rw [h, hf l h]) (by omega)
  | m + 1, l, h, hc => by
    simp only [roundsB]
    split
    · rename_i hh
      rcases hh with hh | hh
      · cases hh
      · rw [hh, hh]
    · rename_i hh
      have hne : orB l (f l) ≠ l := fun e => hh (.inr e)
      have := cfB_or (by rw [h, hf l h]) hne
      exact rounds_fix hf m _ (orB_len h (hf l h)) (by omega)
/-- what each round keeps, all keep -/
theorem rounds_inv {f : List Bool → List Bool} {N : Nat} (hf : ∀ l, l.length = N → (f l).length = N) (P : List Bool → Prop) (hP : ∀ l, l.length = N → P l → P (orB l (f l))) (one : Bool) : ∀ (m : Nat) (l : List Bool), l.length = N → P l → P (roundsB f one m l)
  | 0, l, _, h => h
  | m + 1, l, hl, h => by
    simp only [roundsB]
    split
    · exact hP l hl h
    · exact rounds_inv hf P hP one m _ (orB_len hl (hf l hl)) (hP l hl h)
end Go.Proofs.W
end
/- An expression's fragment: what it has leads through it. -/
section
set_option maxHeartbeats 4000000
set_option linter.unusedVariables false
set_option linter.unusedSimpArgs false
namespace Go.Proofs.W
open Go Vm Go.Proofs.Zsb6

theorem go_free {n : Nfa} {w : List Int} {s t p : Nat} {l : List Nat} (h : FreeOnly n s l) (ht : t ∈ l) : Go1 n w (s, p) (t, p) :=
  .eps (by rw [h.2]; exact List.mem_map.2 ⟨t, ht, rfl⟩)
mutual
theorem sound (n : Nfa) (w : List Int) : ∀ (r : Rx) (a : Nat) (fl : List Bool) (j : Nat), Frag n r a → shapesR r = true → fl.length = w.length + 1 → at' (endsR w r fl) j → ∃ i, at' fl i ∧ Path n w (a, i) (endOf r a, j)
  | .mk k s l, a, fl, j, hf, hs, hfl, he => by
    obtain ⟨h1, h2⟩ := hf
    simp only [shapesR, Bool.and_eq_true] at hs
    obtain ⟨hs1, hsl⟩ := hs
    simp only [shape1] at hs1
    simp only [endsR] at he
    by_cases h0 : k = 0
    · subst h0
      simp only [if_true] at he
      exact ⟨j, he, Path.one (go_free h1 (by simp))⟩
    rw [if_neg h0] at he
    by_cases hk1 : k = 1
    · subst hk1
      simp only [if_true] at he h1
      obtain ⟨p, c, rfl, g1, g2, g3⟩ := (at_step hfl).1 he
      exact ⟨p, g1, Path.one (.sym g2 (by rw [hit, h1.1]; exact g3) h1.2.1)⟩
    rw [if_neg hk1] at he h1
    by_cases hk2 : k = 2
    · subst hk2
      simp only [if_true] at he
      have hne : l ≠ [] := by intro e; subst e; simp at hs1
      obtain ⟨i, g1, g2⟩ := soundCat n w (a + 1) (endOf (.mk 2 s l) a) l (a + 1) fl j h2 hsl hfl hne he
      exact ⟨i, g1, (Path.one (go_free h1 (by simp))).trans g2⟩
    rw [if_neg hk2] at he
    by_cases hk3 : k = 3
    · subst hk3
      simp only [if_true] at he
      obtain h | ⟨i, x, g0, g1, g2⟩ := soundAlt n w (a + 1) (endOf (.mk 3 s l) a) l (a + 1) fl _ j h2 hsl hfl (by simp) he
      · exact absurd h at_rep
      · exact ⟨i, g1, (Path.one (go_free h1 (by simpa using g0))).trans g2⟩
    rw [if_neg hk3] at he
    by_cases hk4 : k = 4 ∨ k = 5
    · rw [if_pos hk4] at he
      obtain ⟨x, rfl⟩ : ∃ x, l = [x] := by
        have : l.length = 1 := by
          simp only [h0, hk1, hk2, hk3, if_false, or_self, if_pos hk4, Bool.and_eq_true] at hs1
          simpa using hs1.1
        match l, this with
        | [x], _ => exact ⟨x, rfl⟩
      simp only [FragL] at h2
      obtain ⟨hx, hout, -⟩ := h2
      simp only [shapesL, Bool.and_true] at hsl
      simp only [if_neg h0, if_neg hk2, if_neg hk3] at h1
      have hlen : ∀ y, y.length = w.length + 1 → (endsOne w [x] y).length = w.length + 1 := fun y hy => ends_len w x y hy
      have kid : ∀ y j, y.length = w.length + 1 → at' (endsOne w [x] y) j → ∃ i, at' y i ∧ Path n w (a + 1, i) (endOf x (a + 1), j) := fun y j hy h => sound n w x (a + 1) y j hx hsl hy h
      have toB : ∀ j, Path n w (endOf x (a + 1), j) (endOf (.mk k s [x]) a, j) := fun j => Path.one (go_free hout (by rcases hk4 with h | h <;> simp [h]))
      have aB : ∀ j, Path n w (a, j) (endOf (.mk k s [x]) a, j) := fun j => Path.one (go_free h1 (by simp))
      have aA : ∀ j, Path n w (a, j) (a + 1, j) := fun j => Path.one (go_free h1 (by simp))
      have fin : (∃ i, at' fl i ∧ (i = j ∨ Path n w (a, i) (endOf x (a + 1), j))) → ∃ i, at' fl i ∧ Path n w (a, i) (endOf (.mk k s [x]) a, j) := by
        rintro ⟨i, g1, rfl | g2⟩
        · exact ⟨i, g1, aB i⟩
        · exact ⟨i, g1, g2.trans (toB j)⟩
      by_cases h4 : k = 4
      · subst h4
        have hback : ∀ j, Path n w (endOf x (a + 1), j) (a + 1, j) := fun j => Path.one (go_free hout (by simp))
        have hinv := rounds_inv hlen (fun L => ∀ j, at' L j → ∃ i, at' fl i ∧ (i = j ∨ Path n w (a, i) (endOf x (a + 1), j))) (fun L hL hP j hj => by
          rcases (at_or hL (hlen L hL)).1 hj with hj | hj
          · exact hP j hj
          · obtain ⟨i', g1, g2⟩ := kid L j hL hj
            obtain ⟨i, g3, rfl | g4⟩ := hP i' g1
            · exact ⟨i, g3, .inr ((aA i).trans g2)⟩
            · exact ⟨i, g3, .inr ((g4.trans (hback i')).trans g2)⟩) (4 == 5) (w.length + 1) fl hfl (fun j hj => ⟨j, hj, .inl rfl⟩)
        exact fin (hinv j he)
      · have h5 : k = 5 := by rcases hk4 with h | h; exact absurd h h4; exact h
        subst h5
        have hone : roundsB (endsOne w [x]) ((5 : Int) == 5) (w.length + 1) fl = orB fl (endsOne w [x] fl) := by simp [roundsB]
        rw [hone] at he
        rcases (at_or hfl (hlen fl hfl)).1 he with hj | hj
        · exact ⟨j, hj, aB j⟩
        · obtain ⟨i, g1, g2⟩ := kid fl j hfl hj
          exact ⟨i, g1, ((aA i).trans g2).trans (toB j)⟩
    · rw [if_neg hk4] at he
      exact absurd he at_rep
theorem soundCat (n : Nfa) (w : List Int) (a0 b : Nat) : ∀ (l : List Rx) (a : Nat) (fl : List Bool) (j : Nat), FragL n 2 a0 b l a → shapesL l = true → fl.length = w.length + 1 → l ≠ [] → at' (endsCat w l fl) j → ∃ i, at' fl i ∧ Path n w (a, i) (b, j)
  | [], a, fl, j, _, _, _, hne, _ => absurd rfl hne
  | r :: l, a, fl, j, hf, hs, hfl, _, he => by
    simp only [FragL, if_true] at hf
    obtain ⟨h1, h2, h3⟩ := hf
    simp only [shapesL, Bool.and_eq_true] at hs
    simp only [endsCat] at he
    by_cases hl : l = []
    · subst hl
      simp only [endsCat] at he
      obtain ⟨i, g1, g2⟩ := sound n w r a fl j h1 hs.1 hfl he
      exact ⟨i, g1, g2.trans (Path.one (go_free h2 (by simp)))⟩
    · obtain ⟨i, g1, g2⟩ := soundCat n w a0 b l _ _ j h3 hs.2 (ends_len w r fl hfl) hl he
      obtain ⟨i', g3, g4⟩ := sound n w r a fl i h1 hs.1 hfl g1
      have hne : l.isEmpty = false := by cases l with | nil => exact absurd rfl hl | cons x y => rfl
      exact ⟨i', g3, (g4.trans (Path.one (go_free h2 (by simp [hne])))).trans g2⟩
theorem soundAlt (n : Nfa) (w : List Int) (a0 b : Nat) : ∀ (l : List Rx) (a : Nat) (fl acc : List Bool) (j : Nat), FragL n 3 a0 b l a → shapesL l = true → fl.length = w.length + 1 → acc.length = w.length + 1 → at' (endsAlt w l fl acc) j → at' acc j ∨ ∃ i x, x ∈ starts l a ∧ at' fl i ∧ Path n w (x, i) (b, j)
  | [], a, fl, acc, j, _, _, _, _, he => .inl he
  | r :: l, a, fl, acc, j, hf, hs, hfl, hacc, he => by
    simp only [FragL] at hf
    obtain ⟨h1, h2, h3⟩ := hf
    simp only [shapesL, Bool.and_eq_true] at hs
    simp only [endsAlt] at he
    rcases soundAlt n w a0 b l _ fl _ j h3 hs.2 hfl (orB_len hacc (ends_len w r fl hfl)) he with h | ⟨i, x, g0, g1, g2⟩
    · rcases (at_or hacc (ends_len w r fl hfl)).1 h with h | h
      · exact .inl h
      · obtain ⟨i, g1, g2⟩ := sound n w r a fl j h1 hs.1 hfl h
        exact .inr ⟨i, a, by simp [starts], g1, g2.trans (Path.one (go_free h2 (by simp)))⟩
    · exact .inr ⟨i, x, by simp [starts, g0], g1, g2⟩
end
end Go.Proofs.W
end
/- An expression's fragment: what leads through it, it has. -/
section
set_option maxHeartbeats 4000000
set_option linter.unusedVariables false
set_option linter.unusedSimpArgs false
namespace Go.Proofs.W
open Go Vm Go.Proofs.Zsb6

mutual
/-- where one may be, that entered where a table says -/
def Good (w : List Int) : Rx → Nat → List Bool → Nat → Nat → Prop
  | .mk k s l, a, fl, x, p => (x = a ∧ at' fl p) ∨ (x = endOf (.mk k s l) a ∧ at' (endsR w (.mk k s l) fl) p) ∨ GoodL w k l (a + 1) (if k = 4 then endsR w (.mk k s l) fl else fl) x p
def GoodL (w : List Int) (k : Int) : List Rx → Nat → List Bool → Nat → Nat → Prop
  | [], _, _, _, _ => False
  | r :: l, a, fl, x, p => Good w r a fl x p ∨ GoodL w k l (a + 2 * sizeR r) (if k = 2 then endsR w r fl else fl) x p
end
mutual
theorem good_rng (w : List Int) : ∀ (r : Rx) (a : Nat) (fl : List Bool) (x p : Nat), Good w r a fl x p → a ≤ x ∧ x ≤ endOf r a
  | .mk k s l, a, fl, x, p, h => by
    simp only [Good] at h
    have : endOf (.mk k s l) a = a + 2 * sizeL l + 1 := by simp [endOf, sizeR]; omega
    rcases h with ⟨rfl, _⟩ | ⟨rfl, _⟩ | h
    · omega
    · omega
    · have := goodL_rng w k l (a + 1) _ x p h
      omega
theorem goodL_rng (w : List Int) (k : Int) : ∀ (l : List Rx) (a : Nat) (fl : List Bool) (x p : Nat), GoodL w k l a fl x p → a ≤ x ∧ x < a + 2 * sizeL l
  | [], a, fl, x, p, h => by simp [GoodL] at h
  | r :: l, a, fl, x, p, h => by
    simp only [GoodL] at h
    have hp := sizeR_pos r
    simp only [sizeL]
    rcases h with h | h
    · have := good_rng w r a fl x p h
      simp only [endOf] at this; omega
    · have := goodL_rng w k l _ _ x p h; omega
end
theorem good_start (w : List Int) (r : Rx) (a : Nat) {fl : List Bool} {p : Nat} (h : at' fl p) : Good w r a fl a p := by
  cases r; simp only [Good]; exact .inl ⟨trivial, h⟩
theorem good_end (w : List Int) (r : Rx) (a : Nat) {fl : List Bool} {p : Nat} (h : Good w r a fl (endOf r a) p) : at' (endsR w r fl) p := by
  cases r with
  | mk k s l =>
    simp only [Good] at h
    have he : endOf (.mk k s l) a = a + 2 * sizeL l + 1 := by simp [endOf, sizeR]; omega
    rcases h with ⟨h, _⟩ | ⟨_, h⟩ | h
    · omega
    · exact h
    · have := goodL_rng w k l (a + 1) _ _ p h; omega
theorem go_cases {n : Nfa} {w : List Int} {s p : Nat} {y : Nat × Nat} {l : List Nat} (h : FreeOnly n s l) (g : Go1 n w (s, p) y) : ∃ t ∈ l, y = (t, p) := by
  cases g with
  | eps ht =>
    rw [h.2] at ht
    obtain ⟨t', h1, h2⟩ := List.mem_map.1 ht
    exact ⟨t', h1, by rw [show t' = _ from Int.ofNat_inj.1 h2]⟩
  | sym _ hh _ => rw [hit_zero h.1] at hh; cases hh
theorem good_starts (w : List Int) (k : Int) (hk : k ≠ 2) : ∀ (l : List Rx) (a : Nat) {fl : List Bool} {p t : Nat}, t ∈ starts l a → at' fl p → GoodL w k l a fl t p
  | [], a, fl, p, t, h, _ => by simp [starts] at h
  | r :: l, a, fl, p, t, h, hp => by
    simp only [starts, List.mem_cons] at h
    simp only [GoodL, if_neg hk]
    rcases h with rfl | h
    · exact .inl (good_start w r _ hp)
    · exact .inr (good_starts w k hk l _ h hp)
theorem alt_acc (w : List Int) : ∀ (l : List Rx) (fl acc : List Bool) (p : Nat), fl.length = w.length + 1 → acc.length = w.length + 1 → at' acc p → at' (endsAlt w l fl acc) p
  | [], fl, acc, p, _, _, h => h
  | r :: l, fl, acc, p, hfl, hacc, h => by
    simp only [endsAlt]
    exact alt_acc w l fl _ p hfl (orB_len hacc (ends_len w r fl hfl)) ((at_or hacc (ends_len w r fl hfl)).2 (.inl h))
theorem alt_mem (w : List Int) : ∀ (l : List Rx) (fl acc : List Bool) (p : Nat), fl.length = w.length + 1 → acc.length = w.length + 1 → (∃ r ∈ l, at' (endsR w r fl) p) → at' (endsAlt w l fl acc) p
  | [], fl, acc, p, _, _, ⟨r, h, _⟩ => by cases h
  | r :: l, fl, acc, p, hfl, hacc, ⟨r', h, hp⟩ => by
    simp only [endsAlt]
    have hl := orB_len hacc (ends_len w r fl hfl)
    rcases List.mem_cons.1 h with rfl | h
    · exact alt_acc w l fl _ p hfl hl ((at_or hacc (ends_len w r' fl hfl)).2 (.inr hp))
    · exact alt_mem w l fl _ p hfl hl ⟨r', h, hp⟩
def ExitAt (w : List Int) (k : Int) (l : List Rx) (fl : List Bool) (p : Nat) : Prop := if k = 2 then at' (endsCat w l fl) p else ∃ r ∈ l, at' (endsR w r fl) p
mutual
theorem good_step (n : Nfa) (w : List Int) : ∀ (r : Rx) (a : Nat) (fl : List Bool) (x p : Nat) (y : Nat × Nat), Frag n r a → shapesR r = true → fl.length = w.length + 1 → Good w r a fl x p → x ≠ endOf r a → Go1 n w (x, p) y → Good w r a fl y.1 y.2
  | .mk k s l, a, fl, x, p, y, hf, hs, hfl, hg, hx, g => by
    obtain ⟨h1, h2⟩ := hf
    simp only [shapesR, Bool.and_eq_true] at hs
    obtain ⟨hs1, hsl⟩ := hs
    simp only [shape1] at hs1
    have hE := ends_len w (.mk k s l) fl hfl
    have hlen : ∀ y, y.length = w.length + 1 → (endsOne w l y).length = w.length + 1 := fun y hy => endsOne_len w l y hy
    have hstar : k = 4 → (∀ p, at' fl p → at' (endsR w (.mk k s l) fl) p) ∧ (∀ p, at' (endsOne w l (endsR w (.mk k s l) fl)) p → at' (endsR w (.mk k s l) fl) p) := by
      rintro rfl
      have e : endsR w (.mk 4 s l) fl = roundsB (endsOne w l) false (w.length + 1) fl := by rw [endsR]; rfl
      rw [e] at hE ⊢
      have hfix := rounds_fix hlen (w.length + 1) fl hfl (by have := cfB_le fl; omega)
      refine ⟨fun p hp => ?_, fun p hp => ?_⟩
      · exact rounds_inv hlen (fun L => at' L p) (fun L hL h => (at_or hL (hlen L hL)).2 (.inl h)) false _ fl hfl hp
      · rw [← hfix]; exact (at_or hE (hlen _ hE)).2 (.inr hp)
    have hopt : k = 5 → endsR w (.mk k s l) fl = orB fl (endsOne w l fl) := by
      rintro rfl
      have e : endsR w (.mk 5 s l) fl = roundsB (endsOne w l) ((5 : Int) == 5) (w.length + 1) fl := by rw [endsR]; rfl
      rw [e]; simp [roundsB]
    have hone : k = 4 ∨ k = 5 → ∃ z, l = [z] := fun hk => by
      have : l.length = 1 := by
        have e0 : ¬ k = 0 := by omega
        have e1 : ¬ k = 1 := by omega
        have e2 : ¬ (k = 2 ∨ k = 3) := by omega
        simp only [e0, e1, e2, if_false, if_pos hk, Bool.and_eq_true] at hs1
        simpa using hs1.1
      match l, this with
      | [z], _ => exact ⟨z, rfl⟩
    simp only [Good] at hg ⊢
    rcases hg with ⟨rfl, hp⟩ | ⟨h, _⟩ | hg
    · by_cases h0 : k = 0
      · subst h0
        obtain ⟨t, ht, rfl⟩ := go_cases (by simpa using h1) g
        simp at ht; subst ht
        exact .inr (.inl ⟨rfl, by simpa [endsR] using hp⟩)
      by_cases hk1 : k = 1
      · subst hk1
        simp only [if_true] at h1
        cases g with
        | eps ht => rw [h1.2.2] at ht; cases ht
        | sym g1 g2 g3 =>
          rw [h1.2.1] at g3
          refine .inr (.inl ⟨(Int.ofNat_inj.1 g3).symm, ?_⟩)
          have : endsR w (.mk 1 s l) fl = stepB s w fl := by simp [endsR]
          rw [this]
          exact (at_step hfl).2 ⟨p, _, rfl, hp, g1, by rw [hit, h1.1] at g2; exact g2⟩
      rw [if_neg hk1] at h1
      by_cases hk2 : k = 2
      · subst hk2
        obtain ⟨t, ht, rfl⟩ := go_cases (by simpa using h1) g
        simp at ht; subst ht
        cases l with
        | nil => simp at hs1
        | cons z l => exact .inr (.inr (by simp only [GoodL]; exact .inl (good_start w z _ (by simpa using hp))))
      by_cases hk3 : k = 3
      · subst hk3
        obtain ⟨t, ht, rfl⟩ := go_cases (by simpa using h1) g
        exact .inr (.inr (good_starts w 3 (by omega) l _ ht (by simpa using hp)))
      by_cases hk4 : k = 4 ∨ k = 5
      · obtain ⟨z, rfl⟩ := hone hk4
        simp only [if_neg h0, if_neg hk2, if_neg hk3] at h1
        obtain ⟨t, ht, rfl⟩ := go_cases h1 g
        simp only [List.mem_cons, List.not_mem_nil, or_false] at ht
        have hfl' : at' (if k = 4 then endsR w (.mk k s [z]) fl else fl) p := by
          by_cases h4 : k = 4
          · rw [if_pos h4]; exact (hstar h4).1 p hp
          · rw [if_neg h4]; exact hp
        rcases ht with rfl | rfl
        · exact .inr (.inr (by simp only [GoodL]; exact .inl (good_start w z _ hfl')))
        · refine .inr (.inl ⟨rfl, ?_⟩)
          rcases hk4 with h4 | h5
          · exact (hstar h4).1 p hp
          · rw [hopt h5]; exact (at_or hfl (hlen fl hfl)).2 (.inl hp)
      · exfalso
        have e2 : ¬ (k = 2 ∨ k = 3) := by omega
        simp [h0, hk1, e2, hk4] at hs1
    · exact absurd h hx
    · have hin : (if k = 4 then endsR w (.mk k s l) fl else fl).length = w.length + 1 := by split; exact hE; exact hfl
      rcases goodL_step n w k (a + 1) (endOf (.mk k s l) a) l (a + 1) _ x p y h2 hsl hin hg g with h | ⟨q, hy, hex⟩
      · exact .inr (.inr h)
      · by_cases hk2 : k = 2
        · subst hk2
          have hy' : y = (endOf (.mk 2 s l) a, q) := by rcases hy with h | ⟨h, _⟩; exact h; omega
          subst hy'
          refine .inr (.inl ⟨rfl, ?_⟩)
          simpa [ExitAt, endsR] using hex
        rw [ExitAt, if_neg hk2] at hex
        by_cases h4 : k = 4
        · obtain ⟨z, rfl⟩ := hone (.inl h4)
          obtain ⟨r, hr, hp⟩ := hex
          obtain rfl : r = z := by simpa using hr
          rw [if_pos h4] at hp
          have hX := (hstar h4).2 q hp
          rcases hy with rfl | ⟨_, rfl⟩
          · exact .inr (.inl ⟨rfl, hX⟩)
          · exact .inr (.inr (by simp only [GoodL]; exact .inl (good_start w r _ (by rw [if_pos h4]; exact hX))))
        · have hy' : y = (endOf (.mk k s l) a, q) := by rcases hy with h | ⟨h, _⟩; exact h; exact absurd h h4
          subst hy'
          rw [if_neg h4] at hex
          refine .inr (.inl ⟨rfl, ?_⟩)
          by_cases h5 : k = 5
          · obtain ⟨z, rfl⟩ := hone (.inr h5)
            obtain ⟨r, hr, hp⟩ := hex
            obtain rfl : r = z := by simpa using hr
            rw [hopt h5]
            exact (at_or hfl (hlen fl hfl)).2 (.inr hp)
          · by_cases h3 : k = 3
            · subst h3
              have e : endsR w (.mk 3 s l) fl = endsAlt w l fl (List.replicate (w.length + 1) false) := by rw [endsR]; rfl
              rw [e]
              exact alt_mem w l fl _ q hfl (by simp) hex
            · exfalso
              obtain ⟨r, hr, _⟩ := hex
              by_cases h0 : k = 0
              · subst h0; simp at hs1; rw [hs1.1] at hr; cases hr
              · by_cases h1 : k = 1
                · subst h1; simp at hs1; rw [hs1.1] at hr; cases hr
                · simp [h0, h1, show ¬ (k = 2 ∨ k = 3) by omega, show ¬ (k = 4 ∨ k = 5) by omega] at hs1
theorem goodL_step (n : Nfa) (w : List Int) (k : Int) (a0 b : Nat) : ∀ (l : List Rx) (a : Nat) (fl : List Bool) (x p : Nat) (y : Nat × Nat), FragL n k a0 b l a → shapesL l = true → fl.length = w.length + 1 → GoodL w k l a fl x p → Go1 n w (x, p) y → GoodL w k l a fl y.1 y.2 ∨ ∃ q, (y = (b, q) ∨ (k = 4 ∧ y = (a0, q))) ∧ ExitAt w k l fl q
  | [], a, fl, x, p, y, _, _, _, hg, _ => by simp [GoodL] at hg
  | r :: l, a, fl, x, p, y, hf, hs, hfl, hg, g => by
    simp only [FragL] at hf
    obtain ⟨h1, h2, h3⟩ := hf
    simp only [shapesL, Bool.and_eq_true] at hs
    simp only [GoodL] at hg ⊢
    rcases hg with hg | hg
    · by_cases hx : x = endOf r a
      · subst hx
        have hp := good_end w r a hg
        obtain ⟨t, ht, rfl⟩ := go_cases h2 g
        by_cases hk2 : k = 2
        · subst hk2
          simp only [if_true] at ht ⊢
          cases l with
          | nil =>
            simp at ht; subst ht
            exact .inr ⟨p, .inl rfl, by simpa [ExitAt, endsCat] using hp⟩
          | cons z l =>
            simp at ht; subst ht
            exact .inl (.inr (by simp only [GoodL]; exact .inl (good_start w z _ hp)))
        · rw [if_neg hk2] at ht
          have hex : ExitAt w k (r :: l) fl p := by rw [ExitAt, if_neg hk2]; exact ⟨r, by simp, hp⟩
          by_cases h4 : k = 4
          · rw [if_pos h4] at ht
            simp at ht
            rcases ht with rfl | rfl
            · exact .inr ⟨p, .inr ⟨h4, rfl⟩, hex⟩
            · exact .inr ⟨p, .inl rfl, hex⟩
          · rw [if_neg h4] at ht
            simp at ht; subst ht
            exact .inr ⟨p, .inl rfl, hex⟩
      · exact .inl (.inl (good_step n w r a fl x p y h1 hs.1 hfl hg hx g))
    · have hl' : (if k = 2 then endsR w r fl else fl).length = w.length + 1 := by split; exact ends_len w r fl hfl; exact hfl
      rcases goodL_step n w k a0 b l _ _ x p y h3 hs.2 hl' hg g with h | ⟨q, hy, hex⟩
      · exact .inl (.inr h)
      · refine .inr ⟨q, hy, ?_⟩
        by_cases hk2 : k = 2
        · subst hk2
          simpa [ExitAt, endsCat] using hex
        · rw [ExitAt, if_neg hk2] at hex ⊢
          rw [if_neg hk2] at hex
          obtain ⟨r', hr', h⟩ := hex
          exact ⟨r', by simp [hr'], h⟩
end
end Go.Proofs.W
end
/- The machine made has the expression's fragment. -/
section
set_option maxHeartbeats 4000000
set_option linter.unusedVariables false
set_option linter.unusedSimpArgs false
namespace Go.Proofs.W
open Go Vm Go.Proofs.Zsb6

/-- a state is the same in two machines -/
def SameS (n n' : Nfa) (s : Nat) : Prop := n'.set.getD s 0 = n.set.getD s 0 ∧ n'.to.getD s 0 = n.to.getD s 0 ∧ n'.free.getD s [] = n.free.getD s []
theorem SameS.refl {n : Nfa} {s : Nat} : SameS n n s := ⟨rfl, rfl, rfl⟩
theorem SameS.trans {n n1 n2 : Nfa} {s : Nat} (h : SameS n n1 s) (g : SameS n1 n2 s) : SameS n n2 s := ⟨g.1.trans h.1, g.2.1.trans h.2.1, g.2.2.trans h.2.2⟩
theorem SameS.only {n n' : Nfa} {s : Nat} {l : List Nat} (h : SameS n n' s) (g : FreeOnly n s l) : FreeOnly n' s l := ⟨by rw [h.1]; exact g.1, by rw [h.2.2]; exact g.2⟩
theorem endOf_mk (k s : Int) (l : List Rx) (a : Nat) : endOf (.mk k s l) a = a + 2 * sizeL l + 1 := by simp [endOf, sizeR]; omega
mutual
theorem frag_keep {n n' : Nfa} : ∀ (r : Rx) (a : Nat), (∀ s, a ≤ s → s < endOf r a → SameS n n' s) → Frag n r a → Frag n' r a
  | .mk k s l, a, h, hf => by
    rw [endOf_mk] at h
    obtain ⟨h1, h2⟩ := hf
    have ha := h a (Nat.le_refl _) (by omega)
    refine ⟨?_, fragL_keep k (a + 1) _ l (a + 1) (fun s h3 h4 => h s (by omega) (by omega)) h2⟩
    split at h1
    · rename_i hk
      rw [if_pos hk]
      exact ⟨by rw [ha.1]; exact h1.1, by rw [ha.2.1]; exact h1.2.1, by rw [ha.2.2]; exact h1.2.2⟩
    · rename_i hk
      rw [if_neg hk]
      exact ha.only h1
theorem fragL_keep {n n' : Nfa} (k : Int) (a0 b : Nat) : ∀ (l : List Rx) (a : Nat), (∀ s, a ≤ s → s < a + 2 * sizeL l → SameS n n' s) → FragL n k a0 b l a → FragL n' k a0 b l a
  | [], _, _, _ => trivial
  | r :: l, a, h, hf => by
    obtain ⟨h1, h2, h3⟩ := hf
    have hp := sizeR_pos r
    simp only [sizeL] at h
    exact ⟨frag_keep r a (fun s g1 g2 => h s g1 (by simp only [endOf] at g2; omega)) h1, (h (endOf r a) (by simp only [endOf]; omega) (by simp only [endOf]; omega)).only h2, fragL_keep k a0 b l _ (fun s g1 g2 => h s (by omega) (by omega)) h3⟩
end
/-- kids, nothing going out of their ends -/
def FragR (n : Nfa) : List Rx → Nat → Prop
  | [], _ => True
  | r :: l, a => Frag n r a ∧ FreeOnly n (endOf r a) [] ∧ FragR n l (a + 2 * sizeR r)
theorem fragR_keep {n n' : Nfa} : ∀ (l : List Rx) (a : Nat), (∀ s, a ≤ s → s < a + 2 * sizeL l → SameS n n' s) → FragR n l a → FragR n' l a
  | [], _, _, _ => trivial
  | r :: l, a, h, hf => by
    obtain ⟨h1, h2, h3⟩ := hf
    have hp := sizeR_pos r
    simp only [sizeL] at h
    exact ⟨frag_keep r a (fun s g1 g2 => h s g1 (by simp only [endOf] at g2; omega)) h1, (h (endOf r a) (by simp only [endOf]; omega) (by simp only [endOf]; omega)).only h2, fragR_keep l _ (fun s g1 g2 => h s (by omega) (by omega)) h3⟩
def posL : List Rx → Nat → List (Nat × Nat)
  | [], _ => []
  | r :: l, a => (a, endOf r a) :: posL l (a + 2 * sizeR r)
theorem kids_pos : ∀ (l : List Rx) (n : Nfa), (kidsN l n).2 = posL l (kN n)
  | [], n => rfl
  | r :: l, n => by simp only [kidsN, posL, makeN_io, kids_pos l, makeN_k]
theorem addFree_same {n : Nfa} {f : Nat} {t : Int} {s : Nat} (h : s ≠ f) : SameS n (addFree n f t) s := by
  refine ⟨rfl, rfl, ?_⟩
  simp only [addFree, getD_set]
  rw [if_neg (fun e => h e.1.symm)]
theorem addFree_only {n : Nfa} {f t : Nat} {l : List Nat} (hf : f < n.free.length) (h : FreeOnly n f l) : FreeOnly (addFree n f (t : Int)) f (l ++ [t]) := by
  refine ⟨h.1, ?_⟩
  simp only [addFree, getD_set]
  rw [if_pos ⟨trivial, hf⟩, h.2]; simp
theorem addState_same {n : Nfa} (h1 : n.free.length = kN n) (h2 : n.to.length = kN n) {s : Nat} (hs : s ≠ kN n) : SameS n (addState n) s := by
  simp only [kN] at hs h1 h2
  refine ⟨?_, ?_, ?_⟩ <;> simp only [addState, getD_push]
  · rw [if_neg hs]
  · rw [h2, if_neg hs]
  · rw [h1, if_neg hs]
theorem addState_new {n : Nfa} (h1 : n.free.length = kN n) : FreeOnly (addState n) (kN n) [] := by
  simp only [kN] at h1 ⊢
  refine ⟨?_, ?_⟩ <;> simp only [addState, getD_push]
  · simp
  · rw [h1]; simp
theorem catW_frag (a0 o : Nat) : ∀ (l : List Rx) (n : Nfa) (last a : Nat), n.free.length = kN n → a + 2 * sizeL l ≤ o → o < kN n → last < a → FreeOnly n last [] → FragR n l a →
    FreeOnly (catW o n last (posL l a)) last [if l.isEmpty then o else a] ∧ FragL (catW o n last (posL l a)) 2 a0 o l a ∧ ∀ s, s ≠ last → (s < a ∨ a + 2 * sizeL l ≤ s) → SameS n (catW o n last (posL l a)) s
  | [], n, last, a, hlen, ho, hon, hl, hF, _ => by
    simp only [posL, catW]
    exact ⟨by simpa using addFree_only (l := []) (t := o) (by omega) hF, trivial, fun s hs _ => addFree_same hs⟩
  | r :: l, n, last, a, hlen, ho, hon, hl, hF, hR => by
    obtain ⟨r1, r2, r3⟩ := hR
    have hp := sizeR_pos r
    simp only [sizeL] at ho
    simp only [posL, catW]
    have hsame : ∀ s, s ≠ last → SameS n (addFree n last (a : Int)) s := fun s hs => addFree_same hs
    have hlen1 : (addFree n last (a : Int)).free.length = kN (addFree n last (a : Int)) := by rw [addFree_k, (addFree_len n last _).2, hlen]
    obtain ⟨g1, g2, g3⟩ := catW_frag a0 o l (addFree n last (a : Int)) (endOf r a) (a + 2 * sizeR r) hlen1 (by omega) hon (by simp only [endOf]; omega) ((hsame _ (by simp only [endOf]; omega)).only r2) (fragR_keep l _ (fun s h1 h2 => hsame s (by omega)) r3)
    have hlast := g3 last (by simp only [endOf]; omega) (.inl (by omega))
    refine ⟨?_, ⟨frag_keep r a (fun s h1 h2 => (hsame s (by omega)).trans (g3 s (by omega) (.inl (by simp only [endOf] at h2; omega)))) r1, ?_, g2⟩, fun s hs h => ?_⟩
    · have := addFree_only (t := a) (l := []) (by omega) hF
      simpa using hlast.only this
    · simpa using g1
    · simp only [sizeL] at h
      exact (hsame s hs).trans (g3 s (by simp only [endOf]; omega) (by omega))
theorem altW_frag (a0 i o : Nat) : ∀ (l : List Rx) (n : Nfa) (a : Nat) (F : List Nat), n.free.length = kN n → a + 2 * sizeL l ≤ o → o < kN n → i < a → FreeOnly n i F → FragR n l a →
    FreeOnly (altW i o n (posL l a)) i (F ++ starts l a) ∧ FragL (altW i o n (posL l a)) 3 a0 o l a ∧ ∀ s, s ≠ i → (s < a ∨ a + 2 * sizeL l ≤ s) → SameS n (altW i o n (posL l a)) s
  | [], n, a, F, hlen, ho, hon, hi, hF, _ => by
    simp only [posL, altW, starts, List.append_nil]
    exact ⟨hF, trivial, fun s _ _ => SameS.refl⟩
  | r :: l, n, a, F, hlen, ho, hon, hi, hF, hR => by
    obtain ⟨r1, r2, r3⟩ := hR
    have hp := sizeR_pos r
    simp only [sizeL] at ho
    simp only [posL, altW]
    have hne : endOf r a ≠ i := by simp only [endOf]; omega
    have hs1 : ∀ s, s ≠ i → SameS n (addFree n i (a : Int)) s := fun s hs => addFree_same hs
    have hs2 : ∀ s, s ≠ endOf r a → SameS (addFree n i (a : Int)) (addFree (addFree n i (a : Int)) (endOf r a) (o : Int)) s := fun s hs => addFree_same hs
    have hlen1 : (addFree n i (a : Int)).free.length = kN n := by rw [(addFree_len n i _).2, hlen]
    have hlen2 : (addFree (addFree n i (a : Int)) (endOf r a) (o : Int)).free.length = kN n := by rw [(addFree_len _ _ _).2, hlen1]
    have hFi : FreeOnly (addFree (addFree n i (a : Int)) (endOf r a) (o : Int)) i (F ++ [a]) := (hs2 i (fun e => hne e.symm)).only (addFree_only (by omega) hF)
    have hEo : FreeOnly (addFree (addFree n i (a : Int)) (endOf r a) (o : Int)) (endOf r a) [o] := by
      have := addFree_only (t := o) (l := []) (by rw [hlen1]; simp only [endOf]; omega) ((hs1 _ hne).only r2)
      simpa using this
    generalize hN : addFree (addFree n i (a : Int)) (endOf r a) (o : Int) = N at *
    have hkN : kN N = kN n := by rw [← hN]; rfl
    obtain ⟨g1, g2, g3⟩ := altW_frag a0 i o l N (a + 2 * sizeR r) (F ++ [a]) (by rw [hlen2, hkN]) (by omega) (by omega) (by omega) hFi (fragR_keep l _ (fun s h1 h2 => (hs1 s (by omega)).trans (hs2 s (by simp only [endOf]; omega))) r3)
    refine ⟨by simpa [starts] using g1, ⟨frag_keep r a (fun s h1 h2 => ((hs1 s (by omega)).trans (hs2 s (by omega))).trans (g3 s (by omega) (.inl (by simp only [endOf] at h2; omega)))) r1, ?_, g2⟩, fun s hs h => ?_⟩
    · have := (g3 (endOf r a) hne (.inl (by simp only [endOf]; omega))).only hEo
      simpa using this
    · simp only [sizeL] at h
      exact ((hs1 s hs).trans (hs2 s (by simp only [endOf]; omega))).trans (g3 s hs (by omega))
mutual
theorem make_frag : ∀ (r : Rx) (n : Nfa), OkM n → shapesR r = true → Frag (makeN r n).1 r (kN n) ∧ FreeOnly (makeN r n).1 (endOf r (kN n)) [] ∧ ∀ s, s < kN n → SameS n (makeN r n).1 s
  | .mk k s l, n, hn, hs => by
    simp only [shapesR, Bool.and_eq_true] at hs
    obtain ⟨hs1, hsl⟩ := hs
    have hn1 := hn.addState
    obtain ⟨hR, hkeep⟩ := kids_frag l (addState n) hn1 hsl
    have hk := kidsN_k l (addState n)
    have hn2 := OkM.kidsN l (addState n) hn1
    have hpos := kids_pos l (addState n)
    rw [addState_k] at hk hR hkeep hpos
    have hN3 := hn2.addState
    have hk3 := addState_k (kidsN l (addState n)).1
    have hend : endOf (.mk k s l) (kN n) = kN (kidsN l (addState n)).1 := by rw [endOf_mk, hk]; omega
    have hsame2 : ∀ x, x ≠ kN (kidsN l (addState n)).1 → SameS (kidsN l (addState n)).1 (addState (kidsN l (addState n)).1) x := fun x hx => addState_same hn2.lF hn2.lT hx
    have ha : FreeOnly (addState (kidsN l (addState n)).1) (kN n) [] := (hsame2 _ (by omega)).only ((hkeep _ (by omega)).only (addState_new hn.lF))
    have hb : FreeOnly (addState (kidsN l (addState n)).1) (endOf (.mk k s l) (kN n)) [] := by rw [hend]; exact addState_new hn2.lF
    have hR3 : FragR (addState (kidsN l (addState n)).1) l (kN n + 1) := fragR_keep l _ (fun x h1 h2 => hsame2 x (by omega)) hR
    have hold : ∀ x, x < kN n → SameS n (addState (kidsN l (addState n)).1) x := fun x hx => ((addState_same hn.lF hn.lT (by omega)).trans (hkeep x (by omega))).trans (hsame2 x (by omega))
    have hmk : (makeN (.mk k s l) n).1 = wire k s (kN n) (endOf (.mk k s l) (kN n)) (posL l (kN n + 1)) (addState (kidsN l (addState n)).1) := by
      rw [makeN, hend]; simp only [hpos]
    rw [hmk]
    have hlenF := hN3.lF
    generalize hN : addState (kidsN l (addState n)).1 = N at *
    have hkN : kN N = kN n + 1 + 2 * sizeL l + 1 := by omega
    rw [endOf_mk] at hb hend ⊢
    clear hmk hpos hsame2 hkeep hR hn1 hn2 hk3 hk hend
    have hEN : kN n + 2 * sizeL l + 1 < kN N := by omega
    simp only [shape1] at hs1
    unfold wire
    simp only [Frag, endOf_mk]
    have hAB : kN n + 2 * sizeL l + 1 ≠ kN n := by omega
    by_cases h0 : k = 0
    · subst h0
      have hl : l = [] := by simp at hs1; exact hs1.1
      subst hl
      simp only [if_true, if_neg (show ¬ (0 : Int) = 1 by omega)]
      have h1 := addFree_only (t := kN n + 2 * sizeL [] + 1) (by omega) ha
      exact ⟨⟨h1, trivial⟩, (addFree_same hAB).only hb, fun x hx => (hold x hx).trans (addFree_same (by omega))⟩
    rw [if_neg h0]
    by_cases hk1 : k = 1
    · subst hk1
      have hl : l = [] := by simp at hs1; exact hs1.1
      subst hl
      simp only [if_true]
      have hlT := hN3.lT
      have hget : ∀ x, x ≠ kN n → SameS N (setTo N (kN n) s (kN n + 2 * sizeL [] + 1)) x := fun x hx => by
        refine ⟨?_, ?_, rfl⟩ <;> simp only [setTo, getD_set]
        · rw [if_neg (fun e => hx e.1.symm)]
        · rw [if_neg (fun e => hx e.1.symm)]
      refine ⟨⟨⟨?_, ?_, ?_⟩, trivial⟩, (hget _ hAB).only hb, fun x hx => (hold x hx).trans (hget x (by omega))⟩
      · simp only [setTo, getD_set]; rw [if_pos ⟨trivial, by simp only [kN] at hkN ⊢; omega⟩]
      · simp only [setTo, getD_set]; rw [if_pos ⟨trivial, by simp only [kN] at hkN hlT ⊢; omega⟩]
      · have := ha.2; simpa [setTo] using this
    rw [if_neg hk1, if_neg hk1]
    by_cases hk2 : k = 2
    · subst hk2
      simp only [if_true, if_neg (show ¬ (2 : Int) = 0 by omega)]
      have hne : l ≠ [] := by intro e; subst e; simp at hs1
      have hem : l.isEmpty = false := by cases l with | nil => exact absurd rfl hne | cons x y => rfl
      obtain ⟨g1, g2, g3⟩ := catW_frag (kN n + 1) (kN n + 2 * sizeL l + 1) l N (kN n) (kN n + 1) hlenF (by omega) (by omega) (by omega) ha hR3
      rw [hem] at g1
      exact ⟨⟨by simpa using g1, g2⟩, (g3 _ hAB (.inr (by omega))).only hb, fun x hx => (hold x hx).trans (g3 x (by omega) (.inl (by omega)))⟩
    rw [if_neg hk2]
    by_cases hk3 : k = 3
    · subst hk3
      simp only [if_true, if_neg (show ¬ (3 : Int) = 0 by omega), if_neg (show ¬ (3 : Int) = 2 by omega)]
      obtain ⟨g1, g2, g3⟩ := altW_frag (kN n + 1) (kN n) (kN n + 2 * sizeL l + 1) l N (kN n + 1) [] hlenF (by omega) (by omega) (by omega) ha hR3
      exact ⟨⟨by simpa using g1, g2⟩, (g3 _ hAB (.inr (by omega))).only hb, fun x hx => (hold x hx).trans (g3 x (by omega) (.inl (by omega)))⟩
    rw [if_neg hk3]
    have hk45 : k = 4 ∨ k = 5 := by
      by_cases h : k = 4 ∨ k = 5
      · exact h
      · simp [h0, hk1, show ¬ (k = 2 ∨ k = 3) by omega, h] at hs1
    obtain ⟨z, rfl⟩ : ∃ z, l = [z] := by
      have : l.length = 1 := by
        simp only [h0, hk1, if_false, show ¬ (k = 2 ∨ k = 3) by omega, if_pos hk45, Bool.and_eq_true] at hs1
        simpa using hs1.1
      match l, this with
      | [z], _ => exact ⟨z, rfl⟩
    obtain ⟨r1, r2, -⟩ := hR3
    have hp := sizeR_pos z
    simp only [posL, sizeL, Nat.add_zero] at hkN hb hAB hEN hlenF ⊢
    simp only [if_neg h0, if_neg hk2, if_neg hk3]
    have hne : endOf z (kN n + 1) ≠ kN n := by simp only [endOf]; omega
    have opt : ∀ (N' : Nfa) (F : List Nat), N'.free.length = kN N → FreeOnly N' (kN n) [] → FreeOnly N' (endOf z (kN n + 1)) F → (∀ x, x ≠ endOf z (kN n + 1) → SameS N N' x) →
        FreeOnly (optW N' (kN n) (kN n + 2 * sizeR z + 1) (kN n + 1) (endOf z (kN n + 1))) (kN n) [kN n + 1, kN n + 2 * sizeR z + 1] ∧ FreeOnly (optW N' (kN n) (kN n + 2 * sizeR z + 1) (kN n + 1) (endOf z (kN n + 1))) (endOf z (kN n + 1)) (F ++ [kN n + 2 * sizeR z + 1]) ∧ ∀ x, x ≠ kN n → x ≠ endOf z (kN n + 1) → SameS N (optW N' (kN n) (kN n + 2 * sizeR z + 1) (kN n + 1) (endOf z (kN n + 1))) x := by
      intro N' F hl hA hE hS
      have q1 := addFree_only (t := kN n + 1) (by rw [hl]; omega) hA
      have l1 : (addFree N' (kN n) ((kN n + 1 : Nat) : Int)).free.length = kN N := by rw [(addFree_len _ _ _).2, hl]
      have q2 := addFree_only (t := kN n + 2 * sizeR z + 1) (by rw [l1]; omega) q1
      have l2 : (addFree (addFree N' (kN n) ((kN n + 1 : Nat) : Int)) (kN n) ((kN n + 2 * sizeR z + 1 : Nat) : Int)).free.length = kN N := by rw [(addFree_len _ _ _).2, l1]
      have e2 : FreeOnly (addFree (addFree N' (kN n) ((kN n + 1 : Nat) : Int)) (kN n) ((kN n + 2 * sizeR z + 1 : Nat) : Int)) (endOf z (kN n + 1)) F := ((addFree_same hne).trans (addFree_same hne)).only hE
      have q3 := addFree_only (t := kN n + 2 * sizeR z + 1) (by rw [l2]; simp only [endOf]; omega) e2
      exact ⟨by simpa [optW] using (addFree_same (fun e => hne e.symm)).only q2, q3, fun x hx hx2 => (((hS x hx2).trans (addFree_same hx)).trans (addFree_same hx)).trans (addFree_same hx2)⟩
    have fin : ∀ (N' : Nfa), (∀ x, x ≠ kN n → x ≠ endOf z (kN n + 1) → SameS N N' x) → Frag N' z (kN n + 1) ∧ FreeOnly N' (kN n + 2 * sizeR z + 1) [] ∧ ∀ x, x < kN n → SameS n N' x := fun N' hS =>
      ⟨frag_keep z _ (fun x h1 h2 => hS x (by omega) (by omega)) r1, (hS _ (by omega) (by simp only [endOf]; omega)).only hb, fun x hx => (hold x hx).trans (hS x (by omega) (by simp only [endOf]; omega))⟩
    by_cases h4 : k = 4
    · subst h4
      simp only [if_true]
      obtain ⟨o1, o2, o3⟩ := opt (addFree N (endOf z (kN n + 1)) ((kN n + 1 : Nat) : Int)) [kN n + 1] (by rw [(addFree_len _ _ _).2]; exact hlenF) ((addFree_same (fun e => hne e.symm)).only ha) (by simpa using addFree_only (t := kN n + 1) (l := []) (by rw [hlenF]; simp only [endOf]; omega) r2) (fun x hx => addFree_same hx)
      obtain ⟨f1, f2, f3⟩ := fin _ o3
      exact ⟨⟨o1, f1, by simpa using o2, trivial⟩, f2, f3⟩
    · have h5 : k = 5 := by omega
      subst h5
      simp only [if_true, if_neg (show ¬ (5 : Int) = 4 by omega)]
      obtain ⟨o1, o2, o3⟩ := opt N [] hlenF ha r2 (fun x _ => SameS.refl)
      obtain ⟨f1, f2, f3⟩ := fin _ o3
      exact ⟨⟨o1, f1, by simpa using o2, trivial⟩, f2, f3⟩
theorem kids_frag : ∀ (l : List Rx) (n : Nfa), OkM n → shapesL l = true → FragR (kidsN l n).1 l (kN n) ∧ ∀ s, s < kN n → SameS n (kidsN l n).1 s
  | [], n, _, _ => ⟨trivial, fun _ _ => SameS.refl⟩
  | r :: l, n, hn, hs => by
    simp only [shapesL, Bool.and_eq_true] at hs
    obtain ⟨h1, h2, h3⟩ := make_frag r n hn hs.1
    have hk := makeN_k r n
    obtain ⟨g1, g2⟩ := kids_frag l (makeN r n).1 (OkM.makeN r n hn) hs.2
    have hp := sizeR_pos r
    rw [hk] at g1 g2
    simp only [kidsN]
    exact ⟨⟨frag_keep r _ (fun s _ h => g2 s (by simp only [endOf] at h; omega)) h1, (g2 _ (by simp only [endOf]; omega)).only h2, g1⟩, fun s hs => (h3 s hs).trans (g2 s (by omega))⟩
end
end Go.Proofs.W
end
/- The machine of expressions: to which states a word leads. -/
section
set_option maxHeartbeats 4000000
set_option linter.unusedVariables false
set_option linter.unusedSimpArgs false
namespace Go.Proofs.W
open Go Vm Go.Proofs.Zsb6

theorem setTo_rule (n : Nfa) (i : Nat) (s : Int) (o : Nat) : (setTo n i s o).rule = n.rule := rfl
theorem catW_rule (o : Nat) : ∀ (ps : List (Nat × Nat)) (n : Nfa) (last : Nat), (catW o n last ps).rule = n.rule
  | [], _, _ => rfl
  | p :: r, n, last => by rw [catW, catW_rule o r]; rfl
theorem altW_rule (i o : Nat) : ∀ (ps : List (Nat × Nat)) (n : Nfa), (altW i o n ps).rule = n.rule
  | [], _ => rfl
  | p :: r, n => by rw [altW, altW_rule i o r]; rfl
theorem wire_rule (k s : Int) (i o : Nat) (ps : List (Nat × Nat)) (n : Nfa) : (wire k s i o ps n).rule = n.rule := by
  unfold wire
  split
  · rfl
  split
  · rfl
  split
  · exact catW_rule ..
  split
  · exact altW_rule ..
  split
  · rfl
  split
  · rfl
  split
  · rfl
  · rfl
mutual
theorem makeN_rule : ∀ (r : Rx) (n : Nfa), (makeN r n).1.rule = n.rule ++ List.replicate (2 * sizeR r) (-1)
  | .mk k s l, n => by
    have := kidsN_rule l (addState n)
    simp only [makeN, wire_rule, addState, sizeR] at this ⊢
    rw [this, List.append_assoc, List.append_assoc]
    congr 1
    rw [show [(-1 : Int)] = List.replicate 1 (-1) from rfl, List.replicate_append_replicate, List.replicate_append_replicate]
    congr 1; omega
theorem kidsN_rule : ∀ (l : List Rx) (n : Nfa), (kidsN l n).1.rule = n.rule ++ List.replicate (2 * sizeL l) (-1)
  | [], n => by simp [kidsN, sizeL]
  | r :: l, n => by
    simp only [kidsN, kidsN_rule l, makeN_rule r, sizeL, List.append_assoc]
    rw [List.replicate_append_replicate]
    congr 2; omega
end
/-- where expressions that lie one behind the other end -/
def endsP : List Rx → Nat → List Nat
  | [], _ => []
  | r :: l, a => endOf r a :: endsP l (a + 2 * sizeR r)
theorem endsP_len : ∀ (l : List Rx) (a : Nat), (endsP l a).length = l.length
  | [], _ => rfl
  | r :: l, a => by simp [endsP, endsP_len l]
theorem endsP_app (r : Rx) : ∀ (l : List Rx) (a : Nat), endsP (l ++ [r]) a = endsP l a ++ [endOf r (a + 2 * sizeL l)]
  | [], a => by simp [endsP, sizeL]
  | x :: l, a => by simp only [List.cons_append, endsP, endsP_app r l, sizeL]; rw [show a + 2 * sizeR x + 2 * sizeL l = a + 2 * (sizeR x + sizeL l) by omega]
theorem endsP_rng : ∀ (l : List Rx) (a : Nat), ∀ s ∈ endsP l a, a < s ∧ s < a + 2 * sizeL l
  | [], a, s, h => by cases h
  | r :: l, a, s, h => by
    have hp := sizeR_pos r
    simp only [endsP, List.mem_cons] at h
    simp only [sizeL]
    rcases h with rfl | h
    · simp only [endOf]; omega
    · have := endsP_rng l _ s h; omega
theorem starts_app (r : Rx) : ∀ (l : List Rx) (a : Nat), starts (l ++ [r]) a = starts l a ++ [a + 2 * sizeL l]
  | [], a => by simp [starts, sizeL]
  | x :: l, a => by simp only [List.cons_append, starts, starts_app r l, sizeL]; rw [show a + 2 * sizeR x + 2 * sizeL l = a + 2 * (sizeR x + sizeL l) by omega]
theorem fragR_app {n : Nfa} (r : Rx) : ∀ (l : List Rx) (a : Nat), FragR n l a → Frag n r (a + 2 * sizeL l) → FreeOnly n (endOf r (a + 2 * sizeL l)) [] → FragR n (l ++ [r]) a
  | [], a, _, h1, h2 => ⟨by simpa [sizeL] using h1, by simpa [sizeL] using h2, trivial⟩
  | x :: l, a, h, h1, h2 => by
    simp only [sizeL] at h1 h2
    have e : a + 2 * (sizeR x + sizeL l) = a + 2 * sizeR x + 2 * sizeL l := by omega
    rw [e] at h1 h2
    exact ⟨h.1, h.2.1, fragR_app r l _ h.2.2 h1 h2⟩
structure Pre (n : Nfa) (l : List Rx) : Prop where
  ok : OkM n
  k : kN n = 1 + 2 * sizeL l
  s0 : FreeOnly n 0 (starts l 1)
  fr : FragR n l 1
  ru : ∀ (s i : Nat), n.rule.getD s (-1) = (i : Int) ↔ (endsP l 1)[i]? = some s
theorem pre_zero : Pre (addState emptyN) [] := by
  refine ⟨OkM.addState ⟨rfl, rfl, rfl, fun i x hx => by simp [emptyN] at hx, fun i hi => by simp [emptyN] at hi, fun i => by simp [emptyN]⟩, rfl, ⟨rfl, rfl⟩, trivial, fun s i => ?_⟩
  simp only [addState, emptyN, endsP, List.nil_append]
  cases s with
  | zero => simp
  | succ s => simp
theorem pre_step {n : Nfa} {l : List Rx} (h : Pre n l) (r : Rx) (hs : shapesR r = true) (hl : l.length < 16) : Pre (setRule (addFree (makeN r n).1 0 (makeN r n).2.1) (makeN r n).2.2 (l.length : Int)) (l ++ [r]) := by
  obtain ⟨m1, m2, m3⟩ := make_frag r n h.ok hs
  have hk := makeN_k r n
  have hru := makeN_rule r n
  have hok := OkM.makeN r n h.ok
  have hp := sizeR_pos r
  have hsz := sizeL_app [r] l
  simp only [sizeL, Nat.add_zero] at hsz
  rw [makeN_io]
  simp only
  have hsame : ∀ s, s ≠ 0 → SameS (makeN r n).1 (setRule (addFree (makeN r n).1 0 ((kN n : Nat) : Int)) (endOf r (kN n)) (l.length : Int)) s := fun s hs => (addFree_same hs).trans ⟨rfl, rfl, rfl⟩
  have hk0 : kN n = 1 + 2 * sizeL l := h.k
  refine ⟨(hok.addFree 0 _ ⟨by omega, by omega⟩).setRule _ _ ⟨by omega, by omega⟩, ?_, ?_, ?_, fun s i => ?_⟩
  · show kN (makeN r n).1 = _
    rw [hk, hsz, hk0]; omega
  · have := addFree_only (t := kN n) (by rw [hok.lF]; omega) ((m3 0 (by omega)).only h.s0)
    rw [starts_app, ← hk0]
    exact ⟨this.1, this.2⟩
  · refine fragR_app r l 1 (fragR_keep l 1 (fun s h1 h2 => (m3 s (by omega)).trans (hsame s (by omega))) h.fr) ?_ ?_
    · rw [← hk0]; exact frag_keep r _ (fun s h1 h2 => hsame s (by omega)) m1
    · rw [← hk0]; exact (hsame _ (by simp only [endOf]; omega)).only m2
  · have hend : endOf r (kN n) = (endsP (l ++ [r]) 1).getD l.length 0 := by
      rw [endsP_app, List.getD_eq_getElem?_getD, List.getElem?_append_right (by rw [endsP_len]; omega), endsP_len, ← hk0]; simp
    simp only [setRule, addFree, hru, getD_set]
    have hlenR : (n.rule ++ List.replicate (2 * sizeR r) (-1)).length = kN n + 2 * sizeR r := by simp [h.ok.lR]
    rw [hlenR]
    have hold : (n.rule ++ List.replicate (2 * sizeR r) (-1)).getD s (-1) = n.rule.getD s (-1) := by
      simp only [List.getD_eq_getElem?_getD]
      rcases Nat.lt_or_ge s n.rule.length with h' | h'
      · rw [List.getElem?_append_left h']
      · rw [List.getElem?_append_right h', List.getElem?_eq_none h', List.getElem?_replicate]
        split <;> rfl
    rw [hold, endsP_app, ← hk0]
    by_cases hs : endOf r (kN n) = s
    · rw [if_pos ⟨hs, by show kN n + 2 * sizeR r - 1 < _; omega⟩]
      constructor
      · intro e
        have : l.length = i := by omega
        subst this
        rw [List.getElem?_append_right (by rw [endsP_len]; omega), endsP_len, hs]; simp
      · intro e
        rcases Nat.lt_or_ge i l.length with h' | h'
        · rw [List.getElem?_append_left (by rw [endsP_len]; omega)] at e
          have := endsP_rng l 1 s (List.mem_of_getElem? e)
          simp only [endOf] at hs; omega
        · rw [List.getElem?_append_right (by rw [endsP_len]; omega), endsP_len] at e
          cases hx : i - l.length with
          | zero => omega
          | succ m => rw [hx] at e; simp at e
    · rw [if_neg (fun e => hs e.1), h.ru]
      rcases Nat.lt_or_ge i l.length with h' | h'
      · rw [List.getElem?_append_left (by rw [endsP_len]; omega)]
      · rw [List.getElem?_append_right (by rw [endsP_len]; omega), endsP_len, List.getElem?_eq_none (by rw [endsP_len]; omega)]
        cases hx : i - l.length with
        | zero => simpa using hs
        | succ m => simp
theorem build_pre : ∀ (l done : List Rx) (n n' : Nfa), Pre n done → done.length + l.length ≤ 16 → buildFrom done.length l n = some n' → Pre n' (done ++ l) ∧ ∀ r ∈ l, rightR r = true
  | [], done, n, n', h, _, hb => by
    have : n = n' := by simpa [buildFrom] using hb
    subst this
    exact ⟨by simpa using h, by simp⟩
  | r :: l, done, n, n', h, hl, hb => by
    rw [buildFrom] at hb
    split at hb
    · rename_i hr
      have hsh := (sizes (l := [r]) (by simpa using hr) r (by simp)).2
      simp only [List.length_cons] at hl
      have := pre_step h r hsh (by omega)
      have e : done.length + 1 = (done ++ [r]).length := by simp
      rw [e] at hb
      obtain ⟨g1, g2⟩ := build_pre l (done ++ [r]) _ n' this (by simp; omega) hb
      refine ⟨by simpa using g1, fun x hx => ?_⟩
      rcases List.mem_cons.1 hx with rfl | hx
      · exact hr
      · exact g2 x hx
    · cases hb
theorem buildN_pre {l : List Rx} {n : Nfa} (h : buildN l = some n) : Pre n l ∧ ∀ r ∈ l, rightR r = true := by
  unfold buildN at h
  split at h
  · rename_i hl
    exact build_pre l [] _ n pre_zero (by simpa using hl.2) h
  · cases h
end Go.Proofs.W
end
/- The document's machine of expressions is the program's. -/
section
set_option maxHeartbeats 4000000
set_option linter.unusedVariables false
set_option linter.unusedSimpArgs false
namespace Go.Proofs.W
open Go Vm Go.Proofs.Zsb6

theorem addI_same {n : Nfa} {f t s : Nat} (h : s ≠ f) : SameS n (addI n f t) s := by
  refine ⟨rfl, rfl, ?_⟩
  simp only [addI, getD_set]
  rw [if_neg (fun e => h e.1.symm)]
theorem addI_only {n : Nfa} {f t : Nat} {l : List Nat} (hf : f < n.free.length) (h : FreeOnly n f l) (hl : ∀ y ∈ l, y < t) : FreeOnly (addI n f t) f (l ++ [t]) := by
  refine ⟨h.1, ?_⟩
  simp only [addI, getD_set]
  rw [if_pos ⟨trivial, hf⟩, h.2, into_snoc]
  · simp
  · intro y hy
    obtain ⟨z, hz, rfl⟩ := List.mem_map.1 hy
    have := hl z hz
    omega
theorem addI_two {n : Nfa} {f t e : Nat} (hf : f < n.free.length) (h : FreeOnly n f [e]) (hl : t < e) : FreeOnly (addI n f t) f [t, e] := by
  refine ⟨h.1, ?_⟩
  simp only [addI, getD_set]
  rw [if_pos ⟨trivial, hf⟩, h.2]
  simp only [List.map_cons, List.map_nil, intoL]
  rw [if_neg (by omega), if_neg (by omega)]
theorem addI_len (n : Nfa) (f t : Nat) : (addI n f t).free.length = n.free.length := by simp [addI]
/-- states of which nothing is told yet -/
def Fresh (n : Nfa) (a b : Nat) : Prop := ∀ s, a ≤ s → s < b → FreeOnly n s []
theorem Fresh.same {n n' : Nfa} {a b : Nat} (h : Fresh n a b) (g : ∀ s, a ≤ s → s < b → SameS n n' s) : Fresh n' a b := fun s h1 h2 => (g s h1 h2).only (h s h1 h2)
theorem Fresh.sub {n : Nfa} {a b c d : Nat} (h : Fresh n a b) (h1 : a ≤ c) (h2 : d ≤ b) : Fresh n c d := fun s g1 g2 => h s (by omega) (by omega)
theorem layN_len (r : Rx) (a : Nat) (n : Nfa) (h : n.free.length = kN n) (hl : (layN r a n).free.length = n.free.length) : True := trivial
mutual
theorem layN_fl : ∀ (r : Rx) (a : Nat) (n : Nfa), (layN r a n).free.length = n.free.length ∧ (layN r a n).to.length = n.to.length ∧ (layN r a n).rule = n.rule
  | .mk k s l, a, n => by
    rw [layN]
    split
    · simp
    · have h1 := layL_fl k a (a + 2 * sizeL l + 1) l (a + 1) a (if k ≠ 2 ∧ k ≠ 3 then addI n a (a + 2 * sizeL l + 1) else n)
      have h2 : (if k ≠ 2 ∧ k ≠ 3 then addI n a (a + 2 * sizeL l + 1) else n).free.length = n.free.length ∧ (if k ≠ 2 ∧ k ≠ 3 then addI n a (a + 2 * sizeL l + 1) else n).to.length = n.to.length ∧ (if k ≠ 2 ∧ k ≠ 3 then addI n a (a + 2 * sizeL l + 1) else n).rule = n.rule := by
        split
        · exact ⟨addI_len _ _ _, rfl, rfl⟩
        · exact ⟨rfl, rfl, rfl⟩
      generalize (if k ≠ 2 ∧ k ≠ 3 then addI n a (a + 2 * sizeL l + 1) else n) = n0 at h1 h2 ⊢
      split
      · exact ⟨by rw [addI_len, h1.1, h2.1], h1.2.1.trans h2.2.1, h1.2.2.trans h2.2.2⟩
      · exact ⟨h1.1.trans h2.1, h1.2.1.trans h2.2.1, h1.2.2.trans h2.2.2⟩
theorem layL_fl (k : Int) (a en : Nat) : ∀ (l : List Rx) (next last : Nat) (n : Nfa), (layL k a en l next last n).1.free.length = n.free.length ∧ (layL k a en l next last n).1.to.length = n.to.length ∧ (layL k a en l next last n).1.rule = n.rule
  | [], _, _, n => ⟨rfl, rfl, rfl⟩
  | r :: l, next, last, n => by
    simp only [layL]
    obtain ⟨h1, h2, h3⟩ := layL_fl k a en l (next + 2 * sizeR r) (kidW k a en next (next + 2 * sizeR r - 1) last (layN r next n)).2 (kidW k a en next (next + 2 * sizeR r - 1) last (layN r next n)).1
    obtain ⟨g1, g2, g3⟩ := layN_fl r next n
    have hk : ∀ m : Nfa, (kidW k a en next (next + 2 * sizeR r - 1) last m).1.free.length = m.free.length ∧ (kidW k a en next (next + 2 * sizeR r - 1) last m).1.to.length = m.to.length ∧ (kidW k a en next (next + 2 * sizeR r - 1) last m).1.rule = m.rule := fun m => by
      unfold kidW
      split
      · exact ⟨addI_len _ _ _, rfl, rfl⟩
      · split
        · exact ⟨by simp only [addI_len], rfl, rfl⟩
        · exact ⟨by simp only [addI_len], rfl, rfl⟩
    obtain ⟨k1, k2, k3⟩ := hk (layN r next n)
    exact ⟨h1.trans (k1.trans g1), h2.trans (k2.trans g2), h3.trans (k3.trans g3)⟩
end
/-- what laying an expression comes to -/
def LayFrag (r : Rx) : Prop := ∀ (a : Nat) (n : Nfa), n.free.length = kN n → n.to.length = kN n → a + 2 * sizeR r ≤ kN n → Fresh n a (a + 2 * sizeR r) →
  Frag (layN r a n) r a ∧ FreeOnly (layN r a n) (endOf r a) [] ∧ ∀ s, (s < a ∨ a + 2 * sizeR r ≤ s) → SameS n (layN r a n) s
theorem lay_cat (a0 en : Nat) : ∀ (l : List Rx), (∀ r ∈ l, LayFrag r) → ∀ (a last : Nat) (n : Nfa), n.free.length = kN n → n.to.length = kN n → a + 2 * sizeL l ≤ en → en < kN n → last < a → FreeOnly n last [] → Fresh n a (a + 2 * sizeL l) →
    ∀ A0, let x := layL 2 A0 en l a last n
    FreeOnly (addI x.1 x.2 en) last [if l.isEmpty then en else a] ∧ FragL (addI x.1 x.2 en) 2 a0 en l a ∧ ∀ s, s ≠ last → (s < a ∨ a + 2 * sizeL l ≤ s) → SameS n (addI x.1 x.2 en) s
  | [], _, a, last, n, hF, hT, h1, h2, h3, h4, h5, A0 => by
    simp only [layL]
    exact ⟨by simpa using addI_only (t := en) (by omega) h4 (by simp), trivial, fun s hs _ => addI_same hs⟩
  | r :: l, hl, a, last, n, hF, hT, h1, h2, h3, h4, h5, A0 => by
    have hp := sizeR_pos r
    simp only [sizeL] at h1 h5
    obtain ⟨f1, f2, f3⟩ := hl r (by simp) a n hF hT (by omega) (h5.sub (Nat.le_refl _) (by omega))
    obtain ⟨e1, e2, -⟩ := layN_fl r a n
    have ek := layN_k r a n
    have hend : a + 2 * sizeR r - 1 = endOf r a := rfl
    simp only [layL, kidW, if_true, hend]
    have hne : endOf r a ≠ last := by simp only [endOf]; omega
    have s1 : ∀ s, s ≠ last → SameS (layN r a n) (addI (layN r a n) last a) s := fun s hs => addI_same hs
    obtain ⟨g1, g2, g3⟩ := lay_cat a0 en l (fun x hx => hl x (by simp [hx])) (a + 2 * sizeR r) (endOf r a) (addI (layN r a n) last a) (by rw [addI_len, addI_k]; omega) (by rw [addI_k]; show (layN r a n).to.length = _; omega) (by omega) (by rw [addI_k]; omega) (by simp only [endOf]; omega) ((s1 _ hne).only f2)
      ((h5.sub (by omega) (by omega)).same fun s h6 h7 => (f3 s (.inr h6)).trans (s1 s (by omega))) A0
    have hlast := g3 last (Ne.symm hne) (.inl (by omega))
    refine ⟨?_, ⟨frag_keep r a (fun s h6 h7 => (s1 s (by omega)).trans (g3 s (by omega) (.inl (by simp only [endOf] at h7; omega)))) f1, ?_, g2⟩, fun s hs h => ?_⟩
    · have := addI_only (t := a) (l := []) (by omega) ((f3 last (.inl h3)).only h4) (by simp)
      simpa using hlast.only this
    · simpa using g1
    · simp only [sizeL] at h
      exact ((f3 s (by omega)).trans (s1 s hs)).trans (g3 s (by simp only [endOf]; omega) (by omega))
theorem lay_alt (a0 i en : Nat) : ∀ (l : List Rx), (∀ r ∈ l, LayFrag r) → ∀ (a last : Nat) (F : List Nat) (n : Nfa), n.free.length = kN n → n.to.length = kN n → a + 2 * sizeL l ≤ en → en < kN n → i < a → FreeOnly n i F → (∀ y ∈ F, y < a) → Fresh n a (a + 2 * sizeL l) →
    FreeOnly (layL 3 i en l a last n).1 i (F ++ starts l a) ∧ FragL (layL 3 i en l a last n).1 3 a0 en l a ∧ ∀ s, s ≠ i → (s < a ∨ a + 2 * sizeL l ≤ s) → SameS n (layL 3 i en l a last n).1 s
  | [], _, a, last, F, n, hF, hT, h1, h2, h3, h4, _, h5 => by
    simp only [layL, starts, List.append_nil]
    exact ⟨h4, trivial, fun _ _ _ => SameS.refl⟩
  | r :: l, hl, a, last, F, n, hF, hT, h1, h2, h3, h4, hFa, h5 => by
    have hp := sizeR_pos r
    simp only [sizeL] at h1 h5
    obtain ⟨f1, f2, f3⟩ := hl r (by simp) a n hF hT (by omega) (h5.sub (Nat.le_refl _) (by omega))
    obtain ⟨e1, e2, -⟩ := layN_fl r a n
    have ek := layN_k r a n
    have hend : a + 2 * sizeR r - 1 = endOf r a := rfl
    have hne : endOf r a ≠ i := by simp only [endOf]; omega
    have hkw : kidW 3 i en a (a + 2 * sizeR r - 1) last (layN r a n) = (addI (addI (layN r a n) i a) (endOf r a) en, last) := by
      rw [hend, kidW, if_neg (by omega), if_neg (by omega)]
    simp only [layL, hkw]
    have s1 : ∀ s, s ≠ i → SameS (layN r a n) (addI (layN r a n) i a) s := fun s hs => addI_same hs
    have s2 : ∀ s, s ≠ endOf r a → SameS (addI (layN r a n) i a) (addI (addI (layN r a n) i a) (endOf r a) en) s := fun s hs => addI_same hs
    have q1 := addI_only (t := a) (by omega) ((f3 i (.inl h3)).only h4) hFa
    have q2 := (s2 i (Ne.symm hne)).only q1
    have q3 := addI_only (t := en) (l := []) (by rw [addI_len]; simp only [endOf]; omega) ((s1 _ hne).only f2) (by simp)
    obtain ⟨g1, g2, g3⟩ := lay_alt a0 i en l (fun x hx => hl x (by simp [hx])) (a + 2 * sizeR r) last (F ++ [a]) (addI (addI (layN r a n) i a) (endOf r a) en) (by simp only [addI_len, addI_k]; omega) (by simp only [addI_k]; show (layN r a n).to.length = _; omega) (by omega) (by simp only [addI_k]; omega) (by omega) q2
      (fun y hy => by
        rcases List.mem_append.1 hy with hy | hy
        · have := hFa y hy; omega
        · have : y = a := by simpa using hy
          omega)
      ((h5.sub (by omega) (by omega)).same fun s h6 h7 => ((f3 s (.inr h6)).trans (s1 s (by omega))).trans (s2 s (by simp only [endOf]; omega)))
    refine ⟨by simpa [starts] using g1, ⟨frag_keep r a (fun s h6 h7 => ((s1 s (by omega)).trans (s2 s (by omega))).trans (g3 s (by omega) (.inl (by simp only [endOf] at h7; omega)))) f1, ?_, g2⟩, fun s hs h => ?_⟩
    · simpa using (g3 (endOf r a) hne (.inl (by simp only [endOf]; omega))).only q3
    · simp only [sizeL] at h
      exact (((f3 s (by omega)).trans (s1 s hs)).trans (s2 s (by simp only [endOf]; omega))).trans (g3 s hs (by omega))
mutual
theorem lay_frag : ∀ (r : Rx), shapesR r = true → LayFrag r
  | .mk k s l, hs => by
    intro a n hF hT ha hfr
    simp only [shapesR, Bool.and_eq_true] at hs
    obtain ⟨hs1, hsl⟩ := hs
    have hkid := lay_frags l hsl
    have hend := endOf_mk k s l a
    simp only [sizeR] at ha hfr
    have hA : FreeOnly n a [] := hfr a (Nat.le_refl _) (by omega)
    have hE : FreeOnly n (a + 2 * sizeL l + 1) [] := hfr _ (by omega) (by omega)
    have hK : Fresh n (a + 1) (a + 1 + 2 * sizeL l) := hfr.sub (by omega) (by omega)
    simp only [shape1] at hs1
    rw [hend]
    simp only [Frag, hend, sizeR]
    rw [layN]
    generalize hen : a + 2 * sizeL l + 1 = en at *
    have hAE : en ≠ a := by omega
    by_cases hk1 : k = 1
    · subst hk1
      have hl : l = [] := by simp at hs1; exact hs1.1
      subst hl
      simp only [if_true]
      have hget : ∀ x, x ≠ a → SameS n { n with set := n.set.set a s, to := n.to.set a (en : Int) } x := fun x hx => by
        refine ⟨?_, ?_, rfl⟩ <;> simp only [getD_set]
        · rw [if_neg (fun e => hx e.1.symm)]
        · rw [if_neg (fun e => hx e.1.symm)]
      refine ⟨⟨⟨?_, ?_, ?_⟩, trivial⟩, (hget _ hAE).only hE, fun x hx => hget x (by omega)⟩
      · simp only [getD_set]; rw [if_pos ⟨trivial, by simp only [kN] at ha; omega⟩]
      · simp only [getD_set]; rw [if_pos ⟨trivial, by omega⟩]
      · have := hA.2; simpa using this
    rw [if_neg hk1, if_neg hk1]
    simp only
    by_cases h0 : k = 0
    · subst h0
      have hl : l = [] := by simp at hs1; exact hs1.1
      subst hl
      simp only [if_true, layL, if_neg (show ¬ (0 : Int) = 2 by omega), if_pos (show (0 : Int) ≠ 2 ∧ (0 : Int) ≠ 3 by omega)]
      have h1 := addI_only (t := en) (l := []) (by omega) hA (by simp)
      exact ⟨⟨h1, trivial⟩, (addI_same hAE).only hE, fun x hx => addI_same (by omega)⟩
    by_cases hk2 : k = 2
    · subst hk2
      have hne : l ≠ [] := by intro e; subst e; simp at hs1
      have hem : l.isEmpty = false := by cases l with | nil => exact absurd rfl hne | cons x y => rfl
      simp only [if_true, if_neg (show ¬ (2 : Int) = 0 by omega), if_neg (show ¬ ((2 : Int) ≠ 2 ∧ (2 : Int) ≠ 3) by omega)]
      obtain ⟨g1, g2, g3⟩ := lay_cat (a + 1) en l hkid (a + 1) a n hF hT (by omega) (by omega) (by omega) hA hK a
      rw [hem] at g1
      exact ⟨⟨by simpa using g1, g2⟩, (g3 _ hAE (.inr (by omega))).only hE, fun x hx => g3 x (by omega) (by omega)⟩
    rw [if_neg hk2]
    by_cases hk3 : k = 3
    · subst hk3
      simp only [if_true, if_neg (show ¬ (3 : Int) = 0 by omega), if_neg (show ¬ (3 : Int) = 2 by omega), if_neg (show ¬ ((3 : Int) ≠ 2 ∧ (3 : Int) ≠ 3) by omega)]
      obtain ⟨g1, g2, g3⟩ := lay_alt (a + 1) a en l hkid (a + 1) a [] n hF hT (by omega) (by omega) (by omega) hA (by simp) hK
      exact ⟨⟨by simpa using g1, g2⟩, (g3 _ hAE (.inr (by omega))).only hE, fun x hx => g3 x (by omega) (by omega)⟩
    have hk45 : k = 4 ∨ k = 5 := by
      by_cases h : k = 4 ∨ k = 5
      · exact h
      · simp [h0, hk1, show ¬ (k = 2 ∨ k = 3) by omega, h] at hs1
    obtain ⟨z, rfl⟩ : ∃ z, l = [z] := by
      have : l.length = 1 := by
        simp only [h0, hk1, if_false, show ¬ (k = 2 ∨ k = 3) by omega, if_pos hk45, Bool.and_eq_true] at hs1
        simpa using hs1.1
      match l, this with
      | [z], _ => exact ⟨z, rfl⟩
    have hp := sizeR_pos z
    have hz1 : sizeL [z] = sizeR z := by simp [sizeL]
    rw [hz1] at hen hK ha ⊢
    simp only [if_neg h0, if_neg hk2, if_neg hk3, if_pos (show k ≠ 2 ∧ k ≠ 3 from ⟨hk2, hk3⟩)]
    have p1 := addI_only (t := en) (l := []) (by omega) hA (by simp)
    have sA : ∀ s, s ≠ a → SameS n (addI n a en) s := fun s hs => addI_same hs
    obtain ⟨f1, f2, f3⟩ := hkid z (by simp) (a + 1) (addI n a en) (by rw [addI_len, addI_k]; exact hF) hT (by rw [addI_k]; omega) (hK.same fun s h1 h2 => sA s (by omega))
    obtain ⟨e1, e2, -⟩ := layN_fl z (a + 1) (addI n a en)
    rw [addI_len] at e1
    have hnE : endOf z (a + 1) ≠ a := by simp only [endOf]; omega
    have p2 := (f3 a (.inl (by omega))).only p1
    have heq : a + 1 + 2 * sizeR z - 1 = endOf z (a + 1) := rfl
    have fin : ∀ (N' : Nfa), (∀ x, x ≠ a → x ≠ endOf z (a + 1) → SameS (layN z (a + 1) (addI n a en)) N' x) → Frag N' z (a + 1) ∧ FreeOnly N' en [] ∧ ∀ x, (x < a ∨ a + 2 * (sizeR z + 1) ≤ x) → SameS n N' x := fun N' hS =>
      ⟨frag_keep z _ (fun x h1 h2 => hS x (by omega) (by omega)) f1, ((sA _ hAE).trans ((f3 _ (.inr (by omega))).trans (hS _ hAE (by simp only [endOf]; omega)))).only hE, fun x hx => (sA x (by omega)).trans ((f3 x (by omega)).trans (hS x (by omega) (by simp only [endOf]; omega)))⟩
    by_cases h4 : k = 4
    · subst h4
      simp only [layL, kidW, if_neg (show ¬ (4 : Int) = 2 by omega), if_true, heq, if_neg (show ¬ (4 : Int) = 0 by omega), if_neg (show ¬ (4 : Int) = 3 by omega)]
      have r1 := addI_only (t := a + 1) (l := []) (by simp only [endOf]; omega) f2 (by simp)
      have r2 := addI_two (n := addI (layN z (a + 1) (addI n a en)) (endOf z (a + 1)) (a + 1)) (t := a + 1) (by rw [addI_len]; omega) ((addI_same (Ne.symm hnE)).only p2) (by omega)
      have r3 := addI_only (n := addI (addI (layN z (a + 1) (addI n a en)) (endOf z (a + 1)) (a + 1)) a (a + 1)) (t := en) (by simp only [addI_len, endOf]; omega) ((addI_same hnE).only r1) (by simp; omega)
      have r4 := (addI_same (n := addI (addI (layN z (a + 1) (addI n a en)) (endOf z (a + 1)) (a + 1)) a (a + 1)) (f := endOf z (a + 1)) (t := en) (Ne.symm hnE)).only r2
      obtain ⟨k1, k2, k3⟩ := fin (addI (addI (addI (layN z (a + 1) (addI n a en)) (endOf z (a + 1)) (a + 1)) a (a + 1)) (endOf z (a + 1)) en) (fun x h1 h2 => ((addI_same h2).trans (addI_same h1)).trans (addI_same h2))
      exact ⟨⟨r4, k1, by simpa using r3, trivial⟩, k2, k3⟩
    · have h5 : k = 5 := by omega
      subst h5
      simp only [layL, kidW, if_neg (show ¬ (5 : Int) = 2 by omega), if_neg (show ¬ (5 : Int) = 4 by omega), heq, if_neg (show ¬ (5 : Int) = 0 by omega), if_neg (show ¬ (5 : Int) = 3 by omega)]
      have r2 := addI_two (t := a + 1) (by omega) p2 (by omega)
      have r3 := addI_only (n := addI (layN z (a + 1) (addI n a en)) a (a + 1)) (t := en) (l := []) (by simp only [addI_len, endOf]; omega) ((addI_same hnE).only f2) (by simp)
      have r4 := (addI_same (n := addI (layN z (a + 1) (addI n a en)) a (a + 1)) (f := endOf z (a + 1)) (t := en) (Ne.symm hnE)).only r2
      obtain ⟨k1, k2, k3⟩ := fin (addI (addI (layN z (a + 1) (addI n a en)) a (a + 1)) (endOf z (a + 1)) en) (fun x h1 h2 => (addI_same h1).trans (addI_same h2))
      exact ⟨⟨r4, k1, by simpa using r3, trivial⟩, k2, k3⟩
theorem lay_frags : ∀ (l : List Rx), shapesL l = true → ∀ r ∈ l, LayFrag r
  | [], _, r, h => by cases h
  | x :: l, hs, r, h => by
    simp only [shapesL, Bool.and_eq_true] at hs
    rcases List.mem_cons.1 h with e | h
    · rw [e]; exact lay_frag x hs.1
    · exact lay_frags l hs.2 r h
end
end Go.Proofs.W
end
