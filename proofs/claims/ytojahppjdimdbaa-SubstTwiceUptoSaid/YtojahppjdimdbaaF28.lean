/- Laws of layer 3: SubstUp, SubstWeakens. -/
import Derived.Test.YtojahppjdimdbaaF27
set_option linter.unusedSimpArgs false
set_option linter.unusedVariables false
set_option maxRecDepth 100000
namespace Go.Proofs.Ytojahppjdimdbaa
open Go.Proofs
theorem below_sh (s : Sb) (d : Nat) : (below_n s d).sh = s.sh + d := by
  induction d with
  | zero => simp [below_n]
  | succ d ih => simp only [below_n, underS, ih]; omega
theorem ren_all {s : Sb} (hs : 0 ≤ s.sh) {G : Int → Int → Int} {P : Int → Int → Bool} (h0 : ∀ i, 0 ≤ i → P i 0 = true → ofS s i = .mk 4 (G i 0) []) (hG0 : ∀ d : Nat, G 0 ((d + 1 : Nat) : Int) = 0)
    (hGs : ∀ (i : Int) (d : Nat), 0 ≤ i → P (i + 1) ((d + 1 : Nat) : Int) = true → P i d = true ∧ G (i + 1) ((d + 1 : Nat) : Int) = G i d + 1) (hGn : ∀ (i : Int) (d : Nat), 0 ≤ i → P i d = true → 0 ≤ G i d) :
    ∀ (d : Nat) (i : Int), 0 ≤ i → P i d = true → ofS (below_n s d) i = .mk 4 (G i d) []
  | 0, i, hi, hp => h0 i hi hp
  | d + 1, i, hi, hp => by
    rcases Int.lt_or_le 0 i with h1 | h1
    · obtain ⟨q1, q2⟩ := hGs (i - 1) d (by omega) (by rw [show i - 1 + 1 = i by omega]; exact hp)
      have := of_under (below_n s d) (i := i - 1) (by omega) (by rw [below_sh]; omega)
      rw [show i - 1 + 1 = i by omega] at this q2
      rw [below_n, this, ren_all hs h0 hG0 hGs hGn d (i - 1) (by omega) q1, up_var _ _ (hGn _ _ (by omega) q1), q2]
    · obtain rfl : i = 0 := by omega
      rw [below_n, of_under0, hG0]; rfl
theorem apply_ren {s : Sb} {G : Int → Int → Int} {P : Int → Int → Bool} {t : Tm} (d : Nat) (hH : ∀ (d : Nat) (i : Int), 0 ≤ i → P i d = true → ofS (below_n s d) i = .mk 4 (G i d) []) (ht : mayB t = true) (hS : smayB (below_n s d) = true)
    (hc : canB P t d = true) (hm : mayB (mapT G t d) = true) : applyR t (below_n s d) = (mapT G t d, 0) := by
  obtain ⟨p1, p2, p3⟩ := may_parts ht
  unfold applyR
  rw [ht, hS, Bool.and_self, if_pos rfl, ap_ren hH t p1 40000 d 0 hc (by omega) (by omega)]
  simp only [outD, hm, if_true]
theorem ren_up (b : Int) (hb : 0 ≤ b) : ∀ (d : Nat) (i : Int), 0 ≤ i → (fun _ _ => true : Int → Int → Bool) i d = true → ofS (below_n ⟨[], b⟩ d) i = .mk 4 (gUp b i d) [] := by
  refine ren_all (G := gUp b) (P := fun _ _ => true) hb (fun i hi _ => ?_) (fun d => ?_) (fun i d hi _ => ⟨rfl, ?_⟩) (fun i d hi _ => ?_)
  · unfold ofS gUp
    rw [if_neg (by simp; omega), if_pos (by omega)]
    simp
  · unfold gUp; rw [if_neg (by omega)]
  · unfold gUp; split <;> split <;> omega
  · unfold gUp; split <;> omega
theorem ren_dn (x : Tm) : ∀ (d : Nat) (i : Int), 0 ≤ i → pDn 1 i d = true → ofS (below_n ⟨[x], 0⟩ d) i = .mk 4 (gDn 1 i d) [] := by
  refine ren_all (G := gDn 1) (P := pDn 1) (by simp) (fun i hi hp => ?_) (fun d => ?_) (fun i d hi hp => ⟨?_, ?_⟩) (fun i d hi hp => ?_)
  · simp only [pDn, Bool.or_eq_true, decide_eq_true_eq] at hp
    unfold ofS gDn
    rw [if_neg (by simp; omega), if_neg (by omega)]
    simp
  · unfold gDn; rw [if_pos (by omega)]
  · simp only [pDn, Bool.or_eq_true, decide_eq_true_eq] at hp ⊢; omega
  · simp only [pDn, Bool.or_eq_true, decide_eq_true_eq] at hp
    unfold gDn; split <;> split <;> omega
  · simp only [pDn, Bool.or_eq_true, decide_eq_true_eq] at hp
    unfold gDn; split <;> omega
theorem ofS_id (n : Int) {i : Int} (h : 0 ≤ i) : ofS (idS n) i = .mk 4 i [] := by
  unfold ofS idS
  simp only [idL_len]
  split
  · rename_i hi
    rw [List.getD_eq_getElem?_getD]
    unfold idL
    rw [List.getElem?_map, List.getElem?_range (by omega)]
    simp only [Option.map_some, Option.getD_some]
    congr 1; omega
  · congr 1; omega
theorem ren_id (n : Int) : ∀ (d : Nat) (i : Int), 0 ≤ i → (fun _ _ => true : Int → Int → Bool) i d = true → ofS (below_n (idS n) d) i = .mk 4 ((fun i _ => i : Int → Int → Int) i d) [] := by
  refine ren_all (G := fun i _ => i) (P := fun _ _ => true) (by unfold idS; simp) (fun i hi _ => ofS_id n hi) (fun d => rfl) (fun i d hi _ => ⟨rfl, rfl⟩) (fun i d hi _ => hi)
theorem subst_room {t : Tm} {s : Sb} (ht : t.size < room) (h : smayB s = true) : (∀ x ∈ s.L, x.size < room) ∧ s.L.length < room := by
  have hr : room = 1099511627776 := rfl
  obtain ⟨h1, h2, h3, h4⟩ := smay_parts h
  exact ⟨fun x hx => by have := (may_parts (h4 x hx)).2.1; omega, by omega⟩
theorem substUp_holds (t : Tm) (w : Wf t) (hs : t.size ≤ 1048576) (b : Int) (jb : in64 b) : ∃ h, (lim C).call 14 [dT t, dI b] [] = some (.ret (dB true), h) := by
  have hr : room = 1099511627776 := rfl
  have hs : t.size < room := by omega
  refine ⟨[], ?_⟩
  rw [ev_fn 14 Try.f14 _ _ _ rfl Try.func14 rfl Try.ntmps14 rfl]
  cases h1 : lightB t 1000 60
  · simp -implicitDefEqProofs (disch := decide +kernel) only [go_sem, ↓reduceIte, Nat.reduceSub, Nat.reduceAdd, Nat.reduceMul, Nat.reduceBEq, Nat.reduceLT, Nat.reduceLeDiff, Nat.reduceEqDiff, reduceCtorEq, Int.reduceToNat, Int.reduceLE, Int.reduceLT, Int.reduceBEq, Int.reduceBNe, mCall, awake3_spec, light_spec t _ _ hs, tMay_spec t hs, h1]
  · skip
    cases h2 : mayB t
    · simp -implicitDefEqProofs (disch := decide +kernel) only [go_sem, ↓reduceIte, Nat.reduceSub, Nat.reduceAdd, Nat.reduceMul, Nat.reduceBEq, Nat.reduceLT, Nat.reduceLeDiff, Nat.reduceEqDiff, reduceCtorEq, Int.reduceToNat, Int.reduceLE, Int.reduceLT, Int.reduceBEq, Int.reduceBNe, mCall, awake3_spec, light_spec t _ _ hs, tMay_spec t hs, h1, h2]
    · skip
      cases h3 : decide (b < 0)
      rotate_left
      · simp -implicitDefEqProofs (disch := decide +kernel) only [go_sem, ↓reduceIte, Nat.reduceSub, Nat.reduceAdd, Nat.reduceMul, Nat.reduceBEq, Nat.reduceLT, Nat.reduceLeDiff, Nat.reduceEqDiff, reduceCtorEq, Int.reduceToNat, Int.reduceLE, Int.reduceLT, Int.reduceBEq, Int.reduceBNe, mCall, awake3_spec, light_spec t _ _ hs, tMay_spec t hs, h1, h2, h3]
      cases h4 : decide (b > 1000)
      rotate_left
      · simp -implicitDefEqProofs (disch := decide +kernel) only [go_sem, ↓reduceIte, Nat.reduceSub, Nat.reduceAdd, Nat.reduceMul, Nat.reduceBEq, Nat.reduceLT, Nat.reduceLeDiff, Nat.reduceEqDiff, reduceCtorEq, Int.reduceToNat, Int.reduceLE, Int.reduceLT, Int.reduceBEq, Int.reduceBNe, mCall, awake3_spec, light_spec t _ _ hs, tMay_spec t hs, h1, h2, h3, h4]
      have g3 : 0 ≤ b := by simp at h3; omega
      have g4 : b ≤ 1000 := by simp at h4; omega
      have hv := vle_low (light_low h1)
      have hv' : vleB topV t = true := vle_mono (by decide) hv
      have hsm : smayB ⟨[], b⟩ = true := smay_of (by simp) g3 (by omega) (by simp)
      have hsu := smay_under hsm (by simp) (by simp; omega)
      have hu := under_spec ⟨[], b⟩ (by simp) (by simp; omega) ⟨g3, by simp; omega⟩
      have hvu := vle_under (s := ⟨[], b⟩) (c := 0) (d := topV) (by simp) (by decide) (by decide)
      obtain ⟨r1, r2⟩ := subst_room hs hsu
      obtain ⟨x1, a1⟩ := sapply_spec t ⟨[], b⟩ hs (by simp) (by simp; omega) hv' (by simp)
      obtain ⟨x2, a2⟩ := sapply_spec t (underS ⟨[], b⟩) hs r1 r2 hv' hvu
      have e1 := apply_ren (t := t) 0 (ren_up b g3) h2 hsm (canB_true t _) (up_may h2 g3 _)
      have e2 := apply_ren (t := t) 1 (ren_up b g3) h2 hsu (canB_true t _) (up_may h2 g3 _)
      have e1 : applyR t ⟨[], b⟩ = (upT t b 0, 0) := e1
      have e2 : applyR t (underS ⟨[], b⟩) = (upT t b 1, 0) := e2
      rw [e1] at a1
      rw [e2] at a2
      obtain ⟨x3, a3⟩ := sup_spec t hs (vlow_low (light_low h1)) b 0
      obtain ⟨x4, a4⟩ := sup_spec t hs (vlow_low (light_low h1)) b 1
      rw [if_pos (ren_of h2 g3 (by omega) (by omega) (by omega))] at a3 a4
      have s1 := tsame_spec (upT t b 0) (by rw [mapT_size]; exact hs) (upT t b 0)
      have s2 := tsame_spec (upT t b 1) (by rw [mapT_size]; exact hs) (upT t b 1)
      rw [sameB_refl] at s1 s2
      have hes : Dv.agg [.slc [], .int .i64 b] = encS ⟨[], b⟩ := rfl
      simp -implicitDefEqProofs (disch := decide +kernel) only [go_sem, ↓reduceIte, Nat.reduceSub, Nat.reduceAdd, Nat.reduceMul, Nat.reduceBEq, Nat.reduceLT, Nat.reduceLeDiff, Nat.reduceEqDiff, reduceCtorEq, Int.reduceToNat, Int.reduceLE, Int.reduceLT, Int.reduceBEq, Int.reduceBNe, mCall, awake3_spec, light_spec t _ _ hs, tMay_spec t hs, h1, h2, h3, h4, hes, cells_enc, cel3, hu, a1, a2, a3, a4, s1, s2, (enc_eq t).symm, (enc_eq (upT t b 0)).symm, (enc_eq (upT t b 1)).symm]
theorem substWeakens_holds (t : Tm) (w : Wf t) (hs : t.size ≤ 1048576) (x : Tm) (wx : Wf x) (hx : x.size ≤ 1048576) (n : Int) (jn : in64 n) : ∃ h, (lim C).call 11 [dT t, dT x, dI n] [] = some (.ret (dB true), h) := by
  have hr : room = 1099511627776 := rfl
  have hs : t.size < room := by omega
  have hx : x.size < room := by omega
  refine ⟨[], ?_⟩
  rw [ev_fn 11 Try.f11 _ _ _ rfl Try.func11 rfl Try.ntmps11 rfl]
  cases h1 : lightB t 1000 60
  · simp -implicitDefEqProofs (disch := decide +kernel) only [go_sem, ↓reduceIte, Nat.reduceSub, Nat.reduceAdd, Nat.reduceMul, Nat.reduceBEq, Nat.reduceLT, Nat.reduceLeDiff, Nat.reduceEqDiff, reduceCtorEq, Int.reduceToNat, Int.reduceLE, Int.reduceLT, Int.reduceBEq, Int.reduceBNe, mCall, awake3_spec, light_spec t _ _ hs, light_spec x _ _ hx, tMay_spec t hs, tMay_spec x hx, h1]
  · skip
    cases h2 : lightB x 1000 60
    · simp -implicitDefEqProofs (disch := decide +kernel) only [go_sem, ↓reduceIte, Nat.reduceSub, Nat.reduceAdd, Nat.reduceMul, Nat.reduceBEq, Nat.reduceLT, Nat.reduceLeDiff, Nat.reduceEqDiff, reduceCtorEq, Int.reduceToNat, Int.reduceLE, Int.reduceLT, Int.reduceBEq, Int.reduceBNe, mCall, awake3_spec, light_spec t _ _ hs, light_spec x _ _ hx, tMay_spec t hs, tMay_spec x hx, h1, h2]
    · skip
      cases h3 : mayB t
      · simp -implicitDefEqProofs (disch := decide +kernel) only [go_sem, ↓reduceIte, Nat.reduceSub, Nat.reduceAdd, Nat.reduceMul, Nat.reduceBEq, Nat.reduceLT, Nat.reduceLeDiff, Nat.reduceEqDiff, reduceCtorEq, Int.reduceToNat, Int.reduceLE, Int.reduceLT, Int.reduceBEq, Int.reduceBNe, mCall, awake3_spec, light_spec t _ _ hs, light_spec x _ _ hx, tMay_spec t hs, tMay_spec x hx, h1, h2, h3]
      · skip
        cases h4 : mayB x
        · simp -implicitDefEqProofs (disch := decide +kernel) only [go_sem, ↓reduceIte, Nat.reduceSub, Nat.reduceAdd, Nat.reduceMul, Nat.reduceBEq, Nat.reduceLT, Nat.reduceLeDiff, Nat.reduceEqDiff, reduceCtorEq, Int.reduceToNat, Int.reduceLE, Int.reduceLT, Int.reduceBEq, Int.reduceBNe, mCall, awake3_spec, light_spec t _ _ hs, light_spec x _ _ hx, tMay_spec t hs, tMay_spec x hx, h1, h2, h3, h4]
        · skip
          cases h5 : decide (n < 0)
          rotate_left
          · simp -implicitDefEqProofs (disch := decide +kernel) only [go_sem, ↓reduceIte, Nat.reduceSub, Nat.reduceAdd, Nat.reduceMul, Nat.reduceBEq, Nat.reduceLT, Nat.reduceLeDiff, Nat.reduceEqDiff, reduceCtorEq, Int.reduceToNat, Int.reduceLE, Int.reduceLT, Int.reduceBEq, Int.reduceBNe, mCall, awake3_spec, light_spec t _ _ hs, light_spec x _ _ hx, tMay_spec t hs, tMay_spec x hx, h1, h2, h3, h4, h5]
          cases h6 : decide (n > 20)
          rotate_left
          · simp -implicitDefEqProofs (disch := decide +kernel) only [go_sem, ↓reduceIte, Nat.reduceSub, Nat.reduceAdd, Nat.reduceMul, Nat.reduceBEq, Nat.reduceLT, Nat.reduceLeDiff, Nat.reduceEqDiff, reduceCtorEq, Int.reduceToNat, Int.reduceLE, Int.reduceLT, Int.reduceBEq, Int.reduceBNe, mCall, awake3_spec, light_spec t _ _ hs, light_spec x _ _ hx, tMay_spec t hs, tMay_spec x hx, h1, h2, h3, h4, h5, h6]
          have g5 : 0 ≤ n := by simp at h5; omega
          have g6 : n ≤ 20 := by simp at h6; omega
          have hv := vle_low (light_low h1)
          have hvx := vle_low (light_low h2)
          have hv' : vleB topV t = true := vle_mono (by decide) hv
          obtain ⟨x1, a1⟩ := sup_spec t hs (vlow_low (light_low h1)) 1 0
          rw [if_pos (ren_of h3 (by omega) (by omega) (by omega) (by omega))] at a1
          have hsm : smayB ⟨[x], 0⟩ = true := smay_of (by simp) (by simp) (by simp) (by simpa using h4)
          have hid := same_spec n
          have hsi : smayB (idS n) = true := by
            have := idN_le n
            refine smay_of (by rw [idL_len]; omega) (by omega) (by omega) fun y hy => ?_
            unfold idL at hy
            simp only [List.mem_map, List.mem_range] at hy
            obtain ⟨j, hj, rfl⟩ := hy
            exact leaf_var (by omega)
          have hvi : ∀ y ∈ (idS n).L, vleB topV y = true := fun y hy => by
            have := idN_le n
            unfold idS idL at hy
            simp only [List.mem_map, List.mem_range] at hy
            obtain ⟨j, hj, rfl⟩ := hy
            exact vle_var (by show _ ≤ (1125899906842624 : Int); omega)
          obtain ⟨r1, r2⟩ := subst_room hs hsi
          have hup := up_may h3 (b := 1) (by omega) 0
          obtain ⟨x2, a2⟩ := sapply_spec (upT t 1 0) ⟨[x], 0⟩ (by rw [mapT_size]; exact hs) (by simpa using hx) (by simp; omega) (vle_mono (by decide) (vle_up hv (by omega) 0)) (by simpa using vle_mono (by decide) hvx)
          obtain ⟨x3, a3⟩ := sapply_spec t (idS n) hs r1 r2 hv' hvi
          have e1 : applyR (upT t 1 0) ⟨[x], 0⟩ = (dnT (upT t 1 0) 1 0, 0) := apply_ren (t := upT t 1 0) 0 (ren_dn x) hup hsm (dn_up_can t (by omega) 0) (by show mayB (dnT (upT t 1 0) 1 0) = true; rw [dn_up t (by omega) 0]; exact h3)
          rw [dn_up t (by omega) 0] at e1
          have hidm : mapT (fun i _ => i) t (0 : Nat) = t := mapT_id (p := fun _ _ => true) (fun x m _ => rfl) t _ (canB_true t _)
          have e2 : applyR t (idS n) = (mapT (fun i _ => i) t (0 : Nat), 0) := apply_ren (t := t) 0 (ren_id n) h3 hsi (canB_true t _) (by rw [hidm]; exact h3)
          rw [hidm] at e2
          rw [e1] at a2
          rw [e2] at a3
          have s1 := tsame_spec t hs t
          rw [sameB_refl] at s1
          have hes : Dv.agg [.slc [enc x], .int .i64 0] = encS ⟨[x], 0⟩ := rfl
          simp -implicitDefEqProofs (disch := decide +kernel) only [go_sem, ↓reduceIte, Nat.reduceSub, Nat.reduceAdd, Nat.reduceMul, Nat.reduceBEq, Nat.reduceLT, Nat.reduceLeDiff, Nat.reduceEqDiff, reduceCtorEq, Int.reduceToNat, Int.reduceLE, Int.reduceLT, Int.reduceBEq, Int.reduceBNe, mCall, awake3_spec, light_spec t _ _ hs, light_spec x _ _ hx, tMay_spec t hs, tMay_spec x hx, h1, h2, h3, h4, h5, h6, hes, cells_enc, cel3, hid, a1, a2, a3, s1, (enc_eq t).symm, (enc_eq x).symm, (enc_eq (upT t 1 0)).symm]
end Go.Proofs.Ytojahppjdimdbaa
