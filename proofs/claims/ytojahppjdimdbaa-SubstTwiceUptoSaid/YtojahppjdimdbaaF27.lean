/- Laws of layer 3: SubstUnder, SubstUp, SubstWeakens. -/
import Derived.Test.YtojahppjdimdbaaF26
set_option linter.unusedSimpArgs false
set_option linter.unusedVariables false
set_option maxRecDepth 100000
namespace Go.Proofs.Ytojahppjdimdbaa
open Go.Proofs
theorem encS_mk (l : List Tm) (n : Int) : Dv.agg [.slc (encs l), .int .i64 n] = encS ⟨l, n⟩ := rfl
theorem cells_mkS (l : List Tm) (n : Int) : AV.cells (.d (encS ⟨l, n⟩)) = [dL l, dI n] := rfl
theorem smay_of {l : List Tm} {n : Int} (h1 : l.length ≤ 200) (h2 : 0 ≤ n) (h3 : n ≤ 1048576) (h4 : ∀ x ∈ l, mayB x = true) : smayB ⟨l, n⟩ = true := by
  unfold smayB
  have := maysB_iff.2 h4
  simp [this, h2, h3]
  omega
theorem smay_under {s : Sb} (h : smayB s = true) (hl : s.L.length + 1 ≤ 200) (hs : s.sh + 1 ≤ 1048576) : smayB (underS s) = true := by
  obtain ⟨h1, h2, h3, h4⟩ := smay_parts h
  refine smay_of (by simp; omega) (by omega) (by omega) fun x hx => ?_
  simp only [List.mem_append, List.mem_map, List.mem_singleton] at hx
  rcases hx with ⟨y, hy, rfl⟩ | rfl
  · exact up_may (h4 y hy) (by omega) 0
  · exact may_var0
theorem vle_under {s : Sb} {c d : Int} (h : ∀ x ∈ s.L, vleB c x = true) (hc : 0 ≤ c) (hd : c + 1 ≤ d) : ∀ x ∈ (underS s).L, vleB d x = true := by
  intro x hx
  simp only [underS, List.mem_append, List.mem_map, List.mem_singleton] at hx
  rcases hx with ⟨y, hy, rfl⟩ | rfl
  · exact vle_mono hd (vle_up (h y hy) (by omega) 0)
  · exact vle_var (by omega)
theorem ofS_may {s : Sb} (h : smayB s = true) {i : Int} (h0 : 0 ≤ i) : mayB (ofS s i) = true := by
  obtain ⟨h1, h2, h3, h4⟩ := smay_parts h
  unfold ofS
  split
  · exact h4 _ (getD_mem (by omega))
  · exact leaf_var (by omega)
theorem apply_var {s : Sb} (h : smayB s = true) {i : Int} (h0 : 0 ≤ i) : applyR (.mk 4 i []) s = (ofS s i, 0) := by
  unfold applyR
  rw [leaf_var h0, h, Bool.and_self, if_pos rfl, show (40000 : Nat) = 39999 + 1 from rfl, ap_leaf _ _ _ _ _ (by decide), if_pos rfl]
  simp only [outD, ofS_may h h0, if_true]
theorem light_size {t : Tm} {s d : Int} (h : lightB t s d = true) : (t.size : Int) ≤ s ∧ (t.depth : Int) ≤ d := by
  unfold lightB at h
  simp only [Bool.and_eq_true, decide_eq_true_eq] at h
  exact ⟨h.1.2, h.2⟩
theorem lists_room {l : List Tm} (hs : (l.map Tm.size).sum + 1 ≤ 1048576) : l.length < room ∧ ∀ x ∈ l, x.size < room := by
  have hr : room = 1099511627776 := rfl
  have := len_sum l
  refine ⟨by omega, fun x hx => ?_⟩
  have := sum_mem (List.mem_map_of_mem (f := Tm.size) hx)
  omega
def und_L (l : List Tm) (n i : Int) (k : Nat) : St := mk 102 [(0, dL l), (1, dI n), (2, dI i), (9, dI k)] [] [] []
theorem substUnder_holds (l : List Tm) (w : ∀ t ∈ l, Wf t) (hs : (l.map Tm.size).sum + 1 ≤ 1048576) (n : Int) (jn : in64 n) (i : Int) (ji : in64 i) : ∃ h, (lim C).call 13 [dL l, dI n, dI i] [] = some (.ret (dB true), h) := by
  have hr : room = 1099511627776 := rfl
  obtain ⟨hlr, hzr⟩ := lists_room hs
  refine ⟨[], ?_⟩
  rw [ev_fn 13 Try.f13 _ _ _ rfl Try.func13 rfl Try.ntmps13 rfl]
  cases h1 : lightsB l 300 60
  · simp -implicitDefEqProofs (disch := decide +kernel) only [go_sem, ↓reduceIte, Nat.reduceSub, Nat.reduceAdd, Nat.reduceMul, Nat.reduceBEq, Nat.reduceLT, Nat.reduceLeDiff, Nat.reduceEqDiff, reduceCtorEq, Int.reduceToNat, Int.reduceLE, Int.reduceLT, Int.reduceBEq, Int.reduceBNe, mCall, awake3_spec, lights_spec l _ _ hlr hzr, h1]
  · skip
    cases h2 : decide (n < 0)
    rotate_left
    · simp -implicitDefEqProofs (disch := decide +kernel) only [go_sem, ↓reduceIte, Nat.reduceSub, Nat.reduceAdd, Nat.reduceMul, Nat.reduceBEq, Nat.reduceLT, Nat.reduceLeDiff, Nat.reduceEqDiff, reduceCtorEq, Int.reduceToNat, Int.reduceLE, Int.reduceLT, Int.reduceBEq, Int.reduceBNe, mCall, awake3_spec, lights_spec l _ _ hlr hzr, h1, h2]
    cases h3 : decide (n > 1000)
    rotate_left
    · simp -implicitDefEqProofs (disch := decide +kernel) only [go_sem, ↓reduceIte, Nat.reduceSub, Nat.reduceAdd, Nat.reduceMul, Nat.reduceBEq, Nat.reduceLT, Nat.reduceLeDiff, Nat.reduceEqDiff, reduceCtorEq, Int.reduceToNat, Int.reduceLE, Int.reduceLT, Int.reduceBEq, Int.reduceBNe, mCall, awake3_spec, lights_spec l _ _ hlr hzr, h1, h2, h3]
    cases h4 : decide (i < 0)
    rotate_left
    · simp -implicitDefEqProofs (disch := decide +kernel) only [go_sem, ↓reduceIte, Nat.reduceSub, Nat.reduceAdd, Nat.reduceMul, Nat.reduceBEq, Nat.reduceLT, Nat.reduceLeDiff, Nat.reduceEqDiff, reduceCtorEq, Int.reduceToNat, Int.reduceLE, Int.reduceLT, Int.reduceBEq, Int.reduceBNe, mCall, awake3_spec, lights_spec l _ _ hlr hzr, h1, h2, h3, h4]
    cases h5 : decide (i > 100)
    rotate_left
    · simp -implicitDefEqProofs (disch := decide +kernel) only [go_sem, ↓reduceIte, Nat.reduceSub, Nat.reduceAdd, Nat.reduceMul, Nat.reduceBEq, Nat.reduceLT, Nat.reduceLeDiff, Nat.reduceEqDiff, reduceCtorEq, Int.reduceToNat, Int.reduceLE, Int.reduceLT, Int.reduceBEq, Int.reduceBNe, mCall, awake3_spec, lights_spec l _ _ hlr hzr, h1, h2, h3, h4, h5]
    have g2 : 0 ≤ n := by simp at h2; omega
    have g3 : n ≤ 1000 := by simp at h3; omega
    have g4 : 0 ≤ i := by simp at h4; omega
    have g5 : i ≤ 100 := by simp at h5; omega
    obtain ⟨hlen, hli⟩ := lights_parts h1
    have hloop : (lim C).code 13 (.loop (cf (cf (cs (cf (cs (cs (cs (cs (bodyOf Try.f13)))))))))) (und_L l n i 0) = some (if allB l.length (fun k => mayB (l.getD k default)) then (.exit 0, mk 102 [(0, dL l), (1, dI n), (2, dI i), (9, dI l.length), (46, dB false)] [] [] []) else (.ret, mk 102 [(6, dB true)] [] [] [])) := by
      refine loop_all (und_L l n i) l.length _ (fun k hk hp => ?_) (fun k hk hp => ?_) ?_ (by simp) (by simp)
      · have hc := tMay_spec (l.getD k default) (hzr _ (getD_mem hk))
        rw [hp] at hc
        simp -implicitDefEqProofs (disch := decide +kernel) only [cf, cs, bodyOf, Try.f13, Option.getD_some, go_sem, ↓reduceIte, Nat.reduceSub, Nat.reduceAdd, Nat.reduceMul, Nat.reduceBEq, Nat.reduceLT, Nat.reduceLeDiff, Nat.reduceEqDiff, reduceCtorEq, Int.reduceToNat, Int.reduceLE, Int.reduceLT, Int.reduceBEq, Int.reduceBNe, mCall, und_L, lt_true hk, getD_get hk, hc, wrap_succ (n := k) (by omega)]
      · have hc := tMay_spec (l.getD k default) (hzr _ (getD_mem hk))
        rw [hp] at hc
        simp -implicitDefEqProofs (disch := decide +kernel) only [cf, cs, bodyOf, Try.f13, Option.getD_some, go_sem, ↓reduceIte, Nat.reduceSub, Nat.reduceAdd, Nat.reduceMul, Nat.reduceBEq, Nat.reduceLT, Nat.reduceLeDiff, Nat.reduceEqDiff, reduceCtorEq, Int.reduceToNat, Int.reduceLE, Int.reduceLT, Int.reduceBEq, Int.reduceBNe, mCall, und_L, lt_true hk, getD_get hk, hc]
      · simp -implicitDefEqProofs (disch := decide +kernel) only [cf, cs, bodyOf, Try.f13, Option.getD_some, go_sem, ↓reduceIte, Nat.reduceSub, Nat.reduceAdd, Nat.reduceMul, Nat.reduceBEq, Nat.reduceLT, Nat.reduceLeDiff, Nat.reduceEqDiff, reduceCtorEq, Int.reduceToNat, Int.reduceLE, Int.reduceLT, Int.reduceBEq, Int.reduceBNe, mCall, und_L, lt_false (Nat.le_refl l.length)]
    simp -implicitDefEqProofs (disch := decide +kernel) only [go_sem, ↓reduceIte, Nat.reduceSub, Nat.reduceAdd, Nat.reduceMul, Nat.reduceBEq, Nat.reduceLT, Nat.reduceLeDiff, Nat.reduceEqDiff, reduceCtorEq, Int.reduceToNat, Int.reduceLE, Int.reduceLT, Int.reduceBEq, Int.reduceBNe, mCall, awake3_spec, lights_spec l _ _ hlr hzr, h1, h2, h3, h4, h5]
    rw [loop_at hloop ?hb ?hs]
    case hb => rfl
    case hs => rfl
    cases hall : allB l.length fun k => mayB (l.getD k default)
    · simp -implicitDefEqProofs (disch := decide +kernel) only [go_sem, ↓reduceIte, Nat.reduceSub, Nat.reduceAdd, Nat.reduceMul, Nat.reduceBEq, Nat.reduceLT, Nat.reduceLeDiff, Nat.reduceEqDiff, reduceCtorEq, Int.reduceToNat, Int.reduceLE, Int.reduceLT, Int.reduceBEq, Int.reduceBNe, mCall, hall]
    · have hm : ∀ x ∈ l, mayB x = true := getD_all ((allB_iff _ _).1 hall)
      have hv : ∀ x ∈ l, vleB 1099511627776 x = true := fun x hx => vle_low (light_low (hli x hx))
      have hsm : smayB ⟨l, n⟩ = true := smay_of (by omega) g2 (by omega) hm
      have hsu := smay_under hsm (by simp; omega) (by simp; omega)
      have hvu := vle_under (s := ⟨l, n⟩) (d := topV) hv (by decide) (by decide)
      have hzu : ∀ x ∈ (underS ⟨l, n⟩).L, x.size < room := fun x hx => by have := (may_parts ((smay_parts hsu).2.2.2 x hx)).2.1; omega
      have hlu : (underS ⟨l, n⟩).L.length < room := by rw [under_len]; simp; omega
      have hu := under_spec ⟨l, n⟩ (fun x hx => ⟨hm x hx, vle_mono (by omega) (hv x hx)⟩) hlr ⟨g2, by simp; omega⟩
      have hw : IntKind.wrap .i64 (i + 1) = i + 1 := wrap_ok (by omega) (by omega)
      have hlz : ∀ j : Int, (Tm.mk 4 j []).size < room := fun j => by rw [mk_size]; simp; omega
      obtain ⟨x1, a1⟩ := sapply_spec (.mk 4 0 []) (underS ⟨l, n⟩) (hlz _) hzu hlu (vle_var (by decide)) hvu
      obtain ⟨x2, a2⟩ := sapply_spec (.mk 4 (i + 1) []) (underS ⟨l, n⟩) (hlz _) hzu hlu (vle_var (by show i + 1 ≤ 1125899906842624; omega)) hvu
      obtain ⟨x3, a3⟩ := sapply_spec (.mk 4 i []) ⟨l, n⟩ (hlz _) hzr hlr (vle_var (by show i ≤ 1125899906842624; omega)) (fun x hx => vle_mono (by decide) (hv x hx))
      rw [apply_var hsu (by omega), of_under0] at a1
      rw [apply_var hsu (by omega), of_under ⟨l, n⟩ g4 g2] at a2
      rw [apply_var hsm g4] at a3
      have hom := ofS_may hsm g4
      have hosz := (may_parts hom).2.1
      have hov := (of_ok (H := 1099511627776 + 1000000) (K := 100) (D := n) (s := ⟨l, n⟩) ⟨hm, fun x hx => vle_mono (by omega) (hv x hx), g2⟩ g4 g5 (by simp; omega) (by omega)).2.1
      obtain ⟨x4, a4⟩ := sup_spec (ofS ⟨l, n⟩ i) (by omega) (vle_mono (by omega) hov) 1 0
      rw [show renB (ofS ⟨l, n⟩ i) 1 0 = true by unfold renB; rw [hom]; rfl, if_pos rfl] at a4
      have s1 := tsame_spec var0 (hlz 0) (.mk 4 0 [])
      rw [show sameB var0 (.mk 4 0 []) = true from sameB_refl _] at s1
      have s2 := tsame_spec (upT (ofS ⟨l, n⟩ i) 1 0) (by rw [mapT_size]; omega) (upT (ofS ⟨l, n⟩ i) 1 0)
      rw [sameB_refl] at s2
      simp -implicitDefEqProofs (disch := decide +kernel) only [go_sem, ↓reduceIte, Nat.reduceSub, Nat.reduceAdd, Nat.reduceMul, Nat.reduceBEq, Nat.reduceLT, Nat.reduceLeDiff, Nat.reduceEqDiff, reduceCtorEq, Int.reduceToNat, Int.reduceLE, Int.reduceLT, Int.reduceBEq, Int.reduceBNe, mCall, hall, encS_mk, cells_mkS, cells_enc, cel3, v_enc, hu, hw, a1, a2, a3, a4, s1, s2, (enc_eq var0).symm, (enc_eq (ofS ⟨l, n⟩ i)).symm, (enc_eq (upT (ofS ⟨l, n⟩ i) 1 0)).symm]
end Go.Proofs.Ytojahppjdimdbaa
