/- Law of layer 4: MetaWhole. -/
import Derived.Test.YtmemmdfjlhamfaaF45
set_option linter.unusedSimpArgs false
set_option linter.unusedVariables false
set_option maxRecDepth 100000
namespace Go.Proofs.Ytmemmdfjlhamfaa
open Go.Proofs
theorem leaf_size (k h : Int) : (Tm.mk k h []).size = 1 := by rw [mk_size]; rfl
theorem leaf_depth (k h : Int) : (Tm.mk k h []).depth = 1 := by rw [depth_eq, mk_args]; rfl
theorem flat_size : ∀ l : List Tm, (∀ x ∈ l, x.size = 1) → (l.map Tm.size).sum = l.length
  | [], _ => rfl
  | x :: l, h => by
    simp only [List.map_cons, List.sum_cons, List.length_cons, h x (by simp), flat_size l fun y hy => h y (by simp [hy])]
    omega
theorem flat_depth : ∀ l : List Tm, (∀ x ∈ l, x.depth = 1) → (l.map Tm.depth).foldr max 0 ≤ 1
  | [], _ => by simp
  | x :: l, h => by
    have := flat_depth l fun y hy => h y (by simp [hy])
    simp only [List.map_cons, List.foldr_cons, h x (by simp)]
    omega
theorem idL_mem {n : Int} {y : Tm} (h : y ∈ (idS n).L) : ∃ i : Int, 0 ≤ i ∧ i ≤ 200 ∧ y = .mk 4 i [] := by
  have := idN_le n
  unfold idS idL at h
  simp only [List.mem_map, List.mem_range] at h
  obtain ⟨j, hj, rfl⟩ := h
  exact ⟨_, by omega, by omega, rfl⟩
theorem idMeta_may {n : Int} (h0 : 0 ≤ n) (h1 : n ≤ 20) : mayB (metaT 0 (idS n).L) = true := by
  have hl : (idS n).L.length ≤ 20 := by
    show (idL (idN n) (idN n)).length ≤ 20
    rw [idL_len]; unfold idN
    rw [if_neg (by omega), if_neg (by omega)]; omega
  refine may_of (nodes_mk (by simp [nodeOk, mk_kind, mk_head]) fun x hx => ?_) ?_ ?_
  · obtain ⟨i, hi, _, rfl⟩ := idL_mem hx
    exact (may_parts (leaf_var hi)).1
  · unfold metaT
    rw [mk_size, flat_size _ fun x hx => by obtain ⟨i, hi, _, rfl⟩ := idL_mem hx; exact leaf_size _ _]
    omega
  · unfold metaT
    rw [depth_eq, mk_args]
    have := flat_depth (idS n).L fun x hx => by obtain ⟨i, hi, _, rfl⟩ := idL_mem hx; exact leaf_depth _ _
    omega
theorem apply_id {x : Tm} (hx : mayB x = true) {n : Int} (h0 : 0 ≤ n) (h1 : n ≤ 20) : applyR x (idS n) = (x, 0) := by
  have hl : (idS n).L.length ≤ 200 := by show (idL (idN n) (idN n)).length ≤ 200; rw [idL_len]; exact idN_le n
  have hm : mapT (fun i _ => i) x ((0 : Nat) : Int) = x := mapT_id (p := fun _ _ => true) (fun _ _ _ => rfl) x _ (canB_true x _)
  have h := apply_ren (s := idS n) (G := fun i _ => i) (P := fun _ _ => true) (t := x) 0 (ren_id n) hx (smay_of hl (by omega) (by have := idN_le n; omega) fun y hy => by obtain ⟨i, hi, _, rfl⟩ := idL_mem hy; exact leaf_var hi) (canB_true x _) (by rw [hm]; exact hx)
  rw [hm] at h
  exact h
theorem idS_sh {n : Int} (h0 : 0 ≤ n) (h1 : n ≤ 20) : idS n = ⟨(idS n).L, n⟩ := by
  have : ((idN n : Nat) : Int) = n := by unfold idN; rw [if_neg (by omega), if_neg (by omega)]; omega
  show (⟨idL (idN n) (idN n), ((idN n : Nat) : Int)⟩ : Sb) = ⟨idL (idN n) (idN n), n⟩
  rw [this]
def mwh_S (x : Tm) (l : List Tm) (n : Int) (i : Nat) : St := mk 121 [(1, dI n), (2, dL l), (3, .lref 3 0), (12, dI i)] [(3, cel3 x)] [] []
set_option maxHeartbeats 4000000 in
theorem metaWhole_holds (x : Tm) (w : Wf x) (hs : x.size ≤ 1048576) (n : Int) (jn : in64 n) (l : List Tm) (wl : ∀ t ∈ l, Wf t) (hsl : (l.map Tm.size).sum + 1 ≤ 1048576) :
    ∃ h, (lim C).call 7 [dT x, dI n, dL l] [] = some (.ret (dB true), h) := by
  have hr : room = 1099511627776 := rfl
  have hs' : x.size < room := by omega
  obtain ⟨hlr, hzr⟩ := lists_room hsl
  refine ⟨[], ?_⟩
  rw [ev_fn 7 Try.f7 _ _ _ rfl Try.func7 rfl Try.ntmps7 rfl]
  simp -implicitDefEqProofs (disch := decide +kernel) only [go_sem, ↓reduceIte, Nat.reduceSub, Nat.reduceAdd, Nat.reduceMul, Nat.reduceBEq, Nat.reduceLT, Nat.reduceLeDiff, Nat.reduceEqDiff, reduceCtorEq, Int.reduceToNat, Int.reduceLE, Int.reduceLT, Int.reduceBEq, Int.reduceBNe, mCall, awake4_spec, light_spec x _ _ hs', lights_spec l _ _ hlr hzr, tMay_spec x hs', cells_enc, cel3, (enc_eq x).symm]
  cases h1 : lightB x 1000 60
  · simp -implicitDefEqProofs (disch := decide +kernel) only [go_sem, ↓reduceIte, Nat.reduceSub, Nat.reduceAdd, Nat.reduceMul, Nat.reduceBEq, Nat.reduceLT, Nat.reduceLeDiff, Nat.reduceEqDiff, reduceCtorEq, Int.reduceToNat, Int.reduceLE, Int.reduceLT, Int.reduceBEq, Int.reduceBNe, mCall, awake4_spec, light_spec x _ _ hs', lights_spec l _ _ hlr hzr, tMay_spec x hs', cells_enc, cel3, (enc_eq x).symm, h1]
  · skip
    simp -implicitDefEqProofs (disch := decide +kernel) only [go_sem, ↓reduceIte, Nat.reduceSub, Nat.reduceAdd, Nat.reduceMul, Nat.reduceBEq, Nat.reduceLT, Nat.reduceLeDiff, Nat.reduceEqDiff, reduceCtorEq, Int.reduceToNat, Int.reduceLE, Int.reduceLT, Int.reduceBEq, Int.reduceBNe, mCall, awake4_spec, light_spec x _ _ hs', lights_spec l _ _ hlr hzr, tMay_spec x hs', cells_enc, cel3, (enc_eq x).symm, h1]
    cases h2 : lightsB l 300 60
    · simp -implicitDefEqProofs (disch := decide +kernel) only [go_sem, ↓reduceIte, Nat.reduceSub, Nat.reduceAdd, Nat.reduceMul, Nat.reduceBEq, Nat.reduceLT, Nat.reduceLeDiff, Nat.reduceEqDiff, reduceCtorEq, Int.reduceToNat, Int.reduceLE, Int.reduceLT, Int.reduceBEq, Int.reduceBNe, mCall, awake4_spec, light_spec x _ _ hs', lights_spec l _ _ hlr hzr, tMay_spec x hs', cells_enc, cel3, (enc_eq x).symm, h2]
    · skip
      simp -implicitDefEqProofs (disch := decide +kernel) only [go_sem, ↓reduceIte, Nat.reduceSub, Nat.reduceAdd, Nat.reduceMul, Nat.reduceBEq, Nat.reduceLT, Nat.reduceLeDiff, Nat.reduceEqDiff, reduceCtorEq, Int.reduceToNat, Int.reduceLE, Int.reduceLT, Int.reduceBEq, Int.reduceBNe, mCall, awake4_spec, light_spec x _ _ hs', lights_spec l _ _ hlr hzr, tMay_spec x hs', cells_enc, cel3, (enc_eq x).symm, h2]
      cases h3 : mayB x
      · simp -implicitDefEqProofs (disch := decide +kernel) only [go_sem, ↓reduceIte, Nat.reduceSub, Nat.reduceAdd, Nat.reduceMul, Nat.reduceBEq, Nat.reduceLT, Nat.reduceLeDiff, Nat.reduceEqDiff, reduceCtorEq, Int.reduceToNat, Int.reduceLE, Int.reduceLT, Int.reduceBEq, Int.reduceBNe, mCall, awake4_spec, light_spec x _ _ hs', lights_spec l _ _ hlr hzr, tMay_spec x hs', cells_enc, cel3, (enc_eq x).symm, h3]
      · skip
        simp -implicitDefEqProofs (disch := decide +kernel) only [go_sem, ↓reduceIte, Nat.reduceSub, Nat.reduceAdd, Nat.reduceMul, Nat.reduceBEq, Nat.reduceLT, Nat.reduceLeDiff, Nat.reduceEqDiff, reduceCtorEq, Int.reduceToNat, Int.reduceLE, Int.reduceLT, Int.reduceBEq, Int.reduceBNe, mCall, awake4_spec, light_spec x _ _ hs', lights_spec l _ _ hlr hzr, tMay_spec x hs', cells_enc, cel3, (enc_eq x).symm, h3]
        cases h4 : decide (n < 0)
        rotate_left
        · simp -implicitDefEqProofs (disch := decide +kernel) only [go_sem, ↓reduceIte, Nat.reduceSub, Nat.reduceAdd, Nat.reduceMul, Nat.reduceBEq, Nat.reduceLT, Nat.reduceLeDiff, Nat.reduceEqDiff, reduceCtorEq, Int.reduceToNat, Int.reduceLE, Int.reduceLT, Int.reduceBEq, Int.reduceBNe, mCall, awake4_spec, light_spec x _ _ hs', lights_spec l _ _ hlr hzr, tMay_spec x hs', cells_enc, cel3, (enc_eq x).symm, h4]
        simp -implicitDefEqProofs (disch := decide +kernel) only [go_sem, ↓reduceIte, Nat.reduceSub, Nat.reduceAdd, Nat.reduceMul, Nat.reduceBEq, Nat.reduceLT, Nat.reduceLeDiff, Nat.reduceEqDiff, reduceCtorEq, Int.reduceToNat, Int.reduceLE, Int.reduceLT, Int.reduceBEq, Int.reduceBNe, mCall, awake4_spec, light_spec x _ _ hs', lights_spec l _ _ hlr hzr, tMay_spec x hs', cells_enc, cel3, (enc_eq x).symm, h4]
        cases h5 : decide (n > 20)
        rotate_left
        · simp -implicitDefEqProofs (disch := decide +kernel) only [go_sem, ↓reduceIte, Nat.reduceSub, Nat.reduceAdd, Nat.reduceMul, Nat.reduceBEq, Nat.reduceLT, Nat.reduceLeDiff, Nat.reduceEqDiff, reduceCtorEq, Int.reduceToNat, Int.reduceLE, Int.reduceLT, Int.reduceBEq, Int.reduceBNe, mCall, awake4_spec, light_spec x _ _ hs', lights_spec l _ _ hlr hzr, tMay_spec x hs', cells_enc, cel3, (enc_eq x).symm, h5]
        simp -implicitDefEqProofs (disch := decide +kernel) only [go_sem, ↓reduceIte, Nat.reduceSub, Nat.reduceAdd, Nat.reduceMul, Nat.reduceBEq, Nat.reduceLT, Nat.reduceLeDiff, Nat.reduceEqDiff, reduceCtorEq, Int.reduceToNat, Int.reduceLE, Int.reduceLT, Int.reduceBEq, Int.reduceBNe, mCall, awake4_spec, light_spec x _ _ hs', lights_spec l _ _ hlr hzr, tMay_spec x hs', cells_enc, cel3, (enc_eq x).symm, h5]
        have g4 : 0 ≤ n := by simp at h4; omega
        have g5 : n ≤ 20 := by simp at h5; omega
        obtain ⟨hll, hli⟩ := lights_parts h2
        have hv := vle_low (light_low h1)
        have hok : ThOk 1099511627776 [x] := ⟨by omega, by decide, by simp; omega, by simp; exact ⟨hs', hv⟩⟩
        have hid := same_spec n
        have him := idMeta_may g4 g5
        have hims := (may_parts him).2.1
        obtain ⟨x1, a1⟩ := mFill_spec hok (metaT 0 (idS n).L) (by omega) (vle_mk (fun h => by omega) fun y hy => by
          obtain ⟨i, hi, hi2, rfl⟩ := idL_mem hy
          exact vle_var (by omega)) n
        rw [fillR_meta h3 g4 (by omega) him (fun y hy => by obtain ⟨i, hi, _, rfl⟩ := idL_mem hy; exact metas_leaf (by omega)) (fun y hy => by obtain ⟨i, hi, _, rfl⟩ := idL_mem hy; exact leaf_var hi), ← idS_sh g4 g5, apply_id h3 g4 g5] at a1
        have hem : Dv.agg [.int .i64 6, .int .i64 0, .slc (encs (idS n).L)] = enc (metaT 0 (idS n).L) := tm_enc 6 0 _
        have s1 := tsame_spec x hs' x
        rw [sameB_refl] at s1
        have a1 : (lim C).call 24 [dT (metaT 0 (idS n).L), .d (.slc [enc x]), dI n] [] = some (.ret (.tup [dT x, dI 0]), x1) := a1
        generalize hids : idS n = id at a1 hid hem him
        simp -implicitDefEqProofs (disch := decide +kernel) only [go_sem, ↓reduceIte, Nat.reduceSub, Nat.reduceAdd, Nat.reduceMul, Nat.reduceBEq, Nat.reduceLT, Nat.reduceLeDiff, Nat.reduceEqDiff, reduceCtorEq, Int.reduceToNat, Int.reduceLE, Int.reduceLT, Int.reduceBEq, Int.reduceBNe, mCall, cells_enc, cel3, (enc_eq x).symm, h5, hid, fieldS_L, hem, a1, s1]
        have hloop : (lim C).code 7 (.loop (cf (cf (cs (cf (cs (cs (cs (cs (cs (cs (cs (bodyOf Try.f7))))))))))))) (mwh_S x l n 0) = some (if allB l.length (fun k => !metasB (l.getD k default) && mayB (l.getD k default) && !decide ((l.length : Int) > 20)) then (.exit 0, mk 121 [(1, dI n), (2, dL l), (3, .lref 3 0), (12, dI l.length), (70, dB false)] [(3, cel3 x)] [] []) else (.ret, mk 121 [(6, dB true)] [] [] [])) := by
          refine loop_all (mwh_S x l n) l.length _ (fun k hk hp => ?_) (fun k hk hp => ?_) ?_ (by simp) (by simp)
          · have hc := tMay_spec (l.getD k default) (hzr _ (getD_mem hk))
            have hm := metas_spec (l.getD k default) (hzr _ (getD_mem hk))
            simp only [Bool.and_eq_true, Bool.not_eq_true'] at hp
            rw [hp.1.2] at hc
            rw [hp.1.1] at hm
            have hq := hp.2
            simp -implicitDefEqProofs (disch := decide +kernel) only [cf, cs, bodyOf, Try.f7, Option.getD_some, go_sem, ↓reduceIte, Nat.reduceSub, Nat.reduceAdd, Nat.reduceMul, Nat.reduceBEq, Nat.reduceLT, Nat.reduceLeDiff, Nat.reduceEqDiff, reduceCtorEq, Int.reduceToNat, Int.reduceLE, Int.reduceLT, Int.reduceBEq, Int.reduceBNe, mCall, mwh_S, cel3, lt_true hk, getD_get hk, hc, hm, hq, wrap_succ (n := k) (by omega)]
          · have hc := tMay_spec (l.getD k default) (hzr _ (getD_mem hk))
            have hm := metas_spec (l.getD k default) (hzr _ (getD_mem hk))
            cases p1 : metasB (l.getD k default)
            · cases p2 : mayB (l.getD k default)
              · rw [p1] at hm
                rw [p2] at hc
                simp -implicitDefEqProofs (disch := decide +kernel) only [cf, cs, bodyOf, Try.f7, Option.getD_some, go_sem, ↓reduceIte, Nat.reduceSub, Nat.reduceAdd, Nat.reduceMul, Nat.reduceBEq, Nat.reduceLT, Nat.reduceLeDiff, Nat.reduceEqDiff, reduceCtorEq, Int.reduceToNat, Int.reduceLE, Int.reduceLT, Int.reduceBEq, Int.reduceBNe, mCall, mwh_S, cel3, lt_true hk, getD_get hk, hc, hm]
              · rw [p1] at hm hp
                rw [p2] at hc hp
                have hq : decide ((l.length : Int) > 20) = true := by simpa using hp
                simp -implicitDefEqProofs (disch := decide +kernel) only [cf, cs, bodyOf, Try.f7, Option.getD_some, go_sem, ↓reduceIte, Nat.reduceSub, Nat.reduceAdd, Nat.reduceMul, Nat.reduceBEq, Nat.reduceLT, Nat.reduceLeDiff, Nat.reduceEqDiff, reduceCtorEq, Int.reduceToNat, Int.reduceLE, Int.reduceLT, Int.reduceBEq, Int.reduceBNe, mCall, mwh_S, cel3, lt_true hk, getD_get hk, hc, hm, hq]
            · rw [p1] at hm
              simp -implicitDefEqProofs (disch := decide +kernel) only [cf, cs, bodyOf, Try.f7, Option.getD_some, go_sem, ↓reduceIte, Nat.reduceSub, Nat.reduceAdd, Nat.reduceMul, Nat.reduceBEq, Nat.reduceLT, Nat.reduceLeDiff, Nat.reduceEqDiff, reduceCtorEq, Int.reduceToNat, Int.reduceLE, Int.reduceLT, Int.reduceBEq, Int.reduceBNe, mCall, mwh_S, cel3, lt_true hk, getD_get hk, hc, hm]
          · simp -implicitDefEqProofs (disch := decide +kernel) only [cf, cs, bodyOf, Try.f7, Option.getD_some, go_sem, ↓reduceIte, Nat.reduceSub, Nat.reduceAdd, Nat.reduceMul, Nat.reduceBEq, Nat.reduceLT, Nat.reduceLeDiff, Nat.reduceEqDiff, reduceCtorEq, Int.reduceToNat, Int.reduceLE, Int.reduceLT, Int.reduceBEq, Int.reduceBNe, mCall, mwh_S, cel3, lt_false (Nat.le_refl l.length)]
        rw [loop_at hloop ?hb ?hs]
        case hb => rfl
        case hs => rfl
        cases hall : allB l.length fun k => !metasB (l.getD k default) && mayB (l.getD k default) && !decide ((l.length : Int) > 20)
        · simp -implicitDefEqProofs (disch := decide +kernel) only [go_sem, ↓reduceIte, Nat.reduceSub, Nat.reduceAdd, Nat.reduceMul, Nat.reduceBEq, Nat.reduceLT, Nat.reduceLeDiff, Nat.reduceEqDiff, reduceCtorEq, Int.reduceToNat, Int.reduceLE, Int.reduceLT, Int.reduceBEq, Int.reduceBNe, mCall, hall]
        · have hall' := (allB_iff _ _).1 hall
          simp only [Bool.and_eq_true, Bool.not_eq_true'] at hall'
          have hmt : ∀ y ∈ l, metasB y = false := getD_all fun k hk => (hall' k hk).1.1
          have hmy : ∀ y ∈ l, mayB y = true := getD_all fun k hk => (hall' k hk).1.2
          have hwz : (metaT 0 l).size ≤ 1048576 := by unfold metaT; rw [mk_size]; omega
          have hwm := tMay_spec (metaT 0 l) (by omega)
          have hew : Dv.agg [.int .i64 6, .int .i64 0, .slc (encs l)] = enc (metaT 0 l) := tm_enc 6 0 _
          cases hmw : mayB (metaT 0 l)
          · rw [hmw] at hwm
            simp -implicitDefEqProofs (disch := decide +kernel) only [go_sem, ↓reduceIte, Nat.reduceSub, Nat.reduceAdd, Nat.reduceMul, Nat.reduceBEq, Nat.reduceLT, Nat.reduceLeDiff, Nat.reduceEqDiff, reduceCtorEq, Int.reduceToNat, Int.reduceLE, Int.reduceLT, Int.reduceBEq, Int.reduceBNe, mCall, hall, cells_enc, cel3, (enc_eq x).symm, hew, hwm]
          · rw [hmw] at hwm
            have hvl : ∀ y ∈ l, vleB 1099511627776 y = true := fun y hy => vle_low (light_low (hli y hy))
            obtain ⟨x2, a2⟩ := mFill_spec hok (metaT 0 l) hwz (vle_mk (fun h => by omega) hvl) n
            rw [fillR_meta h3 g4 (by omega) hmw hmt hmy] at a2
            have a2 : (lim C).call 24 [dT (metaT 0 l), .d (.slc [enc x]), dI n] [] = some (.ret (.tup [dT (applyR x ⟨l, n⟩).1, dI (applyR x ⟨l, n⟩).2]), x2) := a2
            obtain ⟨x3, a3⟩ := sapply_spec x ⟨l, n⟩ hs' hzr hlr (vle_mono (by decide) hv) (fun y hy => vle_mono (by decide) (hvl y hy))
            have hus := (may_parts (applyR_may x ⟨l, n⟩)).2.1
            have hes := encS_mk l n
            generalize applyR x ⟨l, n⟩ = rr at a2 a3 hus
            have s2 := tsame_spec rr.1 (by omega) rr.1
            rw [sameB_refl] at s2
            have hee : (rr.2 == rr.2) = true := by simp
            have hem : cel3 (metaT 0 l) = [dI 6, dI 0, dL l] := rfl
            simp -implicitDefEqProofs (disch := decide +kernel) only [go_sem, ↓reduceIte, Nat.reduceSub, Nat.reduceAdd, Nat.reduceMul, Nat.reduceBEq, Nat.reduceLT, Nat.reduceLeDiff, Nat.reduceEqDiff, reduceCtorEq, Int.reduceToNat, Int.reduceLE, Int.reduceLT, Int.reduceBEq, Int.reduceBNe, mCall, hall, cells_enc, hem, (enc_eq x).symm, cel3, hew, hwm, hes, a2, a3, hee, s2, (enc_eq rr.1).symm]
end Go.Proofs.Ytmemmdfjlhamfaa
