/- Law of layer 4: MetaLists. -/
import Derived.Test.YtmemmdfjlhamfaaF45
set_option linter.unusedSimpArgs false
set_option linter.unusedVariables false
set_option maxRecDepth 100000
namespace Go.Proofs.Ytmemmdfjlhamfaa
open Go.Proofs
theorem eachR_congr {F G : Nat → Tm × Int} {k : Nat} (h : ∀ i, i < k → F i = G i) : eachR F k = eachR G k := by
  unfold eachR
  rw [firstE_congr h, show outs (fun i => (F i).1) k = outs (fun i => (G i).1) k from List.map_congr_left fun i hi => by rw [h i (by simpa using hi)]]
theorem outs_len (f : Nat → Tm) (n : Nat) : (outs f n).length = n := by simp [outs]
theorem outs_get (f : Nat → Tm) {n i : Nat} (h : i < n) : (outs f n)[i]? = some (f i) := by
  unfold outs
  rw [List.getElem?_map, List.getElem?_range h]; rfl
theorem take_getD (l : List Tm) {k i : Nat} (h : i < k) : (l.take k).getD i default = l.getD i default := by
  rw [List.getD_eq_getElem?_getD, List.getD_eq_getElem?_getD, List.getElem?_take, if_pos h]
theorem lists_plain {l th : List Tm} {n : Int} {k : Nat} (hk : k < l.length) (h : (CtxR l th n).2 = 0) : ∃ F : Nat → Tm × Int, (∀ i, i < l.length → (F i).2 = 0) ∧ CtxR l th n = (outs (fsts F) l.length, 0) ∧ CtxR (l.take k) th n = (outs (fsts F) k, 0) ∧ FillR (l.getD k default) th (n + k) = ((F k).1, 0) ∧ ∀ i, (F i).1.size ≤ 4000 := by
  obtain ⟨h1, h2⟩ := eachR_ok h
  refine ⟨fun i => FillR (l.getD i default) th (n + i), h1, h2, ?_, Prod.ext rfl (h1 k hk), fun i => fillR_size _ _ _⟩
  unfold CtxR
  rw [List.length_take, Nat.min_eq_left (by omega), eachR_congr (G := fun i => FillR (l.getD i default) th (n + i)) fun i hi => by rw [take_getD l hi]]
  exact eachR_all fun i hi => h1 i (by omega)
theorem ctx_not {l th : List Tm} {n : Int} (h : (CtxR l th n).2 ≠ 0) : (CtxR l th n).1 = [] := eachR_not h
def mls_S (A B : List Tm) (k : Int) (i : Nat) : St := mk 135 [(3, dI k), (12, dL A), (14, dL B), (18, dI i)] [] [] []
set_option maxHeartbeats 4000000 in
theorem metaLists_holds (l : List Tm) (wl : ∀ t ∈ l, Wf t) (hsl : (l.map Tm.size).sum + 1 ≤ 1048576) (th : List Tm) (wh : ∀ t ∈ th, Wf t) (hsh : (th.map Tm.size).sum + 1 ≤ 1048576) (n : Int) (jn : in64 n) (k : Int) (jk : in64 k) :
    ∃ h, (lim C).call 8 [dL l, dL th, dI n, dI k] [] = some (.ret (dB true), h) := by
  have hr : room = 1099511627776 := rfl
  obtain ⟨hlr, hzr⟩ := lists_room hsl
  obtain ⟨hlh, hzh⟩ := lists_room hsh
  refine ⟨[], ?_⟩
  rw [ev_fn 8 Try.f8 _ _ _ rfl Try.func8 rfl Try.ntmps8 rfl]
  simp -implicitDefEqProofs (disch := decide +kernel) only [go_sem, ↓reduceIte, Nat.reduceSub, Nat.reduceAdd, Nat.reduceMul, Nat.reduceBEq, Nat.reduceLT, Nat.reduceLeDiff, Nat.reduceEqDiff, reduceCtorEq, Int.reduceToNat, Int.reduceLE, Int.reduceLT, Int.reduceBEq, Int.reduceBNe, mCall, awake4_spec, lights_spec l _ _ hlr hzr, lights_spec th _ _ hlh hzh]
  cases h1 : lightsB l 300 60
  · simp -implicitDefEqProofs (disch := decide +kernel) only [go_sem, ↓reduceIte, Nat.reduceSub, Nat.reduceAdd, Nat.reduceMul, Nat.reduceBEq, Nat.reduceLT, Nat.reduceLeDiff, Nat.reduceEqDiff, reduceCtorEq, Int.reduceToNat, Int.reduceLE, Int.reduceLT, Int.reduceBEq, Int.reduceBNe, mCall, awake4_spec, lights_spec l _ _ hlr hzr, lights_spec th _ _ hlh hzh, h1]
  · skip
    simp -implicitDefEqProofs (disch := decide +kernel) only [go_sem, ↓reduceIte, Nat.reduceSub, Nat.reduceAdd, Nat.reduceMul, Nat.reduceBEq, Nat.reduceLT, Nat.reduceLeDiff, Nat.reduceEqDiff, reduceCtorEq, Int.reduceToNat, Int.reduceLE, Int.reduceLT, Int.reduceBEq, Int.reduceBNe, mCall, awake4_spec, lights_spec l _ _ hlr hzr, lights_spec th _ _ hlh hzh, h1]
    cases h2 : lightsB th 300 60
    · simp -implicitDefEqProofs (disch := decide +kernel) only [go_sem, ↓reduceIte, Nat.reduceSub, Nat.reduceAdd, Nat.reduceMul, Nat.reduceBEq, Nat.reduceLT, Nat.reduceLeDiff, Nat.reduceEqDiff, reduceCtorEq, Int.reduceToNat, Int.reduceLE, Int.reduceLT, Int.reduceBEq, Int.reduceBNe, mCall, awake4_spec, lights_spec l _ _ hlr hzr, lights_spec th _ _ hlh hzh, h2]
    · skip
      simp -implicitDefEqProofs (disch := decide +kernel) only [go_sem, ↓reduceIte, Nat.reduceSub, Nat.reduceAdd, Nat.reduceMul, Nat.reduceBEq, Nat.reduceLT, Nat.reduceLeDiff, Nat.reduceEqDiff, reduceCtorEq, Int.reduceToNat, Int.reduceLE, Int.reduceLT, Int.reduceBEq, Int.reduceBNe, mCall, awake4_spec, lights_spec l _ _ hlr hzr, lights_spec th _ _ hlh hzh, h2]
      cases h3 : decide (n < 0)
      rotate_left
      · simp -implicitDefEqProofs (disch := decide +kernel) only [go_sem, ↓reduceIte, Nat.reduceSub, Nat.reduceAdd, Nat.reduceMul, Nat.reduceBEq, Nat.reduceLT, Nat.reduceLeDiff, Nat.reduceEqDiff, reduceCtorEq, Int.reduceToNat, Int.reduceLE, Int.reduceLT, Int.reduceBEq, Int.reduceBNe, mCall, awake4_spec, lights_spec l _ _ hlr hzr, lights_spec th _ _ hlh hzh, h3]
      simp -implicitDefEqProofs (disch := decide +kernel) only [go_sem, ↓reduceIte, Nat.reduceSub, Nat.reduceAdd, Nat.reduceMul, Nat.reduceBEq, Nat.reduceLT, Nat.reduceLeDiff, Nat.reduceEqDiff, reduceCtorEq, Int.reduceToNat, Int.reduceLE, Int.reduceLT, Int.reduceBEq, Int.reduceBNe, mCall, awake4_spec, lights_spec l _ _ hlr hzr, lights_spec th _ _ hlh hzh, h3]
      cases h4 : decide (n > 100)
      rotate_left
      · simp -implicitDefEqProofs (disch := decide +kernel) only [go_sem, ↓reduceIte, Nat.reduceSub, Nat.reduceAdd, Nat.reduceMul, Nat.reduceBEq, Nat.reduceLT, Nat.reduceLeDiff, Nat.reduceEqDiff, reduceCtorEq, Int.reduceToNat, Int.reduceLE, Int.reduceLT, Int.reduceBEq, Int.reduceBNe, mCall, awake4_spec, lights_spec l _ _ hlr hzr, lights_spec th _ _ hlh hzh, h4]
      simp -implicitDefEqProofs (disch := decide +kernel) only [go_sem, ↓reduceIte, Nat.reduceSub, Nat.reduceAdd, Nat.reduceMul, Nat.reduceBEq, Nat.reduceLT, Nat.reduceLeDiff, Nat.reduceEqDiff, reduceCtorEq, Int.reduceToNat, Int.reduceLE, Int.reduceLT, Int.reduceBEq, Int.reduceBNe, mCall, awake4_spec, lights_spec l _ _ hlr hzr, lights_spec th _ _ hlh hzh, h4]
      cases h5 : decide (k < 0)
      rotate_left
      · simp -implicitDefEqProofs (disch := decide +kernel) only [go_sem, ↓reduceIte, Nat.reduceSub, Nat.reduceAdd, Nat.reduceMul, Nat.reduceBEq, Nat.reduceLT, Nat.reduceLeDiff, Nat.reduceEqDiff, reduceCtorEq, Int.reduceToNat, Int.reduceLE, Int.reduceLT, Int.reduceBEq, Int.reduceBNe, mCall, awake4_spec, lights_spec l _ _ hlr hzr, lights_spec th _ _ hlh hzh, h5]
      simp -implicitDefEqProofs (disch := decide +kernel) only [go_sem, ↓reduceIte, Nat.reduceSub, Nat.reduceAdd, Nat.reduceMul, Nat.reduceBEq, Nat.reduceLT, Nat.reduceLeDiff, Nat.reduceEqDiff, reduceCtorEq, Int.reduceToNat, Int.reduceLE, Int.reduceLT, Int.reduceBEq, Int.reduceBNe, mCall, awake4_spec, lights_spec l _ _ hlr hzr, lights_spec th _ _ hlh hzh, h5]
      have g3 : 0 ≤ n := by simp at h3; omega
      have g4 : n ≤ 100 := by simp at h4; omega
      have g5 : 0 ≤ k := by simp at h5; omega
      have hok := lights_ok h2 hzh
      obtain ⟨hll, hli⟩ := lights_parts h1
      cases h6 : decide (k ≥ (l.length : Int))
      · obtain ⟨kn, rfl⟩ := Int.eq_ofNat_of_zero_le g5
        have hkl : kn < l.length := by simp at h6; omega
        have hlo : LOk 1099511627776 l := ⟨by omega, fun x hx => ⟨by have := sum_mem (List.mem_map_of_mem (f := Tm.size) hx); omega, vle_low (light_low (hli x hx))⟩⟩
        have hlo2 : LOk 1099511627776 (l.take kn) := ⟨by rw [List.length_take]; omega, fun x hx => hlo.all x (List.mem_of_mem_take hx)⟩
        obtain ⟨x1, a1⟩ := mCtx_spec hok l hlo n jn
        obtain ⟨x2, a2⟩ := mCtx_spec hok (l.take kn) hlo2 n jn
        obtain ⟨x3, a3⟩ := mFill_spec hok (l.getD kn default) (hlo.at hkl).1 (hlo.at hkl).2 (n + kn)
        have hw : IntKind.wrap .i64 (n + (kn : Int)) = n + kn := wrap_ok (by omega) (by omega)
        have hle : kn ≤ l.length := by omega
        have htk : (encs l).take kn = encs (l.take kn) := by simp [encs]
        cases he : ((CtxR l th n).2 != 0)
        · have he0 : (CtxR l th n).2 = 0 := by simpa using he
          obtain ⟨F, f0, f1, f2, f3, f4⟩ := lists_plain hkl he0
          have hzF : ∀ i, i < l.length → (F i).1.size < room := fun i hi => by have := f4 i; omega
          rw [f1] at a1
          rw [f2] at a2
          rw [f3] at a3
          have s1 := tsame_spec (F kn).1 (hzF kn hkl) (F kn).1
          rw [sameB_refl] at s1
          have hne : ((l.length : Int) != (l.length : Int)) = false := by simp
          have hnk : ((kn : Int) != (kn : Int)) = false := by simp
          have hek : ((kn : Int) == (kn : Int)) = true := by simp
          have hg := outs_get (fsts F) hkl
          have hloop : (lim C).code 8 (.loop (cf (cf (cs (cf (cs (cs (cs (cs (cs (cs (cs (cs (cs (cs (bodyOf Try.f8)))))))))))))))) (mls_S (outs (fsts F) l.length) (outs (fsts F) kn) kn 0) = some (.exit 0, mk 135 [(3, dI kn), (12, dL (outs (fsts F) l.length)), (14, dL (outs (fsts F) kn)), (18, dI kn), (116, dB false)] [] [] []) := by
            refine loop_run (mls_S (outs (fsts F) l.length) (outs (fsts F) kn) kn) kn (fun i hi => ?_) ?_ (by simp)
            · have s1 := tsame_spec (F i).1 (hzF i (by omega)) (F i).1
              rw [sameB_refl] at s1
              simp -implicitDefEqProofs (disch := decide +kernel) only [cf, cs, bodyOf, Try.f8, Option.getD_some, go_sem, ↓reduceIte, Nat.reduceSub, Nat.reduceAdd, Nat.reduceMul, Nat.reduceBEq, Nat.reduceLT, Nat.reduceLeDiff, Nat.reduceEqDiff, reduceCtorEq, Int.reduceToNat, Int.reduceLE, Int.reduceLT, Int.reduceBEq, Int.reduceBNe, mCall, mls_S, lt_true hi, outs_get (fsts F) hi, outs_get (fsts F) (Nat.lt_trans hi hkl), s1, wrap_succ (n := i) (by omega)]
            · simp -implicitDefEqProofs (disch := decide +kernel) only [cf, cs, bodyOf, Try.f8, Option.getD_some, go_sem, ↓reduceIte, Nat.reduceSub, Nat.reduceAdd, Nat.reduceMul, Nat.reduceBEq, Nat.reduceLT, Nat.reduceLeDiff, Nat.reduceEqDiff, reduceCtorEq, Int.reduceToNat, Int.reduceLE, Int.reduceLT, Int.reduceBEq, Int.reduceBNe, mCall, mls_S, lt_false (Nat.le_refl kn)]
          have hid := same_spec (kn : Int)
          have hil : (idS (kn : Int)).L.length = kn := by
            show (idL (idN (kn : Int)) (idN (kn : Int))).length = kn
            rw [idL_len]; unfold idN
            rw [if_neg (by omega), if_neg (by omega)]; rfl
          simp -implicitDefEqProofs (disch := decide +kernel) only [go_sem, ↓reduceIte, Nat.reduceSub, Nat.reduceAdd, Nat.reduceMul, Nat.reduceBEq, Nat.reduceLT, Nat.reduceLeDiff, Nat.reduceEqDiff, reduceCtorEq, Int.reduceToNat, Int.reduceLE, Int.reduceLT, Int.reduceBEq, Int.reduceBNe, mCall, awake4_spec, h1, h2, h3, h4, h5, h6, hw, htk, hle, Nat.zero_le, encs_all, and_self, a1, a2, a3, he, outs_len, hne, hnk, getD_get hkl, hg, s1, cells_enc, cel3, (enc_eq (F kn).1).symm]
          rw [loop_at hloop ?hb ?hs]
          case hb => rfl
          case hs => rfl
          simp -implicitDefEqProofs (disch := decide +kernel) only [go_sem, ↓reduceIte, Nat.reduceSub, Nat.reduceAdd, Nat.reduceMul, Nat.reduceBEq, Nat.reduceLT, Nat.reduceLeDiff, Nat.reduceEqDiff, reduceCtorEq, Int.reduceToNat, Int.reduceLE, Int.reduceLT, Int.reduceBEq, Int.reduceBNe, mCall, hid, fieldS_L, hil, hek]
        · have hnil : (CtxR l th n).1 = [] := ctx_not fun e => by rw [e] at he; cases he
          rw [hnil] at a1
          generalize CtxR (l.take kn) th n = r2 at a2
          generalize FillR (l.getD kn default) th (n + kn) = r3 at a3
          have h00 : (((0 : Nat) : Int) == 0) = true := rfl
          simp -implicitDefEqProofs (disch := decide +kernel) only [go_sem, ↓reduceIte, Nat.reduceSub, Nat.reduceAdd, Nat.reduceMul, Nat.reduceBEq, Nat.reduceLT, Nat.reduceLeDiff, Nat.reduceEqDiff, reduceCtorEq, Int.reduceToNat, Int.reduceLE, Int.reduceLT, Int.reduceBEq, Int.reduceBNe, mCall, awake4_spec, h1, h2, h3, h4, h5, h6, hw, htk, hle, Nat.zero_le, encs_all, and_self, a1, a2, a3, he, getD_get hkl, List.length_nil, h00, cells_enc, cel3, (enc_eq r3.1).symm]
      · simp -implicitDefEqProofs (disch := decide +kernel) only [go_sem, ↓reduceIte, Nat.reduceSub, Nat.reduceAdd, Nat.reduceMul, Nat.reduceBEq, Nat.reduceLT, Nat.reduceLeDiff, Nat.reduceEqDiff, reduceCtorEq, Int.reduceToNat, Int.reduceLE, Int.reduceLT, Int.reduceBEq, Int.reduceBNe, mCall, awake4_spec, h1, h2, h3, h4, h5, h6]
end Go.Proofs.Ytmemmdfjlhamfaa
