/- The laws of layer 12: MetasSizes. -/
import Derived.Test.YtkmpfdecjmnccaaB4
set_option linter.unusedSimpArgs false
set_option linter.unusedVariables false
set_option maxRecDepth 100000
namespace Go.Proofs.Ytkmpfdecjmnccaa
open Go.Proofs
theorem few12_spec (ms : List Md) (hm : msum ms + 1 ≤ 1048576) : (lim C).call 9 [dMs ms] [] = retB (fewW ⟨[], ms, []⟩) := by
  have h := fewW_spec ⟨[], ms, []⟩ (wsz_of (by simp [dsum]) hm (by simp))
  have h : (lim C).call 8 [.d (.slc []), dMs ms, .d (.slc [])] [] = retB (fewW ⟨[], ms, []⟩) := h
  rw [ev_fn 9 Try.f9 _ _ _ rfl Try.func9 rfl Try.ntmps9 rfl]
  simp -implicitDefEqProofs (disch := decide +kernel) only [go_sem, ↓reduceIte, Nat.reduceSub, Nat.reduceAdd, Nat.reduceMul, Nat.reduceBEq, Nat.reduceLT, Nat.reduceLeDiff, Nat.reduceEqDiff, reduceCtorEq, Int.reduceToNat, Int.reduceLE, Int.reduceLT, Int.reduceBEq, Int.reduceBNe, mCall, h]
theorem encBs_get {ns : List Bool} {i : Nat} (hi : i < ns.length) : (encBs ns)[i]? = some (.bool (ns.getD i false)) := by
  unfold encBs
  rw [List.getElem?_map, List.getElem?_eq_getElem hi, List.getD_eq_getElem?_getD, List.getElem?_eq_getElem hi]; rfl
theorem wid_bool (n : Bool) : (Dv.bool n).width = 1 := rfl
theorem cel_bool (n : Bool) : (Dv.bool n).cells = [.bool n] := rfl
def ms_S (l : List Md) (A : List Int) (P : List Bool) (B : List Int) (T : List (Option Nat)) (i : Nat) : St := mk 116 [(0, dMs l), (7, .d (.slc (encIs A))), (8, .d (.slc (encBs P))), (9, .d (.slc (encIs B))), (10, dI i)] [] [] T
set_option maxHeartbeats 4000000 in
theorem metasSizes_holds (l : List Md) (wl : ∀ t ∈ l, WfM t) (hl : msum l + 1 ≤ 1048576) (m : Md) (wm : WfM m) (hm : mdsz m ≤ 1048576) :
    ∃ h, (lim C).call 6 [dMs l, dM m] [] = some (.ret (dB true), h) := by
  have hr : room = 1099511627776 := rfl
  have hln := msum_len l
  have hA := awake12_spec
  have hF := few12_spec l hl
  refine ⟨[], ?_⟩
  rw [ev_fn 6 Try.f6 _ _ _ rfl Try.func6 rfl Try.ntmps6 rfl]
  simp -implicitDefEqProofs (disch := decide +kernel) only [go_sem, ↓reduceIte, Nat.reduceSub, Nat.reduceAdd, Nat.reduceMul, Nat.reduceBEq, Nat.reduceLT, Nat.reduceLeDiff, Nat.reduceEqDiff, reduceCtorEq, Int.reduceToNat, Int.reduceLE, Int.reduceLT, Int.reduceBEq, Int.reduceBNe, mCall, hA, hF, cells_encM]
  cases k1 : fewW ⟨[], l, []⟩
  · simp -implicitDefEqProofs (disch := decide +kernel) only [go_sem, ↓reduceIte, Nat.reduceSub, Nat.reduceAdd, Nat.reduceMul, Nat.reduceBEq, Nat.reduceLT, Nat.reduceLeDiff, Nat.reduceEqDiff, reduceCtorEq, Int.reduceToNat, Int.reduceLE, Int.reduceLT, Int.reduceBEq, Int.reduceBNe, mCall, hA, hF, cells_encM, k1]
  · skip
    simp -implicitDefEqProofs (disch := decide +kernel) only [go_sem, ↓reduceIte, Nat.reduceSub, Nat.reduceAdd, Nat.reduceMul, Nat.reduceBEq, Nat.reduceLT, Nat.reduceLeDiff, Nat.reduceEqDiff, reduceCtorEq, Int.reduceToNat, Int.reduceLE, Int.reduceLT, Int.reduceBEq, Int.reduceBNe, mCall, hA, hF, cells_encM, k1]
    have c1 := mSizes_spec (l ++ [m]) (by simp; omega)
    have c2 := mParams_spec (l ++ [m]) (by simp; omega)
    have c3 := mSizes_spec l (by omega)
    have c1 : (lim C).call 21 [.d (.slc (encMs l ++ [encM m]))] [] = some (.ret (.d (.slc (encIs (SizesL (l ++ [m]))))), []) := by
      have c1 : (lim C).call 21 [.d (.slc (encMs (l ++ [m])))] [] = some (.ret (.d (.slc (encIs (SizesL (l ++ [m]))))), []) := c1
      rw [encMs_append] at c1; exact c1
    have c2 : (lim C).call 22 [.d (.slc (encMs l ++ [encM m]))] [] = some (.ret (.d (.slc (encBs (ParamsL (l ++ [m]))))), []) := by
      have c2 : (lim C).call 22 [.d (.slc (encMs (l ++ [m])))] [] = some (.ret (.d (.slc (encBs (ParamsL (l ++ [m]))))), []) := c2
      rw [encMs_append] at c2; exact c2
    have A1 : (SizesL (l ++ [m])).length = l.length + 1 := by simp [SizesL]
    have P1 : (ParamsL (l ++ [m])).length = l.length + 1 := by simp [ParamsL]
    have B1 : (SizesL l).length = l.length := by simp [SizesL]
    have A2 : (SizesL (l ++ [m])).getD l.length 0 = (m.ctx.length : Int) := by simp [SizesL, List.getD]
    have P2 : (ParamsL (l ++ [m])).getD l.length false = m.param := by simp [ParamsL, List.getD]
    have A3 : ∀ i, i < l.length → (SizesL (l ++ [m])).getD i 0 = ((l.getD i default).ctx.length : Int) := fun i hi => by
      simp [SizesL, List.getD, List.getElem?_append_left, hi]
    have P3 : ∀ i, i < l.length → (ParamsL (l ++ [m])).getD i false = (l.getD i default).param := fun i hi => by
      simp [ParamsL, List.getD, List.getElem?_append_left, hi]
    have B3 : ∀ i, i < l.length → (SizesL l).getD i 0 = ((l.getD i default).ctx.length : Int) := fun i hi => by
      simp [SizesL, List.getD, hi]
    generalize SizesL (l ++ [m]) = A at *
    generalize ParamsL (l ++ [m]) = P at *
    generalize SizesL l = B at *
    have a1 := fun locs heap => app_gen (encMs l) 5 rfl [] locs heap (by rw [encMs_length]; omega) (encMs_all _)
    have a2 := fun locs heap => app_gen2 (encMs l) [encM m] 5 rfl [] locs heap (by rw [encMs_length]; simp; omega) (encMs_all _) rfl
    have a3 := fun locs heap => app_gen (encMs l) 5 rfl (tkA [] (encMs l ++ [encM m]).length) locs heap (by rw [encMs_length]; omega) (encMs_all _)
    have a4 := fun locs heap => app_gen2 (encMs l) [encM m] 5 rfl (tkA [] (encMs l ++ [encM m]).length) locs heap (by rw [encMs_length]; simp; omega) (encMs_all _) rfl
    simp only [encMs_length] at a1 a2 a3 a4
    generalize tkA [] (encMs l ++ [encM m]).length = tk at a2 a3 a4
    generalize tkA tk (encMs l ++ [encM m]).length = tk2 at a4
    have hae := fun t xs => acc_erase t xs
    have hap := fun t xs => acc_pure' t xs
    have hak := fun t xs => acc_keep t xs
    simp only [List.length_nil] at a1 a2
    have hem := encM_fold m
    have hs : ∀ i, i < l.length → (lim C).code 6 (cf (.loop (cf (cf (cs (cf (cs (cs (cs (cs (cs (cs (cs (cs (bodyOf Try.f6))))))))))))))) (ms_S l A P B tk2 i) = some (.nor, ms_S l A P B tk2 (i + 1)) := fun i hi => by
      have g1 := encIs_get (ns := A) (i := i) (by omega)
      have g2 := encBs_get (ns := P) (i := i) (by omega)
      have g3 := encIs_get (ns := B) (i := i) (by omega)
      rw [A3 i hi] at g1
      rw [P3 i hi] at g2
      rw [B3 i hi] at g3
      have hiA : i < (encIs A).length := by rw [encIs_len]; omega
      simp -implicitDefEqProofs (disch := decide +kernel) only [cf, cs, bodyOf, Try.f6, Option.getD_some, go_sem, ↓reduceIte, Nat.reduceSub, Nat.reduceAdd, Nat.reduceMul, Nat.reduceBEq, Nat.reduceLT, Nat.reduceLeDiff, Nat.reduceEqDiff, reduceCtorEq, Int.reduceToNat, Int.reduceLE, Int.reduceLT, Int.reduceBEq, Int.reduceBNe, mCall, ms_S, lt_true hi, mget_get hi, cells_encM, g1, g2, g3, encIs_len, encBs_len, A1, P1, B1, encIs_all, encBs_all, wid_int, cel_int, wid_bool, cel_bool, bne_self_eq_false, wrap_succ (n := i) (by omega)]
    have hloop : (lim C).code 6 (.loop (cf (cf (cs (cf (cs (cs (cs (cs (cs (cs (cs (cs (bodyOf Try.f6)))))))))))))) (ms_S l A P B tk2 0) = some (.exit 0, mk 116 [(0, dMs l), (7, .d (.slc (encIs A))), (8, .d (.slc (encBs P))), (9, .d (.slc (encIs B))), (10, dI l.length), (79, dB false)] [] [] tk2) := by
      refine loop_run (ms_S l A P B tk2) l.length hs ?_ (by simp)
      simp -implicitDefEqProofs (disch := decide +kernel) only [cf, cs, bodyOf, Try.f6, Option.getD_some, go_sem, ↓reduceIte, Nat.reduceSub, Nat.reduceAdd, Nat.reduceMul, Nat.reduceBEq, Nat.reduceLT, Nat.reduceLeDiff, Nat.reduceEqDiff, reduceCtorEq, Int.reduceToNat, Int.reduceLE, Int.reduceLT, Int.reduceBEq, Int.reduceBNe, mCall, ms_S, lt_false (Nat.le_refl l.length)]
    have g1 := encIs_get (ns := A) (i := l.length) (by omega)
    have g2 := encBs_get (ns := P) (i := l.length) (by omega)
    rw [A2] at g1
    rw [P2] at g2
    simp -implicitDefEqProofs (disch := decide +kernel) only [go_sem, ↓reduceIte, Nat.reduceSub, Nat.reduceAdd, Nat.reduceMul, Nat.reduceBEq, Nat.reduceLT, Nat.reduceLeDiff, Nat.reduceEqDiff, reduceCtorEq, Int.reduceToNat, Int.reduceLE, Int.reduceLT, Int.reduceBEq, Int.reduceBNe, mCall, hA, hF, k1, a1, a2, a3, a4, hae, hap, hak, c1, c2, c3, hem, cells_encM, g1, g2, encIs_len, encBs_len, A1, P1, B1, encIs_all, encBs_all, wid_int, cel_int, wid_bool, cel_bool, bne_self_eq_false, wrap_succ (n := l.length) (by omega)]
    rw [loop_at hloop ?hb ?hs]
    case hb => rfl
    case hs => rfl
    simp -implicitDefEqProofs (disch := decide +kernel) only [go_sem, ↓reduceIte, Nat.reduceSub, Nat.reduceAdd, Nat.reduceMul, Nat.reduceBEq, Nat.reduceLT, Nat.reduceLeDiff, Nat.reduceEqDiff, reduceCtorEq, Int.reduceToNat, Int.reduceLE, Int.reduceLT, Int.reduceBEq, Int.reduceBNe, mCall]
end Go.Proofs.Ytkmpfdecjmnccaa

