/- The reference of layer 2: shift. -/
import Derived.Test.YtmemmdfjlhamfaaF18
import Derived.Test.YtmemmdfjlhamfaaF3
set_option linter.unusedSimpArgs false
set_option linter.unusedVariables false
set_option maxRecDepth 100000
namespace Go.Proofs.Ytmemmdfjlhamfaa
open Go.Proofs
theorem rsmay_spec (t : Tm) (hs : t.size < room) (b f : Int) : (lim C).call 131 [dT t, dI b, dI f] [] = retB (renB t b f) := by
  unfold renB
  rw [ev_fn 131 Try.f131 _ _ _ rfl Try.func131 rfl Try.ntmps131 rfl]
  cases h1 : mayB t
  · simp -implicitDefEqProofs (disch := decide +kernel) only [go_sem, ↓reduceIte, Nat.reduceSub, Nat.reduceAdd, Nat.reduceMul, Nat.reduceBEq, Nat.reduceLT, Nat.reduceLeDiff, Nat.reduceEqDiff, reduceCtorEq, Int.reduceToNat, Int.reduceLE, Int.reduceLT, Int.reduceBEq, Int.reduceBNe, mCall, may_spec t hs, h1]
  · skip
    cases h2 : decide (b ≥ 0)
    · simp -implicitDefEqProofs (disch := decide +kernel) only [go_sem, ↓reduceIte, Nat.reduceSub, Nat.reduceAdd, Nat.reduceMul, Nat.reduceBEq, Nat.reduceLT, Nat.reduceLeDiff, Nat.reduceEqDiff, reduceCtorEq, Int.reduceToNat, Int.reduceLE, Int.reduceLT, Int.reduceBEq, Int.reduceBNe, mCall, may_spec t hs, h1, h2]
    · skip
      cases h3 : decide (b ≤ 1048576)
      · simp -implicitDefEqProofs (disch := decide +kernel) only [go_sem, ↓reduceIte, Nat.reduceSub, Nat.reduceAdd, Nat.reduceMul, Nat.reduceBEq, Nat.reduceLT, Nat.reduceLeDiff, Nat.reduceEqDiff, reduceCtorEq, Int.reduceToNat, Int.reduceLE, Int.reduceLT, Int.reduceBEq, Int.reduceBNe, mCall, may_spec t hs, h1, h2, h3]
      · skip
        cases h4 : decide (f ≥ 0)
        · simp -implicitDefEqProofs (disch := decide +kernel) only [go_sem, ↓reduceIte, Nat.reduceSub, Nat.reduceAdd, Nat.reduceMul, Nat.reduceBEq, Nat.reduceLT, Nat.reduceLeDiff, Nat.reduceEqDiff, reduceCtorEq, Int.reduceToNat, Int.reduceLE, Int.reduceLT, Int.reduceBEq, Int.reduceBNe, mCall, may_spec t hs, h1, h2, h3, h4]
        · skip
          cases h5 : decide (f ≤ 1048576)
          · simp -implicitDefEqProofs (disch := decide +kernel) only [go_sem, ↓reduceIte, Nat.reduceSub, Nat.reduceAdd, Nat.reduceMul, Nat.reduceBEq, Nat.reduceLT, Nat.reduceLeDiff, Nat.reduceEqDiff, reduceCtorEq, Int.reduceToNat, Int.reduceLE, Int.reduceLT, Int.reduceBEq, Int.reduceBNe, mCall, may_spec t hs, h1, h2, h3, h4, h5]
          · simp -implicitDefEqProofs (disch := decide +kernel) only [go_sem, ↓reduceIte, Nat.reduceSub, Nat.reduceAdd, Nat.reduceMul, Nat.reduceBEq, Nat.reduceLT, Nat.reduceLeDiff, Nat.reduceEqDiff, reduceCtorEq, Int.reduceToNat, Int.reduceLE, Int.reduceLT, Int.reduceBEq, Int.reduceBNe, mCall, may_spec t hs, h1, h2, h3, h4, h5]
theorem acc_keep (t : Nat) (xs : List Dv) : (acc t xs).kept = acc t xs := by cases xs <;> rfl
theorem acc_drop (t : Nat) (xs : List Dv) : (acc t xs).erase = .d (.slc xs) := by cases xs <;> rfl
def zc3 : List AV := [dI 0, dI 0, .clip []]
def rup_S (t : Tm) (b f hd : Int) (F : Nat → Tm) (i : Nat) : St := mk 53 [(1, dI b), (2, dI f), (3, .lref 3 0), (6, .lref 6 0), (7, .lref 7 0), (8, dI i)] [(3, cel3 t), (6, zc3), (7, [dI t.kind, dI hd, acc 0 (encs (outs F i))])] [] (accT i)
theorem rup_loop {c : Code} {σ : St} {t : Tm} {b f hd : Int} {F : Nat → Tm} (hb : c = cf (cf (cs (cf (cs (cs (cs (bodyOf Try.f132)))))))) (hσ : σ = rup_S t b f hd F 0) (hs : t.size < room) (hf : 0 ≤ f ∧ f + t.size ≤ 4000000000000000000)
    (ih : ∀ i, i < t.args.length → (lim C).call 132 [dT (t.arg i), dI b, dI (f + bnd t i)] [] = some (.ret (dT (F i)), [])) :
    (lim C).code 132 (.loop c) σ = some (.exit 0, mk 53 [(1, dI b), (2, dI f), (3, .lref 3 0), (6, .lref 6 0), (7, .lref 7 0), (8, dI t.args.length), (32, dB false)] [(3, cel3 t), (6, zc3), (7, [dI t.kind, dI hd, acc 0 (encs (outs F t.args.length))])] [] (accT t.args.length)) := by
  subst hb hσ
  have hr : room = 1099511627776 := rfl
  have hl := len_size t
  refine loop_run (rup_S t b f hd F) t.args.length ?_ ?_ (by simp)
  · intro i hi
    have hc := ih i hi
    have hbl := bnd_le t i
    have hw : IntKind.wrap .i64 (f + (bnd t i : Int)) = f + (bnd t i : Int) := wrap_ok (by omega) (by omega)
    have hln : (encs (outs F i)).length = i := by simp [encs, outs]
    have hap := fun locs heap => mApp_acc (encs (outs F i)) (enc (F i)) 3 locs heap (by rw [hln]; omega) (encs_all _) (enc_width _)
    have hsn : encs (outs F i) ++ [enc (F i)] = encs (outs F (i + 1)) := by unfold outs; rw [List.range_succ, List.map_append, encs_append]; rfl
    rw [hln, hsn] at hap
    simp -implicitDefEqProofs (disch := decide +kernel) only [cf, cs, bodyOf, Try.f132, Option.getD_some, go_sem, ↓reduceIte, Nat.reduceSub, Nat.reduceAdd, Nat.reduceMul, Nat.reduceBEq, Nat.reduceLT, Nat.reduceLeDiff, Nat.reduceEqDiff, reduceCtorEq, Int.reduceToNat, Int.reduceLE, Int.reduceLT, Int.reduceBEq, Int.reduceBNe, mCall, rup_S, zc3, acc_keep, lt_true hi, arg_get hi, binds_spec t i hs hi, hw, hc, hap, wrap_succ (n := i) (by omega)]
  · simp -implicitDefEqProofs (disch := decide +kernel) only [cf, cs, bodyOf, Try.f132, Option.getD_some, go_sem, ↓reduceIte, Nat.reduceSub, Nat.reduceAdd, Nat.reduceMul, Nat.reduceBEq, Nat.reduceLT, Nat.reduceLeDiff, Nat.reduceEqDiff, reduceCtorEq, Int.reduceToNat, Int.reduceLE, Int.reduceLT, Int.reduceBEq, Int.reduceBNe, mCall, rup_S, zc3, lt_false (Nat.le_refl t.args.length)]
theorem outs_map {t : Tm} (g : Int → Int → Int) (n : Int) : outs (fun i => mapT g (t.arg i) (n + bnd t i)) t.args.length = (mapT g t n).args := by rw [mapT_args]; rfl
theorem rup_spec : ∀ t : Tm, t.size < room → ∀ b f : Int, vlowB t = true → 0 ≤ b ∧ b ≤ 1048576 → 0 ≤ f ∧ f + t.size ≤ 4000000000000000000 → (lim C).call 132 [dT t, dI b, dI f] [] = some (.ret (dT (upT t b f)), []) := by
  refine Tm.ind fun t ih hs b f hlo hb hf => ?_
  have hr : room = 1099511627776 := rfl
  have hx : t.kind = 4 → t.head ≤ 4503599627370496 := fun hk => vle_here hlo hk
  have hm := mapT_eq (gUp b) t f
  rw [← mapT_args] at hm
  have hloop := fun hd => rup_loop (c := cf (cf (cs (cf (cs (cs (cs (bodyOf Try.f132)))))))) (σ := rup_S t b f hd (fun i => upT (t.arg i) b (f + bnd t i)) 0) (hd := hd) rfl rfl hs hf (fun i hi => by
    have h1 := size_arg (arg_mem hi)
    have h2 := bnd_le t i
    exact ih _ (arg_mem hi) (by omega) b (f + bnd t i) (vle_args hlo i hi) hb ⟨by omega, by omega⟩)
  rw [outs_map] at hloop
  rw [ev_fn 132 Try.f132 _ _ _ rfl Try.func132 rfl Try.ntmps132 rfl]
  cases k4 : (t.kind == 4)
  · rw [k4] at hm
    have hm' : Dv.agg [.int .i64 t.kind, .int .i64 t.head, .slc (encs (mapT (gUp b) t f).args)] = enc (mapT (gUp b) t f) := by rw [tm_enc]; exact congrArg enc hm.symm
    simp -implicitDefEqProofs (disch := decide +kernel) only [go_sem, ↓reduceIte, Nat.reduceSub, Nat.reduceAdd, Nat.reduceMul, Nat.reduceBEq, Nat.reduceLT, Nat.reduceLeDiff, Nat.reduceEqDiff, reduceCtorEq, Int.reduceToNat, Int.reduceLE, Int.reduceLT, Int.reduceBEq, Int.reduceBNe, mCall, cel3, k4]
    rw [loop_at (hloop t.head) ?hb ?hs]
    case hb => rfl
    case hs => rfl
    simp -implicitDefEqProofs (disch := decide +kernel) only [go_sem, ↓reduceIte, Nat.reduceSub, Nat.reduceAdd, Nat.reduceMul, Nat.reduceBEq, Nat.reduceLT, Nat.reduceLeDiff, Nat.reduceEqDiff, reduceCtorEq, Int.reduceToNat, Int.reduceLE, Int.reduceLT, Int.reduceBEq, Int.reduceBNe, mCall, zc3, acc_keep, acc_drop, hm']
  · rw [k4] at hm
    have hx := hx (by simpa using k4)
    cases h1 : decide (t.head ≥ f)
    · have h1' : ¬ t.head ≥ f := by simpa using h1
      have hm' : Dv.agg [.int .i64 t.kind, .int .i64 t.head, .slc (encs (mapT (gUp b) t f).args)] = enc (mapT (gUp b) t f) := by
        rw [tm_enc]; rw [if_pos rfl] at hm; unfold gUp at hm; rw [if_neg h1'] at hm; exact congrArg enc hm.symm
      simp -implicitDefEqProofs (disch := decide +kernel) only [go_sem, ↓reduceIte, Nat.reduceSub, Nat.reduceAdd, Nat.reduceMul, Nat.reduceBEq, Nat.reduceLT, Nat.reduceLeDiff, Nat.reduceEqDiff, reduceCtorEq, Int.reduceToNat, Int.reduceLE, Int.reduceLT, Int.reduceBEq, Int.reduceBNe, mCall, cel3, k4, h1]
      rw [loop_at (hloop t.head) ?hb ?hs]
      case hb => rfl
      case hs => rfl
      simp -implicitDefEqProofs (disch := decide +kernel) only [go_sem, ↓reduceIte, Nat.reduceSub, Nat.reduceAdd, Nat.reduceMul, Nat.reduceBEq, Nat.reduceLT, Nat.reduceLeDiff, Nat.reduceEqDiff, reduceCtorEq, Int.reduceToNat, Int.reduceLE, Int.reduceLT, Int.reduceBEq, Int.reduceBNe, mCall, zc3, acc_keep, acc_drop, hm']
    · have h1' : t.head ≥ f := by simpa using h1
      have hw : IntKind.wrap .i64 (t.head + b) = t.head + b := wrap_ok (by omega) (by omega)
      have hm' : Dv.agg [.int .i64 t.kind, .int .i64 (t.head + b), .slc (encs (mapT (gUp b) t f).args)] = enc (mapT (gUp b) t f) := by
        rw [tm_enc]; rw [if_pos rfl] at hm; unfold gUp at hm; rw [if_pos h1'] at hm; exact congrArg enc hm.symm
      simp -implicitDefEqProofs (disch := decide +kernel) only [go_sem, ↓reduceIte, Nat.reduceSub, Nat.reduceAdd, Nat.reduceMul, Nat.reduceBEq, Nat.reduceLT, Nat.reduceLeDiff, Nat.reduceEqDiff, reduceCtorEq, Int.reduceToNat, Int.reduceLE, Int.reduceLT, Int.reduceBEq, Int.reduceBNe, mCall, cel3, k4, h1, hw]
      rw [loop_at (hloop (t.head + b)) ?hb ?hs]
      case hb => rfl
      case hs => rfl
      simp -implicitDefEqProofs (disch := decide +kernel) only [go_sem, ↓reduceIte, Nat.reduceSub, Nat.reduceAdd, Nat.reduceMul, Nat.reduceBEq, Nat.reduceLT, Nat.reduceLeDiff, Nat.reduceEqDiff, reduceCtorEq, Int.reduceToNat, Int.reduceLE, Int.reduceLT, Int.reduceBEq, Int.reduceBNe, mCall, zc3, acc_keep, acc_drop, hm']
theorem rUp_spec (t : Tm) (hs : t.size < room) (hl : vlowB t = true) (b f : Int) : (lim C).call 121 [dT t, dI b, dI f] [] = some (.ret (dT (if renB t b f then upT t b f else t)), []) := by
  have hr : room = 1099511627776 := rfl
  have hm := rsmay_spec t hs b f
  cases h : renB t b f
  · rw [h] at hm
    have h0 := rup_spec t hs 0 0 hl ⟨by omega, by omega⟩ ⟨by omega, by omega⟩
    rw [up_zero] at h0
    rw [ev_fn 121 Try.f121 _ _ _ rfl Try.func121 rfl Try.ntmps121 rfl]
    simp -implicitDefEqProofs (disch := decide +kernel) only [go_sem, ↓reduceIte, Nat.reduceSub, Nat.reduceAdd, Nat.reduceMul, Nat.reduceBEq, Nat.reduceLT, Nat.reduceLeDiff, Nat.reduceEqDiff, reduceCtorEq, Int.reduceToNat, Int.reduceLE, Int.reduceLT, Int.reduceBEq, Int.reduceBNe, mCall, hm, h0]
  · rw [h] at hm
    simp only [renB, Bool.and_eq_true, decide_eq_true_eq] at h
    have h0 := rup_spec t hs b f hl ⟨by omega, by omega⟩ ⟨by omega, by omega⟩
    rw [ev_fn 121 Try.f121 _ _ _ rfl Try.func121 rfl Try.ntmps121 rfl]
    simp -implicitDefEqProofs (disch := decide +kernel) only [go_sem, ↓reduceIte, Nat.reduceSub, Nat.reduceAdd, Nat.reduceMul, Nat.reduceBEq, Nat.reduceLT, Nat.reduceLeDiff, Nat.reduceEqDiff, reduceCtorEq, Int.reduceToNat, Int.reduceLE, Int.reduceLT, Int.reduceBEq, Int.reduceBNe, mCall, hm, h0]
end Go.Proofs.Ytmemmdfjlhamfaa
