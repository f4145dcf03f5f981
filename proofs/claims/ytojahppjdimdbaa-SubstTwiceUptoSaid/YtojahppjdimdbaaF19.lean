/- The reference of layer 2: shift. -/
import Derived.Test.YtojahppjdimdbaaF18
import Derived.Test.YtojahppjdimdbaaF3
set_option linter.unusedSimpArgs false
set_option linter.unusedVariables false
set_option maxRecDepth 100000
namespace Go.Proofs.Ytojahppjdimdbaa
open Go.Proofs
theorem rsmay_spec (t : Tm) (hs : t.size < room) (b f : Int) : (lim C).call 45 [dT t, dI b, dI f] [] = retB (renB t b f) := by
  unfold renB
  rw [ev_fn 45 Try.f45 _ _ _ rfl Try.func45 rfl Try.ntmps45 rfl]
  cases h1 : mayB t
  · simp -implicitDefEqProofs (disch := decide +kernel) only [go_sem, ↓reduceIte, Nat.reduceSub, Nat.reduceAdd, Nat.reduceMul, Nat.reduceBEq, Nat.reduceLT, Nat.reduceLeDiff, Nat.reduceEqDiff, reduceCtorEq, Int.reduceToNat, Int.reduceLE, Int.reduceLT, Int.reduceBEq, Int.reduceBNe, mCall, may_spec t hs, h1]
  · skip
    cases h2 : decide (b ≥ 0)
    · simp -implicitDefEqProofs (disch := decide +kernel) only [go_sem, ↓reduceIte, Nat.reduceSub, Nat.reduceAdd, Nat.reduceMul, Nat.reduceBEq, Nat.reduceLT, Nat.reduceLeDiff, Nat.reduceEqDiff, reduceCtorEq, Int.reduceToNat, Int.reduceLE, Int.reduceLT, Int.reduceBEq, Int.reduceBNe, mCall, may_spec t hs, h1, h2]
    · skip
      cases h3 : decide (b ≤ 1048576)
      · simp -implicitDefEqProofs (disch := decide +kernel) only [go_sem, ↓reduceIte, Nat.reduceSub, Nat.reduceAdd, Nat.reduceMul, Nat.reduceBEq, Nat.reduceLT, Nat.reduceLeDiff, Nat.reduceEqDiff, reduceCtorEq, Int.reduceToNat, Int.reduceLE, Int.reduceLT, Int.reduceBEq, Int.reduceBNe, mCall, may_spec t hs, h1, h2, h3]
      · skip
        cases h4 : decide (f ≥ 0)
        · simp -implicitDefEqProofs (disch := decide +kernel) only [go_sem, ↓reduceIte, Nat.reduceSub, Nat.reduceAdd, Nat.reduceMul, Nat.reduceBEq, Nat.reduceLT, Nat.reduceLeDiff, Nat.reduceEqDiff, reduceCtorEq, Int.reduceToNat, Int.reduceLE, Int.reduceLT, Int.reduceBEq, Int.reduceBNe, mCall, may_spec t hs, h1, h2, h3, h4]
        · skip
          cases h5 : decide (f ≤ 1048576)
          · simp -implicitDefEqProofs (disch := decide +kernel) only [go_sem, ↓reduceIte, Nat.reduceSub, Nat.reduceAdd, Nat.reduceMul, Nat.reduceBEq, Nat.reduceLT, Nat.reduceLeDiff, Nat.reduceEqDiff, reduceCtorEq, Int.reduceToNat, Int.reduceLE, Int.reduceLT, Int.reduceBEq, Int.reduceBNe, mCall, may_spec t hs, h1, h2, h3, h4, h5]
          · simp -implicitDefEqProofs (disch := decide +kernel) only [go_sem, ↓reduceIte, Nat.reduceSub, Nat.reduceAdd, Nat.reduceMul, Nat.reduceBEq, Nat.reduceLT, Nat.reduceLeDiff, Nat.reduceEqDiff, reduceCtorEq, Int.reduceToNat, Int.reduceLE, Int.reduceLT, Int.reduceBEq, Int.reduceBNe, mCall, may_spec t hs, h1, h2, h3, h4, h5]
theorem acc_keep (t : Nat) (xs : List Dv) : (acc t xs).kept = acc t xs := by cases xs <;> rfl
theorem acc_drop (t : Nat) (xs : List Dv) : (acc t xs).erase = .d (.slc xs) := by cases xs <;> rfl
def zc3 : List AV := [dI 0, dI 0, .clip []]
def rup_S (t : Tm) (b f hd : Int) (F : Nat → Tm) (i : Nat) : St := mk 53 [(1, dI b), (2, dI f), (3, .lref 3 0), (6, .lref 6 0), (7, .lref 7 0), (8, dI i)] [(3, cel3 t), (6, zc3), (7, [dI t.kind, dI hd, acc 0 (encs (outs F i))])] [] (accT i)
theorem rup_loop {c : Code} {σ : St} {t : Tm} {b f hd : Int} {F : Nat → Tm} (hb : c = cf (cf (cs (cf (cs (cs (cs (bodyOf Try.f46)))))))) (hσ : σ = rup_S t b f hd F 0) (hs : t.size < room) (hf : 0 ≤ f ∧ f + t.size ≤ 4000000000000000000)
    (ih : ∀ i, i < t.args.length → (lim C).call 46 [dT (t.arg i), dI b, dI (f + bnd t i)] [] = some (.ret (dT (F i)), [])) :
    (lim C).code 46 (.loop c) σ = some (.exit 0, mk 53 [(1, dI b), (2, dI f), (3, .lref 3 0), (6, .lref 6 0), (7, .lref 7 0), (8, dI t.args.length), (32, dB false)] [(3, cel3 t), (6, zc3), (7, [dI t.kind, dI hd, acc 0 (encs (outs F t.args.length))])] [] (accT t.args.length)) := by
  subst hb hσ
  have hr : room = 1099511627776 := rfl
  have hl := len_size t
  refine loop_run (rup_S t b f hd F) t.args.length ?_ ?_ (by simp)
  · intro i hi
    have hc := ih i hi
    have hbl := bnd_le t i
    have hw : IntKind.wrap .i64 (f + (bnd t i : Int)) = f + (bnd t i : Int) := wrap_ok (by omega) (by omega)
    have hln : (encs (outs F i)).length = i := by simp [encs, outs]
    have hap := fun locs heap => mApp_acc (encs (outs F i)) (enc (F i)) 3 locs heap (by rw [hln]; omega) (encs_all _) (enc_width _)
    have hsn : encs (outs F i) ++ [enc (F i)] = encs (outs F (i + 1)) := by unfold outs; rw [List.range_succ, List.map_append, encs_append]; rfl
    rw [hln, hsn] at hap
    simp -implicitDefEqProofs (disch := decide +kernel) only [cf, cs, bodyOf, Try.f46, Option.getD_some, go_sem, ↓reduceIte, Nat.reduceSub, Nat.reduceAdd, Nat.reduceMul, Nat.reduceBEq, Nat.reduceLT, Nat.reduceLeDiff, Nat.reduceEqDiff, reduceCtorEq, Int.reduceToNat, Int.reduceLE, Int.reduceLT, Int.reduceBEq, Int.reduceBNe, mCall, rup_S, zc3, acc_keep, lt_true hi, arg_get hi, binds_spec t i hs hi, hw, hc, hap, wrap_succ (n := i) (by omega)]
  · simp -implicitDefEqProofs (disch := decide +kernel) only [cf, cs, bodyOf, Try.f46, Option.getD_some, go_sem, ↓reduceIte, Nat.reduceSub, Nat.reduceAdd, Nat.reduceMul, Nat.reduceBEq, Nat.reduceLT, Nat.reduceLeDiff, Nat.reduceEqDiff, reduceCtorEq, Int.reduceToNat, Int.reduceLE, Int.reduceLT, Int.reduceBEq, Int.reduceBNe, mCall, rup_S, zc3, lt_false (Nat.le_refl t.args.length)]
theorem outs_map {t : Tm} (g : Int → Int → Int) (n : Int) : outs (fun i => mapT g (t.arg i) (n + bnd t i)) t.args.length = (mapT g t n).args := by rw [mapT_args]; rfl
theorem rup_spec : ∀ t : Tm, t.size < room → ∀ b f : Int, vlowB t = true → 0 ≤ b ∧ b ≤ 1048576 → 0 ≤ f ∧ f + t.size ≤ 4000000000000000000 → (lim C).call 46 [dT t, dI b, dI f] [] = some (.ret (dT (upT t b f)), []) := by
  refine Tm.ind fun t ih hs b f hlo hb hf => ?_
  have hr : room = 1099511627776 := rfl
  have hx : t.kind = 4 → t.head ≤ 4503599627370496 := fun hk => vle_here hlo hk
  have hm := mapT_eq (gUp b) t f
  rw [← mapT_args] at hm
  have hloop := fun hd => rup_loop (c := cf (cf (cs (cf (cs (cs (cs (bodyOf Try.f46)))))))) (σ := rup_S t b f hd (fun i => upT (t.arg i) b (f + bnd t i)) 0) (hd := hd) rfl rfl hs hf (fun i hi => by
    have h1 := size_arg (arg_mem hi)
    have h2 := bnd_le t i
    exact ih _ (arg_mem hi) (by omega) b (f + bnd t i) (vle_args hlo i hi) hb ⟨by omega, by omega⟩)
  rw [outs_map] at hloop
  rw [ev_fn 46 Try.f46 _ _ _ rfl Try.func46 rfl Try.ntmps46 rfl]
  cases k4 : (t.kind == 4)
  · rw [k4] at hm
    have hm' : Dv.agg [.int .i64 t.kind, .int .i64 t.head, .slc (encs (mapT (gUp b) t f).args)] = enc (mapT (gUp b) t f) := by rw [tm_enc]; exact congrArg enc hm.symm
    simp -implicitDefEqProofs (disch := decide +kernel) only [go_sem, ↓reduceIte, Nat.reduceSub, Nat.reduceAdd, Nat.reduceMul, Nat.reduceBEq, Nat.reduceLT, Nat.reduceLeDiff, Nat.reduceEqDiff, reduceCtorEq, Int.reduceToNat, Int.reduceLE, Int.reduceLT, Int.reduceBEq, Int.reduceBNe, mCall, cel3, k4]
    rw [loop_at (hloop t.head) ?hb ?hs]
    case hb => rfl
    case hs => rfl
    simp -implicitDefEqProofs (disch := decide +kernel) only [go_sem, ↓reduceIte, Nat.reduceSub, Nat.reduceAdd, Nat.reduceMul, Nat.reduceBEq, Nat.reduceLT, Nat.reduceLeDiff, Nat.reduceEqDiff, reduceCtorEq, Int.reduceToNat, Int.reduceLE, Int.reduceLT, Int.reduceBEq, Int.reduceBNe, mCall, zc3, acc_keep, acc_drop, hm']
  · rw [k4] at hm
    have hx := hx (by simpa using k4)
    cases h1 : decide (t.head ≥ f)
    · have h1' : ¬ t.head ≥ f := by simpa using h1
      have hm' : Dv.agg [.int .i64 t.kind, .int .i64 t.head, .slc (encs (mapT (gUp b) t f).args)] = enc (mapT (gUp b) t f) := by
        rw [tm_enc]; rw [if_pos rfl] at hm; unfold gUp at hm; rw [if_neg h1'] at hm; exact congrArg enc hm.symm
      simp -implicitDefEqProofs (disch := decide +kernel) only [go_sem, ↓reduceIte, Nat.reduceSub, Nat.reduceAdd, Nat.reduceMul, Nat.reduceBEq, Nat.reduceLT, Nat.reduceLeDiff, Nat.reduceEqDiff, reduceCtorEq, Int.reduceToNat, Int.reduceLE, Int.reduceLT, Int.reduceBEq, Int.reduceBNe, mCall, cel3, k4, h1]
      rw [loop_at (hloop t.head) ?hb ?hs]
      case hb => rfl
      case hs => rfl
      simp -implicitDefEqProofs (disch := decide +kernel) only [go_sem, ↓reduceIte, Nat.reduceSub, Nat.reduceAdd, Nat.reduceMul, Nat.reduceBEq, Nat.reduceLT, Nat.reduceLeDiff, Nat.reduceEqDiff, reduceCtorEq, Int.reduceToNat, Int.reduceLE, Int.reduceLT, Int.reduceBEq, Int.reduceBNe, mCall, zc3, acc_keep, acc_drop, hm']
    · have h1' : t.head ≥ f := by simpa using h1
      have hw : IntKind.wrap .i64 (t.head + b) = t.head + b := wrap_ok (by omega) (by omega)
      have hm' : Dv.agg [.int .i64 t.kind, .int .i64 (t.head + b), .slc (encs (mapT (gUp b) t f).args)] = enc (mapT (gUp b) t f) := by
        rw [tm_enc]; rw [if_pos rfl] at hm; unfold gUp at hm; rw [if_pos h1'] at hm; exact congrArg enc hm.symm
      simp -implicitDefEqProofs (disch := decide +kernel) only [go_sem, ↓reduceIte, Nat.reduceSub, Nat.reduceAdd, Nat.reduceMul, Nat.reduceBEq, Nat.reduceLT, Nat.reduceLeDiff, Nat.reduceEqDiff, reduceCtorEq, Int.reduceToNat, Int.reduceLE, Int.reduceLT, Int.reduceBEq, Int.reduceBNe, mCall, cel3, k4, h1, hw]
      rw [loop_at (hloop (t.head + b)) ?hb ?hs]
      case hb => rfl
      case hs => rfl
      simp -implicitDefEqProofs (disch := decide +kernel) only [go_sem, ↓reduceIte, Nat.reduceSub, Nat.reduceAdd, Nat.reduceMul, Nat.reduceBEq, Nat.reduceLT, Nat.reduceLeDiff, Nat.reduceEqDiff, reduceCtorEq, Int.reduceToNat, Int.reduceLE, Int.reduceLT, Int.reduceBEq, Int.reduceBNe, mCall, zc3, acc_keep, acc_drop, hm']
def rdn_S (t : Tm) (b f hd : Int) (F : Nat → Tm) (i : Nat) : St := mk 70 [(1, dI b), (2, dI f), (3, .lref 3 0), (6, .lref 6 0), (8, .lref 8 0), (9, dI i)] [(3, cel3 t), (6, zc3), (8, [dI t.kind, dI hd, acc 0 (encs (outs F i))])] [] (accT i)
theorem rdn_step {t : Tm} {b f hd : Int} {F : Nat → Tm} {P : Nat → Bool} (hs : t.size < room) (hf : 0 ≤ f ∧ f + t.size ≤ 4000000000000000000) {i : Nat} (hi : i < t.args.length) (hp : P i = true)
    (ih : (lim C).call 48 [dT (t.arg i), dI b, dI (f + bnd t i)] [] = some (.ret (.tup [dT (F i), dB (P i)]), [])) :
    (lim C).code 48 (cf (.loop (cf (cf (cs (cf (cs (cs (cs (bodyOf Try.f48)))))))))) (rdn_S t b f hd F i) = some (.nor, rdn_S t b f hd F (i + 1)) := by
  have hr : room = 1099511627776 := rfl
  have hl := len_size t
  have hbl := bnd_le t i
  rw [hp] at ih
  have hw : IntKind.wrap .i64 (f + (bnd t i : Int)) = f + (bnd t i : Int) := wrap_ok (by omega) (by omega)
  have hln : (encs (outs F i)).length = i := by simp [encs, outs]
  have hap := fun locs heap => mApp_acc (encs (outs F i)) (enc (F i)) 3 locs heap (by rw [hln]; omega) (encs_all _) (enc_width _)
  have hsn : encs (outs F i) ++ [enc (F i)] = encs (outs F (i + 1)) := by unfold outs; rw [List.range_succ, List.map_append, encs_append]; rfl
  rw [hln, hsn] at hap
  simp -implicitDefEqProofs (disch := decide +kernel) only [cf, cs, bodyOf, Try.f48, Option.getD_some, go_sem, ↓reduceIte, Nat.reduceSub, Nat.reduceAdd, Nat.reduceMul, Nat.reduceBEq, Nat.reduceLT, Nat.reduceLeDiff, Nat.reduceEqDiff, reduceCtorEq, Int.reduceToNat, Int.reduceLE, Int.reduceLT, Int.reduceBEq, Int.reduceBNe, mCall, rdn_S, zc3, acc_keep, lt_true hi, arg_get hi, binds_spec t i hs hi, hw, ih, hap, wrap_succ (n := i) (by omega)]
theorem rdn_end {t : Tm} {b f hd : Int} {F : Nat → Tm} {P : Nat → Bool} (hs : t.size < room) (hf : 0 ≤ f ∧ f + t.size ≤ 4000000000000000000) {i : Nat} (hi : i < t.args.length) (hp : P i = false)
    (ih : (lim C).call 48 [dT (t.arg i), dI b, dI (f + bnd t i)] [] = some (.ret (.tup [dT (F i), dB (P i)]), [])) :
    (lim C).code 48 (cf (.loop (cf (cf (cs (cf (cs (cs (cs (bodyOf Try.f48)))))))))) (rdn_S t b f hd F i) = some (.ret, mk 70 [(6, .lref 6 0), (7, dB false)] [(6, zc3)] [] (accT i)) := by
  have hr : room = 1099511627776 := rfl
  have hl := len_size t
  have hbl := bnd_le t i
  rw [hp] at ih
  have hw : IntKind.wrap .i64 (f + (bnd t i : Int)) = f + (bnd t i : Int) := wrap_ok (by omega) (by omega)
  simp -implicitDefEqProofs (disch := decide +kernel) only [cf, cs, bodyOf, Try.f48, Option.getD_some, go_sem, ↓reduceIte, Nat.reduceSub, Nat.reduceAdd, Nat.reduceMul, Nat.reduceBEq, Nat.reduceLT, Nat.reduceLeDiff, Nat.reduceEqDiff, reduceCtorEq, Int.reduceToNat, Int.reduceLE, Int.reduceLT, Int.reduceBEq, Int.reduceBNe, mCall, rdn_S, zc3, acc_keep, lt_true hi, arg_get hi, binds_spec t i hs hi, hw, ih]
theorem rdn_loop {t : Tm} {b f hd : Int} {F : Nat → Tm} {P : Nat → Bool} (hs : t.size < room) (hf : 0 ≤ f ∧ f + t.size ≤ 4000000000000000000)
    (ih : ∀ i, i < t.args.length → (lim C).call 48 [dT (t.arg i), dI b, dI (f + bnd t i)] [] = some (.ret (.tup [dT (F i), dB (P i)]), [])) :
    (allB t.args.length P = true → (lim C).code 48 (.loop (cf (cf (cs (cf (cs (cs (cs (bodyOf Try.f48))))))))) (rdn_S t b f hd F 0) = some (.exit 0, mk 70 [(1, dI b), (2, dI f), (3, .lref 3 0), (6, .lref 6 0), (8, .lref 8 0), (9, dI t.args.length), (42, dB false)] [(3, cel3 t), (6, zc3), (8, [dI t.kind, dI hd, acc 0 (encs (outs F t.args.length))])] [] (accT t.args.length))) ∧
    (allB t.args.length P = false → ∃ j, (lim C).code 48 (.loop (cf (cf (cs (cf (cs (cs (cs (bodyOf Try.f48))))))))) (rdn_S t b f hd F 0) = some (.ret, mk 70 [(6, .lref 6 0), (7, dB false)] [(6, zc3)] [] (accT j))) := by
  constructor
  · intro hall
    refine loop_run (rdn_S t b f hd F) t.args.length (fun i hi => rdn_step hs hf hi ((allB_iff _ _).1 hall i hi) (ih i hi)) ?_ (by simp)
    simp -implicitDefEqProofs (disch := decide +kernel) only [cf, cs, bodyOf, Try.f48, Option.getD_some, go_sem, ↓reduceIte, Nat.reduceSub, Nat.reduceAdd, Nat.reduceMul, Nat.reduceBEq, Nat.reduceLT, Nat.reduceLeDiff, Nat.reduceEqDiff, reduceCtorEq, Int.reduceToNat, Int.reduceLE, Int.reduceLT, Int.reduceBEq, Int.reduceBNe, mCall, rdn_S, zc3, lt_false (Nat.le_refl t.args.length)]
  · intro hall
    obtain ⟨j, hj, hp, hb⟩ := allB_first _ P hall
    exact ⟨j, loop_run (rdn_S t b f hd F) j (fun i hi => rdn_step hs hf (by omega) (hb i hi) (ih i (by omega))) (rdn_end hs hf hj hp (ih j hj)) (by simp)⟩
theorem rdn_spec : ∀ t : Tm, t.size < room → ∀ b f : Int, vlowB t = true → nodesB t = true → 0 ≤ b ∧ b ≤ 1048576 → 0 ≤ f ∧ f + t.size ≤ 4000000000000000000 →
    (lim C).call 48 [dT t, dI b, dI f] [] = some (.ret (.tup [dT (if dnB t b f then dnT t b f else zT), dB (dnB t b f)]), []) := by
  refine Tm.ind fun t ih hs b f hlo hno hb hf => ?_
  have hr : room = 1099511627776 := rfl
  have hx : t.kind = 4 → t.head ≤ 4503599627370496 := fun hk => vle_here hlo hk
  have hx0 := node_head (node_here hno)
  have hm := mapT_eq (gDn b) t f
  rw [← mapT_args] at hm
  have hloop := fun hd => rdn_loop (hd := hd) (F := fun i => if dnB (t.arg i) b (f + bnd t i) then dnT (t.arg i) b (f + bnd t i) else zT) (P := fun i => dnB (t.arg i) b (f + bnd t i)) hs hf (fun i hi => by
    have h1 := size_arg (arg_mem hi)
    have h2 := bnd_le t i
    exact ih _ (arg_mem hi) (by omega) b (f + bnd t i) (vle_args hlo i hi) (node_args hno i hi) hb ⟨by omega, by omega⟩)
  have hout : (allB t.args.length fun i => dnB (t.arg i) b (f + bnd t i)) = true → outs (fun i => if dnB (t.arg i) b (f + bnd t i) then dnT (t.arg i) b (f + bnd t i) else zT) t.args.length = (mapT (gDn b) t f).args := by
    intro ha
    rw [mapT_args]
    unfold outs
    refine List.map_congr_left fun i hi => ?_
    exact if_pos ((allB_iff _ _).1 ha i (by simpa using hi))
  have hce := canB_eq (pDn b) t f
  rw [ev_fn 48 Try.f48 _ _ _ rfl Try.func48 rfl Try.ntmps48 rfl]
  cases hall : (allB t.args.length fun i => canB (pDn b) (t.arg i) (f + bnd t i))
  · obtain ⟨j0, hl0⟩ := (hloop t.head).2 hall
    rw [hall, Bool.and_false] at hce
    cases k4 : (t.kind == 4)
    · simp -implicitDefEqProofs (disch := decide +kernel) only [go_sem, ↓reduceIte, Nat.reduceSub, Nat.reduceAdd, Nat.reduceMul, Nat.reduceBEq, Nat.reduceLT, Nat.reduceLeDiff, Nat.reduceEqDiff, reduceCtorEq, Int.reduceToNat, Int.reduceLE, Int.reduceLT, Int.reduceBEq, Int.reduceBNe, mCall, cel3, k4]
      rw [loop_at hl0 ?hb ?hs]
      case hb => rfl
      case hs => rfl
      simp -implicitDefEqProofs (disch := decide +kernel) only [go_sem, ↓reduceIte, Nat.reduceSub, Nat.reduceAdd, Nat.reduceMul, Nat.reduceBEq, Nat.reduceLT, Nat.reduceLeDiff, Nat.reduceEqDiff, reduceCtorEq, Int.reduceToNat, Int.reduceLE, Int.reduceLT, Int.reduceBEq, Int.reduceBNe, mCall, zc3, hce, zT_enc]
    · have hx := hx (by simpa using k4)
      cases h1 : decide (t.head ≥ f)
      · simp -implicitDefEqProofs (disch := decide +kernel) only [go_sem, ↓reduceIte, Nat.reduceSub, Nat.reduceAdd, Nat.reduceMul, Nat.reduceBEq, Nat.reduceLT, Nat.reduceLeDiff, Nat.reduceEqDiff, reduceCtorEq, Int.reduceToNat, Int.reduceLE, Int.reduceLT, Int.reduceBEq, Int.reduceBNe, mCall, cel3, k4, h1]
        rw [loop_at hl0 ?hb ?hs]
        case hb => rfl
        case hs => rfl
        simp -implicitDefEqProofs (disch := decide +kernel) only [go_sem, ↓reduceIte, Nat.reduceSub, Nat.reduceAdd, Nat.reduceMul, Nat.reduceBEq, Nat.reduceLT, Nat.reduceLeDiff, Nat.reduceEqDiff, reduceCtorEq, Int.reduceToNat, Int.reduceLE, Int.reduceLT, Int.reduceBEq, Int.reduceBNe, mCall, zc3, hce, zT_enc]
      · have hw : IntKind.wrap .i64 (f + b) = f + b := wrap_ok (by omega) (by omega)
        cases h2 : decide (t.head < f + b)
        · have hw2 : IntKind.wrap .i64 (t.head - b) = t.head - b := wrap_ok (by omega) (by omega)
          obtain ⟨j1, hl1⟩ := (hloop (t.head - b)).2 hall
          simp -implicitDefEqProofs (disch := decide +kernel) only [go_sem, ↓reduceIte, Nat.reduceSub, Nat.reduceAdd, Nat.reduceMul, Nat.reduceBEq, Nat.reduceLT, Nat.reduceLeDiff, Nat.reduceEqDiff, reduceCtorEq, Int.reduceToNat, Int.reduceLE, Int.reduceLT, Int.reduceBEq, Int.reduceBNe, mCall, cel3, k4, h1, h2, hw, hw2]
          rw [loop_at hl1 ?hb ?hs]
          case hb => rfl
          case hs => rfl
          simp -implicitDefEqProofs (disch := decide +kernel) only [go_sem, ↓reduceIte, Nat.reduceSub, Nat.reduceAdd, Nat.reduceMul, Nat.reduceBEq, Nat.reduceLT, Nat.reduceLeDiff, Nat.reduceEqDiff, reduceCtorEq, Int.reduceToNat, Int.reduceLE, Int.reduceLT, Int.reduceBEq, Int.reduceBNe, mCall, zc3, hce, zT_enc]
        · simp -implicitDefEqProofs (disch := decide +kernel) only [go_sem, ↓reduceIte, Nat.reduceSub, Nat.reduceAdd, Nat.reduceMul, Nat.reduceBEq, Nat.reduceLT, Nat.reduceLeDiff, Nat.reduceEqDiff, reduceCtorEq, Int.reduceToNat, Int.reduceLE, Int.reduceLT, Int.reduceBEq, Int.reduceBNe, mCall, cel3, k4, h1, h2, hw, hce, zT_enc]
  · rw [hall, Bool.and_true] at hce
    have hl0 := fun hd => (hloop hd).1 hall
    rw [hout hall] at hl0
    cases k4 : (t.kind == 4)
    · have hct : canB (pDn b) t f = true := by rw [hce]; simp [bne, k4]
      rw [k4] at hm
      have hm' : Dv.agg [.int .i64 t.kind, .int .i64 t.head, .slc (encs (mapT (gDn b) t f).args)] = enc (mapT (gDn b) t f) := by rw [tm_enc]; exact congrArg enc hm.symm
      simp -implicitDefEqProofs (disch := decide +kernel) only [go_sem, ↓reduceIte, Nat.reduceSub, Nat.reduceAdd, Nat.reduceMul, Nat.reduceBEq, Nat.reduceLT, Nat.reduceLeDiff, Nat.reduceEqDiff, reduceCtorEq, Int.reduceToNat, Int.reduceLE, Int.reduceLT, Int.reduceBEq, Int.reduceBNe, mCall, cel3, k4]
      rw [loop_at (hl0 t.head) ?hb ?hs]
      case hb => rfl
      case hs => rfl
      simp -implicitDefEqProofs (disch := decide +kernel) only [go_sem, ↓reduceIte, Nat.reduceSub, Nat.reduceAdd, Nat.reduceMul, Nat.reduceBEq, Nat.reduceLT, Nat.reduceLeDiff, Nat.reduceEqDiff, reduceCtorEq, Int.reduceToNat, Int.reduceLE, Int.reduceLT, Int.reduceBEq, Int.reduceBNe, mCall, zc3, acc_keep, acc_drop, hct, hm']
    · have hx := hx (by simpa using k4)
      rw [k4, if_pos rfl] at hm
      have hce' : canB (pDn b) t f = pDn b t.head f := by rw [hce]; simp [bne, k4]
      cases h1 : decide (t.head ≥ f)
      · have h1' : t.head < f := by simpa using h1
        have hct : canB (pDn b) t f = true := by rw [hce']; simp [pDn, h1']
        have hm' : Dv.agg [.int .i64 t.kind, .int .i64 t.head, .slc (encs (mapT (gDn b) t f).args)] = enc (mapT (gDn b) t f) := by
          rw [tm_enc]; unfold gDn at hm; rw [if_pos h1'] at hm; exact congrArg enc hm.symm
        simp -implicitDefEqProofs (disch := decide +kernel) only [go_sem, ↓reduceIte, Nat.reduceSub, Nat.reduceAdd, Nat.reduceMul, Nat.reduceBEq, Nat.reduceLT, Nat.reduceLeDiff, Nat.reduceEqDiff, reduceCtorEq, Int.reduceToNat, Int.reduceLE, Int.reduceLT, Int.reduceBEq, Int.reduceBNe, mCall, cel3, k4, h1]
        rw [loop_at (hl0 t.head) ?hb ?hs]
        case hb => rfl
        case hs => rfl
        simp -implicitDefEqProofs (disch := decide +kernel) only [go_sem, ↓reduceIte, Nat.reduceSub, Nat.reduceAdd, Nat.reduceMul, Nat.reduceBEq, Nat.reduceLT, Nat.reduceLeDiff, Nat.reduceEqDiff, reduceCtorEq, Int.reduceToNat, Int.reduceLE, Int.reduceLT, Int.reduceBEq, Int.reduceBNe, mCall, zc3, acc_keep, acc_drop, hct, hm']
      · have h1' : ¬ t.head < f := by simp at h1; omega
        have hw : IntKind.wrap .i64 (f + b) = f + b := wrap_ok (by omega) (by omega)
        cases h2 : decide (t.head < f + b)
        · have hw2 : IntKind.wrap .i64 (t.head - b) = t.head - b := wrap_ok (by omega) (by omega)
          have hct : canB (pDn b) t f = true := by rw [hce']; simp at h2; simp [pDn]; omega
          have hm' : Dv.agg [.int .i64 t.kind, .int .i64 (t.head - b), .slc (encs (mapT (gDn b) t f).args)] = enc (mapT (gDn b) t f) := by
            rw [tm_enc]; unfold gDn at hm; rw [if_neg h1'] at hm; exact congrArg enc hm.symm
          simp -implicitDefEqProofs (disch := decide +kernel) only [go_sem, ↓reduceIte, Nat.reduceSub, Nat.reduceAdd, Nat.reduceMul, Nat.reduceBEq, Nat.reduceLT, Nat.reduceLeDiff, Nat.reduceEqDiff, reduceCtorEq, Int.reduceToNat, Int.reduceLE, Int.reduceLT, Int.reduceBEq, Int.reduceBNe, mCall, cel3, k4, h1, h2, hw, hw2]
          rw [loop_at (hl0 (t.head - b)) ?hb ?hs]
          case hb => rfl
          case hs => rfl
          simp -implicitDefEqProofs (disch := decide +kernel) only [go_sem, ↓reduceIte, Nat.reduceSub, Nat.reduceAdd, Nat.reduceMul, Nat.reduceBEq, Nat.reduceLT, Nat.reduceLeDiff, Nat.reduceEqDiff, reduceCtorEq, Int.reduceToNat, Int.reduceLE, Int.reduceLT, Int.reduceBEq, Int.reduceBNe, mCall, zc3, acc_keep, acc_drop, hct, hm']
        · have hcf : canB (pDn b) t f = false := by rw [hce']; simp at h2; simp [pDn]; omega
          simp -implicitDefEqProofs (disch := decide +kernel) only [go_sem, ↓reduceIte, Nat.reduceSub, Nat.reduceAdd, Nat.reduceMul, Nat.reduceBEq, Nat.reduceLT, Nat.reduceLeDiff, Nat.reduceEqDiff, reduceCtorEq, Int.reduceToNat, Int.reduceLE, Int.reduceLT, Int.reduceBEq, Int.reduceBNe, mCall, cel3, k4, h1, h2, hw, hcf, zT_enc]
theorem rUp_spec (t : Tm) (hs : t.size < room) (hl : vlowB t = true) (b f : Int) : (lim C).call 20 [dT t, dI b, dI f] [] = some (.ret (dT (if renB t b f then upT t b f else t)), []) := by
  have hr : room = 1099511627776 := rfl
  have hm := rsmay_spec t hs b f
  cases h : renB t b f
  · rw [h] at hm
    have h0 := rup_spec t hs 0 0 hl ⟨by omega, by omega⟩ ⟨by omega, by omega⟩
    rw [up_zero] at h0
    rw [ev_fn 20 Try.f20 _ _ _ rfl Try.func20 rfl Try.ntmps20 rfl]
    simp -implicitDefEqProofs (disch := decide +kernel) only [go_sem, ↓reduceIte, Nat.reduceSub, Nat.reduceAdd, Nat.reduceMul, Nat.reduceBEq, Nat.reduceLT, Nat.reduceLeDiff, Nat.reduceEqDiff, reduceCtorEq, Int.reduceToNat, Int.reduceLE, Int.reduceLT, Int.reduceBEq, Int.reduceBNe, mCall, hm, h0]
  · rw [h] at hm
    simp only [renB, Bool.and_eq_true, decide_eq_true_eq] at h
    have h0 := rup_spec t hs b f hl ⟨by omega, by omega⟩ ⟨by omega, by omega⟩
    rw [ev_fn 20 Try.f20 _ _ _ rfl Try.func20 rfl Try.ntmps20 rfl]
    simp -implicitDefEqProofs (disch := decide +kernel) only [go_sem, ↓reduceIte, Nat.reduceSub, Nat.reduceAdd, Nat.reduceMul, Nat.reduceBEq, Nat.reduceLT, Nat.reduceLeDiff, Nat.reduceEqDiff, reduceCtorEq, Int.reduceToNat, Int.reduceLE, Int.reduceLT, Int.reduceBEq, Int.reduceBNe, mCall, hm, h0]
theorem rDn_spec (t : Tm) (hs : t.size < room) (hl : vlowB t = true) (b f : Int) : (lim C).call 22 [dT t, dI b, dI f] [] = some (.ret (.tup [dT (if renB t b f && dnB t b f then dnT t b f else zT), dB (renB t b f && dnB t b f)]), []) := by
  have hr : room = 1099511627776 := rfl
  have hm := rsmay_spec t hs b f
  cases h : renB t b f
  · rw [h] at hm
    rw [ev_fn 22 Try.f22 _ _ _ rfl Try.func22 rfl Try.ntmps22 rfl]
    simp -implicitDefEqProofs (disch := decide +kernel) only [go_sem, ↓reduceIte, Nat.reduceSub, Nat.reduceAdd, Nat.reduceMul, Nat.reduceBEq, Nat.reduceLT, Nat.reduceLeDiff, Nat.reduceEqDiff, reduceCtorEq, Int.reduceToNat, Int.reduceLE, Int.reduceLT, Int.reduceBEq, Int.reduceBNe, mCall, hm, zT_enc]
  · rw [h] at hm
    simp only [renB, Bool.and_eq_true, decide_eq_true_eq] at h
    have h0 := rdn_spec t hs b f hl (may_parts h.1.1.1.1).1 ⟨by omega, by omega⟩ ⟨by omega, by omega⟩
    rw [Bool.true_and]
    rw [ev_fn 22 Try.f22 _ _ _ rfl Try.func22 rfl Try.ntmps22 rfl]
    simp -implicitDefEqProofs (disch := decide +kernel) only [go_sem, ↓reduceIte, Nat.reduceSub, Nat.reduceAdd, Nat.reduceMul, Nat.reduceBEq, Nat.reduceLT, Nat.reduceLeDiff, Nat.reduceEqDiff, reduceCtorEq, Int.reduceToNat, Int.reduceLE, Int.reduceLT, Int.reduceBEq, Int.reduceBNe, mCall, hm, h0]
end Go.Proofs.Ytojahppjdimdbaa
