/- The reference of layer 4: Fill, Ctx, All. -/
import Derived.Test.YtmemmdfjlhamfaaF42
set_option linter.unusedSimpArgs false
set_option linter.unusedVariables false
set_option maxRecDepth 100000
namespace Go.Proofs.Ytmemmdfjlhamfaa
open Go.Proofs
def rfl_S (t : Tm) (th : List Tm) (n : Int) (i : Nat) : St := mk 63 [(1, dL th), (2, dI n), (3, .lref 3 0), (6, .lref 6 0), (9, dI i)] [(3, cel3 t), (6, zc3)] [] []
theorem rFill_spec {th : List Tm} {K : Int} (h : ThOk K th) (t : Tm) (hs : t.size ≤ 1048576) (hv : vleB K t = true) (n : Int) :
    ∃ h, (lim C).call 25 [dT t, dL th, dI n] [] = some (.ret (.tup [dT (FillR t th n).1, dI (FillR t th n).2]), h) := by
  have hr : room = 1099511627776 := rfl
  have hlt := h.len
  have ho := may_spec t (by omega)
  have hee := (enc_eq t).symm
  have hsz := fun hm => fillM_size h (n := n) hs hv hm
  have htop : fillOk t th n = true → ∃ h, (lim C).call 59 [dT t, dL th, dI n] [] = some (.ret (.tup [dT (fillM th t n).1, dI (fillM th t n).2]), h) := fun ho => by
    obtain ⟨p1, p2, p3, p4, p5⟩ := fillOk_parts ho
    have hp := may_parts p1
    have := h.top
    exact rfill_spec h.h0 (fun x hx => ⟨p5 x hx, (h.all x hx).2⟩) h.len t hs hp.1 hv (by omega) n p2 (by omega)
  have hloop : (lim C).code 25 (.loop (cf (cf (cs (cf (cs (cs (cs (bodyOf Try.f25))))))))) (rfl_S t th n 0) = some (if allB th.length (fun k => mayB (th.getD k default)) then (.exit 0, mk 63 [(1, dL th), (2, dI n), (3, .lref 3 0), (6, .lref 6 0), (9, dI th.length), (35, dB false)] [(3, cel3 t), (6, zc3)] [] []) else (.ret, mk 63 [(6, .lref 6 0), (7, dI 1)] [(6, zc3)] [] [])) := by
    refine loop_all (rfl_S t th n) th.length _ (fun k hk hp => ?_) (fun k hk hp => ?_) ?_ (by simp) (by simp)
    · have hc := may_spec (th.getD k default) (h.all _ (getD_mem hk)).1
      rw [hp] at hc
      simp -implicitDefEqProofs (disch := decide +kernel) only [cf, cs, bodyOf, Try.f25, Option.getD_some, go_sem, ↓reduceIte, Nat.reduceSub, Nat.reduceAdd, Nat.reduceMul, Nat.reduceBEq, Nat.reduceLT, Nat.reduceLeDiff, Nat.reduceEqDiff, reduceCtorEq, Int.reduceToNat, Int.reduceLE, Int.reduceLT, Int.reduceBEq, Int.reduceBNe, mCall, rfl_S, cel3, zc3, lt_true hk, getD_get hk, hc, wrap_succ (n := k) (by omega)]
    · have hc := may_spec (th.getD k default) (h.all _ (getD_mem hk)).1
      rw [hp] at hc
      simp -implicitDefEqProofs (disch := decide +kernel) only [cf, cs, bodyOf, Try.f25, Option.getD_some, go_sem, ↓reduceIte, Nat.reduceSub, Nat.reduceAdd, Nat.reduceMul, Nat.reduceBEq, Nat.reduceLT, Nat.reduceLeDiff, Nat.reduceEqDiff, reduceCtorEq, Int.reduceToNat, Int.reduceLE, Int.reduceLT, Int.reduceBEq, Int.reduceBNe, mCall, rfl_S, cel3, zc3, lt_true hk, getD_get hk, hc]
    · simp -implicitDefEqProofs (disch := decide +kernel) only [cf, cs, bodyOf, Try.f25, Option.getD_some, go_sem, ↓reduceIte, Nat.reduceSub, Nat.reduceAdd, Nat.reduceMul, Nat.reduceBEq, Nat.reduceLT, Nat.reduceLeDiff, Nat.reduceEqDiff, reduceCtorEq, Int.reduceToNat, Int.reduceLE, Int.reduceLT, Int.reduceBEq, Int.reduceBNe, mCall, rfl_S, cel3, zc3, lt_false (Nat.le_refl th.length)]
  have hm : maysB th = allB th.length (fun k => mayB (th.getD k default)) := rfl
  rw [← hm] at hloop
  refine ⟨[], ?_⟩
  unfold FillR fillOk
  unfold fillOk at htop
  rw [ev_fn 25 Try.f25 _ _ _ rfl Try.func25 rfl Try.ntmps25 rfl]
  cases h1 : mayB t
  · simp -implicitDefEqProofs (disch := decide +kernel) only [go_sem, ↓reduceIte, Nat.reduceSub, Nat.reduceAdd, Nat.reduceMul, Nat.reduceBEq, Nat.reduceLT, Nat.reduceLeDiff, Nat.reduceEqDiff, reduceCtorEq, Int.reduceToNat, Int.reduceLE, Int.reduceLT, Int.reduceBEq, Int.reduceBNe, mCall, cells_enc, cel3, hee, ho, zT_enc, h1]
  · skip
    cases h2 : decide (n < 0)
    rotate_left
    · simp -implicitDefEqProofs (disch := decide +kernel) only [go_sem, ↓reduceIte, Nat.reduceSub, Nat.reduceAdd, Nat.reduceMul, Nat.reduceBEq, Nat.reduceLT, Nat.reduceLeDiff, Nat.reduceEqDiff, reduceCtorEq, Int.reduceToNat, Int.reduceLE, Int.reduceLT, Int.reduceBEq, Int.reduceBNe, mCall, cells_enc, cel3, hee, ho, zT_enc, h1, h2]
    cases h3 : decide (n > 1000)
    rotate_left
    · simp -implicitDefEqProofs (disch := decide +kernel) only [go_sem, ↓reduceIte, Nat.reduceSub, Nat.reduceAdd, Nat.reduceMul, Nat.reduceBEq, Nat.reduceLT, Nat.reduceLeDiff, Nat.reduceEqDiff, reduceCtorEq, Int.reduceToNat, Int.reduceLE, Int.reduceLT, Int.reduceBEq, Int.reduceBNe, mCall, cells_enc, cel3, hee, ho, zT_enc, h1, h2, h3]
    cases h4 : decide ((th.length : Int) > 200)
    rotate_left
    · simp -implicitDefEqProofs (disch := decide +kernel) only [go_sem, ↓reduceIte, Nat.reduceSub, Nat.reduceAdd, Nat.reduceMul, Nat.reduceBEq, Nat.reduceLT, Nat.reduceLeDiff, Nat.reduceEqDiff, reduceCtorEq, Int.reduceToNat, Int.reduceLE, Int.reduceLT, Int.reduceBEq, Int.reduceBNe, mCall, cells_enc, cel3, hee, ho, zT_enc, h1, h2, h3, h4]
    cases h5 : maysB th
    · rw [h5, if_neg (by simp)] at hloop
      simp -implicitDefEqProofs (disch := decide +kernel) only [go_sem, ↓reduceIte, Nat.reduceSub, Nat.reduceAdd, Nat.reduceMul, Nat.reduceBEq, Nat.reduceLT, Nat.reduceLeDiff, Nat.reduceEqDiff, reduceCtorEq, Int.reduceToNat, Int.reduceLE, Int.reduceLT, Int.reduceBEq, Int.reduceBNe, mCall, cells_enc, cel3, hee, ho, h1, h2, h3, h4]
      rw [loop_at hloop ?hb ?hs]
      case hb => rfl
      case hs => rfl
      simp -implicitDefEqProofs (disch := decide +kernel) only [go_sem, ↓reduceIte, Nat.reduceSub, Nat.reduceAdd, Nat.reduceMul, Nat.reduceBEq, Nat.reduceLT, Nat.reduceLeDiff, Nat.reduceEqDiff, reduceCtorEq, Int.reduceToNat, Int.reduceLE, Int.reduceLT, Int.reduceBEq, Int.reduceBNe, mCall, zc3, zT_enc]
    rw [h5, if_pos rfl] at hloop
    rw [h1, h2, h3, h4, h5] at htop
    obtain ⟨h', hf⟩ := htop rfl
    have hsz := hsz h1
    unfold fillW
    generalize fillM th t n = rr at hf hsz ⊢
    simp -implicitDefEqProofs (disch := decide +kernel) only [go_sem, ↓reduceIte, Nat.reduceSub, Nat.reduceAdd, Nat.reduceMul, Nat.reduceBEq, Nat.reduceLT, Nat.reduceLeDiff, Nat.reduceEqDiff, reduceCtorEq, Int.reduceToNat, Int.reduceLE, Int.reduceLT, Int.reduceBEq, Int.reduceBNe, mCall, cells_enc, cel3, hee, ho, h1, h2, h3, h4]
    rw [loop_at hloop ?hb ?hs]
    case hb => rfl
    case hs => rfl
    cases h6 : (rr.2 != 0)
    · have h6' : rr.2 = 0 := by simpa using h6
      have ho2 := may_spec rr.1 hsz
      rw [if_pos h6']
      cases h7 : mayB rr.1
      · rw [h7] at ho2
        simp -implicitDefEqProofs (disch := decide +kernel) only [go_sem, ↓reduceIte, Nat.reduceSub, Nat.reduceAdd, Nat.reduceMul, Nat.reduceBEq, Nat.reduceLT, Nat.reduceLeDiff, Nat.reduceEqDiff, reduceCtorEq, Int.reduceToNat, Int.reduceLE, Int.reduceLT, Int.reduceBEq, Int.reduceBNe, mCall, zc3, cells_enc, cel3, hee, hf, h6, ho2, (enc_eq rr.1).symm, zT_enc]
      · rw [h7] at ho2
        simp -implicitDefEqProofs (disch := decide +kernel) only [go_sem, ↓reduceIte, Nat.reduceSub, Nat.reduceAdd, Nat.reduceMul, Nat.reduceBEq, Nat.reduceLT, Nat.reduceLeDiff, Nat.reduceEqDiff, reduceCtorEq, Int.reduceToNat, Int.reduceLE, Int.reduceLT, Int.reduceBEq, Int.reduceBNe, mCall, zc3, cells_enc, cel3, hee, hf, h6, ho2, (enc_eq rr.1).symm, zT_enc]
    · have h6' : ¬ rr.2 = 0 := by simpa using h6
      rw [if_neg h6']
      simp -implicitDefEqProofs (disch := decide +kernel) only [go_sem, ↓reduceIte, Nat.reduceSub, Nat.reduceAdd, Nat.reduceMul, Nat.reduceBEq, Nat.reduceLT, Nat.reduceLeDiff, Nat.reduceEqDiff, reduceCtorEq, Int.reduceToNat, Int.reduceLE, Int.reduceLT, Int.reduceBEq, Int.reduceBNe, mCall, zc3, cells_enc, cel3, hee, hf, h6, (enc_eq rr.1).symm, zT_enc]
def rcx_S (l th : List Tm) (n : Int) (F : Nat → Tm × Int) (i : Nat) : St := mk 38 [(0, dL l), (1, dL th), (2, dI n), (8, acc 0 (encs (outs (fsts F) i))), (9, dI i)] [] [] (accT i)
theorem rCtx_spec {th : List Tm} {K : Int} (h : ThOk K th) (l : List Tm) (hl : LOk K l) (n : Int) (hn : in64 n) :
    ∃ h, (lim C).call 28 [dL l, dL th, dI n] [] = some (.ret (.tup [dL (CtxR l th n).1, dI (CtxR l th n).2]), h) := by
  have hr : room = 1099511627776 := rfl
  have hll := hl.len
  have hrec : ∀ i, i < l.length → ∃ h, (lim C).call 25 [dT (l.getD i default), dL th, dI (n + i)] [] = some (.ret (.tup [dT (FillR (l.getD i default) th (n + i)).1, dI (FillR (l.getD i default) th (n + i)).2]), h) := fun i hi =>
    rFill_spec h (l.getD i default) (hl.at hi).1 (hl.at hi).2 (n + i)
  have hrec : ∀ i, i < l.length → ∃ h, (lim C).call 25 [dT (l.getD i default), dL th, dI (n + i)] [] = some (.ret (.tup [dT ((fun i : Nat => FillR (l.getD i default) th (n + i)) i).1, dI ((fun i : Nat => FillR (l.getD i default) th (n + i)) i).2]), h) := hrec
  have hwr : ∀ i, i < l.length → (∀ j, j < i → ((fun i : Nat => FillR (l.getD i default) th (n + i)) j).2 = 0) → IntKind.wrap .i64 (n + (i : Int)) = n + i := fun i hi hb => ctx_wrap hn hll hi hb
  unfold CtxR
  generalize (fun i : Nat => FillR (l.getD i default) th (n + i)) = F at hrec hwr ⊢
  have hstep : ∀ i, i < l.length → (∀ j, j ≤ i → (F j).2 = 0) → (lim C).code 28 (cf (.loop (cf (cf (cs (cf (cs (cs (bodyOf Try.f28))))))))) (rcx_S l th n F i) = some (.nor, rcx_S l th n F (i + 1)) := fun i hi he => by
    obtain ⟨h, hc⟩ := hrec i hi
    rw [he i (Nat.le_refl i)] at hc
    have hw := hwr i hi fun j hj => he j (by omega)
    have hln : (encs (outs (fsts F) i)).length = i := by simp [encs, outs]
    have hap := fun locs heap => mApp_acc (encs (outs (fsts F) i)) (enc (F i).1) 3 locs heap (by rw [hln]; omega) (encs_all _) (enc_width _)
    have hsn : encs (outs (fsts F) i) ++ [enc (F i).1] = encs (outs (fsts F) (i + 1)) := by unfold outs; rw [List.range_succ, List.map_append, encs_append]; rfl
    rw [hln, hsn] at hap
    simp -implicitDefEqProofs (disch := decide +kernel) only [cf, cs, bodyOf, Try.f28, Option.getD_some, go_sem, ↓reduceIte, Nat.reduceSub, Nat.reduceAdd, Nat.reduceMul, Nat.reduceBEq, Nat.reduceLT, Nat.reduceLeDiff, Nat.reduceEqDiff, reduceCtorEq, Int.reduceToNat, Int.reduceLE, Int.reduceLT, Int.reduceBEq, Int.reduceBNe, mCall, rcx_S, cells_enc, cel3, lt_true hi, getD_get hi, hw, hc, hap, (enc_eq (F i).1).symm, wrap_succ (n := i) (by omega)]
  refine ⟨[], ?_⟩
  rw [ev_fn 28 Try.f28 _ _ _ rfl Try.func28 rfl Try.ntmps28 rfl]
  by_cases he : firstE F l.length = 0
  · have hz := (firstE_zero _ _).1 he
    have hloop : (lim C).code 28 (.loop (cf (cf (cs (cf (cs (cs (bodyOf Try.f28)))))))) (rcx_S l th n F 0) = some (.exit 0, mk 38 [(0, dL l), (1, dL th), (2, dI n), (8, acc 0 (encs (outs (fsts F) l.length))), (9, dI l.length), (15, dB false)] [] [] (accT l.length)) := by
      refine loop_run (rcx_S l th n F) l.length (fun i hi => hstep i hi fun j hj => hz j (by omega)) ?_ (by simp)
      simp -implicitDefEqProofs (disch := decide +kernel) only [cf, cs, bodyOf, Try.f28, Option.getD_some, go_sem, ↓reduceIte, Nat.reduceSub, Nat.reduceAdd, Nat.reduceMul, Nat.reduceBEq, Nat.reduceLT, Nat.reduceLeDiff, Nat.reduceEqDiff, reduceCtorEq, Int.reduceToNat, Int.reduceLE, Int.reduceLT, Int.reduceBEq, Int.reduceBNe, mCall, rcx_S, lt_false (Nat.le_refl l.length)]
    rw [eachR_all hz]
    simp -implicitDefEqProofs (disch := decide +kernel) only [go_sem, ↓reduceIte, Nat.reduceSub, Nat.reduceAdd, Nat.reduceMul, Nat.reduceBEq, Nat.reduceLT, Nat.reduceLeDiff, Nat.reduceEqDiff, reduceCtorEq, Int.reduceToNat, Int.reduceLE, Int.reduceLT, Int.reduceBEq, Int.reduceBNe, mCall]
    rw [loop_at hloop ?hb ?hs]
    case hb => rfl
    case hs => rfl
    simp -implicitDefEqProofs (disch := decide +kernel) only [go_sem, ↓reduceIte, Nat.reduceSub, Nat.reduceAdd, Nat.reduceMul, Nat.reduceBEq, Nat.reduceLT, Nat.reduceLeDiff, Nat.reduceEqDiff, reduceCtorEq, Int.reduceToNat, Int.reduceLE, Int.reduceLT, Int.reduceBEq, Int.reduceBNe, mCall, acc_drop]
  · obtain ⟨j, hj, hp, hb⟩ := firstE_at _ _ he
    have hne : ((F j).2 != 0) = true := by rw [hp]; simpa using he
    have hloop : (lim C).code 28 (.loop (cf (cf (cs (cf (cs (cs (bodyOf Try.f28)))))))) (rcx_S l th n F 0) = some (.ret, mk 38 [(6, .clip []), (7, dI (F j).2)] [] [] (accT j)) := by
      refine loop_run (rcx_S l th n F) j (fun i hi => hstep i (by omega) fun k hk => hb k (by omega)) ?_ (by simp)
      obtain ⟨h, hc⟩ := hrec j hj
      have hw := hwr j hj hb
      simp -implicitDefEqProofs (disch := decide +kernel) only [cf, cs, bodyOf, Try.f28, Option.getD_some, go_sem, ↓reduceIte, Nat.reduceSub, Nat.reduceAdd, Nat.reduceMul, Nat.reduceBEq, Nat.reduceLT, Nat.reduceLeDiff, Nat.reduceEqDiff, reduceCtorEq, Int.reduceToNat, Int.reduceLE, Int.reduceLT, Int.reduceBEq, Int.reduceBNe, mCall, rcx_S, cells_enc, cel3, lt_true hj, getD_get hj, hw, hc, hne, (enc_eq (F j).1).symm]
    have hres : eachR F l.length = ([], (F j).2) := by unfold eachR; rw [if_neg he, hp]
    rw [hres]
    simp -implicitDefEqProofs (disch := decide +kernel) only [go_sem, ↓reduceIte, Nat.reduceSub, Nat.reduceAdd, Nat.reduceMul, Nat.reduceBEq, Nat.reduceLT, Nat.reduceLeDiff, Nat.reduceEqDiff, reduceCtorEq, Int.reduceToNat, Int.reduceLE, Int.reduceLT, Int.reduceBEq, Int.reduceBNe, mCall]
    rw [loop_at hloop ?hb ?hs]
    case hb => rfl
    case hs => rfl
    simp -implicitDefEqProofs (disch := decide +kernel) only [go_sem, ↓reduceIte, Nat.reduceSub, Nat.reduceAdd, Nat.reduceMul, Nat.reduceBEq, Nat.reduceLT, Nat.reduceLeDiff, Nat.reduceEqDiff, reduceCtorEq, Int.reduceToNat, Int.reduceLE, Int.reduceLT, Int.reduceBEq, Int.reduceBNe, mCall]
    rfl
def ral_S (l th : List Tm) (ns : List Int) (F : Nat → Tm × Int) (i : Nat) : St := mk 44 [(0, dL l), (1, dL th), (2, .d (.slc (encIs ns))), (8, acc 0 (encs (outs (fsts F) i))), (9, dI i)] [] [] (accT i)
theorem rAll_spec {th : List Tm} {K : Int} (h : ThOk K th) (l : List Tm) (hl : LOk K l) (ns : List Int) :
    ∃ h, (lim C).call 31 [dL l, dL th, .d (.slc (encIs ns))] [] = some (.ret (.tup [dL (AllR l th ns).1, dI (AllR l th ns).2]), h) := by
  have hr : room = 1099511627776 := rfl
  have hll := hl.len
  have hln : ((ns.length : Int) != (l.length : Int)) = !decide (ns.length = l.length) := by
    by_cases he : ns.length = l.length
    · simp [he]
    · simp [he]; omega
  refine ⟨[], ?_⟩
  unfold AllR
  by_cases hnl : ns.length = l.length
  · have hne0 : ((ns.length : Int) != (l.length : Int)) = false := by rw [hln]; simp [hnl]
    rw [if_pos hnl]
    have hrec : ∀ i, i < l.length → ∃ h, (lim C).call 25 [dT (l.getD i default), dL th, dI (ns.getD i 0)] [] = some (.ret (.tup [dT ((fun i : Nat => FillR (l.getD i default) th (ns.getD i 0)) i).1, dI ((fun i : Nat => FillR (l.getD i default) th (ns.getD i 0)) i).2]), h) := fun i hi =>
      rFill_spec h (l.getD i default) (hl.at hi).1 (hl.at hi).2 (ns.getD i 0)
    generalize (fun i : Nat => FillR (l.getD i default) th (ns.getD i 0)) = F at hrec ⊢
    have hstep : ∀ i, i < l.length → (F i).2 = 0 → (lim C).code 31 (cf (.loop (cf (cf (cs (cf (cs (cs (cs (bodyOf Try.f31)))))))))) (ral_S l th ns F i) = some (.nor, ral_S l th ns F (i + 1)) := fun i hi he => by
      obtain ⟨h, hc⟩ := hrec i hi
      rw [he] at hc
      have hln : (encs (outs (fsts F) i)).length = i := by simp [encs, outs]
      have hap := fun locs heap => mApp_acc (encs (outs (fsts F) i)) (enc (F i).1) 3 locs heap (by rw [hln]; omega) (encs_all _) (enc_width _)
      have hsn : encs (outs (fsts F) i) ++ [enc (F i).1] = encs (outs (fsts F) (i + 1)) := by unfold outs; rw [List.range_succ, List.map_append, encs_append]; rfl
      rw [hln, hsn] at hap
      have hni : i < ns.length := by omega
      simp -implicitDefEqProofs (disch := decide +kernel) only [cf, cs, bodyOf, Try.f31, Option.getD_some, go_sem, ↓reduceIte, Nat.reduceSub, Nat.reduceAdd, Nat.reduceMul, Nat.reduceBEq, Nat.reduceLT, Nat.reduceLeDiff, Nat.reduceEqDiff, reduceCtorEq, Int.reduceToNat, Int.reduceLE, Int.reduceLT, Int.reduceBEq, Int.reduceBNe, mCall, ral_S, cells_enc, cel3, lt_true hi, getD_get hi, encIs_get hni, encIs_len, wid_int, cel_int, hc, hap, (enc_eq (F i).1).symm, wrap_succ (n := i) (by omega)]
    rw [ev_fn 31 Try.f31 _ _ _ rfl Try.func31 rfl Try.ntmps31 rfl]
    by_cases he : firstE F l.length = 0
    · have hz := (firstE_zero _ _).1 he
      have hloop : (lim C).code 31 (.loop (cf (cf (cs (cf (cs (cs (cs (bodyOf Try.f31))))))))) (ral_S l th ns F 0) = some (.exit 0, mk 44 [(0, dL l), (1, dL th), (2, .d (.slc (encIs ns))), (8, acc 0 (encs (outs (fsts F) l.length))), (9, dI l.length), (20, dB false)] [] [] (accT l.length)) := by
        refine loop_run (ral_S l th ns F) l.length (fun i hi => hstep i hi (hz i hi)) ?_ (by simp)
        simp -implicitDefEqProofs (disch := decide +kernel) only [cf, cs, bodyOf, Try.f31, Option.getD_some, go_sem, ↓reduceIte, Nat.reduceSub, Nat.reduceAdd, Nat.reduceMul, Nat.reduceBEq, Nat.reduceLT, Nat.reduceLeDiff, Nat.reduceEqDiff, reduceCtorEq, Int.reduceToNat, Int.reduceLE, Int.reduceLT, Int.reduceBEq, Int.reduceBNe, mCall, ral_S, lt_false (Nat.le_refl l.length)]
      rw [eachR_all hz]
      simp -implicitDefEqProofs (disch := decide +kernel) only [go_sem, ↓reduceIte, Nat.reduceSub, Nat.reduceAdd, Nat.reduceMul, Nat.reduceBEq, Nat.reduceLT, Nat.reduceLeDiff, Nat.reduceEqDiff, reduceCtorEq, Int.reduceToNat, Int.reduceLE, Int.reduceLT, Int.reduceBEq, Int.reduceBNe, mCall, hne0, encIs_len]
      rw [loop_at hloop ?hb ?hs]
      case hb => rfl
      case hs => rfl
      simp -implicitDefEqProofs (disch := decide +kernel) only [go_sem, ↓reduceIte, Nat.reduceSub, Nat.reduceAdd, Nat.reduceMul, Nat.reduceBEq, Nat.reduceLT, Nat.reduceLeDiff, Nat.reduceEqDiff, reduceCtorEq, Int.reduceToNat, Int.reduceLE, Int.reduceLT, Int.reduceBEq, Int.reduceBNe, mCall, acc_drop]
    · obtain ⟨j, hj, hp, hb⟩ := firstE_at _ _ he
      have hne : ((F j).2 != 0) = true := by rw [hp]; simpa using he
      have hnj : j < ns.length := by omega
      have hloop : (lim C).code 31 (.loop (cf (cf (cs (cf (cs (cs (cs (bodyOf Try.f31))))))))) (ral_S l th ns F 0) = some (.ret, mk 44 [(6, .clip []), (7, dI (F j).2)] [] [] (accT j)) := by
        refine loop_run (ral_S l th ns F) j (fun i hi => hstep i (by omega) (hb i hi)) ?_ (by simp)
        obtain ⟨h, hc⟩ := hrec j hj
        simp -implicitDefEqProofs (disch := decide +kernel) only [cf, cs, bodyOf, Try.f31, Option.getD_some, go_sem, ↓reduceIte, Nat.reduceSub, Nat.reduceAdd, Nat.reduceMul, Nat.reduceBEq, Nat.reduceLT, Nat.reduceLeDiff, Nat.reduceEqDiff, reduceCtorEq, Int.reduceToNat, Int.reduceLE, Int.reduceLT, Int.reduceBEq, Int.reduceBNe, mCall, ral_S, cells_enc, cel3, lt_true hj, getD_get hj, encIs_get hnj, encIs_len, wid_int, cel_int, hc, hne, (enc_eq (F j).1).symm]
      have hres : eachR F l.length = ([], (F j).2) := by unfold eachR; rw [if_neg he, hp]
      rw [hres]
      simp -implicitDefEqProofs (disch := decide +kernel) only [go_sem, ↓reduceIte, Nat.reduceSub, Nat.reduceAdd, Nat.reduceMul, Nat.reduceBEq, Nat.reduceLT, Nat.reduceLeDiff, Nat.reduceEqDiff, reduceCtorEq, Int.reduceToNat, Int.reduceLE, Int.reduceLT, Int.reduceBEq, Int.reduceBNe, mCall, hne0, encIs_len]
      rw [loop_at hloop ?hb ?hs]
      case hb => rfl
      case hs => rfl
      simp -implicitDefEqProofs (disch := decide +kernel) only [go_sem, ↓reduceIte, Nat.reduceSub, Nat.reduceAdd, Nat.reduceMul, Nat.reduceBEq, Nat.reduceLT, Nat.reduceLeDiff, Nat.reduceEqDiff, reduceCtorEq, Int.reduceToNat, Int.reduceLE, Int.reduceLT, Int.reduceBEq, Int.reduceBNe, mCall]
      rfl
  · have hne0 : ((ns.length : Int) != (l.length : Int)) = true := by rw [hln]; simp [hnl]
    rw [if_neg hnl]
    rw [ev_fn 31 Try.f31 _ _ _ rfl Try.func31 rfl Try.ntmps31 rfl]
    simp -implicitDefEqProofs (disch := decide +kernel) only [go_sem, ↓reduceIte, Nat.reduceSub, Nat.reduceAdd, Nat.reduceMul, Nat.reduceBEq, Nat.reduceLT, Nat.reduceLeDiff, Nat.reduceEqDiff, reduceCtorEq, Int.reduceToNat, Int.reduceLE, Int.reduceLT, Int.reduceBEq, Int.reduceBNe, mCall, hne0, encIs_len]
    rfl
end Go.Proofs.Ytmemmdfjlhamfaa
