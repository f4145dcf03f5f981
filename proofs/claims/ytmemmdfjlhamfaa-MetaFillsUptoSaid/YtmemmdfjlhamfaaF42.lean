/- The reference of layer 4. -/
import Derived.Test.YtmemmdfjlhamfaaF41
set_option linter.unusedSimpArgs false
set_option linter.unusedVariables false
set_option maxRecDepth 100000
namespace Go.Proofs.Ytmemmdfjlhamfaa
open Go.Proofs
def zr3 : List AV := [dI 0, dI 0, .d (.slc [])]
def rfi_S (t : Tm) (th : List Tm) (n : Int) (F : Nat → Tm × Int) (i : Nat) : St :=
  mk 91 [(1, dL th), (2, dI n), (3, .lref 3 0), (6, .lref 6 0), (8, .lref 8 0), (9, acc 0 (encs (outs (fsts F) i))), (10, dI i)] [(3, cel3 t), (6, zc3), (8, zc3)] [] (accT i)
theorem rfi_step {t : Tm} {th : List Tm} {n : Int} {F : Nat → Tm × Int} {i : Nat} {e : Int} {h : List HO} (hi : i < t.args.length) (hs : t.size < room) (hn : 0 ≤ n ∧ n + t.size < 4000000000000000000) (he : (F i).2 = 0)
    (hrec : (lim C).call 59 [dT (t.arg i), dL th, dI (n + bnd t i)] [] = some (.ret (.tup [dT (F i).1, dI (F i).2]), h)) :
    (lim C).code 59 (cf (.loop (cf (cf (cs (cf (cs (cs (cs (bodyOf Try.f59)))))))))) (rfi_S t th n F i) = some (.nor, rfi_S t th n F (i + 1)) := by
  have hr : room = 1099511627776 := rfl
  have hl := len_size t
  have hbl := bnd_le t i
  rw [he] at hrec
  have hw : IntKind.wrap .i64 (n + (bnd t i : Int)) = n + bnd t i := wrap_ok (by omega) (by omega)
  have hln : (encs (outs (fsts F) i)).length = i := by simp [encs, outs]
  have hap := fun locs heap => mApp_acc (encs (outs (fsts F) i)) (enc (F i).1) 3 locs heap (by rw [hln]; omega) (encs_all _) (enc_width _)
  have hsn : encs (outs (fsts F) i) ++ [enc (F i).1] = encs (outs (fsts F) (i + 1)) := by unfold outs; rw [List.range_succ, List.map_append, encs_append]; rfl
  rw [hln, hsn] at hap
  simp -implicitDefEqProofs (disch := decide +kernel) only [cf, cs, bodyOf, Try.f59, Option.getD_some, go_sem, ↓reduceIte, Nat.reduceSub, Nat.reduceAdd, Nat.reduceMul, Nat.reduceBEq, Nat.reduceLT, Nat.reduceLeDiff, Nat.reduceEqDiff, reduceCtorEq, Int.reduceToNat, Int.reduceLE, Int.reduceLT, Int.reduceBEq, Int.reduceBNe, mCall, rfi_S, zc3, cel3, cells_enc, acc_keep, lt_true hi, arg_get hi, binds_spec t i hs hi, hw, hrec, hap, (enc_eq t).symm, (enc_eq (F i).1).symm, wrap_succ (n := i) (by omega)]
theorem rfi_stop {t : Tm} {th : List Tm} {n : Int} {F : Nat → Tm × Int} {i : Nat} {h : List HO} (hi : i < t.args.length) (hs : t.size < room) (hn : 0 ≤ n ∧ n + t.size < 4000000000000000000) (he : ((F i).2 != 0) = true)
    (hrec : (lim C).call 59 [dT (t.arg i), dL th, dI (n + bnd t i)] [] = some (.ret (.tup [dT (F i).1, dI (F i).2]), h)) :
    (lim C).code 59 (cf (.loop (cf (cf (cs (cf (cs (cs (cs (bodyOf Try.f59)))))))))) (rfi_S t th n F i) = some (.ret, mk 91 [(6, .lref 6 0), (7, dI (F i).2)] [(6, zr3)] [] (accT i)) := by
  have hr : room = 1099511627776 := rfl
  have hl := len_size t
  have hbl := bnd_le t i
  have hw : IntKind.wrap .i64 (n + (bnd t i : Int)) = n + bnd t i := wrap_ok (by omega) (by omega)
  simp -implicitDefEqProofs (disch := decide +kernel) only [cf, cs, bodyOf, Try.f59, Option.getD_some, go_sem, ↓reduceIte, Nat.reduceSub, Nat.reduceAdd, Nat.reduceMul, Nat.reduceBEq, Nat.reduceLT, Nat.reduceLeDiff, Nat.reduceEqDiff, reduceCtorEq, Int.reduceToNat, Int.reduceLE, Int.reduceLT, Int.reduceBEq, Int.reduceBNe, mCall, rfi_S, zc3, zr3, cel3, cells_enc, acc_keep, lt_true hi, arg_get hi, binds_spec t i hs hi, hw, hrec, he, (enc_eq t).symm, (enc_eq (F i).1).symm]
def rf2_S (t : Tm) (th : List Tm) (n : Int) (ls : List Tm) (i : Nat) : St :=
  mk 91 [(1, dL th), (2, dI n), (3, .lref 3 0), (6, .lref 6 0), (8, .lref 8 0), (9, acc 0 (encs ls)), (13, dI i)] [(3, cel3 t), (6, zc3), (8, zc3)] [] (accT ls.length)
theorem rf2_loop {t : Tm} {th : List Tm} {n : Int} {ls : List Tm} (hl : ls.length < room) (hz : ∀ x ∈ ls, x.size < room) :
    (lim C).code 59 (.loop (cf (cf (cs (cf (cs (cs (cs (cs (cs (cs (bodyOf Try.f59)))))))))))) (rf2_S t th n ls 0) = some (if allB ls.length (fun k => mayB (ls.getD k default)) then (.exit 2, mk 91 [(1, dL th), (2, dI n), (3, .lref 3 0), (6, .lref 6 0), (8, .lref 8 0), (9, acc 0 (encs ls)), (13, dI ls.length), (66, dB false)] [(3, cel3 t), (6, zc3), (8, zc3)] [] (accT ls.length)) else (.ret, mk 91 [(6, .lref 6 0), (7, dI 4)] [(6, zr3)] [] (accT ls.length))) := by
  have hr : room = 1099511627776 := rfl
  rcases Nat.eq_zero_or_pos ls.length with h0 | h0
  · obtain rfl : ls = [] := List.eq_nil_of_length_eq_zero h0
    have ha : acc 0 (encs []) = .clip [] := rfl
    refine loop_all (rf2_S t th n []) 0 _ (fun k hk hp => by omega) (fun k hk hp => by omega) ?_ (by simp) (by simp)
    have hlf : decide (((0 : Nat) : Int) < ((0 : Nat) : Int)) = false := rfl
    simp -implicitDefEqProofs (disch := decide +kernel) only [cf, cs, bodyOf, Try.f59, Option.getD_some, go_sem, ↓reduceIte, Nat.reduceSub, Nat.reduceAdd, Nat.reduceMul, Nat.reduceBEq, Nat.reduceLT, Nat.reduceLeDiff, Nat.reduceEqDiff, reduceCtorEq, Int.reduceToNat, Int.reduceLE, Int.reduceLT, Int.reduceBEq, Int.reduceBNe, mCall, rf2_S, zc3, zr3, cel3, ha, hlf, List.length_nil]
  have hacc : acc 0 (encs ls) = .own 0 (encs ls) := by
    cases ls with
    | nil => simp at h0
    | cons x xs => rfl
  refine loop_all (rf2_S t th n ls) ls.length _ (fun k hk hp => ?_) (fun k hk hp => ?_) ?_ (by simp) (by simp)
  · have hc := may_spec (ls.getD k default) (hz _ (getD_mem hk))
    rw [hp] at hc
    simp -implicitDefEqProofs (disch := decide +kernel) only [cf, cs, bodyOf, Try.f59, Option.getD_some, go_sem, ↓reduceIte, Nat.reduceSub, Nat.reduceAdd, Nat.reduceMul, Nat.reduceBEq, Nat.reduceLT, Nat.reduceLeDiff, Nat.reduceEqDiff, reduceCtorEq, Int.reduceToNat, Int.reduceLE, Int.reduceLT, Int.reduceBEq, Int.reduceBNe, mCall, rf2_S, zc3, zr3, cel3, hacc, lt_true hk, getD_get hk, hc, wrap_succ (n := k) (by omega)]
  · have hc := may_spec (ls.getD k default) (hz _ (getD_mem hk))
    rw [hp] at hc
    simp -implicitDefEqProofs (disch := decide +kernel) only [cf, cs, bodyOf, Try.f59, Option.getD_some, go_sem, ↓reduceIte, Nat.reduceSub, Nat.reduceAdd, Nat.reduceMul, Nat.reduceBEq, Nat.reduceLT, Nat.reduceLeDiff, Nat.reduceEqDiff, reduceCtorEq, Int.reduceToNat, Int.reduceLE, Int.reduceLT, Int.reduceBEq, Int.reduceBNe, mCall, rf2_S, zc3, zr3, cel3, hacc, lt_true hk, getD_get hk, hc]
  · simp -implicitDefEqProofs (disch := decide +kernel) only [cf, cs, bodyOf, Try.f59, Option.getD_some, go_sem, ↓reduceIte, Nat.reduceSub, Nat.reduceAdd, Nat.reduceMul, Nat.reduceBEq, Nat.reduceLT, Nat.reduceLeDiff, Nat.reduceEqDiff, reduceCtorEq, Int.reduceToNat, Int.reduceLE, Int.reduceLT, Int.reduceBEq, Int.reduceBNe, mCall, rf2_S, zc3, zr3, cel3, hacc, lt_false (Nat.le_refl ls.length)]
theorem rfill_spec {th : List Tm} {K : Int} (h0 : 0 ≤ K) (hth : ∀ x ∈ th, mayB x = true ∧ vleB K x = true) (hlt : th.length < room) : ∀ t : Tm, t.size ≤ 1048576 → nodesB t = true → vleB K t = true → K + 2000000 * t.depth ≤ topV → ∀ n : Int, 0 ≤ n → n + t.size < 4000000000000000000 →
    ∃ h, (lim C).call 59 [dT t, dL th, dI n] [] = some (.ret (.tup [dT (fillM th t n).1, dI (fillM th t n).2]), h) := by
  refine Tm.ind fun t ih hs hn hv hk n h1 h2 => ?_
  have hr : room = 1099511627776 := rfl
  have hl := len_size t
  have hrec : ∀ i, i < t.args.length → ∃ h, (lim C).call 59 [dT (t.arg i), dL th, dI (n + bnd t i)] [] = some (.ret (.tup [dT (fillF applyR maysB th t n i).1, dI (fillF applyR maysB th t n i).2]), h) := fun i hi => by
    have hsz := size_arg (arg_mem hi)
    have hbl := bnd_le t i
    have hd := depth_arg (arg_mem hi)
    exact ih _ (arg_mem hi) (by omega) (node_args hn i hi) (vle_args hv i hi) (by omega) (n + bnd t i) (by omega) (by omega)
  have hfit : ∀ x ∈ outs (fsts (fillF applyR maysB th t n)) t.args.length, x.size < room ∧ vleB topV x = true := fun x hx => by
    simp only [outs, List.mem_map, List.mem_range] at hx
    obtain ⟨i, hi, rfl⟩ := hx
    have hsz := size_arg (arg_mem hi)
    have hd := depth_arg (arg_mem hi)
    have hf := fill_fits h0 (fun x hx => (hth x hx).2) (t.arg i) (n + bnd t i) (node_args hn i hi) (vle_args hv i hi)
    exact ⟨by have := hf.2; show (fillM th (t.arg i) (n + bnd t i)).1.size < room; omega, vle_mono (by omega) hf.1⟩
  have hsz := fun x hx => (hfit x hx).1
  have hvl := fun x hx => (hfit x hx).2
  have hal : (outs (fsts (fillF applyR maysB th t n)) t.args.length).length = t.args.length := by simp [outs]
  have hee := (enc_eq t).symm
  refine ⟨[], ?_⟩
  rw [fillM, fillT_eq]
  rw [show ((List.range t.args.length).map fun i => (fillF applyR maysB th t n i).1) = outs (fsts (fillF applyR maysB th t n)) t.args.length from rfl]
  generalize fillF applyR maysB th t n = FF at hrec hsz hvl hal ⊢
  rw [ev_fn 59 Try.f59 _ _ _ rfl Try.func59 rfl Try.ntmps59 rfl]
  by_cases he : ¬ firstE FF t.args.length = 0
  · obtain ⟨j, hj, hp, hb⟩ := firstE_at _ _ he
    have hne : ((FF j).2 != 0) = true := by rw [hp]; simpa using he
    have hloop : (lim C).code 59 (.loop (cf (cf (cs (cf (cs (cs (cs (bodyOf Try.f59))))))))) (rfi_S t th n FF 0) = some (.ret, mk 91 [(6, .lref 6 0), (7, dI (FF j).2)] [(6, zr3)] [] (accT j)) := by
      refine loop_run (rfi_S t th n FF) j (fun i hi => ?_) ?_ (by simp)
      · obtain ⟨h, hc⟩ := hrec i (by omega)
        exact rfi_step (e := 0) (by omega) (by omega) ⟨h1, h2⟩ (hb i hi) hc
      · obtain ⟨h, hc⟩ := hrec j hj
        exact rfi_stop hj (by omega) ⟨h1, h2⟩ hne hc
    rw [if_neg he, ← hp]
    simp -implicitDefEqProofs (disch := decide +kernel) only [go_sem, ↓reduceIte, Nat.reduceSub, Nat.reduceAdd, Nat.reduceMul, Nat.reduceBEq, Nat.reduceLT, Nat.reduceLeDiff, Nat.reduceEqDiff, reduceCtorEq, Int.reduceToNat, Int.reduceLE, Int.reduceLT, Int.reduceBEq, Int.reduceBNe, mCall, zc3, cel3, cells_enc, hee]
    rw [loop_at hloop ?hb ?hs]
    case hb => rfl
    case hs => rfl
    simp -implicitDefEqProofs (disch := decide +kernel) only [go_sem, ↓reduceIte, Nat.reduceSub, Nat.reduceAdd, Nat.reduceMul, Nat.reduceBEq, Nat.reduceLT, Nat.reduceLeDiff, Nat.reduceEqDiff, reduceCtorEq, Int.reduceToNat, Int.reduceLE, Int.reduceLT, Int.reduceBEq, Int.reduceBNe, mCall, zr3, zT_enc, zT'_eq]
  · have he : firstE FF t.args.length = 0 := Classical.not_not.1 he
    have hz := (firstE_zero _ _).1 he
    have hloop : (lim C).code 59 (.loop (cf (cf (cs (cf (cs (cs (cs (bodyOf Try.f59))))))))) (rfi_S t th n FF 0) = some (.exit 0, mk 91 [(1, dL th), (2, dI n), (3, .lref 3 0), (6, .lref 6 0), (8, .lref 8 0), (9, acc 0 (encs (outs (fsts FF) t.args.length))), (10, dI t.args.length), (22, dB false)] [(3, cel3 t), (6, zc3), (8, zc3)] [] (accT t.args.length)) := by
      refine loop_run (rfi_S t th n FF) t.args.length (fun i hi => ?_) ?_ (by simp)
      · obtain ⟨h, hc⟩ := hrec i hi
        exact rfi_step (e := 0) hi (by omega) ⟨h1, h2⟩ (hz i hi) hc
      · simp -implicitDefEqProofs (disch := decide +kernel) only [cf, cs, bodyOf, Try.f59, Option.getD_some, go_sem, ↓reduceIte, Nat.reduceSub, Nat.reduceAdd, Nat.reduceMul, Nat.reduceBEq, Nat.reduceLT, Nat.reduceLeDiff, Nat.reduceEqDiff, reduceCtorEq, Int.reduceToNat, Int.reduceLE, Int.reduceLT, Int.reduceBEq, Int.reduceBNe, mCall, rfi_S, zc3, cel3, acc_keep, lt_false (Nat.le_refl t.args.length)]
    rw [if_pos he]
    generalize outs (fsts FF) t.args.length = ls at hloop hsz hvl hal ⊢
    unfold fillN
    simp -implicitDefEqProofs (disch := decide +kernel) only [go_sem, ↓reduceIte, Nat.reduceSub, Nat.reduceAdd, Nat.reduceMul, Nat.reduceBEq, Nat.reduceLT, Nat.reduceLeDiff, Nat.reduceEqDiff, reduceCtorEq, Int.reduceToNat, Int.reduceLE, Int.reduceLT, Int.reduceBEq, Int.reduceBNe, mCall, zc3, cel3, cells_enc, hee]
    rw [loop_at hloop ?hb ?hs]
    case hb => rfl
    case hs => rfl
    cases k6 : (t.kind != 6)
    · have k6' : t.kind = 6 := by simpa using k6
      have hh := node_head (node_here hn)
      rw [if_neg (by simpa using k6')]
      cases hge : decide (t.head ≥ th.length)
      · have hge' : ¬ t.head ≥ th.length := by simpa using hge
        rw [if_neg hge']
        have hlt2 : t.head.toNat < th.length := by omega
        have hl2 := rf2_loop (t := t) (th := th) (n := n) (ls := ls) (by rw [hal]; omega) hsz
        have hm : (allB ls.length fun k => mayB (ls.getD k default)) = maysB ls := rfl
        rw [hm] at hl2
        rw [← hal]
        cases hma : maysB ls
        · rw [hma, if_neg (by simp)] at hl2
          simp -implicitDefEqProofs (disch := decide +kernel) only [go_sem, ↓reduceIte, Nat.reduceSub, Nat.reduceAdd, Nat.reduceMul, Nat.reduceBEq, Nat.reduceLT, Nat.reduceLeDiff, Nat.reduceEqDiff, reduceCtorEq, Int.reduceToNat, Int.reduceLE, Int.reduceLT, Int.reduceBEq, Int.reduceBNe, mCall, zc3, cel3, cells_enc, k6, hge]
          rw [loop_at hl2 ?hb ?hs]
          case hb => rfl
          case hs => rfl
          simp -implicitDefEqProofs (disch := decide +kernel) only [go_sem, ↓reduceIte, Nat.reduceSub, Nat.reduceAdd, Nat.reduceMul, Nat.reduceBEq, Nat.reduceLT, Nat.reduceLeDiff, Nat.reduceEqDiff, reduceCtorEq, Int.reduceToNat, Int.reduceLE, Int.reduceLT, Int.reduceBEq, Int.reduceBNe, mCall, zr3, zT_enc, zT'_eq]
        · rw [hma, if_pos rfl] at hl2
          simp -implicitDefEqProofs (disch := decide +kernel) only [go_sem, ↓reduceIte, Nat.reduceSub, Nat.reduceAdd, Nat.reduceMul, Nat.reduceBEq, Nat.reduceLT, Nat.reduceLeDiff, Nat.reduceEqDiff, reduceCtorEq, Int.reduceToNat, Int.reduceLE, Int.reduceLT, Int.reduceBEq, Int.reduceBNe, mCall, zc3, cel3, cells_enc, k6, hge]
          rw [loop_at hl2 ?hb ?hs]
          case hb => rfl
          case hs => rfl
          have hmem : th.getD t.head.toNat default ∈ th := by rw [List.getD_eq_getElem?_getD, List.getElem?_eq_getElem hlt2]; exact List.getElem_mem _
          obtain ⟨h', hap⟩ := rapply_spec (th.getD t.head.toNat default) ⟨ls, n⟩ (by have := (may_parts (hth _ hmem).1).2.1; omega) hsz (by rw [hal]; omega) (vle_mono (by omega) (hth _ hmem).2) hvl
          have hes := encS_mk ls n
          have hgt := getD_get hlt2
          have hhn : 0 ≤ t.head := hh
          generalize applyR (th.getD t.head.toNat default) ⟨ls, n⟩ = rr at hap ⊢
          simp -implicitDefEqProofs (disch := decide +kernel) only [go_sem, ↓reduceIte, Nat.reduceSub, Nat.reduceAdd, Nat.reduceMul, Nat.reduceBEq, Nat.reduceLT, Nat.reduceLeDiff, Nat.reduceEqDiff, reduceCtorEq, Int.reduceToNat, Int.reduceLE, Int.reduceLT, Int.reduceBEq, Int.reduceBNe, mCall, zc3, cel3, cells_enc, acc_drop, acc_keep, hee, hgt, hhn, hes, hap, (enc_eq rr.1).symm]
      · rw [if_pos (by simpa using hge)]
        simp -implicitDefEqProofs (disch := decide +kernel) only [go_sem, ↓reduceIte, Nat.reduceSub, Nat.reduceAdd, Nat.reduceMul, Nat.reduceBEq, Nat.reduceLT, Nat.reduceLeDiff, Nat.reduceEqDiff, reduceCtorEq, Int.reduceToNat, Int.reduceLE, Int.reduceLT, Int.reduceBEq, Int.reduceBNe, mCall, zc3, cel3, cells_enc, k6, hge, zT_enc, zT'_eq]
    · rw [if_pos (by simpa using k6)]
      simp -implicitDefEqProofs (disch := decide +kernel) only [go_sem, ↓reduceIte, Nat.reduceSub, Nat.reduceAdd, Nat.reduceMul, Nat.reduceBEq, Nat.reduceLT, Nat.reduceLeDiff, Nat.reduceEqDiff, reduceCtorEq, Int.reduceToNat, Int.reduceLE, Int.reduceLT, Int.reduceBEq, Int.reduceBNe, mCall, zc3, cel3, cells_enc, acc_drop, acc_keep, k6, tm_enc]
      rfl
end Go.Proofs.Ytmemmdfjlhamfaa
