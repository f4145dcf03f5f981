/- The reference of layer 3: its small functions. -/
import Derived.Test.YtmemmdfjlhamfaaF2B
set_option linter.unusedSimpArgs false
set_option linter.unusedVariables false
set_option maxRecDepth 100000
namespace Go.Proofs.Ytmemmdfjlhamfaa
open Go.Proofs
/-- One below what binds, whatever its terms are. -/
def upG (x : Tm) : Tm := if renB x 1 0 then upT x 1 0 else x
def underG (s : Sb) : Sb := ⟨(s.L.map upG) ++ [var0], s.sh + 1⟩
theorem upG_may {x : Tm} (h : mayB x = true) : upG x = upT x 1 0 := by
  unfold upG
  rw [if_pos (by unfold renB; rw [h]; rfl)]
theorem underG_may {s : Sb} (h : ∀ x ∈ s.L, mayB x = true) : underG s = underS s := by
  unfold underG underS
  congr 2
  exact List.map_congr_left fun x hx => upG_may (h x hx)
theorem upG_size (x : Tm) : (upG x).size = x.size := by
  unfold upG
  split
  · rw [mapT_size]
  · rfl
def ug_F (s : Sb) (j : Nat) : Tm := upG (s.L.getD j default)
theorem ug_out (s : Sb) : encs (outs (ug_F s) s.L.length) ++ [enc var0] = encs (underG s).L := by
  have : outs (ug_F s) s.L.length = s.L.map upG := by
    unfold outs ug_F
    refine List.ext_getElem (by simp) fun i h1 h2 => ?_
    simp at h1
    simp [List.getD_eq_getElem?_getD, h1]
  rw [this]
  simp [underG, encs_append, encs]
theorem ug_app {s : Sb} (hl : s.L.length < room) {i : Nat} (hi : i < s.L.length) (locs : List (Option (List AV))) (heap : List HO) :
    mApp (acc 0 (encs (outs (ug_F s) i))) [enc (ug_F s i)] 3 { locs := locs, heap := heap, toks := accT i } = some (.v (acc 0 (encs (outs (ug_F s) (i + 1)))), { locs := locs, heap := heap, toks := accT (i + 1) }) := by
  have hr : room = 1099511627776 := rfl
  have hln : (encs (outs (ug_F s) i)).length = i := by simp [encs, outs]
  have hap := mApp_acc (encs (outs (ug_F s) i)) (enc (ug_F s i)) 3 locs heap (by rw [hln]; omega) (encs_all _) (enc_width _)
  have hsn : encs (outs (ug_F s) i) ++ [enc (ug_F s i)] = encs (outs (ug_F s) (i + 1)) := by unfold outs; rw [List.range_succ, List.map_append, encs_append]; rfl
  rw [hln, hsn] at hap
  exact hap
theorem ug_last {s : Sb} (hl : s.L.length < room) (locs : List (Option (List AV))) (heap : List HO) :
    mApp (acc 0 (encs (outs (ug_F s) s.L.length))) [enc var0] 3 { locs := locs, heap := heap, toks := accT s.L.length } = some (.v (acc 0 (encs (underG s).L)), { locs := locs, heap := heap, toks := accT (s.L.length + 1) }) := by
  have hr : room = 1099511627776 := rfl
  have hln : (encs (outs (ug_F s) s.L.length)).length = s.L.length := by simp [encs, outs]
  have hap := mApp_acc (encs (outs (ug_F s) s.L.length)) (enc var0) 3 locs heap (by rw [hln]; omega) (encs_all _) (enc_width _)
  rw [hln, ug_out] at hap
  exact hap
theorem var0_enc : Dv.agg [.int .i64 4, .int .i64 0, .slc []] = enc var0 := by unfold var0; rw [enc_mk]; rfl
def ug_S (s : Sb) (i : Nat) : St := mk 32 [(2, .lref 2 0), (3, .lref 3 0), (11, dL s.L), (12, dI s.L.length), (13, dI i)] [(2, [.clip [], dI 0]), (3, [acc 0 (encs (outs (ug_F s) i)), dI (s.sh + 1)])] [] (accT i)
theorem underG_spec (s : Sb) (hm : ∀ x ∈ s.L, x.size < room ∧ vlowB x = true) (hl : s.L.length < room) (hs : 0 ≤ s.sh ∧ s.sh ≤ 4503599627370496) :
    (lim C).call 90 [dS s] [] = some (.ret (dS (underG s)), []) := by
  have hr : room = 1099511627776 := rfl
  have hw : IntKind.wrap .i64 (s.sh + 1) = s.sh + 1 := wrap_ok (by omega) (by omega)
  have hstep : ∀ i, i < s.L.length → (lim C).code 90 (cf (.loop (cf (cf (cs (cf (cs (cs (bodyOf Try.f90))))))))) (ug_S s i) = some (.nor, ug_S s (i + 1)) := fun i hi => by
    obtain ⟨m1, m2⟩ := hm _ (getD_mem hi)
    obtain ⟨h, hc⟩ := sup_spec (s.L.getD i default) m1 m2 1 0
    have hc' : (lim C).call 45 [dT (s.L.getD i default), dI 1, dI 0] [] = some (.ret (dT (ug_F s i)), h) := hc
    have hap := ug_app hl hi
    simp -implicitDefEqProofs (disch := decide +kernel) only [cf, cs, bodyOf, Try.f90, Option.getD_some, go_sem, ↓reduceIte, Nat.reduceSub, Nat.reduceAdd, Nat.reduceMul, Nat.reduceBEq, Nat.reduceLT, Nat.reduceLeDiff, Nat.reduceEqDiff, reduceCtorEq, Int.reduceToNat, Int.reduceLE, Int.reduceLT, Int.reduceBEq, Int.reduceBNe, mCall, ug_S, cel2, acc_keep, lt_true hi, getD_get hi, hc', hap, wrap_succ (n := i) (by omega)]
  have hloop : (lim C).code 90 (.loop (cf (cf (cs (cf (cs (cs (bodyOf Try.f90)))))))) (ug_S s 0) = some (.exit 0, mk 32 [(2, .lref 2 0), (3, .lref 3 0), (11, dL s.L), (12, dI s.L.length), (13, dI s.L.length), (14, dB false)] [(2, [.clip [], dI 0]), (3, [acc 0 (encs (outs (ug_F s) s.L.length)), dI (s.sh + 1)])] [] (accT s.L.length)) := by
    refine loop_run (ug_S s) s.L.length hstep ?_ (by simp)
    simp -implicitDefEqProofs (disch := decide +kernel) only [cf, cs, bodyOf, Try.f90, Option.getD_some, go_sem, ↓reduceIte, Nat.reduceSub, Nat.reduceAdd, Nat.reduceMul, Nat.reduceBEq, Nat.reduceLT, Nat.reduceLeDiff, Nat.reduceEqDiff, reduceCtorEq, Int.reduceToNat, Int.reduceLE, Int.reduceLT, Int.reduceBEq, Int.reduceBNe, mCall, ug_S, cel2, lt_false (Nat.le_refl s.L.length)]
  have hap := ug_last hl
  have hv := var0_enc
  have he : Dv.agg [.slc (encs (underG s).L), .int .i64 (s.sh + 1)] = encS (underG s) := rfl
  rw [ev_fn 90 Try.f90 _ _ _ rfl Try.func90 rfl Try.ntmps90 rfl]
  simp -implicitDefEqProofs (disch := decide +kernel) only [go_sem, ↓reduceIte, Nat.reduceSub, Nat.reduceAdd, Nat.reduceMul, Nat.reduceBEq, Nat.reduceLT, Nat.reduceLeDiff, Nat.reduceEqDiff, reduceCtorEq, Int.reduceToNat, Int.reduceLE, Int.reduceLT, Int.reduceBEq, Int.reduceBNe, mCall, encS_eq, hw]
  rw [loop_at hloop ?hb ?hs]
  case hb => rfl
  case hs => rfl
  simp -implicitDefEqProofs (disch := decide +kernel) only [go_sem, ↓reduceIte, Nat.reduceSub, Nat.reduceAdd, Nat.reduceMul, Nat.reduceBEq, Nat.reduceLT, Nat.reduceLeDiff, Nat.reduceEqDiff, reduceCtorEq, Int.reduceToNat, Int.reduceLE, Int.reduceLT, Int.reduceBEq, Int.reduceBNe, mCall, cel2, cells_encS, acc_keep, acc_drop, hap, hv, he, (encS_eq (underG s)).symm]
def rug_S (s : Sb) (i : Nat) : St := mk 34 [(1, .lref 1 0), (2, .lref 2 0), (3, .lref 3 0), (4, dI i)] [(1, cel2 s), (2, [.clip [], dI 0]), (3, [acc 0 (encs (outs (ug_F s) i)), dI (s.sh + 1)])] [] (accT i)
theorem runder_spec (s : Sb) (hm : ∀ x ∈ s.L, x.size < room ∧ vlowB x = true) (hl : s.L.length < room) (hs : 0 ≤ s.sh ∧ s.sh ≤ 4503599627370496) :
    (lim C).call 127 [dS s] [] = some (.ret (dS (underG s)), []) := by
  have hr : room = 1099511627776 := rfl
  have hw : IntKind.wrap .i64 (s.sh + 1) = s.sh + 1 := wrap_ok (by omega) (by omega)
  have hstep : ∀ i, i < s.L.length → (lim C).code 127 (cf (.loop (cf (cf (cs (cf (cs (cs (bodyOf Try.f127))))))))) (rug_S s i) = some (.nor, rug_S s (i + 1)) := fun i hi => by
    obtain ⟨m1, m2⟩ := hm _ (getD_mem hi)
    have hc := rUp_spec (s.L.getD i default) m1 m2 1 0
    have hc' : (lim C).call 121 [dT (s.L.getD i default), dI 1, dI 0] [] = some (.ret (dT (ug_F s i)), []) := hc
    have hap := ug_app hl hi
    simp -implicitDefEqProofs (disch := decide +kernel) only [cf, cs, bodyOf, Try.f127, Option.getD_some, go_sem, ↓reduceIte, Nat.reduceSub, Nat.reduceAdd, Nat.reduceMul, Nat.reduceBEq, Nat.reduceLT, Nat.reduceLeDiff, Nat.reduceEqDiff, reduceCtorEq, Int.reduceToNat, Int.reduceLE, Int.reduceLT, Int.reduceBEq, Int.reduceBNe, mCall, rug_S, cel2, acc_keep, lt_true hi, getD_get hi, hc', hap, wrap_succ (n := i) (by omega)]
  have hloop : (lim C).code 127 (.loop (cf (cf (cs (cf (cs (cs (bodyOf Try.f127)))))))) (rug_S s 0) = some (.exit 0, mk 34 [(1, .lref 1 0), (2, .lref 2 0), (3, .lref 3 0), (4, dI s.L.length), (13, dB false)] [(1, cel2 s), (2, [.clip [], dI 0]), (3, [acc 0 (encs (outs (ug_F s) s.L.length)), dI (s.sh + 1)])] [] (accT s.L.length)) := by
    refine loop_run (rug_S s) s.L.length hstep ?_ (by simp)
    simp -implicitDefEqProofs (disch := decide +kernel) only [cf, cs, bodyOf, Try.f127, Option.getD_some, go_sem, ↓reduceIte, Nat.reduceSub, Nat.reduceAdd, Nat.reduceMul, Nat.reduceBEq, Nat.reduceLT, Nat.reduceLeDiff, Nat.reduceEqDiff, reduceCtorEq, Int.reduceToNat, Int.reduceLE, Int.reduceLT, Int.reduceBEq, Int.reduceBNe, mCall, rug_S, cel2, lt_false (Nat.le_refl s.L.length)]
  have hap := ug_last hl
  have hv := var0_enc
  have he : Dv.agg [.slc (encs (underG s).L), .int .i64 (s.sh + 1)] = encS (underG s) := rfl
  rw [ev_fn 127 Try.f127 _ _ _ rfl Try.func127 rfl Try.ntmps127 rfl]
  simp -implicitDefEqProofs (disch := decide +kernel) only [go_sem, ↓reduceIte, Nat.reduceSub, Nat.reduceAdd, Nat.reduceMul, Nat.reduceBEq, Nat.reduceLT, Nat.reduceLeDiff, Nat.reduceEqDiff, reduceCtorEq, Int.reduceToNat, Int.reduceLE, Int.reduceLT, Int.reduceBEq, Int.reduceBNe, mCall, cells_encS, cel2, hw]
  rw [loop_at hloop ?hb ?hs]
  case hb => rfl
  case hs => rfl
  simp -implicitDefEqProofs (disch := decide +kernel) only [go_sem, ↓reduceIte, Nat.reduceSub, Nat.reduceAdd, Nat.reduceMul, Nat.reduceBEq, Nat.reduceLT, Nat.reduceLeDiff, Nat.reduceEqDiff, reduceCtorEq, Int.reduceToNat, Int.reduceLE, Int.reduceLT, Int.reduceBEq, Int.reduceBNe, mCall, cel2, cells_encS, acc_keep, acc_drop, hap, hv, he, (encS_eq (underG s)).symm]

/-! ### Same -/
theorem mapped_spec (s : Sb) (i : Int) (h0 : 0 ≤ i) (hi : i ≤ 4503599627370496) (hl : s.L.length < room) (hs : 0 ≤ s.sh ∧ s.sh ≤ 4503599627370496) (hz : ∀ x ∈ s.L, x.size < room ∧ vlowB x = true) :
    (lim C).call 129 [dS s, dI i] [] = some (.ret (dT (ofS s i)), []) := by
  have hr : room = 1099511627776 := rfl
  rw [ev_fn 129 Try.f129 _ _ _ rfl Try.func129 rfl Try.ntmps129 rfl]
  cases hlt : decide (i < (s.L.length : Int))
  · have hlt' : ¬ i < (s.L.length : Int) := by simpa using hlt
    have hw1 : IntKind.wrap .i64 (i - (s.L.length : Int)) = i - (s.L.length : Int) := wrap_ok (by omega) (by omega)
    have hw2 : IntKind.wrap .i64 (i - (s.L.length : Int) + s.sh) = i - (s.L.length : Int) + s.sh := wrap_ok (by omega) (by omega)
    have he : Dv.agg [.int .i64 4, .int .i64 (i - (s.L.length : Int) + s.sh), .slc []] = enc (ofS s i) := by
      unfold ofS; rw [if_neg hlt', enc_mk]; rfl
    simp -implicitDefEqProofs (disch := decide +kernel) only [go_sem, ↓reduceIte, Nat.reduceSub, Nat.reduceAdd, Nat.reduceMul, Nat.reduceBEq, Nat.reduceLT, Nat.reduceLeDiff, Nat.reduceEqDiff, reduceCtorEq, Int.reduceToNat, Int.reduceLE, Int.reduceLT, Int.reduceBEq, Int.reduceBNe, mCall, encS_eq, hlt, hw1, hw2, he]
  · have hlt' : i < (s.L.length : Int) := by simpa using hlt
    have hw1 : IntKind.wrap .i64 ((s.L.length : Int) - 1) = (s.L.length : Int) - 1 := wrap_ok (by omega) (by omega)
    have hw2 : IntKind.wrap .i64 ((s.L.length : Int) - 1 - i) = (s.L.length : Int) - 1 - i := wrap_ok (by omega) (by omega)
    have hge : 0 ≤ (s.L.length : Int) - 1 - i := by omega
    have hnat : ((s.L.length : Int) - 1 - i).toNat = s.L.length - 1 - i.toNat := by omega
    have hget : s.L[s.L.length - 1 - i.toNat]? = some (ofS s i) := by
      unfold ofS
      rw [if_pos hlt', List.getD_eq_getElem?_getD, List.getElem?_eq_getElem (by omega)]
      rfl
    have hmem : ofS s i ∈ s.L := List.mem_of_getElem? hget
    have hu := rUp_spec (ofS s i) (hz _ hmem).1 (hz _ hmem).2 0 0
    have hue : (if renB (ofS s i) 0 0 then upT (ofS s i) 0 0 else ofS s i) = ofS s i := by
      split
      · rw [up_zero]
      · rfl
    rw [hue] at hu
    simp -implicitDefEqProofs (disch := decide +kernel) only [go_sem, ↓reduceIte, Nat.reduceSub, Nat.reduceAdd, Nat.reduceMul, Nat.reduceBEq, Nat.reduceLT, Nat.reduceLeDiff, Nat.reduceEqDiff, reduceCtorEq, Int.reduceToNat, Int.reduceLE, Int.reduceLT, Int.reduceBEq, Int.reduceBNe, mCall, encS_eq, hlt, hw1, hw2, hge, hnat, hget, hu]
theorem rfail_spec (h : List HO) (n : Int) (e : Int) : (lim C).call 126 [.href h.length 0, dI e] (h ++ [.var 0 [dI n, dI 0]]) = some (.ret (dT zT), h ++ [.var 0 [dI n, dI e]]) := by
  rw [ev_fn 126 Try.f126 _ _ _ rfl Try.func126 rfl Try.ntmps126 rfl]
  simp -implicitDefEqProofs (disch := decide +kernel) only [go_sem, ↓reduceIte, Nat.reduceSub, Nat.reduceAdd, Nat.reduceMul, Nat.reduceBEq, Nat.reduceLT, Nat.reduceLeDiff, Nat.reduceEqDiff, reduceCtorEq, Int.reduceToNat, Int.reduceLE, Int.reduceLT, Int.reduceBEq, Int.reduceBNe, mCall, getApp0, setApp0, zT_enc]
theorem rlist_loop {b : Code} {σ : St} {x y : List Tm} (hb : b = cf (cf (cs (cf (cs (cs (bodyOf Try.f29))))))) (hσ : σ = mk 29 [(0, dL x), (1, dL y), (5, dI 0)] [] [] []) (hlu : y.length = x.length) (hl : x.length < room) (hz : ∀ t ∈ x, t.size < room) :
    (lim C).code 29 (.loop b) σ = some (if allB x.length (fun i => sameB (x.getD i default) (y.getD i default)) then (.exit 0, mk 29 [(0, dL x), (1, dL y), (5, dI x.length), (15, dB false)] [] [] []) else (.ret, mk 29 [(4, dB false)] [] [] [])) := by
  subst hb hσ
  have hr : room = 1099511627776 := rfl
  refine loop_all (fun i => mk 29 [(0, dL x), (1, dL y), (5, dI i)] [] [] []) x.length _ ?_ ?_ ?_ (by simp) (by simp)
  · intro i hi hp
    have hiu : i < y.length := by omega
    have hc := rsame_spec (x.getD i default) (hz _ (getD_mem hi)) (y.getD i default)
    rw [hp] at hc
    simp -implicitDefEqProofs (disch := decide +kernel) only [cf, cs, bodyOf, Try.f29, Option.getD_some, go_sem, ↓reduceIte, Nat.reduceSub, Nat.reduceAdd, Nat.reduceMul, Nat.reduceBEq, Nat.reduceLT, Nat.reduceLeDiff, Nat.reduceEqDiff, reduceCtorEq, Int.reduceToNat, Int.reduceLE, Int.reduceLT, Int.reduceBEq, Int.reduceBNe, mCall, lt_true hi, getD_get hi, getD_get hiu, hc, wrap_succ (n := i) (by omega)]
  · intro i hi hp
    have hiu : i < y.length := by omega
    have hc := rsame_spec (x.getD i default) (hz _ (getD_mem hi)) (y.getD i default)
    rw [hp] at hc
    simp -implicitDefEqProofs (disch := decide +kernel) only [cf, cs, bodyOf, Try.f29, Option.getD_some, go_sem, ↓reduceIte, Nat.reduceSub, Nat.reduceAdd, Nat.reduceMul, Nat.reduceBEq, Nat.reduceLT, Nat.reduceLeDiff, Nat.reduceEqDiff, reduceCtorEq, Int.reduceToNat, Int.reduceLE, Int.reduceLT, Int.reduceBEq, Int.reduceBNe, mCall, lt_true hi, getD_get hi, getD_get hiu, hc]
  · simp -implicitDefEqProofs (disch := decide +kernel) only [cf, cs, bodyOf, Try.f29, Option.getD_some, go_sem, ↓reduceIte, Nat.reduceSub, Nat.reduceAdd, Nat.reduceMul, Nat.reduceBEq, Nat.reduceLT, Nat.reduceLeDiff, Nat.reduceEqDiff, reduceCtorEq, Int.reduceToNat, Int.reduceLE, Int.reduceLT, Int.reduceBEq, Int.reduceBNe, mCall, lt_false (Nat.le_refl x.length)]
theorem rlist_spec (x y : List Tm) (hl : x.length < room) (hz : ∀ t ∈ x, t.size < room) : (lim C).call 29 [dL x, dL y] [] = retB (sameL x y) := by
  rw [ev_fn 29 Try.f29 _ _ _ rfl Try.func29 rfl Try.ntmps29 rfl]
  unfold sameL
  by_cases h : y.length = x.length
  · have h1 : ((x.length : Int) != (y.length : Int)) = false := by simp [h]
    simp -implicitDefEqProofs (disch := decide +kernel) only [go_sem, ↓reduceIte, Nat.reduceSub, Nat.reduceAdd, Nat.reduceMul, Nat.reduceBEq, Nat.reduceLT, Nat.reduceLeDiff, Nat.reduceEqDiff, reduceCtorEq, Int.reduceToNat, Int.reduceLE, Int.reduceLT, Int.reduceBEq, Int.reduceBNe, mCall, h1]
    rw [rlist_loop (x := x) (y := y) ?hb ?hs h hl hz]
    case hb => rfl
    case hs => rfl
    have h2 : (x.length == y.length) = true := by simp [h]
    cases hall : allB x.length (fun i => sameB (x.getD i default) (y.getD i default)) <;> simp -implicitDefEqProofs (disch := decide +kernel) only [go_sem, ↓reduceIte, Nat.reduceSub, Nat.reduceAdd, Nat.reduceMul, Nat.reduceBEq, Nat.reduceLT, Nat.reduceLeDiff, Nat.reduceEqDiff, reduceCtorEq, Int.reduceToNat, Int.reduceLE, Int.reduceLT, Int.reduceBEq, Int.reduceBNe, mCall, h2]
  · have h1 : ((x.length : Int) != (y.length : Int)) = true := bne_iff_ne.2 (by omega)
    simp -implicitDefEqProofs (disch := decide +kernel) only [go_sem, ↓reduceIte, Nat.reduceSub, Nat.reduceAdd, Nat.reduceMul, Nat.reduceBEq, Nat.reduceLT, Nat.reduceLeDiff, Nat.reduceEqDiff, reduceCtorEq, Int.reduceToNat, Int.reduceLE, Int.reduceLT, Int.reduceBEq, Int.reduceBNe, mCall, h1]
    have h2 : (x.length == y.length) = false := by simp; omega
    simp [h2]
theorem sameL_refl (x : List Tm) : sameL x x = true := by
  simp only [sameL, beq_self_eq_true, Bool.true_and, allB_iff]
  exact fun i hi => sameB_refl _
end Go.Proofs.Ytmemmdfjlhamfaa
