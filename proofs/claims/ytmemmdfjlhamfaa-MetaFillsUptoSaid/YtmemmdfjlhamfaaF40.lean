/- The package meta: Fill, Ctx, All. -/
import Derived.Test.YtmemmdfjlhamfaaF39
import Derived.Test.YtmemmdfjlhamfaaT2
set_option linter.unusedSimpArgs false
set_option linter.unusedVariables false
set_option maxRecDepth 100000
namespace Go.Proofs.Ytmemmdfjlhamfaa
open Go.Proofs
/-- What may be said of the terms for metas. -/
structure ThOk (K : Int) (th : List Tm) : Prop where
  h0 : 0 ≤ K
  top : K + 200000000 ≤ topV
  len : th.length < room
  all : ∀ x ∈ th, x.size < room ∧ vleB K x = true
theorem fill_top {th : List Tm} {K : Int} (h : ThOk K th) {t : Tm} {n : Int} (hs : t.size ≤ 1048576) (hv : vleB K t = true) (ho : fillOk t th n = true) :
    ∃ h, (lim C).call 57 [dT t, dL th, dI n] [] = some (.ret (.tup [dT (fillM th t n).1, dI (fillM th t n).2]), h) := by
  obtain ⟨p1, p2, p3, p4, p5⟩ := fillOk_parts ho
  have hp := may_parts p1
  have := h.top
  exact fill_spec h.h0 (fun x hx => ⟨p5 x hx, (h.all x hx).2⟩) h.len t hs hp.1 hv (by omega) n p2 (by omega)
theorem fillM_size {th : List Tm} {K : Int} (h : ThOk K th) {t : Tm} {n : Int} (hs : t.size ≤ 1048576) (hv : vleB K t = true) (hm : mayB t = true) : (fillM th t n).1.size < room := by
  have hr : room = 1099511627776 := rfl
  have := (fill_fits h.h0 (fun x hx => (h.all x hx).2) t n (may_parts hm).1 hv).2
  omega
theorem mFill_spec {th : List Tm} {K : Int} (h : ThOk K th) (t : Tm) (hs : t.size ≤ 1048576) (hv : vleB K t = true) (n : Int) :
    ∃ h, (lim C).call 24 [dT t, dL th, dI n] [] = some (.ret (.tup [dT (FillR t th n).1, dI (FillR t th n).2]), h) := by
  have hr : room = 1099511627776 := rfl
  have hc := contains_spec (g := 55) (by decide +kernel) (l := th) h.len (fun x hx => ⟨_, modd_spec x (h.all x hx).1⟩)
  have ho := modd_spec t (by omega)
  have hee := (enc_eq t).symm
  have hsz := fun hm => fillM_size h (n := n) hs hv hm
  have htop := fill_top h (n := n) hs hv
  refine ⟨[], ?_⟩
  unfold FillR fillOk
  unfold fillOk at htop
  rw [ev_fn 24 Try.f24 _ _ _ rfl Try.func24 rfl Try.ntmps24 rfl]
  cases h1 : mayB t
  · simp -implicitDefEqProofs (disch := decide +kernel) only [go_sem, ↓reduceIte, Nat.reduceSub, Nat.reduceAdd, Nat.reduceMul, Nat.reduceBEq, Nat.reduceLT, Nat.reduceLeDiff, Nat.reduceEqDiff, reduceCtorEq, Int.reduceToNat, Int.reduceLE, Int.reduceLT, Int.reduceBEq, Int.reduceBNe, mCall, cells_enc, cel3, hee, ho, hc, zT_enc, h1]
  · skip
    cases h2 : decide (n < 0)
    rotate_left
    · simp -implicitDefEqProofs (disch := decide +kernel) only [go_sem, ↓reduceIte, Nat.reduceSub, Nat.reduceAdd, Nat.reduceMul, Nat.reduceBEq, Nat.reduceLT, Nat.reduceLeDiff, Nat.reduceEqDiff, reduceCtorEq, Int.reduceToNat, Int.reduceLE, Int.reduceLT, Int.reduceBEq, Int.reduceBNe, mCall, cells_enc, cel3, hee, ho, hc, zT_enc, h1, h2]
    cases h3 : decide (n > 1000)
    rotate_left
    · simp -implicitDefEqProofs (disch := decide +kernel) only [go_sem, ↓reduceIte, Nat.reduceSub, Nat.reduceAdd, Nat.reduceMul, Nat.reduceBEq, Nat.reduceLT, Nat.reduceLeDiff, Nat.reduceEqDiff, reduceCtorEq, Int.reduceToNat, Int.reduceLE, Int.reduceLT, Int.reduceBEq, Int.reduceBNe, mCall, cells_enc, cel3, hee, ho, hc, zT_enc, h1, h2, h3]
    cases h4 : decide ((th.length : Int) > 200)
    rotate_left
    · simp -implicitDefEqProofs (disch := decide +kernel) only [go_sem, ↓reduceIte, Nat.reduceSub, Nat.reduceAdd, Nat.reduceMul, Nat.reduceBEq, Nat.reduceLT, Nat.reduceLeDiff, Nat.reduceEqDiff, reduceCtorEq, Int.reduceToNat, Int.reduceLE, Int.reduceLT, Int.reduceBEq, Int.reduceBNe, mCall, cells_enc, cel3, hee, ho, hc, zT_enc, h1, h2, h3, h4]
    cases h5 : maysB th
    · simp -implicitDefEqProofs (disch := decide +kernel) only [go_sem, ↓reduceIte, Nat.reduceSub, Nat.reduceAdd, Nat.reduceMul, Nat.reduceBEq, Nat.reduceLT, Nat.reduceLeDiff, Nat.reduceEqDiff, reduceCtorEq, Int.reduceToNat, Int.reduceLE, Int.reduceLT, Int.reduceBEq, Int.reduceBNe, mCall, cells_enc, cel3, hee, ho, hc, zT_enc, h1, h2, h3, h4, h5]
    · skip
      rw [h1, h2, h3, h4, h5] at htop
      obtain ⟨h', hf⟩ := htop rfl
      have hsz := hsz h1
      unfold fillW
      generalize fillM th t n = rr at hf hsz ⊢
      cases h6 : (rr.2 != 0)
      · have h6' : rr.2 = 0 := by simpa using h6
        have ho2 := modd_spec rr.1 hsz
        rw [if_pos h6']
        cases h7 : mayB rr.1
        · rw [h7] at ho2
          simp -implicitDefEqProofs (disch := decide +kernel) only [go_sem, ↓reduceIte, Nat.reduceSub, Nat.reduceAdd, Nat.reduceMul, Nat.reduceBEq, Nat.reduceLT, Nat.reduceLeDiff, Nat.reduceEqDiff, reduceCtorEq, Int.reduceToNat, Int.reduceLE, Int.reduceLT, Int.reduceBEq, Int.reduceBNe, mCall, cells_enc, cel3, hee, ho, hc, h1, h2, h3, h4, h5, hf, h6, ho2, (enc_eq rr.1).symm, zT_enc]
        · rw [h7] at ho2
          simp -implicitDefEqProofs (disch := decide +kernel) only [go_sem, ↓reduceIte, Nat.reduceSub, Nat.reduceAdd, Nat.reduceMul, Nat.reduceBEq, Nat.reduceLT, Nat.reduceLeDiff, Nat.reduceEqDiff, reduceCtorEq, Int.reduceToNat, Int.reduceLE, Int.reduceLT, Int.reduceBEq, Int.reduceBNe, mCall, cells_enc, cel3, hee, ho, hc, h1, h2, h3, h4, h5, hf, h6, ho2, (enc_eq rr.1).symm, zT_enc]
      · have h6' : ¬ rr.2 = 0 := by simpa using h6
        rw [if_neg h6']
        simp -implicitDefEqProofs (disch := decide +kernel) only [go_sem, ↓reduceIte, Nat.reduceSub, Nat.reduceAdd, Nat.reduceMul, Nat.reduceBEq, Nat.reduceLT, Nat.reduceLeDiff, Nat.reduceEqDiff, reduceCtorEq, Int.reduceToNat, Int.reduceLE, Int.reduceLT, Int.reduceBEq, Int.reduceBNe, mCall, cells_enc, cel3, hee, ho, hc, h1, h2, h3, h4, h5, hf, h6, (enc_eq rr.1).symm, zT_enc]
theorem fillR_size (t : Tm) (th : List Tm) (n : Int) : (FillR t th n).1.size ≤ 4000 := (may_parts (fillR_may t th n)).2.1
/-- What is shared in Ctx. -/
theorem ctx1_spec {th : List Tm} {n : Int} {i : Nat} {x u : Tm} {e : Int} {h : List HO} (hn : in64 n) (hi : IntKind.wrap .i64 (n + i) = n + i)
    (hrec : (lim C).call 24 [dT x, dL th, dI (n + i)] [] = some (.ret (.tup [dT u, dI e]), h)) :
    (lim C).call 61 [dI i, dT x, .href 0 0, .href 1 0] [.var 0 [dL th], .var 0 [dI n]] = some (.ret (.tup [dT u, dI e]), [.var 0 [dL th], .var 0 [dI n]]) := by
  rw [ev_fn 61 Try.f61 _ _ _ rfl Try.func61 rfl Try.ntmps61 rfl]
  simp -implicitDefEqProofs (disch := decide +kernel) only [go_sem, ↓reduceIte, Nat.reduceSub, Nat.reduceAdd, Nat.reduceMul, Nat.reduceBEq, Nat.reduceLT, Nat.reduceLeDiff, Nat.reduceEqDiff, reduceCtorEq, Int.reduceToNat, Int.reduceLE, Int.reduceLT, Int.reduceBEq, Int.reduceBNe, mCall, cells_enc, cel3, (enc_eq x).symm, (enc_eq u).symm, hi, hrec]
/-- Terms that may be filled, and what they are filled with. -/
structure LOk (K : Int) (l : List Tm) : Prop where
  len : l.length < 1048576
  all : ∀ x ∈ l, x.size ≤ 1048576 ∧ vleB K x = true
theorem LOk.at {K : Int} {l : List Tm} (h : LOk K l) {i : Nat} (hi : i < l.length) : (l.getD i default).size ≤ 1048576 ∧ vleB K (l.getD i default) = true := h.all _ (getD_mem hi)
theorem ctx_wrap {th l : List Tm} {n : Int} (hn : in64 n) (hl : l.length < 1048576) {i : Nat} (hi : i < l.length) (h : ∀ j, j < i → (FillR (l.getD j default) th (n + j)).2 = 0) : IntKind.wrap .i64 (n + (i : Int)) = n + i := by
  unfold in64 at hn
  rcases Nat.eq_zero_or_pos i with h0 | h0
  · obtain rfl := h0
    exact wrap_ok (by omega) (by omega)
  · have := (fillOk_parts (fillR_ok (h 0 h0)).1).2.2.1
    have : n + ((0 : Nat) : Int) ≤ 1000 := this
    exact wrap_ok (by omega) (by omega)
theorem mCtx_spec {th : List Tm} {K : Int} (h : ThOk K th) (l : List Tm) (hl : LOk K l) (n : Int) (hn : in64 n) :
    ∃ h, (lim C).call 27 [dL l, dL th, dI n] [] = some (.ret (.tup [dL (CtxR l th n).1, dI (CtxR l th n).2]), h) := by
  have hr : room = 1099511627776 := rfl
  have hll := hl.len
  have hdo : DoesE 61 [.href 0 0, .href 1 0] [.var 0 [dL th], .var 0 [dI n]] l (fun i => FillR (l.getD i default) th (n + i)) := by
    intro i hi hprev locs toks
    obtain ⟨h', hrec⟩ := mFill_spec h (l.getD i default) (hl.at hi).1 (hl.at hi).2 (n + i)
    have h1 := ctx1_spec hn (ctx_wrap hn hll hi hprev) hrec
    simp only [mCall, callsPure, pureL, AV.pure, okL, AV.okA, C_thr, eraseL, AV.erase, Bool.and_true, Bool.true_and, Bool.and_false, Bool.false_and, Bool.false_eq_true, if_false, if_true, Option.bind_some, heapRes_ret, h1]
  have hea := meach_spec hdo (by omega) rfl rfl
  refine ⟨[.var 0 [dL th], .var 0 [dI n]], ?_⟩
  unfold CtxR
  generalize eachR (fun i => FillR (l.getD i default) th (n + i)) l.length = rr at hea ⊢
  rw [ev_fn 27 Try.f27 _ _ _ rfl Try.func27 rfl Try.ntmps27 rfl]
  simp -implicitDefEqProofs (disch := decide +kernel) only [go_sem, ↓reduceIte, Nat.reduceSub, Nat.reduceAdd, Nat.reduceMul, Nat.reduceBEq, Nat.reduceLT, Nat.reduceLeDiff, Nat.reduceEqDiff, reduceCtorEq, Int.reduceToNat, Int.reduceLE, Int.reduceLT, Int.reduceBEq, Int.reduceBNe, mCall, hea]
theorem encIs_get {ns : List Int} {i : Nat} (hi : i < ns.length) : (encIs ns)[i]? = some (.int .i64 (ns.getD i 0)) := by
  unfold encIs
  rw [List.getElem?_map, List.getElem?_eq_getElem hi, List.getD_eq_getElem?_getD, List.getElem?_eq_getElem hi]; rfl
theorem encIs_len (ns : List Int) : (encIs ns).length = ns.length := by simp [encIs]
theorem wid_int (n : Int) : (Dv.int .i64 n).width = 1 := rfl
theorem cel_int (n : Int) : (Dv.int .i64 n).cells = [.int .i64 n] := rfl
theorem all1_spec {th : List Tm} {ns : List Int} {i : Nat} {x u : Tm} {e : Int} {h : List HO} (hi : i < ns.length)
    (hrec : (lim C).call 24 [dT x, dL th, dI (ns.getD i 0)] [] = some (.ret (.tup [dT u, dI e]), h)) :
    (lim C).call 62 [dI i, dT x, .href 0 0, .href 1 0] [.var 0 [dL th], .var 0 [.d (.slc (encIs ns))]] = some (.ret (.tup [dT u, dI e]), [.var 0 [dL th], .var 0 [.d (.slc (encIs ns))]]) := by
  rw [ev_fn 62 Try.f62 _ _ _ rfl Try.func62 rfl Try.ntmps62 rfl]
  simp -implicitDefEqProofs (disch := decide +kernel) only [go_sem, ↓reduceIte, Nat.reduceSub, Nat.reduceAdd, Nat.reduceMul, Nat.reduceBEq, Nat.reduceLT, Nat.reduceLeDiff, Nat.reduceEqDiff, reduceCtorEq, Int.reduceToNat, Int.reduceLE, Int.reduceLT, Int.reduceBEq, Int.reduceBNe, mCall, cells_enc, cel3, (enc_eq x).symm, (enc_eq u).symm, encIs_get hi, encIs_len, wid_int, cel_int, hrec]
theorem mAll_spec {th : List Tm} {K : Int} (h : ThOk K th) (l : List Tm) (hl : LOk K l) (ns : List Int) :
    ∃ h, (lim C).call 30 [dL l, dL th, .d (.slc (encIs ns))] [] = some (.ret (.tup [dL (AllR l th ns).1, dI (AllR l th ns).2]), h) := by
  have hr : room = 1099511627776 := rfl
  have hll := hl.len
  refine ⟨[.var 0 [dL th], .var 0 [.d (.slc (encIs ns))]], ?_⟩
  unfold AllR
  have hln : ((ns.length : Int) != (l.length : Int)) = !decide (ns.length = l.length) := by
    by_cases he : ns.length = l.length
    · simp [he]
    · simp [he]; omega
  by_cases he : ns.length = l.length
  · have hdo : DoesE 62 [.href 0 0, .href 1 0] [.var 0 [dL th], .var 0 [.d (.slc (encIs ns))]] l (fun i => FillR (l.getD i default) th (ns.getD i 0)) := by
      intro i hi _ locs toks
      obtain ⟨h', hrec⟩ := mFill_spec h (l.getD i default) (hl.at hi).1 (hl.at hi).2 (ns.getD i 0)
      have h1 := all1_spec (by omega) hrec
      simp only [mCall, callsPure, pureL, AV.pure, okL, AV.okA, C_thr, eraseL, AV.erase, Bool.and_true, Bool.true_and, Bool.and_false, Bool.false_and, Bool.false_eq_true, if_false, if_true, Option.bind_some, heapRes_ret, h1]
    have hea := meach_spec hdo (by omega) rfl rfl
    have hne : ((ns.length : Int) != (l.length : Int)) = false := by rw [hln]; simp [he]
    rw [if_pos he]
    generalize eachR (fun i => FillR (l.getD i default) th (ns.getD i 0)) l.length = rr at hea ⊢
    rw [ev_fn 30 Try.f30 _ _ _ rfl Try.func30 rfl Try.ntmps30 rfl]
    simp -implicitDefEqProofs (disch := decide +kernel) only [go_sem, ↓reduceIte, Nat.reduceSub, Nat.reduceAdd, Nat.reduceMul, Nat.reduceBEq, Nat.reduceLT, Nat.reduceLeDiff, Nat.reduceEqDiff, reduceCtorEq, Int.reduceToNat, Int.reduceLE, Int.reduceLT, Int.reduceBEq, Int.reduceBNe, mCall, hea, hne, encIs_len]
  · have hne : ((ns.length : Int) != (l.length : Int)) = true := by rw [hln]; simp [he]
    rw [if_neg he]
    rw [ev_fn 30 Try.f30 _ _ _ rfl Try.func30 rfl Try.ntmps30 rfl]
    simp -implicitDefEqProofs (disch := decide +kernel) only [go_sem, ↓reduceIte, Nat.reduceSub, Nat.reduceAdd, Nat.reduceMul, Nat.reduceBEq, Nat.reduceLT, Nat.reduceLeDiff, Nat.reduceEqDiff, reduceCtorEq, Int.reduceToNat, Int.reduceLE, Int.reduceLT, Int.reduceBEq, Int.reduceBNe, mCall, hne, encIs_len]
    rfl
end Go.Proofs.Ytmemmdfjlhamfaa
