/- The program's functions of layer 1: all, May, Scoped, Same. -/
import Derived.Test.YtmemmdfjlhamfaaF6
set_option linter.unusedSimpArgs false
set_option linter.unusedVariables false
set_option maxRecDepth 100000
namespace Go.Proofs.Ytmemmdfjlhamfaa
open Go.Proofs
noncomputable def all_L (n : Nat) (so : AV) : LoopA := { fn := 51, tmps := tl 16 [(3, .href n 0), (4, .href (n + 1) 0), (8, .fn 113 [] [.href (n + 2) 0])], params := [9, 10], assign := cf (cf (cs (cf (cs (bodyOf Try.f51))))), body := cs (cf (cs (cf (cs (bodyOf Try.f51))))) }
noncomputable def all_H (h : List HO) (so : AV) (t : Tm) : List HO := h ++ [.var 0 [so], .var 0 [dB false], .var 0 (cel3 t), .loop .ready none (all_L h.length so)]
noncomputable def all_E (h : List HO) (so : AV) (t : Tm) : List HO := h ++ [.var 0 [so], .var 0 [dB false], .var 0 (cel3 t), .loop .done (some .ret) (all_L h.length so)]
def stepB (p : Int → Tm → Bool) : Unit → Int × Tm → Except Unit Unit := fun _ q => if p q.1 q.2 then .ok () else .error ()
/-- A function that answers of each node, and leaves the shared variables alone. -/
def Answers (g : Nat) (caps : List AV) (h : List HO) (p : Int → Tm → Bool) (ok : Int × Tm → Prop) : Prop :=
  ∀ (n : Int) (x : Tm) (locs : List (Option (List AV))) (hp : List HO) (toks : List (Option Nat)), ok (n, x) → mCall C (lim C) g (dI n :: dT x :: caps) { locs := locs, heap := h ++ hp, toks := toks } = some (.v (dB (p n x)), { locs := locs, heap := h ++ hp, toks := toks })
theorem all_yields {g : Nat} {caps : List AV} {h : List HO} {p : Int → Tm → Bool} {ok : Int × Tm → Prop} (ha : Answers g caps h p ok) (t : Tm) :
    Yields (h.length + 3) (fun _ : Unit => all_H h (.fn g [] caps) t) (fun _ : Unit => all_E h (.fn g [] caps) t) (stepB p) ok := by
  intro z n x locs toks hok
  have h1 := fun locs hp toks => ha n x locs hp toks hok
  simp only [stepB]
  cases hp : p n x
  · rw [hp] at h1
    simp -implicitDefEqProofs (disch := decide +kernel) only [cf, cs, bodyOf, Try.f51, Option.getD_some, go_sem, ↓reduceIte, Nat.reduceSub, Nat.reduceAdd, Nat.reduceMul, Nat.reduceBEq, Nat.reduceLT, Nat.reduceLeDiff, Nat.reduceEqDiff, reduceCtorEq, Int.reduceToNat, Int.reduceLE, Int.reduceLT, Int.reduceBEq, Int.reduceBNe, all_H, all_E, all_L, mYld_K, getApp, getApp0, setApp, setApp0, h1]
  · rw [hp] at h1
    simp -implicitDefEqProofs (disch := decide +kernel) only [cf, cs, bodyOf, Try.f51, Option.getD_some, go_sem, ↓reduceIte, Nat.reduceSub, Nat.reduceAdd, Nat.reduceMul, Nat.reduceBEq, Nat.reduceLT, Nat.reduceLeDiff, Nat.reduceEqDiff, reduceCtorEq, Int.reduceToNat, Int.reduceLE, Int.reduceLT, Int.reduceBEq, Int.reduceBNe, all_H, all_E, all_L, mYld_K, getApp, getApp0, setApp, setApp0, h1]

theorem run_stepB (p : Int → Tm → Bool) : ∀ l : List (Int × Tm), runL (stepB p) l () = if (l.all fun q => p q.1 q.2) then .ok () else .error ()
  | [] => rfl
  | q :: l => by
    rw [runL]
    have ih := run_stepB p l
    cases hp : p q.1 q.2
    · simp [stepB, hp]
    · simp only [stepB, hp, if_true, List.all_cons, Bool.true_and]; exact ih
theorem all_spec {g : Nat} {caps : List AV} {h : List HO} {p : Int → Tm → Bool} {ok : Int × Tm → Prop} (ha : Answers g caps h p ok) (hc1 : okL caps = true) (hc2 : eraseL caps = caps) (t : Tm) (hs : t.size < room) (hok : ∀ q ∈ pre t 0, ok q) :
    (lim C).call 51 [dT t, .fn g [] caps] h = some (.ret (dB ((pre t 0).all fun q => p q.1 q.2)), h ++ [.var 0 [.fn g [] caps], .var 0 [dB ((pre t 0).all fun q => p q.1 q.2)], .var 0 (cel3 t), .dead]) := by
  rw [ev_fn 51 Try.f51 _ _ _ rfl Try.func51 rfl Try.ntmps51 rfl]
  simp -implicitDefEqProofs (disch := decide +kernel) only [go_sem, ↓reduceIte, Nat.reduceSub, Nat.reduceAdd, Nat.reduceMul, Nat.reduceBEq, Nat.reduceLT, Nat.reduceLeDiff, Nat.reduceEqDiff, reduceCtorEq, Int.reduceToNat, Int.reduceLE, Int.reduceLT, Int.reduceBEq, Int.reduceBNe, mCall, hc1, hc2, tnodes_spec, List.length_append]
  have h1 := tnodes1_spec (all_yields ha t) t hs (i := h.length + 2) () (by simp only [all_H, getApp]; rfl) hok
  rw [run_stepB] at h1
  rw [call_at h1 ?hh]
  case hh => rfl
  cases hall : (pre t 0).all fun q => p q.1 q.2
  · simp -implicitDefEqProofs (disch := decide +kernel) only [go_sem, ↓reduceIte, Nat.reduceSub, Nat.reduceAdd, Nat.reduceMul, Nat.reduceBEq, Nat.reduceLT, Nat.reduceLeDiff, Nat.reduceEqDiff, reduceCtorEq, Int.reduceToNat, Int.reduceLE, Int.reduceLT, Int.reduceBEq, Int.reduceBNe, mCall, hc1, hc2, List.length_append, all_H, all_E, getApp, getApp0, setApp, setApp0]
  · simp -implicitDefEqProofs (disch := decide +kernel) only [go_sem, ↓reduceIte, Nat.reduceSub, Nat.reduceAdd, Nat.reduceMul, Nat.reduceBEq, Nat.reduceLT, Nat.reduceLeDiff, Nat.reduceEqDiff, reduceCtorEq, Int.reduceToNat, Int.reduceLE, Int.reduceLT, Int.reduceBEq, Int.reduceBNe, mCall, hc1, hc2, List.length_append, all_H, all_E, getApp, getApp0, setApp, setApp0]
theorem all_pre {p : Int × Tm → Bool} {t : Tm} {n : Int} : (pre t n).all p = (p (n, t) && allB t.args.length fun i => (pre (t.arg i) (n + bnd t i)).all p) := by
  rw [pre_eq, List.all_cons]
  congr 1
  rw [preF_flat, Bool.eq_iff_iff, allB_iff]
  simp only [List.all_eq_true, List.mem_flatMap, List.mem_range'_1]
  constructor
  · intro h i hi x hx
    exact h x ⟨i, by omega, hx⟩
  · rintro h x ⟨i, hi, hx⟩
    exact h i (by omega) x hx
theorem pre_nodes : ∀ (t : Tm) (n : Int), ((pre t n).all fun q => nodeOk q.2) = nodesB t := by
  refine Tm.ind fun t ih n => ?_
  rw [all_pre, nodesB_eq]
  congr 1
  exact allB_congr fun i hi => ih _ (arg_mem hi) _
def scopeB (v m : Int) (n : Int) (x : Tm) : Bool := (x.kind != 4 || decide (x.head - n < v)) && (x.kind != 6 || decide (x.head < m))
theorem pre_scoped (v m : Int) : ∀ (t : Tm) (n : Int), ((pre t n).all fun q => scopeB v m q.1 q.2) = scopedB t (v + n) m := by
  refine Tm.ind fun t ih n => ?_
  rw [all_pre, scopedB_eq]
  congr 1
  · have e : decide (t.head - n < v) = !decide (t.head ≥ v + n) := by rw [Bool.eq_iff_iff]; simp; omega
    have e2 : decide (t.head < m) = !decide (t.head ≥ m) := by rw [Bool.eq_iff_iff]; simp
    simp only [scopeB, e, e2, bne]
    cases (t.kind == 4) <;> cases (t.kind == 6) <;> simp
  · refine allB_congr fun i hi => ?_
    rw [ih _ (arg_mem hi)]
    congr 1
    omega
theorem may_answers : Answers 52 [] [] (fun _ x => nodeOk x) (fun _ => True) := by
  intro n x locs hp toks _
  simp only [mCall, callsPure, pureL, AV.pure, C_thr, eraseL, AV.erase, tmay1_spec, Bool.and_true, Bool.true_and, List.contains_cons, List.contains_nil, Nat.reduceBEq, Bool.or_false, Bool.not_false, if_true, Option.bind_some, pureRes_ret]
theorem tmay_all (t : Tm) (hs : t.size < room) : (lim C).call 51 [dT t, .fn 52 [] []] [] = some (.ret (dB (nodesB t)), [.var 0 [.fn 52 [] []], .var 0 [dB (nodesB t)], .var 0 (cel3 t), .dead]) := by
  have := all_spec may_answers rfl rfl t hs (fun _ _ => trivial)
  rw [pre_nodes] at this
  exact this
theorem tMay_spec (t : Tm) (hs : t.size < room) : (lim C).call 22 [dT t] [] = retB (mayB t) := by
  have e1 : decide ((t.depth : Int) ≤ 60) = decide (t.depth ≤ 60) := by simp only [decide_eq_decide]; omega
  have e2 : decide ((t.size : Int) ≤ 4000) = decide (t.size ≤ 4000) := by simp only [decide_eq_decide]; omega
  rw [ev_fn 22 Try.f22 _ _ _ rfl Try.func22 rfl Try.ntmps22 rfl]
  unfold mayB
  cases h1 : decide (t.depth ≤ 60)
  · rw [h1] at e1
    simp -implicitDefEqProofs (disch := decide +kernel) only [go_sem, ↓reduceIte, Nat.reduceSub, Nat.reduceAdd, Nat.reduceMul, Nat.reduceBEq, Nat.reduceLT, Nat.reduceLeDiff, Nat.reduceEqDiff, reduceCtorEq, Int.reduceToNat, Int.reduceLE, Int.reduceLT, Int.reduceBEq, Int.reduceBNe, mCall, tdepth_spec t hs, e1]
  · rw [h1] at e1
    cases h2 : decide (t.size ≤ 4000)
    · rw [h2] at e2
      simp -implicitDefEqProofs (disch := decide +kernel) only [go_sem, ↓reduceIte, Nat.reduceSub, Nat.reduceAdd, Nat.reduceMul, Nat.reduceBEq, Nat.reduceLT, Nat.reduceLeDiff, Nat.reduceEqDiff, reduceCtorEq, Int.reduceToNat, Int.reduceLE, Int.reduceLT, Int.reduceBEq, Int.reduceBNe, mCall, tdepth_spec t hs, tsize_spec t hs, e1, e2]
    · rw [h2] at e2
      cases h3 : nodesB t
      · have h4 := tmay_all t hs
        rw [h3] at h4
        simp -implicitDefEqProofs (disch := decide +kernel) only [go_sem, ↓reduceIte, Nat.reduceSub, Nat.reduceAdd, Nat.reduceMul, Nat.reduceBEq, Nat.reduceLT, Nat.reduceLeDiff, Nat.reduceEqDiff, reduceCtorEq, Int.reduceToNat, Int.reduceLE, Int.reduceLT, Int.reduceBEq, Int.reduceBNe, mCall, tdepth_spec t hs, tsize_spec t hs, e1, e2, h4]
      · have h4 := tmay_all t hs
        rw [h3] at h4
        simp -implicitDefEqProofs (disch := decide +kernel) only [go_sem, ↓reduceIte, Nat.reduceSub, Nat.reduceAdd, Nat.reduceMul, Nat.reduceBEq, Nat.reduceLT, Nat.reduceLeDiff, Nat.reduceEqDiff, reduceCtorEq, Int.reduceToNat, Int.reduceLE, Int.reduceLT, Int.reduceBEq, Int.reduceBNe, mCall, tdepth_spec t hs, tsize_spec t hs, e1, e2, h4]
/-- No variable's number goes round. -/
def calm (q : Int × Tm) : Prop := q.2.kind = 4 → -9223372036854775808 ≤ q.2.head - q.1 ∧ q.2.head - q.1 ≤ 9223372036854775807
theorem tscoped1_spec (n v m : Int) (x : Tm) (hp : List HO) (hc : calm (n, x)) : (lim C).call 54 [dI n, dT x, .href 0 0, .href 1 0] (.var 0 [dI v] :: .var 0 [dI m] :: hp) = some (.ret (dB (scopeB v m n x)), .var 0 [dI v] :: .var 0 [dI m] :: hp) := by
  rw [ev_fn 54 Try.f54 _ _ _ rfl Try.func54 rfl Try.ntmps54 rfl]
  unfold scopeB
  cases h1 : (x.kind != 4)
  · have hc := hc (by simpa using h1)
    have hw : IntKind.wrap .i64 (x.head - n) = x.head - n := wrap_ok hc.1 hc.2
    have h2 : (x.kind != 6) = true := by simp at h1 ⊢; omega
    cases h3 : decide (x.head - n < v)
    · simp -implicitDefEqProofs (disch := decide +kernel) only [go_sem, ↓reduceIte, Nat.reduceSub, Nat.reduceAdd, Nat.reduceMul, Nat.reduceBEq, Nat.reduceLT, Nat.reduceLeDiff, Nat.reduceEqDiff, reduceCtorEq, Int.reduceToNat, Int.reduceLE, Int.reduceLT, Int.reduceBEq, Int.reduceBNe, mCall, h1, hw, h3]
    · simp -implicitDefEqProofs (disch := decide +kernel) only [go_sem, ↓reduceIte, Nat.reduceSub, Nat.reduceAdd, Nat.reduceMul, Nat.reduceBEq, Nat.reduceLT, Nat.reduceLeDiff, Nat.reduceEqDiff, reduceCtorEq, Int.reduceToNat, Int.reduceLE, Int.reduceLT, Int.reduceBEq, Int.reduceBNe, mCall, h1, hw, h2, h3]
  · cases h2 : (x.kind != 6)
    · simp -implicitDefEqProofs (disch := decide +kernel) only [go_sem, ↓reduceIte, Nat.reduceSub, Nat.reduceAdd, Nat.reduceMul, Nat.reduceBEq, Nat.reduceLT, Nat.reduceLeDiff, Nat.reduceEqDiff, reduceCtorEq, Int.reduceToNat, Int.reduceLE, Int.reduceLT, Int.reduceBEq, Int.reduceBNe, mCall, h1, h2]
    · simp -implicitDefEqProofs (disch := decide +kernel) only [go_sem, ↓reduceIte, Nat.reduceSub, Nat.reduceAdd, Nat.reduceMul, Nat.reduceBEq, Nat.reduceLT, Nat.reduceLeDiff, Nat.reduceEqDiff, reduceCtorEq, Int.reduceToNat, Int.reduceLE, Int.reduceLT, Int.reduceBEq, Int.reduceBNe, mCall, h1, h2]
theorem scoped_answers (v m : Int) : Answers 54 [.href 0 0, .href 1 0] [.var 0 [dI v], .var 0 [dI m]] (scopeB v m) calm := by
  intro n x locs hp toks hc
  simp only [mCall, callsPure, pureL, AV.pure, okL, AV.okA, C_thr, eraseL, AV.erase, List.cons_append, List.nil_append, tscoped1_spec n v m x hp hc, Bool.and_true, Bool.true_and, Bool.and_false, Bool.false_and, Bool.false_eq_true, if_false, if_true, Option.bind_some, heapRes_ret]
theorem tscoped_spec (t : Tm) (v m : Int) (hs : t.size < room) (hc : ∀ q ∈ pre t 0, calm q) : ∃ h, (lim C).call 23 [dT t, dI v, dI m] [] = some (.ret (dB (scopedB t v m)), h) := by
  have h1 := all_spec (scoped_answers v m) rfl rfl t hs hc
  rw [pre_scoped, Int.add_zero] at h1
  refine ⟨[.var 0 [dI v], .var 0 [dI m]] ++ [.var 0 [.fn 54 [] [.href 0 0, .href 1 0]], .var 0 [dB (scopedB t v m)], .var 0 (cel3 t), .dead], ?_⟩
  rw [ev_fn 23 Try.f23 _ _ _ rfl Try.func23 rfl Try.ntmps23 rfl]
  simp -implicitDefEqProofs (disch := decide +kernel) only [go_sem, ↓reduceIte, Nat.reduceSub, Nat.reduceAdd, Nat.reduceMul, Nat.reduceBEq, Nat.reduceLT, Nat.reduceLeDiff, Nat.reduceEqDiff, reduceCtorEq, Int.reduceToNat, Int.reduceLE, Int.reduceLT, Int.reduceBEq, Int.reduceBNe, mCall, h1]
def tsame_S (t u : Tm) (i : Nat) : St := mk 45 [(3, .lref 3 0), (29, dL t.args), (30, dI t.args.length), (31, dI i)] [(3, cel3 u)] [] []
theorem tsame_loop {b : Code} {σ : St} {t u : Tm} (hb : b = cf (cf (cs (cf (cs (cs (bodyOf Try.f33))))))) (hσ : σ = tsame_S t u 0) (hlu : u.args.length = t.args.length) (ih : ∀ x ∈ t.args, ∀ y ∈ u.args, (lim C).call 33 [dT x, dT y] [] = retB (sameB x y)) (hl : t.args.length < room) :
    (lim C).code 33 (.loop b) σ = some (if allB t.args.length (fun i => sameB (t.arg i) (u.arg i)) then (.exit 0, mk 45 [(3, .lref 3 0), (29, dL t.args), (30, dI t.args.length), (31, dI t.args.length), (32, dB false)] [(3, cel3 u)] [] []) else (.ret, mk 45 [(4, dB false)] [] [] [])) := by
  subst hb hσ
  have hr : room = 1099511627776 := rfl
  refine loop_all (tsame_S t u) t.args.length _ ?_ ?_ ?_ (by simp) (by simp)
  · intro i hi hp
    have hiu : i < u.args.length := by omega
    have hc := ih _ (arg_mem hi) _ (arg_mem hiu)
    rw [hp] at hc
    simp -implicitDefEqProofs (disch := decide +kernel) only [cf, cs, bodyOf, Try.f33, Option.getD_some, go_sem, ↓reduceIte, Nat.reduceSub, Nat.reduceAdd, Nat.reduceMul, Nat.reduceBEq, Nat.reduceLT, Nat.reduceLeDiff, Nat.reduceEqDiff, reduceCtorEq, Int.reduceToNat, Int.reduceLE, Int.reduceLT, Int.reduceBEq, Int.reduceBNe, mCall, tsame_S, lt_true hi, arg_get hi, arg_get hiu, hc, wrap_succ (n := i) (by omega)]
  · intro i hi hp
    have hiu : i < u.args.length := by omega
    have hc := ih _ (arg_mem hi) _ (arg_mem hiu)
    rw [hp] at hc
    simp -implicitDefEqProofs (disch := decide +kernel) only [cf, cs, bodyOf, Try.f33, Option.getD_some, go_sem, ↓reduceIte, Nat.reduceSub, Nat.reduceAdd, Nat.reduceMul, Nat.reduceBEq, Nat.reduceLT, Nat.reduceLeDiff, Nat.reduceEqDiff, reduceCtorEq, Int.reduceToNat, Int.reduceLE, Int.reduceLT, Int.reduceBEq, Int.reduceBNe, mCall, tsame_S, lt_true hi, arg_get hi, arg_get hiu, hc]
  · simp -implicitDefEqProofs (disch := decide +kernel) only [cf, cs, bodyOf, Try.f33, Option.getD_some, go_sem, ↓reduceIte, Nat.reduceSub, Nat.reduceAdd, Nat.reduceMul, Nat.reduceBEq, Nat.reduceLT, Nat.reduceLeDiff, Nat.reduceEqDiff, reduceCtorEq, Int.reduceToNat, Int.reduceLE, Int.reduceLT, Int.reduceBEq, Int.reduceBNe, mCall, tsame_S, lt_false (Nat.le_refl t.args.length)]
theorem tsame_spec : ∀ t : Tm, t.size < room → ∀ u : Tm, (lim C).call 33 [dT t, dT u] [] = retB (sameB t u) := by
  refine Tm.ind fun t ih hs u => ?_
  have hl := len_size t
  rw [ev_fn 33 Try.f33 _ _ _ rfl Try.func33 rfl Try.ntmps33 rfl]
  rw [sameB_eq]
  cases h1 : (t.kind == u.kind)
  · have e1 : (t.kind != u.kind) = true := by simpa using h1
    simp -implicitDefEqProofs (disch := decide +kernel) only [go_sem, ↓reduceIte, Nat.reduceSub, Nat.reduceAdd, Nat.reduceMul, Nat.reduceBEq, Nat.reduceLT, Nat.reduceLeDiff, Nat.reduceEqDiff, reduceCtorEq, Int.reduceToNat, Int.reduceLE, Int.reduceLT, Int.reduceBEq, Int.reduceBNe, mCall, e1]
  · have e1 : (t.kind != u.kind) = false := by simpa using h1
    cases h2 : (t.head == u.head)
    · have e2 : (t.head != u.head) = true := by simpa using h2
      simp -implicitDefEqProofs (disch := decide +kernel) only [go_sem, ↓reduceIte, Nat.reduceSub, Nat.reduceAdd, Nat.reduceMul, Nat.reduceBEq, Nat.reduceLT, Nat.reduceLeDiff, Nat.reduceEqDiff, reduceCtorEq, Int.reduceToNat, Int.reduceLE, Int.reduceLT, Int.reduceBEq, Int.reduceBNe, mCall, e1, e2]
    · have e2 : (t.head != u.head) = false := by simpa using h2
      by_cases h3 : u.args.length = t.args.length
      · have e3 : ((t.args.length : Int) != (u.args.length : Int)) = false := by simp [h3]
        simp -implicitDefEqProofs (disch := decide +kernel) only [go_sem, ↓reduceIte, Nat.reduceSub, Nat.reduceAdd, Nat.reduceMul, Nat.reduceBEq, Nat.reduceLT, Nat.reduceLeDiff, Nat.reduceEqDiff, reduceCtorEq, Int.reduceToNat, Int.reduceLE, Int.reduceLT, Int.reduceBEq, Int.reduceBNe, mCall, e1, e2, e3]
        rw [tsame_loop (t := t) (u := u) ?hb ?hs h3 (fun x hx y hy => ih x hx (by have := size_arg hx; omega) y) (by omega)]
        case hb => rfl
        case hs => rfl
        have h4 : (t.args.length == u.args.length) = true := by simp [h3]
        cases hall : allB t.args.length (fun i => sameB (t.arg i) (u.arg i)) <;> simp -implicitDefEqProofs (disch := decide +kernel) only [go_sem, ↓reduceIte, Nat.reduceSub, Nat.reduceAdd, Nat.reduceMul, Nat.reduceBEq, Nat.reduceLT, Nat.reduceLeDiff, Nat.reduceEqDiff, reduceCtorEq, Int.reduceToNat, Int.reduceLE, Int.reduceLT, Int.reduceBEq, Int.reduceBNe, mCall, h4]
      · have e3 : ((t.args.length : Int) != (u.args.length : Int)) = true := bne_iff_ne.2 (by omega)
        simp -implicitDefEqProofs (disch := decide +kernel) only [go_sem, ↓reduceIte, Nat.reduceSub, Nat.reduceAdd, Nat.reduceMul, Nat.reduceBEq, Nat.reduceLT, Nat.reduceLeDiff, Nat.reduceEqDiff, reduceCtorEq, Int.reduceToNat, Int.reduceLE, Int.reduceLT, Int.reduceBEq, Int.reduceBNe, mCall, e1, e2, e3]
        have h4 : (t.args.length == u.args.length) = false := by simp; omega
        simp [h4]
end Go.Proofs.Ytmemmdfjlhamfaa
