/- The reference's functions of layer 1, third part: Same, Scoped, List. -/
import Derived.Test.YtmemmdfjlhamfaaF3
set_option linter.unusedSimpArgs false
set_option linter.unusedVariables false
set_option maxRecDepth 100000
namespace Go.Proofs.Ytmemmdfjlhamfaa
open Go.Proofs
def rsame_S (t u : Tm) (i : Nat) : St := mk 48 [(2, .lref 2 0), (3, .lref 3 0), (5, dI i)] [(2, cel3 t), (3, cel3 u)] [] []
theorem rsame_loop {b : Code} {σ : St} {t u : Tm} (hb : b = cf (cf (cs (cf (cs (cs (bodyOf Try.f26))))))) (hσ : σ = rsame_S t u 0) (hlu : u.args.length = t.args.length) (ih : ∀ x ∈ t.args, ∀ y ∈ u.args, (lim C).call 26 [dT x, dT y] [] = retB (sameB x y)) (hl : t.args.length < room) :
    (lim C).code 26 (.loop b) σ = some (if allB t.args.length (fun i => sameB (t.arg i) (u.arg i)) then (.exit 0, mk 48 [(2, .lref 2 0), (3, .lref 3 0), (5, dI t.args.length), (32, dB false)] [(2, cel3 t), (3, cel3 u)] [] []) else (.ret, mk 48 [(4, dB false)] [] [] [])) := by
  subst hb hσ
  have hr : room = 1099511627776 := rfl
  refine loop_all (rsame_S t u) t.args.length _ ?_ ?_ ?_ (by simp) (by simp)
  · intro i hi hp
    have hiu : i < u.args.length := by omega
    have hc := ih _ (arg_mem hi) _ (arg_mem hiu)
    rw [hp] at hc
    simp -implicitDefEqProofs (disch := decide +kernel) only [cf, cs, bodyOf, Try.f26, Option.getD_some, go_sem, ↓reduceIte, Nat.reduceSub, Nat.reduceAdd, Nat.reduceMul, Nat.reduceBEq, Nat.reduceLT, Nat.reduceLeDiff, Nat.reduceEqDiff, reduceCtorEq, Int.reduceToNat, Int.reduceLE, Int.reduceLT, Int.reduceBEq, Int.reduceBNe, mCall, rsame_S, lt_true hi, arg_get hi, arg_get hiu, hc, wrap_succ (n := i) (by omega)]
  · intro i hi hp
    have hiu : i < u.args.length := by omega
    have hc := ih _ (arg_mem hi) _ (arg_mem hiu)
    rw [hp] at hc
    simp -implicitDefEqProofs (disch := decide +kernel) only [cf, cs, bodyOf, Try.f26, Option.getD_some, go_sem, ↓reduceIte, Nat.reduceSub, Nat.reduceAdd, Nat.reduceMul, Nat.reduceBEq, Nat.reduceLT, Nat.reduceLeDiff, Nat.reduceEqDiff, reduceCtorEq, Int.reduceToNat, Int.reduceLE, Int.reduceLT, Int.reduceBEq, Int.reduceBNe, mCall, rsame_S, lt_true hi, arg_get hi, arg_get hiu, hc]
  · simp -implicitDefEqProofs (disch := decide +kernel) only [cf, cs, bodyOf, Try.f26, Option.getD_some, go_sem, ↓reduceIte, Nat.reduceSub, Nat.reduceAdd, Nat.reduceMul, Nat.reduceBEq, Nat.reduceLT, Nat.reduceLeDiff, Nat.reduceEqDiff, reduceCtorEq, Int.reduceToNat, Int.reduceLE, Int.reduceLT, Int.reduceBEq, Int.reduceBNe, mCall, rsame_S, lt_false (Nat.le_refl t.args.length)]
theorem rsame_spec : ∀ t : Tm, t.size < room → ∀ u : Tm, (lim C).call 26 [dT t, dT u] [] = retB (sameB t u) := by
  refine Tm.ind fun t ih hs u => ?_
  have hl := len_size t
  rw [ev_fn 26 Try.f26 _ _ _ rfl Try.func26 rfl Try.ntmps26 rfl]
  rw [sameB_eq]
  cases h1 : (t.kind == u.kind)
  · have e1 : (t.kind != u.kind) = true := by simpa using h1
    simp -implicitDefEqProofs (disch := decide +kernel) only [go_sem, ↓reduceIte, Nat.reduceSub, Nat.reduceAdd, Nat.reduceMul, Nat.reduceBEq, Nat.reduceLT, Nat.reduceLeDiff, Nat.reduceEqDiff, reduceCtorEq, Int.reduceToNat, Int.reduceLE, Int.reduceLT, Int.reduceBEq, Int.reduceBNe, mCall, e1]
  · have e1 : (t.kind != u.kind) = false := by simpa using h1
    cases h2 : (t.head == u.head)
    · have e2 : (t.head != u.head) = true := by simpa using h2
      simp -implicitDefEqProofs (disch := decide +kernel) only [go_sem, ↓reduceIte, Nat.reduceSub, Nat.reduceAdd, Nat.reduceMul, Nat.reduceBEq, Nat.reduceLT, Nat.reduceLeDiff, Nat.reduceEqDiff, reduceCtorEq, Int.reduceToNat, Int.reduceLE, Int.reduceLT, Int.reduceBEq, Int.reduceBNe, mCall, e1, e2]
    · have e2 : (t.head != u.head) = false := by simpa using h2
      by_cases h3 : u.args.length = t.args.length
      · have e3 : ((t.args.length : Int) != (u.args.length : Int)) = false := by simp [h3]
        simp -implicitDefEqProofs (disch := decide +kernel) only [go_sem, ↓reduceIte, Nat.reduceSub, Nat.reduceAdd, Nat.reduceMul, Nat.reduceBEq, Nat.reduceLT, Nat.reduceLeDiff, Nat.reduceEqDiff, reduceCtorEq, Int.reduceToNat, Int.reduceLE, Int.reduceLT, Int.reduceBEq, Int.reduceBNe, mCall, e1, e2, e3]
        rw [rsame_loop (t := t) (u := u) ?hb ?hs h3 (fun x hx y hy => ih x hx (by have := size_arg hx; omega) y) (by omega)]
        case hb => rfl
        case hs => rfl
        have h4 : (t.args.length == u.args.length) = true := by simp [h3]
        cases hall : allB t.args.length (fun i => sameB (t.arg i) (u.arg i)) <;> simp -implicitDefEqProofs (disch := decide +kernel) only [go_sem, ↓reduceIte, Nat.reduceSub, Nat.reduceAdd, Nat.reduceMul, Nat.reduceBEq, Nat.reduceLT, Nat.reduceLeDiff, Nat.reduceEqDiff, reduceCtorEq, Int.reduceToNat, Int.reduceLE, Int.reduceLT, Int.reduceBEq, Int.reduceBNe, mCall, h4]
      · have e3 : ((t.args.length : Int) != (u.args.length : Int)) = true := bne_iff_ne.2 (by omega)
        simp -implicitDefEqProofs (disch := decide +kernel) only [go_sem, ↓reduceIte, Nat.reduceSub, Nat.reduceAdd, Nat.reduceMul, Nat.reduceBEq, Nat.reduceLT, Nat.reduceLeDiff, Nat.reduceEqDiff, reduceCtorEq, Int.reduceToNat, Int.reduceLE, Int.reduceLT, Int.reduceBEq, Int.reduceBNe, mCall, e1, e2, e3]
        have h4 : (t.args.length == u.args.length) = false := by simp; omega
        simp [h4]
def sameL (a b : List Tm) : Bool := a.length == b.length && allB a.length fun i => sameB (a.getD i default) (b.getD i default)
theorem getD_get {a : List Tm} {i : Nat} (h : i < a.length) : a[i]? = some (a.getD i default) := by simp [List.getD, List.getElem?_eq_getElem h]
theorem getD_mem {a : List Tm} {i : Nat} (h : i < a.length) : a.getD i default ∈ a := List.mem_of_getElem? (getD_get h)
def rlist_S (a c : List Tm) (i : Nat) : St := mk 30 [(0, dL a), (1, dL c), (5, dI i)] [] [] []
end Go.Proofs.Ytmemmdfjlhamfaa
