/- The package sign: pis. -/
import Derived.Test.YtfelfahgeannaaaP3
import Derived.Test.YtfelfahgeannaaaF7
import Derived.Test.YtfelfahgeannaaaF1
set_option linter.unusedSimpArgs false
set_option linter.unusedVariables false
set_option maxRecDepth 100000
namespace Go.Proofs.Ytfelfahgeannaaa
open Go.Proofs
/-- What a range over pis does at each: it never ends it. -/
structure Pis {S : Type} (y i : Nat) (H : Tm → S → List HO) (step : S → Tm × Tm → S) (ok : S → Tm × Tm → Prop) : Prop where
  get : ∀ u s, (H u s)[i]? = some (.var 0 (cel3 u))
  set : ∀ u u' s, (H u s).set i (.var 0 (cel3 u')) = H u' s
  call : ∀ (u : Tm) (s : S) (a b : Tm) (locs : List (Option (List AV))) (toks : List (Option Nat)), ok s (a, b) → mYld (lim C) y [dT a, dT b] { locs := locs, heap := H u s, toks := toks } = some (.v (dB true), { locs := locs, heap := H u (step s (a, b)), toks := toks })
def okAll {S : Type} (step : S → Tm × Tm → S) (ok : S → Tm × Tm → Prop) : S → List (Tm × Tm) → Prop
  | _, [] => True
  | s, p :: ps => ok s p ∧ okAll step ok (step s p) ps
theorem pis_loop {S : Type} {y i : Nat} {H : Tm → S → List HO} {step : S → Tm × Tm → S} {ok : S → Tm × Tm → Prop} (hy : Pis y i H step ok) (t : Tm) : ∀ s : S, okAll step ok s (pisOf t) →
    (lim C).code 48 (.loop (cf (cf (bodyOf Try.f48)))) (mk 27 [(0, .yld y), (1, .href i 0)] [] (H t s) []) = some (.exit 0, mk 27 [(0, .yld y), (1, .href i 0), (11, dB false)] [] (H (lastOf t) ((pisOf t).foldl step s)) []) := by
  have hg := hy.get
  have hset := hy.set
  simp only [cel3] at hg hset
  induction t using pis_ind with
  | h0 t h =>
    intro s _
    rw [lastOf_no h, pisOf_no h, List.foldl_nil, ev_loop]
    cases k1 : (t.kind == 1)
    · simp -implicitDefEqProofs (disch := decide +kernel) only [cf, cs, bodyOf, Try.f48, Option.getD_some, go_sem, ↓reduceIte, Nat.reduceSub, Nat.reduceAdd, Nat.reduceMul, Nat.reduceBEq, Nat.reduceLT, Nat.reduceLeDiff, Nat.reduceEqDiff, reduceCtorEq, Int.reduceToNat, Int.reduceLE, Int.reduceLT, Int.reduceBEq, Int.reduceBNe, mCall, hg, k1]
    · have e2 : ((t.args.length : Int) == 2) = false := by
        simp [isPi, k1] at h; simp; omega
      simp -implicitDefEqProofs (disch := decide +kernel) only [cf, cs, bodyOf, Try.f48, Option.getD_some, go_sem, ↓reduceIte, Nat.reduceSub, Nat.reduceAdd, Nat.reduceMul, Nat.reduceBEq, Nat.reduceLT, Nat.reduceLeDiff, Nat.reduceEqDiff, reduceCtorEq, Int.reduceToNat, Int.reduceLE, Int.reduceLT, Int.reduceBEq, Int.reduceBNe, mCall, hg, k1, e2]
  | h1 t h ih =>
    intro s hok
    rw [lastOf_pi h, pisOf_pi h, List.foldl_cons, ev_loop]
    rw [pisOf_pi h] at hok
    have h' := isPi_iff.1 h
    have k1 : (t.kind == 1) = true := by simp [h'.1]
    have e2 : ((t.args.length : Int) == 2) = true := by simp [h'.2]
    have hc := fun locs toks => hy.call t s (t.arg 0) (t.arg 1) locs toks hok.1
    have hi := ih _ hok.2
    simp -implicitDefEqProofs (disch := decide +kernel) only [cf, cs, bodyOf, Try.f48, Option.getD_some, go_sem, ↓reduceIte, Nat.reduceSub, Nat.reduceAdd, Nat.reduceMul, Nat.reduceBEq, Nat.reduceLT, Nat.reduceLeDiff, Nat.reduceEqDiff, reduceCtorEq, Int.reduceToNat, Int.reduceLE, Int.reduceLT, Int.reduceBEq, Int.reduceBNe, mCall, hg, hset, k1, e2, pi_arg0 h, pi_arg1 h, hc]
    exact hi
theorem pis_spec (t : Tm) (h : List HO) : (lim C).call 40 [dT t] h = some (.ret (.fn 48 [] [.href h.length 0]), h ++ [.var 0 (cel3 t)]) := by
  rw [ev_fn 40 Try.f40 _ _ _ rfl Try.func40 rfl Try.ntmps40 rfl]
  simp -implicitDefEqProofs (disch := decide +kernel) only [go_sem, ↓reduceIte, Nat.reduceSub, Nat.reduceAdd, Nat.reduceMul, Nat.reduceBEq, Nat.reduceLT, Nat.reduceLeDiff, Nat.reduceEqDiff, reduceCtorEq, Int.reduceToNat, Int.reduceLE, Int.reduceLT, Int.reduceBEq, Int.reduceBNe, mCall]
theorem pis1_spec {S : Type} {y i : Nat} {H : Tm → S → List HO} {step : S → Tm × Tm → S} {ok : S → Tm × Tm → Prop} (hy : Pis y i H step ok) (t : Tm) (s : S) (hok : okAll step ok s (pisOf t)) :
    (lim C).call 48 [.yld y, .href i 0] (H t s) = some (.ret (.tup []), H (lastOf t) ((pisOf t).foldl step s)) := by
  have hl := pis_loop hy t s hok
  rw [ev_fn 48 Try.f48 _ _ _ rfl Try.func48 rfl Try.ntmps48 rfl]
  simp -implicitDefEqProofs (disch := decide +kernel) only [go_sem, ↓reduceIte, Nat.reduceSub, Nat.reduceAdd, Nat.reduceMul, Nat.reduceBEq, Nat.reduceLT, Nat.reduceLeDiff, Nat.reduceEqDiff, reduceCtorEq, Int.reduceToNat, Int.reduceLE, Int.reduceLT, Int.reduceBEq, Int.reduceBNe, mCall]
  rw [loop_at hl ?hb ?hs]
  case hb => rfl
  case hs => rfl
  simp -implicitDefEqProofs (disch := decide +kernel) only [go_sem, ↓reduceIte, Nat.reduceSub, Nat.reduceAdd, Nat.reduceMul, Nat.reduceBEq, Nat.reduceLT, Nat.reduceLeDiff, Nat.reduceEqDiff, reduceCtorEq, Int.reduceToNat, Int.reduceLE, Int.reduceLT, Int.reduceBEq, Int.reduceBNe, mCall]
end Go.Proofs.Ytfelfahgeannaaa
