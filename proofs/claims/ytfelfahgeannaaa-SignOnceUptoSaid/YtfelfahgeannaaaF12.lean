/- The package sign: last, Kind, Family. -/
import Derived.Test.YtfelfahgeannaaaF11
set_option linter.unusedSimpArgs false
set_option linter.unusedVariables false
set_option maxRecDepth 100000
namespace Go.Proofs.Ytfelfahgeannaaa
open Go.Proofs
noncomputable def last_L : LoopA := { fn := 41, tmps := tl 11 [(1, .href 0 0), (2, .undef), (6, .fn 48 [] [.href 1 0])], params := [7, 8], assign := cf (cf (cs (cf (cs (bodyOf Try.f41))))), body := cs (cf (cs (cf (cs (bodyOf Try.f41))))) }
noncomputable def last_H (u r : Tm) : List HO := [.var 0 (cel3 r), .var 0 (cel3 u), .loop .ready none last_L]
theorem last_pis : Pis 2 1 last_H (fun _ p => p.2) (fun _ _ => True) where
  get := fun u s => rfl
  set := fun u u' s => rfl
  call := fun u s a b locs toks _ => by
    simp -implicitDefEqProofs (disch := decide +kernel) only [cf, cs, bodyOf, Try.f41, Option.getD_some, go_sem, ↓reduceIte, Nat.reduceSub, Nat.reduceAdd, Nat.reduceMul, Nat.reduceBEq, Nat.reduceLT, Nat.reduceLeDiff, Nat.reduceEqDiff, reduceCtorEq, Int.reduceToNat, Int.reduceLE, Int.reduceLT, Int.reduceBEq, Int.reduceBNe, mCall, last_H, last_L, mYld_K]
theorem okAll_true {S : Type} {step : S → Tm × Tm → S} : ∀ (l : List (Tm × Tm)) (s : S), okAll step (fun _ _ => True) s l
  | [], s => trivial
  | p :: l, s => ⟨trivial, okAll_true l _⟩
theorem last_fold (t : Tm) : (pisOf t).foldl (fun _ p => p.2) t = lastOf t := by
  induction t using pis_ind with
  | h0 t h => rw [pisOf_no h, lastOf_no h]; rfl
  | h1 t h ih => rw [pisOf_pi h, lastOf_pi h, List.foldl_cons]; exact ih
theorem last_spec (t : Tm) : ∃ h, (lim C).call 41 [dT t] [] = some (.ret (dT (lastOf t)), h) := by
  have h1 := pis1_spec last_pis t t (okAll_true _ _)
  rw [last_fold] at h1
  refine ⟨[.var 0 (cel3 (lastOf t)), .var 0 (cel3 (lastOf t)), .dead], ?_⟩
  rw [ev_fn 41 Try.f41 _ _ _ rfl Try.func41 rfl Try.ntmps41 rfl]
  simp -implicitDefEqProofs (disch := decide +kernel) only [go_sem, ↓reduceIte, Nat.reduceSub, Nat.reduceAdd, Nat.reduceMul, Nat.reduceBEq, Nat.reduceLT, Nat.reduceLeDiff, Nat.reduceEqDiff, reduceCtorEq, Int.reduceToNat, Int.reduceLE, Int.reduceLT, Int.reduceBEq, Int.reduceBNe, mCall, pis_spec]
  rw [call_at h1 ?hh]
  case hh => rfl
  simp -implicitDefEqProofs (disch := decide +kernel) only [go_sem, ↓reduceIte, Nat.reduceSub, Nat.reduceAdd, Nat.reduceMul, Nat.reduceBEq, Nat.reduceLT, Nat.reduceLeDiff, Nat.reduceEqDiff, reduceCtorEq, Int.reduceToNat, Int.reduceLE, Int.reduceLT, Int.reduceBEq, Int.reduceBNe, mCall, last_H]
theorem skind_spec (t : Tm) : (lim C).call 24 [dT t] [] = retB ((lastOf t).kind == 0) := by
  obtain ⟨h, hl⟩ := last_spec t
  rw [ev_fn 24 Try.f24 _ _ _ rfl Try.func24 rfl Try.ntmps24 rfl]
  simp -implicitDefEqProofs (disch := decide +kernel) only [go_sem, ↓reduceIte, Nat.reduceSub, Nat.reduceAdd, Nat.reduceMul, Nat.reduceBEq, Nat.reduceLT, Nat.reduceLeDiff, Nat.reduceEqDiff, reduceCtorEq, Int.reduceToNat, Int.reduceLE, Int.reduceLT, Int.reduceBEq, Int.reduceBNe, mCall, hl]
def familyOf (t : Tm) : Int := if (lastOf t).kind == 2 then (lastOf t).head else -1
theorem sfamily_spec (t : Tm) : (lim C).call 25 [dT t] [] = retI (familyOf t) := by
  obtain ⟨h, hl⟩ := last_spec t
  unfold familyOf
  rw [ev_fn 25 Try.f25 _ _ _ rfl Try.func25 rfl Try.ntmps25 rfl]
  cases h1 : ((lastOf t).kind == 2)
  · simp -implicitDefEqProofs (disch := decide +kernel) only [go_sem, ↓reduceIte, Nat.reduceSub, Nat.reduceAdd, Nat.reduceMul, Nat.reduceBEq, Nat.reduceLT, Nat.reduceLeDiff, Nat.reduceEqDiff, reduceCtorEq, Int.reduceToNat, Int.reduceLE, Int.reduceLT, Int.reduceBEq, Int.reduceBNe, mCall, hl, h1]
  · simp -implicitDefEqProofs (disch := decide +kernel) only [go_sem, ↓reduceIte, Nat.reduceSub, Nat.reduceAdd, Nat.reduceMul, Nat.reduceBEq, Nat.reduceLT, Nat.reduceLeDiff, Nat.reduceEqDiff, reduceCtorEq, Int.reduceToNat, Int.reduceLE, Int.reduceLT, Int.reduceBEq, Int.reduceBNe, mCall, hl, h1]
end Go.Proofs.Ytfelfahgeannaaa
