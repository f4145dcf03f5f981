/- The program's functions of layer 1: walk. -/
import Derived.Test.YtmemmdfjlhamfaaP2
import Derived.Test.YtmemmdfjlhamfaaF4
set_option linter.unusedSimpArgs false
set_option linter.unusedVariables false
set_option maxRecDepth 100000
namespace Go.Proofs.Ytmemmdfjlhamfaa
open Go.Proofs
theorem tbinds_spec (t : Tm) : (lim C).call 125 [dT t] [] = retB (bindsB t) := by
  rw [ev_fn 125 Try.f125 _ _ _ rfl Try.func125 rfl Try.ntmps125 rfl]
  unfold bindsB
  cases h1 : (t.kind == 1)
  · simp -implicitDefEqProofs (disch := decide +kernel) only [go_sem, ↓reduceIte, Nat.reduceSub, Nat.reduceAdd, Nat.reduceMul, Nat.reduceBEq, Nat.reduceLT, Nat.reduceLeDiff, Nat.reduceEqDiff, reduceCtorEq, Int.reduceToNat, Int.reduceLE, Int.reduceLT, Int.reduceBEq, Int.reduceBNe, mCall, h1]
  · simp -implicitDefEqProofs (disch := decide +kernel) only [go_sem, ↓reduceIte, Nat.reduceSub, Nat.reduceAdd, Nat.reduceMul, Nat.reduceBEq, Nat.reduceLT, Nat.reduceLeDiff, Nat.reduceEqDiff, reduceCtorEq, Int.reduceToNat, Int.reduceLE, Int.reduceLT, Int.reduceBEq, Int.reduceBNe, mCall, h1]
/-- What a walk does at each node: an answer of yield. -/
def Yields {S R : Type} (y : Nat) (H : S → List HO) (E : R → List HO) (step : S → Int × Tm → Except R S) (ok : Int × Tm → Prop) : Prop :=
  ∀ (s : S) (n : Int) (x : Tm) (locs : List (Option (List AV))) (toks : List (Option Nat)), ok (n, x) → mYld (lim C) y [dI n, dT x] { locs := locs, heap := H s, toks := toks } = some (match step s (n, x) with
    | .ok s' => (.v (dB true), { locs := locs, heap := H s', toks := toks })
    | .error r => (.v (dB false), { locs := locs, heap := E r, toks := toks }))
def walk_S (t : Tm) (n : Int) (y : Nat) (i : Nat) (h : List HO) : St := mk 42 [(1, dI n), (2, .yld y), (3, .lref 3 0), (16, dL t.args), (17, dI t.args.length), (18, dI i)] [(3, cel3 t)] h []
theorem bindsB_bnd {t : Tm} {i : Nat} (h : bindsB t = true) (e : ((i : Int) == (t.args.length : Int) - 1) = true) : bnd t i = 1 := by
  simp [bindsB] at h
  simp at e
  unfold bnd
  rw [if_pos ⟨h, by omega⟩]
theorem bindsB_no {t : Tm} {i : Nat} (h : bindsB t = false) : bnd t i = 0 := by
  simp [bindsB] at h
  unfold bnd
  rw [if_neg (by rintro ⟨h1 | h1, _⟩ <;> simp_all)]
theorem bindsB_not {t : Tm} {i : Nat} (e : ((i : Int) == (t.args.length : Int) - 1) = false) : bnd t i = 0 := by
  simp at e
  unfold bnd
  rw [if_neg (by rintro ⟨_, h1⟩; omega)]
theorem walk_loop {S R : Type} {y : Nat} {H : S → List HO} {E : R → List HO} {step : S → Int × Tm → Except R S} {t : Tm} {n : Int} (hs : t.size < room) (hn : 0 ≤ n ∧ n + t.size < 4000000000000000000)
    {ok : Int × Tm → Prop} (hok : ∀ p ∈ pre t n, ok p)
    (ih : ∀ x ∈ t.args, ∀ (m : Int) (s : S), 0 ≤ m → m + x.size < 4000000000000000000 → (∀ p ∈ pre x m, ok p) → (lim C).call 114 [dT x, dI m, .yld y] (H s) = some (match runL step (pre x m) s with | .ok s' => (.ret (dB true), H s') | .error r => (.ret (dB false), E r))) :
    ∀ (k i : Nat) (s : S), i + k = t.args.length → (lim C).code 114 (.loop (cf (cf (cs (cf (cs (cs (bodyOf Try.f114)))))))) (walk_S t n y i (H s)) = some (match runL step (preF pre t n k i) s with
      | .ok s' => (.exit 0, mk 42 [(1, dI n), (2, .yld y), (3, .lref 3 0), (16, dL t.args), (17, dI t.args.length), (18, dI t.args.length), (19, dB false)] [(3, cel3 t)] (H s') [])
      | .error r => (.ret, mk 42 [(6, dB false)] [] (E r) []))
  | 0, i, s, e => by
    have hr : room = 1099511627776 := rfl
    obtain rfl : i = t.args.length := by omega
    rw [ev_loop]
    simp -implicitDefEqProofs (disch := decide +kernel) only [cf, cs, bodyOf, Try.f114, Option.getD_some, go_sem, ↓reduceIte, Nat.reduceSub, Nat.reduceAdd, Nat.reduceMul, Nat.reduceBEq, Nat.reduceLT, Nat.reduceLeDiff, Nat.reduceEqDiff, reduceCtorEq, Int.reduceToNat, Int.reduceLE, Int.reduceLT, Int.reduceBEq, Int.reduceBNe, mCall, walk_S, lt_false (Nat.le_refl t.args.length), preF, runL]
  | k + 1, i, s, e => by
    have hr : room = 1099511627776 := rfl
    have hi : i < t.args.length := by omega
    have hl := len_size t
    have hsz := size_arg (arg_mem hi)
    have hbl := bnd_le t i
    have hrec := ih _ (arg_mem hi) (n + bnd t i) s (by omega) (by omega) (fun p hp => hok p (pre_sub hi hp))
    have hrest := fun s' => walk_loop hs hn hok ih k (i + 1) s' (by omega)
    simp only [preF, runL_append]
    rw [ev_loop]
    have hw1 : IntKind.wrap .i64 ((t.args.length : Int) - 1) = (t.args.length : Int) - 1 := wrap_ok (by omega) (by omega)
    have hw2 : IntKind.wrap .i64 (n + 1) = n + 1 := wrap_ok (by omega) (by omega)
    have hws := wrap_succ (n := i) (by omega)
    cases hrun : runL step (pre (t.arg i) (n + bnd t i)) s with
    | ok s' =>
      have hr' := hrest s'
      rw [hrun] at hrec
      cases hb : bindsB t
      · rw [bindsB_no hb, Int.natCast_zero, Int.add_zero] at hrec
        simp -implicitDefEqProofs (disch := decide +kernel) only [cf, cs, bodyOf, Try.f114, Option.getD_some, go_sem, ↓reduceIte, Nat.reduceSub, Nat.reduceAdd, Nat.reduceMul, Nat.reduceBEq, Nat.reduceLT, Nat.reduceLeDiff, Nat.reduceEqDiff, reduceCtorEq, Int.reduceToNat, Int.reduceLE, Int.reduceLT, Int.reduceBEq, Int.reduceBNe, mCall, walk_S, lt_true hi, arg_get hi, tbinds_spec t, hb, hws, hrec]
        exact hr'
      · cases he : ((i : Int) == (t.args.length : Int) - 1)
        · rw [bindsB_not he, Int.natCast_zero, Int.add_zero] at hrec
          simp -implicitDefEqProofs (disch := decide +kernel) only [cf, cs, bodyOf, Try.f114, Option.getD_some, go_sem, ↓reduceIte, Nat.reduceSub, Nat.reduceAdd, Nat.reduceMul, Nat.reduceBEq, Nat.reduceLT, Nat.reduceLeDiff, Nat.reduceEqDiff, reduceCtorEq, Int.reduceToNat, Int.reduceLE, Int.reduceLT, Int.reduceBEq, Int.reduceBNe, mCall, walk_S, lt_true hi, arg_get hi, tbinds_spec t, hb, hw1, he, hws, hrec]
          exact hr'
        · rw [bindsB_bnd hb he] at hrec
          have hrec : _ = _ := hrec
          rw [Int.natCast_one] at hrec
          simp -implicitDefEqProofs (disch := decide +kernel) only [cf, cs, bodyOf, Try.f114, Option.getD_some, go_sem, ↓reduceIte, Nat.reduceSub, Nat.reduceAdd, Nat.reduceMul, Nat.reduceBEq, Nat.reduceLT, Nat.reduceLeDiff, Nat.reduceEqDiff, reduceCtorEq, Int.reduceToNat, Int.reduceLE, Int.reduceLT, Int.reduceBEq, Int.reduceBNe, mCall, walk_S, lt_true hi, arg_get hi, tbinds_spec t, hb, hw1, hw2, he, hws, hrec]
          exact hr'
    | error r =>
      rw [hrun] at hrec
      cases hb : bindsB t
      · rw [bindsB_no hb, Int.natCast_zero, Int.add_zero] at hrec
        simp -implicitDefEqProofs (disch := decide +kernel) only [cf, cs, bodyOf, Try.f114, Option.getD_some, go_sem, ↓reduceIte, Nat.reduceSub, Nat.reduceAdd, Nat.reduceMul, Nat.reduceBEq, Nat.reduceLT, Nat.reduceLeDiff, Nat.reduceEqDiff, reduceCtorEq, Int.reduceToNat, Int.reduceLE, Int.reduceLT, Int.reduceBEq, Int.reduceBNe, mCall, walk_S, lt_true hi, arg_get hi, tbinds_spec t, hb, hws, hrec]
      · cases he : ((i : Int) == (t.args.length : Int) - 1)
        · rw [bindsB_not he, Int.natCast_zero, Int.add_zero] at hrec
          simp -implicitDefEqProofs (disch := decide +kernel) only [cf, cs, bodyOf, Try.f114, Option.getD_some, go_sem, ↓reduceIte, Nat.reduceSub, Nat.reduceAdd, Nat.reduceMul, Nat.reduceBEq, Nat.reduceLT, Nat.reduceLeDiff, Nat.reduceEqDiff, reduceCtorEq, Int.reduceToNat, Int.reduceLE, Int.reduceLT, Int.reduceBEq, Int.reduceBNe, mCall, walk_S, lt_true hi, arg_get hi, tbinds_spec t, hb, hw1, he, hws, hrec]
        · rw [bindsB_bnd hb he] at hrec
          have hrec : _ = _ := hrec
          rw [Int.natCast_one] at hrec
          simp -implicitDefEqProofs (disch := decide +kernel) only [cf, cs, bodyOf, Try.f114, Option.getD_some, go_sem, ↓reduceIte, Nat.reduceSub, Nat.reduceAdd, Nat.reduceMul, Nat.reduceBEq, Nat.reduceLT, Nat.reduceLeDiff, Nat.reduceEqDiff, reduceCtorEq, Int.reduceToNat, Int.reduceLE, Int.reduceLT, Int.reduceBEq, Int.reduceBNe, mCall, walk_S, lt_true hi, arg_get hi, tbinds_spec t, hb, hw1, hw2, he, hws, hrec]
theorem walk_spec {S R : Type} {y : Nat} {H : S → List HO} {E : R → List HO} {step : S → Int × Tm → Except R S} {ok : Int × Tm → Prop} (hy : Yields y H E step ok) : ∀ t : Tm, t.size < room → ∀ (n : Int) (s : S), 0 ≤ n → n + t.size < 4000000000000000000 → (∀ p ∈ pre t n, ok p) →
    (lim C).call 114 [dT t, dI n, .yld y] (H s) = some (match runL step (pre t n) s with | .ok s' => (.ret (dB true), H s') | .error r => (.ret (dB false), E r)) := by
  refine Tm.ind fun t ih hs n s hn1 hn2 hok => ?_
  have hl := len_size t
  rw [ev_fn 114 Try.f114 _ _ _ rfl Try.func114 rfl Try.ntmps114 rfl]
  have hst := hy s n t
  have hok0 := hok (n, t) (by rw [pre_eq]; simp)
  rw [pre_eq, runL]
  cases hstep : step s (n, t) with
  | error r =>
    have hst := fun locs toks => hst locs toks hok0
    rw [hstep] at hst
    simp -implicitDefEqProofs (disch := decide +kernel) only [go_sem, ↓reduceIte, Nat.reduceSub, Nat.reduceAdd, Nat.reduceMul, Nat.reduceBEq, Nat.reduceLT, Nat.reduceLeDiff, Nat.reduceEqDiff, reduceCtorEq, Int.reduceToNat, Int.reduceLE, Int.reduceLT, Int.reduceBEq, Int.reduceBNe, mCall, hst]
  | ok s' =>
    have hst := fun locs toks => hst locs toks hok0
    rw [hstep] at hst
    simp -implicitDefEqProofs (disch := decide +kernel) only [go_sem, ↓reduceIte, Nat.reduceSub, Nat.reduceAdd, Nat.reduceMul, Nat.reduceBEq, Nat.reduceLT, Nat.reduceLeDiff, Nat.reduceEqDiff, reduceCtorEq, Int.reduceToNat, Int.reduceLE, Int.reduceLT, Int.reduceBEq, Int.reduceBNe, mCall, hst]
    have hloop := walk_loop (H := H) (E := E) (y := y) (step := step) hs ⟨hn1, hn2⟩ hok (fun x hx m s h1 h2 h3 => ih x hx (by have := size_arg hx; omega) m s h1 h2 h3) t.args.length 0 s' (by omega)
    cases hrun : runL step (preF pre t n t.args.length 0) s' with
    | ok s2 =>
      rw [hrun] at hloop
      rw [loop_at hloop ?hb ?hs]
      case hb => rfl
      case hs => rfl
      simp -implicitDefEqProofs (disch := decide +kernel) only [go_sem, ↓reduceIte, Nat.reduceSub, Nat.reduceAdd, Nat.reduceMul, Nat.reduceBEq, Nat.reduceLT, Nat.reduceLeDiff, Nat.reduceEqDiff, reduceCtorEq, Int.reduceToNat, Int.reduceLE, Int.reduceLT, Int.reduceBEq, Int.reduceBNe, mCall]
    | error r =>
      rw [hrun] at hloop
      rw [loop_at hloop ?hb ?hs]
      case hb => rfl
      case hs => rfl
      simp -implicitDefEqProofs (disch := decide +kernel) only [go_sem, ↓reduceIte, Nat.reduceSub, Nat.reduceAdd, Nat.reduceMul, Nat.reduceBEq, Nat.reduceLT, Nat.reduceLeDiff, Nat.reduceEqDiff, reduceCtorEq, Int.reduceToNat, Int.reduceLE, Int.reduceLT, Int.reduceBEq, Int.reduceBNe, mCall]
end Go.Proofs.Ytmemmdfjlhamfaa
