/- The reference's functions of layer 1, second part. -/
import Derived.Test.YtmemmdfjlhamfaaF2
set_option linter.unusedSimpArgs false
set_option linter.unusedVariables false
set_option maxRecDepth 100000
namespace Go.Proofs.Ytmemmdfjlhamfaa
open Go.Proofs
def nodes_S (t : Tm) (i : Nat) : St := mk 63 [(1, .lref 1 0), (3, dI i)] [(1, cel3 t)] [] []
theorem nodes_loop {b : Code} {σ : St} {t : Tm} (hb : b = cf (cf (cs (cf (cs (cs (bodyOf Try.f84))))))) (hσ : σ = nodes_S t 0) (ih : ∀ x ∈ t.args, (lim C).call 84 [dT x] [] = retB (nodesB x)) (hl : t.args.length < room) :
    (lim C).code 84 (.loop b) σ = some (if allB t.args.length (fun i => nodesB (t.arg i)) then (.exit 1, mk 63 [(1, .lref 1 0), (3, dI t.args.length), (52, dB false)] [(1, cel3 t)] [] []) else (.ret, mk 63 [(2, dB false)] [] [] [])) := by
  subst hb hσ
  have hr : room = 1099511627776 := rfl
  refine loop_all (nodes_S t) t.args.length _ ?_ ?_ ?_ (by simp) (by simp)
  · intro i hi hp
    have hc := ih _ (arg_mem hi)
    rw [hp] at hc
    simp -implicitDefEqProofs (disch := decide +kernel) only [cf, cs, bodyOf, Try.f84, Option.getD_some, go_sem, ↓reduceIte, Nat.reduceSub, Nat.reduceAdd, Nat.reduceMul, Nat.reduceBEq, Nat.reduceLT, Nat.reduceLeDiff, Nat.reduceEqDiff, reduceCtorEq, Int.reduceToNat, Int.reduceLE, Int.reduceLT, Int.reduceBEq, Int.reduceBNe, mCall, nodes_S, lt_true hi, arg_get hi, hc, wrap_succ (n := i) (by omega)]
  · intro i hi hp
    have hc := ih _ (arg_mem hi)
    rw [hp] at hc
    simp -implicitDefEqProofs (disch := decide +kernel) only [cf, cs, bodyOf, Try.f84, Option.getD_some, go_sem, ↓reduceIte, Nat.reduceSub, Nat.reduceAdd, Nat.reduceMul, Nat.reduceBEq, Nat.reduceLT, Nat.reduceLeDiff, Nat.reduceEqDiff, reduceCtorEq, Int.reduceToNat, Int.reduceLE, Int.reduceLT, Int.reduceBEq, Int.reduceBNe, mCall, nodes_S, lt_true hi, arg_get hi, hc]
  · simp -implicitDefEqProofs (disch := decide +kernel) only [cf, cs, bodyOf, Try.f84, Option.getD_some, go_sem, ↓reduceIte, Nat.reduceSub, Nat.reduceAdd, Nat.reduceMul, Nat.reduceBEq, Nat.reduceLT, Nat.reduceLeDiff, Nat.reduceEqDiff, reduceCtorEq, Int.reduceToNat, Int.reduceLE, Int.reduceLT, Int.reduceBEq, Int.reduceBNe, mCall, nodes_S, lt_false (Nat.le_refl t.args.length)]
theorem kinds (t : Tm) : t.kind = 0 ∨ t.kind = 1 ∨ t.kind = 2 ∨ t.kind = 3 ∨ t.kind = 4 ∨ t.kind = 5 ∨ t.kind = 6 ∨ (t.kind < 0 ∨ 6 < t.kind) := by omega
theorem nodes_spec : ∀ t : Tm, t.size < room → (lim C).call 84 [dT t] [] = retB (nodesB t) := by
  refine Tm.ind fun t ih hs => ?_
  have hl := len_size t
  have hloop : ∀ b σ, _ → _ → _ := fun b σ hb hs => nodes_loop (b := b) (σ := σ) (t := t) hb hs (fun x hx => ih x hx (by have := size_arg hx; omega)) (by omega)
  rw [ev_fn 84 Try.f84 _ _ _ rfl Try.func84 rfl Try.ntmps84 rfl]
  rw [nodesB_eq]
  rcases kinds t with hk | hk | hk | hk | hk | hk | hk | hk
  · have hn : nodeOk t = (t.head == 0 && t.args.length == 0) := by simp [nodeOk, hk]
    rw [hn]
    have k0 : (t.kind == 0) = true := by rw [hk]; rfl
    have k1 : (t.kind == 1) = false := by rw [hk]; rfl
    have k2 : (t.kind == 2) = false := by rw [hk]; rfl
    have k3 : (t.kind == 3) = false := by rw [hk]; rfl
    have k4 : (t.kind == 4) = false := by rw [hk]; rfl
    have k5 : (t.kind == 5) = false := by rw [hk]; rfl
    have k6 : (t.kind == 6) = false := by rw [hk]; rfl
    by_cases h1 : t.head = 0
    · have e1 : (t.head != 0) = false := by simp [h1]
      by_cases h2 : t.args.length = 0
      · have e2 : ((t.args.length : Int) != 0) = false := by simp [h2]
        simp -implicitDefEqProofs (disch := decide +kernel) only [go_sem, ↓reduceIte, Nat.reduceSub, Nat.reduceAdd, Nat.reduceMul, Nat.reduceBEq, Nat.reduceLT, Nat.reduceLeDiff, Nat.reduceEqDiff, reduceCtorEq, Int.reduceToNat, Int.reduceLE, Int.reduceLT, Int.reduceBEq, Int.reduceBNe, mCall, k0, k1, k2, k3, k4, k5, k6, e1, e2]
        rw [hloop _ _ ?hb ?hs]
        case hb => rfl
        case hs => rfl
        cases hall : allB t.args.length (fun i => nodesB (t.arg i)) <;> simp -implicitDefEqProofs (disch := decide +kernel) only [go_sem, ↓reduceIte, Nat.reduceSub, Nat.reduceAdd, Nat.reduceMul, Nat.reduceBEq, Nat.reduceLT, Nat.reduceLeDiff, Nat.reduceEqDiff, reduceCtorEq, Int.reduceToNat, Int.reduceLE, Int.reduceLT, Int.reduceBEq, Int.reduceBNe, mCall] <;> simp [h1, h2]
      · have e2 : ((t.args.length : Int) != 0) = true := bne_iff_ne.2 (by omega)
        simp -implicitDefEqProofs (disch := decide +kernel) only [go_sem, ↓reduceIte, Nat.reduceSub, Nat.reduceAdd, Nat.reduceMul, Nat.reduceBEq, Nat.reduceLT, Nat.reduceLeDiff, Nat.reduceEqDiff, reduceCtorEq, Int.reduceToNat, Int.reduceLE, Int.reduceLT, Int.reduceBEq, Int.reduceBNe, mCall, k0, k1, k2, k3, k4, k5, k6, e1, e2]
        simp [h2]
    · have e1 : (t.head != 0) = true := by simp [h1]
      simp -implicitDefEqProofs (disch := decide +kernel) only [go_sem, ↓reduceIte, Nat.reduceSub, Nat.reduceAdd, Nat.reduceMul, Nat.reduceBEq, Nat.reduceLT, Nat.reduceLeDiff, Nat.reduceEqDiff, reduceCtorEq, Int.reduceToNat, Int.reduceLE, Int.reduceLT, Int.reduceBEq, Int.reduceBNe, mCall, k0, k1, k2, k3, k4, k5, k6, e1]
      simp [h1]
  · have hn : nodeOk t = (t.head == 0 && t.args.length == 2) := by simp [nodeOk, hk]
    rw [hn]
    have k0 : (t.kind == 0) = false := by rw [hk]; rfl
    have k1 : (t.kind == 1) = true := by rw [hk]; rfl
    have k2 : (t.kind == 2) = false := by rw [hk]; rfl
    have k3 : (t.kind == 3) = false := by rw [hk]; rfl
    have k4 : (t.kind == 4) = false := by rw [hk]; rfl
    have k5 : (t.kind == 5) = false := by rw [hk]; rfl
    have k6 : (t.kind == 6) = false := by rw [hk]; rfl
    by_cases h1 : t.head = 0
    · have e1 : (t.head != 0) = false := by simp [h1]
      by_cases h2 : t.args.length = 2
      · have e2 : ((t.args.length : Int) != 2) = false := by simp [h2]
        simp -implicitDefEqProofs (disch := decide +kernel) only [go_sem, ↓reduceIte, Nat.reduceSub, Nat.reduceAdd, Nat.reduceMul, Nat.reduceBEq, Nat.reduceLT, Nat.reduceLeDiff, Nat.reduceEqDiff, reduceCtorEq, Int.reduceToNat, Int.reduceLE, Int.reduceLT, Int.reduceBEq, Int.reduceBNe, mCall, k0, k1, k2, k3, k4, k5, k6, e1, e2]
        rw [hloop _ _ ?hb ?hs]
        case hb => rfl
        case hs => rfl
        cases hall : allB t.args.length (fun i => nodesB (t.arg i)) <;> simp -implicitDefEqProofs (disch := decide +kernel) only [go_sem, ↓reduceIte, Nat.reduceSub, Nat.reduceAdd, Nat.reduceMul, Nat.reduceBEq, Nat.reduceLT, Nat.reduceLeDiff, Nat.reduceEqDiff, reduceCtorEq, Int.reduceToNat, Int.reduceLE, Int.reduceLT, Int.reduceBEq, Int.reduceBNe, mCall] <;> simp [h1, h2]
      · have e2 : ((t.args.length : Int) != 2) = true := bne_iff_ne.2 (by omega)
        simp -implicitDefEqProofs (disch := decide +kernel) only [go_sem, ↓reduceIte, Nat.reduceSub, Nat.reduceAdd, Nat.reduceMul, Nat.reduceBEq, Nat.reduceLT, Nat.reduceLeDiff, Nat.reduceEqDiff, reduceCtorEq, Int.reduceToNat, Int.reduceLE, Int.reduceLT, Int.reduceBEq, Int.reduceBNe, mCall, k0, k1, k2, k3, k4, k5, k6, e1, e2]
        simp [h2]
    · have e1 : (t.head != 0) = true := by simp [h1]
      simp -implicitDefEqProofs (disch := decide +kernel) only [go_sem, ↓reduceIte, Nat.reduceSub, Nat.reduceAdd, Nat.reduceMul, Nat.reduceBEq, Nat.reduceLT, Nat.reduceLeDiff, Nat.reduceEqDiff, reduceCtorEq, Int.reduceToNat, Int.reduceLE, Int.reduceLT, Int.reduceBEq, Int.reduceBNe, mCall, k0, k1, k2, k3, k4, k5, k6, e1]
      simp [h1]
  · have hn : nodeOk t = decide (0 ≤ t.head) := by simp [nodeOk, hk]
    rw [hn]
    have k0 : (t.kind == 0) = false := by rw [hk]; rfl
    have k1 : (t.kind == 1) = false := by rw [hk]; rfl
    have k2 : (t.kind == 2) = true := by rw [hk]; rfl
    have k3 : (t.kind == 3) = false := by rw [hk]; rfl
    have k4 : (t.kind == 4) = false := by rw [hk]; rfl
    have k5 : (t.kind == 5) = false := by rw [hk]; rfl
    have k6 : (t.kind == 6) = false := by rw [hk]; rfl
    by_cases h1 : 0 ≤ t.head
    · have e1 : decide (t.head < 0) = false := by simpa using h1
      simp -implicitDefEqProofs (disch := decide +kernel) only [go_sem, ↓reduceIte, Nat.reduceSub, Nat.reduceAdd, Nat.reduceMul, Nat.reduceBEq, Nat.reduceLT, Nat.reduceLeDiff, Nat.reduceEqDiff, reduceCtorEq, Int.reduceToNat, Int.reduceLE, Int.reduceLT, Int.reduceBEq, Int.reduceBNe, mCall, k0, k1, k2, k3, k4, k5, k6, e1]
      rw [hloop _ _ ?hb ?hs]
      case hb => rfl
      case hs => rfl
      cases hall : allB t.args.length (fun i => nodesB (t.arg i)) <;> simp -implicitDefEqProofs (disch := decide +kernel) only [go_sem, ↓reduceIte, Nat.reduceSub, Nat.reduceAdd, Nat.reduceMul, Nat.reduceBEq, Nat.reduceLT, Nat.reduceLeDiff, Nat.reduceEqDiff, reduceCtorEq, Int.reduceToNat, Int.reduceLE, Int.reduceLT, Int.reduceBEq, Int.reduceBNe, mCall] <;> simp [h1]
    · have e1 : decide (t.head < 0) = true := by simp; omega
      simp -implicitDefEqProofs (disch := decide +kernel) only [go_sem, ↓reduceIte, Nat.reduceSub, Nat.reduceAdd, Nat.reduceMul, Nat.reduceBEq, Nat.reduceLT, Nat.reduceLeDiff, Nat.reduceEqDiff, reduceCtorEq, Int.reduceToNat, Int.reduceLE, Int.reduceLT, Int.reduceBEq, Int.reduceBNe, mCall, k0, k1, k2, k3, k4, k5, k6, e1]
      simp [h1]
  · have hn : nodeOk t = (t.head == 0 && t.args.length == 1) := by simp [nodeOk, hk]
    rw [hn]
    have k0 : (t.kind == 0) = false := by rw [hk]; rfl
    have k1 : (t.kind == 1) = false := by rw [hk]; rfl
    have k2 : (t.kind == 2) = false := by rw [hk]; rfl
    have k3 : (t.kind == 3) = true := by rw [hk]; rfl
    have k4 : (t.kind == 4) = false := by rw [hk]; rfl
    have k5 : (t.kind == 5) = false := by rw [hk]; rfl
    have k6 : (t.kind == 6) = false := by rw [hk]; rfl
    by_cases h1 : t.head = 0
    · have e1 : (t.head != 0) = false := by simp [h1]
      by_cases h2 : t.args.length = 1
      · have e2 : ((t.args.length : Int) != 1) = false := by simp [h2]
        simp -implicitDefEqProofs (disch := decide +kernel) only [go_sem, ↓reduceIte, Nat.reduceSub, Nat.reduceAdd, Nat.reduceMul, Nat.reduceBEq, Nat.reduceLT, Nat.reduceLeDiff, Nat.reduceEqDiff, reduceCtorEq, Int.reduceToNat, Int.reduceLE, Int.reduceLT, Int.reduceBEq, Int.reduceBNe, mCall, k0, k1, k2, k3, k4, k5, k6, e1, e2]
        rw [hloop _ _ ?hb ?hs]
        case hb => rfl
        case hs => rfl
        cases hall : allB t.args.length (fun i => nodesB (t.arg i)) <;> simp -implicitDefEqProofs (disch := decide +kernel) only [go_sem, ↓reduceIte, Nat.reduceSub, Nat.reduceAdd, Nat.reduceMul, Nat.reduceBEq, Nat.reduceLT, Nat.reduceLeDiff, Nat.reduceEqDiff, reduceCtorEq, Int.reduceToNat, Int.reduceLE, Int.reduceLT, Int.reduceBEq, Int.reduceBNe, mCall] <;> simp [h1, h2]
      · have e2 : ((t.args.length : Int) != 1) = true := bne_iff_ne.2 (by omega)
        simp -implicitDefEqProofs (disch := decide +kernel) only [go_sem, ↓reduceIte, Nat.reduceSub, Nat.reduceAdd, Nat.reduceMul, Nat.reduceBEq, Nat.reduceLT, Nat.reduceLeDiff, Nat.reduceEqDiff, reduceCtorEq, Int.reduceToNat, Int.reduceLE, Int.reduceLT, Int.reduceBEq, Int.reduceBNe, mCall, k0, k1, k2, k3, k4, k5, k6, e1, e2]
        simp [h2]
    · have e1 : (t.head != 0) = true := by simp [h1]
      simp -implicitDefEqProofs (disch := decide +kernel) only [go_sem, ↓reduceIte, Nat.reduceSub, Nat.reduceAdd, Nat.reduceMul, Nat.reduceBEq, Nat.reduceLT, Nat.reduceLeDiff, Nat.reduceEqDiff, reduceCtorEq, Int.reduceToNat, Int.reduceLE, Int.reduceLT, Int.reduceBEq, Int.reduceBNe, mCall, k0, k1, k2, k3, k4, k5, k6, e1]
      simp [h1]
  · have hn : nodeOk t = decide (0 ≤ t.head) := by simp [nodeOk, hk]
    rw [hn]
    have k0 : (t.kind == 0) = false := by rw [hk]; rfl
    have k1 : (t.kind == 1) = false := by rw [hk]; rfl
    have k2 : (t.kind == 2) = false := by rw [hk]; rfl
    have k3 : (t.kind == 3) = false := by rw [hk]; rfl
    have k4 : (t.kind == 4) = true := by rw [hk]; rfl
    have k5 : (t.kind == 5) = false := by rw [hk]; rfl
    have k6 : (t.kind == 6) = false := by rw [hk]; rfl
    by_cases h1 : 0 ≤ t.head
    · have e1 : decide (t.head < 0) = false := by simpa using h1
      simp -implicitDefEqProofs (disch := decide +kernel) only [go_sem, ↓reduceIte, Nat.reduceSub, Nat.reduceAdd, Nat.reduceMul, Nat.reduceBEq, Nat.reduceLT, Nat.reduceLeDiff, Nat.reduceEqDiff, reduceCtorEq, Int.reduceToNat, Int.reduceLE, Int.reduceLT, Int.reduceBEq, Int.reduceBNe, mCall, k0, k1, k2, k3, k4, k5, k6, e1]
      rw [hloop _ _ ?hb ?hs]
      case hb => rfl
      case hs => rfl
      cases hall : allB t.args.length (fun i => nodesB (t.arg i)) <;> simp -implicitDefEqProofs (disch := decide +kernel) only [go_sem, ↓reduceIte, Nat.reduceSub, Nat.reduceAdd, Nat.reduceMul, Nat.reduceBEq, Nat.reduceLT, Nat.reduceLeDiff, Nat.reduceEqDiff, reduceCtorEq, Int.reduceToNat, Int.reduceLE, Int.reduceLT, Int.reduceBEq, Int.reduceBNe, mCall] <;> simp [h1]
    · have e1 : decide (t.head < 0) = true := by simp; omega
      simp -implicitDefEqProofs (disch := decide +kernel) only [go_sem, ↓reduceIte, Nat.reduceSub, Nat.reduceAdd, Nat.reduceMul, Nat.reduceBEq, Nat.reduceLT, Nat.reduceLeDiff, Nat.reduceEqDiff, reduceCtorEq, Int.reduceToNat, Int.reduceLE, Int.reduceLT, Int.reduceBEq, Int.reduceBNe, mCall, k0, k1, k2, k3, k4, k5, k6, e1]
      simp [h1]
  · have hn : nodeOk t = decide (0 ≤ t.head) := by simp [nodeOk, hk]
    rw [hn]
    have k0 : (t.kind == 0) = false := by rw [hk]; rfl
    have k1 : (t.kind == 1) = false := by rw [hk]; rfl
    have k2 : (t.kind == 2) = false := by rw [hk]; rfl
    have k3 : (t.kind == 3) = false := by rw [hk]; rfl
    have k4 : (t.kind == 4) = false := by rw [hk]; rfl
    have k5 : (t.kind == 5) = true := by rw [hk]; rfl
    have k6 : (t.kind == 6) = false := by rw [hk]; rfl
    by_cases h1 : 0 ≤ t.head
    · have e1 : decide (t.head < 0) = false := by simpa using h1
      simp -implicitDefEqProofs (disch := decide +kernel) only [go_sem, ↓reduceIte, Nat.reduceSub, Nat.reduceAdd, Nat.reduceMul, Nat.reduceBEq, Nat.reduceLT, Nat.reduceLeDiff, Nat.reduceEqDiff, reduceCtorEq, Int.reduceToNat, Int.reduceLE, Int.reduceLT, Int.reduceBEq, Int.reduceBNe, mCall, k0, k1, k2, k3, k4, k5, k6, e1]
      rw [hloop _ _ ?hb ?hs]
      case hb => rfl
      case hs => rfl
      cases hall : allB t.args.length (fun i => nodesB (t.arg i)) <;> simp -implicitDefEqProofs (disch := decide +kernel) only [go_sem, ↓reduceIte, Nat.reduceSub, Nat.reduceAdd, Nat.reduceMul, Nat.reduceBEq, Nat.reduceLT, Nat.reduceLeDiff, Nat.reduceEqDiff, reduceCtorEq, Int.reduceToNat, Int.reduceLE, Int.reduceLT, Int.reduceBEq, Int.reduceBNe, mCall] <;> simp [h1]
    · have e1 : decide (t.head < 0) = true := by simp; omega
      simp -implicitDefEqProofs (disch := decide +kernel) only [go_sem, ↓reduceIte, Nat.reduceSub, Nat.reduceAdd, Nat.reduceMul, Nat.reduceBEq, Nat.reduceLT, Nat.reduceLeDiff, Nat.reduceEqDiff, reduceCtorEq, Int.reduceToNat, Int.reduceLE, Int.reduceLT, Int.reduceBEq, Int.reduceBNe, mCall, k0, k1, k2, k3, k4, k5, k6, e1]
      simp [h1]
  · have hn : nodeOk t = decide (0 ≤ t.head) := by simp [nodeOk, hk]
    rw [hn]
    have k0 : (t.kind == 0) = false := by rw [hk]; rfl
    have k1 : (t.kind == 1) = false := by rw [hk]; rfl
    have k2 : (t.kind == 2) = false := by rw [hk]; rfl
    have k3 : (t.kind == 3) = false := by rw [hk]; rfl
    have k4 : (t.kind == 4) = false := by rw [hk]; rfl
    have k5 : (t.kind == 5) = false := by rw [hk]; rfl
    have k6 : (t.kind == 6) = true := by rw [hk]; rfl
    by_cases h1 : 0 ≤ t.head
    · have e1 : decide (t.head < 0) = false := by simpa using h1
      simp -implicitDefEqProofs (disch := decide +kernel) only [go_sem, ↓reduceIte, Nat.reduceSub, Nat.reduceAdd, Nat.reduceMul, Nat.reduceBEq, Nat.reduceLT, Nat.reduceLeDiff, Nat.reduceEqDiff, reduceCtorEq, Int.reduceToNat, Int.reduceLE, Int.reduceLT, Int.reduceBEq, Int.reduceBNe, mCall, k0, k1, k2, k3, k4, k5, k6, e1]
      rw [hloop _ _ ?hb ?hs]
      case hb => rfl
      case hs => rfl
      cases hall : allB t.args.length (fun i => nodesB (t.arg i)) <;> simp -implicitDefEqProofs (disch := decide +kernel) only [go_sem, ↓reduceIte, Nat.reduceSub, Nat.reduceAdd, Nat.reduceMul, Nat.reduceBEq, Nat.reduceLT, Nat.reduceLeDiff, Nat.reduceEqDiff, reduceCtorEq, Int.reduceToNat, Int.reduceLE, Int.reduceLT, Int.reduceBEq, Int.reduceBNe, mCall] <;> simp [h1]
    · have e1 : decide (t.head < 0) = true := by simp; omega
      simp -implicitDefEqProofs (disch := decide +kernel) only [go_sem, ↓reduceIte, Nat.reduceSub, Nat.reduceAdd, Nat.reduceMul, Nat.reduceBEq, Nat.reduceLT, Nat.reduceLeDiff, Nat.reduceEqDiff, reduceCtorEq, Int.reduceToNat, Int.reduceLE, Int.reduceLT, Int.reduceBEq, Int.reduceBNe, mCall, k0, k1, k2, k3, k4, k5, k6, e1]
      simp [h1]
  · have hn : nodeOk t = false := by
      unfold nodeOk
      rw [if_neg (by omega), if_neg (by omega), if_neg (by omega)]
      simp; omega
    rw [hn]
    have k0 : (t.kind == 0) = false := by simp; omega
    have k1 : (t.kind == 1) = false := by simp; omega
    have k2 : (t.kind == 2) = false := by simp; omega
    have k3 : (t.kind == 3) = false := by simp; omega
    have k4 : (t.kind == 4) = false := by simp; omega
    have k5 : (t.kind == 5) = false := by simp; omega
    have k6 : (t.kind == 6) = false := by simp; omega
    simp -implicitDefEqProofs (disch := decide +kernel) only [go_sem, ↓reduceIte, Nat.reduceSub, Nat.reduceAdd, Nat.reduceMul, Nat.reduceBEq, Nat.reduceLT, Nat.reduceLeDiff, Nat.reduceEqDiff, reduceCtorEq, Int.reduceToNat, Int.reduceLE, Int.reduceLT, Int.reduceBEq, Int.reduceBNe, mCall, k0, k1, k2, k3, k4, k5, k6]
theorem may_spec (t : Tm) (hs : t.size < room) : (lim C).call 58 [dT t] [] = retB (mayB t) := by
  rw [ev_fn 58 Try.f58 _ _ _ rfl Try.func58 rfl Try.ntmps58 rfl]
  unfold mayB
  cases h1 : nodesB t
  · simp -implicitDefEqProofs (disch := decide +kernel) only [go_sem, ↓reduceIte, Nat.reduceSub, Nat.reduceAdd, Nat.reduceMul, Nat.reduceBEq, Nat.reduceLT, Nat.reduceLeDiff, Nat.reduceEqDiff, reduceCtorEq, Int.reduceToNat, Int.reduceLE, Int.reduceLT, Int.reduceBEq, Int.reduceBNe, mCall, nodes_spec t hs, h1]
  · by_cases h2 : t.size ≤ 4000
    · have e2 : decide ((t.size : Int) ≤ 4000) = true := by simp; omega
      have e3 : decide ((t.depth : Int) ≤ 60) = decide (t.depth ≤ 60) := by simp only [decide_eq_decide]; omega
      simp -implicitDefEqProofs (disch := decide +kernel) only [go_sem, ↓reduceIte, Nat.reduceSub, Nat.reduceAdd, Nat.reduceMul, Nat.reduceBEq, Nat.reduceLT, Nat.reduceLeDiff, Nat.reduceEqDiff, reduceCtorEq, Int.reduceToNat, Int.reduceLE, Int.reduceLT, Int.reduceBEq, Int.reduceBNe, mCall, nodes_spec t hs, rsize_spec t hs, rdepth_spec t hs, h1, e2, e3]
      simp [h2]
    · have e2 : decide ((t.size : Int) ≤ 4000) = false := by simp; omega
      simp -implicitDefEqProofs (disch := decide +kernel) only [go_sem, ↓reduceIte, Nat.reduceSub, Nat.reduceAdd, Nat.reduceMul, Nat.reduceBEq, Nat.reduceLT, Nat.reduceLeDiff, Nat.reduceEqDiff, reduceCtorEq, Int.reduceToNat, Int.reduceLE, Int.reduceLT, Int.reduceBEq, Int.reduceBNe, mCall, nodes_spec t hs, rsize_spec t hs, h1, e2]
      simp [h2]
theorem light_spec (t : Tm) (s d : Int) (hs : t.size < room) : (lim C).call 19 [dT t, dI s, dI d] [] = retB (lightB t s d) := by
  rw [ev_fn 19 Try.f19 _ _ _ rfl Try.func19 rfl Try.ntmps19 rfl]
  unfold lightB
  cases h1 : lowB t
  · simp -implicitDefEqProofs (disch := decide +kernel) only [go_sem, ↓reduceIte, Nat.reduceSub, Nat.reduceAdd, Nat.reduceMul, Nat.reduceBEq, Nat.reduceLT, Nat.reduceLeDiff, Nat.reduceEqDiff, reduceCtorEq, Int.reduceToNat, Int.reduceLE, Int.reduceLT, Int.reduceBEq, Int.reduceBNe, mCall, low_spec t hs, h1]
  · cases e2 : decide ((t.size : Int) ≤ s)
    · simp -implicitDefEqProofs (disch := decide +kernel) only [go_sem, ↓reduceIte, Nat.reduceSub, Nat.reduceAdd, Nat.reduceMul, Nat.reduceBEq, Nat.reduceLT, Nat.reduceLeDiff, Nat.reduceEqDiff, reduceCtorEq, Int.reduceToNat, Int.reduceLE, Int.reduceLT, Int.reduceBEq, Int.reduceBNe, mCall, low_spec t hs, rsize_spec t hs, h1, e2]
    · simp -implicitDefEqProofs (disch := decide +kernel) only [go_sem, ↓reduceIte, Nat.reduceSub, Nat.reduceAdd, Nat.reduceMul, Nat.reduceBEq, Nat.reduceLT, Nat.reduceLeDiff, Nat.reduceEqDiff, reduceCtorEq, Int.reduceToNat, Int.reduceLE, Int.reduceLT, Int.reduceBEq, Int.reduceBNe, mCall, low_spec t hs, rsize_spec t hs, rdepth_spec t hs, h1, e2]
theorem binds_spec (t : Tm) (i : Nat) (hs : t.size < room) (hi : i < t.args.length) : (lim C).call 85 [dT t, dI i] [] = retI (bnd t i) := by
  have hr : room = 1099511627776 := rfl
  have hl := len_size t
  rw [ev_fn 85 Try.f85 _ _ _ rfl Try.func85 rfl Try.ntmps85 rfl]
  have hw : IntKind.wrap .i64 ((t.args.length : Int) - 1) = (t.args.length : Int) - 1 := wrap_ok (by omega) (by omega)
  cases k1 : (t.kind == 1)
  · cases k3 : (t.kind == 3)
    · have hb : bnd t i = 0 := by simp at k1 k3; simp [bnd, k1, k3]
      simp -implicitDefEqProofs (disch := decide +kernel) only [go_sem, ↓reduceIte, Nat.reduceSub, Nat.reduceAdd, Nat.reduceMul, Nat.reduceBEq, Nat.reduceLT, Nat.reduceLeDiff, Nat.reduceEqDiff, reduceCtorEq, Int.reduceToNat, Int.reduceLE, Int.reduceLT, Int.reduceBEq, Int.reduceBNe, mCall, k1, k3, hb]
      simp
    · cases e : ((i : Int) == (t.args.length : Int) - 1)
      · have hb : bnd t i = 0 := by simp at k1 k3 e; simp [bnd, k1, k3]; omega
        simp -implicitDefEqProofs (disch := decide +kernel) only [go_sem, ↓reduceIte, Nat.reduceSub, Nat.reduceAdd, Nat.reduceMul, Nat.reduceBEq, Nat.reduceLT, Nat.reduceLeDiff, Nat.reduceEqDiff, reduceCtorEq, Int.reduceToNat, Int.reduceLE, Int.reduceLT, Int.reduceBEq, Int.reduceBNe, mCall, k1, k3, hb, hw, e]
        simp
      · have hb : bnd t i = 1 := by simp at k1 k3 e; simp [bnd, k1, k3]; omega
        simp -implicitDefEqProofs (disch := decide +kernel) only [go_sem, ↓reduceIte, Nat.reduceSub, Nat.reduceAdd, Nat.reduceMul, Nat.reduceBEq, Nat.reduceLT, Nat.reduceLeDiff, Nat.reduceEqDiff, reduceCtorEq, Int.reduceToNat, Int.reduceLE, Int.reduceLT, Int.reduceBEq, Int.reduceBNe, mCall, k1, k3, hb, hw, e]
        simp
  · cases e : ((i : Int) == (t.args.length : Int) - 1)
    · have hb : bnd t i = 0 := by simp at k1 e; simp [bnd, k1]; omega
      simp -implicitDefEqProofs (disch := decide +kernel) only [go_sem, ↓reduceIte, Nat.reduceSub, Nat.reduceAdd, Nat.reduceMul, Nat.reduceBEq, Nat.reduceLT, Nat.reduceLeDiff, Nat.reduceEqDiff, reduceCtorEq, Int.reduceToNat, Int.reduceLE, Int.reduceLT, Int.reduceBEq, Int.reduceBNe, mCall, k1, hb, hw, e]
      simp
    · have hb : bnd t i = 1 := by simp at k1 e; simp [bnd, k1]; omega
      simp -implicitDefEqProofs (disch := decide +kernel) only [go_sem, ↓reduceIte, Nat.reduceSub, Nat.reduceAdd, Nat.reduceMul, Nat.reduceBEq, Nat.reduceLT, Nat.reduceLeDiff, Nat.reduceEqDiff, reduceCtorEq, Int.reduceToNat, Int.reduceLE, Int.reduceLT, Int.reduceBEq, Int.reduceBNe, mCall, k1, hb, hw, e]
      simp
end Go.Proofs.Ytmemmdfjlhamfaa
