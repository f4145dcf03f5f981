/- The reference's functions of layer 1. -/
import Derived.Test.YtmemmdfjlhamfaaP1
set_option linter.unusedSimpArgs false
set_option linter.unusedVariables false
set_option maxRecDepth 100000
namespace Go.Proofs.Ytmemmdfjlhamfaa
open Go.Proofs
def low_S (t : Tm) (i : Nat) : St := mk 23 [(1, .lref 1 0), (3, dI i)] [(1, cel3 t)] [] []
theorem low_loop {b : Code} {σ : St} {t : Tm} (hb : b = cf (cf (cs (cf (cs (cs (bodyOf Try.f46))))))) (hσ : σ = low_S t 0) (ih : ∀ x ∈ t.args, (lim C).call 46 [dT x] [] = retB (lowB x)) (hl : t.args.length < room) :
    (lim C).code 46 (.loop b) σ = some (if allB t.args.length (fun i => lowB (t.arg i)) then (.exit 0, mk 23 [(1, .lref 1 0), (3, dI t.args.length), (12, dB false)] [(1, cel3 t)] [] []) else (.ret, mk 23 [(2, dB false)] [] [] [])) := by
  subst hb hσ
  have hr : room = 1099511627776 := rfl
  refine loop_all (low_S t) t.args.length _ ?_ ?_ ?_ (by simp) (by simp)
  · intro i hi hp
    have hc := ih _ (arg_mem hi)
    rw [hp] at hc
    simp -implicitDefEqProofs (disch := decide +kernel) only [cf, cs, bodyOf, Try.f46, Option.getD_some, go_sem, ↓reduceIte, Nat.reduceSub, Nat.reduceAdd, Nat.reduceMul, Nat.reduceBEq, Nat.reduceLT, Nat.reduceLeDiff, Nat.reduceEqDiff, reduceCtorEq, Int.reduceToNat, Int.reduceLE, Int.reduceLT, Int.reduceBEq, Int.reduceBNe, mCall, low_S, lt_true hi, arg_get hi, hc, wrap_succ (n := i) (by omega)]
  · intro i hi hp
    have hc := ih _ (arg_mem hi)
    rw [hp] at hc
    simp -implicitDefEqProofs (disch := decide +kernel) only [cf, cs, bodyOf, Try.f46, Option.getD_some, go_sem, ↓reduceIte, Nat.reduceSub, Nat.reduceAdd, Nat.reduceMul, Nat.reduceBEq, Nat.reduceLT, Nat.reduceLeDiff, Nat.reduceEqDiff, reduceCtorEq, Int.reduceToNat, Int.reduceLE, Int.reduceLT, Int.reduceBEq, Int.reduceBNe, mCall, low_S, lt_true hi, arg_get hi, hc]
  · simp -implicitDefEqProofs (disch := decide +kernel) only [cf, cs, bodyOf, Try.f46, Option.getD_some, go_sem, ↓reduceIte, Nat.reduceSub, Nat.reduceAdd, Nat.reduceMul, Nat.reduceBEq, Nat.reduceLT, Nat.reduceLeDiff, Nat.reduceEqDiff, reduceCtorEq, Int.reduceToNat, Int.reduceLE, Int.reduceLT, Int.reduceBEq, Int.reduceBNe, mCall, low_S, lt_false (Nat.le_refl t.args.length)]
theorem low_spec : ∀ t : Tm, t.size < room → (lim C).call 46 [dT t] [] = retB (lowB t) := by
  refine Tm.ind fun t ih hs => ?_
  have hl := len_size t
  rw [ev_fn 46 Try.f46 _ _ _ rfl Try.func46 rfl Try.ntmps46 rfl]
  rw [lowB_eq]
  by_cases h : t.head ≤ 1099511627776
  · have h1 : decide (t.head > 1099511627776) = false := by simpa using h
    simp -implicitDefEqProofs (disch := decide +kernel) only [go_sem, ↓reduceIte, Nat.reduceSub, Nat.reduceAdd, Nat.reduceMul, Nat.reduceBEq, Nat.reduceLT, Nat.reduceLeDiff, Nat.reduceEqDiff, reduceCtorEq, Int.reduceToNat, Int.reduceLE, Int.reduceLT, Int.reduceBEq, Int.reduceBNe, mCall, h1]
    rw [low_loop (t := t) ?hb ?hs (fun x hx => ih x hx (by have := size_arg hx; omega)) (by omega)]
    case hb => rfl
    case hs => rfl
    cases hall : allB t.args.length (fun i => lowB (t.arg i)) <;> simp -implicitDefEqProofs (disch := decide +kernel) only [go_sem, ↓reduceIte, Nat.reduceSub, Nat.reduceAdd, Nat.reduceMul, Nat.reduceBEq, Nat.reduceLT, Nat.reduceLeDiff, Nat.reduceEqDiff, reduceCtorEq, Int.reduceToNat, Int.reduceLE, Int.reduceLT, Int.reduceBEq, Int.reduceBNe, mCall] <;> simp [h]
  · have h1 : decide (t.head > 1099511627776) = true := by simp; omega
    simp -implicitDefEqProofs (disch := decide +kernel) only [go_sem, ↓reduceIte, Nat.reduceSub, Nat.reduceAdd, Nat.reduceMul, Nat.reduceBEq, Nat.reduceLT, Nat.reduceLeDiff, Nat.reduceEqDiff, reduceCtorEq, Int.reduceToNat, Int.reduceLE, Int.reduceLT, Int.reduceBEq, Int.reduceBNe, mCall, h1]
    simp [h]

def sizes (t : Tm) (i : Nat) : Nat := 1 + ((t.args.take i).map Tm.size).sum
theorem sizes_succ {t : Tm} {i : Nat} (h : i < t.args.length) : sizes t (i + 1) = sizes t i + (t.arg i).size := by
  unfold sizes
  rw [List.take_add_one, arg_get h]; simp; omega
theorem sizes_all (t : Tm) : sizes t t.args.length = t.size := by rw [sizes, List.take_length, size_eq]
theorem sizes_le {t : Tm} {i : Nat} : sizes t i ≤ t.size := by
  rw [sizes, size_eq]
  have : (t.args.map Tm.size).sum = ((t.args.take i).map Tm.size).sum + ((t.args.drop i).map Tm.size).sum := by
    rw [← List.sum_append, ← List.map_append, List.take_append_drop]
  omega
def size_S (t : Tm) (i : Nat) : St := mk 21 [(1, .lref 1 0), (3, dI (sizes t i)), (4, dI i)] [(1, cel3 t)] [] []
theorem rsize_loop {b : Code} {σ : St} {t : Tm} (hb : b = cf (cf (cs (cf (cs (cs (bodyOf Try.f47))))))) (hσ : σ = size_S t 0) (ih : ∀ x ∈ t.args, (lim C).call 47 [dT x] [] = retI x.size) (hs : t.size < room) :
    (lim C).code 47 (.loop b) σ = some (.exit 0, mk 21 [(1, .lref 1 0), (3, dI t.size), (4, dI t.args.length), (9, dB false)] [(1, cel3 t)] [] []) := by
  subst hb hσ
  have hr : room = 1099511627776 := rfl
  have hl := len_size t
  refine loop_run (size_S t) t.args.length ?_ ?_ (by simp)
  · intro i hi
    have hc := ih _ (arg_mem hi)
    have h1 := sizes_succ hi
    have h2 := sizes_le (t := t) (i := i + 1)
    have hw : IntKind.wrap .i64 ((sizes t i : Int) + ((t.arg i).size : Int)) = (sizes t (i + 1) : Int) := by rw [wrap_ok (by omega) (by omega)]; omega
    simp -implicitDefEqProofs (disch := decide +kernel) only [cf, cs, bodyOf, Try.f47, Option.getD_some, go_sem, ↓reduceIte, Nat.reduceSub, Nat.reduceAdd, Nat.reduceMul, Nat.reduceBEq, Nat.reduceLT, Nat.reduceLeDiff, Nat.reduceEqDiff, reduceCtorEq, Int.reduceToNat, Int.reduceLE, Int.reduceLT, Int.reduceBEq, Int.reduceBNe, mCall, size_S, lt_true hi, arg_get hi, hc, wrap_succ (n := i) (by omega), hw]
  · simp -implicitDefEqProofs (disch := decide +kernel) only [cf, cs, bodyOf, Try.f47, Option.getD_some, go_sem, ↓reduceIte, Nat.reduceSub, Nat.reduceAdd, Nat.reduceMul, Nat.reduceBEq, Nat.reduceLT, Nat.reduceLeDiff, Nat.reduceEqDiff, reduceCtorEq, Int.reduceToNat, Int.reduceLE, Int.reduceLT, Int.reduceBEq, Int.reduceBNe, mCall, size_S, lt_false (Nat.le_refl t.args.length), sizes_all]
theorem rsize_spec : ∀ t : Tm, t.size < room → (lim C).call 47 [dT t] [] = retI t.size := by
  refine Tm.ind fun t ih hs => ?_
  rw [ev_fn 47 Try.f47 _ _ _ rfl Try.func47 rfl Try.ntmps47 rfl]
  simp -implicitDefEqProofs (disch := decide +kernel) only [go_sem, ↓reduceIte, Nat.reduceSub, Nat.reduceAdd, Nat.reduceMul, Nat.reduceBEq, Nat.reduceLT, Nat.reduceLeDiff, Nat.reduceEqDiff, reduceCtorEq, Int.reduceToNat, Int.reduceLE, Int.reduceLT, Int.reduceBEq, Int.reduceBNe, mCall]
  rw [rsize_loop (t := t) ?hb ?hs (fun x hx => ih x hx (by have := size_arg hx; omega)) hs]
  case hb => rfl
  case hs => rfl
  simp -implicitDefEqProofs (disch := decide +kernel) only [go_sem, ↓reduceIte, Nat.reduceSub, Nat.reduceAdd, Nat.reduceMul, Nat.reduceBEq, Nat.reduceLT, Nat.reduceLeDiff, Nat.reduceEqDiff, reduceCtorEq, Int.reduceToNat, Int.reduceLE, Int.reduceLT, Int.reduceBEq, Int.reduceBNe, mCall]

def deps' (t : Tm) (i : Nat) : Nat := ((t.args.take i).map Tm.depth).foldr max 0
theorem foldr_max_append (a : List Nat) (x : Nat) : (a ++ [x]).foldr max 0 = max (a.foldr max 0) x := by
  induction a with
  | nil => simp
  | cons y a ih => simp only [List.cons_append, List.foldr_cons, ih]; omega
theorem deps_succ {t : Tm} {i : Nat} (h : i < t.args.length) : deps' t (i + 1) = max (deps' t i) (t.arg i).depth := by
  unfold deps'
  rw [List.take_add_one, arg_get h, List.map_append, ← foldr_max_append]; rfl
theorem deps_all (t : Tm) : deps' t t.args.length + 1 = t.depth := by rw [deps', List.take_length, depth_eq]; omega
theorem depth_size : ∀ t : Tm, t.depth ≤ t.size := by
  refine Tm.ind fun t ih => ?_
  rw [depth_eq, size_eq]
  have : ∀ l : List Tm, (∀ x ∈ l, x.depth ≤ x.size) → (l.map Tm.depth).foldr max 0 ≤ (l.map Tm.size).sum := by
    intro l
    induction l with
    | nil => simp
    | cons a l ih =>
      intro h
      have h1 := h a (by simp)
      have h2 := ih fun x hx => h x (by simp [hx])
      simp only [List.map_cons, List.foldr_cons, List.sum_cons]
      omega
  have := this _ ih
  omega
theorem deps_le (t : Tm) : ∀ i, i ≤ t.args.length → deps' t i < t.depth := by
  have key : ∀ k i, i + k = t.args.length → deps' t i + 1 ≤ t.depth := by
    intro k
    induction k with
    | zero => intro i hi; rw [← deps_all t, ← hi]; exact Nat.le_refl _
    | succ k ih =>
      intro i hi
      have := ih (i + 1) (by omega)
      rw [deps_succ (by omega)] at this
      omega
  intro i hi
  have := key (t.args.length - i) i (by omega)
  omega
def rdepth_S (t : Tm) (i : Nat) : St := mk 25 [(1, .lref 1 0), (3, dI (deps' t i)), (4, dI i)] [(1, cel3 t)] [] []
theorem rdepth_loop {b : Code} {σ : St} {t : Tm} (hb : b = cf (cf (cs (cf (cs (cs (bodyOf Try.f48))))))) (hσ : σ = rdepth_S t 0) (ih : ∀ x ∈ t.args, (lim C).call 48 [dT x] [] = retI x.depth) (hs : t.size < room) :
    (lim C).code 48 (.loop b) σ = some (.exit 0, mk 25 [(1, .lref 1 0), (3, dI (deps' t t.args.length)), (4, dI t.args.length), (10, dB false)] [(1, cel3 t)] [] []) := by
  subst hb hσ
  have hr : room = 1099511627776 := rfl
  have hl := len_size t
  refine loop_run (rdepth_S t) t.args.length ?_ ?_ (by simp)
  · intro i hi
    have hc := ih _ (arg_mem hi)
    have h1 := deps_succ hi
    by_cases h : deps' t i < (t.arg i).depth
    · have h2 : decide (((t.arg i).depth : Int) > (deps' t i : Int)) = true := by simpa using h
      have h3 : deps' t (i + 1) = (t.arg i).depth := by omega
      simp -implicitDefEqProofs (disch := decide +kernel) only [cf, cs, bodyOf, Try.f48, Option.getD_some, go_sem, ↓reduceIte, Nat.reduceSub, Nat.reduceAdd, Nat.reduceMul, Nat.reduceBEq, Nat.reduceLT, Nat.reduceLeDiff, Nat.reduceEqDiff, reduceCtorEq, Int.reduceToNat, Int.reduceLE, Int.reduceLT, Int.reduceBEq, Int.reduceBNe, mCall, rdepth_S, lt_true hi, arg_get hi, hc, wrap_succ (n := i) (by omega), h2, h3]
    · have h2 : decide (((t.arg i).depth : Int) > (deps' t i : Int)) = false := by simpa using h
      have h3 : deps' t (i + 1) = deps' t i := by omega
      simp -implicitDefEqProofs (disch := decide +kernel) only [cf, cs, bodyOf, Try.f48, Option.getD_some, go_sem, ↓reduceIte, Nat.reduceSub, Nat.reduceAdd, Nat.reduceMul, Nat.reduceBEq, Nat.reduceLT, Nat.reduceLeDiff, Nat.reduceEqDiff, reduceCtorEq, Int.reduceToNat, Int.reduceLE, Int.reduceLT, Int.reduceBEq, Int.reduceBNe, mCall, rdepth_S, lt_true hi, arg_get hi, hc, wrap_succ (n := i) (by omega), h2, h3]
  · simp -implicitDefEqProofs (disch := decide +kernel) only [cf, cs, bodyOf, Try.f48, Option.getD_some, go_sem, ↓reduceIte, Nat.reduceSub, Nat.reduceAdd, Nat.reduceMul, Nat.reduceBEq, Nat.reduceLT, Nat.reduceLeDiff, Nat.reduceEqDiff, reduceCtorEq, Int.reduceToNat, Int.reduceLE, Int.reduceLT, Int.reduceBEq, Int.reduceBNe, mCall, rdepth_S, lt_false (Nat.le_refl t.args.length)]
theorem rdepth_spec : ∀ t : Tm, t.size < room → (lim C).call 48 [dT t] [] = retI t.depth := by
  refine Tm.ind fun t ih hs => ?_
  have hr : room = 1099511627776 := rfl
  rw [ev_fn 48 Try.f48 _ _ _ rfl Try.func48 rfl Try.ntmps48 rfl]
  simp -implicitDefEqProofs (disch := decide +kernel) only [go_sem, ↓reduceIte, Nat.reduceSub, Nat.reduceAdd, Nat.reduceMul, Nat.reduceBEq, Nat.reduceLT, Nat.reduceLeDiff, Nat.reduceEqDiff, reduceCtorEq, Int.reduceToNat, Int.reduceLE, Int.reduceLT, Int.reduceBEq, Int.reduceBNe, mCall]
  rw [rdepth_loop (t := t) ?hb ?hs (fun x hx => ih x hx (by have := size_arg hx; omega)) hs]
  case hb => rfl
  case hs => rfl
  have h1 := deps_all t
  have h2 := depth_size t
  simp -implicitDefEqProofs (disch := decide +kernel) only [go_sem, ↓reduceIte, Nat.reduceSub, Nat.reduceAdd, Nat.reduceMul, Nat.reduceBEq, Nat.reduceLT, Nat.reduceLeDiff, Nat.reduceEqDiff, reduceCtorEq, Int.reduceToNat, Int.reduceLE, Int.reduceLT, Int.reduceBEq, Int.reduceBNe, mCall, wrap_succ (n := deps' t t.args.length) (by omega), h1]
end Go.Proofs.Ytmemmdfjlhamfaa
