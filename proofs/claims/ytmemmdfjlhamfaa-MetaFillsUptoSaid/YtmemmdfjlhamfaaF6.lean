/- The program's functions of layer 1: Size, Depth, all, May, Scoped, Same. -/
import Derived.Test.YtmemmdfjlhamfaaF5
set_option linter.unusedSimpArgs false
set_option linter.unusedVariables false
set_option maxRecDepth 100000
namespace Go.Proofs.Ytmemmdfjlhamfaa
open Go.Proofs
theorem getApp0 {α : Type} (h l : List α) : (h ++ l)[h.length]? = l[0]? := by rw [List.getElem?_append_right (Nat.le_refl _), Nat.sub_self]
theorem getApp {α : Type} (h l : List α) (k : Nat) : (h ++ l)[h.length + k]? = l[k]? := by rw [List.getElem?_append_right (by omega)]; congr 1; omega
theorem setApp0 {α : Type} (h l : List α) (v : α) : (h ++ l).set h.length v = h ++ l.set 0 v := by rw [List.set_append_right _ _ (Nat.le_refl _), Nat.sub_self]
theorem setApp {α : Type} (h l : List α) (k : Nat) (v : α) : (h ++ l).set (h.length + k) v = h ++ l.set k v := by
  rw [List.set_append_right _ _ (by omega)]; congr 2; omega
theorem tnodes_spec (t : Tm) (h : List HO) : (lim C).call 81 [dT t] h = some (.ret (.fn 113 [] [.href h.length 0]), h ++ [.var 0 (cel3 t)]) := by
  rw [ev_fn 81 Try.f81 _ _ _ rfl Try.func81 rfl Try.ntmps81 rfl]
  simp -implicitDefEqProofs (disch := decide +kernel) only [go_sem, ↓reduceIte, Nat.reduceSub, Nat.reduceAdd, Nat.reduceMul, Nat.reduceBEq, Nat.reduceLT, Nat.reduceLeDiff, Nat.reduceEqDiff, reduceCtorEq, Int.reduceToNat, Int.reduceLE, Int.reduceLT, Int.reduceBEq, Int.reduceBNe, mCall]
theorem tnodes1_spec {S R : Type} {y i : Nat} {H : S → List HO} {E : R → List HO} {step : S → Int × Tm → Except R S} {ok : Int × Tm → Prop} (hy : Yields y H E step ok) (t : Tm) (hs : t.size < room) (s : S) (hi : (H s)[i]? = some (.var 0 (cel3 t)))
    (hok : ∀ p ∈ pre t 0, ok p) : (lim C).call 113 [.yld y, .href i 0] (H s) = some (match runL step (pre t 0) s with | .ok s' => (.ret (.tup []), H s') | .error r => (.ret (.tup []), E r)) := by
  have hr : room = 1099511627776 := rfl
  have hw := walk_spec hy t hs 0 s (by omega) (by omega) hok
  simp only [cel3] at hi
  rw [ev_fn 113 Try.f113 _ _ _ rfl Try.func113 rfl Try.ntmps113 rfl]
  cases hrun : runL step (pre t 0) s with
  | ok s' =>
    rw [hrun] at hw
    simp -implicitDefEqProofs (disch := decide +kernel) only [go_sem, ↓reduceIte, Nat.reduceSub, Nat.reduceAdd, Nat.reduceMul, Nat.reduceBEq, Nat.reduceLT, Nat.reduceLeDiff, Nat.reduceEqDiff, reduceCtorEq, Int.reduceToNat, Int.reduceLE, Int.reduceLT, Int.reduceBEq, Int.reduceBNe, mCall, hi, hw]
  | error r =>
    rw [hrun] at hw
    simp -implicitDefEqProofs (disch := decide +kernel) only [go_sem, ↓reduceIte, Nat.reduceSub, Nat.reduceAdd, Nat.reduceMul, Nat.reduceBEq, Nat.reduceLT, Nat.reduceLeDiff, Nat.reduceEqDiff, reduceCtorEq, Int.reduceToNat, Int.reduceLE, Int.reduceLT, Int.reduceBEq, Int.reduceBNe, mCall, hi, hw]
noncomputable def size_L : LoopA := { fn := 50, tmps := tl 11 [(2, dI 0), (3, .href 0 0), (5, .fn 113 [] [.href 1 0])], params := [6, 7], assign := cf (cf (cs (cf (cs (cs (bodyOf Try.f50)))))), body := cs (cf (cs (cf (cs (cs (bodyOf Try.f50)))))) }
noncomputable def size_H (t : Tm) (z : Int) : List HO := [.var 0 [dI z], .var 0 (cel3 t), .loop .ready none size_L]
theorem size_yields (t : Tm) : Yields (R := Empty) 2 (size_H t) (fun _ => []) (fun z _ => .ok (IntKind.wrap .i64 (z + 1))) (fun _ => True) := by
  intro z n x locs toks _
  simp only
  simp -implicitDefEqProofs (disch := decide +kernel) only [cf, cs, bodyOf, Try.f50, Option.getD_some, go_sem, ↓reduceIte, Nat.reduceSub, Nat.reduceAdd, Nat.reduceMul, Nat.reduceBEq, Nat.reduceLT, Nat.reduceLeDiff, Nat.reduceEqDiff, reduceCtorEq, Int.reduceToNat, Int.reduceLE, Int.reduceLT, Int.reduceBEq, Int.reduceBNe, mCall, size_H, size_L, mYld_K]
theorem run_count (t : Tm) : ∀ (l : List (Int × Tm)) (k : Nat), k + l.length < 9223372036854775807 → runL (R := Empty) (fun (z : Int) (_ : Int × Tm) => .ok (IntKind.wrap .i64 (z + 1))) l (k : Int) = .ok ((k + l.length : Nat) : Int)
  | [], k, h => rfl
  | x :: l, k, h => by
    simp only [List.length_cons] at h
    rw [runL]
    simp only [wrap_succ (n := k) (by omega)]
    rw [run_count t l (k + 1) (by omega)]
    congr 2
    simp only [List.length_cons]
    omega
theorem tsize_spec (t : Tm) (hs : t.size < room) : (lim C).call 50 [dT t] [] = some (.ret (dI t.size), [.var 0 [dI t.size], .var 0 (cel3 t), .dead]) := by
  have hr : room = 1099511627776 := rfl
  rw [ev_fn 50 Try.f50 _ _ _ rfl Try.func50 rfl Try.ntmps50 rfl]
  simp -implicitDefEqProofs (disch := decide +kernel) only [go_sem, ↓reduceIte, Nat.reduceSub, Nat.reduceAdd, Nat.reduceMul, Nat.reduceBEq, Nat.reduceLT, Nat.reduceLeDiff, Nat.reduceEqDiff, reduceCtorEq, Int.reduceToNat, Int.reduceLE, Int.reduceLT, Int.reduceBEq, Int.reduceBNe, mCall, tnodes_spec]
  have h1 := tnodes1_spec (size_yields t) t hs (i := 1) 0 rfl (fun _ _ => trivial)
  rw [show (0 : Int) = ((0 : Nat) : Int) from rfl, run_count t _ 0 (by rw [pre_len]; omega), pre_len] at h1
  rw [call_at h1 ?hh]
  case hh => rfl
  simp -implicitDefEqProofs (disch := decide +kernel) only [go_sem, ↓reduceIte, Nat.reduceSub, Nat.reduceAdd, Nat.reduceMul, Nat.reduceBEq, Nat.reduceLT, Nat.reduceLeDiff, Nat.reduceEqDiff, reduceCtorEq, Int.reduceToNat, Int.reduceLE, Int.reduceLT, Int.reduceBEq, Int.reduceBNe, mCall, size_H]

def tdepth_S (t : Tm) (i : Nat) : St := mk 20 [(3, dI (deps' t i)), (7, dL t.args), (8, dI t.args.length), (9, dI i)] [] [] []
theorem maxI (a b : Nat) : (if (b : Int) > (a : Int) then (b : Int) else (a : Int)) = ((max a b : Nat) : Int) := by split <;> omega
theorem tdepth_loop {b : Code} {σ : St} {t : Tm} (hb : b = cf (cf (cs (cf (cs (cs (bodyOf Try.f49))))))) (hσ : σ = tdepth_S t 0) (ih : ∀ x ∈ t.args, (lim C).call 49 [dT x] [] = retI x.depth) (hs : t.size < room) :
    (lim C).code 49 (.loop b) σ = some (.exit 0, mk 20 [(3, dI (deps' t t.args.length)), (7, dL t.args), (8, dI t.args.length), (9, dI t.args.length), (10, dB false)] [] [] []) := by
  subst hb hσ
  have hr : room = 1099511627776 := rfl
  have hl := len_size t
  refine loop_run (tdepth_S t) t.args.length ?_ ?_ (by simp)
  · intro i hi
    have hc := ih _ (arg_mem hi)
    simp -implicitDefEqProofs (disch := decide +kernel) only [cf, cs, bodyOf, Try.f49, Option.getD_some, go_sem, ↓reduceIte, Nat.reduceSub, Nat.reduceAdd, Nat.reduceMul, Nat.reduceBEq, Nat.reduceLT, Nat.reduceLeDiff, Nat.reduceEqDiff, reduceCtorEq, Int.reduceToNat, Int.reduceLE, Int.reduceLT, Int.reduceBEq, Int.reduceBNe, mCall, tdepth_S, lt_true hi, arg_get hi, hc, wrap_succ (n := i) (by omega), maxI, deps_succ hi]
  · simp -implicitDefEqProofs (disch := decide +kernel) only [cf, cs, bodyOf, Try.f49, Option.getD_some, go_sem, ↓reduceIte, Nat.reduceSub, Nat.reduceAdd, Nat.reduceMul, Nat.reduceBEq, Nat.reduceLT, Nat.reduceLeDiff, Nat.reduceEqDiff, reduceCtorEq, Int.reduceToNat, Int.reduceLE, Int.reduceLT, Int.reduceBEq, Int.reduceBNe, mCall, tdepth_S, lt_false (Nat.le_refl t.args.length)]
theorem tdepth_spec : ∀ t : Tm, t.size < room → (lim C).call 49 [dT t] [] = retI t.depth := by
  refine Tm.ind fun t ih hs => ?_
  have hr : room = 1099511627776 := rfl
  rw [ev_fn 49 Try.f49 _ _ _ rfl Try.func49 rfl Try.ntmps49 rfl]
  simp -implicitDefEqProofs (disch := decide +kernel) only [go_sem, ↓reduceIte, Nat.reduceSub, Nat.reduceAdd, Nat.reduceMul, Nat.reduceBEq, Nat.reduceLT, Nat.reduceLeDiff, Nat.reduceEqDiff, reduceCtorEq, Int.reduceToNat, Int.reduceLE, Int.reduceLT, Int.reduceBEq, Int.reduceBNe, mCall]
  rw [tdepth_loop (t := t) ?hb ?hs (fun x hx => ih x hx (by have := size_arg hx; omega)) hs]
  case hb => rfl
  case hs => rfl
  have h1 := deps_all t
  have h2 := depth_size t
  simp -implicitDefEqProofs (disch := decide +kernel) only [go_sem, ↓reduceIte, Nat.reduceSub, Nat.reduceAdd, Nat.reduceMul, Nat.reduceBEq, Nat.reduceLT, Nat.reduceLeDiff, Nat.reduceEqDiff, reduceCtorEq, Int.reduceToNat, Int.reduceLE, Int.reduceLT, Int.reduceBEq, Int.reduceBNe, mCall, wrap_succ (n := deps' t t.args.length) (by omega), h1]
theorem tmay_spec (t : Tm) : (lim C).call 53 [dT t] [] = retB (nodeOk t) := by
  rw [ev_fn 53 Try.f53 _ _ _ rfl Try.func53 rfl Try.ntmps53 rfl]
  rcases kinds t with hk | hk | hk | hk | hk
  · have hn : nodeOk t = (t.head == 0 && t.args.length == 0) := by simp [nodeOk, hk]
    rw [hn]
    have k0 : (t.kind == 0) = true := by rw [hk]; rfl
    have k1 : (t.kind == 1) = false := by rw [hk]; rfl
    have k3 : (t.kind == 3) = false := by rw [hk]; rfl
    have e2 : ((t.args.length : Int) == 0) = (t.args.length == 0) := by rw [Bool.eq_iff_iff]; simp <;> omega
    cases h1 : (t.head == 0)
    · simp -implicitDefEqProofs (disch := decide +kernel) only [go_sem, ↓reduceIte, Nat.reduceSub, Nat.reduceAdd, Nat.reduceMul, Nat.reduceBEq, Nat.reduceLT, Nat.reduceLeDiff, Nat.reduceEqDiff, reduceCtorEq, Int.reduceToNat, Int.reduceLE, Int.reduceLT, Int.reduceBEq, Int.reduceBNe, mCall, k0, k1, k3, h1, e2]
    · simp -implicitDefEqProofs (disch := decide +kernel) only [go_sem, ↓reduceIte, Nat.reduceSub, Nat.reduceAdd, Nat.reduceMul, Nat.reduceBEq, Nat.reduceLT, Nat.reduceLeDiff, Nat.reduceEqDiff, reduceCtorEq, Int.reduceToNat, Int.reduceLE, Int.reduceLT, Int.reduceBEq, Int.reduceBNe, mCall, k0, k1, k3, h1, e2]
  · have hn : nodeOk t = (t.head == 0 && t.args.length == 2) := by simp [nodeOk, hk]
    rw [hn]
    have k0 : (t.kind == 0) = false := by rw [hk]; rfl
    have k1 : (t.kind == 1) = true := by rw [hk]; rfl
    have k3 : (t.kind == 3) = false := by rw [hk]; rfl
    have e2 : ((t.args.length : Int) == 2) = (t.args.length == 2) := by rw [Bool.eq_iff_iff]; simp <;> omega
    cases h1 : (t.head == 0)
    · simp -implicitDefEqProofs (disch := decide +kernel) only [go_sem, ↓reduceIte, Nat.reduceSub, Nat.reduceAdd, Nat.reduceMul, Nat.reduceBEq, Nat.reduceLT, Nat.reduceLeDiff, Nat.reduceEqDiff, reduceCtorEq, Int.reduceToNat, Int.reduceLE, Int.reduceLT, Int.reduceBEq, Int.reduceBNe, mCall, k0, k1, k3, h1, e2]
    · simp -implicitDefEqProofs (disch := decide +kernel) only [go_sem, ↓reduceIte, Nat.reduceSub, Nat.reduceAdd, Nat.reduceMul, Nat.reduceBEq, Nat.reduceLT, Nat.reduceLeDiff, Nat.reduceEqDiff, reduceCtorEq, Int.reduceToNat, Int.reduceLE, Int.reduceLT, Int.reduceBEq, Int.reduceBNe, mCall, k0, k1, k3, h1, e2]
  · have hn : nodeOk t = decide (t.head ≥ 0) := by simp [nodeOk, hk]
    rw [hn]
    have k0 : (t.kind == 0) = false := by rw [hk]; rfl
    have k1 : (t.kind == 1) = false := by rw [hk]; rfl
    have k3 : (t.kind == 3) = false := by rw [hk]; rfl
    have e1 : decide (t.kind ≥ 0) = true := by simp [hk]
    have e2 : decide (t.kind < 7) = true := by simp [hk]
    simp -implicitDefEqProofs (disch := decide +kernel) only [go_sem, ↓reduceIte, Nat.reduceSub, Nat.reduceAdd, Nat.reduceMul, Nat.reduceBEq, Nat.reduceLT, Nat.reduceLeDiff, Nat.reduceEqDiff, reduceCtorEq, Int.reduceToNat, Int.reduceLE, Int.reduceLT, Int.reduceBEq, Int.reduceBNe, mCall, k0, k1, k3, e1, e2]
  · have hn : nodeOk t = (t.head == 0 && t.args.length == 1) := by simp [nodeOk, hk]
    rw [hn]
    have k0 : (t.kind == 0) = false := by rw [hk]; rfl
    have k1 : (t.kind == 1) = false := by rw [hk]; rfl
    have k3 : (t.kind == 3) = true := by rw [hk]; rfl
    have e2 : ((t.args.length : Int) == 1) = (t.args.length == 1) := by rw [Bool.eq_iff_iff]; simp <;> omega
    cases h1 : (t.head == 0)
    · simp -implicitDefEqProofs (disch := decide +kernel) only [go_sem, ↓reduceIte, Nat.reduceSub, Nat.reduceAdd, Nat.reduceMul, Nat.reduceBEq, Nat.reduceLT, Nat.reduceLeDiff, Nat.reduceEqDiff, reduceCtorEq, Int.reduceToNat, Int.reduceLE, Int.reduceLT, Int.reduceBEq, Int.reduceBNe, mCall, k0, k1, k3, h1, e2]
    · simp -implicitDefEqProofs (disch := decide +kernel) only [go_sem, ↓reduceIte, Nat.reduceSub, Nat.reduceAdd, Nat.reduceMul, Nat.reduceBEq, Nat.reduceLT, Nat.reduceLeDiff, Nat.reduceEqDiff, reduceCtorEq, Int.reduceToNat, Int.reduceLE, Int.reduceLT, Int.reduceBEq, Int.reduceBNe, mCall, k0, k1, k3, h1, e2]
  · have k0 : (t.kind == 0) = false := by simp; omega
    have k1 : (t.kind == 1) = false := by simp; omega
    have k3 : (t.kind == 3) = false := by simp; omega
    have hn : nodeOk t = (decide (t.kind ≥ 0) && decide (t.kind < 7) && decide (t.head ≥ 0)) := by
      unfold nodeOk
      rw [if_neg (by omega), if_neg (by omega), if_neg (by omega)]
    rw [hn]
    cases e1 : decide (t.kind ≥ 0)
    · simp -implicitDefEqProofs (disch := decide +kernel) only [go_sem, ↓reduceIte, Nat.reduceSub, Nat.reduceAdd, Nat.reduceMul, Nat.reduceBEq, Nat.reduceLT, Nat.reduceLeDiff, Nat.reduceEqDiff, reduceCtorEq, Int.reduceToNat, Int.reduceLE, Int.reduceLT, Int.reduceBEq, Int.reduceBNe, mCall, k0, k1, k3, e1]
    · cases e2 : decide (t.kind < 7)
      · simp -implicitDefEqProofs (disch := decide +kernel) only [go_sem, ↓reduceIte, Nat.reduceSub, Nat.reduceAdd, Nat.reduceMul, Nat.reduceBEq, Nat.reduceLT, Nat.reduceLeDiff, Nat.reduceEqDiff, reduceCtorEq, Int.reduceToNat, Int.reduceLE, Int.reduceLT, Int.reduceBEq, Int.reduceBNe, mCall, k0, k1, k3, e1, e2]
      · simp -implicitDefEqProofs (disch := decide +kernel) only [go_sem, ↓reduceIte, Nat.reduceSub, Nat.reduceAdd, Nat.reduceMul, Nat.reduceBEq, Nat.reduceLT, Nat.reduceLeDiff, Nat.reduceEqDiff, reduceCtorEq, Int.reduceToNat, Int.reduceLE, Int.reduceLT, Int.reduceBEq, Int.reduceBNe, mCall, k0, k1, k3, e1, e2]
theorem tmay1_spec (n : Int) (t : Tm) : (lim C).call 52 [dI n, dT t] [] = retB (nodeOk t) := by
  rw [ev_fn 52 Try.f52 _ _ _ rfl Try.func52 rfl Try.ntmps52 rfl]
  simp -implicitDefEqProofs (disch := decide +kernel) only [go_sem, ↓reduceIte, Nat.reduceSub, Nat.reduceAdd, Nat.reduceMul, Nat.reduceBEq, Nat.reduceLT, Nat.reduceLeDiff, Nat.reduceEqDiff, reduceCtorEq, Int.reduceToNat, Int.reduceLE, Int.reduceLT, Int.reduceBEq, Int.reduceBNe, mCall, tmay_spec t]
end Go.Proofs.Ytmemmdfjlhamfaa
