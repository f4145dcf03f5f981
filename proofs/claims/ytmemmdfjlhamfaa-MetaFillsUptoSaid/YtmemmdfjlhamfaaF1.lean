import Derived.Test.YtmemmdfjlhamfaaG1
set_option linter.unusedSimpArgs false
set_option linter.unusedVariables false
set_option maxRecDepth 100000
namespace Go.Proofs.Ytmemmdfjlhamfaa
open Go.Proofs
theorem own_loop {b : Code} {σ : St} {t : Tm} (hb : b = cf (cf (cs (cf (cs (cs (bodyOf Try.f78))))))) (hσ : σ = mk 25 [(1, .lref 1 0), (2, .lref 2 0), (3, .clip []), (7, .d (.slc (encs t.args))), (8, .d (.int .i64 t.args.length)), (9, .d (.int .i64 0))]
    [(1, [.d (.int .i64 t.kind), .d (.int .i64 t.head), .d (.slc (encs t.args))]), (2, [.d (.int .i64 0), .d (.int .i64 0), .clip []])] [] [])
    (ih : ∀ x ∈ t.args, (lim C).call 78 [.d (enc x)] [] = some (.ret (.d (enc x)), [])) (hl : t.args.length < room) :
    (lim C).code 78 (.loop b) σ = some (.exit 0, mk 25 [(1, .lref 1 0), (2, .lref 2 0), (3, acc 0 (encs t.args)), (7, .d (.slc (encs t.args))), (8, .d (.int .i64 t.args.length)), (9, .d (.int .i64 t.args.length)), (10, .d (.bool false))]
    [(1, [.d (.int .i64 t.kind), .d (.int .i64 t.head), .d (.slc (encs t.args))]), (2, [.d (.int .i64 0), .d (.int .i64 0), .clip []])] [] (accT t.args.length)) := by
  subst hb hσ
  have hr : room = 1099511627776 := rfl
  refine loop_run (fun i => mk 25 [(1, .lref 1 0), (2, .lref 2 0), (3, acc 0 (encs (t.args.take i))), (7, .d (.slc (encs t.args))), (8, .d (.int .i64 t.args.length)), (9, .d (.int .i64 i))]
    [(1, [.d (.int .i64 t.kind), .d (.int .i64 t.head), .d (.slc (encs t.args))]), (2, [.d (.int .i64 0), .d (.int .i64 0), .clip []])] [] (accT i)) t.args.length ?_ ?_ (by simp)
  · intro i hi
    have hli : t.args[i]? = some t.args[i] := List.getElem?_eq_getElem hi
    have hln := encs_take_len (l := t.args) (i := i) (by omega)
    have hap := fun locs heap => mApp_acc (encs (t.args.take i)) (enc t.args[i]) 3 locs heap (by rw [hln]; omega) (encs_all _) (enc_width _)
    rw [hln, encs_snoc hi] at hap
    have hih := ih t.args[i] (List.getElem_mem hi)
    simp -implicitDefEqProofs (disch := decide +kernel) only [cf, cs, bodyOf, Try.f78, Option.getD_some, go_sem, ↓reduceIte, Nat.reduceSub, Nat.reduceAdd, Nat.reduceMul, Nat.reduceBEq, Nat.reduceLT, Nat.reduceLeDiff, Nat.reduceEqDiff, reduceCtorEq, Int.reduceToNat, Int.reduceLE, Int.reduceLT, Int.reduceBEq, Int.reduceBNe, mCall, lt_true hi, hli, hih, hap, wrap_succ (n := i) (by omega)]
  · simp -implicitDefEqProofs (disch := decide +kernel) only [cf, cs, bodyOf, Try.f78, Option.getD_some, go_sem, ↓reduceIte, Nat.reduceSub, Nat.reduceAdd, Nat.reduceMul, Nat.reduceBEq, Nat.reduceLT, Nat.reduceLeDiff, Nat.reduceEqDiff, reduceCtorEq, Int.reduceToNat, Int.reduceLE, Int.reduceLT, Int.reduceBEq, Int.reduceBNe, mCall, lt_false (Nat.le_refl t.args.length)]
    simp
theorem own_spec : ∀ t : Tm, t.size < room → (lim C).call 78 [.d (enc t)] [] = some (.ret (.d (enc t)), []) := by
  refine Tm.ind fun t ih hs => ?_
  have hl := len_size t
  rw [ev_fn 78 Try.f78 _ _ _ rfl Try.func78 rfl Try.ntmps78 rfl]
  simp -implicitDefEqProofs (disch := decide +kernel) only [go_sem, ↓reduceIte, Nat.reduceSub, Nat.reduceAdd, Nat.reduceMul, Nat.reduceBEq, Nat.reduceLT, Nat.reduceLeDiff, Nat.reduceEqDiff, reduceCtorEq, Int.reduceToNat, Int.reduceLE, Int.reduceLT, Int.reduceBEq, Int.reduceBNe, mCall]
  rw [own_loop (t := t) ?hb ?hs (fun x hx => ih x hx (by have := size_arg hx; omega)) (by omega)]
  case hb => rfl
  case hs => rfl
  simp -implicitDefEqProofs (disch := decide +kernel) only [go_sem, ↓reduceIte, Nat.reduceSub, Nat.reduceAdd, Nat.reduceMul, Nat.reduceBEq, Nat.reduceLT, Nat.reduceLeDiff, Nat.reduceEqDiff, reduceCtorEq, Int.reduceToNat, Int.reduceLE, Int.reduceLT, Int.reduceBEq, Int.reduceBNe, mCall]
end Go.Proofs.Ytmemmdfjlhamfaa
