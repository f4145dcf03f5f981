/- The law SignOnce. -/
import Derived.Test.YtfelfahgeannaaaF16
set_option linter.unusedSimpArgs false
set_option linter.unusedVariables false
set_option maxRecDepth 100000
namespace Go.Proofs.Ytfelfahgeannaaa
open Go.Proofs
/-- Whether i is among the first k. -/
def hasTo (l : List Nat) (i k : Nat) : Bool := (l.take k).any fun n => n == i
theorem hasTo_step {l : List Nat} {i k : Nat} (h : k < l.length) : hasTo l i (k + 1) = (hasTo l i k || l[k] == i) := by
  unfold hasTo
  rw [List.take_add_one, List.getElem?_eq_getElem h, List.any_append]
  simp only [Option.toList, List.any_cons, List.any_nil, Bool.or_false]
theorem int_beq (a b : Nat) : ((a : Int) == (b : Int)) = (a == b) := by
  by_cases h : a = b
  · simp [h]
  · rw [beq_eq_false_iff_ne.2 h, beq_eq_false_iff_ne.2 (by omega)]
def sonce1_S (sig : List Dc) (o f : Int) (l : List Nat) (i k : Nat) : St := mk 90 [(0, dDs sig), (1, dI o), (7, dI i), (8, dI f), (9, dB (hasTo l i k)), (10, .d (.slc (ints l))), (11, dI k)] [] [] []
theorem sonce1_loop {b : Code} {σ : St} {sig : List Dc} {o f : Int} {l : List Nat} {i : Nat} (hb : b = cf (cf (cs (cf (cs (cs (cs (cf (cf (cs (cf (cf (cs (cf (cs (cs (cs (cs (bodyOf Try.f4))))))))))))))))))) (hσ : σ = sonce1_S sig o f l i 0) (hl : l.length < room) :
    (lim C).code 4 (.loop b) σ = some (.exit 2, mk 90 [(0, dDs sig), (1, dI o), (7, dI i), (8, dI f), (9, dB (hasTo l i l.length)), (10, .d (.slc (ints l))), (11, dI l.length), (42, dB false)] [] [] []) := by
  subst hb hσ
  have hr : room = 1099511627776 := rfl
  refine loop_run (sonce1_S sig o f l i) l.length ?_ ?_ (by simp)
  · intro k hk
    have hlk : l[k]? = some l[k] := List.getElem?_eq_getElem hk
    have hst := hasTo_step (i := i) hk
    have hws := wrap_succ (n := k) (by omega)
    cases c : hasTo l i k
    · rw [c, Bool.false_or] at hst
      simp -implicitDefEqProofs (disch := decide +kernel) only [cf, cs, bodyOf, Try.f4, Option.getD_some, go_sem, ↓reduceIte, Nat.reduceSub, Nat.reduceAdd, Nat.reduceMul, Nat.reduceBEq, Nat.reduceLT, Nat.reduceLeDiff, Nat.reduceEqDiff, reduceCtorEq, Int.reduceToNat, Int.reduceLE, Int.reduceLT, Int.reduceBEq, Int.reduceBNe, mCall, sonce1_S, lt_true hk, hlk, c, int_beq, hst, hws]
    · rw [c, Bool.true_or] at hst
      simp -implicitDefEqProofs (disch := decide +kernel) only [cf, cs, bodyOf, Try.f4, Option.getD_some, go_sem, ↓reduceIte, Nat.reduceSub, Nat.reduceAdd, Nat.reduceMul, Nat.reduceBEq, Nat.reduceLT, Nat.reduceLeDiff, Nat.reduceEqDiff, reduceCtorEq, Int.reduceToNat, Int.reduceLE, Int.reduceLT, Int.reduceBEq, Int.reduceBNe, mCall, sonce1_S, lt_true hk, hlk, c, hst, hws]
  · simp -implicitDefEqProofs (disch := decide +kernel) only [cf, cs, bodyOf, Try.f4, Option.getD_some, go_sem, ↓reduceIte, Nat.reduceSub, Nat.reduceAdd, Nat.reduceMul, Nat.reduceBEq, Nat.reduceLT, Nat.reduceLeDiff, Nat.reduceEqDiff, reduceCtorEq, Int.reduceToNat, Int.reduceLE, Int.reduceLT, Int.reduceBEq, Int.reduceBNe, mCall, sonce1_S, lt_false (Nat.le_refl l.length)]
def sonce2_S (sig : List Dc) (o f : Int) (x : Bool) (m : List Nat) (i k : Nat) : St := mk 90 [(0, dDs sig), (1, dI o), (7, dI i), (8, dI f), (9, dB x), (12, .d (.slc (ints m))), (13, dI k)] [] [] []
theorem sonce2_loop {b : Code} {σ : St} {sig : List Dc} {o f : Int} {x : Bool} {m : List Nat} {i : Nat} (hb : b = cf (cf (cs (cf (cs (cs (cs (cs (cs (cf (cf (cs (cf (cf (cs (cf (cs (cs (cs (cs (bodyOf Try.f4))))))))))))))))))))) (hσ : σ = sonce2_S sig o f x m i 0) (hl : m.length < room) (hm : i ∈ m → f = o) :
    (lim C).code 4 (.loop b) σ = some (.exit 4, mk 90 [(0, dDs sig), (1, dI o), (7, dI i), (8, dI f), (9, dB x), (12, .d (.slc (ints m))), (13, dI m.length), (60, dB false)] [] [] []) := by
  subst hb hσ
  have hr : room = 1099511627776 := rfl
  refine loop_run (sonce2_S sig o f x m i) m.length ?_ ?_ (by simp)
  · intro k hk
    have hlk : m[k]? = some m[k] := List.getElem?_eq_getElem hk
    have hws := wrap_succ (n := k) (by omega)
    cases c : (m[k] == i)
    · simp -implicitDefEqProofs (disch := decide +kernel) only [cf, cs, bodyOf, Try.f4, Option.getD_some, go_sem, ↓reduceIte, Nat.reduceSub, Nat.reduceAdd, Nat.reduceMul, Nat.reduceBEq, Nat.reduceLT, Nat.reduceLeDiff, Nat.reduceEqDiff, reduceCtorEq, Int.reduceToNat, Int.reduceLE, Int.reduceLT, Int.reduceBEq, Int.reduceBNe, mCall, sonce2_S, lt_true hk, hlk, c, int_beq, hws]
    · have e : (f != o) = false := by
        have := hm (by rw [← (beq_iff_eq.1 c)]; exact List.getElem_mem hk)
        simp [this]
      simp -implicitDefEqProofs (disch := decide +kernel) only [cf, cs, bodyOf, Try.f4, Option.getD_some, go_sem, ↓reduceIte, Nat.reduceSub, Nat.reduceAdd, Nat.reduceMul, Nat.reduceBEq, Nat.reduceLT, Nat.reduceLeDiff, Nat.reduceEqDiff, reduceCtorEq, Int.reduceToNat, Int.reduceLE, Int.reduceLT, Int.reduceBEq, Int.reduceBNe, mCall, sonce2_S, lt_true hk, hlk, c, int_beq, e, hws]
  · simp -implicitDefEqProofs (disch := decide +kernel) only [cf, cs, bodyOf, Try.f4, Option.getD_some, go_sem, ↓reduceIte, Nat.reduceSub, Nat.reduceAdd, Nat.reduceMul, Nat.reduceBEq, Nat.reduceLT, Nat.reduceLeDiff, Nat.reduceEqDiff, reduceCtorEq, Int.reduceToNat, Int.reduceLE, Int.reduceLT, Int.reduceBEq, Int.reduceBNe, mCall, sonce2_S, lt_false (Nat.le_refl m.length)]
theorem head_nonneg {t : Tm} (h : familyOf t ≥ 0) : (lastOf t).kind = 2 := by
  unfold familyOf at h
  split at h
  · rename_i e; exact beq_iff_eq.1 e
  · omega
def sonce_S (sig : List Dc) (o : Int) (i : Nat) : St := mk 90 [(0, dDs sig), (1, dI o), (7, dI i)] [] [] []
theorem sonce_loop {b : Code} {σ : St} {sig : List Dc} {o : Int} (hb : b = cf (cf (cs (cf (cs (cs (cs (cs (bodyOf Try.f4))))))))) (hσ : σ = sonce_S sig o 0) (hl : sig.length < room) :
    (lim C).code 4 (.loop b) σ = some (.exit 0, mk 90 [(0, dDs sig), (1, dI o), (7, dI sig.length), (27, dB false)] [] [] []) := by
  subst hb hσ
  have hr : room = 1099511627776 := rfl
  refine loop_run (sonce_S sig o) sig.length ?_ ?_ (by simp)
  · intro i hi
    have hws := wrap_succ (n := i) (by omega)
    generalize hf : familyOf (Dcs.at sig i).t = f
    have hfs := sfamily_spec (Dcs.at sig i).t
    rw [hf] at hfs
    have hcl := consts_le sig f sig.length
    have hco := consts_le sig o sig.length
    have hx : hasTo (consts sig f sig.length) i (consts sig f sig.length).length = decide (f ≥ 0) := by
      unfold hasTo
      rw [List.take_length, Bool.eq_iff_iff, List.any_eq_true]
      constructor
      · rintro ⟨n, h1, h2⟩
        obtain rfl := beq_iff_eq.1 h2
        have := ((consts_mem sig f n sig.length).1 h1).2
        simp only [inFam, Bool.and_eq_true] at this
        exact this.1
      · intro h
        refine ⟨i, (consts_mem sig f i sig.length).2 ⟨hi, ?_⟩, beq_self_eq_true i⟩
        simp only [inFam, hf, h, beq_self_eq_true, Bool.and_self]
    have hm : i ∈ consts sig o sig.length → f = o := by
      intro h
      have := ((consts_mem sig o i sig.length).1 h).2
      simp only [inFam, hf, Bool.and_eq_true, beq_iff_eq] at this
      exact this.2
    simp -implicitDefEqProofs (disch := decide +kernel) only [cf, cs, bodyOf, Try.f4, Option.getD_some, go_sem, ↓reduceIte, Nat.reduceSub, Nat.reduceAdd, Nat.reduceMul, Nat.reduceBEq, Nat.reduceLT, Nat.reduceLeDiff, Nat.reduceEqDiff, reduceCtorEq, Int.reduceToNat, Int.reduceLE, Int.reduceLT, Int.reduceBEq, Int.reduceBNe, mCall, sonce_S, lt_true hi, dat_get hi, hfs, sconst_spec sig f hl]
    rw [sonce1_loop (sig := sig) (o := o) (f := f) (l := consts sig f sig.length) (i := i) ?hb ?hs (by omega)]
    case hb => rfl
    case hs => rfl
    simp -implicitDefEqProofs (disch := decide +kernel) only [cf, cs, bodyOf, Try.f4, Option.getD_some, go_sem, ↓reduceIte, Nat.reduceSub, Nat.reduceAdd, Nat.reduceMul, Nat.reduceBEq, Nat.reduceLT, Nat.reduceLeDiff, Nat.reduceEqDiff, reduceCtorEq, Int.reduceToNat, Int.reduceLE, Int.reduceLT, Int.reduceBEq, Int.reduceBNe, mCall, sconst_spec sig o hl]
    rw [sonce2_loop (sig := sig) (o := o) (f := f) (m := consts sig o sig.length) (i := i) ?hb ?hs (by omega) hm]
    case hb => rfl
    case hs => rfl
    rw [hx]
    have n0 : (false != false) = false := rfl
    have n1 : (true != true) = false := rfl
    cases c : decide (f ≥ 0)
    · simp -implicitDefEqProofs (disch := decide +kernel) only [cf, cs, bodyOf, Try.f4, Option.getD_some, go_sem, ↓reduceIte, Nat.reduceSub, Nat.reduceAdd, Nat.reduceMul, Nat.reduceBEq, Nat.reduceLT, Nat.reduceLeDiff, Nat.reduceEqDiff, reduceCtorEq, Int.reduceToNat, Int.reduceLE, Int.reduceLT, Int.reduceBEq, Int.reduceBNe, mCall, c, n0, n1, sonce_S, hws]
    · have hk : ((lastOf (Dcs.at sig i).t).kind == 0) = false := by rw [head_nonneg (t := (Dcs.at sig i).t) (by rw [hf]; exact of_decide_eq_true c)]; rfl
      have hks := skind_spec (Dcs.at sig i).t
      rw [hk] at hks
      simp -implicitDefEqProofs (disch := decide +kernel) only [cf, cs, bodyOf, Try.f4, Option.getD_some, go_sem, ↓reduceIte, Nat.reduceSub, Nat.reduceAdd, Nat.reduceMul, Nat.reduceBEq, Nat.reduceLT, Nat.reduceLeDiff, Nat.reduceEqDiff, reduceCtorEq, Int.reduceToNat, Int.reduceLE, Int.reduceLT, Int.reduceBEq, Int.reduceBNe, mCall, c, n0, n1, sonce_S, dat_get hi, hks, hws]
  · simp -implicitDefEqProofs (disch := decide +kernel) only [cf, cs, bodyOf, Try.f4, Option.getD_some, go_sem, ↓reduceIte, Nat.reduceSub, Nat.reduceAdd, Nat.reduceMul, Nat.reduceBEq, Nat.reduceLT, Nat.reduceLeDiff, Nat.reduceEqDiff, reduceCtorEq, Int.reduceToNat, Int.reduceLE, Int.reduceLT, Int.reduceBEq, Int.reduceBNe, mCall, sonce_S, lt_false (Nat.le_refl sig.length)]
theorem signOnce_holds (sig : List Dc) (wd : ∀ d ∈ sig, Wf d.t) (hz : dsum sig ≤ 1048576) (o : Int) (jo : in64 o) : ∃ h, (lim C).call 4 [dDs sig, dI o] [] = some (.ret (dB true), h) := by
  have hr : room = 1099511627776 := rfl
  obtain ⟨hsl, hsd⟩ := dsum_room (sig := sig) (by omega)
  refine ⟨[], ?_⟩
  rw [ev_fn 4 Try.f4 _ _ _ rfl Try.func4 rfl Try.ntmps4 rfl]
  cases h2 : fewB sig
  · simp -implicitDefEqProofs (disch := decide +kernel) only [go_sem, ↓reduceIte, Nat.reduceSub, Nat.reduceAdd, Nat.reduceMul, Nat.reduceBEq, Nat.reduceLT, Nat.reduceLeDiff, Nat.reduceEqDiff, reduceCtorEq, Int.reduceToNat, Int.reduceLE, Int.reduceLT, Int.reduceBEq, Int.reduceBNe, mCall, awake9_spec, few_spec sig hsl hsd, h2]
  · skip
    simp -implicitDefEqProofs (disch := decide +kernel) only [go_sem, ↓reduceIte, Nat.reduceSub, Nat.reduceAdd, Nat.reduceMul, Nat.reduceBEq, Nat.reduceLT, Nat.reduceLeDiff, Nat.reduceEqDiff, reduceCtorEq, Int.reduceToNat, Int.reduceLE, Int.reduceLT, Int.reduceBEq, Int.reduceBNe, mCall, awake9_spec, few_spec sig hsl hsd, h2]
    rw [sonce_loop (sig := sig) (o := o) ?hb ?hs hsl]
    case hb => rfl
    case hs => rfl
    simp -implicitDefEqProofs (disch := decide +kernel) only [go_sem, ↓reduceIte, Nat.reduceSub, Nat.reduceAdd, Nat.reduceMul, Nat.reduceBEq, Nat.reduceLT, Nat.reduceLeDiff, Nat.reduceEqDiff, reduceCtorEq, Int.reduceToNat, Int.reduceLE, Int.reduceLT, Int.reduceBEq, Int.reduceBNe, mCall]
end Go.Proofs.Ytfelfahgeannaaa
