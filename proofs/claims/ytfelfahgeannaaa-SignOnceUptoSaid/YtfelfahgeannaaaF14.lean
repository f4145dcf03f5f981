/- Declarations; Constants, Few, List. -/
import Derived.Test.YtfelfahgeannaaaF13
import Derived.Test.YtfelfahgeannaaaF4
set_option linter.unusedSimpArgs false
set_option linter.unusedVariables false
set_option maxRecDepth 100000
namespace Go.Proofs.Ytfelfahgeannaaa
open Go.Proofs
structure Dc where
  name : ByteArray
  t : Tm
  deriving Inhabited
def encD (d : Dc) : Dv := .agg [.str d.name, .int .i64 d.t.kind, .int .i64 d.t.head, .slc (encs d.t.args)]
def encDs (l : List Dc) : List Dv := l.map encD
abbrev dDc (d : Dc) : AV := .d (encD d)
abbrev dDs (l : List Dc) : AV := .d (.slc (encDs l))
theorem encDs_length (l : List Dc) : (encDs l).length = l.length := by simp [encDs]
theorem encDs_get (l : List Dc) (i : Nat) : (encDs l)[i]? = (l[i]?).map encD := by simp [encDs]
theorem encDs_append (a b : List Dc) : encDs (a ++ b) = encDs a ++ encDs b := by simp [encDs]
theorem encD_width (d : Dc) : (encD d).width = 4 := rfl
theorem encDs_all (l : List Dc) : ((encDs l).all fun x => x.width == 4) = true := by simp [encDs, encD_width]
theorem encD_cells (d : Dc) : (encD d).cells = [.str d.name, .int .i64 d.t.kind, .int .i64 d.t.head, .slc (encs d.t.args)] := rfl
theorem encD_fold (d : Dc) : Dv.agg [.str d.name, .int .i64 d.t.kind, .int .i64 d.t.head, .slc (encs d.t.args)] = encD d := rfl
theorem cells_encD (d : Dc) : AV.cells (.d (encD d)) = [.d (.str d.name), .d (.int .i64 d.t.kind), .d (.int .i64 d.t.head), .d (.slc (encs d.t.args))] := rfl
attribute [go_sem] encDs_length encDs_get encD_width encD_cells encD_fold cells_encD
def Dcs.at (l : List Dc) (i : Nat) : Dc := l.getD i default
theorem dat_get {l : List Dc} {i : Nat} (h : i < l.length) : l[i]? = some (Dcs.at l i) := by simp [Dcs.at, List.getD, List.getElem?_eq_getElem h]
theorem dat_mem {l : List Dc} {i : Nat} (h : i < l.length) : Dcs.at l i ∈ l := List.mem_of_getElem? (dat_get h)
def ints (l : List Nat) : List Dv := l.map fun (n : Nat) => .int .i64 (n : Int)
theorem ints_length (l : List Nat) : (ints l).length = l.length := by simp [ints]
theorem ints_all (l : List Nat) : ((ints l).all fun x => x.width == 1) = true := by simp [ints, Dv.width, Dv.cells]
theorem ints_snoc (l : List Nat) (n : Nat) : ints l ++ [.int .i64 (n : Int)] = ints (l ++ [n]) := by simp [ints]
theorem ints_get (l : List Nat) (i : Nat) : (ints l)[i]? = (l[i]?).map fun (n : Nat) => .int .i64 (n : Int) := by simp [ints]
attribute [go_sem] ints_length ints_get
def inFam (sig : List Dc) (f : Int) (i : Nat) : Bool := decide (f ≥ 0) && familyOf (Dcs.at sig i).t == f
def consts (sig : List Dc) (f : Int) : Nat → List Nat
  | 0 => []
  | n + 1 => if inFam sig f n then consts sig f n ++ [n] else consts sig f n
theorem consts_le (sig : List Dc) (f : Int) : ∀ n, (consts sig f n).length ≤ n
  | 0 => Nat.le_refl _
  | n + 1 => by
    have := consts_le sig f n
    unfold consts
    split
    · simp; omega
    · omega
theorem consts_mem (sig : List Dc) (f : Int) (k : Nat) : ∀ n, k ∈ consts sig f n ↔ k < n ∧ inFam sig f k = true
  | 0 => by simp [consts]
  | n + 1 => by
    unfold consts
    split
    · rename_i h
      rw [List.mem_append, consts_mem sig f k n, List.mem_singleton]
      constructor
      · rintro (⟨h1, h2⟩ | rfl)
        · exact ⟨by omega, h2⟩
        · exact ⟨by omega, h⟩
      · rintro ⟨h1, h2⟩
        by_cases e : k = n
        · exact .inr e
        · exact .inl ⟨by omega, h2⟩
    · rename_i h
      rw [consts_mem sig f k n]
      constructor
      · rintro ⟨h1, h2⟩; exact ⟨by omega, h2⟩
      · rintro ⟨h1, h2⟩
        refine ⟨?_, h2⟩
        by_cases e : k = n
        · rw [e] at h2; exact absurd h2 h
        · omega
def sconst_S (sig : List Dc) (f : Int) (i : Nat) : St := mk 30 [(1, dI f), (5, acc 0 (ints (consts sig f i))), (8, dDs sig), (9, dI sig.length), (10, dI i)] [] [] (accT (consts sig f i).length)
theorem sconst_loop {b : Code} {σ : St} {sig : List Dc} {f : Int} (hb : b = cf (cf (cs (cf (cs (cs (bodyOf Try.f22))))))) (hσ : σ = sconst_S sig f 0) (hl : sig.length < room) :
    (lim C).code 22 (.loop b) σ = some (.exit 0, mk 30 [(1, dI f), (5, acc 0 (ints (consts sig f sig.length))), (8, dDs sig), (9, dI sig.length), (10, dI sig.length), (11, dB false)] [] [] (accT (consts sig f sig.length).length)) := by
  subst hb hσ
  have hr : room = 1099511627776 := rfl
  refine loop_run (sconst_S sig f) sig.length ?_ ?_ (by simp)
  · intro i hi
    have hle := consts_le sig f i
    have hws := wrap_succ (n := i) (by omega)
    cases h0 : decide (f ≥ 0)
    · have hc : consts sig f (i + 1) = consts sig f i := by rw [consts, if_neg (by simp [inFam, h0])]
      simp -implicitDefEqProofs (disch := decide +kernel) only [cf, cs, bodyOf, Try.f22, Option.getD_some, go_sem, ↓reduceIte, Nat.reduceSub, Nat.reduceAdd, Nat.reduceMul, Nat.reduceBEq, Nat.reduceLT, Nat.reduceLeDiff, Nat.reduceEqDiff, reduceCtorEq, Int.reduceToNat, Int.reduceLE, Int.reduceLT, Int.reduceBEq, Int.reduceBNe, mCall, sconst_S, lt_true hi, dat_get hi, h0, hws, hc]
    · cases h1 : (familyOf (Dcs.at sig i).t == f)
      · have hc : consts sig f (i + 1) = consts sig f i := by rw [consts, if_neg (by simp [inFam, h1])]
        simp -implicitDefEqProofs (disch := decide +kernel) only [cf, cs, bodyOf, Try.f22, Option.getD_some, go_sem, ↓reduceIte, Nat.reduceSub, Nat.reduceAdd, Nat.reduceMul, Nat.reduceBEq, Nat.reduceLT, Nat.reduceLeDiff, Nat.reduceEqDiff, reduceCtorEq, Int.reduceToNat, Int.reduceLE, Int.reduceLT, Int.reduceBEq, Int.reduceBNe, mCall, sconst_S, lt_true hi, dat_get hi, h0, h1, sfamily_spec, hws, hc]
      · have hc : consts sig f (i + 1) = consts sig f i ++ [i] := by rw [consts, if_pos (by simp only [inFam, h0, h1, Bool.and_self])]
        have ha := fun locs heap => mApp_acc (ints (consts sig f i)) (.int .i64 (i : Int)) 1 locs heap (by rw [ints_length]; omega) (ints_all _) rfl
        simp only [ints_length, ints_snoc] at ha
        simp -implicitDefEqProofs (disch := decide +kernel) only [cf, cs, bodyOf, Try.f22, Option.getD_some, go_sem, ↓reduceIte, Nat.reduceSub, Nat.reduceAdd, Nat.reduceMul, Nat.reduceBEq, Nat.reduceLT, Nat.reduceLeDiff, Nat.reduceEqDiff, reduceCtorEq, Int.reduceToNat, Int.reduceLE, Int.reduceLT, Int.reduceBEq, Int.reduceBNe, mCall, sconst_S, lt_true hi, dat_get hi, h0, h1, sfamily_spec, hws, hc, ha, List.length_append]
  · simp -implicitDefEqProofs (disch := decide +kernel) only [cf, cs, bodyOf, Try.f22, Option.getD_some, go_sem, ↓reduceIte, Nat.reduceSub, Nat.reduceAdd, Nat.reduceMul, Nat.reduceBEq, Nat.reduceLT, Nat.reduceLeDiff, Nat.reduceEqDiff, reduceCtorEq, Int.reduceToNat, Int.reduceLE, Int.reduceLT, Int.reduceBEq, Int.reduceBNe, mCall, sconst_S, lt_false (Nat.le_refl sig.length)]
theorem sconst_spec (sig : List Dc) (f : Int) (hl : sig.length < room) : (lim C).call 22 [dDs sig, dI f] [] = some (.ret (.d (.slc (ints (consts sig f sig.length)))), []) := by
  rw [ev_fn 22 Try.f22 _ _ _ rfl Try.func22 rfl Try.ntmps22 rfl]
  simp -implicitDefEqProofs (disch := decide +kernel) only [go_sem, ↓reduceIte, Nat.reduceSub, Nat.reduceAdd, Nat.reduceMul, Nat.reduceBEq, Nat.reduceLT, Nat.reduceLeDiff, Nat.reduceEqDiff, reduceCtorEq, Int.reduceToNat, Int.reduceLE, Int.reduceLT, Int.reduceBEq, Int.reduceBNe, mCall]
  rw [sconst_loop (sig := sig) (f := f) ?hb ?hs hl]
  case hb => rfl
  case hs => rfl
  have he := acc_erase 0 (ints (consts sig f sig.length))
  simp -implicitDefEqProofs (disch := decide +kernel) only [go_sem, ↓reduceIte, Nat.reduceSub, Nat.reduceAdd, Nat.reduceMul, Nat.reduceBEq, Nat.reduceLT, Nat.reduceLeDiff, Nat.reduceEqDiff, reduceCtorEq, Int.reduceToNat, Int.reduceLE, Int.reduceLT, Int.reduceBEq, Int.reduceBNe, mCall, he]
def rconst_S (sig : List Dc) (f : Int) (i : Nat) : St := mk 30 [(0, dDs sig), (1, dI f), (5, acc 0 (ints (consts sig f i))), (6, dI i)] [] [] (accT (consts sig f i).length)
theorem rconst_loop {b : Code} {σ : St} {sig : List Dc} {f : Int} (hb : b = cf (cf (cs (cf (cs (cs (bodyOf Try.f23))))))) (hσ : σ = rconst_S sig f 0) (hl : sig.length < room) (hz : ∀ d ∈ sig, d.t.size < room) :
    (lim C).code 23 (.loop b) σ = some (.exit 0, mk 30 [(0, dDs sig), (1, dI f), (5, acc 0 (ints (consts sig f sig.length))), (6, dI sig.length), (10, dB false)] [] [] (accT (consts sig f sig.length).length)) := by
  subst hb hσ
  have hr : room = 1099511627776 := rfl
  refine loop_run (rconst_S sig f) sig.length ?_ ?_ (by simp)
  · intro i hi
    have hle := consts_le sig f i
    have hws := wrap_succ (n := i) (by omega)
    have hf := rfamily_spec (Dcs.at sig i).t (hz _ (dat_mem hi))
    cases h0 : decide (f ≥ 0)
    · have hc : consts sig f (i + 1) = consts sig f i := by rw [consts, if_neg (by simp [inFam, h0])]
      simp -implicitDefEqProofs (disch := decide +kernel) only [cf, cs, bodyOf, Try.f23, Option.getD_some, go_sem, ↓reduceIte, Nat.reduceSub, Nat.reduceAdd, Nat.reduceMul, Nat.reduceBEq, Nat.reduceLT, Nat.reduceLeDiff, Nat.reduceEqDiff, reduceCtorEq, Int.reduceToNat, Int.reduceLE, Int.reduceLT, Int.reduceBEq, Int.reduceBNe, mCall, rconst_S, lt_true hi, dat_get hi, h0, hws, hc]
    · cases h1 : (familyOf (Dcs.at sig i).t == f)
      · have hc : consts sig f (i + 1) = consts sig f i := by rw [consts, if_neg (by simp [inFam, h1])]
        simp -implicitDefEqProofs (disch := decide +kernel) only [cf, cs, bodyOf, Try.f23, Option.getD_some, go_sem, ↓reduceIte, Nat.reduceSub, Nat.reduceAdd, Nat.reduceMul, Nat.reduceBEq, Nat.reduceLT, Nat.reduceLeDiff, Nat.reduceEqDiff, reduceCtorEq, Int.reduceToNat, Int.reduceLE, Int.reduceLT, Int.reduceBEq, Int.reduceBNe, mCall, rconst_S, lt_true hi, dat_get hi, h0, h1, hf, hws, hc]
      · have hc : consts sig f (i + 1) = consts sig f i ++ [i] := by rw [consts, if_pos (by simp only [inFam, h0, h1, Bool.and_self])]
        have ha := fun locs heap => mApp_acc (ints (consts sig f i)) (.int .i64 (i : Int)) 1 locs heap (by rw [ints_length]; omega) (ints_all _) rfl
        simp only [ints_length, ints_snoc] at ha
        simp -implicitDefEqProofs (disch := decide +kernel) only [cf, cs, bodyOf, Try.f23, Option.getD_some, go_sem, ↓reduceIte, Nat.reduceSub, Nat.reduceAdd, Nat.reduceMul, Nat.reduceBEq, Nat.reduceLT, Nat.reduceLeDiff, Nat.reduceEqDiff, reduceCtorEq, Int.reduceToNat, Int.reduceLE, Int.reduceLT, Int.reduceBEq, Int.reduceBNe, mCall, rconst_S, lt_true hi, dat_get hi, h0, h1, hf, hws, hc, ha, List.length_append]
  · simp -implicitDefEqProofs (disch := decide +kernel) only [cf, cs, bodyOf, Try.f23, Option.getD_some, go_sem, ↓reduceIte, Nat.reduceSub, Nat.reduceAdd, Nat.reduceMul, Nat.reduceBEq, Nat.reduceLT, Nat.reduceLeDiff, Nat.reduceEqDiff, reduceCtorEq, Int.reduceToNat, Int.reduceLE, Int.reduceLT, Int.reduceBEq, Int.reduceBNe, mCall, rconst_S, lt_false (Nat.le_refl sig.length)]
theorem rconst_spec (sig : List Dc) (f : Int) (hl : sig.length < room) (hz : ∀ d ∈ sig, d.t.size < room) : (lim C).call 23 [dDs sig, dI f] [] = some (.ret (.d (.slc (ints (consts sig f sig.length)))), []) := by
  rw [ev_fn 23 Try.f23 _ _ _ rfl Try.func23 rfl Try.ntmps23 rfl]
  simp -implicitDefEqProofs (disch := decide +kernel) only [go_sem, ↓reduceIte, Nat.reduceSub, Nat.reduceAdd, Nat.reduceMul, Nat.reduceBEq, Nat.reduceLT, Nat.reduceLeDiff, Nat.reduceEqDiff, reduceCtorEq, Int.reduceToNat, Int.reduceLE, Int.reduceLT, Int.reduceBEq, Int.reduceBNe, mCall]
  rw [rconst_loop (sig := sig) (f := f) ?hb ?hs hl hz]
  case hb => rfl
  case hs => rfl
  have he := acc_erase 0 (ints (consts sig f sig.length))
  simp -implicitDefEqProofs (disch := decide +kernel) only [go_sem, ↓reduceIte, Nat.reduceSub, Nat.reduceAdd, Nat.reduceMul, Nat.reduceBEq, Nat.reduceLT, Nat.reduceLeDiff, Nat.reduceEqDiff, reduceCtorEq, Int.reduceToNat, Int.reduceLE, Int.reduceLT, Int.reduceBEq, Int.reduceBNe, mCall, he]
def fewB (sig : List Dc) : Bool := decide (sig.length ≤ 30) && allB sig.length fun i => lightB (Dcs.at sig i).t 1000 80
def few_S (sig : List Dc) (i : Nat) : St := mk 22 [(0, dDs sig), (3, dI i)] [] [] []
theorem few_loop {b : Code} {σ : St} {sig : List Dc} (hb : b = cf (cf (cs (cf (cs (cs (bodyOf Try.f16))))))) (hσ : σ = few_S sig 0) (hl : sig.length < room) (hz : ∀ d ∈ sig, d.t.size < room) :
    (lim C).code 16 (.loop b) σ = some (if allB sig.length (fun i => lightB (Dcs.at sig i).t 1000 80) then (.exit 0, mk 22 [(0, dDs sig), (3, dI sig.length), (11, dB false)] [] [] []) else (.ret, mk 22 [(2, dB false)] [] [] [])) := by
  subst hb hσ
  have hr : room = 1099511627776 := rfl
  refine loop_all (few_S sig) sig.length _ ?_ ?_ ?_ (by simp) (by simp)
  · intro i hi hp
    have hc := light_spec (Dcs.at sig i).t 1000 80 (hz _ (dat_mem hi))
    rw [hp] at hc
    simp -implicitDefEqProofs (disch := decide +kernel) only [cf, cs, bodyOf, Try.f16, Option.getD_some, go_sem, ↓reduceIte, Nat.reduceSub, Nat.reduceAdd, Nat.reduceMul, Nat.reduceBEq, Nat.reduceLT, Nat.reduceLeDiff, Nat.reduceEqDiff, reduceCtorEq, Int.reduceToNat, Int.reduceLE, Int.reduceLT, Int.reduceBEq, Int.reduceBNe, mCall, few_S, lt_true hi, dat_get hi, hc, wrap_succ (n := i) (by omega)]
  · intro i hi hp
    have hc := light_spec (Dcs.at sig i).t 1000 80 (hz _ (dat_mem hi))
    rw [hp] at hc
    simp -implicitDefEqProofs (disch := decide +kernel) only [cf, cs, bodyOf, Try.f16, Option.getD_some, go_sem, ↓reduceIte, Nat.reduceSub, Nat.reduceAdd, Nat.reduceMul, Nat.reduceBEq, Nat.reduceLT, Nat.reduceLeDiff, Nat.reduceEqDiff, reduceCtorEq, Int.reduceToNat, Int.reduceLE, Int.reduceLT, Int.reduceBEq, Int.reduceBNe, mCall, few_S, lt_true hi, dat_get hi, hc]
  · simp -implicitDefEqProofs (disch := decide +kernel) only [cf, cs, bodyOf, Try.f16, Option.getD_some, go_sem, ↓reduceIte, Nat.reduceSub, Nat.reduceAdd, Nat.reduceMul, Nat.reduceBEq, Nat.reduceLT, Nat.reduceLeDiff, Nat.reduceEqDiff, reduceCtorEq, Int.reduceToNat, Int.reduceLE, Int.reduceLT, Int.reduceBEq, Int.reduceBNe, mCall, few_S, lt_false (Nat.le_refl sig.length)]
theorem few_spec (sig : List Dc) (hl : sig.length < room) (hz : ∀ d ∈ sig, d.t.size < room) : (lim C).call 16 [dDs sig] [] = retB (fewB sig) := by
  rw [ev_fn 16 Try.f16 _ _ _ rfl Try.func16 rfl Try.ntmps16 rfl]
  unfold fewB
  by_cases h : sig.length ≤ 30
  · have h1 : decide ((sig.length : Int) > 30) = false := by simp; omega
    simp -implicitDefEqProofs (disch := decide +kernel) only [go_sem, ↓reduceIte, Nat.reduceSub, Nat.reduceAdd, Nat.reduceMul, Nat.reduceBEq, Nat.reduceLT, Nat.reduceLeDiff, Nat.reduceEqDiff, reduceCtorEq, Int.reduceToNat, Int.reduceLE, Int.reduceLT, Int.reduceBEq, Int.reduceBNe, mCall, h1]
    rw [few_loop (sig := sig) ?hb ?hs hl hz]
    case hb => rfl
    case hs => rfl
    cases hall : allB sig.length (fun i => lightB (Dcs.at sig i).t 1000 80) <;> simp -implicitDefEqProofs (disch := decide +kernel) only [go_sem, ↓reduceIte, Nat.reduceSub, Nat.reduceAdd, Nat.reduceMul, Nat.reduceBEq, Nat.reduceLT, Nat.reduceLeDiff, Nat.reduceEqDiff, reduceCtorEq, Int.reduceToNat, Int.reduceLE, Int.reduceLT, Int.reduceBEq, Int.reduceBNe, mCall] <;> simp [h]
  · have h1 : decide ((sig.length : Int) > 30) = true := by simp; omega
    simp -implicitDefEqProofs (disch := decide +kernel) only [go_sem, ↓reduceIte, Nat.reduceSub, Nat.reduceAdd, Nat.reduceMul, Nat.reduceBEq, Nat.reduceLT, Nat.reduceLeDiff, Nat.reduceEqDiff, reduceCtorEq, Int.reduceToNat, Int.reduceLE, Int.reduceLT, Int.reduceBEq, Int.reduceBNe, mCall, h1]
    simp [h]
theorem rlist_loop {b : Code} {σ : St} {x y : List Tm} (hb : b = cf (cf (cs (cf (cs (cs (bodyOf Try.f19))))))) (hσ : σ = mk 29 [(0, dL x), (1, dL y), (5, dI 0)] [] [] []) (hlu : y.length = x.length) (hl : x.length < room) (hz : ∀ t ∈ x, t.size < room) :
    (lim C).code 19 (.loop b) σ = some (if allB x.length (fun i => sameB (x.getD i default) (y.getD i default)) then (.exit 0, mk 29 [(0, dL x), (1, dL y), (5, dI x.length), (15, dB false)] [] [] []) else (.ret, mk 29 [(4, dB false)] [] [] [])) := by
  subst hb hσ
  have hr : room = 1099511627776 := rfl
  refine loop_all (fun i => mk 29 [(0, dL x), (1, dL y), (5, dI i)] [] [] []) x.length _ ?_ ?_ ?_ (by simp) (by simp)
  · intro i hi hp
    have hiu : i < y.length := by omega
    have hc := rsame_spec (x.getD i default) (hz _ (getD_mem hi)) (y.getD i default)
    rw [hp] at hc
    simp -implicitDefEqProofs (disch := decide +kernel) only [cf, cs, bodyOf, Try.f19, Option.getD_some, go_sem, ↓reduceIte, Nat.reduceSub, Nat.reduceAdd, Nat.reduceMul, Nat.reduceBEq, Nat.reduceLT, Nat.reduceLeDiff, Nat.reduceEqDiff, reduceCtorEq, Int.reduceToNat, Int.reduceLE, Int.reduceLT, Int.reduceBEq, Int.reduceBNe, mCall, lt_true hi, getD_get hi, getD_get hiu, hc, wrap_succ (n := i) (by omega)]
  · intro i hi hp
    have hiu : i < y.length := by omega
    have hc := rsame_spec (x.getD i default) (hz _ (getD_mem hi)) (y.getD i default)
    rw [hp] at hc
    simp -implicitDefEqProofs (disch := decide +kernel) only [cf, cs, bodyOf, Try.f19, Option.getD_some, go_sem, ↓reduceIte, Nat.reduceSub, Nat.reduceAdd, Nat.reduceMul, Nat.reduceBEq, Nat.reduceLT, Nat.reduceLeDiff, Nat.reduceEqDiff, reduceCtorEq, Int.reduceToNat, Int.reduceLE, Int.reduceLT, Int.reduceBEq, Int.reduceBNe, mCall, lt_true hi, getD_get hi, getD_get hiu, hc]
  · simp -implicitDefEqProofs (disch := decide +kernel) only [cf, cs, bodyOf, Try.f19, Option.getD_some, go_sem, ↓reduceIte, Nat.reduceSub, Nat.reduceAdd, Nat.reduceMul, Nat.reduceBEq, Nat.reduceLT, Nat.reduceLeDiff, Nat.reduceEqDiff, reduceCtorEq, Int.reduceToNat, Int.reduceLE, Int.reduceLT, Int.reduceBEq, Int.reduceBNe, mCall, lt_false (Nat.le_refl x.length)]
theorem rlist_spec (x y : List Tm) (hl : x.length < room) (hz : ∀ t ∈ x, t.size < room) : (lim C).call 19 [dL x, dL y] [] = retB (sameL x y) := by
  rw [ev_fn 19 Try.f19 _ _ _ rfl Try.func19 rfl Try.ntmps19 rfl]
  unfold sameL
  by_cases h : y.length = x.length
  · have h1 : ((x.length : Int) != (y.length : Int)) = false := by simp [h]
    simp -implicitDefEqProofs (disch := decide +kernel) only [go_sem, ↓reduceIte, Nat.reduceSub, Nat.reduceAdd, Nat.reduceMul, Nat.reduceBEq, Nat.reduceLT, Nat.reduceLeDiff, Nat.reduceEqDiff, reduceCtorEq, Int.reduceToNat, Int.reduceLE, Int.reduceLT, Int.reduceBEq, Int.reduceBNe, mCall, h1]
    rw [rlist_loop (x := x) (y := y) ?hb ?hs h hl hz]
    case hb => rfl
    case hs => rfl
    have h2 : (x.length == y.length) = true := by simp [h]
    cases hall : allB x.length (fun i => sameB (x.getD i default) (y.getD i default)) <;> simp -implicitDefEqProofs (disch := decide +kernel) only [go_sem, ↓reduceIte, Nat.reduceSub, Nat.reduceAdd, Nat.reduceMul, Nat.reduceBEq, Nat.reduceLT, Nat.reduceLeDiff, Nat.reduceEqDiff, reduceCtorEq, Int.reduceToNat, Int.reduceLE, Int.reduceLT, Int.reduceBEq, Int.reduceBNe, mCall, h2]
  · have h1 : ((x.length : Int) != (y.length : Int)) = true := bne_iff_ne.2 (by omega)
    simp -implicitDefEqProofs (disch := decide +kernel) only [go_sem, ↓reduceIte, Nat.reduceSub, Nat.reduceAdd, Nat.reduceMul, Nat.reduceBEq, Nat.reduceLT, Nat.reduceLeDiff, Nat.reduceEqDiff, reduceCtorEq, Int.reduceToNat, Int.reduceLE, Int.reduceLT, Int.reduceBEq, Int.reduceBNe, mCall, h1]
    have h2 : (x.length == y.length) = false := by simp; omega
    simp [h2]
theorem sameL_refl (x : List Tm) : sameL x x = true := by
  simp only [sameL, beq_self_eq_true, Bool.true_and, allB_iff]
  exact fun i hi => sameB_refl _
end Go.Proofs.Ytfelfahgeannaaa
