/- The package shift. -/
import Derived.Test.YtmemmdfjlhamfaaP4
import Derived.Test.YtmemmdfjlhamfaaF7
import Derived.Test.YtmemmdfjlhamfaaF1
set_option linter.unusedSimpArgs false
set_option linter.unusedVariables false
set_option maxRecDepth 100000
namespace Go.Proofs.Ytmemmdfjlhamfaa
open Go.Proofs
def zT : Tm := .mk 0 0 []
theorem zT_enc : Dv.agg [.int .i64 0, .int .i64 0, .slc []] = enc zT := by unfold zT; rw [enc_mk]; rfl
theorem tm_enc (k h : Int) (l : List Tm) : Dv.agg [.int .i64 k, .int .i64 h, .slc (encs l)] = enc (.mk k h l) := by rw [enc_mk]
/-- A function that is done to each of a list, and leaves the shared variables alone. -/
def Does (g : Nat) (caps : List AV) (h : List HO) (l : List Tm) (F : Nat → Tm) (P : Nat → Bool) : Prop :=
  ∀ i, i < l.length → ∀ (locs : List (Option (List AV))) (toks : List (Option Nat)), mCall C (lim C) g (dI i :: dT (l.getD i default) :: caps) { locs := locs, heap := h, toks := toks } = some (.v (.tup [dT (F i), dB (P i)]), { locs := locs, heap := h, toks := toks })
def outs (F : Nat → Tm) (n : Nat) : List Tm := (List.range n).map F
def each_S (l : List Tm) (g : Nat) (caps : List AV) (h : List HO) (F : Nat → Tm) (i : Nat) : St := mk 33 [(1, .fn g [] caps), (6, acc 0 (encs (outs F i))), (11, dL l), (12, dI l.length), (13, dI i)] [] h (accT i)
theorem each_step {l : List Tm} {g : Nat} {caps : List AV} {h : List HO} {F : Nat → Tm} {P : Nat → Bool} (hd : Does g caps h l F P) (hl : l.length < room) {i : Nat} (hi : i < l.length) (hp : P i = true) :
    (lim C).code 111 (cf (.loop (cf (cf (cs (cf (cs (cs (bodyOf Try.f111))))))))) (each_S l g caps h F i) = some (.nor, each_S l g caps h F (i + 1)) := by
  have hr : room = 1099511627776 := rfl
  have hc := hd i hi
  rw [hp] at hc
  have hln : (encs (outs F i)).length = i := by simp [encs, outs]
  have hap := fun locs heap => mApp_acc (encs (outs F i)) (enc (F i)) 3 locs heap (by rw [hln]; omega) (encs_all _) (enc_width _)
  have hsn : encs (outs F i) ++ [enc (F i)] = encs (outs F (i + 1)) := by unfold outs; rw [List.range_succ, List.map_append, encs_append]; rfl
  rw [hln, hsn] at hap
  simp -implicitDefEqProofs (disch := decide +kernel) only [cf, cs, bodyOf, Try.f111, Option.getD_some, go_sem, ↓reduceIte, Nat.reduceSub, Nat.reduceAdd, Nat.reduceMul, Nat.reduceBEq, Nat.reduceLT, Nat.reduceLeDiff, Nat.reduceEqDiff, reduceCtorEq, Int.reduceToNat, Int.reduceLE, Int.reduceLT, Int.reduceBEq, Int.reduceBNe, each_S, lt_true hi, getD_get hi, hc, hap, wrap_succ (n := i) (by omega)]
theorem each_spec {l : List Tm} {g : Nat} {caps : List AV} {h : List HO} {F : Nat → Tm} {P : Nat → Bool} (hd : Does g caps h l F P) (hl : l.length < room) (hc1 : okL caps = true) (hc2 : eraseL caps = caps) :
    (lim C).call 111 [dL l, .fn g [] caps] h = some (.ret (.tup [dL (if allB l.length P then outs F l.length else []), dB (allB l.length P)]), h) := by
  have hr : room = 1099511627776 := rfl
  rw [ev_fn 111 Try.f111 _ _ _ rfl Try.func111 rfl Try.ntmps111 rfl]
  simp -implicitDefEqProofs (disch := decide +kernel) only [go_sem, ↓reduceIte, Nat.reduceSub, Nat.reduceAdd, Nat.reduceMul, Nat.reduceBEq, Nat.reduceLT, Nat.reduceLeDiff, Nat.reduceEqDiff, reduceCtorEq, Int.reduceToNat, Int.reduceLE, Int.reduceLT, Int.reduceBEq, Int.reduceBNe, hc1, hc2]
  by_cases hall : allB l.length P = true
  · have hloop : (lim C).code 111 (.loop (cf (cf (cs (cf (cs (cs (bodyOf Try.f111)))))))) (each_S l g caps h F 0) = some (.exit 0, mk 33 [(1, .fn g [] caps), (6, acc 0 (encs (outs F l.length))), (11, dL l), (12, dI l.length), (13, dI l.length), (14, dB false)] [] h (accT l.length)) := by
      refine loop_run (each_S l g caps h F) l.length (fun i hi => each_step hd hl hi ((allB_iff _ _).1 hall i hi)) ?_ (by simp)
      simp -implicitDefEqProofs (disch := decide +kernel) only [cf, cs, bodyOf, Try.f111, Option.getD_some, go_sem, ↓reduceIte, Nat.reduceSub, Nat.reduceAdd, Nat.reduceMul, Nat.reduceBEq, Nat.reduceLT, Nat.reduceLeDiff, Nat.reduceEqDiff, reduceCtorEq, Int.reduceToNat, Int.reduceLE, Int.reduceLT, Int.reduceBEq, Int.reduceBNe, each_S, lt_false (Nat.le_refl l.length)]
    rw [loop_at hloop ?hb ?hs]
    case hb => rfl
    case hs => rfl
    have he : (acc 0 (encs (outs F l.length))).erase = .d (.slc (encs (outs F l.length))) := by cases encs (outs F l.length) <;> rfl
    simp -implicitDefEqProofs (disch := decide +kernel) only [go_sem, ↓reduceIte, Nat.reduceSub, Nat.reduceAdd, Nat.reduceMul, Nat.reduceBEq, Nat.reduceLT, Nat.reduceLeDiff, Nat.reduceEqDiff, reduceCtorEq, Int.reduceToNat, Int.reduceLE, Int.reduceLT, Int.reduceBEq, Int.reduceBNe, hall, he]
  · obtain ⟨j, hj, hp, hb⟩ := allB_first l.length P (by simpa using hall)
    have hloop : (lim C).code 111 (.loop (cf (cf (cs (cf (cs (cs (bodyOf Try.f111)))))))) (each_S l g caps h F 0) = some (.ret, mk 33 [(4, .clip []), (5, dB false)] [] h (accT j)) := by
      refine loop_run (each_S l g caps h F) j (fun i hi => each_step hd hl (by omega) (hb i hi)) ?_ (by simp)
      have hc := hd j hj
      rw [hp] at hc
      simp -implicitDefEqProofs (disch := decide +kernel) only [cf, cs, bodyOf, Try.f111, Option.getD_some, go_sem, ↓reduceIte, Nat.reduceSub, Nat.reduceAdd, Nat.reduceMul, Nat.reduceBEq, Nat.reduceLT, Nat.reduceLeDiff, Nat.reduceEqDiff, reduceCtorEq, Int.reduceToNat, Int.reduceLE, Int.reduceLT, Int.reduceBEq, Int.reduceBNe, each_S, lt_true hj, getD_get hj, hc]
    rw [loop_at hloop ?hb ?hs]
    case hb => rfl
    case hs => rfl
    have hf : allB l.length P = false := by simpa using hall
    simp -implicitDefEqProofs (disch := decide +kernel) only [go_sem, ↓reduceIte, Nat.reduceSub, Nat.reduceAdd, Nat.reduceMul, Nat.reduceBEq, Nat.reduceLT, Nat.reduceLeDiff, Nat.reduceEqDiff, reduceCtorEq, Int.reduceToNat, Int.reduceLE, Int.reduceLT, Int.reduceBEq, Int.reduceBNe, hf]
    simp [encs]
/-- What is shared in change: the term, how many nodes bind around it, what is done to variables. -/
def chg_H (t : Tm) (n : Int) (o : AV) : List HO := [.var 0 (cel3 t), .var 0 [dI n], .var 0 [o]]
theorem chg1_spec {t : Tm} {n : Int} {i : Nat} {x u : Tm} {b : Bool} {g : Nat} {rv : Dv} {h : List HO} (hi : i < t.args.length) (hn : 0 ≤ n ∧ n + t.size < 4000000000000000000) (hs : t.size < room)
    (hrec : (lim C).call 79 [dT x, dI (n + bnd t i), .fn g [.d rv] []] [] = some (.ret (.tup [dT u, dB b]), h)) :
    (lim C).call 112 [dI i, dT x, .href 1 0, .href 0 0, .href 2 0] (chg_H t n (.fn g [.d rv] [])) = some (.ret (.tup [dT u, dB b]), chg_H t n (.fn g [.d rv] [])) := by
  have hr : room = 1099511627776 := rfl
  have hl := len_size t
  have hw1 : IntKind.wrap .i64 ((t.args.length : Int) - 1) = (t.args.length : Int) - 1 := wrap_ok (by omega) (by omega)
  have hw2 : IntKind.wrap .i64 (n + 1) = n + 1 := wrap_ok (by omega) (by omega)
  rw [ev_fn 112 Try.f112 _ _ _ rfl Try.func112 rfl Try.ntmps112 rfl]
  cases k1 : (t.kind == 1)
  · cases k3 : (t.kind == 3)
    · have hb : bindsB t = false := by simp [bindsB, k1, k3]
      rw [bindsB_no hb, Int.natCast_zero, Int.add_zero] at hrec
      simp -implicitDefEqProofs (disch := decide +kernel) only [go_sem, ↓reduceIte, Nat.reduceSub, Nat.reduceAdd, Nat.reduceMul, Nat.reduceBEq, Nat.reduceLT, Nat.reduceLeDiff, Nat.reduceEqDiff, reduceCtorEq, Int.reduceToNat, Int.reduceLE, Int.reduceLT, Int.reduceBEq, Int.reduceBNe, mCall, chg_H, cel3, k1, k3, hrec]
    · have hb : bindsB t = true := by simp [bindsB, k1, k3]
      cases he : ((i : Int) == (t.args.length : Int) - 1)
      · rw [bindsB_not he, Int.natCast_zero, Int.add_zero] at hrec
        simp -implicitDefEqProofs (disch := decide +kernel) only [go_sem, ↓reduceIte, Nat.reduceSub, Nat.reduceAdd, Nat.reduceMul, Nat.reduceBEq, Nat.reduceLT, Nat.reduceLeDiff, Nat.reduceEqDiff, reduceCtorEq, Int.reduceToNat, Int.reduceLE, Int.reduceLT, Int.reduceBEq, Int.reduceBNe, mCall, chg_H, cel3, k1, k3, hw1, he, hrec]
      · rw [bindsB_bnd hb he] at hrec
        have hrec : _ = _ := hrec
        rw [Int.natCast_one] at hrec
        simp -implicitDefEqProofs (disch := decide +kernel) only [go_sem, ↓reduceIte, Nat.reduceSub, Nat.reduceAdd, Nat.reduceMul, Nat.reduceBEq, Nat.reduceLT, Nat.reduceLeDiff, Nat.reduceEqDiff, reduceCtorEq, Int.reduceToNat, Int.reduceLE, Int.reduceLT, Int.reduceBEq, Int.reduceBNe, mCall, chg_H, cel3, k1, k3, hw1, hw2, he, hrec]
  · have hb : bindsB t = true := by simp [bindsB, k1]
    cases he : ((i : Int) == (t.args.length : Int) - 1)
    · rw [bindsB_not he, Int.natCast_zero, Int.add_zero] at hrec
      simp -implicitDefEqProofs (disch := decide +kernel) only [go_sem, ↓reduceIte, Nat.reduceSub, Nat.reduceAdd, Nat.reduceMul, Nat.reduceBEq, Nat.reduceLT, Nat.reduceLeDiff, Nat.reduceEqDiff, reduceCtorEq, Int.reduceToNat, Int.reduceLE, Int.reduceLT, Int.reduceBEq, Int.reduceBNe, mCall, chg_H, cel3, k1, hw1, he, hrec]
    · rw [bindsB_bnd hb he] at hrec
      have hrec : _ = _ := hrec
      rw [Int.natCast_one] at hrec
      simp -implicitDefEqProofs (disch := decide +kernel) only [go_sem, ↓reduceIte, Nat.reduceSub, Nat.reduceAdd, Nat.reduceMul, Nat.reduceBEq, Nat.reduceLT, Nat.reduceLeDiff, Nat.reduceEqDiff, reduceCtorEq, Int.reduceToNat, Int.reduceLE, Int.reduceLT, Int.reduceBEq, Int.reduceBNe, mCall, chg_H, cel3, k1, hw1, hw2, he, hrec]
theorem canB_false {p : Int → Int → Bool} {t : Tm} {n : Int} (hk : t.kind = 4) (h : p t.head n = false) : canB p t n = false := by
  rw [canB_eq, h]; simp [hk]
theorem change_spec {g : Nat} (hg : C.thr.contains g = false) {rv : Dv} {f0 : Int} {G : Int → Int → Int} {p ok : Int → Int → Bool} (hof : ∀ x n, ok x (f0 + n) = true → (lim C).call g [.d rv, dI x, dI n] [] = some (.ret (.tup [dI (if p x (f0 + n) then G x (f0 + n) else 0), dB (p x (f0 + n))]), [])) :
    ∀ t : Tm, t.size < room → ∀ n : Int, 0 ≤ n → n + t.size < 4000000000000000000 → canB ok t (f0 + n) = true →
      ∃ h, (lim C).call 79 [dT t, dI n, .fn g [.d rv] []] [] = some (.ret (.tup [dT (if canB p t (f0 + n) then mapT G t (f0 + n) else zT), dB (canB p t (f0 + n))]), h) := by
  refine Tm.ind fun t ih hs n hn1 hn2 hok => ?_
  have hr : room = 1099511627776 := rfl
  have hl := len_size t
  rw [canB_iff] at hok
  have hdo : Does 112 [.href 1 0, .href 0 0, .href 2 0] (chg_H t n (.fn g [.d rv] [])) t.args (fun i => if canB p (t.arg i) (f0 + (n + bnd t i)) then mapT G (t.arg i) (f0 + (n + bnd t i)) else zT) (fun i => canB p (t.arg i) (f0 + (n + bnd t i))) := by
    intro i hi locs toks
    have hsz := size_arg (arg_mem hi)
    have hbl := bnd_le t i
    obtain ⟨h, hrec⟩ := ih _ (arg_mem hi) (by omega) (n + bnd t i) (by omega) (by omega) (by rw [← Int.add_assoc]; exact hok.2 i hi)
    have h1 := chg1_spec hi ⟨hn1, hn2⟩ hs hrec
    simp only [mCall, callsPure, pureL, AV.pure, okL, AV.okA, C_thr, eraseL, AV.erase, Bool.and_true, Bool.true_and, Bool.and_false, Bool.false_and, Bool.false_eq_true, if_false, if_true, Option.bind_some, heapRes_ret, show t.args.getD i default = t.arg i from rfl, h1]
  have hall : (allB t.args.length fun i => canB p (t.arg i) (f0 + (n + bnd t i))) = allB t.args.length fun i => canB p (t.arg i) (f0 + n + bnd t i) := allB_congr fun i _ => by rw [Int.add_assoc]
  have hea := each_spec hdo (by omega) rfl rfl
  rw [hall] at hea
  have hout : (allB t.args.length fun i => canB p (t.arg i) (f0 + n + bnd t i)) = true → outs (fun i => if canB p (t.arg i) (f0 + (n + bnd t i)) then mapT G (t.arg i) (f0 + (n + bnd t i)) else zT) t.args.length = (mapT G t (f0 + n)).args := by
    intro ha
    rw [mapT_args]
    unfold outs
    refine List.map_congr_left fun i hi => ?_
    have := (allB_iff _ _).1 ha i (by simpa using hi)
    rw [Int.add_assoc] at this
    rw [if_pos this, Int.add_assoc]
  simp only [C_thr, List.contains_cons, List.contains_nil, Bool.or_false] at hg
  refine ⟨chg_H t n (.fn g [.d rv] []), ?_⟩
  rw [ev_fn 79 Try.f79 _ _ _ rfl Try.func79 rfl Try.ntmps79 rfl]
  cases hall2 : (allB t.args.length fun i => canB p (t.arg i) (f0 + n + bnd t i))
  · have hcf : canB p t (f0 + n) = false := by rw [canB_eq, hall2, Bool.and_false]
    rw [hall2] at hea
    simp only [Bool.false_eq_true, if_false, chg_H, cel3] at hea
    cases k4 : (t.kind == 4)
    · simp -implicitDefEqProofs (disch := decide +kernel) only [go_sem, ↓reduceIte, Nat.reduceSub, Nat.reduceAdd, Nat.reduceMul, Nat.reduceBEq, Nat.reduceLT, Nat.reduceLeDiff, Nat.reduceEqDiff, reduceCtorEq, Int.reduceToNat, Int.reduceLE, Int.reduceLT, Int.reduceBEq, Int.reduceBNe, mCall, chg_H, cel3, k4, hea, hcf, zT_enc]
    · have hc := hof t.head n (hok.1 (by simpa using k4))
      cases hp : p t.head (f0 + n)
      · rw [hp] at hc
        simp -implicitDefEqProofs (disch := decide +kernel) only [go_sem, ↓reduceIte, Nat.reduceSub, Nat.reduceAdd, Nat.reduceMul, Nat.reduceBEq, Nat.reduceLT, Nat.reduceLeDiff, Nat.reduceEqDiff, reduceCtorEq, Int.reduceToNat, Int.reduceLE, Int.reduceLT, Int.reduceBEq, Int.reduceBNe, mCall, chg_H, cel3, k4, hg, hc, hcf, zT_enc]
      · rw [hp] at hc
        simp -implicitDefEqProofs (disch := decide +kernel) only [go_sem, ↓reduceIte, Nat.reduceSub, Nat.reduceAdd, Nat.reduceMul, Nat.reduceBEq, Nat.reduceLT, Nat.reduceLeDiff, Nat.reduceEqDiff, reduceCtorEq, Int.reduceToNat, Int.reduceLE, Int.reduceLT, Int.reduceBEq, Int.reduceBNe, mCall, chg_H, cel3, k4, hg, hc, hea, hcf, zT_enc]
  · rw [hall2, if_pos rfl, hout hall2] at hea
    simp only [chg_H, cel3] at hea
    have hm := mapT_eq G t (f0 + n)
    rw [← mapT_args] at hm
    cases k4 : (t.kind == 4)
    · have hct : canB p t (f0 + n) = true := by rw [canB_eq, hall2]; simp [bne, k4]
      rw [k4] at hm
      have hm' : Dv.agg [.int .i64 t.kind, .int .i64 t.head, .slc (encs (mapT G t (f0 + n)).args)] = enc (mapT G t (f0 + n)) := by rw [tm_enc]; exact congrArg enc hm.symm
      simp -implicitDefEqProofs (disch := decide +kernel) only [go_sem, ↓reduceIte, Nat.reduceSub, Nat.reduceAdd, Nat.reduceMul, Nat.reduceBEq, Nat.reduceLT, Nat.reduceLeDiff, Nat.reduceEqDiff, reduceCtorEq, Int.reduceToNat, Int.reduceLE, Int.reduceLT, Int.reduceBEq, Int.reduceBNe, mCall, chg_H, cel3, k4, hea, hct, hm']
    · have hc := hof t.head n (hok.1 (by simpa using k4))
      cases hp : p t.head (f0 + n)
      · have hcf : canB p t (f0 + n) = false := canB_false (by simpa using k4) hp
        rw [hp] at hc
        simp -implicitDefEqProofs (disch := decide +kernel) only [go_sem, ↓reduceIte, Nat.reduceSub, Nat.reduceAdd, Nat.reduceMul, Nat.reduceBEq, Nat.reduceLT, Nat.reduceLeDiff, Nat.reduceEqDiff, reduceCtorEq, Int.reduceToNat, Int.reduceLE, Int.reduceLT, Int.reduceBEq, Int.reduceBNe, mCall, chg_H, cel3, k4, hg, hc, hcf, zT_enc]
      · have hct : canB p t (f0 + n) = true := by rw [canB_eq, hall2, hp]; simp
        rw [hp] at hc
        rw [k4] at hm
        have hm' : Dv.agg [.int .i64 t.kind, .int .i64 (G t.head (f0 + n)), .slc (encs (mapT G t (f0 + n)).args)] = enc (mapT G t (f0 + n)) := by rw [tm_enc]; exact congrArg enc hm.symm
        simp -implicitDefEqProofs (disch := decide +kernel) only [go_sem, ↓reduceIte, Nat.reduceSub, Nat.reduceAdd, Nat.reduceMul, Nat.reduceBEq, Nat.reduceLT, Nat.reduceLeDiff, Nat.reduceEqDiff, reduceCtorEq, Int.reduceToNat, Int.reduceLE, Int.reduceLT, Int.reduceBEq, Int.reduceBNe, mCall, chg_H, cel3, k4, hg, hc, hea, hct, hm']
/-- What numbers are: small enough. -/
def okUp (x m : Int) : Bool := decide (x ≤ 4503599627370496)
theorem renup_spec (b f x n : Int) (hb : 0 ≤ b ∧ b ≤ 1048576) (hf : 0 ≤ f + n ∧ f + n ≤ 4000000000000000000) (hx : x ≤ 4503599627370496) :
    (lim C).call 80 [.d (.agg [.int .i64 b, .int .i64 f]), dI x, dI n] [] = some (.ret (.tup [dI (gUp b x (f + n)), dB true]), []) := by
  have hw : IntKind.wrap .i64 (f + n) = f + n := wrap_ok (by omega) (by omega)
  unfold gUp
  rw [ev_fn 80 Try.f80 _ _ _ rfl Try.func80 rfl Try.ntmps80 rfl]
  cases h1 : decide (x ≥ f + n)
  · have h1' : ¬ x ≥ f + n := by simpa using h1
    rw [if_neg h1']
    simp -implicitDefEqProofs (disch := decide +kernel) only [go_sem, ↓reduceIte, Nat.reduceSub, Nat.reduceAdd, Nat.reduceMul, Nat.reduceBEq, Nat.reduceLT, Nat.reduceLeDiff, Nat.reduceEqDiff, reduceCtorEq, Int.reduceToNat, Int.reduceLE, Int.reduceLT, Int.reduceBEq, Int.reduceBNe, mCall, hw, h1]
  · have h1' : x ≥ f + n := by simpa using h1
    have hw2 : IntKind.wrap .i64 (x + b) = x + b := wrap_ok (by omega) (by omega)
    rw [if_pos h1']
    simp -implicitDefEqProofs (disch := decide +kernel) only [go_sem, ↓reduceIte, Nat.reduceSub, Nat.reduceAdd, Nat.reduceMul, Nat.reduceBEq, Nat.reduceLT, Nat.reduceLeDiff, Nat.reduceEqDiff, reduceCtorEq, Int.reduceToNat, Int.reduceLE, Int.reduceLT, Int.reduceBEq, Int.reduceBNe, mCall, hw, hw2, h1]
/-- Whether a term may be renumbered by so many, from one on. -/
def renB (t : Tm) (b f : Int) : Bool := mayB t && decide (b ≥ 0) && decide (b ≤ 1048576) && decide (f ≥ 0) && decide (f ≤ 1048576)
theorem smay2_spec (t : Tm) (hs : t.size < room) (b f : Int) : (lim C).call 77 [dT t, dI b, dI f] [] = retB (renB t b f) := by
  unfold renB
  rw [ev_fn 77 Try.f77 _ _ _ rfl Try.func77 rfl Try.ntmps77 rfl]
  cases h1 : mayB t
  · simp -implicitDefEqProofs (disch := decide +kernel) only [go_sem, ↓reduceIte, Nat.reduceSub, Nat.reduceAdd, Nat.reduceMul, Nat.reduceBEq, Nat.reduceLT, Nat.reduceLeDiff, Nat.reduceEqDiff, reduceCtorEq, Int.reduceToNat, Int.reduceLE, Int.reduceLT, Int.reduceBEq, Int.reduceBNe, mCall, tMay_spec t hs, h1]
  · skip
    cases h2 : decide (b ≥ 0)
    · simp -implicitDefEqProofs (disch := decide +kernel) only [go_sem, ↓reduceIte, Nat.reduceSub, Nat.reduceAdd, Nat.reduceMul, Nat.reduceBEq, Nat.reduceLT, Nat.reduceLeDiff, Nat.reduceEqDiff, reduceCtorEq, Int.reduceToNat, Int.reduceLE, Int.reduceLT, Int.reduceBEq, Int.reduceBNe, mCall, tMay_spec t hs, h1, h2]
    · skip
      cases h3 : decide (b ≤ 1048576)
      · simp -implicitDefEqProofs (disch := decide +kernel) only [go_sem, ↓reduceIte, Nat.reduceSub, Nat.reduceAdd, Nat.reduceMul, Nat.reduceBEq, Nat.reduceLT, Nat.reduceLeDiff, Nat.reduceEqDiff, reduceCtorEq, Int.reduceToNat, Int.reduceLE, Int.reduceLT, Int.reduceBEq, Int.reduceBNe, mCall, tMay_spec t hs, h1, h2, h3]
      · skip
        cases h4 : decide (f ≥ 0)
        · simp -implicitDefEqProofs (disch := decide +kernel) only [go_sem, ↓reduceIte, Nat.reduceSub, Nat.reduceAdd, Nat.reduceMul, Nat.reduceBEq, Nat.reduceLT, Nat.reduceLeDiff, Nat.reduceEqDiff, reduceCtorEq, Int.reduceToNat, Int.reduceLE, Int.reduceLT, Int.reduceBEq, Int.reduceBNe, mCall, tMay_spec t hs, h1, h2, h3, h4]
        · skip
          cases h5 : decide (f ≤ 1048576)
          · simp -implicitDefEqProofs (disch := decide +kernel) only [go_sem, ↓reduceIte, Nat.reduceSub, Nat.reduceAdd, Nat.reduceMul, Nat.reduceBEq, Nat.reduceLT, Nat.reduceLeDiff, Nat.reduceEqDiff, reduceCtorEq, Int.reduceToNat, Int.reduceLE, Int.reduceLT, Int.reduceBEq, Int.reduceBNe, mCall, tMay_spec t hs, h1, h2, h3, h4, h5]
          · simp -implicitDefEqProofs (disch := decide +kernel) only [go_sem, ↓reduceIte, Nat.reduceSub, Nat.reduceAdd, Nat.reduceMul, Nat.reduceBEq, Nat.reduceLT, Nat.reduceLeDiff, Nat.reduceEqDiff, reduceCtorEq, Int.reduceToNat, Int.reduceLE, Int.reduceLT, Int.reduceBEq, Int.reduceBNe, mCall, tMay_spec t hs, h1, h2, h3, h4, h5]
theorem low_can (f : Int) : ∀ (t : Tm) (n : Int), f ≤ n → n + t.size ≤ 4000000000000000000 → vlowB t = true → canB (fun x m => decide (x ≤ 4503599627370496) && decide (f ≤ m) && decide (m ≤ 4000000000000000000)) t n = true := by
  refine Tm.ind fun t ih n hn hm hl => ?_
  rw [canB_iff]
  refine ⟨fun hk => ?_, fun i hi => ?_⟩
  · have := vle_here hl hk
    simp
    omega
  · have := size_arg (arg_mem hi)
    have := bnd_le t i
    exact ih _ (arg_mem hi) _ (by omega) (by omega) (vle_args hl i hi)
theorem sup_spec (t : Tm) (hs : t.size < room) (hl : vlowB t = true) (b f : Int) : ∃ h, (lim C).call 45 [dT t, dI b, dI f] [] = some (.ret (dT (if renB t b f then upT t b f else t)), h) := by
  have hr : room = 1099511627776 := rfl
  have hm := smay2_spec t hs b f
  cases h : renB t b f
  · rw [h] at hm
    refine ⟨[], ?_⟩
    rw [ev_fn 45 Try.f45 _ _ _ rfl Try.func45 rfl Try.ntmps45 rfl]
    simp -implicitDefEqProofs (disch := decide +kernel) only [go_sem, ↓reduceIte, Nat.reduceSub, Nat.reduceAdd, Nat.reduceMul, Nat.reduceBEq, Nat.reduceLT, Nat.reduceLeDiff, Nat.reduceEqDiff, reduceCtorEq, Int.reduceToNat, Int.reduceLE, Int.reduceLT, Int.reduceBEq, Int.reduceBNe, mCall, hm, own_spec t hs]
  · rw [h] at hm
    simp only [renB, Bool.and_eq_true, decide_eq_true_eq] at h
    have hc := low_can f t f (Int.le_refl _) (by omega) hl
    obtain ⟨h', hch⟩ := change_spec (g := 80) (by decide +kernel) (rv := .agg [.int .i64 b, .int .i64 f]) (f0 := f) (G := gUp b) (p := fun _ _ => true) (ok := fun x m => decide (x ≤ 4503599627370496) && decide (f ≤ m) && decide (m ≤ 4000000000000000000)) (fun x n hx => by
      simp only [Bool.and_eq_true, decide_eq_true_eq] at hx
      rw [if_pos rfl]
      exact renup_spec b f x n ⟨by omega, by omega⟩ ⟨by omega, by omega⟩ (by omega)) t hs 0 (by omega) (by omega) (by rw [Int.add_zero]; exact hc)
    rw [Int.add_zero, canB_true, if_pos rfl] at hch
    refine ⟨[], ?_⟩
    rw [ev_fn 45 Try.f45 _ _ _ rfl Try.func45 rfl Try.ntmps45 rfl]
    simp -implicitDefEqProofs (disch := decide +kernel) only [go_sem, ↓reduceIte, Nat.reduceSub, Nat.reduceAdd, Nat.reduceMul, Nat.reduceBEq, Nat.reduceLT, Nat.reduceLeDiff, Nat.reduceEqDiff, reduceCtorEq, Int.reduceToNat, Int.reduceLE, Int.reduceLT, Int.reduceBEq, Int.reduceBNe, mCall, hm, hch]
end Go.Proofs.Ytmemmdfjlhamfaa
