/- The package shift. -/
import Derived.Test.YtmmhpmfgcenngaaC1
set_option linter.unusedSimpArgs false
set_option linter.unusedVariables false
set_option maxRecDepth 100000
namespace Go.Proofs.Ytmmhpmfgcenngaa
open Go.Proofs
def zT : Tm := .mk 0 0 []
theorem zT_enc : Dv.agg [.int .i64 0, .int .i64 0, .slc []] = enc zT := by unfold zT; rw [enc_mk]; rfl
theorem zT_n [N0] : nT zT = .arr [.d (.int .i64 0), .d (.int .i64 0), .kn newV []] := rfl
theorem tm_enc (k h : Int) (l : List Tm) : Dv.agg [.int .i64 k, .int .i64 h, .slc (encs l)] = enc (.mk k h l) := by rw [enc_mk]
/-- A function that is done to each of a list, and leaves the shared variables alone. -/
def Does [N0] (g : Nat) (caps : List AV) (h : List HO) (l : List Tm) (F : Nat → Tm) (P : Nat → Bool) : Prop :=
  ∀ i, i < l.length → ∀ (locs : List (Option (List AV))) (toks : List (Option Nat)), mCall C (lim C) g (dI i :: dT (l.getD i default) :: caps) { locs := locs, heap := h, toks := toks } = some (.v (.tup [nT (F i), dB (P i)]), { locs := locs, heap := h, toks := toks })
def outs (F : Nat → Tm) (n : Nat) : List Tm := (List.range n).map F
def each_S (l : List Tm) (g : Nat) (caps : List AV) (h : List HO) (F : Nat → Tm) (i : Nat) : St := mk 33 [(1, .fn g [] caps), (6, acc 0 (encs (outs F i))), (11, dL l), (12, dI l.length), (13, dI i)] [] h (accT i)
theorem each_step [N0] {l : List Tm} {g : Nat} {caps : List AV} {h : List HO} {F : Nat → Tm} {P : Nat → Bool} (hd : Does g caps h l F P) (hl : l.length < room) {i : Nat} (hi : i < l.length) (hp : P i = true) :
    (lim C).code 30 (cf (.loop (cf (cf (cs (cf (cs (cs (bodyOf Try.f30))))))))) (each_S l g caps h F i) = some (.nor, each_S l g caps h F (i + 1)) := by
  have hr : room = 1099511627776 := rfl
  have hc := hd i hi
  rw [hp] at hc
  have hln : (encs (outs F i)).length = i := by simp [encs, outs]
  have hap := fun locs heap => mApp_acc (encs (outs F i)) (enc (F i)) 3 locs heap (by rw [hln]; omega) (encs_all _) (enc_width _)
  have hsn : encs (outs F i) ++ [enc (F i)] = encs (outs F (i + 1)) := by unfold outs; rw [List.range_succ, List.map_append, encs_append]; rfl
  rw [hln, hsn] at hap
  simp -implicitDefEqProofs (disch := decide +kernel) only [cf, cs, bodyOf, Try.f30, Option.getD_some, go_sem, ↓reduceIte, Nat.reduceSub, Nat.reduceAdd, Nat.reduceMul, Nat.reduceBEq, Nat.reduceLT, Nat.reduceLeDiff, Nat.reduceEqDiff, reduceCtorEq, Int.reduceToNat, Int.reduceLE, Int.reduceLT, Int.reduceBEq, Int.reduceBNe, each_S, lt_true hi, getD_get hi, hc, hap, nT, (enc_eq (F i)).symm, wrap_succ (n := i) (by omega)]
theorem each_spec [N0] {l : List Tm} {g : Nat} {caps : List AV} {h : List HO} {F : Nat → Tm} {P : Nat → Bool} (hd : Does g caps h l F P) (hl : l.length < room) (hc1 : okL caps = true) (hc2 : eraseL caps = caps) :
    (lim C).call 30 [dL l, .fn g [] caps] h = some (.ret (.tup [nL (if allB l.length P then outs F l.length else []), dB (allB l.length P)]), h) := by
  have hr : room = 1099511627776 := rfl
  rw [ev_fn 30 Try.f30 _ _ _ rfl Try.func30 rfl Try.ntmps30 rfl]
  simp -implicitDefEqProofs (disch := decide +kernel) only [go_sem, ↓reduceIte, Nat.reduceSub, Nat.reduceAdd, Nat.reduceMul, Nat.reduceBEq, Nat.reduceLT, Nat.reduceLeDiff, Nat.reduceEqDiff, reduceCtorEq, Int.reduceToNat, Int.reduceLE, Int.reduceLT, Int.reduceBEq, Int.reduceBNe, hc1, hc2]
  by_cases hall : allB l.length P = true
  · have hloop : (lim C).code 30 (.loop (cf (cf (cs (cf (cs (cs (bodyOf Try.f30)))))))) (each_S l g caps h F 0) = some (.exit 0, mk 33 [(1, .fn g [] caps), (6, acc 0 (encs (outs F l.length))), (11, dL l), (12, dI l.length), (13, dI l.length), (14, dB false)] [] h (accT l.length)) := by
      refine loop_run (each_S l g caps h F) l.length (fun i hi => each_step hd hl hi ((allB_iff _ _).1 hall i hi)) ?_ (by simp)
      simp -implicitDefEqProofs (disch := decide +kernel) only [cf, cs, bodyOf, Try.f30, Option.getD_some, go_sem, ↓reduceIte, Nat.reduceSub, Nat.reduceAdd, Nat.reduceMul, Nat.reduceBEq, Nat.reduceLT, Nat.reduceLeDiff, Nat.reduceEqDiff, reduceCtorEq, Int.reduceToNat, Int.reduceLE, Int.reduceLT, Int.reduceBEq, Int.reduceBNe, each_S, lt_false (Nat.le_refl l.length)]
    rw [loop_at hloop ?hb ?hs]
    case hb => rfl
    case hs => rfl
    have he := acc_ret (encs (outs F l.length))
    rw [show (encs (outs F l.length)).length = l.length by simp [encs, outs]] at he
    simp -implicitDefEqProofs (disch := decide +kernel) only [go_sem, ↓reduceIte, Nat.reduceSub, Nat.reduceAdd, Nat.reduceMul, Nat.reduceBEq, Nat.reduceLT, Nat.reduceLeDiff, Nat.reduceEqDiff, reduceCtorEq, Int.reduceToNat, Int.reduceLE, Int.reduceLT, Int.reduceBEq, Int.reduceBNe, hall, he, nL]
  · obtain ⟨j, hj, hp, hb⟩ := allB_first l.length P (by simpa using hall)
    have hloop : (lim C).code 30 (.loop (cf (cf (cs (cf (cs (cs (bodyOf Try.f30)))))))) (each_S l g caps h F 0) = some (.ret, mk 33 [(4, .clip []), (5, dB false)] [] h (accT j)) := by
      refine loop_run (each_S l g caps h F) j (fun i hi => each_step hd hl (by omega) (hb i hi)) ?_ (by simp)
      have hc := hd j hj
      rw [hp] at hc
      simp -implicitDefEqProofs (disch := decide +kernel) only [cf, cs, bodyOf, Try.f30, Option.getD_some, go_sem, ↓reduceIte, Nat.reduceSub, Nat.reduceAdd, Nat.reduceMul, Nat.reduceBEq, Nat.reduceLT, Nat.reduceLeDiff, Nat.reduceEqDiff, reduceCtorEq, Int.reduceToNat, Int.reduceLE, Int.reduceLT, Int.reduceBEq, Int.reduceBNe, each_S, lt_true hj, getD_get hj, hc, nT]
    rw [loop_at hloop ?hb ?hs]
    case hb => rfl
    case hs => rfl
    have hf : allB l.length P = false := by simpa using hall
    simp -implicitDefEqProofs (disch := decide +kernel) only [go_sem, ↓reduceIte, Nat.reduceSub, Nat.reduceAdd, Nat.reduceMul, Nat.reduceBEq, Nat.reduceLT, Nat.reduceLeDiff, Nat.reduceEqDiff, reduceCtorEq, Int.reduceToNat, Int.reduceLE, Int.reduceLT, Int.reduceBEq, Int.reduceBNe, hf, nL]
    simp [encs]
/-- What is shared in change: the term, how many nodes bind around it, what is done to variables. -/
def chg_H (t : Tm) (n : Int) (o : AV) : List HO := [.var 0 (cel3 t), .var 0 [dI n], .var 0 [o]]
theorem chg1_spec [N0] {t : Tm} {n : Int} {i : Nat} {x u : Tm} {b : Bool} {g : Nat} {rv : Dv} {h : List HO} (hi : i < t.args.length) (hn : 0 ≤ n ∧ n + t.size < 4000000000000000000) (hs : t.size < room)
    (hrec : (lim C).call 24 [dT x, dI (n + bnd t i), .fn g [.d rv] []] [] = some (.ret (.tup [nT u, dB b]), h)) :
    (lim C).call 31 [dI i, dT x, .href 1 0, .href 0 0, .href 2 0] (chg_H t n (.fn g [.d rv] [])) = some (.ret (.tup [nT u, dB b]), chg_H t n (.fn g [.d rv] [])) := by
  have hr : room = 1099511627776 := rfl
  have hl := len_size t
  have hw1 : IntKind.wrap .i64 ((t.args.length : Int) - 1) = (t.args.length : Int) - 1 := wrap_ok (by omega) (by omega)
  have hw2 : IntKind.wrap .i64 (n + 1) = n + 1 := wrap_ok (by omega) (by omega)
  rw [ev_fn 31 Try.f31 _ _ _ rfl Try.func31 rfl Try.ntmps31 rfl]
  cases k1 : (t.kind == 1)
  · cases k3 : (t.kind == 3)
    · have hb : bindsB t = false := by simp [bindsB, k1, k3]
      rw [bindsB_no hb, Int.natCast_zero, Int.add_zero] at hrec
      simp -implicitDefEqProofs (disch := decide +kernel) only [go_sem, ↓reduceIte, Nat.reduceSub, Nat.reduceAdd, Nat.reduceMul, Nat.reduceBEq, Nat.reduceLT, Nat.reduceLeDiff, Nat.reduceEqDiff, reduceCtorEq, Int.reduceToNat, Int.reduceLE, Int.reduceLT, Int.reduceBEq, Int.reduceBNe, mCall, chg_H, cel3, k1, k3, hrec, nT]
    · have hb : bindsB t = true := by simp [bindsB, k1, k3]
      cases he : ((i : Int) == (t.args.length : Int) - 1)
      · rw [bindsB_not he, Int.natCast_zero, Int.add_zero] at hrec
        simp -implicitDefEqProofs (disch := decide +kernel) only [go_sem, ↓reduceIte, Nat.reduceSub, Nat.reduceAdd, Nat.reduceMul, Nat.reduceBEq, Nat.reduceLT, Nat.reduceLeDiff, Nat.reduceEqDiff, reduceCtorEq, Int.reduceToNat, Int.reduceLE, Int.reduceLT, Int.reduceBEq, Int.reduceBNe, mCall, chg_H, cel3, k1, k3, hw1, he, hrec, nT]
      · rw [bindsB_bnd hb he] at hrec
        have hrec : _ = _ := hrec
        rw [Int.natCast_one] at hrec
        simp -implicitDefEqProofs (disch := decide +kernel) only [go_sem, ↓reduceIte, Nat.reduceSub, Nat.reduceAdd, Nat.reduceMul, Nat.reduceBEq, Nat.reduceLT, Nat.reduceLeDiff, Nat.reduceEqDiff, reduceCtorEq, Int.reduceToNat, Int.reduceLE, Int.reduceLT, Int.reduceBEq, Int.reduceBNe, mCall, chg_H, cel3, k1, k3, hw1, hw2, he, hrec, nT]
  · have hb : bindsB t = true := by simp [bindsB, k1]
    cases he : ((i : Int) == (t.args.length : Int) - 1)
    · rw [bindsB_not he, Int.natCast_zero, Int.add_zero] at hrec
      simp -implicitDefEqProofs (disch := decide +kernel) only [go_sem, ↓reduceIte, Nat.reduceSub, Nat.reduceAdd, Nat.reduceMul, Nat.reduceBEq, Nat.reduceLT, Nat.reduceLeDiff, Nat.reduceEqDiff, reduceCtorEq, Int.reduceToNat, Int.reduceLE, Int.reduceLT, Int.reduceBEq, Int.reduceBNe, mCall, chg_H, cel3, k1, hw1, he, hrec, nT]
    · rw [bindsB_bnd hb he] at hrec
      have hrec : _ = _ := hrec
      rw [Int.natCast_one] at hrec
      simp -implicitDefEqProofs (disch := decide +kernel) only [go_sem, ↓reduceIte, Nat.reduceSub, Nat.reduceAdd, Nat.reduceMul, Nat.reduceBEq, Nat.reduceLT, Nat.reduceLeDiff, Nat.reduceEqDiff, reduceCtorEq, Int.reduceToNat, Int.reduceLE, Int.reduceLT, Int.reduceBEq, Int.reduceBNe, mCall, chg_H, cel3, k1, hw1, hw2, he, hrec, nT]
theorem canB_false {p : Int → Int → Bool} {t : Tm} {n : Int} (hk : t.kind = 4) (h : p t.head n = false) : canB p t n = false := by
  rw [canB_eq, h]; simp [hk]
theorem change_spec [N0] {g : Nat} (hg : C.thr.contains g = false) {rv : Dv} {f0 : Int} {G : Int → Int → Int} {p ok : Int → Int → Bool} (hof : ∀ x n, ok x (f0 + n) = true → (lim C).call g [.d rv, dI x, dI n] [] = some (.ret (.tup [dI (if p x (f0 + n) then G x (f0 + n) else 0), dB (p x (f0 + n))]), [])) :
    ∀ t : Tm, t.size < room → ∀ n : Int, 0 ≤ n → n + t.size < 4000000000000000000 → canB ok t (f0 + n) = true →
      ∃ h, (lim C).call 24 [dT t, dI n, .fn g [.d rv] []] [] = some (.ret (.tup [nT (if canB p t (f0 + n) then mapT G t (f0 + n) else zT), dB (canB p t (f0 + n))]), h) := by
  refine Tm.ind fun t ih hs n hn1 hn2 hok => ?_
  have hr : room = 1099511627776 := rfl
  have hl := len_size t
  rw [canB_iff] at hok
  have hdo : Does 31 [.href 1 0, .href 0 0, .href 2 0] (chg_H t n (.fn g [.d rv] [])) t.args (fun i => if canB p (t.arg i) (f0 + (n + bnd t i)) then mapT G (t.arg i) (f0 + (n + bnd t i)) else zT) (fun i => canB p (t.arg i) (f0 + (n + bnd t i))) := by
    intro i hi locs toks
    have hsz := size_arg (arg_mem hi)
    have hbl := bnd_le t i
    obtain ⟨h, hrec⟩ := ih _ (arg_mem hi) (by omega) (n + bnd t i) (by omega) (by omega) (by rw [← Int.add_assoc]; exact hok.2 i hi)
    have h1 := chg1_spec hi ⟨hn1, hn2⟩ hs hrec
    simp only [mCall, callsPure, pureL, AV.pure, okL, AV.okA, C_thr, eraseL, AV.erase, Bool.and_true, Bool.true_and, Bool.and_false, Bool.false_and, Bool.false_eq_true, if_false, if_true, Option.bind_some, heapRes_ret, nT_ok, nT_keep, AV.keepE, AV.retE, retL, show t.args.getD i default = t.arg i from rfl, h1]
  have hall : (allB t.args.length fun i => canB p (t.arg i) (f0 + (n + bnd t i))) = allB t.args.length fun i => canB p (t.arg i) (f0 + n + bnd t i) := allB_congr fun i _ => by rw [Int.add_assoc]
  have hea := each_spec hdo (by omega) rfl rfl
  rw [hall] at hea
  have hout : (allB t.args.length fun i => canB p (t.arg i) (f0 + n + bnd t i)) = true → outs (fun i => if canB p (t.arg i) (f0 + (n + bnd t i)) then mapT G (t.arg i) (f0 + (n + bnd t i)) else zT) t.args.length = (mapT G t (f0 + n)).args := by
    intro ha
    rw [mapT_args]
    unfold outs
    refine List.map_congr_left fun i hi => ?_
    have := (allB_iff _ _).1 ha i (by simpa using hi)
    rw [Int.add_assoc] at this
    rw [if_pos this, Int.add_assoc]
  simp only [C_thr, List.contains_cons, List.contains_nil, Bool.or_false] at hg
  refine ⟨chg_H t n (.fn g [.d rv] []), ?_⟩
  rw [ev_fn 24 Try.f24 _ _ _ rfl Try.func24 rfl Try.ntmps24 rfl]
  cases hall2 : (allB t.args.length fun i => canB p (t.arg i) (f0 + n + bnd t i))
  · have hcf : canB p t (f0 + n) = false := by rw [canB_eq, hall2, Bool.and_false]
    rw [hall2] at hea
    simp only [Bool.false_eq_true, if_false, chg_H, cel3] at hea
    cases k4 : (t.kind == 4)
    · simp -implicitDefEqProofs (disch := decide +kernel) only [go_sem, ↓reduceIte, Nat.reduceSub, Nat.reduceAdd, Nat.reduceMul, Nat.reduceBEq, Nat.reduceLT, Nat.reduceLeDiff, Nat.reduceEqDiff, reduceCtorEq, Int.reduceToNat, Int.reduceLE, Int.reduceLT, Int.reduceBEq, Int.reduceBNe, mCall, chg_H, cel3, k4, hea, hcf, zT_n, nL, zT_enc]
    · have hc := hof t.head n (hok.1 (by simpa using k4))
      cases hp : p t.head (f0 + n)
      · rw [hp] at hc
        simp -implicitDefEqProofs (disch := decide +kernel) only [go_sem, ↓reduceIte, Nat.reduceSub, Nat.reduceAdd, Nat.reduceMul, Nat.reduceBEq, Nat.reduceLT, Nat.reduceLeDiff, Nat.reduceEqDiff, reduceCtorEq, Int.reduceToNat, Int.reduceLE, Int.reduceLT, Int.reduceBEq, Int.reduceBNe, mCall, chg_H, cel3, k4, hg, hc, hcf, zT_n, nL, zT_enc]
      · rw [hp] at hc
        simp -implicitDefEqProofs (disch := decide +kernel) only [go_sem, ↓reduceIte, Nat.reduceSub, Nat.reduceAdd, Nat.reduceMul, Nat.reduceBEq, Nat.reduceLT, Nat.reduceLeDiff, Nat.reduceEqDiff, reduceCtorEq, Int.reduceToNat, Int.reduceLE, Int.reduceLT, Int.reduceBEq, Int.reduceBNe, mCall, chg_H, cel3, k4, hg, hc, hea, hcf, zT_n, nL, zT_enc]
  · rw [hall2, if_pos rfl, hout hall2] at hea
    simp only [chg_H, cel3] at hea
    have hm := mapT_eq G t (f0 + n)
    rw [← mapT_args] at hm
    cases k4 : (t.kind == 4)
    · have hct : canB p t (f0 + n) = true := by rw [canB_eq, hall2]; simp [bne, k4]
      rw [k4] at hm
      have hm' : nT (mapT G t (f0 + n)) = .arr [.d (.int .i64 t.kind), .d (.int .i64 t.head), .kn newV (encs (mapT G t (f0 + n)).args)] := by
        unfold nT
        have hk1 := congrArg Tm.kind hm
        have hk2 := congrArg Tm.head hm
        simp only [mk_kind, mk_head, Bool.false_eq_true, if_false] at hk1 hk2
        rw [show (mapT G t (f0 + n)).kind = t.kind from hk1, show (mapT G t (f0 + n)).head = t.head from hk2]
      simp -implicitDefEqProofs (disch := decide +kernel) only [go_sem, ↓reduceIte, Nat.reduceSub, Nat.reduceAdd, Nat.reduceMul, Nat.reduceBEq, Nat.reduceLT, Nat.reduceLeDiff, Nat.reduceEqDiff, reduceCtorEq, Int.reduceToNat, Int.reduceLE, Int.reduceLT, Int.reduceBEq, Int.reduceBNe, mCall, chg_H, cel3, k4, hea, hct, hm', nL]
    · have hc := hof t.head n (hok.1 (by simpa using k4))
      cases hp : p t.head (f0 + n)
      · have hcf : canB p t (f0 + n) = false := canB_false (by simpa using k4) hp
        rw [hp] at hc
        simp -implicitDefEqProofs (disch := decide +kernel) only [go_sem, ↓reduceIte, Nat.reduceSub, Nat.reduceAdd, Nat.reduceMul, Nat.reduceBEq, Nat.reduceLT, Nat.reduceLeDiff, Nat.reduceEqDiff, reduceCtorEq, Int.reduceToNat, Int.reduceLE, Int.reduceLT, Int.reduceBEq, Int.reduceBNe, mCall, chg_H, cel3, k4, hg, hc, hcf, zT_n, nL, zT_enc]
      · have hct : canB p t (f0 + n) = true := by rw [canB_eq, hall2, hp]; simp
        rw [hp] at hc
        rw [k4] at hm
        have hm' : nT (mapT G t (f0 + n)) = .arr [.d (.int .i64 t.kind), .d (.int .i64 (G t.head (f0 + n))), .kn newV (encs (mapT G t (f0 + n)).args)] := by
          unfold nT
          have hk1 := congrArg Tm.kind hm
          have hk2 := congrArg Tm.head hm
          simp only [mk_kind, mk_head, if_true] at hk1 hk2
          rw [show (mapT G t (f0 + n)).kind = t.kind from hk1, show (mapT G t (f0 + n)).head = G t.head (f0 + n) from hk2]
        simp -implicitDefEqProofs (disch := decide +kernel) only [go_sem, ↓reduceIte, Nat.reduceSub, Nat.reduceAdd, Nat.reduceMul, Nat.reduceBEq, Nat.reduceLT, Nat.reduceLeDiff, Nat.reduceEqDiff, reduceCtorEq, Int.reduceToNat, Int.reduceLE, Int.reduceLT, Int.reduceBEq, Int.reduceBNe, mCall, chg_H, cel3, k4, hg, hc, hea, hct, hm', nL]
/-- What numbers are: small enough. -/
def okUp (x m : Int) : Bool := decide (x ≤ 4503599627370496)
theorem renup_spec [N0] (b f x n : Int) (hb : 0 ≤ b ∧ b ≤ 1048576) (hf : 0 ≤ f + n ∧ f + n ≤ 4000000000000000000) (hx : x ≤ 4503599627370496) :
    (lim C).call 25 [.d (.agg [.int .i64 b, .int .i64 f]), dI x, dI n] [] = some (.ret (.tup [dI (gUp b x (f + n)), dB true]), []) := by
  have hw : IntKind.wrap .i64 (f + n) = f + n := wrap_ok (by omega) (by omega)
  unfold gUp
  rw [ev_fn 25 Try.f25 _ _ _ rfl Try.func25 rfl Try.ntmps25 rfl]
  cases h1 : decide (x ≥ f + n)
  · have h1' : ¬ x ≥ f + n := by simpa using h1
    rw [if_neg h1']
    simp -implicitDefEqProofs (disch := decide +kernel) only [go_sem, ↓reduceIte, Nat.reduceSub, Nat.reduceAdd, Nat.reduceMul, Nat.reduceBEq, Nat.reduceLT, Nat.reduceLeDiff, Nat.reduceEqDiff, reduceCtorEq, Int.reduceToNat, Int.reduceLE, Int.reduceLT, Int.reduceBEq, Int.reduceBNe, mCall, hw, h1]
  · have h1' : x ≥ f + n := by simpa using h1
    have hw2 : IntKind.wrap .i64 (x + b) = x + b := wrap_ok (by omega) (by omega)
    rw [if_pos h1']
    simp -implicitDefEqProofs (disch := decide +kernel) only [go_sem, ↓reduceIte, Nat.reduceSub, Nat.reduceAdd, Nat.reduceMul, Nat.reduceBEq, Nat.reduceLT, Nat.reduceLeDiff, Nat.reduceEqDiff, reduceCtorEq, Int.reduceToNat, Int.reduceLE, Int.reduceLT, Int.reduceBEq, Int.reduceBNe, mCall, hw, hw2, h1]
theorem rendn_spec [N0] (b f x n : Int) (hb : 0 ≤ b ∧ b ≤ 1048576) (hf : 0 ≤ f + n ∧ f + n ≤ 4000000000000000000) (hx : x ≤ 4503599627370496) :
    (lim C).call 26 [.d (.agg [.int .i64 b, .int .i64 f]), dI x, dI n] [] = some (.ret (.tup [dI (if pDn b x (f + n) then gDn b x (f + n) else 0), dB (pDn b x (f + n))]), []) := by
  have hw : IntKind.wrap .i64 (f + n) = f + n := wrap_ok (by omega) (by omega)
  have hw1 : IntKind.wrap .i64 (f + n + b) = f + n + b := wrap_ok (by omega) (by omega)
  unfold gDn pDn
  rw [ev_fn 26 Try.f26 _ _ _ rfl Try.func26 rfl Try.ntmps26 rfl]
  cases h1 : decide (x < f + n)
  · have h1' : ¬ x < f + n := by simpa using h1
    rw [if_neg h1']
    cases h2 : decide (x < f + n + b)
    · have h2' : decide (x ≥ f + n + b) = true := by simp at h2 ⊢; omega
      have hw2 : IntKind.wrap .i64 (x - b) = x - b := wrap_ok (by omega) (by omega)
      simp -implicitDefEqProofs (disch := decide +kernel) only [go_sem, ↓reduceIte, Nat.reduceSub, Nat.reduceAdd, Nat.reduceMul, Nat.reduceBEq, Nat.reduceLT, Nat.reduceLeDiff, Nat.reduceEqDiff, reduceCtorEq, Int.reduceToNat, Int.reduceLE, Int.reduceLT, Int.reduceBEq, Int.reduceBNe, mCall, hw, hw1, hw2, h1, h2, h2']
    · have h2' : decide (x ≥ f + n + b) = false := by simp at h2 ⊢; omega
      simp -implicitDefEqProofs (disch := decide +kernel) only [go_sem, ↓reduceIte, Nat.reduceSub, Nat.reduceAdd, Nat.reduceMul, Nat.reduceBEq, Nat.reduceLT, Nat.reduceLeDiff, Nat.reduceEqDiff, reduceCtorEq, Int.reduceToNat, Int.reduceLE, Int.reduceLT, Int.reduceBEq, Int.reduceBNe, mCall, hw, hw1, h1, h2, h2']
  · have h1' : x < f + n := by simpa using h1
    rw [if_pos h1']
    simp -implicitDefEqProofs (disch := decide +kernel) only [go_sem, ↓reduceIte, Nat.reduceSub, Nat.reduceAdd, Nat.reduceMul, Nat.reduceBEq, Nat.reduceLT, Nat.reduceLeDiff, Nat.reduceEqDiff, reduceCtorEq, Int.reduceToNat, Int.reduceLE, Int.reduceLT, Int.reduceBEq, Int.reduceBNe, mCall, hw, h1]
/-- Whether a term may be renumbered by so many, from one on. -/
def renB (t : Tm) (b f : Int) : Bool := mayB t && decide (b ≥ 0) && decide (b ≤ 1048576) && decide (f ≥ 0) && decide (f ≤ 1048576)
theorem smay2_spec [N0] (t : Tm) (hs : t.size < room) (b f : Int) : (lim C).call 23 [dT t, dI b, dI f] [] = retB (renB t b f) := by
  unfold renB
  rw [ev_fn 23 Try.f23 _ _ _ rfl Try.func23 rfl Try.ntmps23 rfl]
  cases h1 : mayB t
  · simp -implicitDefEqProofs (disch := decide +kernel) only [go_sem, ↓reduceIte, Nat.reduceSub, Nat.reduceAdd, Nat.reduceMul, Nat.reduceBEq, Nat.reduceLT, Nat.reduceLeDiff, Nat.reduceEqDiff, reduceCtorEq, Int.reduceToNat, Int.reduceLE, Int.reduceLT, Int.reduceBEq, Int.reduceBNe, mCall, tMay_spec t hs, h1]
  · skip
    cases h2 : decide (b ≥ 0)
    · simp -implicitDefEqProofs (disch := decide +kernel) only [go_sem, ↓reduceIte, Nat.reduceSub, Nat.reduceAdd, Nat.reduceMul, Nat.reduceBEq, Nat.reduceLT, Nat.reduceLeDiff, Nat.reduceEqDiff, reduceCtorEq, Int.reduceToNat, Int.reduceLE, Int.reduceLT, Int.reduceBEq, Int.reduceBNe, mCall, tMay_spec t hs, h1, h2]
    · skip
      cases h3 : decide (b ≤ 1048576)
      · simp -implicitDefEqProofs (disch := decide +kernel) only [go_sem, ↓reduceIte, Nat.reduceSub, Nat.reduceAdd, Nat.reduceMul, Nat.reduceBEq, Nat.reduceLT, Nat.reduceLeDiff, Nat.reduceEqDiff, reduceCtorEq, Int.reduceToNat, Int.reduceLE, Int.reduceLT, Int.reduceBEq, Int.reduceBNe, mCall, tMay_spec t hs, h1, h2, h3]
      · skip
        cases h4 : decide (f ≥ 0)
        · simp -implicitDefEqProofs (disch := decide +kernel) only [go_sem, ↓reduceIte, Nat.reduceSub, Nat.reduceAdd, Nat.reduceMul, Nat.reduceBEq, Nat.reduceLT, Nat.reduceLeDiff, Nat.reduceEqDiff, reduceCtorEq, Int.reduceToNat, Int.reduceLE, Int.reduceLT, Int.reduceBEq, Int.reduceBNe, mCall, tMay_spec t hs, h1, h2, h3, h4]
        · skip
          cases h5 : decide (f ≤ 1048576)
          · simp -implicitDefEqProofs (disch := decide +kernel) only [go_sem, ↓reduceIte, Nat.reduceSub, Nat.reduceAdd, Nat.reduceMul, Nat.reduceBEq, Nat.reduceLT, Nat.reduceLeDiff, Nat.reduceEqDiff, reduceCtorEq, Int.reduceToNat, Int.reduceLE, Int.reduceLT, Int.reduceBEq, Int.reduceBNe, mCall, tMay_spec t hs, h1, h2, h3, h4, h5]
          · simp -implicitDefEqProofs (disch := decide +kernel) only [go_sem, ↓reduceIte, Nat.reduceSub, Nat.reduceAdd, Nat.reduceMul, Nat.reduceBEq, Nat.reduceLT, Nat.reduceLeDiff, Nat.reduceEqDiff, reduceCtorEq, Int.reduceToNat, Int.reduceLE, Int.reduceLT, Int.reduceBEq, Int.reduceBNe, mCall, tMay_spec t hs, h1, h2, h3, h4, h5]
theorem low_can (f : Int) : ∀ (t : Tm) (n : Int), f ≤ n → n + t.size ≤ 4000000000000000000 → vlowB t = true → canB (fun x m => decide (x ≤ 4503599627370496) && decide (f ≤ m) && decide (m ≤ 4000000000000000000)) t n = true := by
  refine Tm.ind fun t ih n hn hm hl => ?_
  rw [canB_iff]
  refine ⟨fun hk => ?_, fun i hi => ?_⟩
  · have := vle_here hl hk
    simp
    omega
  · have := size_arg (arg_mem hi)
    have := bnd_le t i
    exact ih _ (arg_mem hi) _ (by omega) (by omega) (vle_args hl i hi)
theorem sup_spec [N0] (t : Tm) (hs : t.size < room) (hl : vlowB t = true) (b f : Int) : ∃ h, (lim C).call 12 [dT t, dI b, dI f] [] = some (.ret (nT (if renB t b f then upT t b f else t)), h) := by
  have hr : room = 1099511627776 := rfl
  have hm := smay2_spec t hs b f
  cases h : renB t b f
  · rw [h] at hm
    refine ⟨[], ?_⟩
    rw [ev_fn 12 Try.f12 _ _ _ rfl Try.func12 rfl Try.ntmps12 rfl]
    simp -implicitDefEqProofs (disch := decide +kernel) only [go_sem, ↓reduceIte, Nat.reduceSub, Nat.reduceAdd, Nat.reduceMul, Nat.reduceBEq, Nat.reduceLT, Nat.reduceLeDiff, Nat.reduceEqDiff, reduceCtorEq, Int.reduceToNat, Int.reduceLE, Int.reduceLT, Int.reduceBEq, Int.reduceBNe, mCall, hm, own_spec t hs, nT]
  · rw [h] at hm
    simp only [renB, Bool.and_eq_true, decide_eq_true_eq] at h
    have hc := low_can f t f (Int.le_refl _) (by omega) hl
    obtain ⟨h', hch⟩ := change_spec (g := 25) (by decide +kernel) (rv := .agg [.int .i64 b, .int .i64 f]) (f0 := f) (G := gUp b) (p := fun _ _ => true) (ok := fun x m => decide (x ≤ 4503599627370496) && decide (f ≤ m) && decide (m ≤ 4000000000000000000)) (fun x n hx => by
      simp only [Bool.and_eq_true, decide_eq_true_eq] at hx
      rw [if_pos rfl]
      exact renup_spec b f x n ⟨by omega, by omega⟩ ⟨by omega, by omega⟩ (by omega)) t hs 0 (by omega) (by omega) (by rw [Int.add_zero]; exact hc)
    rw [Int.add_zero, canB_true, if_pos rfl] at hch
    refine ⟨[], ?_⟩
    rw [ev_fn 12 Try.f12 _ _ _ rfl Try.func12 rfl Try.ntmps12 rfl]
    simp -implicitDefEqProofs (disch := decide +kernel) only [go_sem, ↓reduceIte, Nat.reduceSub, Nat.reduceAdd, Nat.reduceMul, Nat.reduceBEq, Nat.reduceLT, Nat.reduceLeDiff, Nat.reduceEqDiff, reduceCtorEq, Int.reduceToNat, Int.reduceLE, Int.reduceLT, Int.reduceBEq, Int.reduceBNe, mCall, hm, hch, nT]
theorem sdn_spec [N0] (t : Tm) (hs : t.size < room) (hl : vlowB t = true) (b f : Int) : ∃ h, (lim C).call 13 [dT t, dI b, dI f] [] = some (.ret (.tup [nT (if renB t b f && dnB t b f then dnT t b f else zT), dB (renB t b f && dnB t b f)]), h) := by
  have hr : room = 1099511627776 := rfl
  have hm := smay2_spec t hs b f
  cases h : renB t b f
  · rw [h] at hm
    refine ⟨[], ?_⟩
    rw [ev_fn 13 Try.f13 _ _ _ rfl Try.func13 rfl Try.ntmps13 rfl]
    simp -implicitDefEqProofs (disch := decide +kernel) only [go_sem, ↓reduceIte, Nat.reduceSub, Nat.reduceAdd, Nat.reduceMul, Nat.reduceBEq, Nat.reduceLT, Nat.reduceLeDiff, Nat.reduceEqDiff, reduceCtorEq, Int.reduceToNat, Int.reduceLE, Int.reduceLT, Int.reduceBEq, Int.reduceBNe, mCall, hm, zT_n, nL, zT_enc]
  · rw [h] at hm
    simp only [renB, Bool.and_eq_true, decide_eq_true_eq] at h
    have hc := low_can f t f (Int.le_refl _) (by omega) hl
    obtain ⟨h', hch⟩ := change_spec (g := 26) (by decide +kernel) (rv := .agg [.int .i64 b, .int .i64 f]) (f0 := f) (G := gDn b) (p := pDn b) (ok := fun x m => decide (x ≤ 4503599627370496) && decide (f ≤ m) && decide (m ≤ 4000000000000000000)) (fun x n hx => by
      simp only [Bool.and_eq_true, decide_eq_true_eq] at hx
      exact rendn_spec b f x n ⟨by omega, by omega⟩ ⟨by omega, by omega⟩ (by omega)) t hs 0 (by omega) (by omega) (by rw [Int.add_zero]; exact hc)
    rw [Int.add_zero] at hch
    refine ⟨[], ?_⟩
    rw [Bool.true_and]
    rw [ev_fn 13 Try.f13 _ _ _ rfl Try.func13 rfl Try.ntmps13 rfl]
    simp -implicitDefEqProofs (disch := decide +kernel) only [go_sem, ↓reduceIte, Nat.reduceSub, Nat.reduceAdd, Nat.reduceMul, Nat.reduceBEq, Nat.reduceLT, Nat.reduceLeDiff, Nat.reduceEqDiff, reduceCtorEq, Int.reduceToNat, Int.reduceLE, Int.reduceLT, Int.reduceBEq, Int.reduceBNe, mCall, hm, hch, nT]
end Go.Proofs.Ytmmhpmfgcenngaa
/- The reference of layer 2: shift. -/
set_option linter.unusedSimpArgs false
set_option linter.unusedVariables false
set_option maxRecDepth 100000
namespace Go.Proofs.Ytmmhpmfgcenngaa
open Go.Proofs
theorem acc_keep (t : Nat) (xs : List Dv) : (acc t xs).kept = acc t xs := by cases xs <;> rfl
theorem acc_drop (t : Nat) (xs : List Dv) : (acc t xs).erase = .d (.slc xs) := by cases xs <;> rfl
def zc3 : List AV := [dI 0, dI 0, .clip []]
theorem outs_map {t : Tm} (g : Int → Int → Int) (n : Int) : outs (fun i => mapT g (t.arg i) (n + bnd t i)) t.args.length = (mapT g t n).args := by rw [mapT_args]; rfl
end Go.Proofs.Ytmmhpmfgcenngaa
/- The laws of layer 2. -/
set_option linter.unusedSimpArgs false
set_option linter.unusedVariables false
set_option maxRecDepth 100000
namespace Go.Proofs.Ytmmhpmfgcenngaa
open Go.Proofs
attribute [go_sem] List.head?_cons
def w1 : Tm := .mk 3 0 [.mk 4 1 []]
def w3 : Tm := .mk 3 0 [.mk 4 3 []]
theorem w1_up0 : upT w1 2 0 = w3 := by simp [w1, w3, upT, mapT, gUp, bnd, Tm.kind, Tm.args, List.range, List.range.loop]
theorem w1_up1 : upT w1 2 1 = w1 := by simp [w1, upT, mapT, gUp, bnd, Tm.kind, Tm.args, List.range, List.range.loop]
theorem w1_dn : dnB w1 1 0 = false := by simp [w1, dnB, canB, pDn, bnd, Tm.kind, Tm.args, allB]
theorem w1_size : w1.size = 2 := by simp [w1, Tm.size]
theorem w1_may : mayB w1 = true := by
  have : w1.depth = 2 := by simp [w1, Tm.depth]
  simp [mayB, w1_size, this]
  simp [w1, nodesB, allB, nodeOk, Tm.kind, Tm.head, Tm.args]
theorem w1_low : vlowB w1 = true := by simp [w1, vlowB, vleB, canB, allB, bnd, Tm.kind, Tm.args]
theorem v_enc (h : Int) : Dv.agg [.int .i64 4, .int .i64 h, .slc []] = enc (.mk 4 h []) := by rw [enc_mk]; rfl
theorem w1_enc : Dv.agg [.int .i64 3, .int .i64 0, .slc [enc (.mk 4 1 [])]] = enc w1 := by simp [w1, enc_mk, encs]
theorem w1_fold : Dv.agg [.int .i64 w1.kind, .int .i64 w1.head, .slc [enc (.mk 4 1 [])]] = enc w1 := w1_enc
theorem awake2_spec [N0] : (lim C).call 10 [] [] = retB true := by
  have hr : room = 1099511627776 := rfl
  have hs : w1.size < room := by rw [w1_size]; omega
  obtain ⟨x1, h1⟩ := sup_spec w1 hs w1_low 2 0
  obtain ⟨x2, h2⟩ := sup_spec w1 hs w1_low 2 1
  obtain ⟨x3, h3⟩ := sdn_spec w1 hs w1_low 1 0
  rw [show renB w1 2 0 = true from by simp [renB, w1_may], if_pos rfl, w1_up0] at h1
  rw [show renB w1 2 1 = true from by simp [renB, w1_may], if_pos rfl, w1_up1] at h2
  rw [w1_dn, Bool.and_false] at h3
  simp only [Bool.false_eq_true, if_false] at h3
  have a1 : encs w1.args = [enc (.mk 4 1 [])] := rfl
  have a3 : encs w3.args = [enc (.mk 4 3 [])] := rfl
  have e1 := v_enc 1
  have e0 : (((1 : Nat) : Int) == 1) = true := rfl
  rw [ev_fn 10 Try.f10 _ _ _ rfl Try.func10 rfl Try.ntmps10 rfl]
  simp -implicitDefEqProofs (disch := decide +kernel) only [go_sem, ↓reduceIte, Nat.reduceSub, Nat.reduceAdd, Nat.reduceMul, Nat.reduceBEq, Nat.reduceLT, Nat.reduceLeDiff, Nat.reduceEqDiff, reduceCtorEq, Int.reduceToNat, Int.reduceLE, Int.reduceLT, Int.reduceBEq, Int.reduceBNe, mCall, e0, e1, w1_enc, w1_fold, h1, h2, h3, a1, a3, nT, mk_head, mk_kind, mk_args]
theorem light_low {t : Tm} {s d : Int} (h : lightB t s d = true) : lowB t = true := by
  unfold lightB at h
  simp only [Bool.and_eq_true] at h
  exact h.1.1
theorem calm_of {c : Int} (hc : c ≤ 4503599627370496) : ∀ (t : Tm) (n : Int), 0 ≤ n → n + t.size ≤ 4000000000000000000 → nodesB t = true → hleB c t = true → ∀ q ∈ pre t n, calm q := by
  refine Tm.ind fun t ih n h1 h2 hn hl => pre_ind ?_ fun i hi p hp => ?_
  · have h3 := node_head (node_here hn)
    rw [hleB_iff] at hl
    have h4 := hl.1
    intro hk
    show _ ∧ _
    constructor <;> simp only <;> omega
  · have h3 := size_arg (arg_mem hi)
    have h4 := bnd_le t i
    rw [hleB_iff] at hl
    exact ih _ (arg_mem hi) (n + bnd t i) (by omega) (by omega) (node_args hn i hi) (hl.2 i hi) p hp
theorem ren_of {t : Tm} {b f : Int} (hm : mayB t = true) (h1 : 0 ≤ b) (h2 : b ≤ 1048576) (h3 : 0 ≤ f) (h4 : f ≤ 1048576) : renB t b f = true := by
  simp [renB, hm, h1, h2, h3, h4]
end Go.Proofs.Ytmmhpmfgcenngaa
/- The law ShiftOwn. -/
set_option linter.unusedSimpArgs false
set_option linter.unusedVariables false
set_option maxRecDepth 100000
namespace Go.Proofs.Ytmmhpmfgcenngaa
open Go.Proofs
noncomputable def sow_S (t u x : Tm) (K0 K1 K2 : Value → Prop) : St := mk 83 [(2, .lref 2 0), (7, dI x.kind), (8, .lref 8 0), (9, .lref 9 0), (67, dB false)] [(2, [dI t.kind, dI t.head, .kn K0 (encs t.args)]), (8, [dI u.kind, dI u.head, .kn K1 (encs u.args)]), (9, [dI t.kind, dI t.head, .kn K2 (encs t.args)])] [] []
theorem sown_pre [N0] {t x y : Tm} {l k : List Tm} {b : Int} (ha : t.args = x :: l) (hs : t.size < room) (h1 : lightB t 3000 60 = true) (h2 : mayB t = true) (hb : 0 ≤ b ∧ b ≤ 1000) {u : Tm} (hu : u = upT t b 0) (hua : u.args = y :: k) (S : Value) :
    (lim C).code 4 (cpre 8 (bodyOf Try.f4)) (mk 83 (unum 0 [oT S t, dI b]) [] [] []) = some (.nor, sow_S t u x (fun V => V = S) newV newV) := by
  have h0 := encs_at0 ha
  have hl0 : ((t.args.length : Int) == 0) = false := by rw [ha]; simp; omega
  have hl1 : ((u.args.length : Int) == 0) = false := by rw [hua]; simp; omega
  have hli := light_spec t 3000 60 hs
  rw [h1] at hli
  have hma := tMay_spec t hs
  rw [h2] at hma
  have g1 : decide (b < 0) = false := by simp; omega
  have g2 : decide (b > 1000) = false := by simp; omega
  have hl := hle_low t (light_low h1)
  have hv : vlowB u = true := by rw [hu]; exact vle_mono (by omega) (hle_vle (hle_up hl hb.1 0))
  have hsu : u.size < room := by rw [hu, mapT_size]; exact hs
  obtain ⟨x1, k1⟩ := sup_spec t hs (vlow_low (light_low h1)) b 0
  rw [if_pos (ren_of h2 hb.1 (by omega) (by omega) (by omega)), ← hu] at k1
  obtain ⟨x2, k2⟩ := sdn_spec u hsu hv b 0
  rw [hu, ren_of (up_may h2 hb.1 0) hb.1 (by omega) (by omega) (by omega), dn_up_can t hb.1, Bool.and_self, if_pos rfl, dn_up t hb.1, ← hu] at k2
  simp -implicitDefEqProofs (disch := decide +kernel) only [cpre, bodyOf, Try.f4, Option.getD_some, go_sem, ↓reduceIte, Nat.reduceSub, Nat.reduceAdd, Nat.reduceMul, Nat.reduceBEq, Nat.reduceLT, Nat.reduceLeDiff, Nat.reduceEqDiff, reduceCtorEq, Int.reduceToNat, Int.reduceLE, Int.reduceLT, Int.reduceBEq, Int.reduceBNe, mCall, oT, nT, sow_S, awake2_spec, hli, hma, g1, g2, k1, k2, h0, hl0, hl1, (enc_eq t).symm, (enc_eq u).symm]
noncomputable def sow_O [N0] : Array Oper := opsOf (cf (cpost 8 (bodyOf Try.f4)))
noncomputable def sow_P [N0] : Array Oper := opsOf (cf (cs (cpost 8 (bodyOf Try.f4))))
theorem sow_code [N0] : cpost 8 (bodyOf Try.f4) = .seq (.region 10 sow_O false) (.seq (.region 11 sow_P false) (cs (cs (cpost 8 (bodyOf Try.f4))))) := by kernel_rfl
theorem sow_store [N0] : ∃ o, sow_O[4]? = some o ∧ o.op = .store 3 (.tmp 71) (.const (.int .i64 99)) ∧ o.dst = none ∧ o.guard = none := ⟨_, rfl, rfl, rfl, rfl⟩
theorem sow_store2 [N0] : ∃ o, sow_P[4]? = some o ∧ o.op = .store 3 (.tmp 75) (.const (.int .i64 99)) ∧ o.dst = none ∧ o.guard = none := ⟨_, rfl, rfl, rfl, rfl⟩
theorem sow_alloc [N0] : allocs (C.esc 4) sow_O = [] := by kernel_rfl
theorem sow_alloc2 [N0] : allocs (C.esc 4) sow_P = [] := by kernel_rfl
theorem sow_size [N0] : sow_O.size = 4 + 1 := by kernel_rfl
theorem sow_size2 [N0] : sow_P.size = 4 + 1 := by kernel_rfl
noncomputable def sow_M (t u x y : Tm) (S Sa Sb : Value) : St := mk 83 [(2, .lref 2 0), (7, dI x.kind), (8, .lref 8 0), (9, .lref 9 0), (67, dB false), (68, .lref 8 2), (69, .kn (fun V => V = Sa) (encs u.args)),
  (70, .kp (fun V => V = Sa) 0 [.int .i64 y.kind, .int .i64 y.head, .slc (encs y.args)]), (71, .kp (fun V => V = Sa) 0 [.int .i64 y.kind, .int .i64 y.head, .slc (encs y.args)])]
  [(2, [dI t.kind, dI t.head, .kn (fun V => V = S) (encs t.args)]), (8, [dI u.kind, dI u.head, .kn (fun V => V = Sa) (encs u.args)]), (9, [dI t.kind, dI t.head, .kn (fun V => V = Sb) (encs t.args)])] [] []
theorem sown_mid [N0] {t u x y : Tm} {k : List Tm} (hua : u.args = y :: k) (S Sa Sb : Value) :
    runO C (lim C) (C.esc 4) sow_O (List.range 4) (sow_S t u x (fun V => V = S) (fun V => V = Sa) (fun V => V = Sb)) = some (.nor, sow_M t u x y S Sa Sb) := by
  have h0 := encs_at0 hua
  simp -implicitDefEqProofs (disch := decide +kernel) only [sow_O, opsOf, cf, cs, cpost, bodyOf, Try.f4, Option.getD_some, go_sem, ↓reduceIte, Nat.reduceSub, Nat.reduceAdd, Nat.reduceMul, Nat.reduceBEq, Nat.reduceLT, Nat.reduceLeDiff, Nat.reduceEqDiff, reduceCtorEq, Int.reduceToNat, Int.reduceLE, Int.reduceLT, Int.reduceBEq, Int.reduceBNe, mCall, sow_S, sow_M, h0]
noncomputable def sow_E (t x : Tm) (S Sb : Value) (m : List Tm) : St := mk 83 [(2, .lref 2 0), (7, dI x.kind), (9, .lref 9 0)] [(2, [dI t.kind, dI t.head, .kn (fun V => V = S) (encs t.args)]), (9, [dI t.kind, dI t.head, .kn (fun V => V = Sb) (encs m)])] [] []
noncomputable def sow_N (t x z : Tm) (m : List Tm) (S Sb : Value) : St := mk 83 [(2, .lref 2 0), (7, dI x.kind), (9, .lref 9 0), (72, .lref 9 2), (73, .kn (fun V => V = Sb) (encs (z :: m))),
  (74, .kp (fun V => V = Sb) 0 [.int .i64 z.kind, .int .i64 z.head, .slc (encs z.args)]), (75, .kp (fun V => V = Sb) 0 [.int .i64 z.kind, .int .i64 z.head, .slc (encs z.args)])]
  [(2, [dI t.kind, dI t.head, .kn (fun V => V = S) (encs t.args)]), (9, [dI t.kind, dI t.head, .kn (fun V => V = Sb) (encs (z :: m))])] [] []
theorem sown_mid2 [N0] {t x z : Tm} {m : List Tm} (S Sb : Value) :
    runO C (lim C) (C.esc 4) sow_P (List.range 4) (sow_E t x S Sb (z :: m)) = some (.nor, sow_N t x z m S Sb) := by
  have h0 : (encs (z :: m))[0]? = some (enc z) := rfl
  simp -implicitDefEqProofs (disch := decide +kernel) only [sow_P, opsOf, cf, cs, cpost, bodyOf, Try.f4, Option.getD_some, go_sem, ↓reduceIte, Nat.reduceSub, Nat.reduceAdd, Nat.reduceMul, Nat.reduceBEq, Nat.reduceLT, Nat.reduceLeDiff, Nat.reduceEqDiff, reduceCtorEq, Int.reduceToNat, Int.reduceLE, Int.reduceLT, Int.reduceBEq, Int.reduceBNe, mCall, sow_E, sow_N, h0]
noncomputable def sow_Z (t x : Tm) (S : Value) : St := mk 83 [(2, .lref 2 0), (7, dI x.kind)] [(2, [dI t.kind, dI t.head, .kn (fun V => V = S) (encs t.args)])] [] []
theorem sown_end [N0] {t x : Tm} {l : List Tm} (ha : t.args = x :: l) (S : Value) :
    (lim C).code 4 (cs (cs (cpost 8 (bodyOf Try.f4)))) (sow_Z t x S) = some (.ret, mk 83 [(4, dB true)] [] [] []) := by
  have h0 := encs_at0 ha
  simp -implicitDefEqProofs (disch := decide +kernel) only [cs, cpost, bodyOf, Try.f4, Option.getD_some, go_sem, ↓reduceIte, Nat.reduceSub, Nat.reduceAdd, Nat.reduceMul, Nat.reduceBEq, Nat.reduceLT, Nat.reduceLeDiff, Nat.reduceEqDiff, reduceCtorEq, Int.reduceToNat, Int.reduceLE, Int.reduceLT, Int.reduceBEq, Int.reduceBNe, mCall, sow_Z, h0, (enc_eq t).symm]
section
variable {w : World}
/-- A store of a number behind the rest of a region. -/
theorem want_none {o : Oper} (h : o.guard = none) (ops : Array Oper) (a : Act) : Region.wanted o (yielded ops a.tmps) = true := by unfold Region.wanted; rw [h]
set_option maxHeartbeats 1000000 in
theorem sown_hand [N0] (hn : N0.n0 = w.heap.size) {t x y : Tm} {l k : List Tm} {b : Int} (ha : t.args = x :: l) (hs : t.size < room) (h1 : lightB t 3000 60 = true) (h2 : mayB t = true) (hb : 0 ≤ b ∧ b ≤ 1000) {u : Tm} (hu : u = upT t b 0) (hua : u.args = y :: k)
    {S : Value} (hS : rep w.heap (fun _ _ => False) (.slc (encs t.args)) S) :
    Calls C.P 4 ([Value.agg #[.int .i64 t.kind, .int .i64 t.head, S], .int .i64 b] : List Value).toArray w fun e w' => e = .returned (.bool true) ∧ Io w w' ∧ w.heap.size ≤ w'.heap.size ∧ ∀ k, k < w.heap.size → w'.heap[k]? = w.heap[k]? := by
  have hS1 : S.oneCell' = true := (rep_one hS (by simp)).1
  refine hand_calls fine (fn := Try.f4) (c := bodyOf Try.f4) Try.func4 rfl (args := [oT S t, dI b]) hn rfl ?_ fun G a hta fr => ?_
  · refine ⟨_, _, rfl, ?_, _, [], rfl, by simp [ar, rep], rfl⟩
    unfold oT
    simp only [ar]
    refine ⟨[.int .i64 t.kind, .int .i64 t.head, S], rfl, rfl, ⟨_, _, rfl, by simp [ar, rep], _, _, rfl, by simp [ar, rep], _, _, rfl, by simp only [ar]; exact ⟨hS, trivial⟩, rfl⟩, ?_⟩
    intro U hU
    simp only [List.mem_cons, List.not_mem_nil, or_false] at hU
    rcases hU with rfl | rfl | rfl
    · rfl
    · rfl
    · exact hS1
  rw [entry_mk Try.f4 [oT S t, dI b] [] Try.ntmps4 rfl] at fr
  refine cpre_wp fine 8 _ (sown_pre ha hs h1 h2 hb hu hua S) fr fun a1 w1 dm1 G1 io1 f1 => ?_
  obtain ⟨b8, Vs8, T8, i1, i2, i3, i4, i5⟩ := f1.fl.lc 8 _ rfl
  simp only [ars, ar] at i3
  obtain ⟨I1, Is1, rfl, j1, I2, Is2, rfl, j2, Sa, Is3, rfl, ⟨j3, j4⟩, rfl⟩ := i3
  obtain ⟨b9, Vs9, T9, k1, k2, k3, k4, k5⟩ := f1.fl.lc 9 _ rfl
  simp only [ars, ar] at k3
  obtain ⟨V1, Vs1, rfl, q1, V2, Vs2, rfl, q2, Sb, Vs3, rfl, ⟨q3, q4⟩, rfl⟩ := k3
  have f1' : FR (ent0 w.heap) dm1 G1 (sow_S t u x (fun V => V = S) (fun V => V = Sa) (fun V => V = Sb)) a1 w1.heap := by
    refine ⟨f1.ft, ⟨f1.fl.ll, fun p cs hp => ?_⟩, f1.fk, f1.hr, f1.ow, f1.ev, f1.df⟩
    simp only [sow_S, mk, ll_get] at hp
    split at hp
    · simp only [lookL, Option.some.injEq] at hp
      split at hp
      · rename_i e
        subst e
        exact f1.fl.lc 2 cs (by rw [← hp]; rfl)
      · split at hp
        · rename_i e
          subst e
          cases hp
          exact ⟨b8, _, T8, i1, i2, ⟨I1, _, rfl, by simpa only [ar] using j1, I2, _, rfl, by simpa only [ar] using j2, Sa, _, rfl, by simp only [ar]; exact ⟨j3, trivial⟩, rfl⟩, rfl, i5⟩
        · split at hp
          · rename_i e
            subst e
            cases hp
            exact ⟨b9, _, T9, k1, k2, ⟨V1, _, rfl, by simpa only [ar] using q1, V2, _, rfl, by simpa only [ar] using q2, Sb, _, rfl, by simp only [ar]; exact ⟨q3, trivial⟩, rfl⟩, rfl, k5⟩
          · cases hp
    · cases hp
  rw [sow_code]
  obtain ⟨o, o1, o2, o3, o4⟩ := sow_store
  refine wpIn_seq (region_hand (lim_sound fine) f1' sow_size sow_alloc (sown_mid hua S Sa Sb) fun a2 w2 dm2 G2 io2 f2 => ?_)
  simp only [wpOpsIn, o1]
  rw [if_pos (want_none o4 _ _)]
  have e71 := f2.ft.opv (.tmp 71)
  have h71 : opv (sow_M t u x y S Sa Sb).tmps (.tmp 71) = .kp (fun V => V = Sa) 0 [.int .i64 y.kind, .int .i64 y.head, .slc (encs y.args)] := rfl
  rw [h71] at e71
  obtain ⟨bb, off, c, T, s⟩ := f2.spot hn e71 j4
  obtain ⟨c', p⟩ := poked_row s 99
  have e99 : a2.eval (.const (.int .i64 99)) = .int .i64 99 := rfl
  refine store_wp o2 tsz_3 s.ptr (by rw [e99]; rfl) s.obj s.lt ?_
  rw [e99, o3]
  generalize hw3 : w2.setRow bb (List.take off c.toList ++ [Value.int IntKind.i64 99] ++ List.drop (off + 1) c.toList).toArray = w3 at p ⊢
  have io3 : Io w2 w3 := by rw [← hw3]; exact ⟨rfl, rfl⟩
  obtain ⟨b9', Vs9', T9', r1, r2, r3, r4, r5⟩ := f2.fl.lc 9 _ rfl
  simp only [ars, ar] at r3
  obtain ⟨U1, Us1, rfl, g1, U2, Us2, rfl, g2, U3, Us3, rfl, ⟨g3, rfl⟩, rfl⟩ := r3
  obtain ⟨yy, y1, y2⟩ := rep_patch (p.turns s.cel) _ _ g3
  simp only [sh] at y1
  obtain ⟨ys, rfl, y3⟩ := y1
  obtain ⟨m, rfl, m1, m2⟩ := shs_terms _ _ y3
  obtain ⟨z, m', rfl⟩ : ∃ z m', m = z :: m' := by
    cases m with
    | nil => rw [ha] at m1; simp at m1
    | cons z m' => exact ⟨z, m', rfl⟩
  have old := p.old s f2
  have f3 : FR (ent0 w.heap) dm2 G2 (sow_E t x S U3 (z :: m')) a2 w3.heap := by
    refine fr_poked f2 s p (fun kv hkv => ?_) (fun q cs hq hl => ?_)
    · simp only [List.mem_cons, List.not_mem_nil, or_false] at hkv
      rcases hkv with rfl | rfl | rfl <;> exact ⟨rfl, rfl⟩
    · simp only [lookL] at hl
      split at hl
      · rename_i e
        subst e
        cases hl
        refine ⟨rfl, _, rfl, fun Vs hv => ?_⟩
        simp only [ars, ar] at hv ⊢
        obtain ⟨A1, As1, rfl, a1', A2, As2, rfl, a2', A3, As3, rfl, ⟨a3', rfl⟩, rfl⟩ := hv
        exact ⟨A1, _, rfl, a1', A2, _, rfl, a2', A3, _, rfl, ⟨rep_stay old _ _ hS, rfl⟩, rfl⟩
      · split at hl
        · rename_i e
          subst e
          cases hl
          refine ⟨rfl, _, rfl, fun Vs hv => ?_⟩
          simp only [ars, ar] at hv ⊢
          obtain ⟨A1, As1, rfl, a1', A2, As2, rfl, a2', A3, As3, rfl, ⟨a3', rfl⟩, rfl⟩ := hv
          exact ⟨A1, _, rfl, a1', A2, _, rfl, a2', A3, _, rfl, ⟨y2, rfl⟩, rfl⟩
        · cases hl
  -- the other store
  obtain ⟨o', o1', o2', o3', o4'⟩ := sow_store2
  refine wpIn_seq (region_hand (lim_sound fine) f3 sow_size2 sow_alloc2 (sown_mid2 S U3) fun a4 w4 dm4 G4 io4 f4 => ?_)
  simp only [wpOpsIn, o1']
  rw [if_pos (want_none o4' _ _)]
  have e75 := f4.ft.opv (.tmp 75)
  have h75 : opv (sow_N t x z m' S U3).tmps (.tmp 75) = .kp (fun V => V = U3) 0 [.int .i64 z.kind, .int .i64 z.head, .slc (encs z.args)] := rfl
  rw [h75] at e75
  obtain ⟨bb', off', c2, T2, s2⟩ := f4.spot hn e75 q4
  obtain ⟨c2', p2⟩ := poked_row s2 99
  have e99' : a4.eval (.const (.int .i64 99)) = .int .i64 99 := rfl
  refine store_wp o2' tsz_3 s2.ptr (by rw [e99']; rfl) s2.obj s2.lt ?_
  rw [e99', o3']
  generalize hw5 : w4.setRow bb' (List.take off' c2.toList ++ [Value.int IntKind.i64 99] ++ List.drop (off' + 1) c2.toList).toArray = w5 at p2 ⊢
  have io5 : Io w4 w5 := by rw [← hw5]; exact ⟨rfl, rfl⟩
  have old2 := p2.old s2 f4
  have f5 : FR (ent0 w.heap) dm4 G4 (sow_Z t x S) a4 w5.heap := by
    refine fr_poked f4 s2 p2 (fun kv hkv => ?_) (fun q cs hq hl => ?_)
    · simp only [List.mem_cons, List.not_mem_nil, or_false] at hkv
      rcases hkv with rfl | rfl <;> exact ⟨rfl, rfl⟩
    · simp only [lookL] at hl
      split at hl
      · rename_i e
        subst e
        cases hl
        refine ⟨rfl, _, rfl, fun Vs hv => ?_⟩
        simp only [ars, ar] at hv ⊢
        obtain ⟨A1, As1, rfl, a1', A2, As2, rfl, a2', A3, As3, rfl, ⟨a3', rfl⟩, rfl⟩ := hv
        exact ⟨A1, _, rfl, a1', A2, _, rfl, a2', A3, _, rfl, ⟨rep_stay old2 _ _ hS, rfl⟩, rfl⟩
      · cases hl
  refine wpIn_mono ((lim_sound fine).code none _ _ _ _ _ (sown_end ha S) (.inl rfl) _ _ _ _ _ f5) fun e a6 w6 q => ⟨_, [], q.mono ((((io1.trans io2).trans io3).trans io4).trans io5), rfl⟩
theorem sown_else [N0] {t : Tm} (hs : t.size < room) (b : Int) (h : lightB t 3000 60 = false ∨ mayB t = false ∨ t.args = [] ∨ b < 0 ∨ b > 1000) : ∃ hp, (lim C).call 4 [dT t, dI b] [] = some (.ret (dB true), hp) := by
  have hli := light_spec t 3000 60 hs
  have hma := tMay_spec t hs
  refine ⟨[], ?_⟩
  rw [ev_fn 4 Try.f4 _ _ _ rfl Try.func4 rfl Try.ntmps4 rfl]
  cases h1 : lightB t 3000 60
  · rw [h1] at hli
    simp -implicitDefEqProofs (disch := decide +kernel) only [go_sem, ↓reduceIte, Nat.reduceSub, Nat.reduceAdd, Nat.reduceMul, Nat.reduceBEq, Nat.reduceLT, Nat.reduceLeDiff, Nat.reduceEqDiff, reduceCtorEq, Int.reduceToNat, Int.reduceLE, Int.reduceLT, Int.reduceBEq, Int.reduceBNe, mCall, awake2_spec, hli]
  · rw [h1] at hli h
    cases h2 : mayB t
    · rw [h2] at hma
      simp -implicitDefEqProofs (disch := decide +kernel) only [go_sem, ↓reduceIte, Nat.reduceSub, Nat.reduceAdd, Nat.reduceMul, Nat.reduceBEq, Nat.reduceLT, Nat.reduceLeDiff, Nat.reduceEqDiff, reduceCtorEq, Int.reduceToNat, Int.reduceLE, Int.reduceLT, Int.reduceBEq, Int.reduceBNe, mCall, awake2_spec, hli, hma]
    · rw [h2] at hma h
      cases h3 : ((t.args.length : Int) == 0)
      · have hne : t.args ≠ [] := fun e => by rw [e] at h3; simp at h3
        have h' : b < 0 ∨ b > 1000 := by simpa [hne] using h
        cases h4 : decide (b < 0)
        · have h5 : decide (b > 1000) = true := by simp at h4; simp; omega
          simp -implicitDefEqProofs (disch := decide +kernel) only [go_sem, ↓reduceIte, Nat.reduceSub, Nat.reduceAdd, Nat.reduceMul, Nat.reduceBEq, Nat.reduceLT, Nat.reduceLeDiff, Nat.reduceEqDiff, reduceCtorEq, Int.reduceToNat, Int.reduceLE, Int.reduceLT, Int.reduceBEq, Int.reduceBNe, mCall, awake2_spec, hli, hma, h3, h4, h5]
        · simp -implicitDefEqProofs (disch := decide +kernel) only [go_sem, ↓reduceIte, Nat.reduceSub, Nat.reduceAdd, Nat.reduceMul, Nat.reduceBEq, Nat.reduceLT, Nat.reduceLeDiff, Nat.reduceEqDiff, reduceCtorEq, Int.reduceToNat, Int.reduceLE, Int.reduceLT, Int.reduceBEq, Int.reduceBNe, mCall, awake2_spec, hli, hma, h3, h4]
      · simp -implicitDefEqProofs (disch := decide +kernel) only [go_sem, ↓reduceIte, Nat.reduceSub, Nat.reduceAdd, Nat.reduceMul, Nat.reduceBEq, Nat.reduceLT, Nat.reduceLeDiff, Nat.reduceEqDiff, reduceCtorEq, Int.reduceToNat, Int.reduceLE, Int.reduceLT, Int.reduceBEq, Int.reduceBNe, mCall, awake2_spec, hli, hma, h3]
theorem shiftOwn_calls [N0] (hn : N0.n0 = w.heap.size) {t : Tm} (hw : Wf t) (hs : t.size ≤ 1048576) {b : Int} {v v2 : Value} (hv : rep w.heap (fun _ _ => False) (enc t) v) (hv2 : rep w.heap (fun _ _ => False) (.int .i64 b) v2) :
    Calls C.P 4 #[v, v2] w fun e w' => e = .returned (.bool true) ∧ Io w w' ∧ w.heap.size ≤ w'.heap.size ∧ ∀ k, k < w.heap.size → w'.heap[k]? = w.heap[k]? := by
  have hr : room = 1099511627776 := rfl
  by_cases h : lightB t 3000 60 = false ∨ mayB t = false ∨ t.args = [] ∨ b < 0 ∨ b > 1000
  · obtain ⟨hp, hl⟩ := sown_else (by omega) b h
    exact lim_true fine hn hl rfl (As := [v, v2]) ⟨v, _, rfl, hv, v2, [], rfl, hv2, rfl⟩
  · simp only [not_or, Bool.not_eq_false] at h
    obtain ⟨g1, g2, g3, g4, g5⟩ := h
    obtain ⟨x, l, ha⟩ : ∃ x l, t.args = x :: l := by
      cases ht : t.args with
      | nil => exact absurd ht g3
      | cons x l => exact ⟨x, l, rfl⟩
    obtain ⟨y, k, hua⟩ : ∃ y k, (upT t b 0).args = y :: k := by
      have hlen : (upT t b 0).args.length = t.args.length := mapT_len _ _ _
      cases hu : (upT t b 0).args with
      | nil => rw [hu, ha] at hlen; simp at hlen
      | cons y k => exact ⟨y, k, rfl⟩
    rw [enc_eq] at hv
    simp only [rep, reps] at hv hv2
    obtain ⟨Vs, rfl, V1, Vs1, rfl, rfl, _, V2, Vs2, rfl, rfl, _, S, Vs3, rfl, hS, _, rfl⟩ := hv
    subst hv2
    exact sown_hand hn ha (by omega) g1 g2 ⟨by omega, by omega⟩ rfl hua (by simp only [rep]; exact hS)
end
end Go.Proofs.Ytmmhpmfgcenngaa
