/- The package shift. -/
import Derived.Test.YtkmpfdecjmnccaaGreatB1
import Derived.Test.YtkmpfdecjmnccaaGreatKE
import Derived.Test.YtkmpfdecjmnccaaGreatRows
set_option linter.unusedSimpArgs false
set_option linter.unusedVariables false
set_option maxRecDepth 100000
namespace Go.Proofs.YtkmpfdecjmnccaaGreat
open Go.Proofs
def zT : Tm := .mk 0 0 []
theorem zT_enc : Dv.agg [.int .i64 0, .int .i64 0, .slc []] = enc zT := by unfold zT; rw [enc_mk]; rfl
theorem tm_enc (k h : Int) (l : List Tm) : Dv.agg [.int .i64 k, .int .i64 h, .slc (encs l)] = enc (.mk k h l) := by rw [enc_mk]
def Does (g : Nat) (caps : List AV) (h : List HO) (l : List Tm) (F : Nat → Tm) (P : Nat → Bool) : Prop :=
  ∀ i, i < l.length → ∀ (locs : List (Option (List AV))) (toks : List (Option Nat)), mCall C (lim C) g (dI i :: dT (l.getD i default) :: caps) { locs := locs, heap := h, toks := toks } = some (.v (.tup [dT (F i), dB (P i)]), { locs := locs, heap := h, toks := toks })
def outs (F : Nat → Tm) (n : Nat) : List Tm := (List.range n).map F
def each_S (l : List Tm) (g : Nat) (caps : List AV) (h : List HO) (F : Nat → Tm) (i : Nat) : St := mk 33 [(1, .fn g [] caps), (6, acc 0 (encs (outs F i))), (11, dL l), (12, dI l.length), (13, dI i)] [] h (accT i)
theorem each_step {l : List Tm} {g : Nat} {caps : List AV} {h : List HO} {F : Nat → Tm} {P : Nat → Bool} (hd : Does g caps h l F P) (hl : l.length < room) {i : Nat} (hi : i < l.length) (hp : P i = true) :
    (lim C).code 119 (cf (.loop (cf (cf (cs (cf (cs (cs (bodyOf Tryz.f119))))))))) (each_S l g caps h F i) = some (.nor, each_S l g caps h F (i + 1)) := by
  have hr : room = 1099511627776 := rfl
  have hc := hd i hi
  rw [hp] at hc
  have hln : (encs (outs F i)).length = i := by simp [encs, outs]
  have hap := fun locs heap => mApp_acc (encs (outs F i)) (enc (F i)) 3 locs heap (by rw [hln]; omega) (encs_all _) (enc_width _)
  have hsn : encs (outs F i) ++ [enc (F i)] = encs (outs F (i + 1)) := by unfold outs; rw [List.range_succ, List.map_append, encs_append]; rfl
  rw [hln, hsn] at hap
  simp -implicitDefEqProofs (disch := decide +kernel) only [cf, cs, bodyOf, Tryz.f119, Option.getD_some, go_sem, ↓reduceIte, Nat.reduceSub, Nat.reduceAdd, Nat.reduceMul, Nat.reduceBEq, Nat.reduceLT, Nat.reduceLeDiff, Nat.reduceEqDiff, reduceCtorEq, Int.reduceToNat, Int.reduceLE, Int.reduceLT, Int.reduceBEq, Int.reduceBNe, each_S, lt_true hi, getD_get hi, hc, hap, wrap_succ (n := i) (by omega)]
theorem each_spec {l : List Tm} {g : Nat} {caps : List AV} {h : List HO} {F : Nat → Tm} {P : Nat → Bool} (hd : Does g caps h l F P) (hl : l.length < room) (hc1 : okL caps = true) (hc2 : eraseL caps = caps) :
    (lim C).call 119 [dL l, .fn g [] caps] h = some (.ret (.tup [dL (if allB l.length P then outs F l.length else []), dB (allB l.length P)]), h) := by
  have hr : room = 1099511627776 := rfl
  rw [ev_fn 119 Tryz.f119 _ _ _ rfl Tryz.func119 rfl Tryz.ntmps119 rfl]
  simp -implicitDefEqProofs (disch := decide +kernel) only [go_sem, ↓reduceIte, Nat.reduceSub, Nat.reduceAdd, Nat.reduceMul, Nat.reduceBEq, Nat.reduceLT, Nat.reduceLeDiff, Nat.reduceEqDiff, reduceCtorEq, Int.reduceToNat, Int.reduceLE, Int.reduceLT, Int.reduceBEq, Int.reduceBNe, hc1, hc2]
  by_cases hall : allB l.length P = true
  · have hloop : (lim C).code 119 (.loop (cf (cf (cs (cf (cs (cs (bodyOf Tryz.f119)))))))) (each_S l g caps h F 0) = some (.exit 0, mk 33 [(1, .fn g [] caps), (6, acc 0 (encs (outs F l.length))), (11, dL l), (12, dI l.length), (13, dI l.length), (14, dB false)] [] h (accT l.length)) := by
      refine loop_run (each_S l g caps h F) l.length (fun i hi => each_step hd hl hi ((allB_iff _ _).1 hall i hi)) ?_ (by simp)
      simp -implicitDefEqProofs (disch := decide +kernel) only [cf, cs, bodyOf, Tryz.f119, Option.getD_some, go_sem, ↓reduceIte, Nat.reduceSub, Nat.reduceAdd, Nat.reduceMul, Nat.reduceBEq, Nat.reduceLT, Nat.reduceLeDiff, Nat.reduceEqDiff, reduceCtorEq, Int.reduceToNat, Int.reduceLE, Int.reduceLT, Int.reduceBEq, Int.reduceBNe, each_S, lt_false (Nat.le_refl l.length)]
    rw [loop_at hloop ?hb ?hs]
    case hb => rfl
    case hs => rfl
    have he : (acc 0 (encs (outs F l.length))).erase = .d (.slc (encs (outs F l.length))) := by cases encs (outs F l.length) <;> rfl
    simp -implicitDefEqProofs (disch := decide +kernel) only [go_sem, ↓reduceIte, Nat.reduceSub, Nat.reduceAdd, Nat.reduceMul, Nat.reduceBEq, Nat.reduceLT, Nat.reduceLeDiff, Nat.reduceEqDiff, reduceCtorEq, Int.reduceToNat, Int.reduceLE, Int.reduceLT, Int.reduceBEq, Int.reduceBNe, hall, he]
  · obtain ⟨j, hj, hp, hb⟩ := allB_first l.length P (by simpa using hall)
    have hloop : (lim C).code 119 (.loop (cf (cf (cs (cf (cs (cs (bodyOf Tryz.f119)))))))) (each_S l g caps h F 0) = some (.ret, mk 33 [(4, .clip []), (5, dB false)] [] h (accT j)) := by
      refine loop_run (each_S l g caps h F) j (fun i hi => each_step hd hl (by omega) (hb i hi)) ?_ (by simp)
      have hc := hd j hj
      rw [hp] at hc
      simp -implicitDefEqProofs (disch := decide +kernel) only [cf, cs, bodyOf, Tryz.f119, Option.getD_some, go_sem, ↓reduceIte, Nat.reduceSub, Nat.reduceAdd, Nat.reduceMul, Nat.reduceBEq, Nat.reduceLT, Nat.reduceLeDiff, Nat.reduceEqDiff, reduceCtorEq, Int.reduceToNat, Int.reduceLE, Int.reduceLT, Int.reduceBEq, Int.reduceBNe, each_S, lt_true hj, getD_get hj, hc]
    rw [loop_at hloop ?hb ?hs]
    case hb => rfl
    case hs => rfl
    have hf : allB l.length P = false := by simpa using hall
    simp -implicitDefEqProofs (disch := decide +kernel) only [go_sem, ↓reduceIte, Nat.reduceSub, Nat.reduceAdd, Nat.reduceMul, Nat.reduceBEq, Nat.reduceLT, Nat.reduceLeDiff, Nat.reduceEqDiff, reduceCtorEq, Int.reduceToNat, Int.reduceLE, Int.reduceLT, Int.reduceBEq, Int.reduceBNe, hf]
    simp [encs]
def chg_H (t : Tm) (n : Int) (o : AV) : List HO := [.var 0 (cel3 t), .var 0 [dI n], .var 0 [o]]
theorem chg1_spec {t : Tm} {n : Int} {i : Nat} {x u : Tm} {b : Bool} {g : Nat} {rv : Dv} {h : List HO} (hi : i < t.args.length) (hn : 0 ≤ n ∧ n + t.size < 4000000000000000000) (hs : t.size < room)
    (hrec : (lim C).call 108 [dT x, dI (n + bnd t i), .fn g [.d rv] []] [] = some (.ret (.tup [dT u, dB b]), h)) :
    (lim C).call 120 [dI i, dT x, .href 1 0, .href 0 0, .href 2 0] (chg_H t n (.fn g [.d rv] [])) = some (.ret (.tup [dT u, dB b]), chg_H t n (.fn g [.d rv] [])) := by
  have hr : room = 1099511627776 := rfl
  have hl := len_size t
  have hw1 : IntKind.wrap .i64 ((t.args.length : Int) - 1) = (t.args.length : Int) - 1 := wrap_ok (by omega) (by omega)
  have hw2 : IntKind.wrap .i64 (n + 1) = n + 1 := wrap_ok (by omega) (by omega)
  rw [ev_fn 120 Tryz.f120 _ _ _ rfl Tryz.func120 rfl Tryz.ntmps120 rfl]
  cases k1 : (t.kind == 1)
  · cases k3 : (t.kind == 3)
    · have hb : bindsB t = false := by simp [bindsB, k1, k3]
      rw [bindsB_no hb, Int.natCast_zero, Int.add_zero] at hrec
      simp -implicitDefEqProofs (disch := decide +kernel) only [go_sem, ↓reduceIte, Nat.reduceSub, Nat.reduceAdd, Nat.reduceMul, Nat.reduceBEq, Nat.reduceLT, Nat.reduceLeDiff, Nat.reduceEqDiff, reduceCtorEq, Int.reduceToNat, Int.reduceLE, Int.reduceLT, Int.reduceBEq, Int.reduceBNe, mCall, chg_H, cel3, k1, k3, hrec]
    · have hb : bindsB t = true := by simp [bindsB, k1, k3]
      cases he : ((i : Int) == (t.args.length : Int) - 1)
      · rw [bindsB_not he, Int.natCast_zero, Int.add_zero] at hrec
        simp -implicitDefEqProofs (disch := decide +kernel) only [go_sem, ↓reduceIte, Nat.reduceSub, Nat.reduceAdd, Nat.reduceMul, Nat.reduceBEq, Nat.reduceLT, Nat.reduceLeDiff, Nat.reduceEqDiff, reduceCtorEq, Int.reduceToNat, Int.reduceLE, Int.reduceLT, Int.reduceBEq, Int.reduceBNe, mCall, chg_H, cel3, k1, k3, hw1, he, hrec]
      · rw [bindsB_bnd hb he] at hrec
        have hrec : _ = _ := hrec
        rw [Int.natCast_one] at hrec
        simp -implicitDefEqProofs (disch := decide +kernel) only [go_sem, ↓reduceIte, Nat.reduceSub, Nat.reduceAdd, Nat.reduceMul, Nat.reduceBEq, Nat.reduceLT, Nat.reduceLeDiff, Nat.reduceEqDiff, reduceCtorEq, Int.reduceToNat, Int.reduceLE, Int.reduceLT, Int.reduceBEq, Int.reduceBNe, mCall, chg_H, cel3, k1, k3, hw1, hw2, he, hrec]
  · have hb : bindsB t = true := by simp [bindsB, k1]
    cases he : ((i : Int) == (t.args.length : Int) - 1)
    · rw [bindsB_not he, Int.natCast_zero, Int.add_zero] at hrec
      simp -implicitDefEqProofs (disch := decide +kernel) only [go_sem, ↓reduceIte, Nat.reduceSub, Nat.reduceAdd, Nat.reduceMul, Nat.reduceBEq, Nat.reduceLT, Nat.reduceLeDiff, Nat.reduceEqDiff, reduceCtorEq, Int.reduceToNat, Int.reduceLE, Int.reduceLT, Int.reduceBEq, Int.reduceBNe, mCall, chg_H, cel3, k1, hw1, he, hrec]
    · rw [bindsB_bnd hb he] at hrec
      have hrec : _ = _ := hrec
      rw [Int.natCast_one] at hrec
      simp -implicitDefEqProofs (disch := decide +kernel) only [go_sem, ↓reduceIte, Nat.reduceSub, Nat.reduceAdd, Nat.reduceMul, Nat.reduceBEq, Nat.reduceLT, Nat.reduceLeDiff, Nat.reduceEqDiff, reduceCtorEq, Int.reduceToNat, Int.reduceLE, Int.reduceLT, Int.reduceBEq, Int.reduceBNe, mCall, chg_H, cel3, k1, hw1, hw2, he, hrec]
theorem canB_false {p : Int → Int → Bool} {t : Tm} {n : Int} (hk : t.kind = 4) (h : p t.head n = false) : canB p t n = false := by
  rw [canB_eq, h]; simp [hk]
theorem change_spec {g : Nat} (hg : C.thr.contains g = false) {rv : Dv} {f0 : Int} {G : Int → Int → Int} {p ok : Int → Int → Bool} (hof : ∀ x n, ok x (f0 + n) = true → (lim C).call g [.d rv, dI x, dI n] [] = some (.ret (.tup [dI (if p x (f0 + n) then G x (f0 + n) else 0), dB (p x (f0 + n))]), [])) :
    ∀ t : Tm, t.size < room → ∀ n : Int, 0 ≤ n → n + t.size < 4000000000000000000 → canB ok t (f0 + n) = true →
      ∃ h, (lim C).call 108 [dT t, dI n, .fn g [.d rv] []] [] = some (.ret (.tup [dT (if canB p t (f0 + n) then mapT G t (f0 + n) else zT), dB (canB p t (f0 + n))]), h) := by
  refine Tm.ind fun t ih hs n hn1 hn2 hok => ?_
  have hr : room = 1099511627776 := rfl
  have hl := len_size t
  rw [canB_iff] at hok
  have hdo : Does 120 [.href 1 0, .href 0 0, .href 2 0] (chg_H t n (.fn g [.d rv] [])) t.args (fun i => if canB p (t.arg i) (f0 + (n + bnd t i)) then mapT G (t.arg i) (f0 + (n + bnd t i)) else zT) (fun i => canB p (t.arg i) (f0 + (n + bnd t i))) := by
    intro i hi locs toks
    have hsz := size_arg (arg_mem hi)
    have hbl := bnd_le t i
    obtain ⟨h, hrec⟩ := ih _ (arg_mem hi) (by omega) (n + bnd t i) (by omega) (by omega) (by rw [← Int.add_assoc]; exact hok.2 i hi)
    have h1 := chg1_spec hi ⟨hn1, hn2⟩ hs hrec
    simp only [mCall, callsPure, pureL, AV.pure, okL, AV.okA, C_thr, eraseL, AV.erase, Bool.and_true, Bool.true_and, Bool.and_false, Bool.false_and, Bool.false_eq_true, if_false, if_true, Option.bind_some, heapRes_ret, show t.args.getD i default = t.arg i from rfl, h1]
  have hall : (allB t.args.length fun i => canB p (t.arg i) (f0 + (n + bnd t i))) = allB t.args.length fun i => canB p (t.arg i) (f0 + n + bnd t i) := allB_congr fun i _ => by rw [Int.add_assoc]
  have hea := each_spec hdo (by omega) rfl rfl
  rw [hall] at hea
  have hout : (allB t.args.length fun i => canB p (t.arg i) (f0 + n + bnd t i)) = true → outs (fun i => if canB p (t.arg i) (f0 + (n + bnd t i)) then mapT G (t.arg i) (f0 + (n + bnd t i)) else zT) t.args.length = (mapT G t (f0 + n)).args := by
    intro ha
    rw [mapT_args]
    unfold outs
    refine List.map_congr_left fun i hi => ?_
    have := (allB_iff _ _).1 ha i (by simpa using hi)
    rw [Int.add_assoc] at this
    rw [if_pos this, Int.add_assoc]
  simp only [C_thr, List.contains_cons, List.contains_nil, Bool.or_false] at hg
  refine ⟨chg_H t n (.fn g [.d rv] []), ?_⟩
  rw [ev_fn 108 Tryz.f108 _ _ _ rfl Tryz.func108 rfl Tryz.ntmps108 rfl]
  cases hall2 : (allB t.args.length fun i => canB p (t.arg i) (f0 + n + bnd t i))
  · have hcf : canB p t (f0 + n) = false := by rw [canB_eq, hall2, Bool.and_false]
    rw [hall2] at hea
    simp only [Bool.false_eq_true, if_false, chg_H, cel3] at hea
    cases k4 : (t.kind == 4)
    · simp -implicitDefEqProofs (disch := decide +kernel) only [go_sem, ↓reduceIte, Nat.reduceSub, Nat.reduceAdd, Nat.reduceMul, Nat.reduceBEq, Nat.reduceLT, Nat.reduceLeDiff, Nat.reduceEqDiff, reduceCtorEq, Int.reduceToNat, Int.reduceLE, Int.reduceLT, Int.reduceBEq, Int.reduceBNe, mCall, chg_H, cel3, k4, hea, hcf, zT_enc]
    · have hc := hof t.head n (hok.1 (by simpa using k4))
      cases hp : p t.head (f0 + n)
      · rw [hp] at hc
        simp -implicitDefEqProofs (disch := decide +kernel) only [go_sem, ↓reduceIte, Nat.reduceSub, Nat.reduceAdd, Nat.reduceMul, Nat.reduceBEq, Nat.reduceLT, Nat.reduceLeDiff, Nat.reduceEqDiff, reduceCtorEq, Int.reduceToNat, Int.reduceLE, Int.reduceLT, Int.reduceBEq, Int.reduceBNe, mCall, chg_H, cel3, k4, hg, hc, hcf, zT_enc]
      · rw [hp] at hc
        simp -implicitDefEqProofs (disch := decide +kernel) only [go_sem, ↓reduceIte, Nat.reduceSub, Nat.reduceAdd, Nat.reduceMul, Nat.reduceBEq, Nat.reduceLT, Nat.reduceLeDiff, Nat.reduceEqDiff, reduceCtorEq, Int.reduceToNat, Int.reduceLE, Int.reduceLT, Int.reduceBEq, Int.reduceBNe, mCall, chg_H, cel3, k4, hg, hc, hea, hcf, zT_enc]
  · rw [hall2, if_pos rfl, hout hall2] at hea
    simp only [chg_H, cel3] at hea
    have hm := mapT_eq G t (f0 + n)
    rw [← mapT_args] at hm
    cases k4 : (t.kind == 4)
    · have hct : canB p t (f0 + n) = true := by rw [canB_eq, hall2]; simp [bne, k4]
      rw [k4] at hm
      have hm' : Dv.agg [.int .i64 t.kind, .int .i64 t.head, .slc (encs (mapT G t (f0 + n)).args)] = enc (mapT G t (f0 + n)) := by rw [tm_enc]; exact congrArg enc hm.symm
      simp -implicitDefEqProofs (disch := decide +kernel) only [go_sem, ↓reduceIte, Nat.reduceSub, Nat.reduceAdd, Nat.reduceMul, Nat.reduceBEq, Nat.reduceLT, Nat.reduceLeDiff, Nat.reduceEqDiff, reduceCtorEq, Int.reduceToNat, Int.reduceLE, Int.reduceLT, Int.reduceBEq, Int.reduceBNe, mCall, chg_H, cel3, k4, hea, hct, hm']
    · have hc := hof t.head n (hok.1 (by simpa using k4))
      cases hp : p t.head (f0 + n)
      · have hcf : canB p t (f0 + n) = false := canB_false (by simpa using k4) hp
        rw [hp] at hc
        simp -implicitDefEqProofs (disch := decide +kernel) only [go_sem, ↓reduceIte, Nat.reduceSub, Nat.reduceAdd, Nat.reduceMul, Nat.reduceBEq, Nat.reduceLT, Nat.reduceLeDiff, Nat.reduceEqDiff, reduceCtorEq, Int.reduceToNat, Int.reduceLE, Int.reduceLT, Int.reduceBEq, Int.reduceBNe, mCall, chg_H, cel3, k4, hg, hc, hcf, zT_enc]
      · have hct : canB p t (f0 + n) = true := by rw [canB_eq, hall2, hp]; simp
        rw [hp] at hc
        rw [k4] at hm
        have hm' : Dv.agg [.int .i64 t.kind, .int .i64 (G t.head (f0 + n)), .slc (encs (mapT G t (f0 + n)).args)] = enc (mapT G t (f0 + n)) := by rw [tm_enc]; exact congrArg enc hm.symm
        simp -implicitDefEqProofs (disch := decide +kernel) only [go_sem, ↓reduceIte, Nat.reduceSub, Nat.reduceAdd, Nat.reduceMul, Nat.reduceBEq, Nat.reduceLT, Nat.reduceLeDiff, Nat.reduceEqDiff, reduceCtorEq, Int.reduceToNat, Int.reduceLE, Int.reduceLT, Int.reduceBEq, Int.reduceBNe, mCall, chg_H, cel3, k4, hg, hc, hea, hct, hm']
theorem renup_spec (b f x n : Int) (hb : 0 ≤ b ∧ b ≤ 1048576) (hf : 0 ≤ f + n ∧ f + n ≤ 4000000000000000000) (hx : x ≤ 4503599627370496) :
    (lim C).call 109 [.d (.agg [.int .i64 b, .int .i64 f]), dI x, dI n] [] = some (.ret (.tup [dI (gUp b x (f + n)), dB true]), []) := by
  have hw : IntKind.wrap .i64 (f + n) = f + n := wrap_ok (by omega) (by omega)
  unfold gUp
  rw [ev_fn 109 Tryz.f109 _ _ _ rfl Tryz.func109 rfl Tryz.ntmps109 rfl]
  cases h1 : decide (x ≥ f + n)
  · have h1' : ¬ x ≥ f + n := by simpa using h1
    rw [if_neg h1']
    simp -implicitDefEqProofs (disch := decide +kernel) only [go_sem, ↓reduceIte, Nat.reduceSub, Nat.reduceAdd, Nat.reduceMul, Nat.reduceBEq, Nat.reduceLT, Nat.reduceLeDiff, Nat.reduceEqDiff, reduceCtorEq, Int.reduceToNat, Int.reduceLE, Int.reduceLT, Int.reduceBEq, Int.reduceBNe, mCall, hw, h1]
  · have h1' : x ≥ f + n := by simpa using h1
    have hw2 : IntKind.wrap .i64 (x + b) = x + b := wrap_ok (by omega) (by omega)
    rw [if_pos h1']
    simp -implicitDefEqProofs (disch := decide +kernel) only [go_sem, ↓reduceIte, Nat.reduceSub, Nat.reduceAdd, Nat.reduceMul, Nat.reduceBEq, Nat.reduceLT, Nat.reduceLeDiff, Nat.reduceEqDiff, reduceCtorEq, Int.reduceToNat, Int.reduceLE, Int.reduceLT, Int.reduceBEq, Int.reduceBNe, mCall, hw, hw2, h1]
def renB (t : Tm) (b f : Int) : Bool := mayB t && decide (b ≥ 0) && decide (b ≤ 1048576) && decide (f ≥ 0) && decide (f ≤ 1048576)
theorem smay2_spec (t : Tm) (hs : t.size < room) (b f : Int) : (lim C).call 106 [dT t, dI b, dI f] [] = retB (renB t b f) := by
  unfold renB
  rw [ev_fn 106 Tryz.f106 _ _ _ rfl Tryz.func106 rfl Tryz.ntmps106 rfl]
  cases h1 : mayB t
  · simp -implicitDefEqProofs (disch := decide +kernel) only [go_sem, ↓reduceIte, Nat.reduceSub, Nat.reduceAdd, Nat.reduceMul, Nat.reduceBEq, Nat.reduceLT, Nat.reduceLeDiff, Nat.reduceEqDiff, reduceCtorEq, Int.reduceToNat, Int.reduceLE, Int.reduceLT, Int.reduceBEq, Int.reduceBNe, mCall, tMay_spec t hs, h1]
  · skip
    cases h2 : decide (b ≥ 0)
    · simp -implicitDefEqProofs (disch := decide +kernel) only [go_sem, ↓reduceIte, Nat.reduceSub, Nat.reduceAdd, Nat.reduceMul, Nat.reduceBEq, Nat.reduceLT, Nat.reduceLeDiff, Nat.reduceEqDiff, reduceCtorEq, Int.reduceToNat, Int.reduceLE, Int.reduceLT, Int.reduceBEq, Int.reduceBNe, mCall, tMay_spec t hs, h1, h2]
    · skip
      cases h3 : decide (b ≤ 1048576)
      · simp -implicitDefEqProofs (disch := decide +kernel) only [go_sem, ↓reduceIte, Nat.reduceSub, Nat.reduceAdd, Nat.reduceMul, Nat.reduceBEq, Nat.reduceLT, Nat.reduceLeDiff, Nat.reduceEqDiff, reduceCtorEq, Int.reduceToNat, Int.reduceLE, Int.reduceLT, Int.reduceBEq, Int.reduceBNe, mCall, tMay_spec t hs, h1, h2, h3]
      · skip
        cases h4 : decide (f ≥ 0)
        · simp -implicitDefEqProofs (disch := decide +kernel) only [go_sem, ↓reduceIte, Nat.reduceSub, Nat.reduceAdd, Nat.reduceMul, Nat.reduceBEq, Nat.reduceLT, Nat.reduceLeDiff, Nat.reduceEqDiff, reduceCtorEq, Int.reduceToNat, Int.reduceLE, Int.reduceLT, Int.reduceBEq, Int.reduceBNe, mCall, tMay_spec t hs, h1, h2, h3, h4]
        · skip
          cases h5 : decide (f ≤ 1048576)
          · simp -implicitDefEqProofs (disch := decide +kernel) only [go_sem, ↓reduceIte, Nat.reduceSub, Nat.reduceAdd, Nat.reduceMul, Nat.reduceBEq, Nat.reduceLT, Nat.reduceLeDiff, Nat.reduceEqDiff, reduceCtorEq, Int.reduceToNat, Int.reduceLE, Int.reduceLT, Int.reduceBEq, Int.reduceBNe, mCall, tMay_spec t hs, h1, h2, h3, h4, h5]
          · simp -implicitDefEqProofs (disch := decide +kernel) only [go_sem, ↓reduceIte, Nat.reduceSub, Nat.reduceAdd, Nat.reduceMul, Nat.reduceBEq, Nat.reduceLT, Nat.reduceLeDiff, Nat.reduceEqDiff, reduceCtorEq, Int.reduceToNat, Int.reduceLE, Int.reduceLT, Int.reduceBEq, Int.reduceBNe, mCall, tMay_spec t hs, h1, h2, h3, h4, h5]
theorem low_can (f : Int) : ∀ (t : Tm) (n : Int), f ≤ n → n + t.size ≤ 4000000000000000000 → vlowB t = true → canB (fun x m => decide (x ≤ 4503599627370496) && decide (f ≤ m) && decide (m ≤ 4000000000000000000)) t n = true := by
  refine Tm.ind fun t ih n hn hm hl => ?_
  rw [canB_iff]
  refine ⟨fun hk => ?_, fun i hi => ?_⟩
  · have := vle_here hl hk
    simp
    omega
  · have := size_arg (arg_mem hi)
    have := bnd_le t i
    exact ih _ (arg_mem hi) _ (by omega) (by omega) (vle_args hl i hi)
theorem sup_spec (t : Tm) (hs : t.size < room) (hl : vlowB t = true) (b f : Int) : ∃ h, (lim C).call 88 [dT t, dI b, dI f] [] = some (.ret (dT (if renB t b f then upT t b f else t)), h) := by
  have hr : room = 1099511627776 := rfl
  have hm := smay2_spec t hs b f
  cases h : renB t b f
  · rw [h] at hm
    refine ⟨[], ?_⟩
    rw [ev_fn 88 Tryz.f88 _ _ _ rfl Tryz.func88 rfl Tryz.ntmps88 rfl]
    simp -implicitDefEqProofs (disch := decide +kernel) only [go_sem, ↓reduceIte, Nat.reduceSub, Nat.reduceAdd, Nat.reduceMul, Nat.reduceBEq, Nat.reduceLT, Nat.reduceLeDiff, Nat.reduceEqDiff, reduceCtorEq, Int.reduceToNat, Int.reduceLE, Int.reduceLT, Int.reduceBEq, Int.reduceBNe, mCall, hm, own_spec t hs]
  · rw [h] at hm
    simp only [renB, Bool.and_eq_true, decide_eq_true_eq] at h
    have hc := low_can f t f (Int.le_refl _) (by omega) hl
    obtain ⟨h', hch⟩ := change_spec (g := 109) (by decide +kernel) (rv := .agg [.int .i64 b, .int .i64 f]) (f0 := f) (G := gUp b) (p := fun _ _ => true) (ok := fun x m => decide (x ≤ 4503599627370496) && decide (f ≤ m) && decide (m ≤ 4000000000000000000)) (fun x n hx => by
      simp only [Bool.and_eq_true, decide_eq_true_eq] at hx
      rw [if_pos rfl]
      exact renup_spec b f x n ⟨by omega, by omega⟩ ⟨by omega, by omega⟩ (by omega)) t hs 0 (by omega) (by omega) (by rw [Int.add_zero]; exact hc)
    rw [Int.add_zero, canB_true, if_pos rfl] at hch
    refine ⟨[], ?_⟩
    rw [ev_fn 88 Tryz.f88 _ _ _ rfl Tryz.func88 rfl Tryz.ntmps88 rfl]
    simp -implicitDefEqProofs (disch := decide +kernel) only [go_sem, ↓reduceIte, Nat.reduceSub, Nat.reduceAdd, Nat.reduceMul, Nat.reduceBEq, Nat.reduceLT, Nat.reduceLeDiff, Nat.reduceEqDiff, reduceCtorEq, Int.reduceToNat, Int.reduceLE, Int.reduceLT, Int.reduceBEq, Int.reduceBNe, mCall, hm, hch]
end Go.Proofs.YtkmpfdecjmnccaaGreat
/- The reference of layer 2: shift. -/
set_option linter.unusedSimpArgs false
set_option linter.unusedVariables false
set_option maxRecDepth 100000
namespace Go.Proofs.YtkmpfdecjmnccaaGreat
open Go.Proofs
theorem rsmay_spec (t : Tm) (hs : t.size < room) (b f : Int) : (lim C).call 125 [dT t, dI b, dI f] [] = retB (renB t b f) := by
  unfold renB
  rw [ev_fn 125 Tryz.f125 _ _ _ rfl Tryz.func125 rfl Tryz.ntmps125 rfl]
  cases h1 : mayB t
  · simp -implicitDefEqProofs (disch := decide +kernel) only [go_sem, ↓reduceIte, Nat.reduceSub, Nat.reduceAdd, Nat.reduceMul, Nat.reduceBEq, Nat.reduceLT, Nat.reduceLeDiff, Nat.reduceEqDiff, reduceCtorEq, Int.reduceToNat, Int.reduceLE, Int.reduceLT, Int.reduceBEq, Int.reduceBNe, mCall, may_spec t hs, h1]
  · skip
    cases h2 : decide (b ≥ 0)
    · simp -implicitDefEqProofs (disch := decide +kernel) only [go_sem, ↓reduceIte, Nat.reduceSub, Nat.reduceAdd, Nat.reduceMul, Nat.reduceBEq, Nat.reduceLT, Nat.reduceLeDiff, Nat.reduceEqDiff, reduceCtorEq, Int.reduceToNat, Int.reduceLE, Int.reduceLT, Int.reduceBEq, Int.reduceBNe, mCall, may_spec t hs, h1, h2]
    · skip
      cases h3 : decide (b ≤ 1048576)
      · simp -implicitDefEqProofs (disch := decide +kernel) only [go_sem, ↓reduceIte, Nat.reduceSub, Nat.reduceAdd, Nat.reduceMul, Nat.reduceBEq, Nat.reduceLT, Nat.reduceLeDiff, Nat.reduceEqDiff, reduceCtorEq, Int.reduceToNat, Int.reduceLE, Int.reduceLT, Int.reduceBEq, Int.reduceBNe, mCall, may_spec t hs, h1, h2, h3]
      · skip
        cases h4 : decide (f ≥ 0)
        · simp -implicitDefEqProofs (disch := decide +kernel) only [go_sem, ↓reduceIte, Nat.reduceSub, Nat.reduceAdd, Nat.reduceMul, Nat.reduceBEq, Nat.reduceLT, Nat.reduceLeDiff, Nat.reduceEqDiff, reduceCtorEq, Int.reduceToNat, Int.reduceLE, Int.reduceLT, Int.reduceBEq, Int.reduceBNe, mCall, may_spec t hs, h1, h2, h3, h4]
        · skip
          cases h5 : decide (f ≤ 1048576)
          · simp -implicitDefEqProofs (disch := decide +kernel) only [go_sem, ↓reduceIte, Nat.reduceSub, Nat.reduceAdd, Nat.reduceMul, Nat.reduceBEq, Nat.reduceLT, Nat.reduceLeDiff, Nat.reduceEqDiff, reduceCtorEq, Int.reduceToNat, Int.reduceLE, Int.reduceLT, Int.reduceBEq, Int.reduceBNe, mCall, may_spec t hs, h1, h2, h3, h4, h5]
          · simp -implicitDefEqProofs (disch := decide +kernel) only [go_sem, ↓reduceIte, Nat.reduceSub, Nat.reduceAdd, Nat.reduceMul, Nat.reduceBEq, Nat.reduceLT, Nat.reduceLeDiff, Nat.reduceEqDiff, reduceCtorEq, Int.reduceToNat, Int.reduceLE, Int.reduceLT, Int.reduceBEq, Int.reduceBNe, mCall, may_spec t hs, h1, h2, h3, h4, h5]
theorem acc_keep (t : Nat) (xs : List Dv) : (acc t xs).kept = acc t xs := by cases xs <;> rfl
theorem acc_drop (t : Nat) (xs : List Dv) : (acc t xs).erase = .d (.slc xs) := by cases xs <;> rfl
def zc3 : List AV := [dI 0, dI 0, .clip []]
def rup_S (t : Tm) (b f hd : Int) (F : Nat → Tm) (i : Nat) : St := mk 53 [(1, dI b), (2, dI f), (3, .lref 3 0), (6, .lref 6 0), (7, .lref 7 0), (8, dI i)] [(3, cel3 t), (6, zc3), (7, [dI t.kind, dI hd, acc 0 (encs (outs F i))])] [] (accT i)
theorem rup_loop {c : Code} {σ : St} {t : Tm} {b f hd : Int} {F : Nat → Tm} (hb : c = cf (cf (cs (cf (cs (cs (cs (bodyOf Tryz.f126)))))))) (hσ : σ = rup_S t b f hd F 0) (hs : t.size < room) (hf : 0 ≤ f ∧ f + t.size ≤ 4000000000000000000)
    (ih : ∀ i, i < t.args.length → (lim C).call 126 [dT (t.arg i), dI b, dI (f + bnd t i)] [] = some (.ret (dT (F i)), [])) :
    (lim C).code 126 (.loop c) σ = some (.exit 0, mk 53 [(1, dI b), (2, dI f), (3, .lref 3 0), (6, .lref 6 0), (7, .lref 7 0), (8, dI t.args.length), (32, dB false)] [(3, cel3 t), (6, zc3), (7, [dI t.kind, dI hd, acc 0 (encs (outs F t.args.length))])] [] (accT t.args.length)) := by
  subst hb hσ
  have hr : room = 1099511627776 := rfl
  have hl := len_size t
  refine loop_run (rup_S t b f hd F) t.args.length ?_ ?_ (by simp)
  · intro i hi
    have hc := ih i hi
    have hbl := bnd_le t i
    have hw : IntKind.wrap .i64 (f + (bnd t i : Int)) = f + (bnd t i : Int) := wrap_ok (by omega) (by omega)
    have hln : (encs (outs F i)).length = i := by simp [encs, outs]
    have hap := fun locs heap => mApp_acc (encs (outs F i)) (enc (F i)) 3 locs heap (by rw [hln]; omega) (encs_all _) (enc_width _)
    have hsn : encs (outs F i) ++ [enc (F i)] = encs (outs F (i + 1)) := by unfold outs; rw [List.range_succ, List.map_append, encs_append]; rfl
    rw [hln, hsn] at hap
    simp -implicitDefEqProofs (disch := decide +kernel) only [cf, cs, bodyOf, Tryz.f126, Option.getD_some, go_sem, ↓reduceIte, Nat.reduceSub, Nat.reduceAdd, Nat.reduceMul, Nat.reduceBEq, Nat.reduceLT, Nat.reduceLeDiff, Nat.reduceEqDiff, reduceCtorEq, Int.reduceToNat, Int.reduceLE, Int.reduceLT, Int.reduceBEq, Int.reduceBNe, mCall, rup_S, zc3, acc_keep, lt_true hi, arg_get hi, binds_spec t i hs hi, hw, hc, hap, wrap_succ (n := i) (by omega)]
  · simp -implicitDefEqProofs (disch := decide +kernel) only [cf, cs, bodyOf, Tryz.f126, Option.getD_some, go_sem, ↓reduceIte, Nat.reduceSub, Nat.reduceAdd, Nat.reduceMul, Nat.reduceBEq, Nat.reduceLT, Nat.reduceLeDiff, Nat.reduceEqDiff, reduceCtorEq, Int.reduceToNat, Int.reduceLE, Int.reduceLT, Int.reduceBEq, Int.reduceBNe, mCall, rup_S, zc3, lt_false (Nat.le_refl t.args.length)]
theorem outs_map {t : Tm} (g : Int → Int → Int) (n : Int) : outs (fun i => mapT g (t.arg i) (n + bnd t i)) t.args.length = (mapT g t n).args := by rw [mapT_args]; rfl
theorem rup_spec : ∀ t : Tm, t.size < room → ∀ b f : Int, vlowB t = true → 0 ≤ b ∧ b ≤ 1048576 → 0 ≤ f ∧ f + t.size ≤ 4000000000000000000 → (lim C).call 126 [dT t, dI b, dI f] [] = some (.ret (dT (upT t b f)), []) := by
  refine Tm.ind fun t ih hs b f hlo hb hf => ?_
  have hr : room = 1099511627776 := rfl
  have hx : t.kind = 4 → t.head ≤ 4503599627370496 := fun hk => vle_here hlo hk
  have hm := mapT_eq (gUp b) t f
  rw [← mapT_args] at hm
  have hloop := fun hd => rup_loop (c := cf (cf (cs (cf (cs (cs (cs (bodyOf Tryz.f126)))))))) (σ := rup_S t b f hd (fun i => upT (t.arg i) b (f + bnd t i)) 0) (hd := hd) rfl rfl hs hf (fun i hi => by
    have h1 := size_arg (arg_mem hi)
    have h2 := bnd_le t i
    exact ih _ (arg_mem hi) (by omega) b (f + bnd t i) (vle_args hlo i hi) hb ⟨by omega, by omega⟩)
  rw [outs_map] at hloop
  rw [ev_fn 126 Tryz.f126 _ _ _ rfl Tryz.func126 rfl Tryz.ntmps126 rfl]
  cases k4 : (t.kind == 4)
  · rw [k4] at hm
    have hm' : Dv.agg [.int .i64 t.kind, .int .i64 t.head, .slc (encs (mapT (gUp b) t f).args)] = enc (mapT (gUp b) t f) := by rw [tm_enc]; exact congrArg enc hm.symm
    simp -implicitDefEqProofs (disch := decide +kernel) only [go_sem, ↓reduceIte, Nat.reduceSub, Nat.reduceAdd, Nat.reduceMul, Nat.reduceBEq, Nat.reduceLT, Nat.reduceLeDiff, Nat.reduceEqDiff, reduceCtorEq, Int.reduceToNat, Int.reduceLE, Int.reduceLT, Int.reduceBEq, Int.reduceBNe, mCall, cel3, k4]
    rw [loop_at (hloop t.head) ?hb ?hs]
    case hb => rfl
    case hs => rfl
    simp -implicitDefEqProofs (disch := decide +kernel) only [go_sem, ↓reduceIte, Nat.reduceSub, Nat.reduceAdd, Nat.reduceMul, Nat.reduceBEq, Nat.reduceLT, Nat.reduceLeDiff, Nat.reduceEqDiff, reduceCtorEq, Int.reduceToNat, Int.reduceLE, Int.reduceLT, Int.reduceBEq, Int.reduceBNe, mCall, zc3, acc_keep, acc_drop, hm']
  · rw [k4] at hm
    have hx := hx (by simpa using k4)
    cases h1 : decide (t.head ≥ f)
    · have h1' : ¬ t.head ≥ f := by simpa using h1
      have hm' : Dv.agg [.int .i64 t.kind, .int .i64 t.head, .slc (encs (mapT (gUp b) t f).args)] = enc (mapT (gUp b) t f) := by
        rw [tm_enc]; rw [if_pos rfl] at hm; unfold gUp at hm; rw [if_neg h1'] at hm; exact congrArg enc hm.symm
      simp -implicitDefEqProofs (disch := decide +kernel) only [go_sem, ↓reduceIte, Nat.reduceSub, Nat.reduceAdd, Nat.reduceMul, Nat.reduceBEq, Nat.reduceLT, Nat.reduceLeDiff, Nat.reduceEqDiff, reduceCtorEq, Int.reduceToNat, Int.reduceLE, Int.reduceLT, Int.reduceBEq, Int.reduceBNe, mCall, cel3, k4, h1]
      rw [loop_at (hloop t.head) ?hb ?hs]
      case hb => rfl
      case hs => rfl
      simp -implicitDefEqProofs (disch := decide +kernel) only [go_sem, ↓reduceIte, Nat.reduceSub, Nat.reduceAdd, Nat.reduceMul, Nat.reduceBEq, Nat.reduceLT, Nat.reduceLeDiff, Nat.reduceEqDiff, reduceCtorEq, Int.reduceToNat, Int.reduceLE, Int.reduceLT, Int.reduceBEq, Int.reduceBNe, mCall, zc3, acc_keep, acc_drop, hm']
    · have h1' : t.head ≥ f := by simpa using h1
      have hw : IntKind.wrap .i64 (t.head + b) = t.head + b := wrap_ok (by omega) (by omega)
      have hm' : Dv.agg [.int .i64 t.kind, .int .i64 (t.head + b), .slc (encs (mapT (gUp b) t f).args)] = enc (mapT (gUp b) t f) := by
        rw [tm_enc]; rw [if_pos rfl] at hm; unfold gUp at hm; rw [if_pos h1'] at hm; exact congrArg enc hm.symm
      simp -implicitDefEqProofs (disch := decide +kernel) only [go_sem, ↓reduceIte, Nat.reduceSub, Nat.reduceAdd, Nat.reduceMul, Nat.reduceBEq, Nat.reduceLT, Nat.reduceLeDiff, Nat.reduceEqDiff, reduceCtorEq, Int.reduceToNat, Int.reduceLE, Int.reduceLT, Int.reduceBEq, Int.reduceBNe, mCall, cel3, k4, h1, hw]
      rw [loop_at (hloop (t.head + b)) ?hb ?hs]
      case hb => rfl
      case hs => rfl
      simp -implicitDefEqProofs (disch := decide +kernel) only [go_sem, ↓reduceIte, Nat.reduceSub, Nat.reduceAdd, Nat.reduceMul, Nat.reduceBEq, Nat.reduceLT, Nat.reduceLeDiff, Nat.reduceEqDiff, reduceCtorEq, Int.reduceToNat, Int.reduceLE, Int.reduceLT, Int.reduceBEq, Int.reduceBNe, mCall, zc3, acc_keep, acc_drop, hm']
theorem rUp_spec (t : Tm) (hs : t.size < room) (hl : vlowB t = true) (b f : Int) : (lim C).call 113 [dT t, dI b, dI f] [] = some (.ret (dT (if renB t b f then upT t b f else t)), []) := by
  have hr : room = 1099511627776 := rfl
  have hm := rsmay_spec t hs b f
  cases h : renB t b f
  · rw [h] at hm
    have h0 := rup_spec t hs 0 0 hl ⟨by omega, by omega⟩ ⟨by omega, by omega⟩
    rw [up_zero] at h0
    rw [ev_fn 113 Tryz.f113 _ _ _ rfl Tryz.func113 rfl Tryz.ntmps113 rfl]
    simp -implicitDefEqProofs (disch := decide +kernel) only [go_sem, ↓reduceIte, Nat.reduceSub, Nat.reduceAdd, Nat.reduceMul, Nat.reduceBEq, Nat.reduceLT, Nat.reduceLeDiff, Nat.reduceEqDiff, reduceCtorEq, Int.reduceToNat, Int.reduceLE, Int.reduceLT, Int.reduceBEq, Int.reduceBNe, mCall, hm, h0]
  · rw [h] at hm
    simp only [renB, Bool.and_eq_true, decide_eq_true_eq] at h
    have h0 := rup_spec t hs b f hl ⟨by omega, by omega⟩ ⟨by omega, by omega⟩
    rw [ev_fn 113 Tryz.f113 _ _ _ rfl Tryz.func113 rfl Tryz.ntmps113 rfl]
    simp -implicitDefEqProofs (disch := decide +kernel) only [go_sem, ↓reduceIte, Nat.reduceSub, Nat.reduceAdd, Nat.reduceMul, Nat.reduceBEq, Nat.reduceLT, Nat.reduceLeDiff, Nat.reduceEqDiff, reduceCtorEq, Int.reduceToNat, Int.reduceLE, Int.reduceLT, Int.reduceBEq, Int.reduceBNe, mCall, hm, h0]
end Go.Proofs.YtkmpfdecjmnccaaGreat
/- The package subst: its small functions. -/
set_option linter.unusedSimpArgs false
set_option linter.unusedVariables false
set_option maxRecDepth 100000
namespace Go.Proofs.YtkmpfdecjmnccaaGreat
open Go.Proofs
theorem ev_ext {f : Nat} {x : Orc → List AV → List HO → Option (CR × List HO)} (h : C.ext f = some x) (args : List AV) (heap : List HO) : (lim C).call f args heap = x (lim C) args heap := by
  rw [lim_call C (inferInstance : ExtC C).out]
  unfold callA
  rw [h]
def encS (s : Sb) : Dv := .agg [.slc (encs s.L), .int .i64 s.sh]
abbrev dS (s : Sb) : AV := .d (encS s)
def cel2 (s : Sb) : List AV := [dL s.L, dI s.sh]
theorem encS_eq (s : Sb) : encS s = .agg [.slc (encs s.L), .int .i64 s.sh] := rfl
theorem cells_encS (s : Sb) : AV.cells (.d (encS s)) = cel2 s := rfl
theorem fail_spec (e : Int) (h : List HO) : (lim C).call 102 [dI e] h = some (.pan (.iface 33 (.int .i64 e)), h) := by
  rw [ev_fn 102 Tryz.f102 _ _ _ rfl Tryz.func102 rfl Tryz.ntmps102 rfl]
  simp -implicitDefEqProofs (disch := decide +kernel) only [go_sem, ↓reduceIte, Nat.reduceSub, Nat.reduceAdd, Nat.reduceMul, Nat.reduceBEq, Nat.reduceLT, Nat.reduceLeDiff, Nat.reduceEqDiff, reduceCtorEq, Int.reduceToNat, Int.reduceLE, Int.reduceLT, Int.reduceBEq, Int.reduceBNe, mCall]
theorem of_spec (s : Sb) (i : Int) (h0 : 0 ≤ i) (hi : i ≤ 4503599627370496) (hl : s.L.length < room) (hs : 0 ≤ s.sh ∧ s.sh ≤ 4503599627370496) (hz : ∀ x ∈ s.L, x.size < room) :
    (lim C).call 105 [dS s, dI i] [] = some (.ret (dT (ofS s i)), []) := by
  have hr : room = 1099511627776 := rfl
  rw [ev_fn 105 Tryz.f105 _ _ _ rfl Tryz.func105 rfl Tryz.ntmps105 rfl]
  cases hlt : decide (i < (s.L.length : Int))
  · have hlt' : ¬ i < (s.L.length : Int) := by simpa using hlt
    have hw1 : IntKind.wrap .i64 (i - (s.L.length : Int)) = i - (s.L.length : Int) := wrap_ok (by omega) (by omega)
    have hw2 : IntKind.wrap .i64 (i - (s.L.length : Int) + s.sh) = i - (s.L.length : Int) + s.sh := wrap_ok (by omega) (by omega)
    have he : Dv.agg [.int .i64 4, .int .i64 (i - (s.L.length : Int) + s.sh), .slc []] = enc (ofS s i) := by
      unfold ofS; rw [if_neg hlt', enc_mk]; rfl
    simp -implicitDefEqProofs (disch := decide +kernel) only [go_sem, ↓reduceIte, Nat.reduceSub, Nat.reduceAdd, Nat.reduceMul, Nat.reduceBEq, Nat.reduceLT, Nat.reduceLeDiff, Nat.reduceEqDiff, reduceCtorEq, Int.reduceToNat, Int.reduceLE, Int.reduceLT, Int.reduceBEq, Int.reduceBNe, mCall, encS_eq, hlt, hw1, hw2, he]
  · have hlt' : i < (s.L.length : Int) := by simpa using hlt
    have hw1 : IntKind.wrap .i64 ((s.L.length : Int) - 1) = (s.L.length : Int) - 1 := wrap_ok (by omega) (by omega)
    have hw2 : IntKind.wrap .i64 ((s.L.length : Int) - 1 - i) = (s.L.length : Int) - 1 - i := wrap_ok (by omega) (by omega)
    have hge : 0 ≤ (s.L.length : Int) - 1 - i := by omega
    have hnat : ((s.L.length : Int) - 1 - i).toNat = s.L.length - 1 - i.toNat := by omega
    have hget : s.L[s.L.length - 1 - i.toNat]? = some (ofS s i) := by
      unfold ofS
      rw [if_pos hlt', List.getD_eq_getElem?_getD, List.getElem?_eq_getElem (by omega)]
      rfl
    have hmem : ofS s i ∈ s.L := List.mem_of_getElem? hget
    simp -implicitDefEqProofs (disch := decide +kernel) only [go_sem, ↓reduceIte, Nat.reduceSub, Nat.reduceAdd, Nat.reduceMul, Nat.reduceBEq, Nat.reduceLT, Nat.reduceLeDiff, Nat.reduceEqDiff, reduceCtorEq, Int.reduceToNat, Int.reduceLE, Int.reduceLT, Int.reduceBEq, Int.reduceBNe, mCall, encS_eq, hlt, hw1, hw2, hge, hnat, hget, own_spec _ (hz _ hmem)]
def und_F (s : Sb) (j : Nat) : Tm := upT (s.L.getD j default) 1 0
def und_S (s : Sb) (i : Nat) : St := mk 32 [(2, .lref 2 0), (3, .lref 3 0), (11, dL s.L), (12, dI s.L.length), (13, dI i)] [(2, [.clip [], dI 0]), (3, [acc 0 (encs (outs (und_F s) i)), dI (s.sh + 1)])] [] (accT i)
theorem und_step {s : Sb} (hm : ∀ x ∈ s.L, mayB x = true ∧ vlowB x = true) (hl : s.L.length < room) {i : Nat} (hi : i < s.L.length) :
    (lim C).code 103 (cf (.loop (cf (cf (cs (cf (cs (cs (bodyOf Tryz.f103))))))))) (und_S s i) = some (.nor, und_S s (i + 1)) := by
  have hr : room = 1099511627776 := rfl
  have hmem : s.L.getD i default ∈ s.L := by rw [List.getD_eq_getElem?_getD, List.getElem?_eq_getElem hi]; exact List.getElem_mem _
  obtain ⟨m1, m2⟩ := hm _ hmem
  have hsz := (may_parts m1).2.1
  obtain ⟨h, hc⟩ := sup_spec (s.L.getD i default) (by omega) m2 1 0
  rw [show renB (s.L.getD i default) 1 0 = true by unfold renB; rw [m1]; rfl, if_pos rfl] at hc
  have hln : (encs (outs (und_F s) i)).length = i := by simp [encs, outs]
  have hap := fun locs heap => mApp_acc (encs (outs (und_F s) i)) (enc (und_F s i)) 3 locs heap (by rw [hln]; omega) (encs_all _) (enc_width _)
  have hsn : encs (outs (und_F s) i) ++ [enc (und_F s i)] = encs (outs (und_F s) (i + 1)) := by unfold outs; rw [List.range_succ, List.map_append, encs_append]; rfl
  rw [hln, hsn] at hap
  have hc' : (lim C).call 88 [dT (s.L.getD i default), dI 1, dI 0] [] = some (.ret (dT (und_F s i)), h) := hc
  simp -implicitDefEqProofs (disch := decide +kernel) only [cf, cs, bodyOf, Tryz.f103, Option.getD_some, go_sem, ↓reduceIte, Nat.reduceSub, Nat.reduceAdd, Nat.reduceMul, Nat.reduceBEq, Nat.reduceLT, Nat.reduceLeDiff, Nat.reduceEqDiff, reduceCtorEq, Int.reduceToNat, Int.reduceLE, Int.reduceLT, Int.reduceBEq, Int.reduceBNe, mCall, und_S, cel2, acc_keep, lt_true hi, getD_get hi, hc', hap, wrap_succ (n := i) (by omega)]
theorem und_out (s : Sb) : encs (outs (und_F s) s.L.length) ++ [enc var0] = encs (underS s).L := by
  have : outs (und_F s) s.L.length = s.L.map fun x => upT x 1 0 := by
    unfold outs und_F
    refine List.ext_getElem (by simp) fun i h1 h2 => ?_
    simp at h1
    simp [List.getD_eq_getElem?_getD, h1]
  rw [this]
  simp [underS, encs_append, encs]
theorem under_spec (s : Sb) (hm : ∀ x ∈ s.L, mayB x = true ∧ vlowB x = true) (hl : s.L.length < room) (hs : 0 ≤ s.sh ∧ s.sh ≤ 4503599627370496) :
    (lim C).call 103 [dS s] [] = some (.ret (dS (underS s)), []) := by
  have hr : room = 1099511627776 := rfl
  have hw : IntKind.wrap .i64 (s.sh + 1) = s.sh + 1 := wrap_ok (by omega) (by omega)
  have hloop : (lim C).code 103 (.loop (cf (cf (cs (cf (cs (cs (bodyOf Tryz.f103)))))))) (und_S s 0) = some (.exit 0, mk 32 [(2, .lref 2 0), (3, .lref 3 0), (11, dL s.L), (12, dI s.L.length), (13, dI s.L.length), (14, dB false)] [(2, [.clip [], dI 0]), (3, [acc 0 (encs (outs (und_F s) s.L.length)), dI (s.sh + 1)])] [] (accT s.L.length)) := by
    refine loop_run (und_S s) s.L.length (fun i hi => und_step hm hl hi) ?_ (by simp)
    simp -implicitDefEqProofs (disch := decide +kernel) only [cf, cs, bodyOf, Tryz.f103, Option.getD_some, go_sem, ↓reduceIte, Nat.reduceSub, Nat.reduceAdd, Nat.reduceMul, Nat.reduceBEq, Nat.reduceLT, Nat.reduceLeDiff, Nat.reduceEqDiff, reduceCtorEq, Int.reduceToNat, Int.reduceLE, Int.reduceLT, Int.reduceBEq, Int.reduceBNe, mCall, und_S, cel2, lt_false (Nat.le_refl s.L.length)]
  have hln : (encs (outs (und_F s) s.L.length)).length = s.L.length := by simp [encs, outs]
  have hap := fun locs heap => mApp_acc (encs (outs (und_F s) s.L.length)) (enc var0) 3 locs heap (by rw [hln]; omega) (encs_all _) (enc_width _)
  rw [hln, und_out] at hap
  have hv : Dv.agg [.int .i64 4, .int .i64 0, .slc []] = enc var0 := by unfold var0; rw [enc_mk]; rfl
  have he : Dv.agg [.slc (encs (underS s).L), .int .i64 (s.sh + 1)] = encS (underS s) := rfl
  rw [ev_fn 103 Tryz.f103 _ _ _ rfl Tryz.func103 rfl Tryz.ntmps103 rfl]
  simp -implicitDefEqProofs (disch := decide +kernel) only [go_sem, ↓reduceIte, Nat.reduceSub, Nat.reduceAdd, Nat.reduceMul, Nat.reduceBEq, Nat.reduceLT, Nat.reduceLeDiff, Nat.reduceEqDiff, reduceCtorEq, Int.reduceToNat, Int.reduceLE, Int.reduceLT, Int.reduceBEq, Int.reduceBNe, mCall, encS_eq, hw]
  rw [loop_at hloop ?hb ?hs]
  case hb => rfl
  case hs => rfl
  simp -implicitDefEqProofs (disch := decide +kernel) only [go_sem, ↓reduceIte, Nat.reduceSub, Nat.reduceAdd, Nat.reduceMul, Nat.reduceBEq, Nat.reduceLT, Nat.reduceLeDiff, Nat.reduceEqDiff, reduceCtorEq, Int.reduceToNat, Int.reduceLE, Int.reduceLT, Int.reduceBEq, Int.reduceBNe, mCall, cel2, cells_encS, acc_keep, acc_drop, hap, hv, he, (encS_eq (underS s)).symm]

/-! ### is each of a list so? -/
def maysB (l : List Tm) : Bool := allB l.length fun i => mayB (l.getD i default)
theorem maysB_iff {l : List Tm} : maysB l = true ↔ ∀ x ∈ l, mayB x = true := by
  unfold maysB
  rw [allB_iff]
  constructor
  · intro h x hx
    obtain ⟨i, hi, rfl⟩ := List.mem_iff_getElem.1 hx
    have := h i hi
    rwa [List.getD_eq_getElem?_getD, List.getElem?_eq_getElem hi] at this
  · intro h i hi
    refine h _ ?_
    rw [List.getD_eq_getElem?_getD, List.getElem?_eq_getElem hi]; exact List.getElem_mem _
def ix_S (l : List Tm) (g : Nat) (i : Nat) : St := mk 19 [(0, dL l), (1, .fn g [] []), (7, dI l.length), (8, dI i)] [] [] []
theorem index_spec {g : Nat} (hg : C.thr.contains g = false) {l : List Tm} (hl : l.length < room) (hp : ∀ x ∈ l, ∃ h, (lim C).call g [dT x] [] = some (.ret (dB (!mayB x)), h)) :
    ∃ i : Int, (lim C).call 55 [dL l, .fn g [] []] [] = some (.ret (dI i), []) ∧ decide (i ≥ 0) = !maysB l := by
  have hr : room = 1099511627776 := rfl
  simp only [C_thr, List.contains_cons, List.contains_nil, Bool.or_false] at hg
  have hget : ∀ i, i < l.length → ∃ h, (lim C).call g [dT (l.getD i default)] [] = some (.ret (dB (!mayB (l.getD i default))), h) := fun i hi => hp _ (by
    rw [List.getD_eq_getElem?_getD, List.getElem?_eq_getElem hi]; exact List.getElem_mem _)
  have hstep : ∀ i, i < l.length → mayB (l.getD i default) = true → (lim C).code 55 (cf (.loop (cf (cf (cs (cf (cs (bodyOf Tryz.f55)))))))) (ix_S l g i) = some (.nor, ix_S l g (i + 1)) := fun i hi hm => by
    obtain ⟨h, hc⟩ := hget i hi
    rw [hm] at hc
    simp -implicitDefEqProofs (disch := decide +kernel) only [cf, cs, bodyOf, Tryz.f55, Option.getD_some, go_sem, ↓reduceIte, Nat.reduceSub, Nat.reduceAdd, Nat.reduceMul, Nat.reduceBEq, Nat.reduceLT, Nat.reduceLeDiff, Nat.reduceEqDiff, reduceCtorEq, Int.reduceToNat, Int.reduceLE, Int.reduceLT, Int.reduceBEq, Int.reduceBNe, mCall, ix_S, hg, lt_true hi, getD_get hi, hc, wrap_succ (n := i) (by omega)]
  cases hall : maysB l
  · obtain ⟨j, hj, hpj, hb⟩ := allB_first _ _ hall
    refine ⟨j, ?_, by simp⟩
    obtain ⟨h, hc⟩ := hget j hj
    rw [hpj] at hc
    have hloop : (lim C).code 55 (.loop (cf (cf (cs (cf (cs (bodyOf Tryz.f55))))))) (ix_S l g 0) = some (.ret, mk 19 [(4, dI j)] [] [] []) := by
      refine loop_run (ix_S l g) j (fun i hi => hstep i (by omega) (hb i hi)) ?_ (by simp)
      simp -implicitDefEqProofs (disch := decide +kernel) only [cf, cs, bodyOf, Tryz.f55, Option.getD_some, go_sem, ↓reduceIte, Nat.reduceSub, Nat.reduceAdd, Nat.reduceMul, Nat.reduceBEq, Nat.reduceLT, Nat.reduceLeDiff, Nat.reduceEqDiff, reduceCtorEq, Int.reduceToNat, Int.reduceLE, Int.reduceLT, Int.reduceBEq, Int.reduceBNe, mCall, ix_S, hg, lt_true hj, getD_get hj, hc]
    rw [ev_fn 55 Tryz.f55 _ _ _ rfl Tryz.func55 rfl Tryz.ntmps55 rfl]
    simp -implicitDefEqProofs (disch := decide +kernel) only [go_sem, ↓reduceIte, Nat.reduceSub, Nat.reduceAdd, Nat.reduceMul, Nat.reduceBEq, Nat.reduceLT, Nat.reduceLeDiff, Nat.reduceEqDiff, reduceCtorEq, Int.reduceToNat, Int.reduceLE, Int.reduceLT, Int.reduceBEq, Int.reduceBNe, mCall]
    rw [loop_at hloop ?hb ?hs]
    case hb => rfl
    case hs => rfl
    simp -implicitDefEqProofs (disch := decide +kernel) only [go_sem, ↓reduceIte, Nat.reduceSub, Nat.reduceAdd, Nat.reduceMul, Nat.reduceBEq, Nat.reduceLT, Nat.reduceLeDiff, Nat.reduceEqDiff, reduceCtorEq, Int.reduceToNat, Int.reduceLE, Int.reduceLT, Int.reduceBEq, Int.reduceBNe, mCall]
  · refine ⟨-1, ?_, by simp⟩
    have hloop : (lim C).code 55 (.loop (cf (cf (cs (cf (cs (bodyOf Tryz.f55))))))) (ix_S l g 0) = some (.exit 0, mk 19 [(0, dL l), (1, .fn g [] []), (7, dI l.length), (8, dI l.length), (9, dB false)] [] [] []) := by
      refine loop_run (ix_S l g) l.length (fun i hi => hstep i hi ((allB_iff _ _).1 hall i hi)) ?_ (by simp)
      simp -implicitDefEqProofs (disch := decide +kernel) only [cf, cs, bodyOf, Tryz.f55, Option.getD_some, go_sem, ↓reduceIte, Nat.reduceSub, Nat.reduceAdd, Nat.reduceMul, Nat.reduceBEq, Nat.reduceLT, Nat.reduceLeDiff, Nat.reduceEqDiff, reduceCtorEq, Int.reduceToNat, Int.reduceLE, Int.reduceLT, Int.reduceBEq, Int.reduceBNe, mCall, ix_S, lt_false (Nat.le_refl l.length)]
    rw [ev_fn 55 Tryz.f55 _ _ _ rfl Tryz.func55 rfl Tryz.ntmps55 rfl]
    simp -implicitDefEqProofs (disch := decide +kernel) only [go_sem, ↓reduceIte, Nat.reduceSub, Nat.reduceAdd, Nat.reduceMul, Nat.reduceBEq, Nat.reduceLT, Nat.reduceLeDiff, Nat.reduceEqDiff, reduceCtorEq, Int.reduceToNat, Int.reduceLE, Int.reduceLT, Int.reduceBEq, Int.reduceBNe, mCall]
    rw [loop_at hloop ?hb ?hs]
    case hb => rfl
    case hs => rfl
    simp -implicitDefEqProofs (disch := decide +kernel) only [go_sem, ↓reduceIte, Nat.reduceSub, Nat.reduceAdd, Nat.reduceMul, Nat.reduceBEq, Nat.reduceLT, Nat.reduceLeDiff, Nat.reduceEqDiff, reduceCtorEq, Int.reduceToNat, Int.reduceLE, Int.reduceLT, Int.reduceBEq, Int.reduceBNe, mCall]
theorem contains_spec {g : Nat} (hg : C.thr.contains g = false) {l : List Tm} (hl : l.length < room) (hp : ∀ x ∈ l, ∃ h, (lim C).call g [dT x] [] = some (.ret (dB (!mayB x)), h)) :
    (lim C).call 40 [dL l, .fn g [] []] [] = retB (!maysB l) := by
  obtain ⟨i, h1, h2⟩ := index_spec hg hl hp
  rw [ev_fn 40 Tryz.f40 _ _ _ rfl Tryz.func40 rfl Tryz.ntmps40 rfl]
  simp -implicitDefEqProofs (disch := decide +kernel) only [go_sem, ↓reduceIte, Nat.reduceSub, Nat.reduceAdd, Nat.reduceMul, Nat.reduceBEq, Nat.reduceLT, Nat.reduceLeDiff, Nat.reduceEqDiff, reduceCtorEq, Int.reduceToNat, Int.reduceLE, Int.reduceLT, Int.reduceBEq, Int.reduceBNe, mCall, h1, h2]
theorem odd1_spec (t : Tm) (hs : t.size < room) : (lim C).call 100 [dT t] [] = retB (!mayB t) := by
  rw [ev_fn 100 Tryz.f100 _ _ _ rfl Tryz.func100 rfl Tryz.ntmps100 rfl]
  simp -implicitDefEqProofs (disch := decide +kernel) only [go_sem, ↓reduceIte, Nat.reduceSub, Nat.reduceAdd, Nat.reduceMul, Nat.reduceBEq, Nat.reduceLT, Nat.reduceLeDiff, Nat.reduceEqDiff, reduceCtorEq, Int.reduceToNat, Int.reduceLE, Int.reduceLT, Int.reduceBEq, Int.reduceBNe, mCall, tMay_spec t hs]
def smayB (s : Sb) : Bool := decide ((s.L.length : Int) ≤ 200) && decide (s.sh ≥ 0) && decide (s.sh ≤ 1048576) && maysB s.L
theorem smayS_spec (s : Sb) (hl : s.L.length < room) (hz : ∀ x ∈ s.L, x.size < room) : (lim C).call 82 [dS s] [] = retB (smayB s) := by
  have hc := contains_spec (g := 100) (by decide +kernel) hl (fun x hx => ⟨_, odd1_spec x (hz x hx)⟩)
  unfold smayB
  rw [ev_fn 82 Tryz.f82 _ _ _ rfl Tryz.func82 rfl Tryz.ntmps82 rfl]
  cases h1 : decide ((s.L.length : Int) ≤ 200)
  · simp -implicitDefEqProofs (disch := decide +kernel) only [go_sem, ↓reduceIte, Nat.reduceSub, Nat.reduceAdd, Nat.reduceMul, Nat.reduceBEq, Nat.reduceLT, Nat.reduceLeDiff, Nat.reduceEqDiff, reduceCtorEq, Int.reduceToNat, Int.reduceLE, Int.reduceLT, Int.reduceBEq, Int.reduceBNe, mCall, encS_eq, hc, h1]
  · skip
    cases h2 : decide (s.sh ≥ 0)
    · simp -implicitDefEqProofs (disch := decide +kernel) only [go_sem, ↓reduceIte, Nat.reduceSub, Nat.reduceAdd, Nat.reduceMul, Nat.reduceBEq, Nat.reduceLT, Nat.reduceLeDiff, Nat.reduceEqDiff, reduceCtorEq, Int.reduceToNat, Int.reduceLE, Int.reduceLT, Int.reduceBEq, Int.reduceBNe, mCall, encS_eq, hc, h1, h2]
    · skip
      cases h3 : decide (s.sh ≤ 1048576)
      · simp -implicitDefEqProofs (disch := decide +kernel) only [go_sem, ↓reduceIte, Nat.reduceSub, Nat.reduceAdd, Nat.reduceMul, Nat.reduceBEq, Nat.reduceLT, Nat.reduceLeDiff, Nat.reduceEqDiff, reduceCtorEq, Int.reduceToNat, Int.reduceLE, Int.reduceLT, Int.reduceBEq, Int.reduceBNe, mCall, encS_eq, hc, h1, h2, h3]
      · skip
        cases h4 : maysB s.L
        · rw [h4] at hc
          simp -implicitDefEqProofs (disch := decide +kernel) only [go_sem, ↓reduceIte, Nat.reduceSub, Nat.reduceAdd, Nat.reduceMul, Nat.reduceBEq, Nat.reduceLT, Nat.reduceLeDiff, Nat.reduceEqDiff, reduceCtorEq, Int.reduceToNat, Int.reduceLE, Int.reduceLT, Int.reduceBEq, Int.reduceBNe, mCall, encS_eq, h1, h2, h3, h4, hc]
        · rw [h4] at hc
          simp -implicitDefEqProofs (disch := decide +kernel) only [go_sem, ↓reduceIte, Nat.reduceSub, Nat.reduceAdd, Nat.reduceMul, Nat.reduceBEq, Nat.reduceLT, Nat.reduceLeDiff, Nat.reduceEqDiff, reduceCtorEq, Int.reduceToNat, Int.reduceLE, Int.reduceLT, Int.reduceBEq, Int.reduceBNe, mCall, encS_eq, h1, h2, h3, h4, hc]

/-! ### two slices, one behind the other -/
def cc_sum (a b : List Tm) : Nat → Nat
  | 0 => 0
  | 1 => a.length
  | _ => a.length + b.length
def cc_acc (a b : List Tm) : Nat → List Tm
  | 0 => []
  | 1 => a
  | _ => a ++ b
abbrev cc_X (a b : List Tm) : AV := .d (.slc [.slc (encs a), .slc (encs b)])
def cc_S1 (a b : List Tm) (i : Nat) : St := mk 36 [(0, cc_X a b), (3, dI (cc_sum a b i)), (9, cc_X a b), (10, dI 2), (11, dI i)] [] [] []
def cc_S2 (a b : List Tm) (i : Nat) : St := mk 36 [(6, .own 0 (encs (cc_acc a b i))), (25, cc_X a b), (26, dI 2), (27, dI i)] [] [] [some (cc_acc a b i).length]
theorem cc_step1 {a b : List Tm} (hl : a.length + b.length < room) {i : Nat} (hi : i < 2) : (lim C).code CC (cf (.loop (cf (cf (cs (cf (cs (cs (bodyOf Tryz.f29))))))))) (cc_S1 a b i) = some (.nor, cc_S1 a b (i + 1)) := by
  have hr : room = 1099511627776 := rfl
  have hw1 : IntKind.wrap .i64 (a.length : Int) = (a.length : Int) := wrap_ok (by omega) (by omega)
  have hw2 : IntKind.wrap .i64 ((a.length : Int) + (b.length : Int)) = ((a.length + b.length : Nat) : Int) := by rw [wrap_ok (by omega) (by omega)]; omega
  have hn1 : decide ((a.length : Int) < 0) = false := by simp
  have hn2 : decide (((a.length + b.length : Nat) : Int) < 0) = false := by simp; omega
  have h01 : IntKind.wrap .i64 (0 + 1) = 1 := rfl
  have h12 : IntKind.wrap .i64 (1 + 1) = 2 := rfl
  have h1' : IntKind.wrap .i64 1 = 1 := rfl
  have n2 : ((2 : Nat) : Int) = 2 := rfl
  have l01 : decide ((0 : Int) < 2) = true := rfl
  have l12 : decide ((1 : Int) < 2) = true := rfl
  match i, hi with
  | 0, _ => simp -implicitDefEqProofs (disch := decide +kernel) only [cf, cs, bodyOf, Tryz.f29, Option.getD_some, go_sem, ↓reduceIte, Nat.reduceSub, Nat.reduceAdd, Nat.reduceMul, Nat.reduceBEq, Nat.reduceLT, Nat.reduceLeDiff, Nat.reduceEqDiff, reduceCtorEq, Int.reduceToNat, Int.reduceLE, Int.reduceLT, Int.reduceBEq, Int.reduceBNe, mCall, cc_S1, cc_sum, Int.natCast_zero, Int.natCast_one, Int.zero_add, width_slc, dcells_slc, List.head?_cons, encs_length, hw1, hn1, h01, h1', n2, l01]
  | 1, _ => simp -implicitDefEqProofs (disch := decide +kernel) only [cf, cs, bodyOf, Tryz.f29, Option.getD_some, go_sem, ↓reduceIte, Nat.reduceSub, Nat.reduceAdd, Nat.reduceMul, Nat.reduceBEq, Nat.reduceLT, Nat.reduceLeDiff, Nat.reduceEqDiff, reduceCtorEq, Int.reduceToNat, Int.reduceLE, Int.reduceLT, Int.reduceBEq, Int.reduceBNe, mCall, cc_S1, cc_sum, Int.natCast_zero, Int.natCast_one, width_slc, dcells_slc, List.head?_cons, encs_length, hw2, hn2, h12, h1', n2, l12]
theorem contX_nor (O : Orc) (c : Code) (σ : St) : contX O c (.nor, σ) = O.code CC c σ := rfl
theorem growK_nor (σ : St) : growK (.nor, σ) = growV σ (σ.tmps.getD 3 .undef) := rfl
theorem growV_i (σ : St) (n : Int) : growV σ (.d (.int .i64 n)) = if 0 ≤ n ∧ n ≤ 1099511627776 ∧ 24 < σ.tmps.length then
      some (.nor, { tmps := clrT [3, 9, 10, 11, 12, 23, 24] (((σ.tmps.set 23 .undef).set 24 .undef).set 6 (.own σ.mem.toks.length [])), mem := { σ.mem with locs := clrM [3, 9, 10, 11, 12, 23, 24] σ.mem.locs, toks := σ.mem.toks ++ [some 0] } }) else none := rfl
theorem cc_step2 {a b : List Tm} (hl : a.length + b.length < room) {i : Nat} (hi : i < 2) : (lim C).code CC (cf (.loop (cf (cf (cs (cf (cs (cs (cs (cs (bodyOf Tryz.f29))))))))))) (cc_S2 a b i) = some (.nor, cc_S2 a b (i + 1)) := by
  have hr : room = 1099511627776 := rfl
  have h01 : IntKind.wrap .i64 (0 + 1) = 1 := rfl
  have h12 : IntKind.wrap .i64 (1 + 1) = 2 := rfl
  have h1' : IntKind.wrap .i64 1 = 1 := rfl
  have n2 : ((2 : Nat) : Int) = 2 := rfl
  have l01 : decide ((0 : Int) < 2) = true := rfl
  have l12 : decide ((1 : Int) < 2) = true := rfl
  match i, hi with
  | 0, _ =>
    have ha := fun locs heap => app_more (encs ([] : List Tm)) (encs a) 3 (by simp) locs heap (by simp [encs_length]; omega) (encs_all _) (encs_all _)
    simp only [← encs_append, List.nil_append, encs_length, List.length_nil, Nat.zero_add] at ha
    simp -implicitDefEqProofs (disch := decide +kernel) only [cf, cs, bodyOf, Tryz.f29, Option.getD_some, go_sem, ↓reduceIte, Nat.reduceSub, Nat.reduceAdd, Nat.reduceMul, Nat.reduceBEq, Nat.reduceLT, Nat.reduceLeDiff, Nat.reduceEqDiff, reduceCtorEq, Int.reduceToNat, Int.reduceLE, Int.reduceLT, Int.reduceBEq, Int.reduceBNe, mCall, cc_S2, cc_acc, Int.natCast_zero, Int.natCast_one, width_slc, dcells_slc, List.head?_cons, ha, h01, h1', n2, l01]
  | 1, _ =>
    have ha := fun locs heap => app_more (encs a) (encs b) 3 (by simp) locs heap (by simp [encs_length]; omega) (encs_all _) (encs_all _)
    simp only [← encs_append, encs_length] at ha
    simp -implicitDefEqProofs (disch := decide +kernel) only [cf, cs, bodyOf, Tryz.f29, Option.getD_some, go_sem, ↓reduceIte, Nat.reduceSub, Nat.reduceAdd, Nat.reduceMul, Nat.reduceBEq, Nat.reduceLT, Nat.reduceLeDiff, Nat.reduceEqDiff, reduceCtorEq, Int.reduceToNat, Int.reduceLE, Int.reduceLT, Int.reduceBEq, Int.reduceBNe, mCall, cc_S2, cc_acc, Int.natCast_zero, Int.natCast_one, width_slc, dcells_slc, List.head?_cons, ha, h12, h1', n2, l12, List.length_append]
theorem concat_spec (a b : List Tm) (hl : a.length + b.length < room) : (lim C).call CC [cc_X a b] [] = some (.ret (dL (a ++ b)), []) := by
  have hr : room = 1099511627776 := rfl
  have l22 : decide ((2 : Int) < 2) = false := rfl
  have n2 : ((2 : Nat) : Int) = 2 := rfl
  have hloop1 : (lim C).code CC (.loop (cf (cf (cs (cf (cs (cs (bodyOf Tryz.f29)))))))) (cc_S1 a b 0) = some (.exit 0, mk 36 [(0, cc_X a b), (3, dI (a.length + b.length : Nat)), (9, cc_X a b), (10, dI 2), (11, dI 2), (12, dB false)] [] [] []) := by
    refine loop_run (cc_S1 a b) 2 (fun i hi => cc_step1 hl hi) ?_ (by simp)
    simp -implicitDefEqProofs (disch := decide +kernel) only [cf, cs, bodyOf, Tryz.f29, Option.getD_some, go_sem, ↓reduceIte, Nat.reduceSub, Nat.reduceAdd, Nat.reduceMul, Nat.reduceBEq, Nat.reduceLT, Nat.reduceLeDiff, Nat.reduceEqDiff, reduceCtorEq, Int.reduceToNat, Int.reduceLE, Int.reduceLT, Int.reduceBEq, Int.reduceBNe, mCall, cc_S1, cc_sum, l22, n2]
  have hloop2 : (lim C).code CC (.loop (cf (cf (cs (cf (cs (cs (cs (cs (bodyOf Tryz.f29)))))))))) (cc_S2 a b 0) = some (.exit 2, mk 36 [(6, .own 0 (encs (a ++ b))), (25, cc_X a b), (26, dI 2), (27, dI 2), (28, dB false)] [] [] [some (a ++ b).length]) := by
    refine loop_run (cc_S2 a b) 2 (fun i hi => cc_step2 hl hi) ?_ (by simp)
    simp -implicitDefEqProofs (disch := decide +kernel) only [cf, cs, bodyOf, Tryz.f29, Option.getD_some, go_sem, ↓reduceIte, Nat.reduceSub, Nat.reduceAdd, Nat.reduceMul, Nat.reduceBEq, Nat.reduceLT, Nat.reduceLeDiff, Nat.reduceEqDiff, reduceCtorEq, Int.reduceToNat, Int.reduceLE, Int.reduceLT, Int.reduceBEq, Int.reduceBNe, mCall, cc_S2, cc_acc, l22, n2]
  rw [ev_ext (f := CC) (x := concatX) rfl]
  unfold concatX
  rw [entry_mk Tryz.f29 _ _ Tryz.ntmps29 rfl]
  have hb : 0 ≤ ((a.length + b.length : Nat) : Int) ∧ ((a.length + b.length : Nat) : Int) ≤ 1099511627776 ∧ 24 < 36 := by omega
  simp -implicitDefEqProofs (disch := decide +kernel) only [cf, cs, bodyOf, Tryz.f29, Option.getD_some, go_sem, ↓reduceIte, Nat.reduceSub, Nat.reduceAdd, Nat.reduceMul, Nat.reduceBEq, Nat.reduceLT, Nat.reduceLeDiff, Nat.reduceEqDiff, reduceCtorEq, Int.reduceToNat, Int.reduceLE, Int.reduceLT, Int.reduceBEq, Int.reduceBNe, mCall, contX_nor, growK_nor, growV_i]
  rw [loop_at hloop1 ?hb ?hs]
  case hb => rfl
  case hs => rfl
  simp -implicitDefEqProofs (disch := decide +kernel) only [cf, cs, bodyOf, Tryz.f29, Option.getD_some, go_sem, ↓reduceIte, Nat.reduceSub, Nat.reduceAdd, Nat.reduceMul, Nat.reduceBEq, Nat.reduceLT, Nat.reduceLeDiff, Nat.reduceEqDiff, reduceCtorEq, Int.reduceToNat, Int.reduceLE, Int.reduceLT, Int.reduceBEq, Int.reduceBNe, mCall, contX_nor, growK_nor, growV_i, hb, n2]
  rw [loop_at hloop2 ?hb ?hs]
  case hb => rfl
  case hs => rfl
  simp -implicitDefEqProofs (disch := decide +kernel) only [cf, cs, bodyOf, Tryz.f29, Option.getD_some, go_sem, ↓reduceIte, Nat.reduceSub, Nat.reduceAdd, Nat.reduceMul, Nat.reduceBEq, Nat.reduceLT, Nat.reduceLeDiff, Nat.reduceEqDiff, reduceCtorEq, Int.reduceToNat, Int.reduceLE, Int.reduceLT, Int.reduceBEq, Int.reduceBNe, mCall, contX_nor]
end Go.Proofs.YtkmpfdecjmnccaaGreat
/- subst: apply and spine, gone through. -/
set_option linter.unusedSimpArgs false
set_option linter.unusedVariables false
set_option maxRecDepth 100000
namespace Go.Proofs.YtkmpfdecjmnccaaGreat
open Go.Proofs
abbrev errV (e : Nat) : AV := .iface 33 (.int .i64 (e : Int))
def outR (h : List HO) : R Tm → Option (CR × List HO)
  | .ok u m => some (.ret (dT u), h ++ [.var 0 [dI m]])
  | .er e m => some (.pan (errV e), h ++ [.var 0 [dI m]])
def ap_S (t : Tm) (s : Sb) (h : List HO) (xs : List Tm) (m : Nat) (i : Nat) : St :=
  mk 78 [(0, .href h.length 0), (4, .lref 4 0), (5, .lref 5 0), (6, .lref 6 0), (7, .lref 7 0), (30, dL t.args), (31, dI t.args.length), (32, dI i)]
    [(4, cel3 t), (5, cel2 s), (6, zc3), (7, [dI t.kind, dI t.head, acc 0 (encs xs)])] (h ++ [.var 0 [dI m]]) (accT xs.length)
theorem ap_step {t : Tm} {s : Sb} {h : List HO} {xs : List Tm} {m m' i : Nat} {x : Tm} (hi : i < t.args.length) (hxl : xs.length = i) (hs : t.size < room) (hm : ∀ x ∈ s.L, mayB x = true ∧ vlowB x = true) (hl : s.L.length < room) (hsh : 0 ≤ s.sh ∧ s.sh ≤ 4503599627370496)
    (hrec : (lim C).call 85 [.href h.length 0, dT (t.arg i), dS (below s t i)] (h ++ [.var 0 [dI m]]) = some (.ret (dT x), h ++ [.var 0 [dI m']])) :
    (lim C).code 85 (cf (.loop (cf (cf (cs (cf (cs (cs (cs (bodyOf Tryz.f85)))))))))) (ap_S t s h xs m i) = some (.nor, ap_S t s h (xs ++ [x]) m' (i + 1)) := by
  have hr : room = 1099511627776 := rfl
  have hl' := len_size t
  have hap := fun locs heap => mApp_acc (encs xs) (enc x) 3 locs heap (by rw [encs_length]; omega) (encs_all _) (enc_width _)
  have hsn : encs xs ++ [enc x] = encs (xs ++ [x]) := by rw [encs_append]; rfl
  rw [encs_length, hsn] at hap
  have hxs : (xs ++ [x]).length = xs.length + 1 := by simp
  have hw1 : IntKind.wrap .i64 ((t.args.length : Int) - 1) = (t.args.length : Int) - 1 := wrap_ok (by omega) (by omega)
  have hu := under_spec s hm hl hsh
  unfold below at hrec
  cases k1 : (t.kind == 1)
  · cases k3 : (t.kind == 3)
    · have hb : bindsB t = false := by simp [bindsB, k1, k3]
      rw [bindsB_no hb, if_neg (by decide)] at hrec
      simp -implicitDefEqProofs (disch := decide +kernel) only [cf, cs, bodyOf, Tryz.f85, Option.getD_some, go_sem, ↓reduceIte, Nat.reduceSub, Nat.reduceAdd, Nat.reduceMul, Nat.reduceBEq, Nat.reduceLT, Nat.reduceLeDiff, Nat.reduceEqDiff, reduceCtorEq, Int.reduceToNat, Int.reduceLE, Int.reduceLT, Int.reduceBEq, Int.reduceBNe, mCall, ap_S, cel3, cells_enc, cells_encS, cel2, zc3, acc_keep, acc_drop, (encS_eq s).symm, (encS_eq (underS s)).symm, lt_true hi, arg_get hi, getApp0, setApp0, hrec, hap, hxs, wrap_succ (n := i) (by omega), k1, k3]
    · have hb : bindsB t = true := by simp [bindsB, k1, k3]
      cases he : ((i : Int) == (t.args.length : Int) - 1)
      · rw [bindsB_not he, if_neg (by decide)] at hrec
        simp -implicitDefEqProofs (disch := decide +kernel) only [cf, cs, bodyOf, Tryz.f85, Option.getD_some, go_sem, ↓reduceIte, Nat.reduceSub, Nat.reduceAdd, Nat.reduceMul, Nat.reduceBEq, Nat.reduceLT, Nat.reduceLeDiff, Nat.reduceEqDiff, reduceCtorEq, Int.reduceToNat, Int.reduceLE, Int.reduceLT, Int.reduceBEq, Int.reduceBNe, mCall, ap_S, cel3, cells_enc, cells_encS, cel2, zc3, acc_keep, acc_drop, (encS_eq s).symm, (encS_eq (underS s)).symm, lt_true hi, arg_get hi, getApp0, setApp0, hrec, hap, hxs, wrap_succ (n := i) (by omega), k1, k3, hw1, he]
      · rw [bindsB_bnd hb he, if_pos rfl] at hrec
        simp -implicitDefEqProofs (disch := decide +kernel) only [cf, cs, bodyOf, Tryz.f85, Option.getD_some, go_sem, ↓reduceIte, Nat.reduceSub, Nat.reduceAdd, Nat.reduceMul, Nat.reduceBEq, Nat.reduceLT, Nat.reduceLeDiff, Nat.reduceEqDiff, reduceCtorEq, Int.reduceToNat, Int.reduceLE, Int.reduceLT, Int.reduceBEq, Int.reduceBNe, mCall, ap_S, cel3, cells_enc, cells_encS, cel2, zc3, acc_keep, acc_drop, (encS_eq s).symm, (encS_eq (underS s)).symm, lt_true hi, arg_get hi, getApp0, setApp0, hrec, hap, hxs, wrap_succ (n := i) (by omega), k1, k3, hw1, he, hu]
  · have hb : bindsB t = true := by simp [bindsB, k1]
    cases he : ((i : Int) == (t.args.length : Int) - 1)
    · rw [bindsB_not he, if_neg (by decide)] at hrec
      simp -implicitDefEqProofs (disch := decide +kernel) only [cf, cs, bodyOf, Tryz.f85, Option.getD_some, go_sem, ↓reduceIte, Nat.reduceSub, Nat.reduceAdd, Nat.reduceMul, Nat.reduceBEq, Nat.reduceLT, Nat.reduceLeDiff, Nat.reduceEqDiff, reduceCtorEq, Int.reduceToNat, Int.reduceLE, Int.reduceLT, Int.reduceBEq, Int.reduceBNe, mCall, ap_S, cel3, cells_enc, cells_encS, cel2, zc3, acc_keep, acc_drop, (encS_eq s).symm, (encS_eq (underS s)).symm, lt_true hi, arg_get hi, getApp0, setApp0, hrec, hap, hxs, wrap_succ (n := i) (by omega), k1, hw1, he]
    · rw [bindsB_bnd hb he, if_pos rfl] at hrec
      simp -implicitDefEqProofs (disch := decide +kernel) only [cf, cs, bodyOf, Tryz.f85, Option.getD_some, go_sem, ↓reduceIte, Nat.reduceSub, Nat.reduceAdd, Nat.reduceMul, Nat.reduceBEq, Nat.reduceLT, Nat.reduceLeDiff, Nat.reduceEqDiff, reduceCtorEq, Int.reduceToNat, Int.reduceLE, Int.reduceLT, Int.reduceBEq, Int.reduceBNe, mCall, ap_S, cel3, cells_enc, cells_encS, cel2, zc3, acc_keep, acc_drop, (encS_eq s).symm, (encS_eq (underS s)).symm, lt_true hi, arg_get hi, getApp0, setApp0, hrec, hap, hxs, wrap_succ (n := i) (by omega), k1, hw1, he, hu]
theorem clrT_nil : ∀ ps : List Nat, clrT ps [] = []
  | [] => rfl
  | p :: ps => by rw [clrT]; exact clrT_nil ps
noncomputable def ap_E (t : Tm) (s : Sb) (h : List HO) (xs : List Tm) (m : Nat) : St :=
  { tmps := [], mem := { locs := ll 78 [(4, cel3 t), (5, cel2 s), (6, zc3), (7, [dI t.kind, dI t.head, acc 0 (encs xs)])], heap := h ++ [.var 0 [dI m]], toks := accT xs.length } }
theorem ap_stop {t : Tm} {s : Sb} {h : List HO} {xs : List Tm} {m m' i e : Nat} (hi : i < t.args.length) (hxl : xs.length = i) (hs : t.size < room) (hm : ∀ x ∈ s.L, mayB x = true ∧ vlowB x = true) (hl : s.L.length < room) (hsh : 0 ≤ s.sh ∧ s.sh ≤ 4503599627370496)
    (hrec : (lim C).call 85 [.href h.length 0, dT (t.arg i), dS (below s t i)] (h ++ [.var 0 [dI m]]) = some (.pan (errV e), h ++ [.var 0 [dI m']])) :
    (lim C).code 85 (cf (.loop (cf (cf (cs (cf (cs (cs (cs (bodyOf Tryz.f85)))))))))) (ap_S t s h xs m i) = some (.pan (errV e), ap_E t s h xs m') := by
  have hr : room = 1099511627776 := rfl
  have hl' := len_size t
  have hw1 : IntKind.wrap .i64 ((t.args.length : Int) - 1) = (t.args.length : Int) - 1 := wrap_ok (by omega) (by omega)
  have hu := under_spec s hm hl hsh
  unfold below at hrec
  cases k1 : (t.kind == 1)
  · cases k3 : (t.kind == 3)
    · have hb : bindsB t = false := by simp [bindsB, k1, k3]
      rw [bindsB_no hb, if_neg (by decide)] at hrec
      simp -implicitDefEqProofs (disch := decide +kernel) only [cf, cs, bodyOf, Tryz.f85, Option.getD_some, go_sem, ↓reduceIte, Nat.reduceSub, Nat.reduceAdd, Nat.reduceMul, Nat.reduceBEq, Nat.reduceLT, Nat.reduceLeDiff, Nat.reduceEqDiff, reduceCtorEq, Int.reduceToNat, Int.reduceLE, Int.reduceLT, Int.reduceBEq, Int.reduceBNe, mCall, ap_S, ap_E, clrT_nil, cel3, cells_enc, cells_encS, cel2, zc3, acc_keep, acc_drop, (encS_eq s).symm, (encS_eq (underS s)).symm, lt_true hi, arg_get hi, getApp0, setApp0, hrec, k1, k3]
    · have hb : bindsB t = true := by simp [bindsB, k1, k3]
      cases he : ((i : Int) == (t.args.length : Int) - 1)
      · rw [bindsB_not he, if_neg (by decide)] at hrec
        simp -implicitDefEqProofs (disch := decide +kernel) only [cf, cs, bodyOf, Tryz.f85, Option.getD_some, go_sem, ↓reduceIte, Nat.reduceSub, Nat.reduceAdd, Nat.reduceMul, Nat.reduceBEq, Nat.reduceLT, Nat.reduceLeDiff, Nat.reduceEqDiff, reduceCtorEq, Int.reduceToNat, Int.reduceLE, Int.reduceLT, Int.reduceBEq, Int.reduceBNe, mCall, ap_S, ap_E, clrT_nil, cel3, cells_enc, cells_encS, cel2, zc3, acc_keep, acc_drop, (encS_eq s).symm, (encS_eq (underS s)).symm, lt_true hi, arg_get hi, getApp0, setApp0, hrec, k1, k3, hw1, he]
      · rw [bindsB_bnd hb he, if_pos rfl] at hrec
        simp -implicitDefEqProofs (disch := decide +kernel) only [cf, cs, bodyOf, Tryz.f85, Option.getD_some, go_sem, ↓reduceIte, Nat.reduceSub, Nat.reduceAdd, Nat.reduceMul, Nat.reduceBEq, Nat.reduceLT, Nat.reduceLeDiff, Nat.reduceEqDiff, reduceCtorEq, Int.reduceToNat, Int.reduceLE, Int.reduceLT, Int.reduceBEq, Int.reduceBNe, mCall, ap_S, ap_E, clrT_nil, cel3, cells_enc, cells_encS, cel2, zc3, acc_keep, acc_drop, (encS_eq s).symm, (encS_eq (underS s)).symm, lt_true hi, arg_get hi, getApp0, setApp0, hrec, k1, k3, hw1, he, hu]
  · have hb : bindsB t = true := by simp [bindsB, k1]
    cases he : ((i : Int) == (t.args.length : Int) - 1)
    · rw [bindsB_not he, if_neg (by decide)] at hrec
      simp -implicitDefEqProofs (disch := decide +kernel) only [cf, cs, bodyOf, Tryz.f85, Option.getD_some, go_sem, ↓reduceIte, Nat.reduceSub, Nat.reduceAdd, Nat.reduceMul, Nat.reduceBEq, Nat.reduceLT, Nat.reduceLeDiff, Nat.reduceEqDiff, reduceCtorEq, Int.reduceToNat, Int.reduceLE, Int.reduceLT, Int.reduceBEq, Int.reduceBNe, mCall, ap_S, ap_E, clrT_nil, cel3, cells_enc, cells_encS, cel2, zc3, acc_keep, acc_drop, (encS_eq s).symm, (encS_eq (underS s)).symm, lt_true hi, arg_get hi, getApp0, setApp0, hrec, k1, hw1, he]
    · rw [bindsB_bnd hb he, if_pos rfl] at hrec
      simp -implicitDefEqProofs (disch := decide +kernel) only [cf, cs, bodyOf, Tryz.f85, Option.getD_some, go_sem, ↓reduceIte, Nat.reduceSub, Nat.reduceAdd, Nat.reduceMul, Nat.reduceBEq, Nat.reduceLT, Nat.reduceLeDiff, Nat.reduceEqDiff, reduceCtorEq, Int.reduceToNat, Int.reduceLE, Int.reduceLT, Int.reduceBEq, Int.reduceBNe, mCall, ap_S, ap_E, clrT_nil, cel3, cells_enc, cells_encS, cel2, zc3, acc_keep, acc_drop, (encS_eq s).symm, (encS_eq (underS s)).symm, lt_true hi, arg_get hi, getApp0, setApp0, hrec, k1, hw1, he, hu]

/-! ### spine -/
theorem spn_nil (u : Tm) (l : List Tm) (hl : l = []) (n : Nat) (h : List HO) : (lim C).call 104 [.href h.length 0, dT u, dL l] (h ++ [.var 0 [dI n]]) = some (.ret (dT u), h ++ [.var 0 [dI n]]) := by
  have h0 : ((l.length : Int) == 0) = true := by rw [hl]; rfl
  have he : Dv.agg [.int .i64 u.kind, .int .i64 u.head, .slc (encs u.args)] = enc u := (enc_eq u).symm
  rw [ev_fn 104 Tryz.f104 _ _ _ rfl Tryz.func104 rfl Tryz.ntmps104 rfl]
  simp -implicitDefEqProofs (disch := decide +kernel) only [go_sem, ↓reduceIte, Nat.reduceSub, Nat.reduceAdd, Nat.reduceMul, Nat.reduceBEq, Nat.reduceLT, Nat.reduceLeDiff, Nat.reduceEqDiff, reduceCtorEq, Int.reduceToNat, Int.reduceLE, Int.reduceLT, Int.reduceBEq, Int.reduceBNe, mCall, cells_enc, cel3, h0, he]
theorem spn_lam {u v r a : Tm} {l rest : List Tm} {n m : Nat} {h h' : List HO} (hk : (u.kind == 3) = true) (hu : 0 < u.args.length) (hm : mayB a = true) (hsz : a.size < room) (hl : l = a :: rest) (hlen : l.length < room)
    (hrec : (lim C).call 85 [.href h.length 0, dT (u.arg 0), dS ⟨[a], 0⟩] (h ++ [.var 0 [dI n]]) = some (.ret (dT v), h ++ [.var 0 [dI m]]))
    (hsp : (lim C).call 104 [.href h.length 0, dT v, dL rest] (h ++ [.var 0 [dI m]]) = some (.ret (dT r), h')) : (lim C).call 104 [.href h.length 0, dT u, dL l] (h ++ [.var 0 [dI n]]) = some (.ret (dT r), h') := by
  have hr : room = 1099511627776 := rfl
  have h0 : ((l.length : Int) == 0) = false := by rw [hl]; simp; omega
  have ha : l[0]? = some a := by rw [hl]; rfl
  have hma := tMay_spec a hsz
  rw [hm] at hma
  have h1 : (encs l).take 1 = [enc a] := by rw [hl]; rfl
  have h2 : (encs l).drop 1 = encs rest := by rw [hl]; rfl
  have hle : 1 ≤ l.length := by rw [hl]; simp
  have h3 : (encs l).take l.length = encs l := by rw [← encs_length, List.take_length]
  have hsb : Dv.agg [.slc [enc a], .int .i64 0] = encS ⟨[a], 0⟩ := rfl
  rw [ev_fn 104 Tryz.f104 _ _ _ rfl Tryz.func104 rfl Tryz.ntmps104 rfl]
  simp -implicitDefEqProofs (disch := decide +kernel) only [go_sem, ↓reduceIte, Nat.reduceSub, Nat.reduceAdd, Nat.reduceMul, Nat.reduceBEq, Nat.reduceLT, Nat.reduceLeDiff, Nat.reduceEqDiff, reduceCtorEq, Int.reduceToNat, Int.reduceLE, Int.reduceLT, Int.reduceBEq, Int.reduceBNe, mCall, cells_enc, cel3, h0, hk, ha, arg_get hu, hma, h1, h2, h3, hle, encs_all, encs_length, hsb, hrec, hsp, (enc_eq r).symm]
theorem spn_lam2 {u v a : Tm} {e : Nat} {l rest : List Tm} {n m : Nat} {h h' : List HO} (hk : (u.kind == 3) = true) (hu : 0 < u.args.length) (hm : mayB a = true) (hsz : a.size < room) (hl : l = a :: rest) (hlen : l.length < room)
    (hrec : (lim C).call 85 [.href h.length 0, dT (u.arg 0), dS ⟨[a], 0⟩] (h ++ [.var 0 [dI n]]) = some (.ret (dT v), h ++ [.var 0 [dI m]]))
    (hsp : (lim C).call 104 [.href h.length 0, dT v, dL rest] (h ++ [.var 0 [dI m]]) = some (.pan (errV e), h')) : (lim C).call 104 [.href h.length 0, dT u, dL l] (h ++ [.var 0 [dI n]]) = some (.pan (errV e), h') := by
  have hr : room = 1099511627776 := rfl
  have h0 : ((l.length : Int) == 0) = false := by rw [hl]; simp; omega
  have ha : l[0]? = some a := by rw [hl]; rfl
  have hma := tMay_spec a hsz
  rw [hm] at hma
  have h1 : (encs l).take 1 = [enc a] := by rw [hl]; rfl
  have h2 : (encs l).drop 1 = encs rest := by rw [hl]; rfl
  have hle : 1 ≤ l.length := by rw [hl]; simp
  have h3 : (encs l).take l.length = encs l := by rw [← encs_length, List.take_length]
  have hsb : Dv.agg [.slc [enc a], .int .i64 0] = encS ⟨[a], 0⟩ := rfl
  rw [ev_fn 104 Tryz.f104 _ _ _ rfl Tryz.func104 rfl Tryz.ntmps104 rfl]
  simp -implicitDefEqProofs (disch := decide +kernel) only [go_sem, ↓reduceIte, Nat.reduceSub, Nat.reduceAdd, Nat.reduceMul, Nat.reduceBEq, Nat.reduceLT, Nat.reduceLeDiff, Nat.reduceEqDiff, reduceCtorEq, Int.reduceToNat, Int.reduceLE, Int.reduceLT, Int.reduceBEq, Int.reduceBNe, mCall, cells_enc, cel3, h0, hk, ha, arg_get hu, hma, h1, h2, h3, hle, encs_all, encs_length, hsb, hrec, hsp]
theorem spn_lam1 {u a : Tm} {e : Nat} {l rest : List Tm} {n m : Nat} {h h' : List HO} (hk : (u.kind == 3) = true) (hu : 0 < u.args.length) (hm : mayB a = true) (hsz : a.size < room) (hl : l = a :: rest) (hlen : l.length < room)
    (hrec : (lim C).call 85 [.href h.length 0, dT (u.arg 0), dS ⟨[a], 0⟩] (h ++ [.var 0 [dI n]]) = some (.pan (errV e), h')) : (lim C).call 104 [.href h.length 0, dT u, dL l] (h ++ [.var 0 [dI n]]) = some (.pan (errV e), h') := by
  have hr : room = 1099511627776 := rfl
  have h0 : ((l.length : Int) == 0) = false := by rw [hl]; simp; omega
  have ha : l[0]? = some a := by rw [hl]; rfl
  have hma := tMay_spec a hsz
  rw [hm] at hma
  have h1 : (encs l).take 1 = [enc a] := by rw [hl]; rfl
  have h2 : (encs l).drop 1 = encs rest := by rw [hl]; rfl
  have hle : 1 ≤ l.length := by rw [hl]; simp
  have h3 : (encs l).take l.length = encs l := by rw [← encs_length, List.take_length]
  have hsb : Dv.agg [.slc [enc a], .int .i64 0] = encS ⟨[a], 0⟩ := rfl
  rw [ev_fn 104 Tryz.f104 _ _ _ rfl Tryz.func104 rfl Tryz.ntmps104 rfl]
  simp -implicitDefEqProofs (disch := decide +kernel) only [go_sem, ↓reduceIte, Nat.reduceSub, Nat.reduceAdd, Nat.reduceMul, Nat.reduceBEq, Nat.reduceLT, Nat.reduceLeDiff, Nat.reduceEqDiff, reduceCtorEq, Int.reduceToNat, Int.reduceLE, Int.reduceLT, Int.reduceBEq, Int.reduceBNe, mCall, cells_enc, cel3, h0, hk, ha, arg_get hu, hma, h1, h2, h3, hle, encs_all, encs_length, hsb, hrec]
theorem spn_big {u a : Tm} {l rest : List Tm} {n : Nat} {h : List HO} (hk : (u.kind == 3) = true) (hm : mayB a = false) (hsz : a.size < room) (hl : l = a :: rest) : (lim C).call 104 [.href h.length 0, dT u, dL l] (h ++ [.var 0 [dI n]]) = some (.pan (errV 4), h ++ [.var 0 [dI n]]) := by
  have hr : room = 1099511627776 := rfl
  have h0 : ((l.length : Int) == 0) = false := by rw [hl]; simp; omega
  have ha : l[0]? = some a := by rw [hl]; rfl
  have hma := tMay_spec a hsz
  rw [hm] at hma
  rw [ev_fn 104 Tryz.f104 _ _ _ rfl Tryz.func104 rfl Tryz.ntmps104 rfl]
  simp -implicitDefEqProofs (disch := decide +kernel) only [go_sem, ↓reduceIte, Nat.reduceSub, Nat.reduceAdd, Nat.reduceMul, Nat.reduceBEq, Nat.reduceLT, Nat.reduceLeDiff, Nat.reduceEqDiff, reduceCtorEq, Int.reduceToNat, Int.reduceLE, Int.reduceLT, Int.reduceBEq, Int.reduceBNe, mCall, cells_enc, cel3, h0, hk, ha, hma, fail_spec]
  rfl
theorem spn_head {u a : Tm} {l rest : List Tm} {n : Nat} {h : List HO} (hk : heads u.kind = true) (hl : l = a :: rest) (hlen : u.args.length + l.length < room) : (lim C).call 104 [.href h.length 0, dT u, dL l] (h ++ [.var 0 [dI n]]) = some (.ret (dT (.mk u.kind u.head (u.args ++ l))), h ++ [.var 0 [dI n]]) := by
  have hr : room = 1099511627776 := rfl
  have h0 : ((l.length : Int) == 0) = false := by rw [hl]; simp; omega
  have hc := concat_spec u.args l hlen
  have he := tm_enc u.kind u.head (u.args ++ l)
  have k3 : (u.kind == 3) = false := by
    simp only [heads, Bool.or_eq_true, beq_iff_eq] at hk
    rcases hk with (hk | hk) | hk <;> rw [hk] <;> rfl
  rw [ev_fn 104 Tryz.f104 _ _ _ rfl Tryz.func104 rfl Tryz.ntmps104 rfl]
  cases k4 : (u.kind == 4)
  · cases k5 : (u.kind == 5)
    · have k2 : (u.kind == 2) = true := by simpa [heads, k4, k5] using hk
      simp -implicitDefEqProofs (disch := decide +kernel) only [go_sem, ↓reduceIte, Nat.reduceSub, Nat.reduceAdd, Nat.reduceMul, Nat.reduceBEq, Nat.reduceLT, Nat.reduceLeDiff, Nat.reduceEqDiff, reduceCtorEq, Int.reduceToNat, Int.reduceLE, Int.reduceLT, Int.reduceBEq, Int.reduceBNe, mCall, cells_enc, cel3, h0, k2, k3, k4, k5, hc, he]
    · simp -implicitDefEqProofs (disch := decide +kernel) only [go_sem, ↓reduceIte, Nat.reduceSub, Nat.reduceAdd, Nat.reduceMul, Nat.reduceBEq, Nat.reduceLT, Nat.reduceLeDiff, Nat.reduceEqDiff, reduceCtorEq, Int.reduceToNat, Int.reduceLE, Int.reduceLT, Int.reduceBEq, Int.reduceBNe, mCall, cells_enc, cel3, h0, k3, k4, k5, hc, he]
  · simp -implicitDefEqProofs (disch := decide +kernel) only [go_sem, ↓reduceIte, Nat.reduceSub, Nat.reduceAdd, Nat.reduceMul, Nat.reduceBEq, Nat.reduceLT, Nat.reduceLeDiff, Nat.reduceEqDiff, reduceCtorEq, Int.reduceToNat, Int.reduceLE, Int.reduceLT, Int.reduceBEq, Int.reduceBNe, mCall, cells_enc, cel3, h0, k3, k4, hc, he]
theorem spn_bad {u a : Tm} {l rest : List Tm} {n : Nat} {h : List HO} (hk : heads u.kind = false) (k3 : (u.kind == 3) = false) (hl : l = a :: rest) : (lim C).call 104 [.href h.length 0, dT u, dL l] (h ++ [.var 0 [dI n]]) = some (.pan (errV 3), h ++ [.var 0 [dI n]]) := by
  have h0 : ((l.length : Int) == 0) = false := by rw [hl]; simp; omega
  simp only [heads, Bool.or_eq_false_iff] at hk
  obtain ⟨⟨k4, k5⟩, k2⟩ := hk
  rw [ev_fn 104 Tryz.f104 _ _ _ rfl Tryz.func104 rfl Tryz.ntmps104 rfl]
  simp -implicitDefEqProofs (disch := decide +kernel) only [go_sem, ↓reduceIte, Nat.reduceSub, Nat.reduceAdd, Nat.reduceMul, Nat.reduceBEq, Nat.reduceLT, Nat.reduceLeDiff, Nat.reduceEqDiff, reduceCtorEq, Int.reduceToNat, Int.reduceLE, Int.reduceLT, Int.reduceBEq, Int.reduceBNe, mCall, cells_enc, cel3, h0, k2, k3, k4, k5, fail_spec]
  rfl
end Go.Proofs.YtkmpfdecjmnccaaGreat
/- subst: apply and spine, told whole. -/
set_option linter.unusedSimpArgs false
set_option linter.unusedVariables false
set_option maxRecDepth 100000
namespace Go.Proofs.YtkmpfdecjmnccaaGreat
open Go.Proofs
theorem seqF_pre {g : Nat → Nat → R Tm} {n : Nat} : ∀ {k : Nat} {xs : List Tm} {m : Nat}, seqF g n k = .ok xs m → ∀ i, i ≤ k → ∃ ys m1, seqF g n i = .ok ys m1
  | 0, xs, m, h, i, hi => by
    obtain rfl : i = 0 := by omega
    exact ⟨_, _, h⟩
  | k + 1, xs, m, h, i, hi => by
    rcases Nat.lt_or_ge k i with hk | hk
    · obtain rfl : i = k + 1 := by omega
      exact ⟨_, _, h⟩
    · obtain ⟨ys, m1, h1, _⟩ := R.bind_eq h
      exact seqF_pre h1 i hk
theorem seqF_er {g : Nat → Nat → R Tm} {n : Nat} : ∀ {k e m : Nat}, seqF g n k = .er e m → ∃ j xs mj, j < k ∧ seqF g n j = .ok xs mj ∧ g j mj = .er e m
  | 0, e, m, h => by cases h
  | k + 1, e, m, h => by
    cases hk : seqF g n k with
    | er e' m' =>
      simp only [seqF, hk, R.bind_er, R.er.injEq] at h
      obtain ⟨rfl, rfl⟩ := h
      obtain ⟨j, xs, mj, h1, h2, h3⟩ := seqF_er hk
      exact ⟨j, xs, mj, by omega, h2, h3⟩
    | ok xs mk =>
      simp only [seqF, hk, R.bind_ok] at h
      cases hg : g k mk with
      | er e' m' =>
        rw [hg, R.bind_er] at h
        simp only [R.er.injEq] at h
        obtain ⟨rfl, rfl⟩ := h
        exact ⟨k, xs, mk, by omega, hk, hg⟩
      | ok x m' => rw [hg] at h; cases h
structure Pre (f n : Nat) (K D H : Int) (t : Tm) (s : Sb) : Prop where
  fuel : 40000 ≤ n + f
  nodes : nodesB t = true
  vle : vleB K t = true
  k0 : 0 ≤ K
  kh : K ≤ H
  kd : K + D ≤ H
  sd : s.sh - s.L.length ≤ D
  ok : SOk H s
  top : H + 40001 ≤ 4503599627370496 + n
  ts : t.size < room
  sl : s.L.length + 40001 ≤ 1000000000000 + n
  ss : s.sh + 40001 ≤ 4503599627370496 + n
  nb : n ≤ 40000
def Walk (f : Nat) : Prop := ∀ (t : Tm) (s : Sb) (n : Nat) (h : List HO) (K D H : Int), Pre f n K D H t s →
  (lim C).call 85 [.href h.length 0, dT t, dS s] (h ++ [.var 0 [dI n]]) = outR h (ap f t s n)
theorem spn_walk {f : Nat} (hA : Walk f) : ∀ (args : List Tm) (u : Tm) (n : Nat) (h : List HO) (H : Int), 40000 ≤ n + f → n ≤ 40000 → nodesB u = true → vleB H u = true → 0 ≤ H → H + 40001 ≤ 4503599627370496 + n →
    (∀ x ∈ args, nodesB x = true ∧ vleB H x = true) → u.size + (args.map Tm.size).sum + (40000 - n) * 4001 < room →
    (lim C).call 104 [.href h.length 0, dT u, dL args] (h ++ [.var 0 [dI n]]) = outR h (spnA (ap f) u args n)
  | [], u, n, h, H, _, _, _, _, _, _, _, _ => spn_nil u [] rfl n h
  | a :: rest, u, n, h, H, hf, hn, hu, hv, h0, ht, ha, hz => by
    have hr : room = 1099511627776 := rfl
    obtain ⟨a1, a2⟩ := ha a (by simp)
    have hlen := len_sum (a :: rest)
    simp only [List.map_cons, List.sum_cons] at hz hlen
    have hul := len_size u
    have hsza : a.size < room := by omega
    have hlr : (a :: rest).length < room := by omega
    simp only [spnA]
    split
    · rename_i hk
      have hkb : (u.kind == 3) = true := by simpa using hk
      split
      · rename_i hm
        have hul1 : u.args.length = 1 := by
          have hnu := node_here hu
          unfold nodeOk at hnu
          simp [hk] at hnu
          exact hnu.2
        have hu0 : nodesB (u.arg 0) = true := node_args hu 0 (by omega)
        have hv0 : vleB H (u.arg 0) = true := vle_args hv 0 (by omega)
        have hs1 : SOk H ⟨[a], 0⟩ := ⟨by simpa using hm, by simpa using a2, by simp⟩
        have hsz0 := size_arg (arg_mem (t := u) (i := 0) (by omega))
        have hw := hA (u.arg 0) ⟨[a], 0⟩ n h H (-1) H ⟨hf, hu0, hv0, h0, Int.le_refl _, by omega, by simp, hs1, ht, by omega, by simp; omega, by simp; omega, hn⟩
        cases hap : ap f (u.arg 0) ⟨[a], 0⟩ n with
        | er e m =>
          rw [hap] at hw
          rw [R.bind_er]
          exact spn_lam1 (m := m) (h' := h ++ [.var 0 [dI m]]) hkb (by omega) hm (rest := rest) hsza rfl hlr hw
        | ok v m =>
          rw [hap] at hw
          rw [R.bind_ok]
          obtain ⟨_, hft⟩ := ap_fits f (u.arg 0) ⟨[a], 0⟩ n H (-1) H v m hu0 hv0 h0 (Int.le_refl _) (by omega) (by simp) hs1 hap
          have q1 := hft.lt
          have q2 := hft.lim
          have q3 := hft.size
          have q4 : (40000 - n) * 4001 = (m - n) * 4001 + (40000 - m) * 4001 := by rw [← Nat.add_mul]; congr 1; omega
          have ih := spn_walk hA rest v m h (H + ((m - n : Nat) : Int)) (by omega) q2 hft.nodes hft.vle (by omega) (by omega) (fun x hx => ⟨(ha x (by simp [hx])).1, vle_mono (by omega) (ha x (by simp [hx])).2⟩) (by omega)
          cases hsp : spnA (ap f) v rest m with
          | er e m' =>
            rw [hsp] at ih
            exact spn_lam2 hkb (by omega) hm (rest := rest) hsza rfl hlr hw ih
          | ok r m' =>
            rw [hsp] at ih
            exact spn_lam hkb (by omega) hm (rest := rest) hsza rfl hlr hw ih
      · rename_i hm
        exact spn_big hkb (by simpa using hm) hsza rfl
    · rename_i hk
      have hkb : (u.kind == 3) = false := by simpa using hk
      split
      · rename_i hh
        exact spn_head (rest := rest) hh rfl (by omega)
      · rename_i hh
        exact spn_bad (by simpa using hh) hkb rfl

/-! ### apply -/
theorem ap_over {t : Tm} {s : Sb} {n : Nat} {h : List HO} (hn : n + 1 > 40000) (hn2 : n < 9223372036854775807) : (lim C).call 85 [.href h.length 0, dT t, dS s] (h ++ [.var 0 [dI n]]) = some (.pan (errV 4), h ++ [.var 0 [dI (n + 1 : Nat)]]) := by
  have hgt : decide (((n + 1 : Nat) : Int) > 40000) = true := by simp; omega
  rw [ev_fn 85 Tryz.f85 _ _ _ rfl Tryz.func85 rfl Tryz.ntmps85 rfl]
  simp -implicitDefEqProofs (disch := decide +kernel) only [go_sem, ↓reduceIte, Nat.reduceSub, Nat.reduceAdd, Nat.reduceMul, Nat.reduceBEq, Nat.reduceLT, Nat.reduceLeDiff, Nat.reduceEqDiff, reduceCtorEq, Int.reduceToNat, Int.reduceLE, Int.reduceLT, Int.reduceBEq, Int.reduceBNe, mCall, cells_enc, cells_encS, cel3, cel2, getApp0, setApp0, wrap_succ hn2, hgt, fail_spec]
  rfl
def ap_X (t : Tm) (s : Sb) (h : List HO) (xs : List Tm) (m : Nat) : St :=
  mk 78 [(0, .href h.length 0), (4, .lref 4 0), (5, .lref 5 0), (6, .lref 6 0), (7, .lref 7 0), (30, dL t.args), (31, dI t.args.length), (32, dI t.args.length), (33, dB false)]
    [(4, cel3 t), (5, cel2 s), (6, zc3), (7, [dI t.kind, dI t.head, acc 0 (encs xs)])] (h ++ [.var 0 [dI m]]) (accT xs.length)
theorem ap_pan {t : Tm} {s : Sb} {n m e : Nat} {h : List HO} {xs : List Tm} (hn : n + 1 ≤ 40000) (hloop : (lim C).code 85 (.loop (cf (cf (cs (cf (cs (cs (cs (bodyOf Tryz.f85))))))))) (ap_S t s h [] (n + 1) 0) = some (.pan (errV e), ap_E t s h xs m)) : (lim C).call 85 [.href h.length 0, dT t, dS s] (h ++ [.var 0 [dI n]]) = some (.pan (errV e), h ++ [.var 0 [dI m]]) := by
  have hgt : decide (((n + 1 : Nat) : Int) > 40000) = false := by simp; omega
  rw [ev_fn 85 Tryz.f85 _ _ _ rfl Tryz.func85 rfl Tryz.ntmps85 rfl]
  simp -implicitDefEqProofs (disch := decide +kernel) only [go_sem, ↓reduceIte, Nat.reduceSub, Nat.reduceAdd, Nat.reduceMul, Nat.reduceBEq, Nat.reduceLT, Nat.reduceLeDiff, Nat.reduceEqDiff, reduceCtorEq, Int.reduceToNat, Int.reduceLE, Int.reduceLT, Int.reduceBEq, Int.reduceBNe, mCall, cells_enc, cells_encS, cel3, cel2, getApp0, setApp0, wrap_succ (n := n) (by omega), hgt]
  rw [loop_at hloop ?hb ?hs]
  case hb => rfl
  case hs => rfl
  simp -implicitDefEqProofs (disch := decide +kernel) only [go_sem, ↓reduceIte, Nat.reduceSub, Nat.reduceAdd, Nat.reduceMul, Nat.reduceBEq, Nat.reduceLT, Nat.reduceLeDiff, Nat.reduceEqDiff, reduceCtorEq, Int.reduceToNat, Int.reduceLE, Int.reduceLT, Int.reduceBEq, Int.reduceBNe, mCall, ap_E]
theorem ap_ret {t : Tm} {s : Sb} {n m : Nat} {h : List HO} {xs : List Tm} (hn : n + 1 ≤ 40000) (k4 : (t.kind == 4) = false) (hloop : (lim C).code 85 (.loop (cf (cf (cs (cf (cs (cs (cs (bodyOf Tryz.f85))))))))) (ap_S t s h [] (n + 1) 0) = some (.exit 0, ap_X t s h xs m)) : (lim C).call 85 [.href h.length 0, dT t, dS s] (h ++ [.var 0 [dI n]]) = some (.ret (dT (.mk t.kind t.head xs)), h ++ [.var 0 [dI m]]) := by
  have k4' : (t.kind != 4) = true := by simp [bne, k4]
  have he := tm_enc t.kind t.head xs
  have hgt : decide (((n + 1 : Nat) : Int) > 40000) = false := by simp; omega
  rw [ev_fn 85 Tryz.f85 _ _ _ rfl Tryz.func85 rfl Tryz.ntmps85 rfl]
  simp -implicitDefEqProofs (disch := decide +kernel) only [go_sem, ↓reduceIte, Nat.reduceSub, Nat.reduceAdd, Nat.reduceMul, Nat.reduceBEq, Nat.reduceLT, Nat.reduceLeDiff, Nat.reduceEqDiff, reduceCtorEq, Int.reduceToNat, Int.reduceLE, Int.reduceLT, Int.reduceBEq, Int.reduceBNe, mCall, cells_enc, cells_encS, cel3, cel2, getApp0, setApp0, wrap_succ (n := n) (by omega), hgt]
  rw [loop_at hloop ?hb ?hs]
  case hb => rfl
  case hs => rfl
  simp -implicitDefEqProofs (disch := decide +kernel) only [go_sem, ↓reduceIte, Nat.reduceSub, Nat.reduceAdd, Nat.reduceMul, Nat.reduceBEq, Nat.reduceLT, Nat.reduceLeDiff, Nat.reduceEqDiff, reduceCtorEq, Int.reduceToNat, Int.reduceLE, Int.reduceLT, Int.reduceBEq, Int.reduceBNe, mCall, ap_X, zc3, cel3, k4', acc_keep, acc_drop, he]
theorem ap_var {t : Tm} {s : Sb} {n m : Nat} {h h' : List HO} {xs : List Tm} {r : Tm} (hn : n + 1 ≤ 40000) (k4 : (t.kind == 4) = true) (hloop : (lim C).code 85 (.loop (cf (cf (cs (cf (cs (cs (cs (bodyOf Tryz.f85))))))))) (ap_S t s h [] (n + 1) 0) = some (.exit 0, ap_X t s h xs m))
    (hof : (lim C).call 105 [dS s, dI t.head] [] = some (.ret (dT (ofS s t.head)), []))
    (hsp : (lim C).call 104 [.href h.length 0, dT (ofS s t.head), dL xs] (h ++ [.var 0 [dI m]]) = some (.ret (dT r), h')) : (lim C).call 85 [.href h.length 0, dT t, dS s] (h ++ [.var 0 [dI n]]) = some (.ret (dT r), h') := by
  have k4' : (t.kind != 4) = false := by simp [bne, k4]
  have hgt : decide (((n + 1 : Nat) : Int) > 40000) = false := by simp; omega
  rw [ev_fn 85 Tryz.f85 _ _ _ rfl Tryz.func85 rfl Tryz.ntmps85 rfl]
  simp -implicitDefEqProofs (disch := decide +kernel) only [go_sem, ↓reduceIte, Nat.reduceSub, Nat.reduceAdd, Nat.reduceMul, Nat.reduceBEq, Nat.reduceLT, Nat.reduceLeDiff, Nat.reduceEqDiff, reduceCtorEq, Int.reduceToNat, Int.reduceLE, Int.reduceLT, Int.reduceBEq, Int.reduceBNe, mCall, cells_enc, cells_encS, cel3, cel2, getApp0, setApp0, wrap_succ (n := n) (by omega), hgt]
  rw [loop_at hloop ?hb ?hs]
  case hb => rfl
  case hs => rfl
  simp -implicitDefEqProofs (disch := decide +kernel) only [go_sem, ↓reduceIte, Nat.reduceSub, Nat.reduceAdd, Nat.reduceMul, Nat.reduceBEq, Nat.reduceLT, Nat.reduceLeDiff, Nat.reduceEqDiff, reduceCtorEq, Int.reduceToNat, Int.reduceLE, Int.reduceLT, Int.reduceBEq, Int.reduceBNe, mCall, ap_X, zc3, cel3, cel2, (encS_eq s).symm, cells_enc, k4', acc_keep, acc_drop, hof, hsp, (enc_eq r).symm]
theorem ap_var2 {t : Tm} {s : Sb} {n m e : Nat} {h h' : List HO} {xs : List Tm} (hn : n + 1 ≤ 40000) (k4 : (t.kind == 4) = true) (hloop : (lim C).code 85 (.loop (cf (cf (cs (cf (cs (cs (cs (bodyOf Tryz.f85))))))))) (ap_S t s h [] (n + 1) 0) = some (.exit 0, ap_X t s h xs m))
    (hof : (lim C).call 105 [dS s, dI t.head] [] = some (.ret (dT (ofS s t.head)), []))
    (hsp : (lim C).call 104 [.href h.length 0, dT (ofS s t.head), dL xs] (h ++ [.var 0 [dI m]]) = some (.pan (errV e), h')) : (lim C).call 85 [.href h.length 0, dT t, dS s] (h ++ [.var 0 [dI n]]) = some (.pan (errV e), h') := by
  have k4' : (t.kind != 4) = false := by simp [bne, k4]
  have hgt : decide (((n + 1 : Nat) : Int) > 40000) = false := by simp; omega
  rw [ev_fn 85 Tryz.f85 _ _ _ rfl Tryz.func85 rfl Tryz.ntmps85 rfl]
  simp -implicitDefEqProofs (disch := decide +kernel) only [go_sem, ↓reduceIte, Nat.reduceSub, Nat.reduceAdd, Nat.reduceMul, Nat.reduceBEq, Nat.reduceLT, Nat.reduceLeDiff, Nat.reduceEqDiff, reduceCtorEq, Int.reduceToNat, Int.reduceLE, Int.reduceLT, Int.reduceBEq, Int.reduceBNe, mCall, cells_enc, cells_encS, cel3, cel2, getApp0, setApp0, wrap_succ (n := n) (by omega), hgt]
  rw [loop_at hloop ?hb ?hs]
  case hb => rfl
  case hs => rfl
  simp -implicitDefEqProofs (disch := decide +kernel) only [go_sem, ↓reduceIte, Nat.reduceSub, Nat.reduceAdd, Nat.reduceMul, Nat.reduceBEq, Nat.reduceLT, Nat.reduceLeDiff, Nat.reduceEqDiff, reduceCtorEq, Int.reduceToNat, Int.reduceLE, Int.reduceLT, Int.reduceBEq, Int.reduceBNe, mCall, ap_X, zc3, cel3, cel2, (encS_eq s).symm, cells_enc, k4', acc_keep, acc_drop, hof, hsp]
def ap_SS (t : Tm) (s : Sb) (h : List HO) (g : Nat → Nat → R Tm) (n i : Nat) : St := match seqF g n i with
  | .ok xs m => ap_S t s h xs m i
  | .er _ _ => ap_S t s h [] n i
theorem ap_walk : ∀ f : Nat, Walk f
  | 0 => fun t s n h K D H p => by
    have h1 := p.fuel
    have h2 := p.nb
    rw [ap_zero]
    exact ap_over (by omega) (by omega)
  | f + 1 => fun t s n h K D H p => by
    have hr : room = 1099511627776 := rfl
    have ih := ap_walk f
    have hfu := p.fuel
    have htop := p.top
    have hsl := p.sl
    have hss := p.ss
    have hts := p.ts
    have hkh := p.kh
    have hkd := p.kd
    have hk0 := p.k0
    have hl' := len_size t
    rw [ap_succ]
    by_cases hn : n + 1 > 40000
    · rw [if_pos hn]
      exact ap_over hn (by have := p.nb; omega)
    rw [if_neg hn]
    have hm : ∀ x ∈ s.L, mayB x = true ∧ vlowB x = true := fun x hx => ⟨p.ok.may x hx, vle_mono (by omega) (p.ok.vle x hx)⟩
    have hsh := p.ok.sh
    -- each round
    have hpre : ∀ i, i < t.args.length → ∀ xs m, seqF (fun i m => ap f (t.arg i) (below s t i) m) (n + 1) i = .ok xs m → n + 1 ≤ m ∧ m ≤ 40000 ∧ Pre f m K D (H + 1) (t.arg i) (below s t i) := by
      intro i hi xs m he
      obtain ⟨q1, q2, _, _⟩ := seq_fits (H := H) t.args.length (fun i hi m x m' hm hx => by
        obtain ⟨b1, b2⟩ := below_ok (t := t) (i := i) p.ok (by omega) p.sd
        exact ap_fits f _ _ m K D (H + 1) x m' (node_args p.nodes i hi) (vle_args p.vle i hi) hk0 (by omega) (by omega) b2 b1 hx) (by omega) i (by omega) xs m he
      obtain ⟨b1, b2⟩ := below_ok (t := t) (i := i) p.ok (by omega) p.sd
      have hsz := size_arg (arg_mem hi)
      refine ⟨q1, q2, by omega, node_args p.nodes i hi, vle_args p.vle i hi, hk0, by omega, by omega, b2, b1, by omega, by omega, ?_, ?_, q2⟩
      · unfold below
        split
        · rw [under_len]; omega
        · omega
      · unfold below
        split
        · simp only [underS]; omega
        · omega
    have hstep : ∀ i, i < t.args.length → (∃ ys m', seqF (fun i m => ap f (t.arg i) (below s t i) m) (n + 1) (i + 1) = .ok ys m') →
        (lim C).code 85 (cf (.loop (cf (cf (cs (cf (cs (cs (cs (bodyOf Tryz.f85)))))))))) (ap_SS t s h (fun i m => ap f (t.arg i) (below s t i) m) (n + 1) i) = some (.nor, ap_SS t s h (fun i m => ap f (t.arg i) (below s t i) m) (n + 1) (i + 1)) := by
      rintro i hi ⟨ys, m', he⟩
      obtain ⟨xs, m, h1, h2⟩ := R.bind_eq he
      obtain ⟨x, m2, h3, h4⟩ := R.bind_eq h2
      cases h4
      obtain ⟨q1, q2, q3⟩ := hpre i hi xs m h1
      have hrec := ih _ _ m h _ _ _ q3
      have h3' : ap f (t.arg i) (below s t i) m = .ok x m' := h3
      rw [h3'] at hrec
      have hxl := seqF_len _ _ _ _ _ h1
      unfold ap_SS
      rw [h1, he]
      exact ap_step hi hxl hts hm (by omega) ⟨hsh, by omega⟩ hrec
    have hS0 : ap_SS t s h (fun i m => ap f (t.arg i) (below s t i) m) (n + 1) 0 = ap_S t s h [] (n + 1) 0 := rfl
    cases hseq : seqF (fun i m => ap f (t.arg i) (below s t i) m) (n + 1) t.args.length with
    | er e m =>
      rw [R.bind_er]
      obtain ⟨j, xs, mj, hj, h1, h2⟩ := seqF_er hseq
      obtain ⟨q1, q2, q3⟩ := hpre j hj xs mj h1
      have hrec := ih _ _ mj h _ _ _ q3
      have h2' : ap f (t.arg j) (below s t j) mj = .er e m := h2
      rw [h2'] at hrec
      have hxl := seqF_len _ _ _ _ _ h1
      refine ap_pan (xs := xs) (by omega) ?_
      rw [← hS0]
      refine loop_run (ap_SS t s h (fun i m => ap f (t.arg i) (below s t i) m) (n + 1)) j (fun i hi => hstep i (by omega) (seqF_pre h1 (i + 1) (by omega))) ?_ (by simp)
      have : ap_SS t s h (fun i m => ap f (t.arg i) (below s t i) m) (n + 1) j = ap_S t s h xs mj j := by unfold ap_SS; rw [h1]
      rw [this]
      exact ap_stop hj hxl hts hm (by omega) ⟨hsh, by omega⟩ hrec
    | ok xs m =>
      rw [R.bind_ok]
      have hxl := seqF_len _ _ _ _ _ hseq
      have hloop : (lim C).code 85 (.loop (cf (cf (cs (cf (cs (cs (cs (bodyOf Tryz.f85))))))))) (ap_S t s h [] (n + 1) 0) = some (.exit 0, ap_X t s h xs m) := by
        rw [← hS0]
        refine loop_run (ap_SS t s h (fun i m => ap f (t.arg i) (below s t i) m) (n + 1)) t.args.length (fun i hi => hstep i hi (seqF_pre hseq (i + 1) (by omega))) ?_ (by simp)
        have : ap_SS t s h (fun i m => ap f (t.arg i) (below s t i) m) (n + 1) t.args.length = ap_S t s h xs m t.args.length := by unfold ap_SS; rw [hseq]
        rw [this]
        simp -implicitDefEqProofs (disch := decide +kernel) only [cf, cs, bodyOf, Tryz.f85, Option.getD_some, go_sem, ↓reduceIte, Nat.reduceSub, Nat.reduceAdd, Nat.reduceMul, Nat.reduceBEq, Nat.reduceLT, Nat.reduceLeDiff, Nat.reduceEqDiff, reduceCtorEq, Int.reduceToNat, Int.reduceLE, Int.reduceLT, Int.reduceBEq, Int.reduceBNe, mCall, ap_S, ap_X, lt_false (Nat.le_refl t.args.length)]
      obtain ⟨q1, q2, q3, q4⟩ := seq_fits (H := H) t.args.length (fun i hi m x m' hm hx => by
        obtain ⟨b1, b2⟩ := below_ok (t := t) (i := i) p.ok (by omega) p.sd
        exact ap_fits f _ _ m K D (H + 1) x m' (node_args p.nodes i hi) (vle_args p.vle i hi) hk0 (by omega) (by omega) b2 b1 hx) (by omega) _ (Nat.le_refl _) xs m hseq
      by_cases hk : t.kind = 4
      · rw [if_pos hk]
        have hkb : (t.kind == 4) = true := by simpa using hk
        have hh0 := node_head (node_here p.nodes)
        have hh1 := vle_here p.vle hk
        obtain ⟨o1, o2, o3⟩ := of_ok p.ok hh0 hh1 p.sd hkd
        have hof := of_spec s t.head hh0 (by omega) (by omega) ⟨hsh, by omega⟩ (fun x hx => by have := (may_parts (p.ok.may x hx)).2.1; omega)
        have q5 : (m - (n + 1)) * 4001 + (40000 - m) * 4001 ≤ 40000 * 4001 := by rw [← Nat.add_mul]; exact Nat.mul_le_mul_right _ (by omega)
        have hsp := spn_walk ih xs (ofS s t.head) m h (H + 1 + ((m - (n + 1) : Nat) : Int)) (by omega) q2 o1 (vle_mono (by omega) o2) (by omega) (by omega) q3 (by omega)
        cases hs : spnA (ap f) (ofS s t.head) xs m with
        | ok r m' => rw [hs] at hsp; exact ap_var (by omega) hkb hloop hof hsp
        | er e m' => rw [hs] at hsp; exact ap_var2 (by omega) hkb hloop hof hsp
      · rw [if_neg hk]
        exact ap_ret (by omega) (by simpa using hk) hloop
end Go.Proofs.YtkmpfdecjmnccaaGreat
/- subst: done, Apply, Spine. -/
set_option linter.unusedSimpArgs false
set_option linter.unusedVariables false
set_option maxRecDepth 100000
namespace Go.Proofs.YtkmpfdecjmnccaaGreat
open Go.Proofs
theorem done0_eq (x : AV) (a b : HO) : done0 x [a, b] = mk 14 [(0, x), (2, .href 2 0), (3, .href 3 0), (4, .undef)] [] [a, b, .var 0 zTerm, .var 0 [dI 0]] [] := rfl
theorem doneX_eq (O : Orc) (x : AV) (heap : List HO) : doneX O [x] heap = (O.code 83 (cs (cs (bodyOf Tryz.f83))) (done0 x heap)).bind (doneEnd heap.length) := rfl
theorem doneEnd_ret (n : Nat) (σ : St) : doneEnd n (.ret, σ) = leave Tryz.prog Tryz.f83 (.ret, σ) := rfl
theorem doneEnd_pan (n : Nat) (e : Int) (σ : St) : doneEnd n (.pan (.iface 33 (.int .i64 e)), σ) = recK n e σ.mem.heap (σ.tmps.getD 2 .undef) (σ.tmps.getD 3 .undef) (σ.mem.heap[n]?) (σ.mem.heap[n + 1]?) := rfl
theorem recK_s (n : Nat) (e : Int) (h : List HO) (u v : Nat) (a b c d : AV) : recK n e h (.href n 0) (.href (n + 1) 0) (some (.var u [a, b, c])) (some (.var v [d])) = some (.ret (.tup [.d (.agg [.int .i64 0, .int .i64 0, .slc []]), .d (.int .i64 e)]), (h.set n (.var u zTerm)).set (n + 1) (.var v [.d (.int .i64 e)])) := by
  simp [recK]
def outD : R Tm → Tm × Int
  | .ok u m => if mayB u then (u, 0) else (zT, 4)
  | .er e m => (zT, e)
theorem done_ok {g : Nat} {a b : List AV} {u : Tm} {m : Nat} (hs : u.size < room) (hm : mayB u = true)
    (hdo : (lim C).call g [.href 4 0, .href 0 0, .href 1 0] [.var 0 a, .var 0 b, .var 0 zTerm, .var 0 [dI 0], .var 0 [dI 0]] = some (.ret (dT u), [.var 0 a, .var 0 b, .var 0 zTerm, .var 0 [dI 0], .var 0 [dI m]])) :
    (lim C).call 83 [.fn g [] [.href 0 0, .href 1 0]] [.var 0 a, .var 0 b] = some (.ret (.tup [dT u, dI 0]), [.var 0 a, .var 0 b, .var 0 (cel3 u), .var 0 [dI 0], .var 0 [dI m]]) := by
  have hma := tMay_spec u hs
  rw [hm] at hma
  rw [ev_ext (f := 83) (x := doneX) rfl, doneX_eq, done0_eq]
  unfold zTerm at hdo
  simp -implicitDefEqProofs (disch := decide +kernel) only [cf, cs, bodyOf, Tryz.f83, Option.getD_some, go_sem, ↓reduceIte, Nat.reduceSub, Nat.reduceAdd, Nat.reduceMul, Nat.reduceBEq, Nat.reduceLT, Nat.reduceLeDiff, Nat.reduceEqDiff, reduceCtorEq, Int.reduceToNat, Int.reduceLE, Int.reduceLT, Int.reduceBEq, Int.reduceBNe, mCall, zTerm, cells_enc, cel3, hdo, hma, doneEnd_ret, (enc_eq u).symm]
theorem done_big {g : Nat} {a b : List AV} {u : Tm} {m : Nat} (hs : u.size < room) (hm : mayB u = false)
    (hdo : (lim C).call g [.href 4 0, .href 0 0, .href 1 0] [.var 0 a, .var 0 b, .var 0 zTerm, .var 0 [dI 0], .var 0 [dI 0]] = some (.ret (dT u), [.var 0 a, .var 0 b, .var 0 zTerm, .var 0 [dI 0], .var 0 [dI m]])) :
    (lim C).call 83 [.fn g [] [.href 0 0, .href 1 0]] [.var 0 a, .var 0 b] = some (.ret (.tup [dT zT, dI 4]), [.var 0 a, .var 0 b, .var 0 zTerm, .var 0 [dI 4], .var 0 [dI m]]) := by
  have hma := tMay_spec u hs
  rw [hm] at hma
  rw [ev_ext (f := 83) (x := doneX) rfl, doneX_eq, done0_eq]
  unfold zTerm at hdo
  simp -implicitDefEqProofs (disch := decide +kernel) only [cf, cs, bodyOf, Tryz.f83, Option.getD_some, go_sem, ↓reduceIte, Nat.reduceSub, Nat.reduceAdd, Nat.reduceMul, Nat.reduceBEq, Nat.reduceLT, Nat.reduceLeDiff, Nat.reduceEqDiff, reduceCtorEq, Int.reduceToNat, Int.reduceLE, Int.reduceLT, Int.reduceBEq, Int.reduceBNe, mCall, zTerm, cells_enc, cel3, hdo, hma, fail_spec, doneEnd_pan, recK_s, zT_enc]
theorem done_er {g : Nat} {a b : List AV} {e m : Nat}
    (hdo : (lim C).call g [.href 4 0, .href 0 0, .href 1 0] [.var 0 a, .var 0 b, .var 0 zTerm, .var 0 [dI 0], .var 0 [dI 0]] = some (.pan (errV e), [.var 0 a, .var 0 b, .var 0 zTerm, .var 0 [dI 0], .var 0 [dI m]])) :
    (lim C).call 83 [.fn g [] [.href 0 0, .href 1 0]] [.var 0 a, .var 0 b] = some (.ret (.tup [dT zT, dI e]), [.var 0 a, .var 0 b, .var 0 zTerm, .var 0 [dI e], .var 0 [dI m]]) := by
  rw [ev_ext (f := 83) (x := doneX) rfl, doneX_eq, done0_eq]
  unfold zTerm at hdo
  simp -implicitDefEqProofs (disch := decide +kernel) only [cf, cs, bodyOf, Tryz.f83, Option.getD_some, go_sem, ↓reduceIte, Nat.reduceSub, Nat.reduceAdd, Nat.reduceMul, Nat.reduceBEq, Nat.reduceLT, Nat.reduceLeDiff, Nat.reduceEqDiff, reduceCtorEq, Int.reduceToNat, Int.reduceLE, Int.reduceLT, Int.reduceBEq, Int.reduceBNe, mCall, zTerm, cells_enc, cel3, hdo, doneEnd_pan, recK_s, zT_enc]
theorem done_spec {g : Nat} {a b : List AV} {r : R Tm} (hs : ∀ u m, r = .ok u m → u.size < room)
    (hdo : (lim C).call g [.href 4 0, .href 0 0, .href 1 0] [.var 0 a, .var 0 b, .var 0 zTerm, .var 0 [dI 0], .var 0 [dI 0]] = outR [.var 0 a, .var 0 b, .var 0 zTerm, .var 0 [dI 0]] r) :
    ∃ h, (lim C).call 83 [.fn g [] [.href 0 0, .href 1 0]] [.var 0 a, .var 0 b] = some (.ret (.tup [dT (outD r).1, dI (outD r).2]), h) := by
  cases r with
  | ok u m =>
    cases hm : mayB u
    · exact ⟨_, by simp only [outD, hm]; exact done_big (hs u m rfl) hm hdo⟩
    · exact ⟨_, by simp only [outD, hm]; exact done_ok (hs u m rfl) hm hdo⟩
  | er e m => exact ⟨_, done_er hdo⟩
def applyR (t : Tm) (s : Sb) : Tm × Int := if mayB t && smayB s then outD (ap 40000 t s 0) else (zT, 1)
theorem ap1_spec {t : Tm} {s : Sb} {r : R Tm}
    (hw : (lim C).call 85 [.href 4 0, dT t, dS s] [.var 0 (cel3 t), .var 0 (cel2 s), .var 0 zTerm, .var 0 [dI 0], .var 0 [dI 0]] = outR [.var 0 (cel3 t), .var 0 (cel2 s), .var 0 zTerm, .var 0 [dI 0]] r) :
    (lim C).call 84 [.href 4 0, .href 0 0, .href 1 0] [.var 0 (cel3 t), .var 0 (cel2 s), .var 0 zTerm, .var 0 [dI 0], .var 0 [dI 0]] = outR [.var 0 (cel3 t), .var 0 (cel2 s), .var 0 zTerm, .var 0 [dI 0]] r := by
  have he := (enc_eq t).symm
  have hes := (encS_eq s).symm
  rw [ev_fn 84 Tryz.f84 _ _ _ rfl Tryz.func84 rfl Tryz.ntmps84 rfl]
  simp only [zTerm, cel3, cel2] at hw ⊢
  cases r with
  | ok u m =>
    simp only [outR] at hw ⊢
    simp -implicitDefEqProofs (disch := decide +kernel) only [go_sem, ↓reduceIte, Nat.reduceSub, Nat.reduceAdd, Nat.reduceMul, Nat.reduceBEq, Nat.reduceLT, Nat.reduceLeDiff, Nat.reduceEqDiff, reduceCtorEq, Int.reduceToNat, Int.reduceLE, Int.reduceLT, Int.reduceBEq, Int.reduceBNe, mCall, he, hes, hw, (enc_eq u).symm, cells_enc, cel3]
  | er e m =>
    simp only [outR] at hw ⊢
    simp -implicitDefEqProofs (disch := decide +kernel) only [go_sem, ↓reduceIte, Nat.reduceSub, Nat.reduceAdd, Nat.reduceMul, Nat.reduceBEq, Nat.reduceLT, Nat.reduceLeDiff, Nat.reduceEqDiff, reduceCtorEq, Int.reduceToNat, Int.reduceLE, Int.reduceLT, Int.reduceBEq, Int.reduceBNe, mCall, he, hes, hw]

theorem smay_parts {s : Sb} (h : smayB s = true) : s.L.length ≤ 200 ∧ 0 ≤ s.sh ∧ s.sh ≤ 1048576 ∧ ∀ x ∈ s.L, mayB x = true := by
  unfold smayB at h
  simp only [Bool.and_eq_true, decide_eq_true_eq] at h
  obtain ⟨⟨⟨h1, h2⟩, h3⟩, h4⟩ := h
  exact ⟨by omega, h2, h3, maysB_iff.1 h4⟩
abbrev topV : Int := 1125899906842624
theorem pre_top {t : Tm} {s : Sb} (ht : mayB t = true) (hs : smayB s = true) (hv : vleB topV t = true) (hvs : ∀ x ∈ s.L, vleB topV x = true) :
    Pre 40000 0 topV (s.sh - s.L.length) (topV + 1048576) t s := by
  have hr : room = 1099511627776 := rfl
  obtain ⟨p1, p2, p3⟩ := may_parts ht
  obtain ⟨q1, q2, q3, q4⟩ := smay_parts hs
  exact ⟨by omega, p1, hv, by decide, by decide, by omega, by omega, ⟨q4, fun x hx => vle_mono (by decide) (hvs x hx), q2⟩, by decide, by omega, by omega, by omega, by omega⟩
theorem ap_size {t : Tm} {s : Sb} {u : Tm} {m : Nat} (ht : mayB t = true) (hs : smayB s = true) (hv : vleB topV t = true) (hvs : ∀ x ∈ s.L, vleB topV x = true) (h : ap 40000 t s 0 = .ok u m) : Fits 0 m (topV + 1048576) 0 u := by
  have p := pre_top ht hs hv hvs
  exact (ap_fits _ _ _ _ _ _ _ _ _ p.nodes p.vle p.k0 p.kh p.kd p.sd p.ok h).2
theorem sapply_spec (t : Tm) (s : Sb) (hz : t.size < room) (hzs : ∀ x ∈ s.L, x.size < room) (hl : s.L.length < room) (hv : vleB topV t = true) (hvs : ∀ x ∈ s.L, vleB topV x = true) :
    ∃ h, (lim C).call 57 [dT t, dS s] [] = some (.ret (.tup [dT (applyR t s).1, dI (applyR t s).2]), h) := by
  have hr : room = 1099511627776 := rfl
  have hm1 := tMay_spec t hz
  have hm2 := smayS_spec s hl hzs
  have he := (enc_eq t).symm
  have hes := (encS_eq s).symm
  unfold applyR
  cases h1 : mayB t
  · rw [h1] at hm1
    refine ⟨[.var 0 (cel3 t), .var 0 (cel2 s)], ?_⟩
    rw [ev_fn 57 Tryz.f57 _ _ _ rfl Tryz.func57 rfl Tryz.ntmps57 rfl]
    simp -implicitDefEqProofs (disch := decide +kernel) only [go_sem, ↓reduceIte, Nat.reduceSub, Nat.reduceAdd, Nat.reduceMul, Nat.reduceBEq, Nat.reduceLT, Nat.reduceLeDiff, Nat.reduceEqDiff, reduceCtorEq, Int.reduceToNat, Int.reduceLE, Int.reduceLT, Int.reduceBEq, Int.reduceBNe, mCall, cells_enc, cells_encS, cel3, cel2, he, hes, hm1, zT_enc]
  · rw [h1] at hm1
    cases h2 : smayB s
    · rw [h2] at hm2
      refine ⟨[.var 0 (cel3 t), .var 0 (cel2 s)], ?_⟩
      rw [ev_fn 57 Tryz.f57 _ _ _ rfl Tryz.func57 rfl Tryz.ntmps57 rfl]
      simp -implicitDefEqProofs (disch := decide +kernel) only [go_sem, ↓reduceIte, Nat.reduceSub, Nat.reduceAdd, Nat.reduceMul, Nat.reduceBEq, Nat.reduceLT, Nat.reduceLeDiff, Nat.reduceEqDiff, reduceCtorEq, Int.reduceToNat, Int.reduceLE, Int.reduceLT, Int.reduceBEq, Int.reduceBNe, mCall, cells_enc, cells_encS, cel3, cel2, he, hes, hm1, hm2, zT_enc]
    · rw [h2] at hm2
      have hw := ap_walk 40000 t s 0 [.var 0 (cel3 t), .var 0 (cel2 s), .var 0 zTerm, .var 0 [dI 0]] _ _ _ (pre_top h1 h2 hv hvs)
      obtain ⟨h, hd⟩ := done_spec (g := 84) (a := cel3 t) (b := cel2 s) (r := ap 40000 t s 0) (fun u m hu => by
        have := (ap_size h1 h2 hv hvs hu)
        have := this.size
        have := ‹Fits 0 m (topV + 1048576) 0 u›.lim
        have q : (m - 0) * 4001 ≤ 40000 * 4001 := Nat.mul_le_mul_right _ (by omega)
        omega) (ap1_spec hw)
      simp only [cel3, cel2] at hd
      refine ⟨h, ?_⟩
      rw [ev_fn 57 Tryz.f57 _ _ _ rfl Tryz.func57 rfl Tryz.ntmps57 rfl]
      simp -implicitDefEqProofs (disch := decide +kernel) only [go_sem, ↓reduceIte, Nat.reduceSub, Nat.reduceAdd, Nat.reduceMul, Nat.reduceBEq, Nat.reduceLT, Nat.reduceLeDiff, Nat.reduceEqDiff, reduceCtorEq, Int.reduceToNat, Int.reduceLE, Int.reduceLT, Int.reduceBEq, Int.reduceBNe, mCall, cells_enc, cells_encS, cel3, cel2, he, hes, hm1, hm2, hd]

end Go.Proofs.YtkmpfdecjmnccaaGreat
/- Substitutions: laws in plain words. -/
set_option linter.unusedVariables false
set_option linter.unusedSimpArgs false
namespace Go.Proofs.YtkmpfdecjmnccaaGreat
theorem getD_map {l : List Tm} {g : Tm → Tm} {i : Nat} (h : i < l.length) : (l.map g).getD i default = g (l.getD i default) := by
  rw [List.getD_eq_getElem?_getD, List.getD_eq_getElem?_getD, List.getElem?_map, List.getElem?_eq_getElem h]; rfl
theorem getD_append_l {l l' : List Tm} {i : Nat} (h : i < l.length) : (l ++ l').getD i default = l.getD i default := by
  rw [List.getD_eq_getElem?_getD, List.getD_eq_getElem?_getD, List.getElem?_append_left h]
theorem of_under0 (s : Sb) : ofS (underS s) 0 = var0 := by
  unfold ofS
  rw [under_len, if_pos (by omega), show s.L.length + 1 - 1 - (0 : Int).toNat = s.L.length by omega]
  simp only [underS]
  rw [List.getD_eq_getElem?_getD, List.getElem?_append_right (by simp)]
  simp
theorem up_var (j n : Int) (h : j ≥ n) : upT (.mk 4 j []) 1 n = .mk 4 (j + 1) [] := by
  unfold upT
  rw [mapT_eq]
  simp [mk_kind, mk_head, mk_args, gUp, h]
theorem of_under (s : Sb) {i : Int} (h : 0 ≤ i) (hs : 0 ≤ s.sh) : ofS (underS s) (i + 1) = upT (ofS s i) 1 0 := by
  unfold ofS
  rw [under_len]
  by_cases hi : i < s.L.length
  · rw [if_pos (by omega), if_pos hi, show s.L.length + 1 - 1 - (i + 1).toNat = s.L.length - 1 - i.toNat by omega]
    simp only [underS]
    rw [getD_append_l (by simp; omega), getD_map (by omega)]
  · rw [if_neg (by omega), if_neg hi, up_var _ _ (by omega)]
    simp only [underS]
    congr 1; omega
/-! ### where variables become variables -/
/-! ### scopes -/
theorem var_scoped {j v M : Int} (h : j < v) : scopedB (.mk 4 j []) v M = true := by
  rw [scoped_iff]
  exact ⟨fun _ => h, fun hk => by simp [mk_kind] at hk, fun i hi => by simp [mk_args] at hi⟩
theorem bnd_none {k h : Int} {l : List Tm} (hk : heads k = true) (i : Nat) : bnd (.mk k h l) i = 0 := by
  unfold bnd
  rw [mk_kind, if_neg]
  rintro ⟨h1, _⟩
  simp only [heads, Bool.or_eq_true, beq_iff_eq] at hk
  omega
theorem lam_len {u : Tm} (h : nodesB u = true) (hk : u.kind = 3) : u.args.length = 1 := by
  have hnu := node_here h
  unfold nodeOk at hnu
  simp [hk] at hnu
  exact hnu.2
theorem lam_bnd {u : Tm} (h : nodesB u = true) (hk : u.kind = 3) : bnd u 0 = 1 := by
  unfold bnd
  rw [if_pos ⟨.inr hk, by rw [lam_len h hk]⟩]
def Maps (s : Sb) (v w M : Int) : Prop := ∀ i : Int, 0 ≤ i → i < v → scopedB (ofS s i) w M = true
theorem Maps.under {s : Sb} {v w M : Int} (h : Maps s v w M) (hs : 0 ≤ s.sh) (hw : 0 ≤ w) : Maps (underS s) (v + 1) (w + 1) M := by
  intro i h0 hi
  rcases Int.lt_or_le 0 i with h1 | h1
  · have := of_under s (i := i - 1) (by omega) hs
    rw [show i - 1 + 1 = i by omega] at this
    rw [this]
    exact up_scoped (h (i - 1) (by omega) (by omega)) (by omega)
  · obtain rfl : i = 0 := by omega
    rw [of_under0]
    exact var_scoped (by omega)
theorem Maps.one {a : Tm} {w M : Int} (h : scopedB a w M = true) : Maps ⟨[a], 0⟩ (w + 1) w M := by
  intro i h0 hi
  unfold ofS
  split
  · rename_i hl
    simp at hl
    obtain rfl : i = 0 := by omega
    exact h
  · rename_i hl
    simp at hl
    exact var_scoped (by simp; omega)
theorem up_nodes {t : Tm} (h : nodesB t = true) {b : Int} (hb : 0 ≤ b) (n : Int) : nodesB (upT t b n) = true := by
  have key : ∀ (t : Tm) (n : Int), nodesB t = true → canB (fun x _ => decide (0 ≤ x)) t n = true := by
    refine Tm.ind fun t ih n hn => ?_
    rw [canB_iff]
    exact ⟨fun _ => by simpa using node_head (node_here hn), fun i hi => ih _ (arg_mem hi) _ (node_args hn i hi)⟩
  refine nodesB_map (fun x m hx => ?_) t n (key t n h) h
  have := of_decide_eq_true hx
  unfold gUp
  split <;> omega
def NodesS (s : Sb) : Prop := (∀ x ∈ s.L, nodesB x = true) ∧ 0 ≤ s.sh
theorem nodes_var0 : nodesB var0 = true := (may_parts may_var0).1
theorem NodesS.below {s : Sb} (h : NodesS s) (t : Tm) (i : Nat) : NodesS (below s t i) := by
  unfold Go.Proofs.YtkmpfdecjmnccaaGreat.below
  split
  · refine ⟨fun x hx => ?_, by have := h.2; simp only [underS]; omega⟩
    simp only [underS, List.mem_append, List.mem_map, List.mem_singleton] at hx
    rcases hx with ⟨y, hy, rfl⟩ | rfl
    · exact up_nodes (h.1 y hy) (by omega) 0
    · exact nodes_var0
  · exact h
theorem NodesS.of {s : Sb} (h : NodesS s) {i : Int} (h0 : 0 ≤ i) : nodesB (ofS s i) = true := by
  unfold ofS
  split
  · refine h.1 _ ?_
    rw [List.getD_eq_getElem?_getD, List.getElem?_eq_getElem (by omega)]
    exact List.getElem_mem _
  · refine nodes_mk ?_ (by simp)
    have := h.2
    have h5 : 0 ≤ i - s.L.length + s.sh := by omega
    simp only [nodeOk, mk_kind, mk_args, mk_head]
    simp [h5]
theorem getD_all {l : List Tm} {Q : Tm → Prop} (h : ∀ i, i < l.length → Q (l.getD i default)) : ∀ x ∈ l, Q x := by
  intro x hx
  obtain ⟨i, hi, rfl⟩ := List.mem_iff_getElem.1 hx
  have := h i hi
  rwa [List.getD_eq_getElem?_getD, List.getElem?_eq_getElem hi] at this
/-! ### with less done ahead -/
end Go.Proofs.YtkmpfdecjmnccaaGreat
/- Arguments of a law: terms, as they are read. -/
set_option linter.unusedVariables false
set_option linter.unusedSimpArgs false
namespace Go.Proofs.YtkmpfdecjmnccaaGreat
open Go.Proofs Go.ChangeShapes
def in64 (n : Int) : Prop := -9223372036854775808 ≤ n ∧ n ≤ 9223372036854775807
inductive Wf : Tm → Prop where
  | mk {t : Tm} : in64 t.kind → in64 t.head → (∀ x ∈ t.args, Wf x) → Wf t
theorem Wf.args {t : Tm} (h : Wf t) : ∀ x ∈ t.args, Wf x := by cases h; assumption
theorem Wf.kind {t : Tm} (h : Wf t) : in64 t.kind := by cases h; assumption
theorem Wf.head {t : Tm} (h : Wf t) : in64 t.head := by cases h; assumption
theorem Wf.pre {t : Tm} (h : Wf t) : ∀ (n : Int), ∀ q ∈ pre t n, Wf q.2 := by
  induction h with
  | mk h1 h2 h3 ih =>
    intro n
    refine pre_ind (.mk h1 h2 h3) fun i hi p hp => ih _ (arg_mem hi) _ p hp
theorem int_wf {n : Int} (h : (Lit.int .i64 n).wf = true) : in64 n := by
  simpa [Lit.wf, IntKind.min, IntKind.max, IntKind.signed, IntKind.bits, in64] using h
section
variable {H : Type} {enc' : TypeId × Value → H} {W : World} {held : Bool}
theorem list_of {α β : Type} {P : α → β → Prop} : ∀ l : List α, (∀ x ∈ l, ∃ y, P x y) → ∃ r : List β, r.length = l.length ∧ ∀ (i : Nat) (x : α) (y : β), l[i]? = some x → r[i]? = some y → P x y
  | [], _ => ⟨[], rfl, fun i x y h => by simp at h⟩
  | x :: l, h => by
    obtain ⟨y, hy⟩ := h x (by simp)
    obtain ⟨r, h1, h2⟩ := list_of l fun z hz => h z (by simp [hz])
    refine ⟨y :: r, by simp [h1], fun i a b ha hb => ?_⟩
    cases i with
    | zero => simp at ha hb; subst ha hb; exact hy
    | succ i => exact h2 i a b (by simpa using ha) (by simpa using hb)
theorem int_read {fuel : Nat} {cs : List Value} {x : DataW H × List MemPlace} (h : DataW.trod enc' Tryz.prog W 0 (fun _ => true) held fuel 3 cs = some x) : ∃ n, dv x.1 = .int .i64 n ∧ in64 n ∧ x.1 = .lit (.int .i64 n) := by
  obtain ⟨n, _, rfl, hw⟩ := DataW.trod_int Tryz.underlying3 h
  exact ⟨n, rfl, int_wf hw, rfl⟩
theorem tms_read {fuel : Nat} (ih : ∀ m, m < fuel → ∀ (cs : List Value) (x : DataW H × List MemPlace), DataW.trod enc' Tryz.prog W 0 (fun _ => true) held m 26 cs = some x → ∃ t : Tm, dv x.1 = enc t ∧ Wf t ∧ t.size ≤ Rows.uptoBulk x.1)
    {cs : List Value} {x : DataW H × List MemPlace} (h : DataW.trod enc' Tryz.prog W 0 (fun _ => true) held fuel 24 cs = some x) : ∃ l : List Tm, dv x.1 = .slc (encs l) ∧ (∀ t ∈ l, Wf t) ∧ (l.map Tm.size).sum + 1 ≤ Rows.uptoBulk x.1 := by
  rcases DataW.trod_slice Tryz.underlying24 h with ⟨rfl, rfl⟩ | ⟨a, len, cap, elems, rest, n, hn, rfl, rfl, _, hlc, _, hel, hget, _, _⟩
  · exact ⟨[], rfl, by simp, by simp [Rows.uptoBulk]⟩
  · obtain ⟨l, h1, h2⟩ := list_of (P := fun (y : DataW H × List MemPlace) (t : Tm) => dv y.1 = enc t ∧ Wf t ∧ t.size ≤ Rows.uptoBulk y.1) elems fun y hy => by
      obtain ⟨i, hi⟩ := List.mem_iff_getElem?.1 hy
      have hlt := (List.getElem?_eq_some_iff.1 hi).1
      have := hget i (by omega)
      rw [hi] at this
      obtain ⟨cs, _, hx⟩ := Option.bind_eq_some_iff.1 this
      exact ih n (by omega) cs y hx
    have key : ∀ (es : List (DataW H × List MemPlace)) (l : List Tm), l.length = es.length → (∀ (i : Nat) y t, es[i]? = some y → l[i]? = some t → dv y.1 = enc t ∧ Wf t ∧ t.size ≤ Rows.uptoBulk y.1) →
        dvs (es.map (·.1)) = encs l ∧ (∀ t ∈ l, Wf t) ∧ (l.map Tm.size).sum ≤ Rows.uptoBulkAll (es.map (·.1)) := by
      intro es
      induction es with
      | nil =>
        intro l hl _
        obtain rfl : l = [] := List.eq_nil_of_length_eq_zero (by simpa using hl)
        exact ⟨rfl, by simp, by simp⟩
      | cons y es ih =>
        intro l hl hp
        cases l with
        | nil => simp at hl
        | cons t l =>
          obtain ⟨k1, k2, k3⟩ := hp 0 y t rfl rfl
          obtain ⟨j1, j2, j3⟩ := ih l (by simpa using hl) fun i a b ha hb => hp (i + 1) a b (by simpa using ha) (by simpa using hb)
          refine ⟨?_, fun x hx => ?_, ?_⟩
          · simp only [List.map_cons, dvs, k1, j1]; rfl
          · rcases List.mem_cons.1 hx with rfl | hx
            · exact k2
            · exact j2 x hx
          · simp only [List.map_cons, List.sum_cons, Rows.uptoBulkAll]
            omega
    obtain ⟨k1, k2, k3⟩ := key elems l h1 h2
    refine ⟨l, by simp only [dv, k1], k2, ?_⟩
    simp only [Rows.uptoBulk]
    omega
theorem tm_read : ∀ (fuel : Nat) (cs : List Value) (x : DataW H × List MemPlace), DataW.trod enc' Tryz.prog W 0 (fun _ => true) held fuel 26 cs = some x → ∃ t : Tm, dv x.1 = enc t ∧ Wf t ∧ t.size ≤ Rows.uptoBulk x.1 := by
  intro fuel
  induction fuel using Nat.strongRecOn with
  | ind fuel ih =>
    intro cs x h
    obtain ⟨xs, n, hn, rfl, hl, hxl, hg⟩ := DataW.trod_struct Tryz.underlying26 h
    obtain ⟨a, b, c, rfl⟩ : ∃ a b c, xs = [a, b, c] := by
      match xs, hxl with
      | [a, b, c], _ => exact ⟨a, b, c, rfl⟩
    have h0 := hg 0 _ rfl
    have h1 := hg 1 _ rfl
    have h2 := hg 2 _ rfl
    simp only [List.getElem?_cons_zero, List.getElem?_cons_succ] at h0 h1 h2
    obtain ⟨k, k1, k2, k3⟩ := int_read h0
    obtain ⟨d, d1, d2, d3⟩ := int_read h1
    obtain ⟨l, l1, l2, l3⟩ := tms_read (fuel := n) (fun m hm => ih m (by omega)) h2
    refine ⟨.mk k d l, ?_, .mk k2 d2 l2, ?_⟩
    · rw [enc_mk]
      simp only [List.map_cons, List.map_nil, dv, dcs, k1, d1, l1, Dv.cells, List.cons_append, List.nil_append]
    · rw [size_eq]
      simp only [List.map_cons, List.map_nil, Rows.uptoBulk, Rows.uptoBulkAll, Tm.args]
      omega
theorem tm_arg {v : Value} {d : DataW H} {ps : List MemPlace} (h : DataW.Trod enc' Tryz.prog W 0 (fun _ => true) held 26 v d ps) : ∃ t : Tm, dv d = enc t ∧ Wf t ∧ t.size ≤ Rows.uptoBulk d := by
  obtain ⟨fuel, h⟩ := h
  exact tm_read fuel _ _ h
theorem tms_arg {v : Value} {d : DataW H} {ps : List MemPlace} (h : DataW.Trod enc' Tryz.prog W 0 (fun _ => true) held 24 v d ps) : ∃ l : List Tm, dv d = .slc (encs l) ∧ (∀ t ∈ l, Wf t) ∧ (l.map Tm.size).sum + 1 ≤ Rows.uptoBulk d := by
  obtain ⟨fuel, h⟩ := h
  exact tms_read (fun m _ => tm_read m) h
end
theorem own_knob : ownKnob Tryz.prog.godebug = none := by kernel_rfl
theorem small_bulk {H : Type} {l : List (DataW H)} (hk : Rows.uptoSmall H l = true) : Rows.uptoBulkAll l ≤ 1048576 := of_decide_eq_true hk
end Go.Proofs.YtkmpfdecjmnccaaGreat
/- The laws of layer 2. -/
set_option linter.unusedSimpArgs false
set_option linter.unusedVariables false
set_option maxRecDepth 100000
namespace Go.Proofs.YtkmpfdecjmnccaaGreat
open Go.Proofs
attribute [go_sem] List.head?_cons
def w1 : Tm := .mk 3 0 [.mk 4 1 []]
def w3 : Tm := .mk 3 0 [.mk 4 3 []]
end Go.Proofs.YtkmpfdecjmnccaaGreat
/- Layer 3: what its laws begin with. -/
set_option linter.unusedSimpArgs false
set_option linter.unusedVariables false
set_option maxRecDepth 100000
namespace Go.Proofs.YtkmpfdecjmnccaaGreat
open Go.Proofs
theorem ap_leaf (f : Nat) (k h : Int) (s : Sb) (n : Nat) (hn : n + 1 ≤ 40000) : ap (f + 1) (.mk k h []) s n = .ok (if k = 4 then ofS s h else .mk k h []) (n + 1) := by
  rw [ap_succ, if_neg (by omega)]
  rw [show seqF (fun i m => ap f ((Tm.mk k h []).arg i) (below s (.mk k h []) i) m) (n + 1) (Tm.mk k h []).args.length = .ok [] (n + 1) from rfl, R.bind_ok]
  by_cases hk : k = 4
  · rw [if_pos (show (Tm.mk k h []).kind = 4 from hk), if_pos hk]; rfl
  · rw [if_neg (show ¬ (Tm.mk k h []).kind = 4 from hk), if_neg hk]; rfl
theorem leaf_may {k h : Int} (hk : heads k = true) (hh : 0 ≤ h) : mayB (.mk k h []) = true := by
  refine may_of (nodes_mk (node_heads hk hh _) (by simp)) ?_ ?_
  · rw [mk_size]; simp
  · rw [depth_eq]; simp [mk_args]
/-! ### Same -/
def lightsB (l : List Tm) (s d : Int) : Bool := !decide ((l.length : Int) > 60) && allB l.length fun i => lightB (l.getD i default) s d
def lts_S (l : List Tm) (s d : Int) (i : Nat) : St := mk 27 [(0, dL l), (1, dI s), (2, dI d), (7, dI i)] [] [] []

theorem lights_spec (l : List Tm) (s d : Int) (hl : l.length < room) (hz : ∀ x ∈ l, x.size < room) : (lim C).call 7 [dL l, dI s, dI d] [] = retB (lightsB l s d) := by
  have hr : room = 1099511627776 := rfl
  unfold lightsB
  rw [ev_fn 7 Tryz.f7 _ _ _ rfl Tryz.func7 rfl Tryz.ntmps7 rfl]
  cases h1 : decide ((l.length : Int) > 60)
  · have hget : ∀ i, i < l.length → (l.getD i default).size < room := fun i hi => hz _ (getD_mem hi)
    have hloop : (lim C).code 7 (.loop (cf (cf (cs (cf (cs (cs (bodyOf Tryz.f7)))))))) (lts_S l s d 0) = some (if allB l.length (fun i => lightB (l.getD i default) s d) then (.exit 0, mk 27 [(0, dL l), (1, dI s), (2, dI d), (7, dI l.length), (15, dB false)] [] [] []) else (.ret, mk 27 [(6, dB false)] [] [] [])) := by
      refine loop_all (lts_S l s d) l.length _ (fun i hi hp => ?_) (fun i hi hp => ?_) ?_ (by simp) (by simp)
      · have hc := light_spec (l.getD i default) s d (hget i hi)
        rw [hp] at hc
        simp -implicitDefEqProofs (disch := decide +kernel) only [cf, cs, bodyOf, Tryz.f7, Option.getD_some, go_sem, ↓reduceIte, Nat.reduceSub, Nat.reduceAdd, Nat.reduceMul, Nat.reduceBEq, Nat.reduceLT, Nat.reduceLeDiff, Nat.reduceEqDiff, reduceCtorEq, Int.reduceToNat, Int.reduceLE, Int.reduceLT, Int.reduceBEq, Int.reduceBNe, mCall, lts_S, lt_true hi, getD_get hi, hc, wrap_succ (n := i) (by omega)]
      · have hc := light_spec (l.getD i default) s d (hget i hi)
        rw [hp] at hc
        simp -implicitDefEqProofs (disch := decide +kernel) only [cf, cs, bodyOf, Tryz.f7, Option.getD_some, go_sem, ↓reduceIte, Nat.reduceSub, Nat.reduceAdd, Nat.reduceMul, Nat.reduceBEq, Nat.reduceLT, Nat.reduceLeDiff, Nat.reduceEqDiff, reduceCtorEq, Int.reduceToNat, Int.reduceLE, Int.reduceLT, Int.reduceBEq, Int.reduceBNe, mCall, lts_S, lt_true hi, getD_get hi, hc]
      · simp -implicitDefEqProofs (disch := decide +kernel) only [cf, cs, bodyOf, Tryz.f7, Option.getD_some, go_sem, ↓reduceIte, Nat.reduceSub, Nat.reduceAdd, Nat.reduceMul, Nat.reduceBEq, Nat.reduceLT, Nat.reduceLeDiff, Nat.reduceEqDiff, reduceCtorEq, Int.reduceToNat, Int.reduceLE, Int.reduceLT, Int.reduceBEq, Int.reduceBNe, mCall, lts_S, lt_false (Nat.le_refl l.length)]
    simp -implicitDefEqProofs (disch := decide +kernel) only [go_sem, ↓reduceIte, Nat.reduceSub, Nat.reduceAdd, Nat.reduceMul, Nat.reduceBEq, Nat.reduceLT, Nat.reduceLeDiff, Nat.reduceEqDiff, reduceCtorEq, Int.reduceToNat, Int.reduceLE, Int.reduceLT, Int.reduceBEq, Int.reduceBNe, mCall, h1]
    rw [loop_at hloop ?hb ?hs]
    case hb => rfl
    case hs => rfl
    cases hall : allB l.length fun i => lightB (l.getD i default) s d
    · simp -implicitDefEqProofs (disch := decide +kernel) only [go_sem, ↓reduceIte, Nat.reduceSub, Nat.reduceAdd, Nat.reduceMul, Nat.reduceBEq, Nat.reduceLT, Nat.reduceLeDiff, Nat.reduceEqDiff, reduceCtorEq, Int.reduceToNat, Int.reduceLE, Int.reduceLT, Int.reduceBEq, Int.reduceBNe, mCall, hall]
    · simp -implicitDefEqProofs (disch := decide +kernel) only [go_sem, ↓reduceIte, Nat.reduceSub, Nat.reduceAdd, Nat.reduceMul, Nat.reduceBEq, Nat.reduceLT, Nat.reduceLeDiff, Nat.reduceEqDiff, reduceCtorEq, Int.reduceToNat, Int.reduceLE, Int.reduceLT, Int.reduceBEq, Int.reduceBNe, mCall, hall]
  · simp -implicitDefEqProofs (disch := decide +kernel) only [go_sem, ↓reduceIte, Nat.reduceSub, Nat.reduceAdd, Nat.reduceMul, Nat.reduceBEq, Nat.reduceLT, Nat.reduceLeDiff, Nat.reduceEqDiff, reduceCtorEq, Int.reduceToNat, Int.reduceLE, Int.reduceLT, Int.reduceBEq, Int.reduceBNe, mCall, h1]
theorem lights_parts {l : List Tm} {s d : Int} (h : lightsB l s d = true) : l.length ≤ 60 ∧ ∀ x ∈ l, lightB x s d = true := by
  unfold lightsB at h
  simp only [Bool.and_eq_true, Bool.not_eq_true', decide_eq_false_iff_not] at h
  obtain ⟨h1, h2⟩ := h
  rw [allB_iff] at h2
  exact ⟨by omega, getD_all h2⟩
/-! ### the chapter's example -/
end Go.Proofs.YtkmpfdecjmnccaaGreat
/- Laws of layer 3: SubstUnder, SubstUp, SubstWeakens. -/
set_option linter.unusedSimpArgs false
set_option linter.unusedVariables false
set_option maxRecDepth 100000
namespace Go.Proofs.YtkmpfdecjmnccaaGreat
open Go.Proofs
theorem encS_mk (l : List Tm) (n : Int) : Dv.agg [.slc (encs l), .int .i64 n] = encS ⟨l, n⟩ := rfl
theorem smay_of {l : List Tm} {n : Int} (h1 : l.length ≤ 200) (h2 : 0 ≤ n) (h3 : n ≤ 1048576) (h4 : ∀ x ∈ l, mayB x = true) : smayB ⟨l, n⟩ = true := by
  unfold smayB
  have := maysB_iff.2 h4
  simp [this, h2, h3]
  omega
theorem light_size {t : Tm} {s d : Int} (h : lightB t s d = true) : (t.size : Int) ≤ s ∧ (t.depth : Int) ≤ d := by
  unfold lightB at h
  simp only [Bool.and_eq_true, decide_eq_true_eq] at h
  exact ⟨h.1.2, h.2⟩
theorem lists_room {l : List Tm} (hs : (l.map Tm.size).sum + 1 ≤ 1048576) : l.length < room ∧ ∀ x ∈ l, x.size < room := by
  have hr : room = 1099511627776 := rfl
  have := len_sum l
  refine ⟨by omega, fun x hx => ?_⟩
  have := sum_mem (List.mem_map_of_mem (f := Tm.size) hx)
  omega
end Go.Proofs.YtkmpfdecjmnccaaGreat
/- Laws of layer 3: SubstUp, SubstWeakens. -/
set_option linter.unusedSimpArgs false
set_option linter.unusedVariables false
set_option maxRecDepth 100000
namespace Go.Proofs.YtkmpfdecjmnccaaGreat
open Go.Proofs
end Go.Proofs.YtkmpfdecjmnccaaGreat
/- Layer 3: how great answers are, what may go wrong. -/
set_option linter.unusedSimpArgs false
set_option linter.unusedVariables false
set_option maxRecDepth 100000
namespace Go.Proofs.YtkmpfdecjmnccaaGreat
open Go.Proofs
theorem zT_may : mayB zT = true := by
  refine may_of (nodes_mk (by simp [nodeOk, mk_kind, mk_head, mk_args]) (by simp)) ?_ ?_
  · unfold zT; rw [mk_size]; simp
  · unfold zT; rw [depth_eq]; simp [mk_args]
theorem zT_vle (c : Int) : vleB c zT = true := vle_mk (fun h => by omega) (by simp)
theorem outD_may (r : R Tm) : mayB (outD r).1 = true := by
  cases r with
  | ok u m =>
    simp only [outD]
    split
    · assumption
    · exact zT_may
  | er e m => exact zT_may
theorem applyR_may (t : Tm) (s : Sb) : mayB (applyR t s).1 = true := by
  unfold applyR
  split
  · exact outD_may _
  · exact zT_may
theorem outD_vle {r : R Tm} {c : Int} (h : ∀ u m, r = .ok u m → vleB c u = true) : vleB c (outD r).1 = true := by
  cases r with
  | ok u m =>
    simp only [outD]
    split
    · exact h u m rfl
    · exact zT_vle c
  | er e m => exact zT_vle c
theorem applyR_vle {t : Tm} {s : Sb} {K : Int} (h0 : 0 ≤ K) (ht : vleB K t = true) (hs : ∀ x ∈ s.L, vleB K x = true) : vleB (K + 2000000) (applyR t s).1 = true := by
  unfold applyR
  split
  · rename_i h
    simp only [Bool.and_eq_true] at h
    obtain ⟨h1, h2⟩ := h
    obtain ⟨q1, q2, q3, q4⟩ := smay_parts h2
    refine outD_vle fun u m hu => ?_
    have := (ap_fits 40000 t s 0 K (s.sh - s.L.length) (K + 1048576) u m (may_parts h1).1 ht h0 (by omega) (by omega) (Int.le_refl _) ⟨q4, fun x hx => vle_mono (by omega) (hs x hx), q2⟩ hu).2
    have e := this.lim
    exact vle_mono (by omega) this.vle
  · exact zT_vle _
theorem spn_err {A : Tm → Sb → Nat → R Tm} (hA : ∀ t s n e m, A t s n = .er e m → e = 3 ∨ e = 4) : ∀ (l : List Tm) (u : Tm) (n e m : Nat), spnA A u l n = .er e m → e = 3 ∨ e = 4
  | [], u, n, e, m, h => by cases h
  | a :: rest, u, n, e, m, h => by
    simp only [spnA] at h
    split at h
    · split at h
      · cases hx : A (u.arg 0) ⟨[a], 0⟩ n with
        | ok v m1 => rw [hx] at h; exact spn_err hA rest v m1 e m h
        | er e1 m1 =>
          rw [hx, R.bind_er] at h
          simp only [R.er.injEq] at h
          exact h.1 ▸ hA _ _ _ _ _ hx
      · simp only [R.er.injEq] at h; omega
    · split at h
      · cases h
      · simp only [R.er.injEq] at h; omega
theorem ap_err : ∀ (f : Nat) (t : Tm) (s : Sb) (n e m : Nat), ap f t s n = .er e m → e = 3 ∨ e = 4
  | 0, t, s, n, e, m, h => by
    rw [ap_zero] at h
    simp only [R.er.injEq] at h; omega
  | f + 1, t, s, n, e, m, h => by
    rw [ap_succ] at h
    split at h
    · simp only [R.er.injEq] at h; omega
    · have key : ∀ k e m, seqF (fun i m => ap f (t.arg i) (below s t i) m) (n + 1) k = .er e m → e = 3 ∨ e = 4 := by
        intro k
        induction k with
        | zero => intro e m h; cases h
        | succ k ih =>
          intro e m h
          simp only [seqF] at h
          cases hx : seqF (fun i m => ap f (t.arg i) (below s t i) m) (n + 1) k with
          | er e1 m1 =>
            rw [hx, R.bind_er] at h
            simp only [R.er.injEq] at h
            exact h.1 ▸ ih _ _ hx
          | ok xs m1 =>
            rw [hx, R.bind_ok] at h
            cases hy : ap f (t.arg k) (below s t k) m1 with
            | er e1 m2 =>
              rw [hy, R.bind_er] at h
              simp only [R.er.injEq] at h
              exact h.1 ▸ ap_err f _ _ _ _ _ hy
            | ok x m2 => rw [hy] at h; cases h
      cases hx : seqF (fun i m => ap f (t.arg i) (below s t i) m) (n + 1) t.args.length with
      | er e1 m1 =>
        rw [hx, R.bind_er] at h
        simp only [R.er.injEq] at h
        exact h.1 ▸ key _ _ _ hx
      | ok xs m1 =>
        rw [hx, R.bind_ok] at h
        split at h
        · exact spn_err (fun t s n e m h => ap_err f t s n e m h) _ _ _ _ _ h
        · cases h
end Go.Proofs.YtkmpfdecjmnccaaGreat
/- What has which type: in plain words. -/
set_option linter.unusedVariables false
set_option linter.unusedSimpArgs false
namespace Go.Proofs.YtkmpfdecjmnccaaGreat
structure Md where
  ctx : List Tm
  t : Tm
  param : Bool
  deriving Inhabited
structure Wd where
  sig : List Tm
  metas : List Md
def isKind (t : Tm) : Bool := (lastOf t).kind == 0
def kindAt (l : List Tm) (i : Nat) : Bool := isKind (l.getD i default)
def spW (T : Nat → Tm → Int) (arg : Nat → Tm) : Nat → Nat → Tm → Tm × Int
  | 0, _, t => (t, 0)
  | k + 1, i, t => if t.kind ≠ 1 then (zT, 3) else if T i (t.arg 0) ≠ 0 then (zT, T i (t.arg 0)) else
      if (applyR (t.arg 1) ⟨[arg i], 0⟩).2 ≠ 0 then (zT, (applyR (t.arg 1) ⟨[arg i], 0⟩).2) else spW T arg k (i + 1) (applyR (t.arg 1) ⟨[arg i], 0⟩).1
def mtW (T : Nat → Tm → Int) (D : List Tm) (l : List Tm) (n : Int) : Nat → Nat → Int
  | 0, _ => 0
  | k + 1, i => if (applyR (D.getD i default) ⟨l.take i, n⟩).2 ≠ 0 then (applyR (D.getD i default) ⟨l.take i, n⟩).2 else
      if T i (applyR (D.getD i default) ⟨l.take i, n⟩).1 ≠ 0 then T i (applyR (D.getD i default) ⟨l.take i, n⟩).1 else mtW T D l n k (i + 1)
def declW (w : Wd) (h : Int) (kind : Bool) : Tm × Int :=
  if h ≥ w.sig.length then (zT, 2) else if kindAt w.sig h.toNat ≠ kind then (zT, 2) else (w.sig.getD h.toNat default, 0)
def metaW (w : Wd) (n : Int) (T : Nat → Tm → Int) (m : Tm) : Tm × Int :=
  if m.head ≥ w.metas.length then (zT, 2) else
  if (w.metas.getD m.head.toNat default).ctx.length ≠ m.args.length then (zT, 3) else
  if mtW T (w.metas.getD m.head.toNat default).ctx m.args n m.args.length 0 ≠ 0 then (zT, mtW T (w.metas.getD m.head.toNat default).ctx m.args n m.args.length 0) else
  applyR (w.metas.getD m.head.toNat default).t ⟨m.args, n⟩
def spD (T : Nat → Tm → Int) (m : Tm) (r : Tm × Int) : Tm × Int := if r.2 ≠ 0 then (zT, r.2) else spW T m.arg m.args.length 0 r.1
def varW (ctx : List Tm) (h : Int) : Tm × Int := if h ≥ ctx.length then (zT, 2) else (upT (ctx.getD (ctx.length - 1 - h.toNat) default) (h + 1) 0, 0)
def cmW (w : Wd) (ctx : List Tm) (T : Nat → Tm → Int) (m : Tm) : Tm × Int :=
  if m.kind = 4 then spD T m (varW ctx m.head)
  else if m.kind = 5 then spD T m (declW w m.head false)
  else if m.kind = 6 then metaW w ctx.length T m
  else (zT, 3)
def termB (w : Wd) (m a : Tm) (ctx : List Tm) (T : Nat → Tm → List Tm → Int) : Int :=
  if m.kind = 3 then (if a.kind = 1 then T 0 (a.arg 1) (ctx ++ [a.arg 0]) else 3)
  else if a.kind ≠ 2 then 3
  else if (cmW w ctx (fun i x => T i x ctx) m).2 ≠ 0 then (cmW w ctx (fun i x => T i x ctx) m).2
  else if sameB (cmW w ctx (fun i x => T i x ctx) m).1 a then 0 else 3
def termW (w : Wd) : Tm → Tm → List Tm → Int
  | .mk k h l, a, ctx => termB w (.mk k h l) a ctx fun i x c => if hi : i < l.length then termW w l[i] x c else 3
decreasing_by
  have := List.sizeOf_lt_of_mem (List.getElem_mem hi)
  simp only [Tm.mk.sizeOf_spec]
  omega
def argW (w : Wd) (m : Tm) (i : Nat) (x : Tm) (c : List Tm) : Int := if i < m.args.length then termW w (m.arg i) x c else 3
theorem termW_eq (w : Wd) (m a : Tm) (ctx : List Tm) : termW w m a ctx = termB w m a ctx (argW w m) := by
  obtain ⟨k, h, l⟩ := m
  rw [termW]
  congr 1
  funext i x c
  unfold argW
  by_cases hi : i < l.length
  · have := arg_eq (t := .mk k h l) hi
    simp only [Tm.args] at this
    rw [dif_pos hi, this, if_pos (by exact hi)]
  · rw [dif_neg hi, if_neg (by exact hi)]
theorem argW_lt {w : Wd} {m : Tm} {i : Nat} (h : i < m.args.length) (x : Tm) (c : List Tm) : argW w m i x c = termW w (m.arg i) x c := if_pos h
def famW (w : Wd) (ctx : List Tm) (a : Tm) : Int :=
  if (spD (fun i x => argW w a i x ctx) a (declW w a.head true)).2 ≠ 0 then (spD (fun i x => argW w a i x ctx) a (declW w a.head true)).2
  else if (spD (fun i x => argW w a i x ctx) a (declW w a.head true)).1.kind ≠ 0 then 3 else 0
def typW (w : Wd) : Tm → List Tm → Int
  | .mk k h l, ctx => if k = 1 then (if h2 : 1 < l.length then (if typW w l[0] ctx ≠ 0 then typW w l[0] ctx else typW w l[1] (ctx ++ [l[0]])) else 3)
      else if k = 2 then famW w ctx (.mk k h l) else 3
decreasing_by
  all_goals
    have h0 := List.sizeOf_lt_of_mem (List.getElem_mem (l := l) (n := 0) (by omega))
    have h1 := List.sizeOf_lt_of_mem (List.getElem_mem h2)
    simp only [Tm.mk.sizeOf_spec]
    omega
theorem arg01 {t : Tm} (h : 1 < t.args.length) : t.args[0] = t.arg 0 ∧ t.args[1] = t.arg 1 := ⟨arg_eq (by omega), arg_eq h⟩
theorem typW_pi (w : Wd) {t : Tm} (hk : t.kind = 1) (hl : 1 < t.args.length) (ctx : List Tm) : typW w t ctx = if typW w (t.arg 0) ctx ≠ 0 then typW w (t.arg 0) ctx else typW w (t.arg 1) (ctx ++ [t.arg 0]) := by
  have e := arg01 hl
  obtain ⟨k, h, l⟩ := t
  have hk : k = 1 := hk
  have hl : 1 < l.length := hl
  simp only [Tm.args] at e
  rw [typW, if_pos hk, dif_pos hl, e.1, e.2]
theorem typW_fam (w : Wd) {t : Tm} (hk : t.kind = 2) (ctx : List Tm) : typW w t ctx = famW w ctx t := by
  obtain ⟨k, h, l⟩ := t
  have hk : k = 2 := hk
  rw [typW, if_neg (by omega), if_pos hk]
theorem typW_no (w : Wd) {t : Tm} (h1 : t.kind ≠ 1) (h2 : t.kind ≠ 2) (ctx : List Tm) : typW w t ctx = 3 := by
  obtain ⟨k, h, l⟩ := t
  have h1 : k ≠ 1 := h1
  have h2 : k ≠ 2 := h2
  rw [typW, if_neg h1, if_neg h2]
def mdMay (d : Md) : Bool := maysB d.ctx && mayB d.t
def mayW (w : Wd) (ctx : List Tm) (l : List Tm) : Bool := !decide ((ctx.length : Int) > 1000) && maysB l && maysB ctx && maysB w.sig && allB w.metas.length (fun i => mdMay (w.metas.getD i default))
def TermR (w : Wd) (ctx : List Tm) (m a : Tm) : Int := if mayW w ctx [m, a] then termW w m a ctx else 1
def TypR (w : Wd) (ctx : List Tm) (a : Tm) : Int := if mayW w ctx [a] then typW w a ctx else 1
end Go.Proofs.YtkmpfdecjmnccaaGreat
