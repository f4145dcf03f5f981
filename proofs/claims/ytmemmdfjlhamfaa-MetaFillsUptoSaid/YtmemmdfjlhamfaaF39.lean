/- The package meta. -/
import Derived.Test.YtmemmdfjlhamfaaF38
set_option linter.unusedSimpArgs false
set_option linter.unusedVariables false
set_option maxRecDepth 100000
namespace Go.Proofs.Ytmemmdfjlhamfaa
open Go.Proofs
theorem zT_size : zT.size = 1 := by unfold zT; rw [mk_size]; rfl
/-- What is filled: its variables, and its size. -/
theorem fill_fits {th : List Tm} {K : Int} (h0 : 0 ≤ K) (hth : ∀ x ∈ th, vleB K x = true) : ∀ (t : Tm) (n : Int), nodesB t = true → vleB K t = true → vleB (K + 2000000 * t.depth) (fillM th t n).1 = true ∧ (fillM th t n).1.size ≤ 4000 * t.size := by
  refine Tm.ind fun t ih n hn hv => ?_
  have hts := size_eq t
  rw [fillM, fillT_eq]
  by_cases he : firstE (fillF applyR maysB th t n) t.args.length = 0
  · rw [if_pos he]
    have hA : ∀ x ∈ (List.range t.args.length).map (fun i => (fillF applyR maysB th t n i).1), vleB (K + 2000000 * (t.depth - 1 : Nat)) x = true := fun x hx => by
      simp only [List.mem_map, List.mem_range] at hx
      obtain ⟨i, hi, rfl⟩ := hx
      have hd := depth_arg (arg_mem hi)
      exact vle_mono (by omega) (ih _ (arg_mem hi) (n + bnd t i) (node_args hn i hi) (vle_args hv i hi)).1
    unfold fillN
    by_cases k6 : t.kind = 6
    · rw [if_neg (by simpa using k6)]
      have hd1 : 1 ≤ t.depth := by rw [depth_eq]; omega
      split
      · exact ⟨vle_mono (show (0 : Int) ≤ _ by omega) (zT_vle 0), by show zT.size ≤ _; have := zT_size; omega⟩
      · split
        · have hh := node_head (node_here hn)
          have hlt : t.head.toNat < th.length := by omega
          have hmem : th.getD t.head.toNat default ∈ th := by rw [List.getD_eq_getElem?_getD, List.getElem?_eq_getElem hlt]; exact List.getElem_mem _
          refine ⟨vle_mono (by omega) (applyR_vle (K := K + 2000000 * (t.depth - 1 : Nat)) (by omega) (vle_mono (by omega) (hth _ hmem)) hA), ?_⟩
          have := (may_parts (applyR_may (th.getD t.head.toNat default) ⟨(List.range t.args.length).map fun i => (fillF applyR maysB th t n i).1, n⟩)).2.1
          omega
        · exact ⟨vle_mono (show (0 : Int) ≤ _ by omega) (zT_vle 0), by show zT.size ≤ _; have := zT_size; omega⟩
    · rw [if_pos k6]
      refine ⟨vle_mk (fun k4 => ?_) fun x hx => vle_mono (by omega) (hA x hx), ?_⟩
      · have := vle_here hv k4; omega
      · rw [mk_size, hts]
        have key : ∀ l : List Nat, (∀ i ∈ l, i < t.args.length) → (((l.map fun i => (fillF applyR maysB th t n i).1)).map Tm.size).sum ≤ 4000 * ((l.map fun i => t.arg i).map Tm.size).sum := by
          intro l
          induction l with
          | nil => intro _; simp
          | cons i l ih2 =>
            intro hl
            have h1 := ih2 fun j hj => hl j (by simp [hj])
            have hi := hl i (by simp)
            have h2 : (fillF applyR maysB th t n i).1.size ≤ 4000 * (t.arg i).size := (ih _ (arg_mem hi) (n + bnd t i) (node_args hn i hi) (vle_args hv i hi)).2
            simp only [List.map_cons, List.sum_cons]
            omega
        have := key (List.range t.args.length) fun i hi => by simpa using hi
        rw [args_range] at this
        omega
  · rw [if_neg he]
    exact ⟨vle_mono (show (0 : Int) ≤ _ by omega) (zT_vle 0), by show zT.size ≤ _; have := zT_size; omega⟩
/-- A function that is done to each of a list, or says why not; it leaves the shared variables alone. -/
def DoesE (g : Nat) (caps : List AV) (h : List HO) (l : List Tm) (F : Nat → Tm × Int) : Prop :=
  ∀ i, i < l.length → (∀ j, j < i → (F j).2 = 0) → ∀ (locs : List (Option (List AV))) (toks : List (Option Nat)), mCall C (lim C) g (dI i :: dT (l.getD i default) :: caps) { locs := locs, heap := h, toks := toks } = some (.v (.tup [dT (F i).1, dI (F i).2]), { locs := locs, heap := h, toks := toks })
abbrev fsts (F : Nat → Tm × Int) (i : Nat) : Tm := (F i).1
def meach_S (l : List Tm) (g : Nat) (caps : List AV) (h : List HO) (F : Nat → Tm × Int) (i : Nat) : St := mk 34 [(1, .fn g [] caps), (6, acc 0 (encs (outs (fsts F) i))), (11, dL l), (12, dI l.length), (13, dI i)] [] h (accT i)
theorem meach_step {l : List Tm} {g : Nat} {caps : List AV} {h : List HO} {F : Nat → Tm × Int} (hd : DoesE g caps h l F) (hl : l.length < room) {i : Nat} (hi : i < l.length) (hp : ∀ j, j ≤ i → (F j).2 = 0) :
    (lim C).code 60 (cf (.loop (cf (cf (cs (cf (cs (cs (bodyOf Try.f60))))))))) (meach_S l g caps h F i) = some (.nor, meach_S l g caps h F (i + 1)) := by
  have hr : room = 1099511627776 := rfl
  have hc := hd i hi fun j hj => hp j (by omega)
  rw [hp i (Nat.le_refl i)] at hc
  have hln : (encs (outs (fsts F) i)).length = i := by simp [encs, outs]
  have hap := fun locs heap => mApp_acc (encs (outs (fsts F) i)) (enc (F i).1) 3 locs heap (by rw [hln]; omega) (encs_all _) (enc_width _)
  have hsn : encs (outs (fsts F) i) ++ [enc (F i).1] = encs (outs (fsts F) (i + 1)) := by unfold outs; rw [List.range_succ, List.map_append, encs_append]; rfl
  rw [hln, hsn] at hap
  have hce := cells_enc (F i).1
  have hee := (enc_eq (F i).1).symm
  simp -implicitDefEqProofs (disch := decide +kernel) only [cf, cs, bodyOf, Try.f60, Option.getD_some, go_sem, ↓reduceIte, Nat.reduceSub, Nat.reduceAdd, Nat.reduceMul, Nat.reduceBEq, Nat.reduceLT, Nat.reduceLeDiff, Nat.reduceEqDiff, reduceCtorEq, Int.reduceToNat, Int.reduceLE, Int.reduceLT, Int.reduceBEq, Int.reduceBNe, meach_S, lt_true hi, getD_get hi, hc, hap, hce, cel3, hee, wrap_succ (n := i) (by omega)]
theorem meach_spec {l : List Tm} {g : Nat} {caps : List AV} {h : List HO} {F : Nat → Tm × Int} (hd : DoesE g caps h l F) (hl : l.length < room) (hc1 : okL caps = true) (hc2 : eraseL caps = caps) :
    (lim C).call 60 [dL l, .fn g [] caps] h = some (.ret (.tup [dL (eachR F l.length).1, dI (eachR F l.length).2]), h) := by
  have hr : room = 1099511627776 := rfl
  rw [ev_fn 60 Try.f60 _ _ _ rfl Try.func60 rfl Try.ntmps60 rfl]
  simp -implicitDefEqProofs (disch := decide +kernel) only [go_sem, ↓reduceIte, Nat.reduceSub, Nat.reduceAdd, Nat.reduceMul, Nat.reduceBEq, Nat.reduceLT, Nat.reduceLeDiff, Nat.reduceEqDiff, reduceCtorEq, Int.reduceToNat, Int.reduceLE, Int.reduceLT, Int.reduceBEq, Int.reduceBNe, hc1, hc2]
  by_cases he : firstE F l.length = 0
  · have hz := (firstE_zero _ _).1 he
    have hloop : (lim C).code 60 (.loop (cf (cf (cs (cf (cs (cs (bodyOf Try.f60)))))))) (meach_S l g caps h F 0) = some (.exit 0, mk 34 [(1, .fn g [] caps), (6, acc 0 (encs (outs (fsts F) l.length))), (11, dL l), (12, dI l.length), (13, dI l.length), (14, dB false)] [] h (accT l.length)) := by
      refine loop_run (meach_S l g caps h F) l.length (fun i hi => meach_step hd hl hi fun j hj => hz j (by omega)) ?_ (by simp)
      simp -implicitDefEqProofs (disch := decide +kernel) only [cf, cs, bodyOf, Try.f60, Option.getD_some, go_sem, ↓reduceIte, Nat.reduceSub, Nat.reduceAdd, Nat.reduceMul, Nat.reduceBEq, Nat.reduceLT, Nat.reduceLeDiff, Nat.reduceEqDiff, reduceCtorEq, Int.reduceToNat, Int.reduceLE, Int.reduceLT, Int.reduceBEq, Int.reduceBNe, meach_S, lt_false (Nat.le_refl l.length)]
    rw [loop_at hloop ?hb ?hs]
    case hb => rfl
    case hs => rfl
    have ha : (acc 0 (encs (outs (fsts F) l.length))).erase = .d (.slc (encs (outs (fsts F) l.length))) := by cases encs (outs (fsts F) l.length) <;> rfl
    have hres : eachR F l.length = (outs (fsts F) l.length, 0) := eachR_all hz
    simp -implicitDefEqProofs (disch := decide +kernel) only [go_sem, ↓reduceIte, Nat.reduceSub, Nat.reduceAdd, Nat.reduceMul, Nat.reduceBEq, Nat.reduceLT, Nat.reduceLeDiff, Nat.reduceEqDiff, reduceCtorEq, Int.reduceToNat, Int.reduceLE, Int.reduceLT, Int.reduceBEq, Int.reduceBNe, ha, hres]
  · obtain ⟨j, hj, hp, hb⟩ := firstE_at _ _ he
    have hne : ((F j).2 != 0) = true := by rw [hp]; simpa using he
    have hloop : (lim C).code 60 (.loop (cf (cf (cs (cf (cs (cs (bodyOf Try.f60)))))))) (meach_S l g caps h F 0) = some (.ret, mk 34 [(4, .clip []), (5, dI (F j).2)] [] h (accT j)) := by
      refine loop_run (meach_S l g caps h F) j (fun i hi => meach_step hd hl (by omega) fun k hk => hb k (by omega)) ?_ (by simp)
      have hc := hd j hj hb
      simp -implicitDefEqProofs (disch := decide +kernel) only [cf, cs, bodyOf, Try.f60, Option.getD_some, go_sem, ↓reduceIte, Nat.reduceSub, Nat.reduceAdd, Nat.reduceMul, Nat.reduceBEq, Nat.reduceLT, Nat.reduceLeDiff, Nat.reduceEqDiff, reduceCtorEq, Int.reduceToNat, Int.reduceLE, Int.reduceLT, Int.reduceBEq, Int.reduceBNe, meach_S, lt_true hj, getD_get hj, hc, hne, cells_enc, cel3]
    rw [loop_at hloop ?hb ?hs]
    case hb => rfl
    case hs => rfl
    have hres : eachR F l.length = ([], (F j).2) := by unfold eachR; rw [if_neg he, hp]
    simp -implicitDefEqProofs (disch := decide +kernel) only [go_sem, ↓reduceIte, Nat.reduceSub, Nat.reduceAdd, Nat.reduceMul, Nat.reduceBEq, Nat.reduceLT, Nat.reduceLeDiff, Nat.reduceEqDiff, reduceCtorEq, Int.reduceToNat, Int.reduceLE, Int.reduceLT, Int.reduceBEq, Int.reduceBNe, hres]
    simp [encs]
theorem modd_spec (t : Tm) (hs : t.size < room) : (lim C).call 55 [dT t] [] = retB (!mayB t) := by
  rw [ev_fn 55 Try.f55 _ _ _ rfl Try.func55 rfl Try.ntmps55 rfl]
  simp -implicitDefEqProofs (disch := decide +kernel) only [go_sem, ↓reduceIte, Nat.reduceSub, Nat.reduceAdd, Nat.reduceMul, Nat.reduceBEq, Nat.reduceLT, Nat.reduceLeDiff, Nat.reduceEqDiff, reduceCtorEq, Int.reduceToNat, Int.reduceLE, Int.reduceLT, Int.reduceBEq, Int.reduceBNe, mCall, tMay_spec t hs, cells_enc, cel3, (enc_eq t).symm]
/-- What is shared in fill: the node, the terms for metas, how many entries, whether it binds. -/
def fil_H (t : Tm) (th : List Tm) (n : Int) (b : Bool) : List HO := [.var 0 (cel3 t), .var 0 [dL th], .var 0 [dI n], .var 0 [dB b]]
theorem fil1_spec {t : Tm} {th : List Tm} {n : Int} {i : Nat} {x u : Tm} {e : Int} {h : List HO} (hi : i < t.args.length) (hn : 0 ≤ n ∧ n + t.size < 4000000000000000000) (hs : t.size < room)
    (hrec : (lim C).call 57 [dT x, dL th, dI (n + bnd t i)] [] = some (.ret (.tup [dT u, dI e]), h)) :
    (lim C).call 83 [dI i, dT x, .href 3 0, .href 0 0, .href 1 0, .href 2 0] (fil_H t th n (bindsB t)) = some (.ret (.tup [dT u, dI e]), fil_H t th n (bindsB t)) := by
  have hr : room = 1099511627776 := rfl
  have hl := len_size t
  have hw1 : IntKind.wrap .i64 ((t.args.length : Int) - 1) = (t.args.length : Int) - 1 := wrap_ok (by omega) (by omega)
  have hw2 : IntKind.wrap .i64 (n + 1) = n + 1 := wrap_ok (by omega) (by omega)
  have hex := (enc_eq x).symm
  have heu := (enc_eq u).symm
  rw [ev_fn 83 Try.f83 _ _ _ rfl Try.func83 rfl Try.ntmps83 rfl]
  cases hb : bindsB t
  · rw [bindsB_no hb, Int.natCast_zero, Int.add_zero] at hrec
    simp -implicitDefEqProofs (disch := decide +kernel) only [go_sem, ↓reduceIte, Nat.reduceSub, Nat.reduceAdd, Nat.reduceMul, Nat.reduceBEq, Nat.reduceLT, Nat.reduceLeDiff, Nat.reduceEqDiff, reduceCtorEq, Int.reduceToNat, Int.reduceLE, Int.reduceLT, Int.reduceBEq, Int.reduceBNe, mCall, fil_H, cel3, cells_enc, hex, heu, hrec]
  · cases he : ((i : Int) == (t.args.length : Int) - 1)
    · rw [bindsB_not he, Int.natCast_zero, Int.add_zero] at hrec
      simp -implicitDefEqProofs (disch := decide +kernel) only [go_sem, ↓reduceIte, Nat.reduceSub, Nat.reduceAdd, Nat.reduceMul, Nat.reduceBEq, Nat.reduceLT, Nat.reduceLeDiff, Nat.reduceEqDiff, reduceCtorEq, Int.reduceToNat, Int.reduceLE, Int.reduceLT, Int.reduceBEq, Int.reduceBNe, mCall, fil_H, cel3, cells_enc, hex, heu, hw1, he, hrec]
    · rw [bindsB_bnd hb he] at hrec
      have hrec : _ = _ := hrec
      rw [Int.natCast_one] at hrec
      simp -implicitDefEqProofs (disch := decide +kernel) only [go_sem, ↓reduceIte, Nat.reduceSub, Nat.reduceAdd, Nat.reduceMul, Nat.reduceBEq, Nat.reduceLT, Nat.reduceLeDiff, Nat.reduceEqDiff, reduceCtorEq, Int.reduceToNat, Int.reduceLE, Int.reduceLT, Int.reduceBEq, Int.reduceBNe, mCall, fil_H, cel3, cells_enc, hex, heu, hw1, hw2, he, hrec]
theorem zT'_eq : zT' = zT := rfl
theorem fill_spec {th : List Tm} {K : Int} (h0 : 0 ≤ K) (hth : ∀ x ∈ th, mayB x = true ∧ vleB K x = true) (hlt : th.length < room) : ∀ t : Tm, t.size ≤ 1048576 → nodesB t = true → vleB K t = true → K + 2000000 * t.depth ≤ topV → ∀ n : Int, 0 ≤ n → n + t.size < 4000000000000000000 →
    ∃ h, (lim C).call 57 [dT t, dL th, dI n] [] = some (.ret (.tup [dT (fillM th t n).1, dI (fillM th t n).2]), h) := by
  refine Tm.ind fun t ih hs hn hv hk n h1 h2 => ?_
  have hr : room = 1099511627776 := rfl
  have hl := len_size t
  have hdo : DoesE 83 [.href 3 0, .href 0 0, .href 1 0, .href 2 0] (fil_H t th n (bindsB t)) t.args (fillF applyR maysB th t n) := by
    intro i hi _ locs toks
    have hsz := size_arg (arg_mem hi)
    have hbl := bnd_le t i
    have hd := depth_arg (arg_mem hi)
    obtain ⟨h, hrec⟩ := ih _ (arg_mem hi) (by omega) (node_args hn i hi) (vle_args hv i hi) (by omega) (n + bnd t i) (by omega) (by omega)
    have h1 := fil1_spec hi ⟨by omega, by omega⟩ (by omega) hrec
    have h1 : (lim C).call 83 [dI i, dT (t.arg i), .href 3 0, .href 0 0, .href 1 0, .href 2 0] (fil_H t th n (bindsB t)) = some (.ret (.tup [dT (fillF applyR maysB th t n i).1, dI (fillF applyR maysB th t n i).2]), fil_H t th n (bindsB t)) := h1
    simp only [mCall, callsPure, pureL, AV.pure, okL, AV.okA, C_thr, eraseL, AV.erase, Bool.and_true, Bool.true_and, Bool.and_false, Bool.false_and, Bool.false_eq_true, if_false, if_true, Option.bind_some, heapRes_ret, show t.args.getD i default = t.arg i from rfl, h1]
  have hea := meach_spec hdo (by omega) rfl rfl
  have hfit : ∀ x ∈ outs (fsts (fillF applyR maysB th t n)) t.args.length, x.size < room ∧ vleB topV x = true := fun x hx => by
    simp only [outs, List.mem_map, List.mem_range] at hx
    obtain ⟨i, hi, rfl⟩ := hx
    have hsz := size_arg (arg_mem hi)
    have hd := depth_arg (arg_mem hi)
    have hf := fill_fits h0 (fun x hx => (hth x hx).2) (t.arg i) (n + bnd t i) (node_args hn i hi) (vle_args hv i hi)
    exact ⟨by have := hf.2; show (fillM th (t.arg i) (n + bnd t i)).1.size < room; omega, vle_mono (by omega) hf.1⟩
  have hsz := fun x hx => (hfit x hx).1
  have hvl := fun x hx => (hfit x hx).2
  have hal : (outs (fsts (fillF applyR maysB th t n)) t.args.length).length = t.args.length := by simp [outs]
  have hct := contains_spec (g := 55) (by decide +kernel) (l := outs (fsts (fillF applyR maysB th t n)) t.args.length) (by rw [hal]; omega) (fun x hx => ⟨_, modd_spec x (hsz x hx)⟩)
  have hee := (enc_eq t).symm
  refine ⟨fil_H t th n (bindsB t), ?_⟩
  rw [fillM, fillT_eq]
  rw [show ((List.range t.args.length).map fun i => (fillF applyR maysB th t n i).1) = outs (fsts (fillF applyR maysB th t n)) t.args.length from rfl]
  have hall : eachR (fillF applyR maysB th t n) t.args.length = if firstE (fillF applyR maysB th t n) t.args.length = 0 then (outs (fsts (fillF applyR maysB th t n)) t.args.length, 0) else ([], firstE (fillF applyR maysB th t n) t.args.length) := rfl
  generalize fillF applyR maysB th t n = FF at hea hct hsz hvl hal hall ⊢
  rw [hall] at hea
  generalize outs (fsts FF) t.args.length = ls at hea hct hsz hvl hal hall ⊢
  simp only [fil_H, cel3] at hea
  rw [ev_fn 57 Try.f57 _ _ _ rfl Try.func57 rfl Try.ntmps57 rfl]
  cases k1 : (t.kind == 1)
  · have hb : bindsB t = (t.kind == 3) := by simp [bindsB, k1]
    rw [hb] at hea ⊢
    by_cases he : ¬ firstE FF t.args.length = 0
    · -- what is not filled
      have hne : (firstE FF t.args.length != 0) = true := by simpa using he
      rw [if_neg he]
      rw [if_neg he] at hea
      simp -implicitDefEqProofs (disch := decide +kernel) only [go_sem, ↓reduceIte, Nat.reduceSub, Nat.reduceAdd, Nat.reduceMul, Nat.reduceBEq, Nat.reduceLT, Nat.reduceLeDiff, Nat.reduceEqDiff, reduceCtorEq, Int.reduceToNat, Int.reduceLE, Int.reduceLT, Int.reduceBEq, Int.reduceBNe, mCall, k1, fil_H, cel3, cells_enc, hee, hea, hne, zT_enc, zT'_eq]
    · have he : firstE FF t.args.length = 0 := Classical.not_not.1 he
      rw [if_pos he]
      rw [if_pos he] at hea
      unfold fillN
      cases k6 : (t.kind != 6)
      · have k6' : t.kind = 6 := by simpa using k6
        have hh := node_head (node_here hn)
        rw [if_neg (by simpa using k6')]
        cases hge : decide (t.head ≥ th.length)
        · have hge' : ¬ t.head ≥ th.length := by simpa using hge
          rw [if_neg hge']
          have hlt2 : t.head.toNat < th.length := by omega
          cases hma : maysB ls
          · rw [hma] at hct
            rw [if_neg (by simp)]
            simp -implicitDefEqProofs (disch := decide +kernel) only [go_sem, ↓reduceIte, Nat.reduceSub, Nat.reduceAdd, Nat.reduceMul, Nat.reduceBEq, Nat.reduceLT, Nat.reduceLeDiff, Nat.reduceEqDiff, reduceCtorEq, Int.reduceToNat, Int.reduceLE, Int.reduceLT, Int.reduceBEq, Int.reduceBNe, mCall, k1, fil_H, cel3, cells_enc, hee, hea, k6, hge, hct, zT_enc, zT'_eq]
          · rw [hma] at hct
            rw [if_pos rfl]
            have hmem : th.getD t.head.toNat default ∈ th := by rw [List.getD_eq_getElem?_getD, List.getElem?_eq_getElem hlt2]; exact List.getElem_mem _
            obtain ⟨h', hap⟩ := sapply_spec (th.getD t.head.toNat default) ⟨ls, n⟩ (by have := (may_parts (hth _ hmem).1).2.1; omega) hsz (by rw [hal]; omega) (vle_mono (by omega) (hth _ hmem).2) hvl
            have hes := encS_mk ls n
            have hgt := getD_get hlt2
            have hhn : 0 ≤ t.head := hh
            generalize applyR (th.getD t.head.toNat default) ⟨ls, n⟩ = rr at hap ⊢
            simp -implicitDefEqProofs (disch := decide +kernel) only [go_sem, ↓reduceIte, Nat.reduceSub, Nat.reduceAdd, Nat.reduceMul, Nat.reduceBEq, Nat.reduceLT, Nat.reduceLeDiff, Nat.reduceEqDiff, reduceCtorEq, Int.reduceToNat, Int.reduceLE, Int.reduceLT, Int.reduceBEq, Int.reduceBNe, mCall, k1, fil_H, cel3, cells_enc, hee, hea, k6, hge, hct, hgt, hhn, hes, hap, (enc_eq rr.1).symm]
        · rw [if_pos (by simpa using hge)]
          simp -implicitDefEqProofs (disch := decide +kernel) only [go_sem, ↓reduceIte, Nat.reduceSub, Nat.reduceAdd, Nat.reduceMul, Nat.reduceBEq, Nat.reduceLT, Nat.reduceLeDiff, Nat.reduceEqDiff, reduceCtorEq, Int.reduceToNat, Int.reduceLE, Int.reduceLT, Int.reduceBEq, Int.reduceBNe, mCall, k1, fil_H, cel3, cells_enc, hee, hea, k6, hge, zT_enc, zT'_eq]
      · rw [if_pos (by simpa using k6)]
        simp -implicitDefEqProofs (disch := decide +kernel) only [go_sem, ↓reduceIte, Nat.reduceSub, Nat.reduceAdd, Nat.reduceMul, Nat.reduceBEq, Nat.reduceLT, Nat.reduceLeDiff, Nat.reduceEqDiff, reduceCtorEq, Int.reduceToNat, Int.reduceLE, Int.reduceLT, Int.reduceBEq, Int.reduceBNe, mCall, k1, fil_H, cel3, cells_enc, hee, hea, k6, tm_enc]
        rfl
  · have hb : bindsB t = true := by simp [bindsB, k1]
    rw [hb] at hea ⊢
    by_cases he : ¬ firstE FF t.args.length = 0
    · -- what is not filled
      have hne : (firstE FF t.args.length != 0) = true := by simpa using he
      rw [if_neg he]
      rw [if_neg he] at hea
      simp -implicitDefEqProofs (disch := decide +kernel) only [go_sem, ↓reduceIte, Nat.reduceSub, Nat.reduceAdd, Nat.reduceMul, Nat.reduceBEq, Nat.reduceLT, Nat.reduceLeDiff, Nat.reduceEqDiff, reduceCtorEq, Int.reduceToNat, Int.reduceLE, Int.reduceLT, Int.reduceBEq, Int.reduceBNe, mCall, k1, fil_H, cel3, cells_enc, hee, hea, hne, zT_enc, zT'_eq]
    · have he : firstE FF t.args.length = 0 := Classical.not_not.1 he
      rw [if_pos he]
      rw [if_pos he] at hea
      unfold fillN
      cases k6 : (t.kind != 6)
      · have k6' : t.kind = 6 := by simpa using k6
        have hh := node_head (node_here hn)
        rw [if_neg (by simpa using k6')]
        cases hge : decide (t.head ≥ th.length)
        · have hge' : ¬ t.head ≥ th.length := by simpa using hge
          rw [if_neg hge']
          have hlt2 : t.head.toNat < th.length := by omega
          cases hma : maysB ls
          · rw [hma] at hct
            rw [if_neg (by simp)]
            simp -implicitDefEqProofs (disch := decide +kernel) only [go_sem, ↓reduceIte, Nat.reduceSub, Nat.reduceAdd, Nat.reduceMul, Nat.reduceBEq, Nat.reduceLT, Nat.reduceLeDiff, Nat.reduceEqDiff, reduceCtorEq, Int.reduceToNat, Int.reduceLE, Int.reduceLT, Int.reduceBEq, Int.reduceBNe, mCall, k1, fil_H, cel3, cells_enc, hee, hea, k6, hge, hct, zT_enc, zT'_eq]
          · rw [hma] at hct
            rw [if_pos rfl]
            have hmem : th.getD t.head.toNat default ∈ th := by rw [List.getD_eq_getElem?_getD, List.getElem?_eq_getElem hlt2]; exact List.getElem_mem _
            obtain ⟨h', hap⟩ := sapply_spec (th.getD t.head.toNat default) ⟨ls, n⟩ (by have := (may_parts (hth _ hmem).1).2.1; omega) hsz (by rw [hal]; omega) (vle_mono (by omega) (hth _ hmem).2) hvl
            have hes := encS_mk ls n
            have hgt := getD_get hlt2
            have hhn : 0 ≤ t.head := hh
            generalize applyR (th.getD t.head.toNat default) ⟨ls, n⟩ = rr at hap ⊢
            simp -implicitDefEqProofs (disch := decide +kernel) only [go_sem, ↓reduceIte, Nat.reduceSub, Nat.reduceAdd, Nat.reduceMul, Nat.reduceBEq, Nat.reduceLT, Nat.reduceLeDiff, Nat.reduceEqDiff, reduceCtorEq, Int.reduceToNat, Int.reduceLE, Int.reduceLT, Int.reduceBEq, Int.reduceBNe, mCall, k1, fil_H, cel3, cells_enc, hee, hea, k6, hge, hct, hgt, hhn, hes, hap, (enc_eq rr.1).symm]
        · rw [if_pos (by simpa using hge)]
          simp -implicitDefEqProofs (disch := decide +kernel) only [go_sem, ↓reduceIte, Nat.reduceSub, Nat.reduceAdd, Nat.reduceMul, Nat.reduceBEq, Nat.reduceLT, Nat.reduceLeDiff, Nat.reduceEqDiff, reduceCtorEq, Int.reduceToNat, Int.reduceLE, Int.reduceLT, Int.reduceBEq, Int.reduceBNe, mCall, k1, fil_H, cel3, cells_enc, hee, hea, k6, hge, zT_enc, zT'_eq]
      · rw [if_pos (by simpa using k6)]
        simp -implicitDefEqProofs (disch := decide +kernel) only [go_sem, ↓reduceIte, Nat.reduceSub, Nat.reduceAdd, Nat.reduceMul, Nat.reduceBEq, Nat.reduceLT, Nat.reduceLeDiff, Nat.reduceEqDiff, reduceCtorEq, Int.reduceToNat, Int.reduceLE, Int.reduceLT, Int.reduceBEq, Int.reduceBNe, mCall, k1, fil_H, cel3, cells_enc, hee, hea, k6, tm_enc]
        rfl
end Go.Proofs.Ytmemmdfjlhamfaa
