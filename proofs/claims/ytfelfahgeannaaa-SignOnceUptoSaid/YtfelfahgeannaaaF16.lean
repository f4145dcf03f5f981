/- The laws of layer 9: SignMore, SignJoins, SignOnce. -/
import Derived.Test.YtfelfahgeannaaaF15
set_option linter.unusedSimpArgs false
set_option linter.unusedVariables false
set_option maxRecDepth 100000
namespace Go.Proofs.Ytfelfahgeannaaa
open Go.Proofs
theorem at_append {l : List Dc} {d : Dc} {i : Nat} (h : i < l.length) : Dcs.at (l ++ [d]) i = Dcs.at l i := by
  simp [Dcs.at, List.getD, List.getElem?_append_left h]
theorem at_last (l : List Dc) (d : Dc) : Dcs.at (l ++ [d]) l.length = d := by simp [Dcs.at, List.getD]
theorem consts_more (sig : List Dc) (d : Dc) (f : Int) : ∀ n, n ≤ sig.length → consts (sig ++ [d]) f n = consts sig f n
  | 0, _ => rfl
  | n + 1, h => by
    have : inFam (sig ++ [d]) f n = inFam sig f n := by simp only [inFam, at_append (show n < sig.length by omega)]
    simp only [consts, this, consts_more sig d f n (by omega)]
def smore_S (sig : List Dc) (nn : Int) (l m : List Nat) (i : Nat) : St := mk 84 [(0, dDs sig), (10, .d (.slc (ints l))), (11, .d (.slc (ints m))), (12, dI nn), (13, dI i)] [] [] [some (sig.length + 1)]
theorem smore_loop {b : Code} {σ : St} {sig : List Dc} {nn : Int} {l m : List Nat} (hb : b = cf (cf (cs (cf (cs (cs (cs (cs (cs (cs (cs (cs (cs (cs (bodyOf Try.f5))))))))))))))) (hσ : σ = smore_S sig nn l m 0) (hl : l.length < room) (hm : ∀ i, i < l.length → m[i]? = l[i]?) :
    (lim C).code 5 (.loop b) σ = some (.exit 0, mk 84 [(0, dDs sig), (10, .d (.slc (ints l))), (11, .d (.slc (ints m))), (12, dI nn), (13, dI l.length), (60, dB false)] [] [] [some (sig.length + 1)]) := by
  subst hb hσ
  have hr : room = 1099511627776 := rfl
  refine loop_run (smore_S sig nn l m) l.length ?_ ?_ (by simp)
  · intro i hi
    have hli : l[i]? = some l[i] := List.getElem?_eq_getElem hi
    have hmi := hm i hi
    rw [hli] at hmi
    have e : ((l[i] : Int) != (l[i] : Int)) = false := by simp
    simp -implicitDefEqProofs (disch := decide +kernel) only [cf, cs, bodyOf, Try.f5, Option.getD_some, go_sem, ↓reduceIte, Nat.reduceSub, Nat.reduceAdd, Nat.reduceMul, Nat.reduceBEq, Nat.reduceLT, Nat.reduceLeDiff, Nat.reduceEqDiff, reduceCtorEq, Int.reduceToNat, Int.reduceLE, Int.reduceLT, Int.reduceBEq, Int.reduceBNe, mCall, smore_S, lt_true hi, hli, hmi, e, wrap_succ (n := i) (by omega)]
  · simp -implicitDefEqProofs (disch := decide +kernel) only [cf, cs, bodyOf, Try.f5, Option.getD_some, go_sem, ↓reduceIte, Nat.reduceSub, Nat.reduceAdd, Nat.reduceMul, Nat.reduceBEq, Nat.reduceLT, Nat.reduceLeDiff, Nat.reduceEqDiff, reduceCtorEq, Int.reduceToNat, Int.reduceLE, Int.reduceLT, Int.reduceBEq, Int.reduceBNe, mCall, smore_S, lt_false (Nat.le_refl l.length)]
theorem signMore_holds (sig : List Dc) (wd : ∀ d ∈ sig, Wf d.t) (hz : dsum sig ≤ 1048576) (d : Dc) (w : Wf d.t) (hs : d.t.size ≤ 1048576) (f : Int) (jf : in64 f) : ∃ h, (lim C).call 5 [dDs sig, dDc d, dI f] [] = some (.ret (dB true), h) := by
  have hr : room = 1099511627776 := rfl
  obtain ⟨hsl, hsd⟩ := dsum_room (sig := sig) (by omega)
  have hcl := consts_le sig f sig.length
  have hln := dsum_len (l := sig)
  refine ⟨[], ?_⟩
  rw [ev_fn 5 Try.f5 _ _ _ rfl Try.func5 rfl Try.ntmps5 rfl]
  cases h2 : fewB sig
  · simp -implicitDefEqProofs (disch := decide +kernel) only [go_sem, ↓reduceIte, Nat.reduceSub, Nat.reduceAdd, Nat.reduceMul, Nat.reduceBEq, Nat.reduceLT, Nat.reduceLeDiff, Nat.reduceEqDiff, reduceCtorEq, Int.reduceToNat, Int.reduceLE, Int.reduceLT, Int.reduceBEq, Int.reduceBNe, mCall, awake9_spec, light_spec d.t _ _ (show d.t.size < room by omega), few_spec sig hsl hsd, h2]
  · skip
    cases h1 : lightB d.t 1000 80
    · simp -implicitDefEqProofs (disch := decide +kernel) only [go_sem, ↓reduceIte, Nat.reduceSub, Nat.reduceAdd, Nat.reduceMul, Nat.reduceBEq, Nat.reduceLT, Nat.reduceLeDiff, Nat.reduceEqDiff, reduceCtorEq, Int.reduceToNat, Int.reduceLE, Int.reduceLT, Int.reduceBEq, Int.reduceBNe, mCall, awake9_spec, light_spec d.t _ _ (show d.t.size < room by omega), few_spec sig hsl hsd, h2, h1]
    · skip
      have ha1 := fun locs heap => app_first (encDs sig) 4 locs heap (by rw [encDs_length]; omega) (encDs_all _)
      have ha2 := fun locs heap => app_more (encDs sig) [encD d] 4 locs heap (by rw [encDs_length]; simp; omega) (encDs_all _) (by simp [encD_width])
      have hcat : encDs sig ++ [encD d] = encDs (sig ++ [d]) := by rw [encDs_append]; rfl
      simp only [encDs_length, hcat] at ha1 ha2
      have hm := sconst_spec (sig ++ [d]) f (by simp; omega)
      have hin : inFam (sig ++ [d]) f sig.length = (decide (f ≥ 0) && familyOf d.t == f) := by simp only [inFam, at_last]
      have hlen : (sig ++ [d]).length = sig.length + 1 := by simp
      rw [hlen, consts, consts_more sig d f _ (Nat.le_refl _), hin] at hm
      have hA : (decide (f ≥ 0) && familyOf d.t == f) = false → (consts sig f sig.length).length < room → True := fun _ _ => trivial
      have e0 : ((((consts sig f sig.length).length : Int)) != ((consts sig f sig.length).length : Int)) = false := by simp
      have e00 : IntKind.wrap .i64 (((consts sig f sig.length).length : Int) + 0) = ((consts sig f sig.length).length : Int) := by rw [wrap_ok (by omega) (by omega)]; omega
      have e01 := wrap_succ (n := (consts sig f sig.length).length) (by omega)
      cases c1 : decide (f ≥ 0)
      · rw [c1, Bool.false_and, if_neg (by simp)] at hm
        simp -implicitDefEqProofs (disch := decide +kernel) only [go_sem, ↓reduceIte, Nat.reduceSub, Nat.reduceAdd, Nat.reduceMul, Nat.reduceBEq, Nat.reduceLT, Nat.reduceLeDiff, Nat.reduceEqDiff, reduceCtorEq, Int.reduceToNat, Int.reduceLE, Int.reduceLT, Int.reduceBEq, Int.reduceBNe, mCall, awake9_spec, light_spec d.t _ _ (show d.t.size < room by omega), few_spec sig hsl hsd, h1, h2, sconst_spec sig f hsl, ha1, ha2, hm, c1, e0, e00]
        rw [smore_loop (sig := sig) (nn := 0) (l := consts sig f sig.length) (m := consts sig f sig.length) ?hb ?hs (by omega) (fun _ _ => rfl)]
        case hb => rfl
        case hs => rfl
        simp -implicitDefEqProofs (disch := decide +kernel) only [go_sem, ↓reduceIte, Nat.reduceSub, Nat.reduceAdd, Nat.reduceMul, Nat.reduceBEq, Nat.reduceLT, Nat.reduceLeDiff, Nat.reduceEqDiff, reduceCtorEq, Int.reduceToNat, Int.reduceLE, Int.reduceLT, Int.reduceBEq, Int.reduceBNe, mCall]
      · cases c2 : (familyOf d.t == f)
        · rw [c1, c2, Bool.and_false, if_neg (by simp)] at hm
          simp -implicitDefEqProofs (disch := decide +kernel) only [go_sem, ↓reduceIte, Nat.reduceSub, Nat.reduceAdd, Nat.reduceMul, Nat.reduceBEq, Nat.reduceLT, Nat.reduceLeDiff, Nat.reduceEqDiff, reduceCtorEq, Int.reduceToNat, Int.reduceLE, Int.reduceLT, Int.reduceBEq, Int.reduceBNe, mCall, awake9_spec, light_spec d.t _ _ (show d.t.size < room by omega), few_spec sig hsl hsd, h1, h2, sconst_spec sig f hsl, ha1, ha2, hm, c1, c2, sfamily_spec d.t, e0, e00]
          rw [smore_loop (sig := sig) (nn := 0) (l := consts sig f sig.length) (m := consts sig f sig.length) ?hb ?hs (by omega) (fun _ _ => rfl)]
          case hb => rfl
          case hs => rfl
          simp -implicitDefEqProofs (disch := decide +kernel) only [go_sem, ↓reduceIte, Nat.reduceSub, Nat.reduceAdd, Nat.reduceMul, Nat.reduceBEq, Nat.reduceLT, Nat.reduceLeDiff, Nat.reduceEqDiff, reduceCtorEq, Int.reduceToNat, Int.reduceLE, Int.reduceLT, Int.reduceBEq, Int.reduceBNe, mCall]
        · rw [c1, c2, Bool.and_self, if_pos rfl] at hm
          have hl2 : (consts sig f sig.length ++ [sig.length]).length = (consts sig f sig.length).length + 1 := by simp
          have e1 : ((((consts sig f sig.length).length + 1 : Nat) : Int) != (((consts sig f sig.length).length + 1 : Nat) : Int)) = false := by simp
          simp -implicitDefEqProofs (disch := decide +kernel) only [go_sem, ↓reduceIte, Nat.reduceSub, Nat.reduceAdd, Nat.reduceMul, Nat.reduceBEq, Nat.reduceLT, Nat.reduceLeDiff, Nat.reduceEqDiff, reduceCtorEq, Int.reduceToNat, Int.reduceLE, Int.reduceLT, Int.reduceBEq, Int.reduceBNe, mCall, awake9_spec, light_spec d.t _ _ (show d.t.size < room by omega), few_spec sig hsl hsd, h1, h2, sconst_spec sig f hsl, ha1, ha2, hm, c1, c2, sfamily_spec d.t, hl2, e01, e1]
          rw [smore_loop (sig := sig) (nn := 1) (l := consts sig f sig.length) (m := consts sig f sig.length ++ [sig.length]) ?hb ?hs (by omega) (fun i hi => List.getElem?_append_left hi)]
          case hb => rfl
          case hs => rfl
          have hg : (consts sig f sig.length ++ [sig.length])[(consts sig f sig.length).length]? = some sig.length := by simp
          simp -implicitDefEqProofs (disch := decide +kernel) only [go_sem, ↓reduceIte, Nat.reduceSub, Nat.reduceAdd, Nat.reduceMul, Nat.reduceBEq, Nat.reduceLT, Nat.reduceLeDiff, Nat.reduceEqDiff, reduceCtorEq, Int.reduceToNat, Int.reduceLE, Int.reduceLT, Int.reduceBEq, Int.reduceBNe, mCall, hg]
def joins : List Tm → Tm → Tm
  | [], r => r
  | a :: l, r => .mk 1 0 [a, joins l r]
theorem joins_back {t : Tm} (h : nodesB t = true) : joins (asks t) (lastOf t) = t := by
  unfold asks
  induction t using pis_ind with
  | h0 t hp => rw [pisOf_no hp, lastOf_no hp]; rfl
  | h1 t hp ih =>
    have h' := isPi_iff.1 hp
    rw [nodesB_eq, Bool.and_eq_true, allB_iff] at h
    have hn := h.1
    simp [nodeOk, h'.1] at hn
    rw [pisOf_pi hp, lastOf_pi hp, List.map_cons, joins, ih (h.2 1 (by omega))]
    obtain ⟨k, hd, l⟩ := t
    simp only [Tm.kind, Tm.head, Tm.args] at h' hn ⊢
    match l, h'.2 with
    | [a, b], _ => simp [h'.1, hn.1, Tm.arg, Tm.args]
theorem joins_size (l : List Tm) (r : Tm) : (joins l r).size = l.length + (l.map Tm.size).sum + r.size := by
  induction l with
  | nil => simp [joins]
  | cons a l ih => rw [joins, size_mk]; simp [ih]; omega
/-- What is joined from the i-th on. -/
def joinFrom (t : Tm) (i : Nat) : Tm := joins ((asks t).drop i) (lastOf t)
theorem joinFrom_step {t : Tm} {i : Nat} (h : i < (asks t).length) : joinFrom t i = .mk 1 0 [(asks t).getD i default, joinFrom t (i + 1)] := by
  unfold joinFrom
  rw [List.drop_eq_getElem_cons h, joins]
  simp [List.getD, List.getElem?_eq_getElem h]
def sjoin_S (t a : Tm) (i : Nat) : St := mk 102 [(2, .lref 2 0), (3, .lref 3 0), (8, dL (asks t)), (9, .lref 9 0), (10, .lref 10 0), (11, dI ((i : Int) - 1))] [(2, cel3 t), (3, cel3 a), (9, cel3 (lastOf t)), (10, cel3 (joinFrom t i))] [] []
theorem sjoin_loop {b : Code} {σ : St} {t a : Tm} (hb : b = cf (cf (cs (cf (cs (cs (cs (cs (cs (cs (cs (bodyOf Try.f13)))))))))))) (hσ : σ = sjoin_S t a (asks t).length) (hl : (asks t).length < room) :
    (lim C).code 13 (.loop b) σ = some (.exit 0, mk 102 [(2, .lref 2 0), (3, .lref 3 0), (8, dL (asks t)), (9, .lref 9 0), (10, .lref 10 0), (11, dI (-1)), (41, dB false)] [(2, cel3 t), (3, cel3 a), (9, cel3 (lastOf t)), (10, cel3 (joinFrom t 0))] [] []) := by
  subst hb hσ
  have hr : room = 1099511627776 := rfl
  have := loop_run (C := C) (fun k => sjoin_S t a ((asks t).length - k)) (asks t).length (f := 13) (b := cf (cf (cs (cf (cs (cs (cs (cs (cs (cs (cs (bodyOf Try.f13)))))))))))) (x := .exit 0) (σ' := mk 102 [(2, .lref 2 0), (3, .lref 3 0), (8, dL (asks t)), (9, .lref 9 0), (10, .lref 10 0), (11, dI (-1)), (41, dB false)] [(2, cel3 t), (3, cel3 a), (9, cel3 (lastOf t)), (10, cel3 (joinFrom t 0))] [] []) ?_ ?_ (by simp)
  · simpa using this
  · intro k hk
    obtain ⟨i, hi⟩ : ∃ i, (asks t).length - k = i + 1 := ⟨(asks t).length - k - 1, by omega⟩
    have hi2 : (asks t).length - (k + 1) = i := by omega
    have hil : i < (asks t).length := by omega
    simp only [hi, hi2]
    have e0 : (((i + 1 : Nat) : Int) - 1) = (i : Int) := by omega
    have e1 : decide ((i : Int) ≥ 0) = true := by simp
    have e2 : IntKind.wrap .i64 ((i : Int) - 1) = (i : Int) - 1 := wrap_ok (by omega) (by omega)
    have hst := joinFrom_step hil
    have hj : Dv.agg [.int .i64 1, .int .i64 0, .slc [enc ((asks t).getD i default), enc (joinFrom t (i + 1))]] = enc (joinFrom t i) := by rw [hst, enc_mk]; rfl
    simp -implicitDefEqProofs (disch := decide +kernel) only [cf, cs, bodyOf, Try.f13, Option.getD_some, go_sem, ↓reduceIte, Nat.reduceSub, Nat.reduceAdd, Nat.reduceMul, Nat.reduceBEq, Nat.reduceLT, Nat.reduceLeDiff, Nat.reduceEqDiff, reduceCtorEq, Int.reduceToNat, Int.reduceLE, Int.reduceLT, Int.reduceBEq, Int.reduceBNe, mCall, sjoin_S, e0, e1, e2, getD_get hil, hj]
  · have e1 : decide ((((0 : Nat) : Int) - 1) ≥ 0) = false := by decide
    simp only [Nat.sub_self]
    have e0 : (((0 : Nat) : Int) - 1) = -1 := by decide
    rw [e0] at e1
    simp -implicitDefEqProofs (disch := decide +kernel) only [cf, cs, bodyOf, Try.f13, Option.getD_some, go_sem, ↓reduceIte, Nat.reduceSub, Nat.reduceAdd, Nat.reduceMul, Nat.reduceBEq, Nat.reduceLT, Nat.reduceLeDiff, Nat.reduceEqDiff, reduceCtorEq, Int.reduceToNat, Int.reduceLE, Int.reduceLT, Int.reduceBEq, Int.reduceBNe, mCall, sjoin_S, e0, e1]
theorem signJoins_holds (t : Tm) (w : Wf t) (hs : t.size ≤ 1048576) (a : Tm) (wa : Wf a) (hsa : a.size ≤ 1048576) : ∃ h, (lim C).call 13 [dT t, dT a] [] = some (.ret (dB true), h) := by
  have hr : room = 1099511627776 := rfl
  have hal := asks_len t
  have hla := last_size t
  have hst : t.size < room := by omega
  have hsa : a.size < room := by omega
  obtain ⟨h, hsp⟩ := split_spec t hst
  refine ⟨[], ?_⟩
  rw [ev_fn 13 Try.f13 _ _ _ rfl Try.func13 rfl Try.ntmps13 rfl]
  cases h1 : lightB t 1000 80
  · simp -implicitDefEqProofs (disch := decide +kernel) only [go_sem, ↓reduceIte, Nat.reduceSub, Nat.reduceAdd, Nat.reduceMul, Nat.reduceBEq, Nat.reduceLT, Nat.reduceLeDiff, Nat.reduceEqDiff, reduceCtorEq, Int.reduceToNat, Int.reduceLE, Int.reduceLT, Int.reduceBEq, Int.reduceBNe, mCall, awake9_spec, light_spec t _ _ hst, light_spec a _ _ hsa, h1]
  · skip
    cases h2 : lightB a 1000 80
    · simp -implicitDefEqProofs (disch := decide +kernel) only [go_sem, ↓reduceIte, Nat.reduceSub, Nat.reduceAdd, Nat.reduceMul, Nat.reduceBEq, Nat.reduceLT, Nat.reduceLeDiff, Nat.reduceEqDiff, reduceCtorEq, Int.reduceToNat, Int.reduceLE, Int.reduceLT, Int.reduceBEq, Int.reduceBNe, mCall, awake9_spec, light_spec t _ _ hst, light_spec a _ _ hsa, h1, h2]
    · skip
      have e2 : IntKind.wrap .i64 (((asks t).length : Int) - 1) = ((asks t).length : Int) - 1 := wrap_ok (by omega) (by omega)
      simp -implicitDefEqProofs (disch := decide +kernel) only [go_sem, ↓reduceIte, Nat.reduceSub, Nat.reduceAdd, Nat.reduceMul, Nat.reduceBEq, Nat.reduceLT, Nat.reduceLeDiff, Nat.reduceEqDiff, reduceCtorEq, Int.reduceToNat, Int.reduceLE, Int.reduceLT, Int.reduceBEq, Int.reduceBNe, mCall, awake9_spec, light_spec t _ _ hst, light_spec a _ _ hsa, h1, h2, hsp, e2]
      have hjl : joinFrom t (asks t).length = lastOf t := by unfold joinFrom; rw [List.drop_length]; rfl
      rw [sjoin_loop (t := t) (a := a) ?hb ?hs (by omega)]
      case hb => rfl
      case hs => unfold sjoin_S; rw [hjl]; rfl
      have hpi : isPi (.mk 1 0 [a, t]) = true := by simp [isPi, kind_mk, args_mk]
      have ask2 : asks (.mk 1 0 [a, t]) = a :: asks t := by unfold asks; rw [pisOf_pi hpi]; rfl
      have last2 : lastOf (.mk 1 0 [a, t]) = lastOf t := by rw [lastOf_pi hpi]; rfl
      have hsm : (Tm.mk 1 0 [a, t]).size < room := by rw [size_mk]; simp; omega
      obtain ⟨h', hsp2⟩ := split_spec (.mk 1 0 [a, t]) hsm
      rw [ask2, last2] at hsp2
      have hfam : familyOf (.mk 1 0 [a, t]) = familyOf t := by unfold familyOf; rw [last2]
      have f2 := sfamily_spec (.mk 1 0 [a, t])
      have k2 := skind_spec (.mk 1 0 [a, t])
      rw [hfam] at f2
      rw [last2] at k2
      have hmore : Dv.agg [.int .i64 1, .int .i64 0, .slc [enc a, enc t]] = enc (.mk 1 0 [a, t]) := by rw [enc_mk]; rfl
      have hj0 : joinFrom t 0 = joins (asks t) (lastOf t) := rfl
      have hsj : (joinFrom t 0).size < room := by rw [hj0, joins_size]; have := pis_sum t; omega
      have e3 := wrap_succ (n := (asks t).length) (by omega)
      have e4 : (((a :: asks t).length : Int) == (((asks t).length + 1 : Nat) : Int)) = true := by simp
      have x1 := tsame_spec a hsa a
      rw [sameB_refl] at x1
      have x2 := tsame_spec (lastOf t) (by omega) (lastOf t)
      rw [sameB_refl] at x2
      cases hm : mayB t
      · simp -implicitDefEqProofs (disch := decide +kernel) only [go_sem, ↓reduceIte, Nat.reduceSub, Nat.reduceAdd, Nat.reduceMul, Nat.reduceBEq, Nat.reduceLT, Nat.reduceLeDiff, Nat.reduceEqDiff, reduceCtorEq, Int.reduceToNat, Int.reduceLE, Int.reduceLT, Int.reduceBEq, Int.reduceBNe, mCall, hmore, hsp2, tMay_spec t hst, hm, e3, e4, x1, x2, f2, sfamily_spec t, k2, skind_spec t, tbool_4]
      · have x3 := tsame_spec (joinFrom t 0) hsj t
        have hx : sameB (joinFrom t 0) t = true := by rw [hj0, joins_back (may_nodes hm)]; exact sameB_refl t
        rw [hx] at x3
        simp -implicitDefEqProofs (disch := decide +kernel) only [go_sem, ↓reduceIte, Nat.reduceSub, Nat.reduceAdd, Nat.reduceMul, Nat.reduceBEq, Nat.reduceLT, Nat.reduceLeDiff, Nat.reduceEqDiff, reduceCtorEq, Int.reduceToNat, Int.reduceLE, Int.reduceLT, Int.reduceBEq, Int.reduceBNe, mCall, hmore, hsp2, tMay_spec t hst, hm, e3, e4, x1, x2, x3, f2, sfamily_spec t, k2, skind_spec t, tbool_4]
end Go.Proofs.Ytfelfahgeannaaa
