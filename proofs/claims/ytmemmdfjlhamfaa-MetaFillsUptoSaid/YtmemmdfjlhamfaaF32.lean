/- The reference of layer 3, gone through. -/
import Derived.Test.YtmemmdfjlhamfaaF31
set_option linter.unusedSimpArgs false
set_option linter.unusedVariables false
set_option maxRecDepth 100000
namespace Go.Proofs.Ytmemmdfjlhamfaa
open Go.Proofs
def outW (h : List HO) : R Tm → Option (CR × List HO)
  | .ok u m => some (.ret (dT u), h ++ [.var 0 [dI m, dI 0]])
  | .er e m => some (.ret (dT zT), h ++ [.var 0 [dI m, dI (e : Int)]])
def rap_S (t : Tm) (s : Sb) (h : List HO) (xs : List Tm) (m : Nat) (i : Nat) : St :=
  mk 74 [(0, .href h.length 0), (4, .lref 4 0), (5, .lref 5 0), (6, .lref 6 0), (7, acc 0 (encs xs)), (8, dI i)]
    [(4, cel3 t), (5, cel2 s), (6, zc3)] (h ++ [.var 0 [dI m, dI 0]]) (accT xs.length)
theorem rap_step {t : Tm} {s : Sb} {h : List HO} {xs : List Tm} {m m' i : Nat} {x : Tm} (hi : i < t.args.length) (hxl : xs.length = i) (hs : t.size < room) (hm : ∀ x ∈ s.L, mayB x = true ∧ vlowB x = true) (hl : s.L.length < room) (hsh : 0 ≤ s.sh ∧ s.sh ≤ 4503599627370496)
    (hrec : (lim C).call 116 [.href h.length 0, dT (t.arg i), dS (below s t i)] (h ++ [.var 0 [dI m, dI 0]]) = some (.ret (dT x), h ++ [.var 0 [dI m', dI 0]])) :
    (lim C).code 116 (cf (.loop (cf (cf (cs (cf (cs (cs (cs (cs (bodyOf Try.f116))))))))))) (rap_S t s h xs m i) = some (.nor, rap_S t s h (xs ++ [x]) m' (i + 1)) := by
  have hr : room = 1099511627776 := rfl
  have hl' := len_size t
  have hap := fun locs heap => mApp_acc (encs xs) (enc x) 3 locs heap (by rw [encs_length]; omega) (encs_all _) (enc_width _)
  have hsn : encs xs ++ [enc x] = encs (xs ++ [x]) := by rw [encs_append]; rfl
  rw [encs_length, hsn] at hap
  have hxs : (xs ++ [x]).length = xs.length + 1 := by simp
  have hu := runder_spec s (fun x hx => ⟨by have := (may_parts (hm x hx).1).2.1; omega, (hm x hx).2⟩) hl hsh
  rw [underG_may fun x hx => (hm x hx).1] at hu
  have hbi := binds_spec t i hs hi
  have h00 : ((0 : Int) != 0) = false := rfl
  unfold below at hrec
  rcases Nat.eq_zero_or_pos (bnd t i) with hb | hb
  · rw [if_neg (by omega)] at hrec
    rw [hb] at hbi
    have hb1 : (((0 : Nat) : Int) == 1) = false := rfl
    simp -implicitDefEqProofs (disch := decide +kernel) only [cf, cs, bodyOf, Try.f116, Option.getD_some, go_sem, ↓reduceIte, Nat.reduceSub, Nat.reduceAdd, Nat.reduceMul, Nat.reduceBEq, Nat.reduceLT, Nat.reduceLeDiff, Nat.reduceEqDiff, reduceCtorEq, Int.reduceToNat, Int.reduceLE, Int.reduceLT, Int.reduceBEq, Int.reduceBNe, mCall, rap_S, cel3, cells_enc, cells_encS, cel2, zc3, acc_keep, acc_drop, (encS_eq s).symm, (enc_eq t).symm, (enc_eq x).symm, lt_true hi, arg_get hi, getApp0, setApp0, hrec, hap, hxs, hbi, hb1, h00, wrap_succ (n := i) (by omega)]
  · have hb' : bnd t i = 1 := by have := bnd_le t i; omega
    rw [if_pos hb'] at hrec
    rw [hb'] at hbi
    have hb1 : (((1 : Nat) : Int) == 1) = true := rfl
    simp -implicitDefEqProofs (disch := decide +kernel) only [cf, cs, bodyOf, Try.f116, Option.getD_some, go_sem, ↓reduceIte, Nat.reduceSub, Nat.reduceAdd, Nat.reduceMul, Nat.reduceBEq, Nat.reduceLT, Nat.reduceLeDiff, Nat.reduceEqDiff, reduceCtorEq, Int.reduceToNat, Int.reduceLE, Int.reduceLT, Int.reduceBEq, Int.reduceBNe, mCall, rap_S, cel3, cells_enc, cells_encS, cel2, zc3, acc_keep, acc_drop, (encS_eq s).symm, (encS_eq (underS s)).symm, (enc_eq t).symm, (enc_eq x).symm, lt_true hi, arg_get hi, getApp0, setApp0, hrec, hap, hxs, hbi, hb1, hu, h00, wrap_succ (n := i) (by omega)]
theorem rap_stop {t : Tm} {s : Sb} {h : List HO} {xs : List Tm} {m m' i e : Nat} (he : ((e : Int) != 0) = true) (hi : i < t.args.length) (hxl : xs.length = i) (hs : t.size < room) (hm : ∀ x ∈ s.L, mayB x = true ∧ vlowB x = true) (hl : s.L.length < room) (hsh : 0 ≤ s.sh ∧ s.sh ≤ 4503599627370496)
    (hrec : (lim C).call 116 [.href h.length 0, dT (t.arg i), dS (below s t i)] (h ++ [.var 0 [dI m, dI 0]]) = some (.ret (dT zT), h ++ [.var 0 [dI m', dI (e : Int)]])) :
    (lim C).code 116 (cf (.loop (cf (cf (cs (cf (cs (cs (cs (cs (bodyOf Try.f116))))))))))) (rap_S t s h xs m i) = some (.ret, mk 74 [(6, .lref 6 0)] [(6, cel3 zT)] (h ++ [.var 0 [dI m', dI (e : Int)]]) (accT xs.length)) := by
  have hr : room = 1099511627776 := rfl
  have hl' := len_size t
  have hu := runder_spec s (fun x hx => ⟨by have := (may_parts (hm x hx).1).2.1; omega, (hm x hx).2⟩) hl hsh
  rw [underG_may fun x hx => (hm x hx).1] at hu
  have hbi := binds_spec t i hs hi
  unfold below at hrec
  rcases Nat.eq_zero_or_pos (bnd t i) with hb | hb
  · rw [if_neg (by omega)] at hrec
    rw [hb] at hbi
    have hb1 : (((0 : Nat) : Int) == 1) = false := rfl
    simp -implicitDefEqProofs (disch := decide +kernel) only [cf, cs, bodyOf, Try.f116, Option.getD_some, go_sem, ↓reduceIte, Nat.reduceSub, Nat.reduceAdd, Nat.reduceMul, Nat.reduceBEq, Nat.reduceLT, Nat.reduceLeDiff, Nat.reduceEqDiff, reduceCtorEq, Int.reduceToNat, Int.reduceLE, Int.reduceLT, Int.reduceBEq, Int.reduceBNe, mCall, rap_S, cel3, cells_enc, cells_encS, cel2, zc3, acc_keep, acc_drop, (encS_eq s).symm, (enc_eq t).symm, (enc_eq zT).symm, lt_true hi, arg_get hi, getApp0, setApp0, hrec, hbi, hb1, he]
  · have hb' : bnd t i = 1 := by have := bnd_le t i; omega
    rw [if_pos hb'] at hrec
    rw [hb'] at hbi
    have hb1 : (((1 : Nat) : Int) == 1) = true := rfl
    simp -implicitDefEqProofs (disch := decide +kernel) only [cf, cs, bodyOf, Try.f116, Option.getD_some, go_sem, ↓reduceIte, Nat.reduceSub, Nat.reduceAdd, Nat.reduceMul, Nat.reduceBEq, Nat.reduceLT, Nat.reduceLeDiff, Nat.reduceEqDiff, reduceCtorEq, Int.reduceToNat, Int.reduceLE, Int.reduceLT, Int.reduceBEq, Int.reduceBNe, mCall, rap_S, cel3, cells_enc, cells_encS, cel2, zc3, acc_keep, acc_drop, (encS_eq s).symm, (encS_eq (underS s)).symm, (enc_eq t).symm, (enc_eq zT).symm, lt_true hi, arg_get hi, getApp0, setApp0, hrec, hbi, hb1, hu, he]
end Go.Proofs.Ytmemmdfjlhamfaa
