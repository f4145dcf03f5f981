/- subst: apply and spine, gone through. -/
import Derived.Test.YtmemmdfjlhamfaaF22
set_option linter.unusedSimpArgs false
set_option linter.unusedVariables false
set_option maxRecDepth 100000
namespace Go.Proofs.Ytmemmdfjlhamfaa
open Go.Proofs
abbrev errV (e : Nat) : AV := .iface 29 (.int .i64 (e : Int))
def outR (h : List HO) : R Tm → Option (CR × List HO)
  | .ok u m => some (.ret (dT u), h ++ [.var 0 [dI m]])
  | .er e m => some (.pan (errV e), h ++ [.var 0 [dI m]])
def ap_S (t : Tm) (s : Sb) (h : List HO) (xs : List Tm) (m : Nat) (i : Nat) : St :=
  mk 78 [(0, .href h.length 0), (4, .lref 4 0), (5, .lref 5 0), (6, .lref 6 0), (7, .lref 7 0), (30, dL t.args), (31, dI t.args.length), (32, dI i)]
    [(4, cel3 t), (5, cel2 s), (6, zc3), (7, [dI t.kind, dI t.head, acc 0 (encs xs)])] (h ++ [.var 0 [dI m]]) (accT xs.length)
theorem ap_step {t : Tm} {s : Sb} {h : List HO} {xs : List Tm} {m m' i : Nat} {x : Tm} (hi : i < t.args.length) (hxl : xs.length = i) (hs : t.size < room) (hm : ∀ x ∈ s.L, mayB x = true ∧ vlowB x = true) (hl : s.L.length < room) (hsh : 0 ≤ s.sh ∧ s.sh ≤ 4503599627370496)
    (hrec : (lim C).call 66 [.href h.length 0, dT (t.arg i), dS (below s t i)] (h ++ [.var 0 [dI m]]) = some (.ret (dT x), h ++ [.var 0 [dI m']])) :
    (lim C).code 66 (cf (.loop (cf (cf (cs (cf (cs (cs (cs (bodyOf Try.f66)))))))))) (ap_S t s h xs m i) = some (.nor, ap_S t s h (xs ++ [x]) m' (i + 1)) := by
  have hr : room = 1099511627776 := rfl
  have hl' := len_size t
  have hap := fun locs heap => mApp_acc (encs xs) (enc x) 3 locs heap (by rw [encs_length]; omega) (encs_all _) (enc_width _)
  have hsn : encs xs ++ [enc x] = encs (xs ++ [x]) := by rw [encs_append]; rfl
  rw [encs_length, hsn] at hap
  have hxs : (xs ++ [x]).length = xs.length + 1 := by simp
  have hw1 : IntKind.wrap .i64 ((t.args.length : Int) - 1) = (t.args.length : Int) - 1 := wrap_ok (by omega) (by omega)
  have hu := under_spec s hm hl hsh
  unfold below at hrec
  cases k1 : (t.kind == 1)
  · cases k3 : (t.kind == 3)
    · have hb : bindsB t = false := by simp [bindsB, k1, k3]
      rw [bindsB_no hb, if_neg (by decide)] at hrec
      simp -implicitDefEqProofs (disch := decide +kernel) only [cf, cs, bodyOf, Try.f66, Option.getD_some, go_sem, ↓reduceIte, Nat.reduceSub, Nat.reduceAdd, Nat.reduceMul, Nat.reduceBEq, Nat.reduceLT, Nat.reduceLeDiff, Nat.reduceEqDiff, reduceCtorEq, Int.reduceToNat, Int.reduceLE, Int.reduceLT, Int.reduceBEq, Int.reduceBNe, mCall, ap_S, cel3, cells_enc, cells_encS, cel2, zc3, acc_keep, acc_drop, (encS_eq s).symm, (encS_eq (underS s)).symm, lt_true hi, arg_get hi, getApp0, setApp0, hrec, hap, hxs, wrap_succ (n := i) (by omega), k1, k3]
    · have hb : bindsB t = true := by simp [bindsB, k1, k3]
      cases he : ((i : Int) == (t.args.length : Int) - 1)
      · rw [bindsB_not he, if_neg (by decide)] at hrec
        simp -implicitDefEqProofs (disch := decide +kernel) only [cf, cs, bodyOf, Try.f66, Option.getD_some, go_sem, ↓reduceIte, Nat.reduceSub, Nat.reduceAdd, Nat.reduceMul, Nat.reduceBEq, Nat.reduceLT, Nat.reduceLeDiff, Nat.reduceEqDiff, reduceCtorEq, Int.reduceToNat, Int.reduceLE, Int.reduceLT, Int.reduceBEq, Int.reduceBNe, mCall, ap_S, cel3, cells_enc, cells_encS, cel2, zc3, acc_keep, acc_drop, (encS_eq s).symm, (encS_eq (underS s)).symm, lt_true hi, arg_get hi, getApp0, setApp0, hrec, hap, hxs, wrap_succ (n := i) (by omega), k1, k3, hw1, he]
      · rw [bindsB_bnd hb he, if_pos rfl] at hrec
        simp -implicitDefEqProofs (disch := decide +kernel) only [cf, cs, bodyOf, Try.f66, Option.getD_some, go_sem, ↓reduceIte, Nat.reduceSub, Nat.reduceAdd, Nat.reduceMul, Nat.reduceBEq, Nat.reduceLT, Nat.reduceLeDiff, Nat.reduceEqDiff, reduceCtorEq, Int.reduceToNat, Int.reduceLE, Int.reduceLT, Int.reduceBEq, Int.reduceBNe, mCall, ap_S, cel3, cells_enc, cells_encS, cel2, zc3, acc_keep, acc_drop, (encS_eq s).symm, (encS_eq (underS s)).symm, lt_true hi, arg_get hi, getApp0, setApp0, hrec, hap, hxs, wrap_succ (n := i) (by omega), k1, k3, hw1, he, hu]
  · have hb : bindsB t = true := by simp [bindsB, k1]
    cases he : ((i : Int) == (t.args.length : Int) - 1)
    · rw [bindsB_not he, if_neg (by decide)] at hrec
      simp -implicitDefEqProofs (disch := decide +kernel) only [cf, cs, bodyOf, Try.f66, Option.getD_some, go_sem, ↓reduceIte, Nat.reduceSub, Nat.reduceAdd, Nat.reduceMul, Nat.reduceBEq, Nat.reduceLT, Nat.reduceLeDiff, Nat.reduceEqDiff, reduceCtorEq, Int.reduceToNat, Int.reduceLE, Int.reduceLT, Int.reduceBEq, Int.reduceBNe, mCall, ap_S, cel3, cells_enc, cells_encS, cel2, zc3, acc_keep, acc_drop, (encS_eq s).symm, (encS_eq (underS s)).symm, lt_true hi, arg_get hi, getApp0, setApp0, hrec, hap, hxs, wrap_succ (n := i) (by omega), k1, hw1, he]
    · rw [bindsB_bnd hb he, if_pos rfl] at hrec
      simp -implicitDefEqProofs (disch := decide +kernel) only [cf, cs, bodyOf, Try.f66, Option.getD_some, go_sem, ↓reduceIte, Nat.reduceSub, Nat.reduceAdd, Nat.reduceMul, Nat.reduceBEq, Nat.reduceLT, Nat.reduceLeDiff, Nat.reduceEqDiff, reduceCtorEq, Int.reduceToNat, Int.reduceLE, Int.reduceLT, Int.reduceBEq, Int.reduceBNe, mCall, ap_S, cel3, cells_enc, cells_encS, cel2, zc3, acc_keep, acc_drop, (encS_eq s).symm, (encS_eq (underS s)).symm, lt_true hi, arg_get hi, getApp0, setApp0, hrec, hap, hxs, wrap_succ (n := i) (by omega), k1, hw1, he, hu]
theorem clrT_nil : ∀ ps : List Nat, clrT ps [] = []
  | [] => rfl
  | p :: ps => by rw [clrT]; exact clrT_nil ps
noncomputable def ap_E (t : Tm) (s : Sb) (h : List HO) (xs : List Tm) (m : Nat) : St :=
  { tmps := [], mem := { locs := ll 78 [(4, cel3 t), (5, cel2 s), (6, zc3), (7, [dI t.kind, dI t.head, acc 0 (encs xs)])], heap := h ++ [.var 0 [dI m]], toks := accT xs.length } }
theorem ap_stop {t : Tm} {s : Sb} {h : List HO} {xs : List Tm} {m m' i e : Nat} (hi : i < t.args.length) (hxl : xs.length = i) (hs : t.size < room) (hm : ∀ x ∈ s.L, mayB x = true ∧ vlowB x = true) (hl : s.L.length < room) (hsh : 0 ≤ s.sh ∧ s.sh ≤ 4503599627370496)
    (hrec : (lim C).call 66 [.href h.length 0, dT (t.arg i), dS (below s t i)] (h ++ [.var 0 [dI m]]) = some (.pan (errV e), h ++ [.var 0 [dI m']])) :
    (lim C).code 66 (cf (.loop (cf (cf (cs (cf (cs (cs (cs (bodyOf Try.f66)))))))))) (ap_S t s h xs m i) = some (.pan (errV e), ap_E t s h xs m') := by
  have hr : room = 1099511627776 := rfl
  have hl' := len_size t
  have hw1 : IntKind.wrap .i64 ((t.args.length : Int) - 1) = (t.args.length : Int) - 1 := wrap_ok (by omega) (by omega)
  have hu := under_spec s hm hl hsh
  unfold below at hrec
  cases k1 : (t.kind == 1)
  · cases k3 : (t.kind == 3)
    · have hb : bindsB t = false := by simp [bindsB, k1, k3]
      rw [bindsB_no hb, if_neg (by decide)] at hrec
      simp -implicitDefEqProofs (disch := decide +kernel) only [cf, cs, bodyOf, Try.f66, Option.getD_some, go_sem, ↓reduceIte, Nat.reduceSub, Nat.reduceAdd, Nat.reduceMul, Nat.reduceBEq, Nat.reduceLT, Nat.reduceLeDiff, Nat.reduceEqDiff, reduceCtorEq, Int.reduceToNat, Int.reduceLE, Int.reduceLT, Int.reduceBEq, Int.reduceBNe, mCall, ap_S, ap_E, clrT_nil, cel3, cells_enc, cells_encS, cel2, zc3, acc_keep, acc_drop, (encS_eq s).symm, (encS_eq (underS s)).symm, lt_true hi, arg_get hi, getApp0, setApp0, hrec, k1, k3]
    · have hb : bindsB t = true := by simp [bindsB, k1, k3]
      cases he : ((i : Int) == (t.args.length : Int) - 1)
      · rw [bindsB_not he, if_neg (by decide)] at hrec
        simp -implicitDefEqProofs (disch := decide +kernel) only [cf, cs, bodyOf, Try.f66, Option.getD_some, go_sem, ↓reduceIte, Nat.reduceSub, Nat.reduceAdd, Nat.reduceMul, Nat.reduceBEq, Nat.reduceLT, Nat.reduceLeDiff, Nat.reduceEqDiff, reduceCtorEq, Int.reduceToNat, Int.reduceLE, Int.reduceLT, Int.reduceBEq, Int.reduceBNe, mCall, ap_S, ap_E, clrT_nil, cel3, cells_enc, cells_encS, cel2, zc3, acc_keep, acc_drop, (encS_eq s).symm, (encS_eq (underS s)).symm, lt_true hi, arg_get hi, getApp0, setApp0, hrec, k1, k3, hw1, he]
      · rw [bindsB_bnd hb he, if_pos rfl] at hrec
        simp -implicitDefEqProofs (disch := decide +kernel) only [cf, cs, bodyOf, Try.f66, Option.getD_some, go_sem, ↓reduceIte, Nat.reduceSub, Nat.reduceAdd, Nat.reduceMul, Nat.reduceBEq, Nat.reduceLT, Nat.reduceLeDiff, Nat.reduceEqDiff, reduceCtorEq, Int.reduceToNat, Int.reduceLE, Int.reduceLT, Int.reduceBEq, Int.reduceBNe, mCall, ap_S, ap_E, clrT_nil, cel3, cells_enc, cells_encS, cel2, zc3, acc_keep, acc_drop, (encS_eq s).symm, (encS_eq (underS s)).symm, lt_true hi, arg_get hi, getApp0, setApp0, hrec, k1, k3, hw1, he, hu]
  · have hb : bindsB t = true := by simp [bindsB, k1]
    cases he : ((i : Int) == (t.args.length : Int) - 1)
    · rw [bindsB_not he, if_neg (by decide)] at hrec
      simp -implicitDefEqProofs (disch := decide +kernel) only [cf, cs, bodyOf, Try.f66, Option.getD_some, go_sem, ↓reduceIte, Nat.reduceSub, Nat.reduceAdd, Nat.reduceMul, Nat.reduceBEq, Nat.reduceLT, Nat.reduceLeDiff, Nat.reduceEqDiff, reduceCtorEq, Int.reduceToNat, Int.reduceLE, Int.reduceLT, Int.reduceBEq, Int.reduceBNe, mCall, ap_S, ap_E, clrT_nil, cel3, cells_enc, cells_encS, cel2, zc3, acc_keep, acc_drop, (encS_eq s).symm, (encS_eq (underS s)).symm, lt_true hi, arg_get hi, getApp0, setApp0, hrec, k1, hw1, he]
    · rw [bindsB_bnd hb he, if_pos rfl] at hrec
      simp -implicitDefEqProofs (disch := decide +kernel) only [cf, cs, bodyOf, Try.f66, Option.getD_some, go_sem, ↓reduceIte, Nat.reduceSub, Nat.reduceAdd, Nat.reduceMul, Nat.reduceBEq, Nat.reduceLT, Nat.reduceLeDiff, Nat.reduceEqDiff, reduceCtorEq, Int.reduceToNat, Int.reduceLE, Int.reduceLT, Int.reduceBEq, Int.reduceBNe, mCall, ap_S, ap_E, clrT_nil, cel3, cells_enc, cells_encS, cel2, zc3, acc_keep, acc_drop, (encS_eq s).symm, (encS_eq (underS s)).symm, lt_true hi, arg_get hi, getApp0, setApp0, hrec, k1, hw1, he, hu]

/-! ### spine -/
theorem spn_nil (u : Tm) (l : List Tm) (hl : l = []) (n : Nat) (h : List HO) : (lim C).call 91 [.href h.length 0, dT u, dL l] (h ++ [.var 0 [dI n]]) = some (.ret (dT u), h ++ [.var 0 [dI n]]) := by
  have h0 : ((l.length : Int) == 0) = true := by rw [hl]; rfl
  have he : Dv.agg [.int .i64 u.kind, .int .i64 u.head, .slc (encs u.args)] = enc u := (enc_eq u).symm
  rw [ev_fn 91 Try.f91 _ _ _ rfl Try.func91 rfl Try.ntmps91 rfl]
  simp -implicitDefEqProofs (disch := decide +kernel) only [go_sem, ↓reduceIte, Nat.reduceSub, Nat.reduceAdd, Nat.reduceMul, Nat.reduceBEq, Nat.reduceLT, Nat.reduceLeDiff, Nat.reduceEqDiff, reduceCtorEq, Int.reduceToNat, Int.reduceLE, Int.reduceLT, Int.reduceBEq, Int.reduceBNe, mCall, cells_enc, cel3, h0, he]
theorem spn_lam {u v r a : Tm} {l rest : List Tm} {n m : Nat} {h h' : List HO} (hk : (u.kind == 3) = true) (hu : 0 < u.args.length) (hm : mayB a = true) (hsz : a.size < room) (hl : l = a :: rest) (hlen : l.length < room)
    (hrec : (lim C).call 66 [.href h.length 0, dT (u.arg 0), dS ⟨[a], 0⟩] (h ++ [.var 0 [dI n]]) = some (.ret (dT v), h ++ [.var 0 [dI m]]))
    (hsp : (lim C).call 91 [.href h.length 0, dT v, dL rest] (h ++ [.var 0 [dI m]]) = some (.ret (dT r), h')) : (lim C).call 91 [.href h.length 0, dT u, dL l] (h ++ [.var 0 [dI n]]) = some (.ret (dT r), h') := by
  have hr : room = 1099511627776 := rfl
  have h0 : ((l.length : Int) == 0) = false := by rw [hl]; simp; omega
  have ha : l[0]? = some a := by rw [hl]; rfl
  have hma := tMay_spec a hsz
  rw [hm] at hma
  have h1 : (encs l).take 1 = [enc a] := by rw [hl]; rfl
  have h2 : (encs l).drop 1 = encs rest := by rw [hl]; rfl
  have hle : 1 ≤ l.length := by rw [hl]; simp
  have h3 : (encs l).take l.length = encs l := by rw [← encs_length, List.take_length]
  have hsb : Dv.agg [.slc [enc a], .int .i64 0] = encS ⟨[a], 0⟩ := rfl
  rw [ev_fn 91 Try.f91 _ _ _ rfl Try.func91 rfl Try.ntmps91 rfl]
  simp -implicitDefEqProofs (disch := decide +kernel) only [go_sem, ↓reduceIte, Nat.reduceSub, Nat.reduceAdd, Nat.reduceMul, Nat.reduceBEq, Nat.reduceLT, Nat.reduceLeDiff, Nat.reduceEqDiff, reduceCtorEq, Int.reduceToNat, Int.reduceLE, Int.reduceLT, Int.reduceBEq, Int.reduceBNe, mCall, cells_enc, cel3, h0, hk, ha, arg_get hu, hma, h1, h2, h3, hle, encs_all, encs_length, hsb, hrec, hsp, (enc_eq r).symm]
theorem spn_lam2 {u v a : Tm} {e : Nat} {l rest : List Tm} {n m : Nat} {h h' : List HO} (hk : (u.kind == 3) = true) (hu : 0 < u.args.length) (hm : mayB a = true) (hsz : a.size < room) (hl : l = a :: rest) (hlen : l.length < room)
    (hrec : (lim C).call 66 [.href h.length 0, dT (u.arg 0), dS ⟨[a], 0⟩] (h ++ [.var 0 [dI n]]) = some (.ret (dT v), h ++ [.var 0 [dI m]]))
    (hsp : (lim C).call 91 [.href h.length 0, dT v, dL rest] (h ++ [.var 0 [dI m]]) = some (.pan (errV e), h')) : (lim C).call 91 [.href h.length 0, dT u, dL l] (h ++ [.var 0 [dI n]]) = some (.pan (errV e), h') := by
  have hr : room = 1099511627776 := rfl
  have h0 : ((l.length : Int) == 0) = false := by rw [hl]; simp; omega
  have ha : l[0]? = some a := by rw [hl]; rfl
  have hma := tMay_spec a hsz
  rw [hm] at hma
  have h1 : (encs l).take 1 = [enc a] := by rw [hl]; rfl
  have h2 : (encs l).drop 1 = encs rest := by rw [hl]; rfl
  have hle : 1 ≤ l.length := by rw [hl]; simp
  have h3 : (encs l).take l.length = encs l := by rw [← encs_length, List.take_length]
  have hsb : Dv.agg [.slc [enc a], .int .i64 0] = encS ⟨[a], 0⟩ := rfl
  rw [ev_fn 91 Try.f91 _ _ _ rfl Try.func91 rfl Try.ntmps91 rfl]
  simp -implicitDefEqProofs (disch := decide +kernel) only [go_sem, ↓reduceIte, Nat.reduceSub, Nat.reduceAdd, Nat.reduceMul, Nat.reduceBEq, Nat.reduceLT, Nat.reduceLeDiff, Nat.reduceEqDiff, reduceCtorEq, Int.reduceToNat, Int.reduceLE, Int.reduceLT, Int.reduceBEq, Int.reduceBNe, mCall, cells_enc, cel3, h0, hk, ha, arg_get hu, hma, h1, h2, h3, hle, encs_all, encs_length, hsb, hrec, hsp]
theorem spn_lam1 {u a : Tm} {e : Nat} {l rest : List Tm} {n m : Nat} {h h' : List HO} (hk : (u.kind == 3) = true) (hu : 0 < u.args.length) (hm : mayB a = true) (hsz : a.size < room) (hl : l = a :: rest) (hlen : l.length < room)
    (hrec : (lim C).call 66 [.href h.length 0, dT (u.arg 0), dS ⟨[a], 0⟩] (h ++ [.var 0 [dI n]]) = some (.pan (errV e), h')) : (lim C).call 91 [.href h.length 0, dT u, dL l] (h ++ [.var 0 [dI n]]) = some (.pan (errV e), h') := by
  have hr : room = 1099511627776 := rfl
  have h0 : ((l.length : Int) == 0) = false := by rw [hl]; simp; omega
  have ha : l[0]? = some a := by rw [hl]; rfl
  have hma := tMay_spec a hsz
  rw [hm] at hma
  have h1 : (encs l).take 1 = [enc a] := by rw [hl]; rfl
  have h2 : (encs l).drop 1 = encs rest := by rw [hl]; rfl
  have hle : 1 ≤ l.length := by rw [hl]; simp
  have h3 : (encs l).take l.length = encs l := by rw [← encs_length, List.take_length]
  have hsb : Dv.agg [.slc [enc a], .int .i64 0] = encS ⟨[a], 0⟩ := rfl
  rw [ev_fn 91 Try.f91 _ _ _ rfl Try.func91 rfl Try.ntmps91 rfl]
  simp -implicitDefEqProofs (disch := decide +kernel) only [go_sem, ↓reduceIte, Nat.reduceSub, Nat.reduceAdd, Nat.reduceMul, Nat.reduceBEq, Nat.reduceLT, Nat.reduceLeDiff, Nat.reduceEqDiff, reduceCtorEq, Int.reduceToNat, Int.reduceLE, Int.reduceLT, Int.reduceBEq, Int.reduceBNe, mCall, cells_enc, cel3, h0, hk, ha, arg_get hu, hma, h1, h2, h3, hle, encs_all, encs_length, hsb, hrec]
theorem spn_big {u a : Tm} {l rest : List Tm} {n : Nat} {h : List HO} (hk : (u.kind == 3) = true) (hm : mayB a = false) (hsz : a.size < room) (hl : l = a :: rest) : (lim C).call 91 [.href h.length 0, dT u, dL l] (h ++ [.var 0 [dI n]]) = some (.pan (errV 4), h ++ [.var 0 [dI n]]) := by
  have hr : room = 1099511627776 := rfl
  have h0 : ((l.length : Int) == 0) = false := by rw [hl]; simp; omega
  have ha : l[0]? = some a := by rw [hl]; rfl
  have hma := tMay_spec a hsz
  rw [hm] at hma
  rw [ev_fn 91 Try.f91 _ _ _ rfl Try.func91 rfl Try.ntmps91 rfl]
  simp -implicitDefEqProofs (disch := decide +kernel) only [go_sem, ↓reduceIte, Nat.reduceSub, Nat.reduceAdd, Nat.reduceMul, Nat.reduceBEq, Nat.reduceLT, Nat.reduceLeDiff, Nat.reduceEqDiff, reduceCtorEq, Int.reduceToNat, Int.reduceLE, Int.reduceLT, Int.reduceBEq, Int.reduceBNe, mCall, cells_enc, cel3, h0, hk, ha, hma, fail_spec]
  rfl
theorem spn_head {u a : Tm} {l rest : List Tm} {n : Nat} {h : List HO} (hk : heads u.kind = true) (hl : l = a :: rest) (hlen : u.args.length + l.length < room) : (lim C).call 91 [.href h.length 0, dT u, dL l] (h ++ [.var 0 [dI n]]) = some (.ret (dT (.mk u.kind u.head (u.args ++ l))), h ++ [.var 0 [dI n]]) := by
  have hr : room = 1099511627776 := rfl
  have h0 : ((l.length : Int) == 0) = false := by rw [hl]; simp; omega
  have hc := concat_spec u.args l hlen
  have he := tm_enc u.kind u.head (u.args ++ l)
  have k3 : (u.kind == 3) = false := by
    simp only [heads, Bool.or_eq_true, beq_iff_eq] at hk
    rcases hk with (hk | hk) | hk <;> rw [hk] <;> rfl
  rw [ev_fn 91 Try.f91 _ _ _ rfl Try.func91 rfl Try.ntmps91 rfl]
  cases k4 : (u.kind == 4)
  · cases k5 : (u.kind == 5)
    · have k2 : (u.kind == 2) = true := by simpa [heads, k4, k5] using hk
      simp -implicitDefEqProofs (disch := decide +kernel) only [go_sem, ↓reduceIte, Nat.reduceSub, Nat.reduceAdd, Nat.reduceMul, Nat.reduceBEq, Nat.reduceLT, Nat.reduceLeDiff, Nat.reduceEqDiff, reduceCtorEq, Int.reduceToNat, Int.reduceLE, Int.reduceLT, Int.reduceBEq, Int.reduceBNe, mCall, cells_enc, cel3, h0, k2, k3, k4, k5, hc, he]
    · simp -implicitDefEqProofs (disch := decide +kernel) only [go_sem, ↓reduceIte, Nat.reduceSub, Nat.reduceAdd, Nat.reduceMul, Nat.reduceBEq, Nat.reduceLT, Nat.reduceLeDiff, Nat.reduceEqDiff, reduceCtorEq, Int.reduceToNat, Int.reduceLE, Int.reduceLT, Int.reduceBEq, Int.reduceBNe, mCall, cells_enc, cel3, h0, k3, k4, k5, hc, he]
  · simp -implicitDefEqProofs (disch := decide +kernel) only [go_sem, ↓reduceIte, Nat.reduceSub, Nat.reduceAdd, Nat.reduceMul, Nat.reduceBEq, Nat.reduceLT, Nat.reduceLeDiff, Nat.reduceEqDiff, reduceCtorEq, Int.reduceToNat, Int.reduceLE, Int.reduceLT, Int.reduceBEq, Int.reduceBNe, mCall, cells_enc, cel3, h0, k3, k4, hc, he]
theorem spn_bad {u a : Tm} {l rest : List Tm} {n : Nat} {h : List HO} (hk : heads u.kind = false) (k3 : (u.kind == 3) = false) (hl : l = a :: rest) : (lim C).call 91 [.href h.length 0, dT u, dL l] (h ++ [.var 0 [dI n]]) = some (.pan (errV 3), h ++ [.var 0 [dI n]]) := by
  have h0 : ((l.length : Int) == 0) = false := by rw [hl]; simp; omega
  simp only [heads, Bool.or_eq_false_iff] at hk
  obtain ⟨⟨k4, k5⟩, k2⟩ := hk
  rw [ev_fn 91 Try.f91 _ _ _ rfl Try.func91 rfl Try.ntmps91 rfl]
  simp -implicitDefEqProofs (disch := decide +kernel) only [go_sem, ↓reduceIte, Nat.reduceSub, Nat.reduceAdd, Nat.reduceMul, Nat.reduceBEq, Nat.reduceLT, Nat.reduceLeDiff, Nat.reduceEqDiff, reduceCtorEq, Int.reduceToNat, Int.reduceLE, Int.reduceLT, Int.reduceBEq, Int.reduceBNe, mCall, cells_enc, cel3, h0, k2, k3, k4, k5, fail_spec]
  rfl
end Go.Proofs.Ytmemmdfjlhamfaa
