/- The reference of layer 3: apply and spine, told whole. -/
import Derived.Test.YtmemmdfjlhamfaaF32
set_option linter.unusedSimpArgs false
set_option linter.unusedVariables false
set_option maxRecDepth 100000
namespace Go.Proofs.Ytmemmdfjlhamfaa
open Go.Proofs
/-! ### spine's loop -/
def spnL (A : Tm → Sb → Nat → R Tm) : Tm → List Tm → Nat → R (Tm × List Tm)
  | u, [], n => .ok (u, []) n
  | u, a :: rest, n => if u.kind = 3 then (if mayB a then (A (u.arg 0) ⟨[a], 0⟩ n).bind fun v m => spnL A v rest m else .er 4 n) else .ok (u, a :: rest) n
def spnE (p : Tm × List Tm) (n : Nat) : R Tm := if p.2 = [] then .ok p.1 n else if heads p.1.kind then .ok (.mk p.1.kind p.1.head (p.1.args ++ p.2)) n else .er 3 n
theorem spnA_L (A : Tm → Sb → Nat → R Tm) : ∀ (l : List Tm) (u : Tm) (n : Nat), spnA A u l n = (spnL A u l n).bind spnE
  | [], u, n => rfl
  | a :: rest, u, n => by
    simp only [spnA, spnL]
    split
    · split
      · cases hx : A (u.arg 0) ⟨[a], 0⟩ n with
        | ok v m => rw [R.bind_ok, R.bind_ok]; exact spnA_L A rest v m
        | er e m => rfl
      · rfl
    · rw [R.bind_ok]
      simp [spnE]
def rsp_S (u : Tm) (l : List Tm) (h : List HO) (n : Nat) : St := mk 75 [(0, .href h.length 0), (2, dL l), (4, .lref 4 0), (6, .lref 6 0)] [(4, cel3 u), (6, zc3)] (h ++ [.var 0 [dI n, dI 0]]) []
def rsp_X (u : Tm) (l : List Tm) (h : List HO) (n : Nat) : St := mk 75 [(0, .href h.length 0), (2, dL l), (4, .lref 4 0), (6, .lref 6 0), (16, dB false)] [(4, cel3 u), (6, zc3)] (h ++ [.var 0 [dI n, dI 0]]) []
def rsp_R (h : List HO) (n : Nat) (e : Int) : St := mk 75 [(6, .lref 6 0)] [(6, cel3 zT)] (h ++ [.var 0 [dI n, dI e]]) []
theorem rsp_nil {u : Tm} {l : List Tm} (hl : l = []) (h : List HO) (n : Nat) : (lim C).code 128 (cf (.loop (cf (cf (cf (cs (bodyOf Try.f128))))))) (rsp_S u l h n) = some (.exit 0, rsp_X u l h n) := by
  have h0 : decide ((l.length : Int) > 0) = false := by rw [hl]; rfl
  simp -implicitDefEqProofs (disch := decide +kernel) only [cf, cs, bodyOf, Try.f128, Option.getD_some, go_sem, ↓reduceIte, Nat.reduceSub, Nat.reduceAdd, Nat.reduceMul, Nat.reduceBEq, Nat.reduceLT, Nat.reduceLeDiff, Nat.reduceEqDiff, reduceCtorEq, Int.reduceToNat, Int.reduceLE, Int.reduceLT, Int.reduceBEq, Int.reduceBNe, mCall, rsp_S, rsp_X, h0]
theorem rsp_head {u : Tm} {l : List Tm} (hl : 0 < l.length) (hk : (u.kind == 3) = false) (h : List HO) (n : Nat) : (lim C).code 128 (cf (.loop (cf (cf (cf (cs (bodyOf Try.f128))))))) (rsp_S u l h n) = some (.exit 0, rsp_X u l h n) := by
  have h0 : decide ((l.length : Int) > 0) = true := by simpa using hl
  simp -implicitDefEqProofs (disch := decide +kernel) only [cf, cs, bodyOf, Try.f128, Option.getD_some, go_sem, ↓reduceIte, Nat.reduceSub, Nat.reduceAdd, Nat.reduceMul, Nat.reduceBEq, Nat.reduceLT, Nat.reduceLeDiff, Nat.reduceEqDiff, reduceCtorEq, Int.reduceToNat, Int.reduceLE, Int.reduceLT, Int.reduceBEq, Int.reduceBNe, mCall, rsp_S, rsp_X, cel3, h0, hk]
theorem rsp_big {u a : Tm} {l rest : List Tm} (hl : l = a :: rest) (hk : (u.kind == 3) = true) (hz : a.size < room) (hm : mayB a = false) (h : List HO) (n : Nat) : (lim C).code 128 (cf (.loop (cf (cf (cf (cs (bodyOf Try.f128))))))) (rsp_S u l h n) = some (.ret, rsp_R h n 4) := by
  have h0 : decide ((l.length : Int) > 0) = true := by rw [hl]; simp
  have ha : l[0]? = some a := by rw [hl]; rfl
  have hma := may_spec a hz
  rw [hm] at hma
  have hf := rfail_spec h n 4
  simp -implicitDefEqProofs (disch := decide +kernel) only [cf, cs, bodyOf, Try.f128, Option.getD_some, go_sem, ↓reduceIte, Nat.reduceSub, Nat.reduceAdd, Nat.reduceMul, Nat.reduceBEq, Nat.reduceLT, Nat.reduceLeDiff, Nat.reduceEqDiff, reduceCtorEq, Int.reduceToNat, Int.reduceLE, Int.reduceLT, Int.reduceBEq, Int.reduceBNe, mCall, rsp_S, rsp_R, cel3, zc3, cells_enc, h0, hk, ha, hma, hf]
theorem rsp_lam {u a v : Tm} {l rest : List Tm} (hl : l = a :: rest) (hk : (u.kind == 3) = true) (hu : 0 < u.args.length) (hz : a.size < room) (hm : mayB a = true) {h : List HO} {n m : Nat} (hlr : l.length < room)
    (hrec : (lim C).call 116 [.href h.length 0, dT (u.arg 0), dS ⟨[a], 0⟩] (h ++ [.var 0 [dI n, dI 0]]) = some (.ret (dT v), h ++ [.var 0 [dI m, dI 0]])) :
    (lim C).code 128 (cf (.loop (cf (cf (cf (cs (bodyOf Try.f128))))))) (rsp_S u l h n) = some (.nor, rsp_S v rest h m) := by
  have h0 : decide ((l.length : Int) > 0) = true := by rw [hl]; simp
  have ha : l[0]? = some a := by rw [hl]; rfl
  have hma := may_spec a hz
  rw [hm] at hma
  have h2 : (encs l).drop 1 = encs rest := by rw [hl]; rfl
  have hle : 1 ≤ l.length := by rw [hl]; simp
  have h3 : (encs l).take l.length = encs l := by rw [← encs_length, List.take_length]
  have hsb : Dv.agg [.slc [enc a], .int .i64 0] = encS ⟨[a], 0⟩ := rfl
  have h00 : ((0 : Int) != 0) = false := rfl
  simp -implicitDefEqProofs (disch := decide +kernel) only [cf, cs, bodyOf, Try.f128, Option.getD_some, go_sem, ↓reduceIte, Nat.reduceSub, Nat.reduceAdd, Nat.reduceMul, Nat.reduceBEq, Nat.reduceLT, Nat.reduceLeDiff, Nat.reduceEqDiff, reduceCtorEq, Int.reduceToNat, Int.reduceLE, Int.reduceLT, Int.reduceBEq, Int.reduceBNe, mCall, rsp_S, cel3, cells_enc, h0, hk, ha, arg_get hu, hma, h2, h3, hle, encs_all, encs_length, hsb, hrec, getApp0, setApp0, h00]
theorem rsp_lam1 {u a : Tm} {l rest : List Tm} (hl : l = a :: rest) (hk : (u.kind == 3) = true) (hu : 0 < u.args.length) (hz : a.size < room) (hm : mayB a = true) {h : List HO} {n m e : Nat} (he : ((e : Int) != 0) = true)
    (hrec : (lim C).call 116 [.href h.length 0, dT (u.arg 0), dS ⟨[a], 0⟩] (h ++ [.var 0 [dI n, dI 0]]) = some (.ret (dT zT), h ++ [.var 0 [dI m, dI (e : Int)]])) :
    (lim C).code 128 (cf (.loop (cf (cf (cf (cs (bodyOf Try.f128))))))) (rsp_S u l h n) = some (.ret, rsp_R h m e) := by
  have h0 : decide ((l.length : Int) > 0) = true := by rw [hl]; simp
  have ha : l[0]? = some a := by rw [hl]; rfl
  have hma := may_spec a hz
  rw [hm] at hma
  have hsb : Dv.agg [.slc [enc a], .int .i64 0] = encS ⟨[a], 0⟩ := rfl
  simp -implicitDefEqProofs (disch := decide +kernel) only [cf, cs, bodyOf, Try.f128, Option.getD_some, go_sem, ↓reduceIte, Nat.reduceSub, Nat.reduceAdd, Nat.reduceMul, Nat.reduceBEq, Nat.reduceLT, Nat.reduceLeDiff, Nat.reduceEqDiff, reduceCtorEq, Int.reduceToNat, Int.reduceLE, Int.reduceLT, Int.reduceBEq, Int.reduceBNe, mCall, rsp_S, rsp_R, cel3, zc3, cells_enc, h0, hk, ha, arg_get hu, hma, hsb, hrec, getApp0, setApp0, he, (enc_eq zT).symm]
end Go.Proofs.Ytmemmdfjlhamfaa
