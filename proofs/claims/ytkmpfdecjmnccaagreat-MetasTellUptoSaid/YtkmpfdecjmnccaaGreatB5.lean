/- The reference of layer 3: apply and spine, told whole. -/
import Derived.Test.YtkmpfdecjmnccaaGreatB4
set_option linter.unusedSimpArgs false
set_option linter.unusedVariables false
set_option maxRecDepth 100000
namespace Go.Proofs.YtkmpfdecjmnccaaGreat
open Go.Proofs
/-! ### spine's loop -/
def spnL (A : Tm → Sb → Nat → R Tm) : Tm → List Tm → Nat → R (Tm × List Tm)
  | u, [], n => .ok (u, []) n
  | u, a :: rest, n => if u.kind = 3 then (if mayB a then (A (u.arg 0) ⟨[a], 0⟩ n).bind fun v m => spnL A v rest m else .er 4 n) else .ok (u, a :: rest) n
def spnE (p : Tm × List Tm) (n : Nat) : R Tm := if p.2 = [] then .ok p.1 n else if heads p.1.kind then .ok (.mk p.1.kind p.1.head (p.1.args ++ p.2)) n else .er 3 n
theorem spnA_L (A : Tm → Sb → Nat → R Tm) : ∀ (l : List Tm) (u : Tm) (n : Nat), spnA A u l n = (spnL A u l n).bind spnE
  | [], u, n => rfl
  | a :: rest, u, n => by
    simp only [spnA, spnL]
    split
    · split
      · cases hx : A (u.arg 0) ⟨[a], 0⟩ n with
        | ok v m => rw [R.bind_ok, R.bind_ok]; exact spnA_L A rest v m
        | er e m => rfl
      · rfl
    · rw [R.bind_ok]
      simp [spnE]
def rsp_S (u : Tm) (l : List Tm) (h : List HO) (n : Nat) : St := mk 75 [(0, .href h.length 0), (2, dL l), (4, .lref 4 0), (6, .lref 6 0)] [(4, cel3 u), (6, zc3)] (h ++ [.var 0 [dI n, dI 0]]) []
def rsp_X (u : Tm) (l : List Tm) (h : List HO) (n : Nat) : St := mk 75 [(0, .href h.length 0), (2, dL l), (4, .lref 4 0), (6, .lref 6 0), (16, dB false)] [(4, cel3 u), (6, zc3)] (h ++ [.var 0 [dI n, dI 0]]) []
def rsp_R (h : List HO) (n : Nat) (e : Int) : St := mk 75 [(6, .lref 6 0)] [(6, cel3 zT)] (h ++ [.var 0 [dI n, dI e]]) []
theorem rsp_nil {u : Tm} {l : List Tm} (hl : l = []) (h : List HO) (n : Nat) : (lim C).code 123 (cf (.loop (cf (cf (cf (cs (bodyOf Tryz.f123))))))) (rsp_S u l h n) = some (.exit 0, rsp_X u l h n) := by
  have h0 : decide ((l.length : Int) > 0) = false := by rw [hl]; rfl
  simp -implicitDefEqProofs (disch := decide +kernel) only [cf, cs, bodyOf, Tryz.f123, Option.getD_some, go_sem, ↓reduceIte, Nat.reduceSub, Nat.reduceAdd, Nat.reduceMul, Nat.reduceBEq, Nat.reduceLT, Nat.reduceLeDiff, Nat.reduceEqDiff, reduceCtorEq, Int.reduceToNat, Int.reduceLE, Int.reduceLT, Int.reduceBEq, Int.reduceBNe, mCall, rsp_S, rsp_X, h0]
theorem rsp_head {u : Tm} {l : List Tm} (hl : 0 < l.length) (hk : (u.kind == 3) = false) (h : List HO) (n : Nat) : (lim C).code 123 (cf (.loop (cf (cf (cf (cs (bodyOf Tryz.f123))))))) (rsp_S u l h n) = some (.exit 0, rsp_X u l h n) := by
  have h0 : decide ((l.length : Int) > 0) = true := by simpa using hl
  simp -implicitDefEqProofs (disch := decide +kernel) only [cf, cs, bodyOf, Tryz.f123, Option.getD_some, go_sem, ↓reduceIte, Nat.reduceSub, Nat.reduceAdd, Nat.reduceMul, Nat.reduceBEq, Nat.reduceLT, Nat.reduceLeDiff, Nat.reduceEqDiff, reduceCtorEq, Int.reduceToNat, Int.reduceLE, Int.reduceLT, Int.reduceBEq, Int.reduceBNe, mCall, rsp_S, rsp_X, cel3, h0, hk]
theorem rsp_big {u a : Tm} {l rest : List Tm} (hl : l = a :: rest) (hk : (u.kind == 3) = true) (hz : a.size < room) (hm : mayB a = false) (h : List HO) (n : Nat) : (lim C).code 123 (cf (.loop (cf (cf (cf (cs (bodyOf Tryz.f123))))))) (rsp_S u l h n) = some (.ret, rsp_R h n 4) := by
  have h0 : decide ((l.length : Int) > 0) = true := by rw [hl]; simp
  have ha : l[0]? = some a := by rw [hl]; rfl
  have hma := may_spec a hz
  rw [hm] at hma
  have hf := rfail_spec h n 4
  simp -implicitDefEqProofs (disch := decide +kernel) only [cf, cs, bodyOf, Tryz.f123, Option.getD_some, go_sem, ↓reduceIte, Nat.reduceSub, Nat.reduceAdd, Nat.reduceMul, Nat.reduceBEq, Nat.reduceLT, Nat.reduceLeDiff, Nat.reduceEqDiff, reduceCtorEq, Int.reduceToNat, Int.reduceLE, Int.reduceLT, Int.reduceBEq, Int.reduceBNe, mCall, rsp_S, rsp_R, cel3, zc3, cells_enc, h0, hk, ha, hma, hf]
theorem rsp_lam {u a v : Tm} {l rest : List Tm} (hl : l = a :: rest) (hk : (u.kind == 3) = true) (hu : 0 < u.args.length) (hz : a.size < room) (hm : mayB a = true) {h : List HO} {n m : Nat} (hlr : l.length < room)
    (hrec : (lim C).call 111 [.href h.length 0, dT (u.arg 0), dS ⟨[a], 0⟩] (h ++ [.var 0 [dI n, dI 0]]) = some (.ret (dT v), h ++ [.var 0 [dI m, dI 0]])) :
    (lim C).code 123 (cf (.loop (cf (cf (cf (cs (bodyOf Tryz.f123))))))) (rsp_S u l h n) = some (.nor, rsp_S v rest h m) := by
  have h0 : decide ((l.length : Int) > 0) = true := by rw [hl]; simp
  have ha : l[0]? = some a := by rw [hl]; rfl
  have hma := may_spec a hz
  rw [hm] at hma
  have h2 : (encs l).drop 1 = encs rest := by rw [hl]; rfl
  have hle : 1 ≤ l.length := by rw [hl]; simp
  have h3 : (encs l).take l.length = encs l := by rw [← encs_length, List.take_length]
  have hsb : Dv.agg [.slc [enc a], .int .i64 0] = encS ⟨[a], 0⟩ := rfl
  have h00 : ((0 : Int) != 0) = false := rfl
  simp -implicitDefEqProofs (disch := decide +kernel) only [cf, cs, bodyOf, Tryz.f123, Option.getD_some, go_sem, ↓reduceIte, Nat.reduceSub, Nat.reduceAdd, Nat.reduceMul, Nat.reduceBEq, Nat.reduceLT, Nat.reduceLeDiff, Nat.reduceEqDiff, reduceCtorEq, Int.reduceToNat, Int.reduceLE, Int.reduceLT, Int.reduceBEq, Int.reduceBNe, mCall, rsp_S, cel3, cells_enc, h0, hk, ha, arg_get hu, hma, h2, h3, hle, encs_all, encs_length, hsb, hrec, getApp0, setApp0, h00]
theorem rsp_lam1 {u a : Tm} {l rest : List Tm} (hl : l = a :: rest) (hk : (u.kind == 3) = true) (hu : 0 < u.args.length) (hz : a.size < room) (hm : mayB a = true) {h : List HO} {n m e : Nat} (he : ((e : Int) != 0) = true)
    (hrec : (lim C).call 111 [.href h.length 0, dT (u.arg 0), dS ⟨[a], 0⟩] (h ++ [.var 0 [dI n, dI 0]]) = some (.ret (dT zT), h ++ [.var 0 [dI m, dI (e : Int)]])) :
    (lim C).code 123 (cf (.loop (cf (cf (cf (cs (bodyOf Tryz.f123))))))) (rsp_S u l h n) = some (.ret, rsp_R h m e) := by
  have h0 : decide ((l.length : Int) > 0) = true := by rw [hl]; simp
  have ha : l[0]? = some a := by rw [hl]; rfl
  have hma := may_spec a hz
  rw [hm] at hma
  have hsb : Dv.agg [.slc [enc a], .int .i64 0] = encS ⟨[a], 0⟩ := rfl
  simp -implicitDefEqProofs (disch := decide +kernel) only [cf, cs, bodyOf, Tryz.f123, Option.getD_some, go_sem, ↓reduceIte, Nat.reduceSub, Nat.reduceAdd, Nat.reduceMul, Nat.reduceBEq, Nat.reduceLT, Nat.reduceLeDiff, Nat.reduceEqDiff, reduceCtorEq, Int.reduceToNat, Int.reduceLE, Int.reduceLT, Int.reduceBEq, Int.reduceBNe, mCall, rsp_S, rsp_R, cel3, zc3, cells_enc, h0, hk, ha, arg_get hu, hma, hsb, hrec, getApp0, setApp0, he, (enc_eq zT).symm]
end Go.Proofs.YtkmpfdecjmnccaaGreat
/- The reference of layer 3: apply and spine, told whole. -/
set_option linter.unusedSimpArgs false
set_option linter.unusedVariables false
set_option maxRecDepth 100000
namespace Go.Proofs.YtkmpfdecjmnccaaGreat
open Go.Proofs
def RWalk (f : Nat) : Prop := ∀ (t : Tm) (s : Sb) (n : Nat) (h : List HO) (K D H : Int), Pre f n K D H t s →
  (lim C).call 111 [.href h.length 0, dT t, dS s] (h ++ [.var 0 [dI n, dI 0]]) = outW h (ap f t s n)
def outL (h : List HO) : R (Tm × List Tm) → Ex × St
  | .ok p m => (.exit 0, rsp_X p.1 p.2 h m)
  | .er e m => (.ret, rsp_R h m e)
theorem err_ne {e : Nat} (h : e = 3 ∨ e = 4) : ((e : Int) != 0) = true := by
  rcases h with rfl | rfl <;> rfl
theorem loop_nor {f : Nat} {b : Code} {σ σ' : St} (h : (lim C).code f b σ = some (.nor, σ')) : (lim C).code f (.loop b) σ = (lim C).code f (.loop b) σ' := by
  rw [ev_loop, h]; rfl
theorem loop_out {f : Nat} {b : Code} {σ : St} {x : Ex} {σ' : St} (h : (lim C).code f b σ = some (x, σ')) (hx : x ≠ .nor) : (lim C).code f (.loop b) σ = some (x, σ') := by
  rw [ev_loop, h]
  cases x <;> first | rfl | exact absurd rfl hx
theorem rsp_loop {f : Nat} (hA : RWalk f) : ∀ (args : List Tm) (u : Tm) (n : Nat) (h : List HO) (H : Int), 40000 ≤ n + f → n ≤ 40000 → nodesB u = true → vleB H u = true → 0 ≤ H → H + 40001 ≤ 4503599627370496 + n →
    (∀ x ∈ args, nodesB x = true ∧ vleB H x = true) → u.size + (args.map Tm.size).sum + (40000 - n) * 4001 < room →
    (lim C).code 123 (.loop (cf (cf (cf (cs (bodyOf Tryz.f123)))))) (rsp_S u args h n) = some (outL h (spnL (ap f) u args n))
  | [], u, n, h, H, _, _, _, _, _, _, _, _ => loop_out (rsp_nil rfl h n) (by simp)
  | a :: rest, u, n, h, H, hf, hn, hu, hv, h0, ht, ha, hz => by
    have hr : room = 1099511627776 := rfl
    obtain ⟨a1, a2⟩ := ha a (by simp)
    have hlen := len_sum (a :: rest)
    simp only [List.map_cons, List.sum_cons] at hz hlen
    have hul := len_size u
    have hsza : a.size < room := by omega
    have hlr : (a :: rest).length < room := by omega
    simp only [spnL]
    split
    · rename_i hk
      have hkb : (u.kind == 3) = true := by simpa using hk
      split
      · rename_i hm
        have hul1 := lam_len hu hk
        have hu0 : nodesB (u.arg 0) = true := node_args hu 0 (by omega)
        have hv0 : vleB H (u.arg 0) = true := vle_args hv 0 (by omega)
        have hs1 : SOk H ⟨[a], 0⟩ := ⟨by simpa using hm, by simpa using a2, by simp⟩
        have hsz0 := size_arg (arg_mem (t := u) (i := 0) (by omega))
        have hw := hA (u.arg 0) ⟨[a], 0⟩ n h H (-1) H ⟨hf, hu0, hv0, h0, Int.le_refl _, by omega, by simp, hs1, ht, by omega, by simp; omega, by simp; omega, hn⟩
        cases hap : ap f (u.arg 0) ⟨[a], 0⟩ n with
        | er e m =>
          rw [hap] at hw
          rw [R.bind_er]
          exact loop_out (rsp_lam1 (rest := rest) rfl hkb (by omega) hsza hm (err_ne (ap_err _ _ _ _ _ _ hap)) hw) (by simp)
        | ok v m =>
          rw [hap] at hw
          rw [R.bind_ok]
          obtain ⟨_, hft⟩ := ap_fits f (u.arg 0) ⟨[a], 0⟩ n H (-1) H v m hu0 hv0 h0 (Int.le_refl _) (by omega) (by simp) hs1 hap
          have q1 := hft.lt
          have q2 := hft.lim
          have q3 := hft.size
          have q4 : (40000 - n) * 4001 = (m - n) * 4001 + (40000 - m) * 4001 := by rw [← Nat.add_mul]; congr 1; omega
          have ih := rsp_loop hA rest v m h (H + ((m - n : Nat) : Int)) (by omega) q2 hft.nodes hft.vle (by omega) (by omega) (fun x hx => ⟨(ha x (by simp [hx])).1, vle_mono (by omega) (ha x (by simp [hx])).2⟩) (by omega)
          exact (loop_nor (rsp_lam (rest := rest) rfl hkb (by omega) hsza hm hlr hw)).trans ih
      · rename_i hm
        exact loop_out (rsp_big (rest := rest) rfl hkb hsza (by simpa using hm) h n) (by simp)
    · rename_i hk
      exact loop_out (rsp_head (by simp) (by simpa using hk) h n) (by simp)
/-! ### spine -/
theorem rsp_enter {u : Tm} {l : List Tm} {h : List HO} {n m : Nat} {e : Int} (hloop : (lim C).code 123 (.loop (cf (cf (cf (cs (bodyOf Tryz.f123)))))) (rsp_S u l h n) = some (.ret, rsp_R h m e)) :
    (lim C).call 123 [.href h.length 0, dT u, dL l] (h ++ [.var 0 [dI n, dI 0]]) = some (.ret (dT zT), h ++ [.var 0 [dI m, dI e]]) := by
  rw [ev_fn 123 Tryz.f123 _ _ _ rfl Tryz.func123 rfl Tryz.ntmps123 rfl]
  simp -implicitDefEqProofs (disch := decide +kernel) only [go_sem, ↓reduceIte, Nat.reduceSub, Nat.reduceAdd, Nat.reduceMul, Nat.reduceBEq, Nat.reduceLT, Nat.reduceLeDiff, Nat.reduceEqDiff, reduceCtorEq, Int.reduceToNat, Int.reduceLE, Int.reduceLT, Int.reduceBEq, Int.reduceBNe, mCall, cells_enc, cel3]
  rw [loop_at hloop ?hb ?hs]
  case hb => rfl
  case hs => rfl
  simp -implicitDefEqProofs (disch := decide +kernel) only [go_sem, ↓reduceIte, Nat.reduceSub, Nat.reduceAdd, Nat.reduceMul, Nat.reduceBEq, Nat.reduceLT, Nat.reduceLeDiff, Nat.reduceEqDiff, reduceCtorEq, Int.reduceToNat, Int.reduceLE, Int.reduceLT, Int.reduceBEq, Int.reduceBNe, mCall, rsp_R, cel3, (enc_eq zT).symm]
theorem rsp_done {u v : Tm} {l l' : List Tm} {h : List HO} {n m : Nat} (hl : l' = []) (hloop : (lim C).code 123 (.loop (cf (cf (cf (cs (bodyOf Tryz.f123)))))) (rsp_S u l h n) = some (.exit 0, rsp_X v l' h m)) :
    (lim C).call 123 [.href h.length 0, dT u, dL l] (h ++ [.var 0 [dI n, dI 0]]) = some (.ret (dT v), h ++ [.var 0 [dI m, dI 0]]) := by
  have h0 : ((l'.length : Int) == 0) = true := by rw [hl]; rfl
  rw [ev_fn 123 Tryz.f123 _ _ _ rfl Tryz.func123 rfl Tryz.ntmps123 rfl]
  simp -implicitDefEqProofs (disch := decide +kernel) only [go_sem, ↓reduceIte, Nat.reduceSub, Nat.reduceAdd, Nat.reduceMul, Nat.reduceBEq, Nat.reduceLT, Nat.reduceLeDiff, Nat.reduceEqDiff, reduceCtorEq, Int.reduceToNat, Int.reduceLE, Int.reduceLT, Int.reduceBEq, Int.reduceBNe, mCall, cells_enc, cel3]
  rw [loop_at hloop ?hb ?hs]
  case hb => rfl
  case hs => rfl
  simp -implicitDefEqProofs (disch := decide +kernel) only [go_sem, ↓reduceIte, Nat.reduceSub, Nat.reduceAdd, Nat.reduceMul, Nat.reduceBEq, Nat.reduceLT, Nat.reduceLeDiff, Nat.reduceEqDiff, reduceCtorEq, Int.reduceToNat, Int.reduceLE, Int.reduceLT, Int.reduceBEq, Int.reduceBNe, mCall, rsp_X, cel3, zc3, cells_enc, h0, (enc_eq v).symm]
theorem rsp_heads {u v : Tm} {l l' : List Tm} {h : List HO} {n m : Nat} (hl : 0 < l'.length) (hlr : v.args.length + l'.length < room) (hk : heads v.kind = true) (hloop : (lim C).code 123 (.loop (cf (cf (cf (cs (bodyOf Tryz.f123)))))) (rsp_S u l h n) = some (.exit 0, rsp_X v l' h m)) :
    (lim C).call 123 [.href h.length 0, dT u, dL l] (h ++ [.var 0 [dI n, dI 0]]) = some (.ret (dT (.mk v.kind v.head (v.args ++ l'))), h ++ [.var 0 [dI m, dI 0]]) := by
  have hr : room = 1099511627776 := rfl
  have h0 : ((l'.length : Int) == 0) = false := by simp; intro e; rw [e] at hl; simp at hl
  have ha1 := fun locs heap => app_first (encs v.args) 3 locs heap (by rw [encs_length]; omega) (encs_all _)
  have ha2 := fun locs heap => app_more (encs v.args) (encs l') 3 (by simp) locs heap (by rw [encs_length, encs_length]; omega) (encs_all _) (encs_all _)
  simp only [encs_length, ← encs_append] at ha1 ha2
  have he := tm_enc v.kind v.head (v.args ++ l')
  rw [ev_fn 123 Tryz.f123 _ _ _ rfl Tryz.func123 rfl Tryz.ntmps123 rfl]
  simp -implicitDefEqProofs (disch := decide +kernel) only [go_sem, ↓reduceIte, Nat.reduceSub, Nat.reduceAdd, Nat.reduceMul, Nat.reduceBEq, Nat.reduceLT, Nat.reduceLeDiff, Nat.reduceEqDiff, reduceCtorEq, Int.reduceToNat, Int.reduceLE, Int.reduceLT, Int.reduceBEq, Int.reduceBNe, mCall, cells_enc, cel3]
  rw [loop_at hloop ?hb ?hs]
  case hb => rfl
  case hs => rfl
  cases k4 : (v.kind != 4)
  · simp -implicitDefEqProofs (disch := decide +kernel) only [go_sem, ↓reduceIte, Nat.reduceSub, Nat.reduceAdd, Nat.reduceMul, Nat.reduceBEq, Nat.reduceLT, Nat.reduceLeDiff, Nat.reduceEqDiff, reduceCtorEq, Int.reduceToNat, Int.reduceLE, Int.reduceLT, Int.reduceBEq, Int.reduceBNe, mCall, rsp_X, cel3, zc3, cells_enc, h0, k4, ha1, ha2, he]
  · cases k5 : (v.kind != 5)
    · simp -implicitDefEqProofs (disch := decide +kernel) only [go_sem, ↓reduceIte, Nat.reduceSub, Nat.reduceAdd, Nat.reduceMul, Nat.reduceBEq, Nat.reduceLT, Nat.reduceLeDiff, Nat.reduceEqDiff, reduceCtorEq, Int.reduceToNat, Int.reduceLE, Int.reduceLT, Int.reduceBEq, Int.reduceBNe, mCall, rsp_X, cel3, zc3, cells_enc, h0, k4, k5, ha1, ha2, he]
    · have k2 : (v.kind != 2) = false := by
        simp only [heads, Bool.or_eq_true, beq_iff_eq] at hk
        simp only [bne_iff_ne, ne_eq] at k4 k5
        simp; omega
      simp -implicitDefEqProofs (disch := decide +kernel) only [go_sem, ↓reduceIte, Nat.reduceSub, Nat.reduceAdd, Nat.reduceMul, Nat.reduceBEq, Nat.reduceLT, Nat.reduceLeDiff, Nat.reduceEqDiff, reduceCtorEq, Int.reduceToNat, Int.reduceLE, Int.reduceLT, Int.reduceBEq, Int.reduceBNe, mCall, rsp_X, cel3, zc3, cells_enc, h0, k4, k5, k2, ha1, ha2, he]
theorem rsp_bad {u v : Tm} {l l' : List Tm} {h : List HO} {n m : Nat} (hl : 0 < l'.length) (hk : heads v.kind = false) (hloop : (lim C).code 123 (.loop (cf (cf (cf (cs (bodyOf Tryz.f123)))))) (rsp_S u l h n) = some (.exit 0, rsp_X v l' h m)) :
    (lim C).call 123 [.href h.length 0, dT u, dL l] (h ++ [.var 0 [dI n, dI 0]]) = some (.ret (dT zT), h ++ [.var 0 [dI m, dI 3]]) := by
  have h0 : ((l'.length : Int) == 0) = false := by simp; intro e; rw [e] at hl; simp at hl
  simp only [heads, Bool.or_eq_false_iff, beq_eq_false_iff_ne] at hk
  obtain ⟨⟨q4, q5⟩, q2⟩ := hk
  have k4 : (v.kind != 4) = true := by simpa using q4
  have k5 : (v.kind != 5) = true := by simpa using q5
  have k2 : (v.kind != 2) = true := by simpa using q2
  have hf := rfail_spec h m 3
  rw [ev_fn 123 Tryz.f123 _ _ _ rfl Tryz.func123 rfl Tryz.ntmps123 rfl]
  simp -implicitDefEqProofs (disch := decide +kernel) only [go_sem, ↓reduceIte, Nat.reduceSub, Nat.reduceAdd, Nat.reduceMul, Nat.reduceBEq, Nat.reduceLT, Nat.reduceLeDiff, Nat.reduceEqDiff, reduceCtorEq, Int.reduceToNat, Int.reduceLE, Int.reduceLT, Int.reduceBEq, Int.reduceBNe, mCall, cells_enc, cel3]
  rw [loop_at hloop ?hb ?hs]
  case hb => rfl
  case hs => rfl
  simp -implicitDefEqProofs (disch := decide +kernel) only [go_sem, ↓reduceIte, Nat.reduceSub, Nat.reduceAdd, Nat.reduceMul, Nat.reduceBEq, Nat.reduceLT, Nat.reduceLeDiff, Nat.reduceEqDiff, reduceCtorEq, Int.reduceToNat, Int.reduceLE, Int.reduceLT, Int.reduceBEq, Int.reduceBNe, mCall, rsp_X, cel3, zc3, cells_enc, h0, k4, k5, k2, hf, (enc_eq zT).symm]
end Go.Proofs.YtkmpfdecjmnccaaGreat
/- The reference of layer 3: apply told whole; done, Spine; law SubstSpines. -/
set_option linter.unusedSimpArgs false
set_option linter.unusedVariables false
set_option maxRecDepth 100000
namespace Go.Proofs.YtkmpfdecjmnccaaGreat
open Go.Proofs
theorem rspn_walk {f : Nat} (hA : RWalk f) (args : List Tm) (u : Tm) (n : Nat) (h : List HO) (H : Int) (hf : 40000 ≤ n + f) (hn : n ≤ 40000) (hu : nodesB u = true) (hv : vleB H u = true) (h0 : 0 ≤ H) (ht : H + 40001 ≤ 4503599627370496 + n)
    (ha : ∀ x ∈ args, nodesB x = true ∧ vleB H x = true) (hz : u.size + (args.map Tm.size).sum + (40000 - n) * 4001 < room) :
    (lim C).call 123 [.href h.length 0, dT u, dL args] (h ++ [.var 0 [dI n, dI 0]]) = outW h (spnA (ap f) u args n) := by
  have hloop := rsp_loop hA args u n h H hf hn hu hv h0 ht ha hz
  have hfit := fun r m hr => spn_fits (ap_fits f) args u n H r m hn hu hv h0 ha hr
  rw [spnA_L] at hfit ⊢
  have hlen := len_sum args
  cases hL : spnL (ap f) u args n with
  | er e m =>
    rw [hL] at hloop
    exact rsp_enter hloop
  | ok p m =>
    obtain ⟨v, l'⟩ := p
    rw [hL] at hloop hfit
    simp only [R.bind_ok, spnE] at hfit ⊢
    by_cases hl : l' = []
    · rw [if_pos hl]
      exact rsp_done hl hloop
    · rw [if_neg hl] at hfit ⊢
      have hpos : 0 < l'.length := List.length_pos_iff.2 hl
      cases hk : heads v.kind
      · rw [if_neg (by simp)]
        exact rsp_bad hpos hk hloop
      · rw [if_pos rfl]
        rw [hk, if_pos rfl] at hfit
        have hs := (hfit _ _ rfl).size
        have hlm := (hfit _ _ rfl).lim
        have hls := len_size (.mk v.kind v.head (v.args ++ l'))
        rw [mk_args, List.length_append] at hls
        have q : (m - n) * 4001 ≤ (40000 - n) * 4001 := Nat.mul_le_mul_right _ (by omega)
        exact rsp_heads hpos (by omega) hk hloop
/-! ### apply -/
theorem rap_over {t : Tm} {s : Sb} {n : Nat} {h : List HO} (hn : n + 1 > 40000) (hn2 : n < 9223372036854775807) : (lim C).call 111 [.href h.length 0, dT t, dS s] (h ++ [.var 0 [dI n, dI 0]]) = some (.ret (dT zT), h ++ [.var 0 [dI (n + 1 : Nat), dI 4]]) := by
  have hgt : decide (((n + 1 : Nat) : Int) > 40000) = true := by simp; omega
  have hf := rfail_spec h (n + 1 : Nat) 4
  rw [ev_fn 111 Tryz.f111 _ _ _ rfl Tryz.func111 rfl Tryz.ntmps111 rfl]
  simp -implicitDefEqProofs (disch := decide +kernel) only [go_sem, ↓reduceIte, Nat.reduceSub, Nat.reduceAdd, Nat.reduceMul, Nat.reduceBEq, Nat.reduceLT, Nat.reduceLeDiff, Nat.reduceEqDiff, reduceCtorEq, Int.reduceToNat, Int.reduceLE, Int.reduceLT, Int.reduceBEq, Int.reduceBNe, mCall, cells_enc, cells_encS, cel3, cel2, getApp0, setApp0, wrap_succ hn2, hgt, hf, (enc_eq zT).symm]
def rap_X (t : Tm) (s : Sb) (h : List HO) (xs : List Tm) (m : Nat) : St :=
  mk 74 [(0, .href h.length 0), (4, .lref 4 0), (5, .lref 5 0), (6, .lref 6 0), (7, acc 0 (encs xs)), (8, dI t.args.length), (30, dB false)]
    [(4, cel3 t), (5, cel2 s), (6, zc3)] (h ++ [.var 0 [dI m, dI 0]]) (accT xs.length)
theorem rap_ret0 {t : Tm} {s : Sb} {n m k : Nat} {e : Int} {h : List HO} (hn : n + 1 ≤ 40000) (hloop : (lim C).code 111 (.loop (cf (cf (cs (cf (cs (cs (cs (cs (bodyOf Tryz.f111)))))))))) (rap_S t s h [] (n + 1) 0) = some (.ret, mk 74 [(6, .lref 6 0)] [(6, cel3 zT)] (h ++ [.var 0 [dI m, dI e]]) (accT k))) :
    (lim C).call 111 [.href h.length 0, dT t, dS s] (h ++ [.var 0 [dI n, dI 0]]) = some (.ret (dT zT), h ++ [.var 0 [dI m, dI e]]) := by
  have hgt : decide (((n + 1 : Nat) : Int) > 40000) = false := by simp; omega
  rw [ev_fn 111 Tryz.f111 _ _ _ rfl Tryz.func111 rfl Tryz.ntmps111 rfl]
  simp -implicitDefEqProofs (disch := decide +kernel) only [go_sem, ↓reduceIte, Nat.reduceSub, Nat.reduceAdd, Nat.reduceMul, Nat.reduceBEq, Nat.reduceLT, Nat.reduceLeDiff, Nat.reduceEqDiff, reduceCtorEq, Int.reduceToNat, Int.reduceLE, Int.reduceLT, Int.reduceBEq, Int.reduceBNe, mCall, cells_enc, cells_encS, cel3, cel2, getApp0, setApp0, wrap_succ (n := n) (by omega), hgt]
  rw [loop_at hloop ?hb ?hs]
  case hb => rfl
  case hs => rfl
  simp -implicitDefEqProofs (disch := decide +kernel) only [go_sem, ↓reduceIte, Nat.reduceSub, Nat.reduceAdd, Nat.reduceMul, Nat.reduceBEq, Nat.reduceLT, Nat.reduceLeDiff, Nat.reduceEqDiff, reduceCtorEq, Int.reduceToNat, Int.reduceLE, Int.reduceLT, Int.reduceBEq, Int.reduceBNe, mCall, cel3, (enc_eq zT).symm]
theorem rap_node {t : Tm} {s : Sb} {n m : Nat} {h : List HO} {xs : List Tm} (hn : n + 1 ≤ 40000) (k4 : (t.kind == 4) = false) (hloop : (lim C).code 111 (.loop (cf (cf (cs (cf (cs (cs (cs (cs (bodyOf Tryz.f111)))))))))) (rap_S t s h [] (n + 1) 0) = some (.exit 0, rap_X t s h xs m)) :
    (lim C).call 111 [.href h.length 0, dT t, dS s] (h ++ [.var 0 [dI n, dI 0]]) = some (.ret (dT (.mk t.kind t.head xs)), h ++ [.var 0 [dI m, dI 0]]) := by
  have hgt : decide (((n + 1 : Nat) : Int) > 40000) = false := by simp; omega
  have he := tm_enc t.kind t.head xs
  rw [ev_fn 111 Tryz.f111 _ _ _ rfl Tryz.func111 rfl Tryz.ntmps111 rfl]
  simp -implicitDefEqProofs (disch := decide +kernel) only [go_sem, ↓reduceIte, Nat.reduceSub, Nat.reduceAdd, Nat.reduceMul, Nat.reduceBEq, Nat.reduceLT, Nat.reduceLeDiff, Nat.reduceEqDiff, reduceCtorEq, Int.reduceToNat, Int.reduceLE, Int.reduceLT, Int.reduceBEq, Int.reduceBNe, mCall, cells_enc, cells_encS, cel3, cel2, getApp0, setApp0, wrap_succ (n := n) (by omega), hgt]
  rw [loop_at hloop ?hb ?hs]
  case hb => rfl
  case hs => rfl
  simp -implicitDefEqProofs (disch := decide +kernel) only [go_sem, ↓reduceIte, Nat.reduceSub, Nat.reduceAdd, Nat.reduceMul, Nat.reduceBEq, Nat.reduceLT, Nat.reduceLeDiff, Nat.reduceEqDiff, reduceCtorEq, Int.reduceToNat, Int.reduceLE, Int.reduceLT, Int.reduceBEq, Int.reduceBNe, mCall, rap_X, zc3, cel3, k4, acc_keep, acc_drop, acc_okA, acc_flat, acc_cells, he]
theorem rap_var {t : Tm} {s : Sb} {n m k : Nat} {h : List HO} {xs : List Tm} {r : Tm} {e : Int} (hn : n + 1 ≤ 40000) (k4 : (t.kind == 4) = true) (hloop : (lim C).code 111 (.loop (cf (cf (cs (cf (cs (cs (cs (cs (bodyOf Tryz.f111)))))))))) (rap_S t s h [] (n + 1) 0) = some (.exit 0, rap_X t s h xs m))
    (hof : (lim C).call 124 [dS s, dI t.head] [] = some (.ret (dT (ofS s t.head)), []))
    (hsp : (lim C).call 123 [.href h.length 0, dT (ofS s t.head), dL xs] (h ++ [.var 0 [dI m, dI 0]]) = some (.ret (dT r), h ++ [.var 0 [dI k, dI e]])) :
    (lim C).call 111 [.href h.length 0, dT t, dS s] (h ++ [.var 0 [dI n, dI 0]]) = some (.ret (dT r), h ++ [.var 0 [dI k, dI e]]) := by
  have hgt : decide (((n + 1 : Nat) : Int) > 40000) = false := by simp; omega
  rw [ev_fn 111 Tryz.f111 _ _ _ rfl Tryz.func111 rfl Tryz.ntmps111 rfl]
  simp -implicitDefEqProofs (disch := decide +kernel) only [go_sem, ↓reduceIte, Nat.reduceSub, Nat.reduceAdd, Nat.reduceMul, Nat.reduceBEq, Nat.reduceLT, Nat.reduceLeDiff, Nat.reduceEqDiff, reduceCtorEq, Int.reduceToNat, Int.reduceLE, Int.reduceLT, Int.reduceBEq, Int.reduceBNe, mCall, cells_enc, cells_encS, cel3, cel2, getApp0, setApp0, wrap_succ (n := n) (by omega), hgt]
  rw [loop_at hloop ?hb ?hs]
  case hb => rfl
  case hs => rfl
  simp -implicitDefEqProofs (disch := decide +kernel) only [go_sem, ↓reduceIte, Nat.reduceSub, Nat.reduceAdd, Nat.reduceMul, Nat.reduceBEq, Nat.reduceLT, Nat.reduceLeDiff, Nat.reduceEqDiff, reduceCtorEq, Int.reduceToNat, Int.reduceLE, Int.reduceLT, Int.reduceBEq, Int.reduceBNe, mCall, rap_X, zc3, cel3, cel2, (encS_eq s).symm, cells_enc, k4, acc_keep, acc_drop, acc_okA, acc_flat, acc_cells, hof, hsp, (enc_eq r).symm]
def rap_SS (t : Tm) (s : Sb) (h : List HO) (g : Nat → Nat → R Tm) (n i : Nat) : St := match seqF g n i with
  | .ok xs m => rap_S t s h xs m i
  | .er _ _ => rap_S t s h [] n i
theorem rap_walk : ∀ f : Nat, RWalk f
  | 0 => fun t s n h K D H p => by
    have h1 := p.fuel
    have h2 := p.nb
    rw [ap_zero]
    exact rap_over (by omega) (by omega)
  | f + 1 => fun t s n h K D H p => by
    have hr : room = 1099511627776 := rfl
    have ih := rap_walk f
    have hfu := p.fuel
    have htop := p.top
    have hsl := p.sl
    have hss := p.ss
    have hts := p.ts
    have hkh := p.kh
    have hkd := p.kd
    have hk0 := p.k0
    have hl' := len_size t
    rw [ap_succ]
    by_cases hn : n + 1 > 40000
    · rw [if_pos hn]
      exact rap_over hn (by have := p.nb; omega)
    rw [if_neg hn]
    have hm : ∀ x ∈ s.L, mayB x = true ∧ vlowB x = true := fun x hx => ⟨p.ok.may x hx, vle_mono (by omega) (p.ok.vle x hx)⟩
    have hsh := p.ok.sh
    have hpre : ∀ i, i < t.args.length → ∀ xs m, seqF (fun i m => ap f (t.arg i) (below s t i) m) (n + 1) i = .ok xs m → n + 1 ≤ m ∧ m ≤ 40000 ∧ Pre f m K D (H + 1) (t.arg i) (below s t i) := by
      intro i hi xs m he
      obtain ⟨q1, q2, _, _⟩ := seq_fits (H := H) t.args.length (fun i hi m x m' hm hx => by
        obtain ⟨b1, b2⟩ := below_ok (t := t) (i := i) p.ok (by omega) p.sd
        exact ap_fits f _ _ m K D (H + 1) x m' (node_args p.nodes i hi) (vle_args p.vle i hi) hk0 (by omega) (by omega) b2 b1 hx) (by omega) i (by omega) xs m he
      obtain ⟨b1, b2⟩ := below_ok (t := t) (i := i) p.ok (by omega) p.sd
      have hsz := size_arg (arg_mem hi)
      refine ⟨q1, q2, by omega, node_args p.nodes i hi, vle_args p.vle i hi, hk0, by omega, by omega, b2, b1, by omega, by omega, ?_, ?_, q2⟩
      · unfold below
        split
        · rw [under_len]; omega
        · omega
      · unfold below
        split
        · simp only [underS]; omega
        · omega
    have hstep : ∀ i, i < t.args.length → (∃ ys m', seqF (fun i m => ap f (t.arg i) (below s t i) m) (n + 1) (i + 1) = .ok ys m') →
        (lim C).code 111 (cf (.loop (cf (cf (cs (cf (cs (cs (cs (cs (bodyOf Tryz.f111))))))))))) (rap_SS t s h (fun i m => ap f (t.arg i) (below s t i) m) (n + 1) i) = some (.nor, rap_SS t s h (fun i m => ap f (t.arg i) (below s t i) m) (n + 1) (i + 1)) := by
      rintro i hi ⟨ys, m', he⟩
      obtain ⟨xs, m, h1, h2⟩ := R.bind_eq he
      obtain ⟨x, m2, h3, h4⟩ := R.bind_eq h2
      cases h4
      obtain ⟨q1, q2, q3⟩ := hpre i hi xs m h1
      have hrec := ih _ _ m h _ _ _ q3
      have h3' : ap f (t.arg i) (below s t i) m = .ok x m' := h3
      rw [h3'] at hrec
      have hxl := seqF_len _ _ _ _ _ h1
      unfold rap_SS
      rw [h1, he]
      exact rap_step hi hxl hts hm (by omega) ⟨hsh, by omega⟩ hrec
    have hS0 : rap_SS t s h (fun i m => ap f (t.arg i) (below s t i) m) (n + 1) 0 = rap_S t s h [] (n + 1) 0 := rfl
    cases hseq : seqF (fun i m => ap f (t.arg i) (below s t i) m) (n + 1) t.args.length with
    | er e m =>
      rw [R.bind_er]
      obtain ⟨j, xs, mj, hj, h1, h2⟩ := seqF_er hseq
      obtain ⟨q1, q2, q3⟩ := hpre j hj xs mj h1
      have hrec := ih _ _ mj h _ _ _ q3
      have h2' : ap f (t.arg j) (below s t j) mj = .er e m := h2
      rw [h2'] at hrec
      have hxl := seqF_len _ _ _ _ _ h1
      refine rap_ret0 (k := xs.length) (by omega) ?_
      rw [← hS0]
      refine loop_run (rap_SS t s h (fun i m => ap f (t.arg i) (below s t i) m) (n + 1)) j (fun i hi => hstep i (by omega) (seqF_pre h1 (i + 1) (by omega))) ?_ (by simp)
      have : rap_SS t s h (fun i m => ap f (t.arg i) (below s t i) m) (n + 1) j = rap_S t s h xs mj j := by unfold rap_SS; rw [h1]
      rw [this]
      exact rap_stop (err_ne (ap_err _ _ _ _ _ _ h2')) hj hxl hts hm (by omega) ⟨hsh, by omega⟩ hrec
    | ok xs m =>
      rw [R.bind_ok]
      have hxl := seqF_len _ _ _ _ _ hseq
      have hloop : (lim C).code 111 (.loop (cf (cf (cs (cf (cs (cs (cs (cs (bodyOf Tryz.f111)))))))))) (rap_S t s h [] (n + 1) 0) = some (.exit 0, rap_X t s h xs m) := by
        rw [← hS0]
        refine loop_run (rap_SS t s h (fun i m => ap f (t.arg i) (below s t i) m) (n + 1)) t.args.length (fun i hi => hstep i hi (seqF_pre hseq (i + 1) (by omega))) ?_ (by simp)
        have : rap_SS t s h (fun i m => ap f (t.arg i) (below s t i) m) (n + 1) t.args.length = rap_S t s h xs m t.args.length := by unfold rap_SS; rw [hseq]
        rw [this]
        simp -implicitDefEqProofs (disch := decide +kernel) only [cf, cs, bodyOf, Tryz.f111, Option.getD_some, go_sem, ↓reduceIte, Nat.reduceSub, Nat.reduceAdd, Nat.reduceMul, Nat.reduceBEq, Nat.reduceLT, Nat.reduceLeDiff, Nat.reduceEqDiff, reduceCtorEq, Int.reduceToNat, Int.reduceLE, Int.reduceLT, Int.reduceBEq, Int.reduceBNe, mCall, rap_S, rap_X, cel3, lt_false (Nat.le_refl t.args.length)]
      obtain ⟨q1, q2, q3, q4⟩ := seq_fits (H := H) t.args.length (fun i hi m x m' hm hx => by
        obtain ⟨b1, b2⟩ := below_ok (t := t) (i := i) p.ok (by omega) p.sd
        exact ap_fits f _ _ m K D (H + 1) x m' (node_args p.nodes i hi) (vle_args p.vle i hi) hk0 (by omega) (by omega) b2 b1 hx) (by omega) _ (Nat.le_refl _) xs m hseq
      by_cases hk : t.kind = 4
      · rw [if_pos hk]
        have hkb : (t.kind == 4) = true := by simpa using hk
        have hh0 := node_head (node_here p.nodes)
        have hh1 := vle_here p.vle hk
        obtain ⟨o1, o2, o3⟩ := of_ok p.ok hh0 hh1 p.sd hkd
        have hof := mapped_spec s t.head hh0 (by omega) (by omega) ⟨hsh, by omega⟩ (fun x hx => ⟨by have := (may_parts (p.ok.may x hx)).2.1; omega, (hm x hx).2⟩)
        have q5 : (m - (n + 1)) * 4001 + (40000 - m) * 4001 ≤ 40000 * 4001 := by rw [← Nat.add_mul]; exact Nat.mul_le_mul_right _ (by omega)
        have hsp := rspn_walk ih xs (ofS s t.head) m h (H + 1 + ((m - (n + 1) : Nat) : Int)) (by omega) q2 o1 (vle_mono (by omega) o2) (by omega) (by omega) q3 (by omega)
        cases hs : spnA (ap f) (ofS s t.head) xs m with
        | ok r m' => rw [hs] at hsp; exact rap_var (by omega) hkb hloop hof hsp
        | er e m' => rw [hs] at hsp; exact rap_var (by omega) hkb hloop hof hsp
      · rw [if_neg hk]
        exact rap_node (by omega) (by simpa using hk) hloop
end Go.Proofs.YtkmpfdecjmnccaaGreat
/- Layer 3: the reference's Spine; law SubstSpines. -/
set_option linter.unusedSimpArgs false
set_option linter.unusedVariables false
set_option maxRecDepth 100000
namespace Go.Proofs.YtkmpfdecjmnccaaGreat
open Go.Proofs
theorem rdone_ok {u : Tm} {m : Nat} (hs : u.size < room) (hm : mayB u = true) : (lim C).call 112 [.href 0 0, dT u] [.var 0 [dI m, dI 0]] = some (.ret (.tup [dT u, dI 0]), [.var 0 [dI m, dI 0]]) := by
  have hma := may_spec u hs
  rw [hm] at hma
  have h0 : ((0 : Int) == 0) = true := rfl
  have h00 : ((0 : Int) != 0) = false := rfl
  rw [ev_fn 112 Tryz.f112 _ _ _ rfl Tryz.func112 rfl Tryz.ntmps112 rfl]
  simp -implicitDefEqProofs (disch := decide +kernel) only [go_sem, ↓reduceIte, Nat.reduceSub, Nat.reduceAdd, Nat.reduceMul, Nat.reduceBEq, Nat.reduceLT, Nat.reduceLeDiff, Nat.reduceEqDiff, reduceCtorEq, Int.reduceToNat, Int.reduceLE, Int.reduceLT, Int.reduceBEq, Int.reduceBNe, mCall, cells_enc, cel3, (enc_eq u).symm, hma, h0, h00]
theorem rdone_big {u : Tm} {m : Nat} (hs : u.size < room) (hm : mayB u = false) : (lim C).call 112 [.href 0 0, dT u] [.var 0 [dI m, dI 0]] = some (.ret (.tup [dT zT, dI 4]), [.var 0 [dI m, dI 4]]) := by
  have hma := may_spec u hs
  rw [hm] at hma
  have h0 : ((0 : Int) == 0) = true := rfl
  have h40 : ((4 : Int) != 0) = true := rfl
  rw [ev_fn 112 Tryz.f112 _ _ _ rfl Tryz.func112 rfl Tryz.ntmps112 rfl]
  simp -implicitDefEqProofs (disch := decide +kernel) only [go_sem, ↓reduceIte, Nat.reduceSub, Nat.reduceAdd, Nat.reduceMul, Nat.reduceBEq, Nat.reduceLT, Nat.reduceLeDiff, Nat.reduceEqDiff, reduceCtorEq, Int.reduceToNat, Int.reduceLE, Int.reduceLT, Int.reduceBEq, Int.reduceBNe, mCall, cells_enc, cel3, (enc_eq u).symm, hma, h0, h40, zT_enc]
theorem rdone_er {m e : Nat} (he : ((e : Int) != 0) = true) : (lim C).call 112 [.href 0 0, dT zT] [.var 0 [dI m, dI (e : Int)]] = some (.ret (.tup [dT zT, dI (e : Int)]), [.var 0 [dI m, dI (e : Int)]]) := by
  have hr : room = 1099511627776 := rfl
  have hma := may_spec zT (by have := (may_parts zT_may).2.1; omega)
  have h0 : ((e : Int) == 0) = false := by simpa using he
  rw [ev_fn 112 Tryz.f112 _ _ _ rfl Tryz.func112 rfl Tryz.ntmps112 rfl]
  simp -implicitDefEqProofs (disch := decide +kernel) only [go_sem, ↓reduceIte, Nat.reduceSub, Nat.reduceAdd, Nat.reduceMul, Nat.reduceBEq, Nat.reduceLT, Nat.reduceLeDiff, Nat.reduceEqDiff, reduceCtorEq, Int.reduceToNat, Int.reduceLE, Int.reduceLT, Int.reduceBEq, Int.reduceBNe, mCall, cells_enc, cel3, (enc_eq zT).symm, hma, h0, he, zT_enc]
theorem rdone_spec {r : R Tm} (hs : ∀ u m, r = .ok u m → u.size < room) (he : ∀ e m, r = .er e m → e = 3 ∨ e = 4) {x : AV} {hp : List HO} (h : outW [] r = some (.ret x, hp)) :
    ∃ h', (lim C).call 112 [.href 0 0, x] hp = some (.ret (.tup [dT (outD r).1, dI (outD r).2]), h') := by
  cases r with
  | ok u m =>
    cases h
    cases hm : mayB u
    · exact ⟨_, by simp only [outD, hm]; exact rdone_big (hs u m rfl) hm⟩
    · exact ⟨_, by simp only [outD, hm]; exact rdone_ok (hs u m rfl) hm⟩
  | er e m =>
    cases h
    exact ⟨_, rdone_er (err_ne (he e m rfl))⟩
end Go.Proofs.YtkmpfdecjmnccaaGreat
/- The references of layers 3 and 4: Apply, Fill, Ctx, All. -/
set_option linter.unusedSimpArgs false
set_option linter.unusedVariables false
set_option maxRecDepth 100000
namespace Go.Proofs.YtkmpfdecjmnccaaGreat
open Go.Proofs
theorem dec_le (a b : Int) : decide (a ≤ b) = !decide (a > b) := by by_cases h : a ≤ b <;> simp [h]; omega
theorem dec_ge (a b : Int) : decide (a ≥ b) = !decide (a < b) := by by_cases h : a ≥ b <;> simp [h]; omega
theorem smayB_code (s : Sb) : smayB s = (!decide ((s.L.length : Int) > 200) && !decide (s.sh < 0) && !decide (s.sh > 1048576) && maysB s.L) := by
  unfold smayB
  rw [dec_le, dec_ge, dec_le]
def rsm_S (s : Sb) (i : Nat) : St := mk 34 [(1, .lref 1 0), (3, dI i)] [(1, cel2 s)] [] []
theorem rsMay_spec (s : Sb) (hl : s.L.length < room) (hz : ∀ x ∈ s.L, x.size < room) : (lim C).call 110 [dS s] [] = retB (smayB s) := by
  have hr : room = 1099511627776 := rfl
  have hloop : (lim C).code 110 (.loop (cf (cf (cs (cf (cs (cs (bodyOf Tryz.f110)))))))) (rsm_S s 0) = some (if allB s.L.length (fun k => mayB (s.L.getD k default)) then (.exit 0, mk 34 [(1, .lref 1 0), (3, dI s.L.length), (23, dB false)] [(1, cel2 s)] [] []) else (.ret, mk 34 [(2, dB false)] [] [] [])) := by
    refine loop_all (rsm_S s) s.L.length _ (fun k hk hp => ?_) (fun k hk hp => ?_) ?_ (by simp) (by simp)
    · have hc := may_spec (s.L.getD k default) (hz _ (getD_mem hk))
      rw [hp] at hc
      simp -implicitDefEqProofs (disch := decide +kernel) only [cf, cs, bodyOf, Tryz.f110, Option.getD_some, go_sem, ↓reduceIte, Nat.reduceSub, Nat.reduceAdd, Nat.reduceMul, Nat.reduceBEq, Nat.reduceLT, Nat.reduceLeDiff, Nat.reduceEqDiff, reduceCtorEq, Int.reduceToNat, Int.reduceLE, Int.reduceLT, Int.reduceBEq, Int.reduceBNe, mCall, rsm_S, cel2, lt_true hk, getD_get hk, hc, wrap_succ (n := k) (by omega)]
    · have hc := may_spec (s.L.getD k default) (hz _ (getD_mem hk))
      rw [hp] at hc
      simp -implicitDefEqProofs (disch := decide +kernel) only [cf, cs, bodyOf, Tryz.f110, Option.getD_some, go_sem, ↓reduceIte, Nat.reduceSub, Nat.reduceAdd, Nat.reduceMul, Nat.reduceBEq, Nat.reduceLT, Nat.reduceLeDiff, Nat.reduceEqDiff, reduceCtorEq, Int.reduceToNat, Int.reduceLE, Int.reduceLT, Int.reduceBEq, Int.reduceBNe, mCall, rsm_S, cel2, lt_true hk, getD_get hk, hc]
    · simp -implicitDefEqProofs (disch := decide +kernel) only [cf, cs, bodyOf, Tryz.f110, Option.getD_some, go_sem, ↓reduceIte, Nat.reduceSub, Nat.reduceAdd, Nat.reduceMul, Nat.reduceBEq, Nat.reduceLT, Nat.reduceLeDiff, Nat.reduceEqDiff, reduceCtorEq, Int.reduceToNat, Int.reduceLE, Int.reduceLT, Int.reduceBEq, Int.reduceBNe, mCall, rsm_S, cel2, lt_false (Nat.le_refl s.L.length)]
  rw [smayB_code]
  have hm : maysB s.L = allB s.L.length (fun k => mayB (s.L.getD k default)) := rfl
  rw [hm]
  rw [ev_fn 110 Tryz.f110 _ _ _ rfl Tryz.func110 rfl Tryz.ntmps110 rfl]
  cases h1 : decide ((s.L.length : Int) > 200)
  rotate_left
  · simp -implicitDefEqProofs (disch := decide +kernel) only [go_sem, ↓reduceIte, Nat.reduceSub, Nat.reduceAdd, Nat.reduceMul, Nat.reduceBEq, Nat.reduceLT, Nat.reduceLeDiff, Nat.reduceEqDiff, reduceCtorEq, Int.reduceToNat, Int.reduceLE, Int.reduceLT, Int.reduceBEq, Int.reduceBNe, mCall, cells_encS, cel2, h1]
  cases h2 : decide (s.sh < 0)
  rotate_left
  · simp -implicitDefEqProofs (disch := decide +kernel) only [go_sem, ↓reduceIte, Nat.reduceSub, Nat.reduceAdd, Nat.reduceMul, Nat.reduceBEq, Nat.reduceLT, Nat.reduceLeDiff, Nat.reduceEqDiff, reduceCtorEq, Int.reduceToNat, Int.reduceLE, Int.reduceLT, Int.reduceBEq, Int.reduceBNe, mCall, cells_encS, cel2, h1, h2]
  cases h3 : decide (s.sh > 1048576)
  rotate_left
  · simp -implicitDefEqProofs (disch := decide +kernel) only [go_sem, ↓reduceIte, Nat.reduceSub, Nat.reduceAdd, Nat.reduceMul, Nat.reduceBEq, Nat.reduceLT, Nat.reduceLeDiff, Nat.reduceEqDiff, reduceCtorEq, Int.reduceToNat, Int.reduceLE, Int.reduceLT, Int.reduceBEq, Int.reduceBNe, mCall, cells_encS, cel2, h1, h2, h3]
  cases h4 : allB s.L.length (fun k => mayB (s.L.getD k default))
  · rw [h4, if_neg (by simp)] at hloop
    simp -implicitDefEqProofs (disch := decide +kernel) only [go_sem, ↓reduceIte, Nat.reduceSub, Nat.reduceAdd, Nat.reduceMul, Nat.reduceBEq, Nat.reduceLT, Nat.reduceLeDiff, Nat.reduceEqDiff, reduceCtorEq, Int.reduceToNat, Int.reduceLE, Int.reduceLT, Int.reduceBEq, Int.reduceBNe, mCall, cells_encS, cel2, h1, h2, h3]
    rw [loop_at hloop ?hb ?hs]
    case hb => rfl
    case hs => rfl
    simp -implicitDefEqProofs (disch := decide +kernel) only [go_sem, ↓reduceIte, Nat.reduceSub, Nat.reduceAdd, Nat.reduceMul, Nat.reduceBEq, Nat.reduceLT, Nat.reduceLeDiff, Nat.reduceEqDiff, reduceCtorEq, Int.reduceToNat, Int.reduceLE, Int.reduceLT, Int.reduceBEq, Int.reduceBNe, mCall, h1]
  · rw [h4, if_pos rfl] at hloop
    simp -implicitDefEqProofs (disch := decide +kernel) only [go_sem, ↓reduceIte, Nat.reduceSub, Nat.reduceAdd, Nat.reduceMul, Nat.reduceBEq, Nat.reduceLT, Nat.reduceLeDiff, Nat.reduceEqDiff, reduceCtorEq, Int.reduceToNat, Int.reduceLE, Int.reduceLT, Int.reduceBEq, Int.reduceBNe, mCall, cells_encS, cel2, h1, h2, h3]
    rw [loop_at hloop ?hb ?hs]
    case hb => rfl
    case hs => rfl
    simp -implicitDefEqProofs (disch := decide +kernel) only [go_sem, ↓reduceIte, Nat.reduceSub, Nat.reduceAdd, Nat.reduceMul, Nat.reduceBEq, Nat.reduceLT, Nat.reduceLeDiff, Nat.reduceEqDiff, reduceCtorEq, Int.reduceToNat, Int.reduceLE, Int.reduceLT, Int.reduceBEq, Int.reduceBNe, mCall, h1]
theorem rapply_spec (t : Tm) (s : Sb) (hz : t.size < room) (hzs : ∀ x ∈ s.L, x.size < room) (hl : s.L.length < room) (hv : vleB topV t = true) (hvs : ∀ x ∈ s.L, vleB topV x = true) :
    ∃ h, (lim C).call 91 [dT t, dS s] [] = some (.ret (.tup [dT (applyR t s).1, dI (applyR t s).2]), h) := by
  have hr : room = 1099511627776 := rfl
  have hm1 := may_spec t hz
  have hm2 := rsMay_spec s hl hzs
  have he := (enc_eq t).symm
  have hes := (encS_eq s).symm
  unfold applyR
  cases h1 : mayB t
  · rw [h1] at hm1
    refine ⟨[], ?_⟩
    rw [ev_fn 91 Tryz.f91 _ _ _ rfl Tryz.func91 rfl Tryz.ntmps91 rfl]
    simp -implicitDefEqProofs (disch := decide +kernel) only [go_sem, ↓reduceIte, Nat.reduceSub, Nat.reduceAdd, Nat.reduceMul, Nat.reduceBEq, Nat.reduceLT, Nat.reduceLeDiff, Nat.reduceEqDiff, reduceCtorEq, Int.reduceToNat, Int.reduceLE, Int.reduceLT, Int.reduceBEq, Int.reduceBNe, mCall, cells_enc, cells_encS, cel3, cel2, he, hes, hm1, hm2, zT_enc]
  · rw [h1] at hm1
    cases h2 : smayB s
    · rw [h2] at hm2
      refine ⟨[], ?_⟩
      rw [ev_fn 91 Tryz.f91 _ _ _ rfl Tryz.func91 rfl Tryz.ntmps91 rfl]
      simp -implicitDefEqProofs (disch := decide +kernel) only [go_sem, ↓reduceIte, Nat.reduceSub, Nat.reduceAdd, Nat.reduceMul, Nat.reduceBEq, Nat.reduceLT, Nat.reduceLeDiff, Nat.reduceEqDiff, reduceCtorEq, Int.reduceToNat, Int.reduceLE, Int.reduceLT, Int.reduceBEq, Int.reduceBNe, mCall, cells_enc, cells_encS, cel3, cel2, he, hes, hm1, hm2, zT_enc]
    · rw [h2] at hm2
      have hw := rap_walk 40000 t s 0 [] _ _ _ (pre_top h1 h2 hv hvs)
      have hsz : ∀ u m, ap 40000 t s 0 = .ok u m → u.size < room := fun u m hu => by
        have := (ap_size h1 h2 hv hvs hu)
        have := this.size
        have := ‹Fits 0 m (topV + 1048576) 0 u›.lim
        have q : (m - 0) * 4001 ≤ 40000 * 4001 := Nat.mul_le_mul_right _ (by omega)
        omega
      have her : ∀ e m, ap 40000 t s 0 = .er e m → e = 3 ∨ e = 4 := fun e m h => ap_err 40000 t s 0 e m h
      obtain ⟨x, hp, hx⟩ : ∃ x : Tm, ∃ hp, outW [] (ap 40000 t s 0) = some (.ret (dT x), hp) := by
        cases ap 40000 t s 0 with
        | ok u m => exact ⟨u, _, rfl⟩
        | er e m => exact ⟨zT, _, rfl⟩
      obtain ⟨h', hd⟩ := rdone_spec hsz her hx
      have hw' : (lim C).call 111 [.href 0 0, dT t, dS s] [.var 0 [dI 0, dI 0]] = some (.ret (dT x), hp) := by rw [← hx]; exact hw
      refine ⟨h', ?_⟩
      rw [ev_fn 91 Tryz.f91 _ _ _ rfl Tryz.func91 rfl Tryz.ntmps91 rfl]
      generalize outD (ap 40000 t s 0) = rr at hd ⊢
      simp -implicitDefEqProofs (disch := decide +kernel) only [go_sem, ↓reduceIte, Nat.reduceSub, Nat.reduceAdd, Nat.reduceMul, Nat.reduceBEq, Nat.reduceLT, Nat.reduceLeDiff, Nat.reduceEqDiff, reduceCtorEq, Int.reduceToNat, Int.reduceLE, Int.reduceLT, Int.reduceBEq, Int.reduceBNe, mCall, cells_enc, cells_encS, cel3, cel2, zc3, he, hes, hm1, hm2, hw', hd, (enc_eq x).symm, (enc_eq rr.1).symm]
end Go.Proofs.YtkmpfdecjmnccaaGreat
/- The reference of layer 10: May, a spine. -/
set_option linter.unusedSimpArgs false
set_option linter.unusedVariables false
set_option maxRecDepth 100000
namespace Go.Proofs.YtkmpfdecjmnccaaGreat
open Go.Proofs
def ra_S (l : List Tm) (i : Nat) : St := mk 18 [(0, dL l), (3, dI i)] [] [] []
theorem rall_spec (l : List Tm) (hl : l.length < room) (hz : ∀ x ∈ l, x.size < room) : (lim C).call 92 [dL l] [] = retB (maysB l) := by
  have hr : room = 1099511627776 := rfl
  have hloop : (lim C).code 92 (.loop (cf (cf (cs (cf (cs (bodyOf Tryz.f92))))))) (ra_S l 0) = some (if allB l.length (fun k => mayB (l.getD k default)) then (.exit 0, mk 18 [(0, dL l), (3, dI l.length), (8, dB false)] [] [] []) else (.ret, mk 18 [(2, dB false)] [] [] [])) := by
    refine loop_all (ra_S l) l.length _ (fun k hk hp => ?_) (fun k hk hp => ?_) ?_ (by simp) (by simp)
    · have hc := may_spec (l.getD k default) (hz _ (getD_mem hk))
      rw [hp] at hc
      simp -implicitDefEqProofs (disch := decide +kernel) only [cf, cs, bodyOf, Tryz.f92, Option.getD_some, go_sem, ↓reduceIte, Nat.reduceSub, Nat.reduceAdd, Nat.reduceMul, Nat.reduceBEq, Nat.reduceLT, Nat.reduceLeDiff, Nat.reduceEqDiff, reduceCtorEq, Int.reduceToNat, Int.reduceLE, Int.reduceLT, Int.reduceBEq, Int.reduceBNe, mCall, ra_S, lt_true hk, getD_get hk, hc, wrap_succ (n := k) (by omega)]
    · have hc := may_spec (l.getD k default) (hz _ (getD_mem hk))
      rw [hp] at hc
      simp -implicitDefEqProofs (disch := decide +kernel) only [cf, cs, bodyOf, Tryz.f92, Option.getD_some, go_sem, ↓reduceIte, Nat.reduceSub, Nat.reduceAdd, Nat.reduceMul, Nat.reduceBEq, Nat.reduceLT, Nat.reduceLeDiff, Nat.reduceEqDiff, reduceCtorEq, Int.reduceToNat, Int.reduceLE, Int.reduceLT, Int.reduceBEq, Int.reduceBNe, mCall, ra_S, lt_true hk, getD_get hk, hc]
    · simp -implicitDefEqProofs (disch := decide +kernel) only [cf, cs, bodyOf, Tryz.f92, Option.getD_some, go_sem, ↓reduceIte, Nat.reduceSub, Nat.reduceAdd, Nat.reduceMul, Nat.reduceBEq, Nat.reduceLT, Nat.reduceLeDiff, Nat.reduceEqDiff, reduceCtorEq, Int.reduceToNat, Int.reduceLE, Int.reduceLT, Int.reduceBEq, Int.reduceBNe, mCall, ra_S, lt_false (Nat.le_refl l.length)]
  have hm : maysB l = allB l.length (fun k => mayB (l.getD k default)) := rfl
  rw [ev_fn 92 Tryz.f92 _ _ _ rfl Tryz.func92 rfl Tryz.ntmps92 rfl]
  simp -implicitDefEqProofs (disch := decide +kernel) only [go_sem, ↓reduceIte, Nat.reduceSub, Nat.reduceAdd, Nat.reduceMul, Nat.reduceBEq, Nat.reduceLT, Nat.reduceLeDiff, Nat.reduceEqDiff, reduceCtorEq, Int.reduceToNat, Int.reduceLE, Int.reduceLT, Int.reduceBEq, Int.reduceBNe, mCall]
  rw [loop_at hloop ?hb ?hs]
  case hb => rfl
  case hs => rfl
  rw [hm]
  cases allB l.length (fun k => mayB (l.getD k default)) <;> simp -implicitDefEqProofs (disch := decide +kernel) only [go_sem, ↓reduceIte, Nat.reduceSub, Nat.reduceAdd, Nat.reduceMul, Nat.reduceBEq, Nat.reduceLT, Nat.reduceLeDiff, Nat.reduceEqDiff, reduceCtorEq, Int.reduceToNat, Int.reduceLE, Int.reduceLT, Int.reduceBEq, Int.reduceBNe, mCall]
def rm_S1 (w : Wo) (l : List Tm) (i : Nat) : St := mk 65 [(0, dDs w.sig), (1, dMs w.metas), (2, dL w.ctx), (3, dL l), (9, dI i)] [] [] []
def rm_S2 (w : Wo) (l : List Tm) (i : Nat) : St := mk 65 [(1, dMs w.metas), (2, dL w.ctx), (3, dL l), (11, dI i)] [] [] []
def rm_R : St := mk 65 [(8, dB false)] [] [] []
theorem rMay_spec (w : Wo) (l : List Tm) (hw : WSz w) (hl : l.length < room) (hz : ∀ x ∈ l, x.size < room) : (lim C).call 71 [dDs w.sig, dMs w.metas, dL w.ctx, dL l] [] = retB (mayW w.wd w.ctx l) := by
  have hr : room = 1099511627776 := rfl
  have s1 := hw.sl
  have m1 := hw.ml
  have hloop1 : (lim C).code 71 (.loop (cf (cf (cs (cf (cs (cs (bodyOf Tryz.f71)))))))) (rm_S1 w l 0) = some (if allB w.sig.length (fun i => mayB (Dcs.at w.sig i).t) then (.exit 0, mk 65 [(0, dDs w.sig), (1, dMs w.metas), (2, dL w.ctx), (3, dL l), (9, dI w.sig.length), (22, dB false)] [] [] []) else (.ret, rm_R)) := by
    refine loop_all (rm_S1 w l) w.sig.length _ (fun k hk hp => ?_) (fun k hk hp => ?_) ?_ (by simp) (by simp)
    · have hc := may_spec (Dcs.at w.sig k).t (hw.sz _ (dat_mem hk))
      rw [hp] at hc
      simp -implicitDefEqProofs (disch := decide +kernel) only [cf, cs, bodyOf, Tryz.f71, Option.getD_some, go_sem, ↓reduceIte, Nat.reduceSub, Nat.reduceAdd, Nat.reduceMul, Nat.reduceBEq, Nat.reduceLT, Nat.reduceLeDiff, Nat.reduceEqDiff, reduceCtorEq, Int.reduceToNat, Int.reduceLE, Int.reduceLT, Int.reduceBEq, Int.reduceBNe, mCall, rm_S1, lt_true hk, dat_get hk, hc, cells_encD, (enc_eq (Dcs.at w.sig k).t).symm, wrap_succ (n := k) (by omega)]
    · have hc := may_spec (Dcs.at w.sig k).t (hw.sz _ (dat_mem hk))
      rw [hp] at hc
      simp -implicitDefEqProofs (disch := decide +kernel) only [cf, cs, bodyOf, Tryz.f71, Option.getD_some, go_sem, ↓reduceIte, Nat.reduceSub, Nat.reduceAdd, Nat.reduceMul, Nat.reduceBEq, Nat.reduceLT, Nat.reduceLeDiff, Nat.reduceEqDiff, reduceCtorEq, Int.reduceToNat, Int.reduceLE, Int.reduceLT, Int.reduceBEq, Int.reduceBNe, mCall, rm_S1, rm_R, lt_true hk, dat_get hk, hc, cells_encD, (enc_eq (Dcs.at w.sig k).t).symm]
    · simp -implicitDefEqProofs (disch := decide +kernel) only [cf, cs, bodyOf, Tryz.f71, Option.getD_some, go_sem, ↓reduceIte, Nat.reduceSub, Nat.reduceAdd, Nat.reduceMul, Nat.reduceBEq, Nat.reduceLT, Nat.reduceLeDiff, Nat.reduceEqDiff, reduceCtorEq, Int.reduceToNat, Int.reduceLE, Int.reduceLT, Int.reduceBEq, Int.reduceBNe, mCall, rm_S1, lt_false (Nat.le_refl w.sig.length)]
  have hloop2 : (lim C).code 71 (.loop (cf (cf (cs (cf (cs (cs (cs (bodyOf Tryz.f71))))))))) (rm_S2 w l 0) = some (if allB w.metas.length (fun i => mayB (w.metas.getD i default).t && maysB (w.metas.getD i default).ctx) then (.exit 2, mk 65 [(1, dMs w.metas), (2, dL w.ctx), (3, dL l), (11, dI w.metas.length), (36, dB false)] [] [] []) else (.ret, rm_R)) := by
    refine loop_all (rm_S2 w l) w.metas.length _ (fun k hk hp => ?_) (fun k hk hp => ?_) ?_ (by simp) (by simp)
    · obtain ⟨z1, z2, z3⟩ := hw.mz _ (mget_mem hk)
      have hc := may_spec (w.metas.getD k default).t z1
      have hd := rall_spec (w.metas.getD k default).ctx z2 z3
      simp only [Bool.and_eq_true] at hp
      rw [hp.1] at hc
      rw [hp.2] at hd
      simp -implicitDefEqProofs (disch := decide +kernel) only [cf, cs, bodyOf, Tryz.f71, Option.getD_some, go_sem, ↓reduceIte, Nat.reduceSub, Nat.reduceAdd, Nat.reduceMul, Nat.reduceBEq, Nat.reduceLT, Nat.reduceLeDiff, Nat.reduceEqDiff, reduceCtorEq, Int.reduceToNat, Int.reduceLE, Int.reduceLT, Int.reduceBEq, Int.reduceBNe, mCall, rm_S2, lt_true hk, mget_get hk, hc, hd, cells_encM, (enc_eq (w.metas.getD k default).t).symm, wrap_succ (n := k) (by omega)]
    · obtain ⟨z1, z2, z3⟩ := hw.mz _ (mget_mem hk)
      have hc := may_spec (w.metas.getD k default).t z1
      have hd := rall_spec (w.metas.getD k default).ctx z2 z3
      cases h2 : maysB (w.metas.getD k default).ctx
      · rw [h2] at hd
        simp -implicitDefEqProofs (disch := decide +kernel) only [cf, cs, bodyOf, Tryz.f71, Option.getD_some, go_sem, ↓reduceIte, Nat.reduceSub, Nat.reduceAdd, Nat.reduceMul, Nat.reduceBEq, Nat.reduceLT, Nat.reduceLeDiff, Nat.reduceEqDiff, reduceCtorEq, Int.reduceToNat, Int.reduceLE, Int.reduceLT, Int.reduceBEq, Int.reduceBNe, mCall, rm_S2, rm_R, lt_true hk, mget_get hk, hc, hd, cells_encM, (enc_eq (w.metas.getD k default).t).symm]
      · rw [h2, Bool.and_true] at hp
        rw [hp] at hc
        rw [h2] at hd
        simp -implicitDefEqProofs (disch := decide +kernel) only [cf, cs, bodyOf, Tryz.f71, Option.getD_some, go_sem, ↓reduceIte, Nat.reduceSub, Nat.reduceAdd, Nat.reduceMul, Nat.reduceBEq, Nat.reduceLT, Nat.reduceLeDiff, Nat.reduceEqDiff, reduceCtorEq, Int.reduceToNat, Int.reduceLE, Int.reduceLT, Int.reduceBEq, Int.reduceBNe, mCall, rm_S2, rm_R, lt_true hk, mget_get hk, hc, hd, cells_encM, (enc_eq (w.metas.getD k default).t).symm]
    · simp -implicitDefEqProofs (disch := decide +kernel) only [cf, cs, bodyOf, Tryz.f71, Option.getD_some, go_sem, ↓reduceIte, Nat.reduceSub, Nat.reduceAdd, Nat.reduceMul, Nat.reduceBEq, Nat.reduceLT, Nat.reduceLeDiff, Nat.reduceEqDiff, reduceCtorEq, Int.reduceToNat, Int.reduceLE, Int.reduceLT, Int.reduceBEq, Int.reduceBNe, mCall, rm_S2, lt_false (Nat.le_refl w.metas.length)]
  have hc1 := rall_spec w.ctx hw.cl hw.cz
  have hc2 := rall_spec l hl hz
  rw [mayW_eq]
  rw [ev_fn 71 Tryz.f71 _ _ _ rfl Tryz.func71 rfl Tryz.ntmps71 rfl]
  cases k1 : decide ((w.ctx.length : Int) > 1000)
  · cases k4 : allB w.sig.length (fun i => mayB (Dcs.at w.sig i).t)
    · rw [k4] at hloop1
      simp -implicitDefEqProofs (disch := decide +kernel) only [go_sem, ↓reduceIte, Nat.reduceSub, Nat.reduceAdd, Nat.reduceMul, Nat.reduceBEq, Nat.reduceLT, Nat.reduceLeDiff, Nat.reduceEqDiff, reduceCtorEq, Int.reduceToNat, Int.reduceLE, Int.reduceLT, Int.reduceBEq, Int.reduceBNe, mCall, k1]
      rw [loop_at hloop1 ?hb ?hs]
      case hb => rfl
      case hs => rfl
      simp -implicitDefEqProofs (disch := decide +kernel) only [go_sem, ↓reduceIte, Nat.reduceSub, Nat.reduceAdd, Nat.reduceMul, Nat.reduceBEq, Nat.reduceLT, Nat.reduceLeDiff, Nat.reduceEqDiff, reduceCtorEq, Int.reduceToNat, Int.reduceLE, Int.reduceLT, Int.reduceBEq, Int.reduceBNe, mCall, rm_R]
    · rw [k4] at hloop1
      simp -implicitDefEqProofs (disch := decide +kernel) only [go_sem, ↓reduceIte, Nat.reduceSub, Nat.reduceAdd, Nat.reduceMul, Nat.reduceBEq, Nat.reduceLT, Nat.reduceLeDiff, Nat.reduceEqDiff, reduceCtorEq, Int.reduceToNat, Int.reduceLE, Int.reduceLT, Int.reduceBEq, Int.reduceBNe, mCall, k1]
      rw [loop_at hloop1 ?hb ?hs]
      case hb => rfl
      case hs => rfl
      cases k5 : allB w.metas.length (fun i => mayB (w.metas.getD i default).t && maysB (w.metas.getD i default).ctx)
      · rw [k5] at hloop2
        simp -implicitDefEqProofs (disch := decide +kernel) only [go_sem, ↓reduceIte, Nat.reduceSub, Nat.reduceAdd, Nat.reduceMul, Nat.reduceBEq, Nat.reduceLT, Nat.reduceLeDiff, Nat.reduceEqDiff, reduceCtorEq, Int.reduceToNat, Int.reduceLE, Int.reduceLT, Int.reduceBEq, Int.reduceBNe, mCall]
        rw [loop_at hloop2 ?hb ?hs]
        case hb => rfl
        case hs => rfl
        simp -implicitDefEqProofs (disch := decide +kernel) only [go_sem, ↓reduceIte, Nat.reduceSub, Nat.reduceAdd, Nat.reduceMul, Nat.reduceBEq, Nat.reduceLT, Nat.reduceLeDiff, Nat.reduceEqDiff, reduceCtorEq, Int.reduceToNat, Int.reduceLE, Int.reduceLT, Int.reduceBEq, Int.reduceBNe, mCall, rm_R]
      · rw [k5] at hloop2
        simp -implicitDefEqProofs (disch := decide +kernel) only [go_sem, ↓reduceIte, Nat.reduceSub, Nat.reduceAdd, Nat.reduceMul, Nat.reduceBEq, Nat.reduceLT, Nat.reduceLeDiff, Nat.reduceEqDiff, reduceCtorEq, Int.reduceToNat, Int.reduceLE, Int.reduceLT, Int.reduceBEq, Int.reduceBNe, mCall]
        rw [loop_at hloop2 ?hb ?hs]
        case hb => rfl
        case hs => rfl
        cases k2 : maysB l <;> cases k3 : maysB w.ctx <;> (rw [k2] at hc2; rw [k3] at hc1; simp -implicitDefEqProofs (disch := decide +kernel) only [go_sem, ↓reduceIte, Nat.reduceSub, Nat.reduceAdd, Nat.reduceMul, Nat.reduceBEq, Nat.reduceLT, Nat.reduceLeDiff, Nat.reduceEqDiff, reduceCtorEq, Int.reduceToNat, Int.reduceLE, Int.reduceLT, Int.reduceBEq, Int.reduceBNe, mCall, hc1, hc2])
  · simp -implicitDefEqProofs (disch := decide +kernel) only [go_sem, ↓reduceIte, Nat.reduceSub, Nat.reduceAdd, Nat.reduceMul, Nat.reduceBEq, Nat.reduceLT, Nat.reduceLeDiff, Nat.reduceEqDiff, reduceCtorEq, Int.reduceToNat, Int.reduceLE, Int.reduceLT, Int.reduceBEq, Int.reduceBNe, mCall, k1]
theorem rmore_spec (l : List Tm) (a : Tm) (hl : l.length < room) : (lim C).call 93 [dL l, dT a] [] = some (.ret (dL (l ++ [a])), []) := by
  have hr : room = 1099511627776 := rfl
  have ha1 := fun locs heap => app_first (encs l) 3 locs heap (by rw [encs_length]; omega) (encs_all _)
  have ha2 := fun locs heap => app_more (encs l) [enc a] 3 (by simp) locs heap (by rw [encs_length]; simp; omega) (encs_all _) (by simp [enc_width])
  have hz : encs l ++ [enc a] = encs (l ++ [a]) := by rw [encs_append]; rfl
  simp only [encs_length, hz] at ha1 ha2
  rw [ev_fn 93 Tryz.f93 _ _ _ rfl Tryz.func93 rfl Tryz.ntmps93 rfl]
  simp -implicitDefEqProofs (disch := decide +kernel) only [go_sem, ↓reduceIte, Nat.reduceSub, Nat.reduceAdd, Nat.reduceMul, Nat.reduceBEq, Nat.reduceLT, Nat.reduceLeDiff, Nat.reduceEqDiff, reduceCtorEq, Int.reduceToNat, Int.reduceLE, Int.reduceLT, Int.reduceBEq, Int.reduceBNe, mCall, ha1, ha2, cells_enc, cel3, (enc_eq a).symm]
end Go.Proofs.YtkmpfdecjmnccaaGreat
/- The reference of layer 10: what a node comes to. -/
set_option linter.unusedSimpArgs false
set_option linter.unusedVariables false
set_option maxRecDepth 100000
namespace Go.Proofs.YtkmpfdecjmnccaaGreat
open Go.Proofs
def rfH (w : Wo) : List HO := [.var 0 [dDs w.sig, dMs w.metas]]
def RTells (w : Wo) (m : Tm) (K : Int) : Prop := ∀ i, i < m.args.length → ∀ x : Tm, mayB x = true → vleB (K + 2000000 * ((i : Int) + 1)) x = true →
  (lim C).call 72 [.href 0 0, dL w.ctx, dT (m.arg i), dT x] (rfH w) = some (.ret (dI (argW w.wd m i x w.ctx)), rfH w)
structure RNodeOk (w : Wo) (m : Tm) (K : Int) : Prop where
  tells : RTells w m K
  may : mayB m = true
  vle : vleB K m = true
  wok : WOk K w m.size
  top : K + 4000000 * (m.size : Int) ≤ topV
theorem RNodeOk.h0 {w : Wo} {m : Tm} {K : Int} (h : RNodeOk w m K) : 0 ≤ K := h.wok.h0
theorem RNodeOk.top2 {w : Wo} {m : Tm} {K : Int} (h : RNodeOk w m K) : K + 2000000 * ((m.args.length : Int) + 2) ≤ topV := by
  have := h.top
  have := len_size m
  omega
def rsc_S (w : Wo) (t : Tm) (l : List Tm) (i : Nat) : St := mk 59 [(0, .href 0 0), (1, dL w.ctx), (3, dL l), (6, .lref 6 0), (8, .lref 8 0), (10, dI i)] [(6, cel3 t), (8, zc3)] (rfH w) []
def rsc_X (w : Wo) (t : Tm) (l : List Tm) : St := mk 59 [(0, .href 0 0), (1, dL w.ctx), (3, dL l), (6, .lref 6 0), (8, .lref 8 0), (10, dI l.length), (17, dB false)] [(6, cel3 t), (8, zc3)] (rfH w) []
def rsc_R (w : Wo) (e : Int) : St := mk 59 [(8, .lref 8 0), (9, dI e)] [(8, zc3)] (rfH w) []
theorem rsc_step {w : Wo} {m t u : Tm} {i : Nat} {h' : List HO} (hi : i < m.args.length) (hl : m.args.length < room) (k1 : (t.kind != 1) = false) (ht : t.args.length = 2)
    (hrec : (lim C).call 72 [.href 0 0, dL w.ctx, dT (m.arg i), dT (t.arg 0)] (rfH w) = some (.ret (dI 0), rfH w))
    (hap : (lim C).call 91 [dT (t.arg 1), dS ⟨[m.arg i], 0⟩] [] = some (.ret (.tup [dT u, dI 0]), h')) :
    (lim C).code 97 (cf (.loop (cf (cf (cs (cf (cs (bodyOf Tryz.f97)))))))) (rsc_S w t m.args i) = some (.nor, rsc_S w u m.args (i + 1)) := by
  have hr : room = 1099511627776 := rfl
  have e0 : t.args[0]? = some (t.arg 0) := arg_get (by omega)
  have e1 : t.args[1]? = some (t.arg 1) := arg_get (by omega)
  have hsb : Dv.agg [.slc [enc (m.arg i)], .int .i64 0] = encS ⟨[m.arg i], 0⟩ := rfl
  have h00 : ((0 : Int) != 0) = false := rfl
  simp only [rfH] at hrec
  simp -implicitDefEqProofs (disch := decide +kernel) only [cf, cs, bodyOf, Tryz.f97, Option.getD_some, go_sem, ↓reduceIte, Nat.reduceSub, Nat.reduceAdd, Nat.reduceMul, Nat.reduceBEq, Nat.reduceLT, Nat.reduceLeDiff, Nat.reduceEqDiff, reduceCtorEq, Int.reduceToNat, Int.reduceLE, Int.reduceLT, Int.reduceBEq, Int.reduceBNe, mCall, rsc_S, rfH, cel3, zc3, cells_enc, lt_true hi, arg_get hi, k1, e0, e1, hsb, hrec, hap, h00, (enc_eq (m.arg i)).symm, (enc_eq u).symm, wrap_succ (n := i) (by omega)]
theorem rsc_bad1 {w : Wo} {m t : Tm} {i : Nat} (hi : i < m.args.length) (hl : m.args.length < room) (k1 : (t.kind != 1) = true) :
    (lim C).code 97 (cf (.loop (cf (cf (cs (cf (cs (bodyOf Tryz.f97)))))))) (rsc_S w t m.args i) = some (.ret, rsc_R w 3) := by
  have hz := zT_enc
  simp -implicitDefEqProofs (disch := decide +kernel) only [cf, cs, bodyOf, Tryz.f97, Option.getD_some, go_sem, ↓reduceIte, Nat.reduceSub, Nat.reduceAdd, Nat.reduceMul, Nat.reduceBEq, Nat.reduceLT, Nat.reduceLeDiff, Nat.reduceEqDiff, reduceCtorEq, Int.reduceToNat, Int.reduceLE, Int.reduceLT, Int.reduceBEq, Int.reduceBNe, mCall, rsc_S, rsc_R, rfH, cel3, zc3, cells_enc, lt_true hi, arg_get hi, k1, hz, (enc_eq (m.arg i)).symm]
theorem rsc_bad2 {w : Wo} {m t : Tm} {i : Nat} {e : Int} (hi : i < m.args.length) (hl : m.args.length < room) (k1 : (t.kind != 1) = false) (ht : t.args.length = 2) (he : (e != 0) = true)
    (hrec : (lim C).call 72 [.href 0 0, dL w.ctx, dT (m.arg i), dT (t.arg 0)] (rfH w) = some (.ret (dI e), rfH w)) :
    (lim C).code 97 (cf (.loop (cf (cf (cs (cf (cs (bodyOf Tryz.f97)))))))) (rsc_S w t m.args i) = some (.ret, rsc_R w e) := by
  have hz := zT_enc
  have e0 : t.args[0]? = some (t.arg 0) := arg_get (by omega)
  simp only [rfH] at hrec
  simp -implicitDefEqProofs (disch := decide +kernel) only [cf, cs, bodyOf, Tryz.f97, Option.getD_some, go_sem, ↓reduceIte, Nat.reduceSub, Nat.reduceAdd, Nat.reduceMul, Nat.reduceBEq, Nat.reduceLT, Nat.reduceLeDiff, Nat.reduceEqDiff, reduceCtorEq, Int.reduceToNat, Int.reduceLE, Int.reduceLT, Int.reduceBEq, Int.reduceBNe, mCall, rsc_S, rsc_R, rfH, cel3, zc3, cells_enc, lt_true hi, arg_get hi, k1, e0, hrec, he, hz, (enc_eq (m.arg i)).symm]
theorem rsc_bad3 {w : Wo} {m t u : Tm} {i : Nat} {e : Int} {h' : List HO} (hi : i < m.args.length) (hl : m.args.length < room) (k1 : (t.kind != 1) = false) (ht : t.args.length = 2) (he : (e != 0) = true)
    (hrec : (lim C).call 72 [.href 0 0, dL w.ctx, dT (m.arg i), dT (t.arg 0)] (rfH w) = some (.ret (dI 0), rfH w))
    (hap : (lim C).call 91 [dT (t.arg 1), dS ⟨[m.arg i], 0⟩] [] = some (.ret (.tup [dT u, dI e]), h')) :
    (lim C).code 97 (cf (.loop (cf (cf (cs (cf (cs (bodyOf Tryz.f97)))))))) (rsc_S w t m.args i) = some (.ret, rsc_R w e) := by
  have hz := zT_enc
  have e0 : t.args[0]? = some (t.arg 0) := arg_get (by omega)
  have e1 : t.args[1]? = some (t.arg 1) := arg_get (by omega)
  have hsb : Dv.agg [.slc [enc (m.arg i)], .int .i64 0] = encS ⟨[m.arg i], 0⟩ := rfl
  have h00 : ((0 : Int) != 0) = false := rfl
  simp only [rfH] at hrec
  simp -implicitDefEqProofs (disch := decide +kernel) only [cf, cs, bodyOf, Tryz.f97, Option.getD_some, go_sem, ↓reduceIte, Nat.reduceSub, Nat.reduceAdd, Nat.reduceMul, Nat.reduceBEq, Nat.reduceLT, Nat.reduceLeDiff, Nat.reduceEqDiff, reduceCtorEq, Int.reduceToNat, Int.reduceLE, Int.reduceLT, Int.reduceBEq, Int.reduceBNe, mCall, rsc_S, rsc_R, rfH, cel3, zc3, cells_enc, lt_true hi, arg_get hi, k1, e0, e1, hsb, hrec, hap, he, h00, hz, (enc_eq (m.arg i)).symm, (enc_eq u).symm]
def rsc_out (w : Wo) (l : List Tm) (r : Tm × Int) : Ex × St := if r.2 = 0 then (.exit 0, rsc_X w r.1 l) else (.ret, rsc_R w r.2)
theorem rsc_err (w : Wo) (l : List Tm) {e : Int} (h : e ≠ 0) : rsc_out w l (zT, e) = (.ret, rsc_R w e) := if_neg h
theorem rsc_loop {w : Wo} {m : Tm} {K : Int} (hn : RNodeOk w m K) : ∀ (k i : Nat) (t : Tm), i + k = m.args.length → mayB t = true → vleB (K + 2000000 * ((i : Int) + 1)) t = true →
    (lim C).code 97 (.loop (cf (cf (cs (cf (cs (bodyOf Tryz.f97))))))) (rsc_S w t m.args i) = some (rsc_out w m.args (spW (argF w m) m.arg k i t))
  | 0, i, t, hi, _, _ => by
    obtain rfl : i = m.args.length := by omega
    simp only [spW, rsc_out, if_true]
    refine loop_out' ?_ (by simp)
    simp -implicitDefEqProofs (disch := decide +kernel) only [cf, cs, bodyOf, Tryz.f97, Option.getD_some, go_sem, ↓reduceIte, Nat.reduceSub, Nat.reduceAdd, Nat.reduceMul, Nat.reduceBEq, Nat.reduceLT, Nat.reduceLeDiff, Nat.reduceEqDiff, reduceCtorEq, Int.reduceToNat, Int.reduceLE, Int.reduceLT, Int.reduceBEq, Int.reduceBNe, mCall, rsc_S, rsc_X, lt_false (Nat.le_refl m.args.length)]
  | k + 1, i, t, hi, ht, hvt => by
    have hr : room = 1099511627776 := rfl
    have hm := hn.may
    have hv := hn.vle
    have h0 := hn.h0
    have hK := hn.top2
    have hlt : i < m.args.length := by omega
    have hml : m.args.length < room := by have := len_size m; have := may_room hm; omega
    simp only [spW]
    cases k1 : (t.kind != 1)
    · have hk : t.kind = 1 := by simpa using k1
      have hl2 := pi_len (may_parts ht).1 hk
      rw [if_neg (by simpa using hk)]
      have m0 := may_argm (arg_mem (t := t) (i := 0) (by omega)) ht
      have m1 := may_argm (arg_mem (t := t) (i := 1) (by omega)) ht
      have v0 := vle_args hvt 0 (by omega)
      have v1 := vle_args hvt 1 (by omega)
      have hrec := hn.tells i hlt (t.arg 0) m0 v0
      by_cases he : argF w m i (t.arg 0) = 0
      · rw [if_neg (by simpa using he)]
        have he' : argW w.wd m i (t.arg 0) w.ctx = 0 := he
        rw [he'] at hrec
        have ma := may_argm (arg_mem hlt) hm
        have va := vle_args hv i hlt
        obtain ⟨h', hap⟩ := rapply_spec (t.arg 1) ⟨[m.arg i], 0⟩ (may_room m1) (by simpa using may_room ma) (by simp; omega) (vle_mono (by omega) v1) (by simpa using vle_mono (by omega) va)
        have hvr := applyR_vle (K := K + 2000000 * ((i : Int) + 1)) (by omega) v1 (s := ⟨[m.arg i], 0⟩) (by simpa using vle_mono (by omega) va)
        have hmr := applyR_may (t.arg 1) ⟨[m.arg i], 0⟩
        generalize applyR (t.arg 1) ⟨[m.arg i], 0⟩ = r at hap hvr hmr ⊢
        obtain ⟨u, e⟩ := r
        by_cases he2 : e = 0
        · subst he2
          rw [if_neg (by simp)]
          exact (loop_nor' (rsc_step hlt hml k1 hl2 hrec hap)).trans (rsc_loop hn k (i + 1) u (by omega) hmr (by
            have : K + 2000000 * ((i : Int) + 1) + 2000000 = K + 2000000 * (((i + 1 : Nat) : Int) + 1) := by omega
            rw [← this]; exact hvr))
        · rw [if_pos (by simpa using he2)]
          rw [rsc_err w m.args (by simpa using he2)]
          exact loop_out' (rsc_bad3 hlt hml k1 hl2 (by simpa using he2) hrec hap) (by simp)
      · rw [if_pos (by simpa using he)]
        have he' : ¬ argW w.wd m i (t.arg 0) w.ctx = 0 := he
        rw [rsc_err w m.args (by simpa using he)]
        exact loop_out' (rsc_bad2 hlt hml k1 hl2 (by simpa using he') hrec) (by simp)
    · rw [if_pos (by simpa using k1)]
      rw [rsc_err w m.args (by decide)]
      exact loop_out' (rsc_bad1 hlt hml k1) (by simp)
theorem rspine_spec {w : Wo} {m : Tm} {K : Int} (hn : RNodeOk w m K) {t : Tm} (ht : mayB t = true) (hvt : vleB (K + 2000000) t = true) :
    (lim C).call 97 [.href 0 0, dL w.ctx, dT t, dL m.args] (rfH w) = some (.ret (.tup [dT (spW (argF w m) m.arg m.args.length 0 t).1, dI (spW (argF w m) m.arg m.args.length 0 t).2]), rfH w) := by
  have hloop := rsc_loop hn m.args.length 0 t (by omega) ht (by simpa using hvt)
  generalize hr : spW (argF w m) m.arg m.args.length 0 t = r at hloop ⊢
  obtain ⟨u, e⟩ := r
  simp only [rfH]
  rw [ev_fn 97 Tryz.f97 _ _ _ rfl Tryz.func97 rfl Tryz.ntmps97 rfl]
  simp -implicitDefEqProofs (disch := decide +kernel) only [go_sem, ↓reduceIte, Nat.reduceSub, Nat.reduceAdd, Nat.reduceMul, Nat.reduceBEq, Nat.reduceLT, Nat.reduceLeDiff, Nat.reduceEqDiff, reduceCtorEq, Int.reduceToNat, Int.reduceLE, Int.reduceLT, Int.reduceBEq, Int.reduceBNe, mCall, cells_enc, cel3]
  rw [loop_at hloop ?hb ?hs]
  case hb => rfl
  case hs => rfl
  by_cases he : e = 0
  · subst he
    simp only [rsc_out, if_true]
    simp -implicitDefEqProofs (disch := decide +kernel) only [go_sem, ↓reduceIte, Nat.reduceSub, Nat.reduceAdd, Nat.reduceMul, Nat.reduceBEq, Nat.reduceLT, Nat.reduceLeDiff, Nat.reduceEqDiff, reduceCtorEq, Int.reduceToNat, Int.reduceLE, Int.reduceLT, Int.reduceBEq, Int.reduceBNe, mCall, rsc_X, rfH, cel3, zc3, cells_enc, (enc_eq u).symm]
  · have hz : u = zT := by
      have := spW_err (T := argF w m) (arg := m.arg) m.args.length 0 t (by rw [hr]; exact he)
      rw [hr] at this
      exact this
    subst hz
    simp only [rsc_out, if_neg he]
    simp -implicitDefEqProofs (disch := decide +kernel) only [go_sem, ↓reduceIte, Nat.reduceSub, Nat.reduceAdd, Nat.reduceMul, Nat.reduceBEq, Nat.reduceLT, Nat.reduceLeDiff, Nat.reduceEqDiff, reduceCtorEq, Int.reduceToNat, Int.reduceLE, Int.reduceLT, Int.reduceBEq, Int.reduceBNe, mCall, rsc_R, rfH, cel3, zc3, cells_enc, zT_enc]
def rmt_S (w : Wo) (m : Tm) (D : Md) (i : Nat) : St := mk 93 [(0, .href 0 0), (1, dL w.ctx), (5, .lref 5 0), (6, .lref 6 0), (8, .lref 8 0), (9, dI i)] [(5, cel3 m), (6, zc3), (8, cel5 D)] (rfH w) []
def rmt_X (w : Wo) (m : Tm) (D : Md) : St := mk 93 [(0, .href 0 0), (1, dL w.ctx), (5, .lref 5 0), (6, .lref 6 0), (8, .lref 8 0), (9, dI m.args.length), (44, dB false)] [(5, cel3 m), (6, zc3), (8, cel5 D)] (rfH w) []
def rmt_R (w : Wo) (e : Int) : St := mk 93 [(6, .lref 6 0), (7, dI e)] [(6, zc3)] (rfH w) []
theorem rmt_step {w : Wo} {m u : Tm} {D : Md} {i : Nat} {h' : List HO} (hi : i < D.ctx.length) (him : i < m.args.length) (hl : D.ctx.length < room) (hlm : m.args.length < room) (hlc : w.ctx.length < room)
    (hap : (lim C).call 91 [dT (D.ctx.getD i default), dS ⟨m.args.take i, w.ctx.length⟩] [] = some (.ret (.tup [dT u, dI 0]), h'))
    (hrec : (lim C).call 72 [.href 0 0, dL w.ctx, dT (m.arg i), dT u] (rfH w) = some (.ret (dI 0), rfH w)) :
    (lim C).code 114 (cf (.loop (cf (cf (cs (cf (cs (cs (cs (cs (bodyOf Tryz.f114))))))))))) (rmt_S w m D i) = some (.nor, rmt_S w m D (i + 1)) := by
  have hr : room = 1099511627776 := rfl
  have hsb : Dv.agg [.slc ((encs m.args).take i), .int .i64 w.ctx.length] = encS ⟨m.args.take i, w.ctx.length⟩ := by rw [← encs_take]; rfl
  have h00 : ((0 : Int) != 0) = false := rfl
  have hle : i ≤ m.args.length := by omega
  simp only [rfH] at hrec
  simp -implicitDefEqProofs (disch := decide +kernel) only [cf, cs, bodyOf, Tryz.f114, Option.getD_some, go_sem, ↓reduceIte, Nat.reduceSub, Nat.reduceAdd, Nat.reduceMul, Nat.reduceBEq, Nat.reduceLT, Nat.reduceLeDiff, Nat.reduceEqDiff, reduceCtorEq, Int.reduceToNat, Int.reduceLE, Int.reduceLT, Int.reduceBEq, Int.reduceBNe, mCall, rmt_S, rfH, cel3, cel5, zc3, cells_enc, lt_true him, getD_get hi, arg_get him, Nat.zero_le, hle, encs_all, hsb, hap, hrec, h00, (enc_eq (m.arg i)).symm, (enc_eq u).symm, (enc_eq (D.ctx.getD i default)).symm, wrap_succ (n := i) (by omega)]
theorem rmt_bad1 {w : Wo} {m u : Tm} {D : Md} {i : Nat} {e : Int} {h' : List HO} (hi : i < D.ctx.length) (him : i < m.args.length) (hl : D.ctx.length < room) (hlm : m.args.length < room) (hlc : w.ctx.length < room) (he : (e != 0) = true)
    (hap : (lim C).call 91 [dT (D.ctx.getD i default), dS ⟨m.args.take i, w.ctx.length⟩] [] = some (.ret (.tup [dT u, dI e]), h')) :
    (lim C).code 114 (cf (.loop (cf (cf (cs (cf (cs (cs (cs (cs (bodyOf Tryz.f114))))))))))) (rmt_S w m D i) = some (.ret, rmt_R w e) := by
  have hr : room = 1099511627776 := rfl
  have hz := zT_enc
  have hsb : Dv.agg [.slc ((encs m.args).take i), .int .i64 w.ctx.length] = encS ⟨m.args.take i, w.ctx.length⟩ := by rw [← encs_take]; rfl
  have hle : i ≤ m.args.length := by omega
  simp -implicitDefEqProofs (disch := decide +kernel) only [cf, cs, bodyOf, Tryz.f114, Option.getD_some, go_sem, ↓reduceIte, Nat.reduceSub, Nat.reduceAdd, Nat.reduceMul, Nat.reduceBEq, Nat.reduceLT, Nat.reduceLeDiff, Nat.reduceEqDiff, reduceCtorEq, Int.reduceToNat, Int.reduceLE, Int.reduceLT, Int.reduceBEq, Int.reduceBNe, mCall, rmt_S, rmt_R, rfH, cel3, cel5, zc3, cells_enc, lt_true him, getD_get hi, arg_get him, Nat.zero_le, hle, encs_all, hsb, hap, he, hz, (enc_eq u).symm, (enc_eq (D.ctx.getD i default)).symm]
theorem rmt_bad2 {w : Wo} {m u : Tm} {D : Md} {i : Nat} {e : Int} {h' : List HO} (hi : i < D.ctx.length) (him : i < m.args.length) (hl : D.ctx.length < room) (hlm : m.args.length < room) (hlc : w.ctx.length < room) (he : (e != 0) = true)
    (hap : (lim C).call 91 [dT (D.ctx.getD i default), dS ⟨m.args.take i, w.ctx.length⟩] [] = some (.ret (.tup [dT u, dI 0]), h'))
    (hrec : (lim C).call 72 [.href 0 0, dL w.ctx, dT (m.arg i), dT u] (rfH w) = some (.ret (dI e), rfH w)) :
    (lim C).code 114 (cf (.loop (cf (cf (cs (cf (cs (cs (cs (cs (bodyOf Tryz.f114))))))))))) (rmt_S w m D i) = some (.ret, rmt_R w e) := by
  have hr : room = 1099511627776 := rfl
  have hz := zT_enc
  have hsb : Dv.agg [.slc ((encs m.args).take i), .int .i64 w.ctx.length] = encS ⟨m.args.take i, w.ctx.length⟩ := by rw [← encs_take]; rfl
  have h00 : ((0 : Int) != 0) = false := rfl
  have hle : i ≤ m.args.length := by omega
  simp only [rfH] at hrec
  simp -implicitDefEqProofs (disch := decide +kernel) only [cf, cs, bodyOf, Tryz.f114, Option.getD_some, go_sem, ↓reduceIte, Nat.reduceSub, Nat.reduceAdd, Nat.reduceMul, Nat.reduceBEq, Nat.reduceLT, Nat.reduceLeDiff, Nat.reduceEqDiff, reduceCtorEq, Int.reduceToNat, Int.reduceLE, Int.reduceLT, Int.reduceBEq, Int.reduceBNe, mCall, rmt_S, rmt_R, rfH, cel3, cel5, zc3, cells_enc, lt_true him, getD_get hi, arg_get him, Nat.zero_le, hle, encs_all, hsb, hap, hrec, h00, he, hz, (enc_eq (m.arg i)).symm, (enc_eq u).symm, (enc_eq (D.ctx.getD i default)).symm]
theorem rmeta_app {w : Wo} {m : Tm} {K : Int} (hn : RNodeOk w m K) {x : Tm} (hx : mayB x = true ∧ vleB K x = true) (i : Nat) :
    (∃ h, (lim C).call 91 [dT x, dS ⟨m.args.take i, w.ctx.length⟩] [] = some (.ret (.tup [dT (applyR x ⟨m.args.take i, w.ctx.length⟩).1, dI (applyR x ⟨m.args.take i, w.ctx.length⟩).2]), h)) ∧
    mayB (applyR x ⟨m.args.take i, w.ctx.length⟩).1 = true ∧ vleB (K + 2000000) (applyR x ⟨m.args.take i, w.ctx.length⟩).1 = true := by
  have hr : room = 1099511627776 := rfl
  have ht := hn.top
  have hml : m.args.length < room := by have := len_size m; have := may_room hn.may; omega
  have hp := fun y (hy : y ∈ m.args.take i) => mem_args_may (mem_take' hy) hn.may hn.vle
  refine ⟨rapply_spec x _ (may_room hx.1) (fun y hy => may_room (hp y hy).1) (by simp; omega) (vle_mono (by omega) hx.2) (fun y hy => vle_mono (by omega) (hp y hy).2), applyR_may _ _, applyR_vle hn.h0 hx.2 fun y hy => (hp y hy).2⟩
def rmt_out (w : Wo) (m : Tm) (D : Md) (e : Int) : Ex × St := if e = 0 then (.exit 0, rmt_X w m D) else (.ret, rmt_R w e)
theorem rmt_err (w : Wo) (m : Tm) (D : Md) {e : Int} (h : e ≠ 0) : rmt_out w m D e = (.ret, rmt_R w e) := if_neg h
theorem rmt_loop {w : Wo} {m : Tm} {K : Int} (hn : RNodeOk w m K) {D : Md} (hD : D ∈ w.metas) (hDl : D.ctx.length = m.args.length) : ∀ (k i : Nat), i + k = m.args.length →
    (lim C).code 114 (.loop (cf (cf (cs (cf (cs (cs (cs (cs (bodyOf Tryz.f114)))))))))) (rmt_S w m D i) =
      some (rmt_out w m D (mtW (argF w m) D.ctx m.args w.ctx.length k i))
  | 0, i, hi => by
    obtain rfl : i = m.args.length := by omega
    simp only [mtW, rmt_out, if_true]
    refine loop_out' ?_ (by simp)
    simp -implicitDefEqProofs (disch := decide +kernel) only [cf, cs, bodyOf, Tryz.f114, Option.getD_some, go_sem, ↓reduceIte, Nat.reduceSub, Nat.reduceAdd, Nat.reduceMul, Nat.reduceBEq, Nat.reduceLT, Nat.reduceLeDiff, Nat.reduceEqDiff, reduceCtorEq, Int.reduceToNat, Int.reduceLE, Int.reduceLT, Int.reduceBEq, Int.reduceBNe, mCall, rmt_S, rmt_X, cel3, lt_false (Nat.le_refl m.args.length)]
  | k + 1, i, hi => by
    have hr : room = 1099511627776 := rfl
    have hlt : i < m.args.length := by omega
    have hltD : i < D.ctx.length := by omega
    have hml : m.args.length < room := by have := len_size m; have := may_room hn.may; omega
    have hcl := hn.wok.cl
    obtain ⟨_, dl, dc⟩ := hn.wok.metas D hD
    obtain ⟨⟨h', hap⟩, ha1, ha2⟩ := rmeta_app hn (dc _ (getD_mem hltD)) i
    simp only [mtW]
    generalize applyR (D.ctx.getD i default) ⟨m.args.take i, w.ctx.length⟩ = r at hap ha1 ha2 ⊢
    obtain ⟨u, e⟩ := r
    by_cases he : e = 0
    · subst he
      simp only [ne_eq, not_true_eq_false, if_false]
      have hrec := hn.tells i hlt u ha1 (vle_mono (by omega) ha2)
      by_cases he2 : argF w m i u = 0
      · have he' : argW w.wd m i u w.ctx = 0 := he2
        rw [he'] at hrec
        simp only [he2, not_true_eq_false, if_false]
        exact (loop_nor' (rmt_step hltD hlt dl hml (by omega) hap hrec)).trans (rmt_loop hn hD hDl k (i + 1) (by omega))
      · have he' : ¬ argW w.wd m i u w.ctx = 0 := he2
        simp only [he2, not_false_eq_true, if_true]
        rw [rmt_err w m D he2]
        exact loop_out' (rmt_bad2 hltD hlt dl hml (by omega) (by simpa using he') hap hrec) (by simp)
    · simp only [ne_eq, he, not_false_eq_true, if_true]
      rw [rmt_err w m D he]
      exact loop_out' (rmt_bad1 hltD hlt dl hml (by omega) (by simpa using he) hap) (by simp)
theorem rmeta_spec {w : Wo} {m : Tm} {K : Int} (hn : RNodeOk w m K) : (lim C).call 114 [.href 0 0, dL w.ctx, dT m] (rfH w) = some (.ret (.tup [dT (metaW w.wd w.ctx.length (argF w m) m).1, dI (metaW w.wd w.ctx.length (argF w m) m).2]), rfH w) := by
  have hr : room = 1099511627776 := rfl
  have hz := zT_enc
  have hh := node_head (node_here (may_parts hn.may).1)
  have hcl := hn.wok.cl
  have hml : m.args.length < room := by have := len_size m; have := may_room hn.may; omega
  unfold metaW
  have hwm : w.wd.metas = w.metas := rfl
  rw [hwm]
  simp only [rfH]
  rw [ev_fn 114 Tryz.f114 _ _ _ rfl Tryz.func114 rfl Tryz.ntmps114 rfl]
  cases h1 : decide (m.head ≥ (w.metas.length : Int))
  · rw [if_neg (by simpa using h1)]
    have hlt : m.head.toNat < w.metas.length := by simp at h1; omega
    have hg := mget_get hlt
    have hD := mget_mem hlt
    generalize w.metas.getD m.head.toNat default = D at hg hD ⊢
    obtain ⟨dt, dl, dc⟩ := hn.wok.metas D hD
    cases h2 : ((m.args.length : Int) != D.ctx.length)
    · have hDl : D.ctx.length = m.args.length := by simp at h2; omega
      rw [if_neg (by simpa using hDl)]
      have hloop := rmt_loop hn hD hDl m.args.length 0 (by omega)
      obtain ⟨⟨h', hap⟩, ha1, ha2⟩ := rmeta_app hn dt m.args.length
      rw [List.take_length] at hap
      by_cases h3 : mtW (argF w m) D.ctx m.args w.ctx.length m.args.length 0 = 0
      · rw [if_neg (by simpa using h3)]
        rw [rmt_out, if_pos h3] at hloop
        have hsb : Dv.agg [.slc (encs m.args), .int .i64 w.ctx.length] = encS ⟨m.args, w.ctx.length⟩ := rfl
        generalize applyR D.t ⟨m.args, w.ctx.length⟩ = r at hap ⊢
        simp -implicitDefEqProofs (disch := decide +kernel) only [go_sem, ↓reduceIte, Nat.reduceSub, Nat.reduceAdd, Nat.reduceMul, Nat.reduceBEq, Nat.reduceLT, Nat.reduceLeDiff, Nat.reduceEqDiff, reduceCtorEq, Int.reduceToNat, Int.reduceLE, Int.reduceLT, Int.reduceBEq, Int.reduceBNe, mCall, cells_enc, cel3, h1, hg, hh, h2, cells_encM, cel5]
        rw [loop_at hloop ?hb ?hs]
        case hb => rfl
        case hs => rfl
        simp -implicitDefEqProofs (disch := decide +kernel) only [go_sem, ↓reduceIte, Nat.reduceSub, Nat.reduceAdd, Nat.reduceMul, Nat.reduceBEq, Nat.reduceLT, Nat.reduceLeDiff, Nat.reduceEqDiff, reduceCtorEq, Int.reduceToNat, Int.reduceLE, Int.reduceLT, Int.reduceBEq, Int.reduceBNe, mCall, rmt_X, rfH, cel3, cel5, zc3, cells_enc, hsb, hap, (enc_eq D.t).symm, (enc_eq r.1).symm]
      · rw [if_pos (by simpa using h3)]
        rw [rmt_out, if_neg h3] at hloop
        simp -implicitDefEqProofs (disch := decide +kernel) only [go_sem, ↓reduceIte, Nat.reduceSub, Nat.reduceAdd, Nat.reduceMul, Nat.reduceBEq, Nat.reduceLT, Nat.reduceLeDiff, Nat.reduceEqDiff, reduceCtorEq, Int.reduceToNat, Int.reduceLE, Int.reduceLT, Int.reduceBEq, Int.reduceBNe, mCall, cells_enc, cel3, h1, hg, hh, h2, cells_encM, cel5]
        rw [loop_at hloop ?hb ?hs]
        case hb => rfl
        case hs => rfl
        simp -implicitDefEqProofs (disch := decide +kernel) only [go_sem, ↓reduceIte, Nat.reduceSub, Nat.reduceAdd, Nat.reduceMul, Nat.reduceBEq, Nat.reduceLT, Nat.reduceLeDiff, Nat.reduceEqDiff, reduceCtorEq, Int.reduceToNat, Int.reduceLE, Int.reduceLT, Int.reduceBEq, Int.reduceBNe, mCall, rmt_R, rfH, cel3, zc3, cells_enc, zT_enc]
    · have hDl : ¬ D.ctx.length = m.args.length := by simp at h2; omega
      rw [if_pos (by simpa using hDl)]
      simp -implicitDefEqProofs (disch := decide +kernel) only [go_sem, ↓reduceIte, Nat.reduceSub, Nat.reduceAdd, Nat.reduceMul, Nat.reduceBEq, Nat.reduceLT, Nat.reduceLeDiff, Nat.reduceEqDiff, reduceCtorEq, Int.reduceToNat, Int.reduceLE, Int.reduceLT, Int.reduceBEq, Int.reduceBNe, mCall, cells_enc, cel3, h1, hg, hh, h2, hz, cells_encM, cel5]
  · rw [if_pos (by simpa using h1)]
    simp -implicitDefEqProofs (disch := decide +kernel) only [go_sem, ↓reduceIte, Nat.reduceSub, Nat.reduceAdd, Nat.reduceMul, Nat.reduceBEq, Nat.reduceLT, Nat.reduceLeDiff, Nat.reduceEqDiff, reduceCtorEq, Int.reduceToNat, Int.reduceLE, Int.reduceLT, Int.reduceBEq, Int.reduceBNe, mCall, cells_enc, cel3, h1, hz]
end Go.Proofs.YtkmpfdecjmnccaaGreat
/- The reference of layer 10: terms, types, kinds, and all from outside. -/
set_option linter.unusedSimpArgs false
set_option linter.unusedVariables false
set_option maxRecDepth 100000
namespace Go.Proofs.YtkmpfdecjmnccaaGreat
open Go.Proofs
set_option maxHeartbeats 4000000 in
theorem rcomes_spec {w : Wo} {m : Tm} {K : Int} (hn : RNodeOk w m K) : (lim C).call 94 [.href 0 0, dL w.ctx, dT m] (rfH w) = some (.ret (.tup [dT (cmW w.wd w.ctx (argF w m) m).1, dI (cmW w.wd w.ctx (argF w m) m).2]), rfH w) := by
  have hr : room = 1099511627776 := rfl
  have hz := zT_enc
  have htv : topV = 1125899906842624 := rfl
  have hh := node_head (node_here (may_parts hn.may).1)
  have hcl := hn.wok.cl
  have h0 := hn.h0
  have htop := hn.top
  have hem := (enc_eq m).symm
  by_cases k4 : m.kind = 4
  · rw [cm_var k4]
    unfold varW
    rw [k4] at hem
    cases h1 : decide (m.head ≥ (w.ctx.length : Int))
    · rw [if_neg (by simpa using h1)]
      have hlt : m.head < w.ctx.length := by simp at h1; omega
      have hx := getD_mem' (l := w.ctx) (i := w.ctx.length - 1 - m.head.toNat) (by omega)
      have hg := getD_get (a := w.ctx) (i := w.ctx.length - 1 - m.head.toNat) (by omega)
      obtain ⟨x1, x2⟩ := hn.wok.ctx _ hx
      generalize w.ctx.getD (w.ctx.length - 1 - m.head.toNat) default = x at hx hg x1 x2 ⊢
      have hu1 := up_may x1 (b := m.head + 1) (by omega) 0
      have hu2 : vleB (K + 2000000) (upT x (m.head + 1) 0) = true := vle_mono (by omega) (vle_up x2 (b := m.head + 1) (by omega) 0)
      have hs := rspine_spec hn hu1 hu2
      rw [spD_go (by rfl)]
      have hw1 : IntKind.wrap .i64 ((w.ctx.length : Int) - 1) = (w.ctx.length : Int) - 1 := wrap_ok (by omega) (by omega)
      have hw2 : IntKind.wrap .i64 ((w.ctx.length : Int) - 1 - m.head) = (w.ctx.length : Int) - 1 - m.head := wrap_ok (by omega) (by omega)
      have hw3 : IntKind.wrap .i64 (m.head + 1) = m.head + 1 := wrap_ok (by omega) (by omega)
      have hi0 : 0 ≤ (w.ctx.length : Int) - 1 - m.head := by omega
      have hi1 : ((w.ctx.length : Int) - 1 - m.head).toNat = w.ctx.length - 1 - m.head.toNat := by omega
      have hren : renB x (m.head + 1) 0 = true := by
        simp only [renB, x1, Bool.true_and, Bool.and_eq_true, decide_eq_true_eq]
        omega
      have hup := rUp_spec x (may_room x1) (vle_mono (by omega) x2) (m.head + 1) 0
      rw [hren, if_pos rfl] at hup
      generalize spW (argF w m) m.arg m.args.length 0 (upT x (m.head + 1) 0) = r at hs ⊢
      simp only [rfH] at hs ⊢
      rw [ev_fn 94 Tryz.f94 _ _ _ rfl Tryz.func94 rfl Tryz.ntmps94 rfl]
      simp -implicitDefEqProofs (disch := decide +kernel) only [go_sem, ↓reduceIte, Nat.reduceSub, Nat.reduceAdd, Nat.reduceMul, Nat.reduceBEq, Nat.reduceLT, Nat.reduceLeDiff, Nat.reduceEqDiff, reduceCtorEq, Int.reduceToNat, Int.reduceLE, Int.reduceLT, Int.reduceBEq, Int.reduceBNe, mCall, cells_enc, cel3, k4, h1, hw1, hw2, hw3, hi0, hi1, hg, hup, hs, (enc_eq x).symm, hem, (enc_eq r.1).symm]
    · rw [if_pos (by simpa using h1)]
      have hs : spD (argF w m) m (zT, 2) = (zT, 2) := rfl
      rw [hs]
      simp only [rfH]
      rw [ev_fn 94 Tryz.f94 _ _ _ rfl Tryz.func94 rfl Tryz.ntmps94 rfl]
      simp -implicitDefEqProofs (disch := decide +kernel) only [go_sem, ↓reduceIte, Nat.reduceSub, Nat.reduceAdd, Nat.reduceMul, Nat.reduceBEq, Nat.reduceLT, Nat.reduceLeDiff, Nat.reduceEqDiff, reduceCtorEq, Int.reduceToNat, Int.reduceLE, Int.reduceLT, Int.reduceBEq, Int.reduceBNe, mCall, cells_enc, cel3, k4, h1, hz]
  by_cases k5 : m.kind = 5
  · rw [cm_const k5]
    rw [k5] at hem
    unfold declW
    have hlen : w.wd.sig.length = w.sig.length := by simp [Wo.wd]
    rw [hlen]
    cases h1 : decide (m.head ≥ (w.sig.length : Int))
    · have hlt : m.head.toNat < w.sig.length := by simp at h1; omega
      have hsd := hn.wok.sig _ (dat_mem hlt)
      have hsk := rkind_spec (Dcs.at w.sig m.head.toNat).t (may_room hsd.1)
      have hka : kindAt w.wd.sig m.head.toNat = ((lastOf (Dcs.at w.sig m.head.toNat).t).kind == 0) := by
        unfold kindAt isKind Wo.wd
        rw [getD_sig hlt]
      have hgd : w.wd.sig.getD m.head.toNat default = (Dcs.at w.sig m.head.toNat).t := getD_sig hlt
      have hge := dat_get hlt
      rw [if_neg (by simpa using h1), hka, hgd]
      cases h2 : ((lastOf (Dcs.at w.sig m.head.toNat).t).kind == 0)
      · rw [if_neg (by simp)]
        have hs := rspine_spec hn hsd.1 (vle_mono (by omega) hsd.2)
        rw [spD_go (by rfl)]
        generalize spW (argF w m) m.arg m.args.length 0 (Dcs.at w.sig m.head.toNat).t = r at hs ⊢
        simp only [rfH] at hs ⊢
        rw [ev_fn 94 Tryz.f94 _ _ _ rfl Tryz.func94 rfl Tryz.ntmps94 rfl]
        simp -implicitDefEqProofs (disch := decide +kernel) only [go_sem, ↓reduceIte, Nat.reduceSub, Nat.reduceAdd, Nat.reduceMul, Nat.reduceBEq, Nat.reduceLT, Nat.reduceLeDiff, Nat.reduceEqDiff, reduceCtorEq, Int.reduceToNat, Int.reduceLE, Int.reduceLT, Int.reduceBEq, Int.reduceBNe, mCall, cells_enc, cel3, k5, h1, hge, hh, hsk, h2, hs, cells_encD, (enc_eq (Dcs.at w.sig m.head.toNat).t).symm, hem, (enc_eq r.1).symm]
      · rw [if_pos (by simp)]
        have hs : spD (argF w m) m (zT, 2) = (zT, 2) := rfl
        rw [hs]
        simp only [rfH]
        rw [ev_fn 94 Tryz.f94 _ _ _ rfl Tryz.func94 rfl Tryz.ntmps94 rfl]
        simp -implicitDefEqProofs (disch := decide +kernel) only [go_sem, ↓reduceIte, Nat.reduceSub, Nat.reduceAdd, Nat.reduceMul, Nat.reduceBEq, Nat.reduceLT, Nat.reduceLeDiff, Nat.reduceEqDiff, reduceCtorEq, Int.reduceToNat, Int.reduceLE, Int.reduceLT, Int.reduceBEq, Int.reduceBNe, mCall, cells_enc, cel3, k5, h1, hge, hh, hsk, h2, hz, cells_encD, (enc_eq (Dcs.at w.sig m.head.toNat).t).symm, hem]
    · rw [if_pos (by simpa using h1)]
      have hs : spD (argF w m) m (zT, 2) = (zT, 2) := rfl
      rw [hs]
      simp only [rfH]
      rw [ev_fn 94 Tryz.f94 _ _ _ rfl Tryz.func94 rfl Tryz.ntmps94 rfl]
      simp -implicitDefEqProofs (disch := decide +kernel) only [go_sem, ↓reduceIte, Nat.reduceSub, Nat.reduceAdd, Nat.reduceMul, Nat.reduceBEq, Nat.reduceLT, Nat.reduceLeDiff, Nat.reduceEqDiff, reduceCtorEq, Int.reduceToNat, Int.reduceLE, Int.reduceLT, Int.reduceBEq, Int.reduceBNe, mCall, cells_enc, cel3, k5, h1, hz]
  by_cases k6 : m.kind = 6
  · rw [cm_meta k6]
    rw [k6] at hem
    have hs := rmeta_spec hn
    generalize metaW w.wd w.ctx.length (argF w m) m = r at hs ⊢
    simp only [rfH] at hs ⊢
    rw [ev_fn 94 Tryz.f94 _ _ _ rfl Tryz.func94 rfl Tryz.ntmps94 rfl]
    simp -implicitDefEqProofs (disch := decide +kernel) only [go_sem, ↓reduceIte, Nat.reduceSub, Nat.reduceAdd, Nat.reduceMul, Nat.reduceBEq, Nat.reduceLT, Nat.reduceLeDiff, Nat.reduceEqDiff, reduceCtorEq, Int.reduceToNat, Int.reduceLE, Int.reduceLT, Int.reduceBEq, Int.reduceBNe, mCall, cells_enc, cel3, k6, hs, hem, (enc_eq r.1).symm]
  · have hc : cmW w.wd w.ctx (argF w m) m = (zT, 3) := by unfold cmW; rw [if_neg k4, if_neg k5, if_neg k6]
    rw [hc]
    have k4' : (m.kind == 4) = false := by simpa using k4
    have k5' : (m.kind == 5) = false := by simpa using k5
    have k6' : (m.kind == 6) = false := by simpa using k6
    simp only [rfH]
    rw [ev_fn 94 Tryz.f94 _ _ _ rfl Tryz.func94 rfl Tryz.ntmps94 rfl]
    simp -implicitDefEqProofs (disch := decide +kernel) only [go_sem, ↓reduceIte, Nat.reduceSub, Nat.reduceAdd, Nat.reduceMul, Nat.reduceBEq, Nat.reduceLT, Nat.reduceLeDiff, Nat.reduceEqDiff, reduceCtorEq, Int.reduceToNat, Int.reduceLE, Int.reduceLT, Int.reduceBEq, Int.reduceBNe, mCall, cells_enc, cel3, k4', k5', k6', hz]
set_option maxHeartbeats 4000000 in
theorem rterm_spec : ∀ m : Tm, mayB m = true → ∀ (w : Wo) (a : Tm) (K : Int), vleB K m = true → WOk K w m.size → K + 4000000 * (m.size : Int) ≤ topV → mayB a = true → vleB K a = true →
    (lim C).call 72 [.href 0 0, dL w.ctx, dT m, dT a] (rfH w) = some (.ret (dI (termW w.wd m a w.ctx)), rfH w) := by
  refine Tm.ind fun m ih hm w a K hv hw hK ha hva => ?_
  have hr : room = 1099511627776 := rfl
  have hn := (may_parts hm).1
  have hcl := hw.cl
  have hsp := size_pos m
  have hem := (enc_eq m).symm
  have hea := (enc_eq a).symm
  have h0 := hw.h0
  have hT : RNodeOk w m K := ⟨fun i hi x hx hvx => by
      have hal := arg_len hi
      have hc := ih _ (arg_mem hi) (may_argm (arg_mem hi) hm) w x (K + 2000000 * ((i : Int) + 1)) (vle_mono (by omega) (vle_args hv i hi)) (hw.mono (by omega) (by omega)) (by omega) hx hvx
      rw [argW_lt hi]; exact hc, hm, hv, hw, hK⟩
  rw [termW_eq]
  unfold termB
  by_cases k3 : m.kind = 3
  · rw [if_pos k3]
    by_cases a1 : a.kind = 1
    · rw [if_pos a1]
      have hl := lam_len hn k3
      have hl2 := pi_len (may_parts ha).1 a1
      have hsz := arg_len (m := m) (i := 0) (by omega)
      have m0 := may_argm (arg_mem (t := a) (i := 0) (by omega)) ha
      have m1 := may_argm (arg_mem (t := a) (i := 1) (by omega)) ha
      have hww : WOk K (w.with (a.arg 0)) (m.arg 0).size := (hw.mono (Int.le_refl K) (by omega)).with m0 (vle_args hva 0 (by omega))
      have hc := ih _ (arg_mem (t := m) (i := 0) (by omega)) (may_argm (arg_mem (by omega)) hm) (w.with (a.arg 0)) (a.arg 1) K (vle_args hv 0 (by omega)) hww (by omega) m1 (vle_args hva 1 (by omega))
      rw [argW_lt (by omega)]
      have hc : (lim C).call 72 [.href 0 0, dL (w.ctx ++ [a.arg 0]), dT (m.arg 0), dT (a.arg 1)] (rfH w) = some (CR.ret (dI (termW w.wd (m.arg 0) (a.arg 1) (w.ctx ++ [a.arg 0]))), rfH w) := hc
      have hwith := rmore_spec w.ctx (a.arg 0) (by omega)
      have e0 : m.args[0]? = some (m.arg 0) := arg_get (by omega)
      have f0 : a.args[0]? = some (a.arg 0) := arg_get (by omega)
      have f1 : a.args[1]? = some (a.arg 1) := arg_get (by omega)
      generalize termW w.wd (m.arg 0) (a.arg 1) (w.ctx ++ [a.arg 0]) = r at hc ⊢
      simp only [rfH] at hc ⊢
      rw [ev_fn 72 Tryz.f72 _ _ _ rfl Tryz.func72 rfl Tryz.ntmps72 rfl]
      simp -implicitDefEqProofs (disch := decide +kernel) only [go_sem, ↓reduceIte, Nat.reduceSub, Nat.reduceAdd, Nat.reduceMul, Nat.reduceBEq, Nat.reduceLT, Nat.reduceLeDiff, Nat.reduceEqDiff, reduceCtorEq, Int.reduceToNat, Int.reduceLE, Int.reduceLT, Int.reduceBEq, Int.reduceBNe, mCall, cells_enc, cel3, k3, a1, e0, f0, f1, hwith, hc, (enc_eq (m.arg 0)).symm, (enc_eq (a.arg 0)).symm, (enc_eq (a.arg 1)).symm]
    · rw [if_neg a1]
      have a1' : (a.kind != 1) = true := by simpa using a1
      simp only [rfH]
      rw [ev_fn 72 Tryz.f72 _ _ _ rfl Tryz.func72 rfl Tryz.ntmps72 rfl]
      simp -implicitDefEqProofs (disch := decide +kernel) only [go_sem, ↓reduceIte, Nat.reduceSub, Nat.reduceAdd, Nat.reduceMul, Nat.reduceBEq, Nat.reduceLT, Nat.reduceLeDiff, Nat.reduceEqDiff, reduceCtorEq, Int.reduceToNat, Int.reduceLE, Int.reduceLT, Int.reduceBEq, Int.reduceBNe, mCall, cells_enc, cel3, k3, a1', hem, hea]
  · rw [if_neg k3]
    have k3' : (m.kind == 3) = false := by simpa using k3
    by_cases a2 : a.kind = 2
    · rw [if_neg (by simpa using a2)]
      have hc := rcomes_spec hT
      have hr2 : mayB (cmW w.wd w.ctx (argF w m) m).1 = true := cm_may hw (node_head (node_here hn))
      have a2' : (a.kind != 2) = false := by simpa using a2
      have hfs : cmW w.wd w.ctx (fun i x => argW w.wd m i x w.ctx) m = cmW w.wd w.ctx (argF w m) m := rfl
      rw [hfs]
      generalize cmW w.wd w.ctx (argF w m) m = r at hc hr2 ⊢
      have hsm := rsame_spec r.1 (may_room hr2) a
      have her := (enc_eq r.1).symm
      obtain ⟨t, e⟩ := r
      simp only [rfH] at hc ⊢
      simp only at hsm her
      by_cases he : e = 0
      · subst he
        have h00 : ((0 : Int) != 0) = false := rfl
        rw [if_neg (by simp)]
        cases hs : sameB t a
        · rw [hs] at hsm
          rw [ev_fn 72 Tryz.f72 _ _ _ rfl Tryz.func72 rfl Tryz.ntmps72 rfl]
          simp -implicitDefEqProofs (disch := decide +kernel) only [go_sem, ↓reduceIte, Nat.reduceSub, Nat.reduceAdd, Nat.reduceMul, Nat.reduceBEq, Nat.reduceLT, Nat.reduceLeDiff, Nat.reduceEqDiff, reduceCtorEq, Int.reduceToNat, Int.reduceLE, Int.reduceLT, Int.reduceBEq, Int.reduceBNe, mCall, cells_enc, cel3, k3', a2', hem, hea, hc, her, h00, hsm]
        · rw [hs] at hsm
          rw [ev_fn 72 Tryz.f72 _ _ _ rfl Tryz.func72 rfl Tryz.ntmps72 rfl]
          simp -implicitDefEqProofs (disch := decide +kernel) only [go_sem, ↓reduceIte, Nat.reduceSub, Nat.reduceAdd, Nat.reduceMul, Nat.reduceBEq, Nat.reduceLT, Nat.reduceLeDiff, Nat.reduceEqDiff, reduceCtorEq, Int.reduceToNat, Int.reduceLE, Int.reduceLT, Int.reduceBEq, Int.reduceBNe, mCall, cells_enc, cel3, k3', a2', hem, hea, hc, her, h00, hsm]
      · have he' : (e != 0) = true := by simpa using he
        rw [if_pos (by simpa using he)]
        rw [ev_fn 72 Tryz.f72 _ _ _ rfl Tryz.func72 rfl Tryz.ntmps72 rfl]
        simp -implicitDefEqProofs (disch := decide +kernel) only [go_sem, ↓reduceIte, Nat.reduceSub, Nat.reduceAdd, Nat.reduceMul, Nat.reduceBEq, Nat.reduceLT, Nat.reduceLeDiff, Nat.reduceEqDiff, reduceCtorEq, Int.reduceToNat, Int.reduceLE, Int.reduceLT, Int.reduceBEq, Int.reduceBNe, mCall, cells_enc, cel3, k3', a2', hem, hea, hc, her, he']
    · rw [if_pos (by simpa using a2)]
      have a2' : (a.kind != 2) = true := by simpa using a2
      simp only [rfH]
      rw [ev_fn 72 Tryz.f72 _ _ _ rfl Tryz.func72 rfl Tryz.ntmps72 rfl]
      simp -implicitDefEqProofs (disch := decide +kernel) only [go_sem, ↓reduceIte, Nat.reduceSub, Nat.reduceAdd, Nat.reduceMul, Nat.reduceBEq, Nat.reduceLT, Nat.reduceLeDiff, Nat.reduceEqDiff, reduceCtorEq, Int.reduceToNat, Int.reduceLE, Int.reduceLT, Int.reduceBEq, Int.reduceBNe, mCall, cells_enc, cel3, k3', a2', hem, hea]
theorem rnode_ok {w : Wo} {m : Tm} {K : Int} (hm : mayB m = true) (hv : vleB K m = true) (hw : WOk K w m.size) (hK : K + 4000000 * (m.size : Int) ≤ topV) : RNodeOk w m K := ⟨fun i hi x hx hvx => by
    have hal := arg_len hi
    have h0 := hw.h0
    have hc := rterm_spec _ (may_argm (arg_mem hi) hm) w x (K + 2000000 * ((i : Int) + 1)) (vle_mono (by omega) (vle_args hv i hi)) (hw.mono (by omega) (by omega)) (by omega) hx hvx
    rw [argW_lt hi]; exact hc, hm, hv, hw, hK⟩
set_option maxHeartbeats 4000000 in
theorem rtyp_spec : ∀ a : Tm, mayB a = true → ∀ (w : Wo) (K : Int), vleB K a = true → WOk K w a.size → K + 4000000 * (a.size : Int) ≤ topV →
    (lim C).call 73 [.href 0 0, dL w.ctx, dT a] (rfH w) = some (.ret (dI (typW w.wd a w.ctx)), rfH w) := by
  refine Tm.ind fun a ih ha w K hv hw hK => ?_
  have hr : room = 1099511627776 := rfl
  have hn := (may_parts ha).1
  have hcl := hw.cl
  have hsp := size_pos a
  have hea := (enc_eq a).symm
  have h0 := hw.h0
  by_cases k1 : a.kind = 1
  · have hl := pi_len hn k1
    rw [typW_pi _ k1 (by omega)]
    have hz0 := arg_len (m := a) (i := 0) (by omega)
    have hz1 := arg_len (m := a) (i := 1) (by omega)
    have m0 := may_argm (arg_mem (t := a) (i := 0) (by omega)) ha
    have m1 := may_argm (arg_mem (t := a) (i := 1) (by omega)) ha
    have hc := ih _ (arg_mem (t := a) (i := 0) (by omega)) m0 w K (vle_args hv 0 (by omega)) (hw.mono (Int.le_refl K) (by omega)) (by omega)
    have hww : WOk K (w.with (a.arg 0)) (a.arg 1).size := (hw.mono (Int.le_refl K) (by omega)).with m0 (vle_args hv 0 (by omega))
    have hc' := ih _ (arg_mem (t := a) (i := 1) (by omega)) m1 (w.with (a.arg 0)) K (vle_args hv 1 (by omega)) hww (by omega)
    have hc' : (lim C).call 73 [.href 0 0, dL (w.ctx ++ [a.arg 0]), dT (a.arg 1)] (rfH w) = some (CR.ret (dI (typW w.wd (a.arg 1) (w.ctx ++ [a.arg 0]))), rfH w) := hc'
    have hwith := rmore_spec w.ctx (a.arg 0) (by omega)
    have f0 : a.args[0]? = some (a.arg 0) := arg_get (by omega)
    have f1 : a.args[1]? = some (a.arg 1) := arg_get (by omega)
    simp only [rfH] at hc hc' ⊢
    by_cases he : typW w.wd (a.arg 0) w.ctx = 0
    · rw [if_neg (by simpa using he)]
      rw [he] at hc
      have h00 : ((0 : Int) != 0) = false := rfl
      rw [ev_fn 73 Tryz.f73 _ _ _ rfl Tryz.func73 rfl Tryz.ntmps73 rfl]
      simp -implicitDefEqProofs (disch := decide +kernel) only [go_sem, ↓reduceIte, Nat.reduceSub, Nat.reduceAdd, Nat.reduceMul, Nat.reduceBEq, Nat.reduceLT, Nat.reduceLeDiff, Nat.reduceEqDiff, reduceCtorEq, Int.reduceToNat, Int.reduceLE, Int.reduceLT, Int.reduceBEq, Int.reduceBNe, mCall, cells_enc, cel3, k1, f0, f1, hc, h00, hwith, hc', (enc_eq (a.arg 0)).symm, (enc_eq (a.arg 1)).symm]
    · rw [if_pos (by simpa using he)]
      have he' : (typW w.wd (a.arg 0) w.ctx != 0) = true := by simpa using he
      rw [ev_fn 73 Tryz.f73 _ _ _ rfl Tryz.func73 rfl Tryz.ntmps73 rfl]
      simp -implicitDefEqProofs (disch := decide +kernel) only [go_sem, ↓reduceIte, Nat.reduceSub, Nat.reduceAdd, Nat.reduceMul, Nat.reduceBEq, Nat.reduceLT, Nat.reduceLeDiff, Nat.reduceEqDiff, reduceCtorEq, Int.reduceToNat, Int.reduceLE, Int.reduceLT, Int.reduceBEq, Int.reduceBNe, mCall, cells_enc, cel3, k1, f0, f1, hc, he', (enc_eq (a.arg 0)).symm]
  · have k1' : (a.kind == 1) = false := by simpa using k1
    by_cases k2 : a.kind = 2
    · rw [typW_fam _ k2]
      have hh := node_head (node_here hn)
      have hT := rnode_ok ha hv hw hK
      have hlen : w.wd.sig.length = w.sig.length := by simp [Wo.wd]
      unfold famW
      cases h1 : decide (a.head ≥ (w.sig.length : Int))
      · have hlt : a.head.toNat < w.sig.length := by simp at h1; omega
        have hsd := hw.sig _ (dat_mem hlt)
        have hsk := rkind_spec (Dcs.at w.sig a.head.toNat).t (may_room hsd.1)
        have hka : kindAt w.wd.sig a.head.toNat = ((lastOf (Dcs.at w.sig a.head.toNat).t).kind == 0) := by
          unfold kindAt isKind Wo.wd
          rw [getD_sig hlt]
        have hgd : w.wd.sig.getD a.head.toNat default = (Dcs.at w.sig a.head.toNat).t := getD_sig hlt
        have hge := dat_get hlt
        cases h2 : ((lastOf (Dcs.at w.sig a.head.toNat).t).kind == 0)
        · have hq : declW w.wd a.head true = (zT, 2) := by
            unfold declW
            rw [hlen, if_neg (by simpa using h1), hka, h2]
            rfl
          have hs : spD (fun i x => argW w.wd a i x w.ctx) a (zT, 2) = (zT, 2) := rfl
          rw [hq, hs, if_pos (by simp)]
          simp only [rfH]
          rw [ev_fn 73 Tryz.f73 _ _ _ rfl Tryz.func73 rfl Tryz.ntmps73 rfl]
          simp -implicitDefEqProofs (disch := decide +kernel) only [go_sem, ↓reduceIte, Nat.reduceSub, Nat.reduceAdd, Nat.reduceMul, Nat.reduceBEq, Nat.reduceLT, Nat.reduceLeDiff, Nat.reduceEqDiff, reduceCtorEq, Int.reduceToNat, Int.reduceLE, Int.reduceLT, Int.reduceBEq, Int.reduceBNe, mCall, cells_enc, cel3, k2, h1, hge, hh, hsk, h2, cells_encD, (enc_eq (Dcs.at w.sig a.head.toNat).t).symm]
        · have hq : declW w.wd a.head true = ((Dcs.at w.sig a.head.toNat).t, 0) := by
            unfold declW
            rw [hlen, if_neg (by simpa using h1), hka, h2, hgd]
            rfl
          rw [hq]
          have hs := rspine_spec hT hsd.1 (vle_mono (by omega) hsd.2)
          have hs : _ = some (CR.ret (.tup [dT (spW (fun i x => argW w.wd a i x w.ctx) a.arg a.args.length 0 (Dcs.at w.sig a.head.toNat).t).1, dI (spW (fun i x => argW w.wd a i x w.ctx) a.arg a.args.length 0 (Dcs.at w.sig a.head.toNat).t).2]), rfH w) := hs
          rw [spD_go (by rfl)]
          generalize spW (fun i x => argW w.wd a i x w.ctx) a.arg a.args.length 0 (Dcs.at w.sig a.head.toNat).t = r at hs ⊢
          simp only [rfH] at hs ⊢
          by_cases he2 : r.2 = 0
          · have he2' : (r.2 != 0) = false := by simpa using he2
            rw [if_neg (by simpa using he2)]
            by_cases hk : r.1.kind = 0
            · have hk' : (r.1.kind != 0) = false := by simpa using hk
              rw [if_neg (by simpa using hk)]
              rw [ev_fn 73 Tryz.f73 _ _ _ rfl Tryz.func73 rfl Tryz.ntmps73 rfl]
              simp -implicitDefEqProofs (disch := decide +kernel) only [go_sem, ↓reduceIte, Nat.reduceSub, Nat.reduceAdd, Nat.reduceMul, Nat.reduceBEq, Nat.reduceLT, Nat.reduceLeDiff, Nat.reduceEqDiff, reduceCtorEq, Int.reduceToNat, Int.reduceLE, Int.reduceLT, Int.reduceBEq, Int.reduceBNe, mCall, cells_enc, cel3, k2, h1, hge, hh, hsk, h2, hs, he2', hk', cells_encD, (enc_eq (Dcs.at w.sig a.head.toNat).t).symm]
            · have hk' : (r.1.kind != 0) = true := by simpa using hk
              rw [if_pos (by simpa using hk)]
              rw [ev_fn 73 Tryz.f73 _ _ _ rfl Tryz.func73 rfl Tryz.ntmps73 rfl]
              simp -implicitDefEqProofs (disch := decide +kernel) only [go_sem, ↓reduceIte, Nat.reduceSub, Nat.reduceAdd, Nat.reduceMul, Nat.reduceBEq, Nat.reduceLT, Nat.reduceLeDiff, Nat.reduceEqDiff, reduceCtorEq, Int.reduceToNat, Int.reduceLE, Int.reduceLT, Int.reduceBEq, Int.reduceBNe, mCall, cells_enc, cel3, k2, h1, hge, hh, hsk, h2, hs, he2', hk', cells_encD, (enc_eq (Dcs.at w.sig a.head.toNat).t).symm]
          · have he2' : (r.2 != 0) = true := by simpa using he2
            rw [if_pos (by simpa using he2)]
            rw [ev_fn 73 Tryz.f73 _ _ _ rfl Tryz.func73 rfl Tryz.ntmps73 rfl]
            simp -implicitDefEqProofs (disch := decide +kernel) only [go_sem, ↓reduceIte, Nat.reduceSub, Nat.reduceAdd, Nat.reduceMul, Nat.reduceBEq, Nat.reduceLT, Nat.reduceLeDiff, Nat.reduceEqDiff, reduceCtorEq, Int.reduceToNat, Int.reduceLE, Int.reduceLT, Int.reduceBEq, Int.reduceBNe, mCall, cells_enc, cel3, k2, h1, hge, hh, hsk, h2, hs, he2', cells_encD, (enc_eq (Dcs.at w.sig a.head.toNat).t).symm]
      · have hq : declW w.wd a.head true = (zT, 2) := by
          unfold declW
          rw [hlen]
          exact if_pos (by simpa using h1)
        have hs : spD (fun i x => argW w.wd a i x w.ctx) a (zT, 2) = (zT, 2) := rfl
        rw [hq, hs, if_pos (by simp)]
        simp only [rfH]
        rw [ev_fn 73 Tryz.f73 _ _ _ rfl Tryz.func73 rfl Tryz.ntmps73 rfl]
        simp -implicitDefEqProofs (disch := decide +kernel) only [go_sem, ↓reduceIte, Nat.reduceSub, Nat.reduceAdd, Nat.reduceMul, Nat.reduceBEq, Nat.reduceLT, Nat.reduceLeDiff, Nat.reduceEqDiff, reduceCtorEq, Int.reduceToNat, Int.reduceLE, Int.reduceLT, Int.reduceBEq, Int.reduceBNe, mCall, cells_enc, cel3, k2, h1]
    · rw [typW_no _ k1 k2]
      have k2' : (a.kind != 2) = true := by simpa using k2
      simp only [rfH]
      rw [ev_fn 73 Tryz.f73 _ _ _ rfl Tryz.func73 rfl Tryz.ntmps73 rfl]
      simp -implicitDefEqProofs (disch := decide +kernel) only [go_sem, ↓reduceIte, Nat.reduceSub, Nat.reduceAdd, Nat.reduceMul, Nat.reduceBEq, Nat.reduceLT, Nat.reduceLeDiff, Nat.reduceEqDiff, reduceCtorEq, Int.reduceToNat, Int.reduceLE, Int.reduceLT, Int.reduceBEq, Int.reduceBNe, mCall, cells_enc, cel3, k1', k2']
theorem rTerm_spec {K : Int} {w : Wo} (h : WIn K w) (m a : Tm) (hm : m.size < room) (hvm : vleB K m = true) (ha : a.size < room) (hva : vleB K a = true) :
    ∃ h, (lim C).call 47 [dDs w.sig, dMs w.metas, dL w.ctx, dT m, dT a] [] = some (.ret (dI (TermR w.wd w.ctx m a)), h) := by
  have hr : room = 1099511627776 := rfl
  have ht := h.top
  have hc := rMay_spec w [m, a] h.sz (by simp; omega) (by simp; exact ⟨hm, ha⟩)
  have hl2' : [enc m, enc a] = encs [m, a] := rfl
  unfold TermR
  cases hmw : mayW w.wd w.ctx [m, a]
  · rw [hmw] at hc
    refine ⟨[], ?_⟩
    rw [ev_fn 47 Tryz.f47 _ _ _ rfl Tryz.func47 rfl Tryz.ntmps47 rfl]
    simp -implicitDefEqProofs (disch := decide +kernel) only [go_sem, ↓reduceIte, Nat.reduceSub, Nat.reduceAdd, Nat.reduceMul, Nat.reduceBEq, Nat.reduceLT, Nat.reduceLeDiff, Nat.reduceEqDiff, reduceCtorEq, Int.reduceToNat, Int.reduceLE, Int.reduceLT, Int.reduceBEq, Int.reduceBNe, mCall, hc, hl2', cells_enc, cel3, (enc_eq m).symm, (enc_eq a).symm]
  · rw [hmw] at hc
    obtain ⟨o1, o2⟩ := h.ok hmw
    have hms := (may_parts (o2 m (by simp))).2.1
    have hcc := rterm_spec m (o2 m (by simp)) w a K hvm (o1.mono (Int.le_refl K) (by omega)) (by omega) (o2 a (by simp)) hva
    rw [if_pos rfl]
    refine ⟨rfH w, ?_⟩
    simp only [rfH] at hcc ⊢
    rw [ev_fn 47 Tryz.f47 _ _ _ rfl Tryz.func47 rfl Tryz.ntmps47 rfl]
    simp -implicitDefEqProofs (disch := decide +kernel) only [go_sem, ↓reduceIte, Nat.reduceSub, Nat.reduceAdd, Nat.reduceMul, Nat.reduceBEq, Nat.reduceLT, Nat.reduceLeDiff, Nat.reduceEqDiff, reduceCtorEq, Int.reduceToNat, Int.reduceLE, Int.reduceLT, Int.reduceBEq, Int.reduceBNe, mCall, hc, hcc, hl2', cells_enc, cel3, (enc_eq m).symm, (enc_eq a).symm]
theorem rType_spec {K : Int} {w : Wo} (h : WIn K w) (a : Tm) (ha : a.size < room) (hva : vleB K a = true) :
    ∃ h, (lim C).call 50 [dDs w.sig, dMs w.metas, dL w.ctx, dT a] [] = some (.ret (dI (TypR w.wd w.ctx a)), h) := by
  have hr : room = 1099511627776 := rfl
  have ht := h.top
  have hc := rMay_spec w [a] h.sz (by simp; omega) (by simpa using ha)
  have hl2' : [enc a] = encs [a] := rfl
  unfold TypR
  cases hmw : mayW w.wd w.ctx [a]
  · rw [hmw] at hc
    refine ⟨[], ?_⟩
    rw [ev_fn 50 Tryz.f50 _ _ _ rfl Tryz.func50 rfl Tryz.ntmps50 rfl]
    simp -implicitDefEqProofs (disch := decide +kernel) only [go_sem, ↓reduceIte, Nat.reduceSub, Nat.reduceAdd, Nat.reduceMul, Nat.reduceBEq, Nat.reduceLT, Nat.reduceLeDiff, Nat.reduceEqDiff, reduceCtorEq, Int.reduceToNat, Int.reduceLE, Int.reduceLT, Int.reduceBEq, Int.reduceBNe, mCall, hc, hl2', cells_enc, cel3, (enc_eq a).symm]
  · rw [hmw] at hc
    obtain ⟨o1, o2⟩ := h.ok hmw
    have hms := (may_parts (o2 a (by simp))).2.1
    have hcc := rtyp_spec a (o2 a (by simp)) w K hva (o1.mono (Int.le_refl K) (by omega)) (by omega)
    rw [if_pos rfl]
    refine ⟨rfH w, ?_⟩
    simp only [rfH] at hcc ⊢
    rw [ev_fn 50 Tryz.f50 _ _ _ rfl Tryz.func50 rfl Tryz.ntmps50 rfl]
    simp -implicitDefEqProofs (disch := decide +kernel) only [go_sem, ↓reduceIte, Nat.reduceSub, Nat.reduceAdd, Nat.reduceMul, Nat.reduceBEq, Nat.reduceLT, Nat.reduceLeDiff, Nat.reduceEqDiff, reduceCtorEq, Int.reduceToNat, Int.reduceLE, Int.reduceLT, Int.reduceBEq, Int.reduceBNe, mCall, hc, hcc, hl2', cells_enc, cel3, (enc_eq a).symm]
end Go.Proofs.YtkmpfdecjmnccaaGreat
/- The reference of layer 11: Sig, Ctx, Schema, Conforms. -/
set_option linter.unusedSimpArgs false
set_option linter.unusedVariables false
set_option maxRecDepth 100000
namespace Go.Proofs.YtkmpfdecjmnccaaGreat
open Go.Proofs
theorem fc_split (W : Nat → Int) : ∀ n, (∀ j, j < n → W j = 0) ∨ ∃ j, j < n ∧ W j ≠ 0 ∧ ∀ l, l < j → W l = 0
  | 0 => .inl fun j h => by omega
  | n + 1 => by
    rcases fc_split W n with h | ⟨j, h1, h2, h3⟩
    · by_cases e : W n = 0
      · exact .inl fun j hj => by
          rcases Nat.lt_succ_iff_lt_or_eq.1 hj with hj | rfl
          · exact h j hj
          · exact e
      · exact .inr ⟨n, by omega, e, h⟩
    · exact .inr ⟨j, by omega, h2, h3⟩
theorem fst_hit {W : Nat → Int} {i : Nat} (hp : ∀ k, k < i → W k = 0) (hw : W i ≠ 0) : ∀ k j, j ≤ i → i < j + k → fstR W k j = ((i : Int), W i)
  | 0, j, h1, h2 => by omega
  | k + 1, j, h1, h2 => by
    unfold fstR
    rcases Nat.eq_or_lt_of_le h1 with rfl | h1
    · rw [if_pos hw]
    · rw [if_neg (by simpa using hp j h1)]
      exact fst_hit hp hw k (j + 1) h1 (by omega)
theorem fst_miss {W : Nat → Int} : ∀ k j, (∀ i, j ≤ i → i < j + k → W i = 0) → fstR W k j = (0, 0)
  | 0, j, h => rfl
  | k + 1, j, h => by
    unfold fstR
    rw [if_neg (by simpa using h j (Nat.le_refl j) (by omega))]
    exact fst_miss k (j + 1) fun i h1 h2 => h i (by omega) (by omega)
theorem loop_first {f : Nat} {b : Code} (S : Nat → St) (W : Nat → Int) (n : Nat) {E : Ex × St} {R : Int × Int → St} (h : ∀ i, i < n → (∀ j, j < i → W j = 0) → W i = 0 → (lim C).code f b (S i) = some (.nor, S (i + 1)))
    (hr : ∀ i, i < n → (∀ j, j < i → W j = 0) → W i ≠ 0 → (lim C).code f b (S i) = some (.ret, R ((i : Int), W i))) (he : (lim C).code f b (S n) = some E) (hE : E.1 ≠ .nor) :
    (lim C).code f (.loop b) (S 0) = some (if (fstR W n 0).2 = 0 then E else (.ret, R (fstR W n 0))) := by
  rcases fc_split W n with ha | ⟨i, hi, hne, hp⟩
  · rw [fst_miss n 0 fun i _ h => ha i (by omega), if_pos rfl]
    exact loop_run S n (fun i hi => h i hi (fun j hj => ha j (by omega)) (ha i hi)) he hE
  · rw [fst_hit hp hne n 0 (Nat.zero_le i) (by omega), if_neg hne]
    exact loop_run S i (fun k hk => h k (by omega) (fun j hj => hp j (by omega)) (hp k hk)) (hr i hi hp hne) (by simp)
theorem app_own (xs ys : List Dv) (locs : List (Option (List AV))) (heap : List HO) (hr : xs.length + ys.length ≤ room) (hx : (xs.all fun x => x.width == 3) = true) (hw : (ys.all fun x => x.width == 3) = true) :
    mApp (.own 0 xs) ys 3 { locs := locs, heap := heap, toks := [some xs.length] } = some (.v (.own 0 (xs ++ ys)), { locs := locs, heap := heap, toks := [some (xs ++ ys).length] }) := by
  simp only [mApp, appOwn]
  simp only [hr, hx, hw]
  simp
def rc_S (sg : List Dc) (ms : List Md) (ar cx : List Tm) (i : Nat) : St := mk 41 [(0, dDs sg), (1, dMs ms), (3, dL cx), (9, .own 0 (encs (ar ++ cx.take i))), (10, dI i)] [] [] [some (encs (ar ++ cx.take i)).length]
theorem r11Ctx_spec {K : Int} {sg : List Dc} {ms : List Md} {ar cx : List Tm} (hin : WIn K ⟨sg, ms, ar⟩) (hcz : ∀ x ∈ cx, x.size < room ∧ vleB K x = true) (hcl : ar.length + cx.length < room) : (lim C).call 49 [dDs sg, dMs ms, dL ar, dL cx] [] = some (.ret (dI (CtxWR (Wo.wd ⟨sg, ms, ar⟩) ar cx)), []) := by
  have hr : room = 1099511627776 := rfl
  have hc1 : ∀ i, i < cx.length → ∃ h, (lim C).call 50 [dDs sg, dMs ms, .d (.slc (encs (ar ++ cx.take i))), dT (cx.getD i default)] [] = some (.ret (dI (ctxW (Wo.wd ⟨sg, ms, ar⟩) ar cx i)), h) := fun i hi => by
    have hin2 : WIn K ⟨sg, ms, ar ++ cx.take i⟩ := hin.cons (fun x hx => by
      rcases List.mem_append.1 hx with hx | hx
      · exact ⟨hin.sz.cz x hx, hin.ctx x hx⟩
      · exact hcz x (List.mem_of_mem_take hx)) (by simp; omega)
    obtain ⟨z1, z2⟩ := hcz _ (getD_mem (a := cx) hi)
    exact rType_spec hin2 (cx.getD i default) z1 z2
  have hs : ∀ i, i < cx.length → encs (ar ++ cx.take i) ++ [enc (cx.getD i default)] = encs (ar ++ cx.take (i + 1)) := fun i hi => by
    rw [List.take_add_one, getD_get hi, ← List.append_assoc, encs_append (ar ++ cx.take i)]; rfl
  have h01 : ((0 : Int) != 0) = false := rfl
  have hloop : (lim C).code 49 (.loop (cf (cf (cs (cf (cs (cs (cs (bodyOf Tryz.f49))))))))) (rc_S sg ms ar cx 0) = some (if (fstR (ctxW (Wo.wd ⟨sg, ms, ar⟩) ar cx) cx.length 0).2 = 0 then (.exit 0, mk 41 [(0, dDs sg), (1, dMs ms), (3, dL cx), (9, .own 0 (encs (ar ++ cx))), (10, dI cx.length), (20, dB false)] [] [] [some (encs (ar ++ cx)).length]) else (.ret, (fun r : Int × Int => mk 41 [(8, dI r.2)] [] [] [some (encs (ar ++ cx.take r.1.toNat)).length]) (fstR (ctxW (Wo.wd ⟨sg, ms, ar⟩) ar cx) cx.length 0))) := by
    refine loop_first (rc_S sg ms ar cx) _ cx.length (R := fun r : Int × Int => mk 41 [(8, dI r.2)] [] [] [some (encs (ar ++ cx.take r.1.toNat)).length]) (fun i hi hp h0 => ?_) (fun i hi hp h0 => ?_) ?_ (by simp)
    · obtain ⟨h, c1⟩ := hc1 i hi
      rw [h0] at c1
      have ha := fun locs heap => app_own (encs (ar ++ cx.take i)) [enc (cx.getD i default)] locs heap (by rw [encs_length]; simp; omega) (encs_all _) (by simp [enc_width])
      rw [hs i hi] at ha
      simp only [encs_length] at ha
      simp -implicitDefEqProofs (disch := decide +kernel) only [cf, cs, bodyOf, Tryz.f49, Option.getD_some, go_sem, ↓reduceIte, Nat.reduceSub, Nat.reduceAdd, Nat.reduceMul, Nat.reduceBEq, Nat.reduceLT, Nat.reduceLeDiff, Nat.reduceEqDiff, reduceCtorEq, Int.reduceToNat, Int.reduceLE, Int.reduceLT, Int.reduceBEq, Int.reduceBNe, mCall, rc_S, lt_true hi, getD_get hi, c1, h01, ha, cells_enc, cel3, (enc_eq (cx.getD i default)).symm, wrap_succ (n := i) (by omega)]
    · obtain ⟨h, c1⟩ := hc1 i hi
      have e' : (ctxW (Wo.wd ⟨sg, ms, ar⟩) ar cx i != 0) = true := by simpa using h0
      simp -implicitDefEqProofs (disch := decide +kernel) only [cf, cs, bodyOf, Tryz.f49, Option.getD_some, go_sem, ↓reduceIte, Nat.reduceSub, Nat.reduceAdd, Nat.reduceMul, Nat.reduceBEq, Nat.reduceLT, Nat.reduceLeDiff, Nat.reduceEqDiff, reduceCtorEq, Int.reduceToNat, Int.reduceLE, Int.reduceLT, Int.reduceBEq, Int.reduceBNe, mCall, rc_S, lt_true hi, getD_get hi, c1, e', cells_enc, cel3, (enc_eq (cx.getD i default)).symm, Int.toNat_natCast]
    · simp -implicitDefEqProofs (disch := decide +kernel) only [cf, cs, bodyOf, Tryz.f49, Option.getD_some, go_sem, ↓reduceIte, Nat.reduceSub, Nat.reduceAdd, Nat.reduceMul, Nat.reduceBEq, Nat.reduceLT, Nat.reduceLeDiff, Nat.reduceEqDiff, reduceCtorEq, Int.reduceToNat, Int.reduceLE, Int.reduceLT, Int.reduceBEq, Int.reduceBNe, mCall, rc_S, lt_false (Nat.le_refl cx.length), List.take_length]
  have e0 : rc_S sg ms ar cx 0 = mk 41 [(0, dDs sg), (1, dMs ms), (3, dL cx), (9, .own 0 (encs ar)), (10, dI 0)] [] [] [some ar.length] := by
    simp only [rc_S, List.take_zero, List.append_nil, encs_length]; rfl
  rw [e0] at hloop
  have ha1 := app_first (encs ar) 3 (ll 41 []) [] (by rw [encs_length]; omega) (encs_all _)
  unfold CtxWR firstR
  rw [ev_fn 49 Tryz.f49 _ _ _ rfl Tryz.func49 rfl Tryz.ntmps49 rfl]
  cases k1 : decide ((cx.length : Int) > 40)
  · rw [if_neg (by simpa using k1)]
    simp -implicitDefEqProofs (disch := decide +kernel) only [go_sem, ↓reduceIte, Nat.reduceSub, Nat.reduceAdd, Nat.reduceMul, Nat.reduceBEq, Nat.reduceLT, Nat.reduceLeDiff, Nat.reduceEqDiff, reduceCtorEq, Int.reduceToNat, Int.reduceLE, Int.reduceLT, Int.reduceBEq, Int.reduceBNe, mCall, k1, ha1]
    rw [loop_at hloop ?hb ?hs]
    case hb => rfl
    case hs => rfl
    by_cases e : (fstR (ctxW (Wo.wd ⟨sg, ms, ar⟩) ar cx) cx.length 0).2 = 0
    · rw [if_pos e]
      simp -implicitDefEqProofs (disch := decide +kernel) only [go_sem, ↓reduceIte, Nat.reduceSub, Nat.reduceAdd, Nat.reduceMul, Nat.reduceBEq, Nat.reduceLT, Nat.reduceLeDiff, Nat.reduceEqDiff, reduceCtorEq, Int.reduceToNat, Int.reduceLE, Int.reduceLT, Int.reduceBEq, Int.reduceBNe, mCall, e]
    · rw [if_neg e]
      simp -implicitDefEqProofs (disch := decide +kernel) only [go_sem, ↓reduceIte, Nat.reduceSub, Nat.reduceAdd, Nat.reduceMul, Nat.reduceBEq, Nat.reduceLT, Nat.reduceLeDiff, Nat.reduceEqDiff, reduceCtorEq, Int.reduceToNat, Int.reduceLE, Int.reduceLT, Int.reduceBEq, Int.reduceBNe, mCall, e]
  · rw [if_pos (by simpa using k1)]
    simp -implicitDefEqProofs (disch := decide +kernel) only [go_sem, ↓reduceIte, Nat.reduceSub, Nat.reduceAdd, Nat.reduceMul, Nat.reduceBEq, Nat.reduceLT, Nat.reduceLeDiff, Nat.reduceEqDiff, reduceCtorEq, Int.reduceToNat, Int.reduceLE, Int.reduceLT, Int.reduceBEq, Int.reduceBNe, mCall, k1]
end Go.Proofs.YtkmpfdecjmnccaaGreat
/- The reference of layer 4. -/
set_option linter.unusedSimpArgs false
set_option linter.unusedVariables false
set_option maxRecDepth 100000
namespace Go.Proofs.YtkmpfdecjmnccaaGreat
open Go.Proofs
def zr3 : List AV := [dI 0, dI 0, .d (.slc [])]
def rfi_S (t : Tm) (th : List Tm) (n : Int) (F : Nat → Tm × Int) (i : Nat) : St :=
  mk 91 [(1, dL th), (2, dI n), (3, .lref 3 0), (6, .lref 6 0), (8, .lref 8 0), (9, acc 0 (encs (outs (fsts F) i))), (10, dI i)] [(3, cel3 t), (6, zc3), (8, zc3)] [] (accT i)
theorem rfi_step {t : Tm} {th : List Tm} {n : Int} {F : Nat → Tm × Int} {i : Nat} {e : Int} {h : List HO} (hi : i < t.args.length) (hs : t.size < room) (hn : 0 ≤ n ∧ n + t.size < 4000000000000000000) (he : (F i).2 = 0)
    (hrec : (lim C).call 70 [dT (t.arg i), dL th, dI (n + bnd t i)] [] = some (.ret (.tup [dT (F i).1, dI (F i).2]), h)) :
    (lim C).code 70 (cf (.loop (cf (cf (cs (cf (cs (cs (cs (bodyOf Tryz.f70)))))))))) (rfi_S t th n F i) = some (.nor, rfi_S t th n F (i + 1)) := by
  have hr : room = 1099511627776 := rfl
  have hl := len_size t
  have hbl := bnd_le t i
  rw [he] at hrec
  have hw : IntKind.wrap .i64 (n + (bnd t i : Int)) = n + bnd t i := wrap_ok (by omega) (by omega)
  have hln : (encs (outs (fsts F) i)).length = i := by simp [encs, outs]
  have hap := fun locs heap => mApp_acc (encs (outs (fsts F) i)) (enc (F i).1) 3 locs heap (by rw [hln]; omega) (encs_all _) (enc_width _)
  have hsn : encs (outs (fsts F) i) ++ [enc (F i).1] = encs (outs (fsts F) (i + 1)) := by unfold outs; rw [List.range_succ, List.map_append, encs_append]; rfl
  rw [hln, hsn] at hap
  simp -implicitDefEqProofs (disch := decide +kernel) only [cf, cs, bodyOf, Tryz.f70, Option.getD_some, go_sem, ↓reduceIte, Nat.reduceSub, Nat.reduceAdd, Nat.reduceMul, Nat.reduceBEq, Nat.reduceLT, Nat.reduceLeDiff, Nat.reduceEqDiff, reduceCtorEq, Int.reduceToNat, Int.reduceLE, Int.reduceLT, Int.reduceBEq, Int.reduceBNe, mCall, rfi_S, zc3, cel3, cells_enc, acc_keep, lt_true hi, arg_get hi, binds_spec t i hs hi, hw, hrec, hap, (enc_eq t).symm, (enc_eq (F i).1).symm, wrap_succ (n := i) (by omega)]
theorem rfi_stop {t : Tm} {th : List Tm} {n : Int} {F : Nat → Tm × Int} {i : Nat} {h : List HO} (hi : i < t.args.length) (hs : t.size < room) (hn : 0 ≤ n ∧ n + t.size < 4000000000000000000) (he : ((F i).2 != 0) = true)
    (hrec : (lim C).call 70 [dT (t.arg i), dL th, dI (n + bnd t i)] [] = some (.ret (.tup [dT (F i).1, dI (F i).2]), h)) :
    (lim C).code 70 (cf (.loop (cf (cf (cs (cf (cs (cs (cs (bodyOf Tryz.f70)))))))))) (rfi_S t th n F i) = some (.ret, mk 91 [(6, .lref 6 0), (7, dI (F i).2)] [(6, zr3)] [] (accT i)) := by
  have hr : room = 1099511627776 := rfl
  have hl := len_size t
  have hbl := bnd_le t i
  have hw : IntKind.wrap .i64 (n + (bnd t i : Int)) = n + bnd t i := wrap_ok (by omega) (by omega)
  simp -implicitDefEqProofs (disch := decide +kernel) only [cf, cs, bodyOf, Tryz.f70, Option.getD_some, go_sem, ↓reduceIte, Nat.reduceSub, Nat.reduceAdd, Nat.reduceMul, Nat.reduceBEq, Nat.reduceLT, Nat.reduceLeDiff, Nat.reduceEqDiff, reduceCtorEq, Int.reduceToNat, Int.reduceLE, Int.reduceLT, Int.reduceBEq, Int.reduceBNe, mCall, rfi_S, zc3, zr3, cel3, cells_enc, acc_keep, lt_true hi, arg_get hi, binds_spec t i hs hi, hw, hrec, he, (enc_eq t).symm, (enc_eq (F i).1).symm]
def rf2_S (t : Tm) (th : List Tm) (n : Int) (ls : List Tm) (i : Nat) : St :=
  mk 91 [(1, dL th), (2, dI n), (3, .lref 3 0), (6, .lref 6 0), (8, .lref 8 0), (9, acc 0 (encs ls)), (13, dI i)] [(3, cel3 t), (6, zc3), (8, zc3)] [] (accT ls.length)
theorem rf2_loop {t : Tm} {th : List Tm} {n : Int} {ls : List Tm} (hl : ls.length < room) (hz : ∀ x ∈ ls, x.size < room) :
    (lim C).code 70 (.loop (cf (cf (cs (cf (cs (cs (cs (cs (cs (cs (bodyOf Tryz.f70)))))))))))) (rf2_S t th n ls 0) = some (if allB ls.length (fun k => mayB (ls.getD k default)) then (.exit 2, mk 91 [(1, dL th), (2, dI n), (3, .lref 3 0), (6, .lref 6 0), (8, .lref 8 0), (9, acc 0 (encs ls)), (13, dI ls.length), (66, dB false)] [(3, cel3 t), (6, zc3), (8, zc3)] [] (accT ls.length)) else (.ret, mk 91 [(6, .lref 6 0), (7, dI 4)] [(6, zr3)] [] (accT ls.length))) := by
  have hr : room = 1099511627776 := rfl
  rcases Nat.eq_zero_or_pos ls.length with h0 | h0
  · obtain rfl : ls = [] := List.eq_nil_of_length_eq_zero h0
    have ha : acc 0 (encs []) = .clip [] := rfl
    refine loop_all (rf2_S t th n []) 0 _ (fun k hk hp => by omega) (fun k hk hp => by omega) ?_ (by simp) (by simp)
    have hlf : decide (((0 : Nat) : Int) < ((0 : Nat) : Int)) = false := rfl
    simp -implicitDefEqProofs (disch := decide +kernel) only [cf, cs, bodyOf, Tryz.f70, Option.getD_some, go_sem, ↓reduceIte, Nat.reduceSub, Nat.reduceAdd, Nat.reduceMul, Nat.reduceBEq, Nat.reduceLT, Nat.reduceLeDiff, Nat.reduceEqDiff, reduceCtorEq, Int.reduceToNat, Int.reduceLE, Int.reduceLT, Int.reduceBEq, Int.reduceBNe, mCall, rf2_S, zc3, zr3, cel3, ha, hlf, List.length_nil]
  have hacc : acc 0 (encs ls) = .own 0 (encs ls) := by
    cases ls with
    | nil => simp at h0
    | cons x xs => rfl
  refine loop_all (rf2_S t th n ls) ls.length _ (fun k hk hp => ?_) (fun k hk hp => ?_) ?_ (by simp) (by simp)
  · have hc := may_spec (ls.getD k default) (hz _ (getD_mem hk))
    rw [hp] at hc
    simp -implicitDefEqProofs (disch := decide +kernel) only [cf, cs, bodyOf, Tryz.f70, Option.getD_some, go_sem, ↓reduceIte, Nat.reduceSub, Nat.reduceAdd, Nat.reduceMul, Nat.reduceBEq, Nat.reduceLT, Nat.reduceLeDiff, Nat.reduceEqDiff, reduceCtorEq, Int.reduceToNat, Int.reduceLE, Int.reduceLT, Int.reduceBEq, Int.reduceBNe, mCall, rf2_S, zc3, zr3, cel3, hacc, lt_true hk, getD_get hk, hc, wrap_succ (n := k) (by omega)]
  · have hc := may_spec (ls.getD k default) (hz _ (getD_mem hk))
    rw [hp] at hc
    simp -implicitDefEqProofs (disch := decide +kernel) only [cf, cs, bodyOf, Tryz.f70, Option.getD_some, go_sem, ↓reduceIte, Nat.reduceSub, Nat.reduceAdd, Nat.reduceMul, Nat.reduceBEq, Nat.reduceLT, Nat.reduceLeDiff, Nat.reduceEqDiff, reduceCtorEq, Int.reduceToNat, Int.reduceLE, Int.reduceLT, Int.reduceBEq, Int.reduceBNe, mCall, rf2_S, zc3, zr3, cel3, hacc, lt_true hk, getD_get hk, hc]
  · simp -implicitDefEqProofs (disch := decide +kernel) only [cf, cs, bodyOf, Tryz.f70, Option.getD_some, go_sem, ↓reduceIte, Nat.reduceSub, Nat.reduceAdd, Nat.reduceMul, Nat.reduceBEq, Nat.reduceLT, Nat.reduceLeDiff, Nat.reduceEqDiff, reduceCtorEq, Int.reduceToNat, Int.reduceLE, Int.reduceLT, Int.reduceBEq, Int.reduceBNe, mCall, rf2_S, zc3, zr3, cel3, hacc, lt_false (Nat.le_refl ls.length)]
theorem rfill_spec {th : List Tm} {K : Int} (h0 : 0 ≤ K) (hth : ∀ x ∈ th, mayB x = true ∧ vleB K x = true) (hlt : th.length < room) : ∀ t : Tm, t.size ≤ 1048576 → nodesB t = true → vleB K t = true → K + 2000000 * t.depth ≤ topV → ∀ n : Int, 0 ≤ n → n + t.size < 4000000000000000000 →
    ∃ h, (lim C).call 70 [dT t, dL th, dI n] [] = some (.ret (.tup [dT (fillM th t n).1, dI (fillM th t n).2]), h) := by
  refine Tm.ind fun t ih hs hn hv hk n h1 h2 => ?_
  have hr : room = 1099511627776 := rfl
  have hl := len_size t
  have hrec : ∀ i, i < t.args.length → ∃ h, (lim C).call 70 [dT (t.arg i), dL th, dI (n + bnd t i)] [] = some (.ret (.tup [dT (fillF applyR maysB th t n i).1, dI (fillF applyR maysB th t n i).2]), h) := fun i hi => by
    have hsz := size_arg (arg_mem hi)
    have hbl := bnd_le t i
    have hd := depth_arg (arg_mem hi)
    exact ih _ (arg_mem hi) (by omega) (node_args hn i hi) (vle_args hv i hi) (by omega) (n + bnd t i) (by omega) (by omega)
  have hfit : ∀ x ∈ outs (fsts (fillF applyR maysB th t n)) t.args.length, x.size < room ∧ vleB topV x = true := fun x hx => by
    simp only [outs, List.mem_map, List.mem_range] at hx
    obtain ⟨i, hi, rfl⟩ := hx
    have hsz := size_arg (arg_mem hi)
    have hd := depth_arg (arg_mem hi)
    have hf := fill_fits h0 (fun x hx => (hth x hx).2) (t.arg i) (n + bnd t i) (node_args hn i hi) (vle_args hv i hi)
    exact ⟨by have := hf.2; show (fillM th (t.arg i) (n + bnd t i)).1.size < room; omega, vle_mono (by omega) hf.1⟩
  have hsz := fun x hx => (hfit x hx).1
  have hvl := fun x hx => (hfit x hx).2
  have hal : (outs (fsts (fillF applyR maysB th t n)) t.args.length).length = t.args.length := by simp [outs]
  have hee := (enc_eq t).symm
  refine ⟨[], ?_⟩
  rw [fillM, fillT_eq]
  rw [show ((List.range t.args.length).map fun i => (fillF applyR maysB th t n i).1) = outs (fsts (fillF applyR maysB th t n)) t.args.length from rfl]
  generalize fillF applyR maysB th t n = FF at hrec hsz hvl hal ⊢
  rw [ev_fn 70 Tryz.f70 _ _ _ rfl Tryz.func70 rfl Tryz.ntmps70 rfl]
  by_cases he : ¬ firstE FF t.args.length = 0
  · obtain ⟨j, hj, hp, hb⟩ := firstE_at _ _ he
    have hne : ((FF j).2 != 0) = true := by rw [hp]; simpa using he
    have hloop : (lim C).code 70 (.loop (cf (cf (cs (cf (cs (cs (cs (bodyOf Tryz.f70))))))))) (rfi_S t th n FF 0) = some (.ret, mk 91 [(6, .lref 6 0), (7, dI (FF j).2)] [(6, zr3)] [] (accT j)) := by
      refine loop_run (rfi_S t th n FF) j (fun i hi => ?_) ?_ (by simp)
      · obtain ⟨h, hc⟩ := hrec i (by omega)
        exact rfi_step (e := 0) (by omega) (by omega) ⟨h1, h2⟩ (hb i hi) hc
      · obtain ⟨h, hc⟩ := hrec j hj
        exact rfi_stop hj (by omega) ⟨h1, h2⟩ hne hc
    rw [if_neg he, ← hp]
    simp -implicitDefEqProofs (disch := decide +kernel) only [go_sem, ↓reduceIte, Nat.reduceSub, Nat.reduceAdd, Nat.reduceMul, Nat.reduceBEq, Nat.reduceLT, Nat.reduceLeDiff, Nat.reduceEqDiff, reduceCtorEq, Int.reduceToNat, Int.reduceLE, Int.reduceLT, Int.reduceBEq, Int.reduceBNe, mCall, zc3, cel3, cells_enc, hee]
    rw [loop_at hloop ?hb ?hs]
    case hb => rfl
    case hs => rfl
    simp -implicitDefEqProofs (disch := decide +kernel) only [go_sem, ↓reduceIte, Nat.reduceSub, Nat.reduceAdd, Nat.reduceMul, Nat.reduceBEq, Nat.reduceLT, Nat.reduceLeDiff, Nat.reduceEqDiff, reduceCtorEq, Int.reduceToNat, Int.reduceLE, Int.reduceLT, Int.reduceBEq, Int.reduceBNe, mCall, zr3, zT_enc, zT'_eq]
  · have he : firstE FF t.args.length = 0 := Classical.not_not.1 he
    have hz := (firstE_zero _ _).1 he
    have hloop : (lim C).code 70 (.loop (cf (cf (cs (cf (cs (cs (cs (bodyOf Tryz.f70))))))))) (rfi_S t th n FF 0) = some (.exit 0, mk 91 [(1, dL th), (2, dI n), (3, .lref 3 0), (6, .lref 6 0), (8, .lref 8 0), (9, acc 0 (encs (outs (fsts FF) t.args.length))), (10, dI t.args.length), (22, dB false)] [(3, cel3 t), (6, zc3), (8, zc3)] [] (accT t.args.length)) := by
      refine loop_run (rfi_S t th n FF) t.args.length (fun i hi => ?_) ?_ (by simp)
      · obtain ⟨h, hc⟩ := hrec i hi
        exact rfi_step (e := 0) hi (by omega) ⟨h1, h2⟩ (hz i hi) hc
      · simp -implicitDefEqProofs (disch := decide +kernel) only [cf, cs, bodyOf, Tryz.f70, Option.getD_some, go_sem, ↓reduceIte, Nat.reduceSub, Nat.reduceAdd, Nat.reduceMul, Nat.reduceBEq, Nat.reduceLT, Nat.reduceLeDiff, Nat.reduceEqDiff, reduceCtorEq, Int.reduceToNat, Int.reduceLE, Int.reduceLT, Int.reduceBEq, Int.reduceBNe, mCall, rfi_S, zc3, cel3, acc_keep, lt_false (Nat.le_refl t.args.length)]
    rw [if_pos he]
    generalize outs (fsts FF) t.args.length = ls at hloop hsz hvl hal ⊢
    unfold fillN
    simp -implicitDefEqProofs (disch := decide +kernel) only [go_sem, ↓reduceIte, Nat.reduceSub, Nat.reduceAdd, Nat.reduceMul, Nat.reduceBEq, Nat.reduceLT, Nat.reduceLeDiff, Nat.reduceEqDiff, reduceCtorEq, Int.reduceToNat, Int.reduceLE, Int.reduceLT, Int.reduceBEq, Int.reduceBNe, mCall, zc3, cel3, cells_enc, hee]
    rw [loop_at hloop ?hb ?hs]
    case hb => rfl
    case hs => rfl
    cases k6 : (t.kind != 6)
    · have k6' : t.kind = 6 := by simpa using k6
      have hh := node_head (node_here hn)
      rw [if_neg (by simpa using k6')]
      cases hge : decide (t.head ≥ th.length)
      · have hge' : ¬ t.head ≥ th.length := by simpa using hge
        rw [if_neg hge']
        have hlt2 : t.head.toNat < th.length := by omega
        have hl2 := rf2_loop (t := t) (th := th) (n := n) (ls := ls) (by rw [hal]; omega) hsz
        have hm : (allB ls.length fun k => mayB (ls.getD k default)) = maysB ls := rfl
        rw [hm] at hl2
        rw [← hal]
        cases hma : maysB ls
        · rw [hma, if_neg (by simp)] at hl2
          simp -implicitDefEqProofs (disch := decide +kernel) only [go_sem, ↓reduceIte, Nat.reduceSub, Nat.reduceAdd, Nat.reduceMul, Nat.reduceBEq, Nat.reduceLT, Nat.reduceLeDiff, Nat.reduceEqDiff, reduceCtorEq, Int.reduceToNat, Int.reduceLE, Int.reduceLT, Int.reduceBEq, Int.reduceBNe, mCall, zc3, cel3, cells_enc, k6, hge]
          rw [loop_at hl2 ?hb ?hs]
          case hb => rfl
          case hs => rfl
          simp -implicitDefEqProofs (disch := decide +kernel) only [go_sem, ↓reduceIte, Nat.reduceSub, Nat.reduceAdd, Nat.reduceMul, Nat.reduceBEq, Nat.reduceLT, Nat.reduceLeDiff, Nat.reduceEqDiff, reduceCtorEq, Int.reduceToNat, Int.reduceLE, Int.reduceLT, Int.reduceBEq, Int.reduceBNe, mCall, zr3, zT_enc, zT'_eq]
        · rw [hma, if_pos rfl] at hl2
          simp -implicitDefEqProofs (disch := decide +kernel) only [go_sem, ↓reduceIte, Nat.reduceSub, Nat.reduceAdd, Nat.reduceMul, Nat.reduceBEq, Nat.reduceLT, Nat.reduceLeDiff, Nat.reduceEqDiff, reduceCtorEq, Int.reduceToNat, Int.reduceLE, Int.reduceLT, Int.reduceBEq, Int.reduceBNe, mCall, zc3, cel3, cells_enc, k6, hge]
          rw [loop_at hl2 ?hb ?hs]
          case hb => rfl
          case hs => rfl
          have hmem : th.getD t.head.toNat default ∈ th := by rw [List.getD_eq_getElem?_getD, List.getElem?_eq_getElem hlt2]; exact List.getElem_mem _
          obtain ⟨h', hap⟩ := rapply_spec (th.getD t.head.toNat default) ⟨ls, n⟩ (by have := (may_parts (hth _ hmem).1).2.1; omega) hsz (by rw [hal]; omega) (vle_mono (by omega) (hth _ hmem).2) hvl
          have hes := encS_mk ls n
          have hgt := getD_get hlt2
          have hhn : 0 ≤ t.head := hh
          generalize applyR (th.getD t.head.toNat default) ⟨ls, n⟩ = rr at hap ⊢
          simp -implicitDefEqProofs (disch := decide +kernel) only [go_sem, ↓reduceIte, Nat.reduceSub, Nat.reduceAdd, Nat.reduceMul, Nat.reduceBEq, Nat.reduceLT, Nat.reduceLeDiff, Nat.reduceEqDiff, reduceCtorEq, Int.reduceToNat, Int.reduceLE, Int.reduceLT, Int.reduceBEq, Int.reduceBNe, mCall, zc3, cel3, cells_enc, acc_drop, acc_keep, hee, hgt, hhn, hes, hap, (enc_eq rr.1).symm]
      · rw [if_pos (by simpa using hge)]
        simp -implicitDefEqProofs (disch := decide +kernel) only [go_sem, ↓reduceIte, Nat.reduceSub, Nat.reduceAdd, Nat.reduceMul, Nat.reduceBEq, Nat.reduceLT, Nat.reduceLeDiff, Nat.reduceEqDiff, reduceCtorEq, Int.reduceToNat, Int.reduceLE, Int.reduceLT, Int.reduceBEq, Int.reduceBNe, mCall, zc3, cel3, cells_enc, k6, hge, zT_enc, zT'_eq]
    · rw [if_pos (by simpa using k6)]
      simp -implicitDefEqProofs (disch := decide +kernel) only [go_sem, ↓reduceIte, Nat.reduceSub, Nat.reduceAdd, Nat.reduceMul, Nat.reduceBEq, Nat.reduceLT, Nat.reduceLeDiff, Nat.reduceEqDiff, reduceCtorEq, Int.reduceToNat, Int.reduceLE, Int.reduceLT, Int.reduceBEq, Int.reduceBNe, mCall, zc3, cel3, cells_enc, acc_drop, acc_keep, k6, tm_enc]
      rfl
end Go.Proofs.YtkmpfdecjmnccaaGreat
/- The reference of layer 4: Fill, Ctx, All. -/
set_option linter.unusedSimpArgs false
set_option linter.unusedVariables false
set_option maxRecDepth 100000
namespace Go.Proofs.YtkmpfdecjmnccaaGreat
open Go.Proofs
def rfl_S (t : Tm) (th : List Tm) (n : Int) (i : Nat) : St := mk 63 [(1, dL th), (2, dI n), (3, .lref 3 0), (6, .lref 6 0), (9, dI i)] [(3, cel3 t), (6, zc3)] [] []
theorem rFill_spec {th : List Tm} {K : Int} (h : ThOk K th) (t : Tm) (hs : t.size ≤ 1048576) (hv : vleB K t = true) (n : Int) :
    ∃ h, (lim C).call 46 [dT t, dL th, dI n] [] = some (.ret (.tup [dT (FillR t th n).1, dI (FillR t th n).2]), h) := by
  have hr : room = 1099511627776 := rfl
  have hlt := h.len
  have ho := may_spec t (by omega)
  have hee := (enc_eq t).symm
  have hsz := fun hm => fillM_size h (n := n) hs hv hm
  have htop : fillOk t th n = true → ∃ h, (lim C).call 70 [dT t, dL th, dI n] [] = some (.ret (.tup [dT (fillM th t n).1, dI (fillM th t n).2]), h) := fun ho => by
    obtain ⟨p1, p2, p3, p4, p5⟩ := fillOk_parts ho
    have hp := may_parts p1
    have := h.top
    exact rfill_spec h.h0 (fun x hx => ⟨p5 x hx, (h.all x hx).2⟩) h.len t hs hp.1 hv (by omega) n p2 (by omega)
  have hloop : (lim C).code 46 (.loop (cf (cf (cs (cf (cs (cs (cs (bodyOf Tryz.f46))))))))) (rfl_S t th n 0) = some (if allB th.length (fun k => mayB (th.getD k default)) then (.exit 0, mk 63 [(1, dL th), (2, dI n), (3, .lref 3 0), (6, .lref 6 0), (9, dI th.length), (35, dB false)] [(3, cel3 t), (6, zc3)] [] []) else (.ret, mk 63 [(6, .lref 6 0), (7, dI 1)] [(6, zc3)] [] [])) := by
    refine loop_all (rfl_S t th n) th.length _ (fun k hk hp => ?_) (fun k hk hp => ?_) ?_ (by simp) (by simp)
    · have hc := may_spec (th.getD k default) (h.all _ (getD_mem hk)).1
      rw [hp] at hc
      simp -implicitDefEqProofs (disch := decide +kernel) only [cf, cs, bodyOf, Tryz.f46, Option.getD_some, go_sem, ↓reduceIte, Nat.reduceSub, Nat.reduceAdd, Nat.reduceMul, Nat.reduceBEq, Nat.reduceLT, Nat.reduceLeDiff, Nat.reduceEqDiff, reduceCtorEq, Int.reduceToNat, Int.reduceLE, Int.reduceLT, Int.reduceBEq, Int.reduceBNe, mCall, rfl_S, cel3, zc3, lt_true hk, getD_get hk, hc, wrap_succ (n := k) (by omega)]
    · have hc := may_spec (th.getD k default) (h.all _ (getD_mem hk)).1
      rw [hp] at hc
      simp -implicitDefEqProofs (disch := decide +kernel) only [cf, cs, bodyOf, Tryz.f46, Option.getD_some, go_sem, ↓reduceIte, Nat.reduceSub, Nat.reduceAdd, Nat.reduceMul, Nat.reduceBEq, Nat.reduceLT, Nat.reduceLeDiff, Nat.reduceEqDiff, reduceCtorEq, Int.reduceToNat, Int.reduceLE, Int.reduceLT, Int.reduceBEq, Int.reduceBNe, mCall, rfl_S, cel3, zc3, lt_true hk, getD_get hk, hc]
    · simp -implicitDefEqProofs (disch := decide +kernel) only [cf, cs, bodyOf, Tryz.f46, Option.getD_some, go_sem, ↓reduceIte, Nat.reduceSub, Nat.reduceAdd, Nat.reduceMul, Nat.reduceBEq, Nat.reduceLT, Nat.reduceLeDiff, Nat.reduceEqDiff, reduceCtorEq, Int.reduceToNat, Int.reduceLE, Int.reduceLT, Int.reduceBEq, Int.reduceBNe, mCall, rfl_S, cel3, zc3, lt_false (Nat.le_refl th.length)]
  have hm : maysB th = allB th.length (fun k => mayB (th.getD k default)) := rfl
  rw [← hm] at hloop
  refine ⟨[], ?_⟩
  unfold FillR fillOk
  unfold fillOk at htop
  rw [ev_fn 46 Tryz.f46 _ _ _ rfl Tryz.func46 rfl Tryz.ntmps46 rfl]
  cases h1 : mayB t
  · simp -implicitDefEqProofs (disch := decide +kernel) only [go_sem, ↓reduceIte, Nat.reduceSub, Nat.reduceAdd, Nat.reduceMul, Nat.reduceBEq, Nat.reduceLT, Nat.reduceLeDiff, Nat.reduceEqDiff, reduceCtorEq, Int.reduceToNat, Int.reduceLE, Int.reduceLT, Int.reduceBEq, Int.reduceBNe, mCall, cells_enc, cel3, hee, ho, zT_enc, h1]
  · skip
    cases h2 : decide (n < 0)
    rotate_left
    · simp -implicitDefEqProofs (disch := decide +kernel) only [go_sem, ↓reduceIte, Nat.reduceSub, Nat.reduceAdd, Nat.reduceMul, Nat.reduceBEq, Nat.reduceLT, Nat.reduceLeDiff, Nat.reduceEqDiff, reduceCtorEq, Int.reduceToNat, Int.reduceLE, Int.reduceLT, Int.reduceBEq, Int.reduceBNe, mCall, cells_enc, cel3, hee, ho, zT_enc, h1, h2]
    cases h3 : decide (n > 1000)
    rotate_left
    · simp -implicitDefEqProofs (disch := decide +kernel) only [go_sem, ↓reduceIte, Nat.reduceSub, Nat.reduceAdd, Nat.reduceMul, Nat.reduceBEq, Nat.reduceLT, Nat.reduceLeDiff, Nat.reduceEqDiff, reduceCtorEq, Int.reduceToNat, Int.reduceLE, Int.reduceLT, Int.reduceBEq, Int.reduceBNe, mCall, cells_enc, cel3, hee, ho, zT_enc, h1, h2, h3]
    cases h4 : decide ((th.length : Int) > 200)
    rotate_left
    · simp -implicitDefEqProofs (disch := decide +kernel) only [go_sem, ↓reduceIte, Nat.reduceSub, Nat.reduceAdd, Nat.reduceMul, Nat.reduceBEq, Nat.reduceLT, Nat.reduceLeDiff, Nat.reduceEqDiff, reduceCtorEq, Int.reduceToNat, Int.reduceLE, Int.reduceLT, Int.reduceBEq, Int.reduceBNe, mCall, cells_enc, cel3, hee, ho, zT_enc, h1, h2, h3, h4]
    cases h5 : maysB th
    · rw [h5, if_neg (by simp)] at hloop
      simp -implicitDefEqProofs (disch := decide +kernel) only [go_sem, ↓reduceIte, Nat.reduceSub, Nat.reduceAdd, Nat.reduceMul, Nat.reduceBEq, Nat.reduceLT, Nat.reduceLeDiff, Nat.reduceEqDiff, reduceCtorEq, Int.reduceToNat, Int.reduceLE, Int.reduceLT, Int.reduceBEq, Int.reduceBNe, mCall, cells_enc, cel3, hee, ho, h1, h2, h3, h4]
      rw [loop_at hloop ?hb ?hs]
      case hb => rfl
      case hs => rfl
      simp -implicitDefEqProofs (disch := decide +kernel) only [go_sem, ↓reduceIte, Nat.reduceSub, Nat.reduceAdd, Nat.reduceMul, Nat.reduceBEq, Nat.reduceLT, Nat.reduceLeDiff, Nat.reduceEqDiff, reduceCtorEq, Int.reduceToNat, Int.reduceLE, Int.reduceLT, Int.reduceBEq, Int.reduceBNe, mCall, zc3, zT_enc]
    rw [h5, if_pos rfl] at hloop
    rw [h1, h2, h3, h4, h5] at htop
    obtain ⟨h', hf⟩ := htop rfl
    have hsz := hsz h1
    unfold fillW
    generalize fillM th t n = rr at hf hsz ⊢
    simp -implicitDefEqProofs (disch := decide +kernel) only [go_sem, ↓reduceIte, Nat.reduceSub, Nat.reduceAdd, Nat.reduceMul, Nat.reduceBEq, Nat.reduceLT, Nat.reduceLeDiff, Nat.reduceEqDiff, reduceCtorEq, Int.reduceToNat, Int.reduceLE, Int.reduceLT, Int.reduceBEq, Int.reduceBNe, mCall, cells_enc, cel3, hee, ho, h1, h2, h3, h4]
    rw [loop_at hloop ?hb ?hs]
    case hb => rfl
    case hs => rfl
    cases h6 : (rr.2 != 0)
    · have h6' : rr.2 = 0 := by simpa using h6
      have ho2 := may_spec rr.1 hsz
      rw [if_pos h6']
      cases h7 : mayB rr.1
      · rw [h7] at ho2
        simp -implicitDefEqProofs (disch := decide +kernel) only [go_sem, ↓reduceIte, Nat.reduceSub, Nat.reduceAdd, Nat.reduceMul, Nat.reduceBEq, Nat.reduceLT, Nat.reduceLeDiff, Nat.reduceEqDiff, reduceCtorEq, Int.reduceToNat, Int.reduceLE, Int.reduceLT, Int.reduceBEq, Int.reduceBNe, mCall, zc3, cells_enc, cel3, hee, hf, h6, ho2, (enc_eq rr.1).symm, zT_enc]
      · rw [h7] at ho2
        simp -implicitDefEqProofs (disch := decide +kernel) only [go_sem, ↓reduceIte, Nat.reduceSub, Nat.reduceAdd, Nat.reduceMul, Nat.reduceBEq, Nat.reduceLT, Nat.reduceLeDiff, Nat.reduceEqDiff, reduceCtorEq, Int.reduceToNat, Int.reduceLE, Int.reduceLT, Int.reduceBEq, Int.reduceBNe, mCall, zc3, cells_enc, cel3, hee, hf, h6, ho2, (enc_eq rr.1).symm, zT_enc]
    · have h6' : ¬ rr.2 = 0 := by simpa using h6
      rw [if_neg h6']
      simp -implicitDefEqProofs (disch := decide +kernel) only [go_sem, ↓reduceIte, Nat.reduceSub, Nat.reduceAdd, Nat.reduceMul, Nat.reduceBEq, Nat.reduceLT, Nat.reduceLeDiff, Nat.reduceEqDiff, reduceCtorEq, Int.reduceToNat, Int.reduceLE, Int.reduceLT, Int.reduceBEq, Int.reduceBNe, mCall, zc3, cells_enc, cel3, hee, hf, h6, (enc_eq rr.1).symm, zT_enc]
def rcx_S (l th : List Tm) (n : Int) (F : Nat → Tm × Int) (i : Nat) : St := mk 38 [(0, dL l), (1, dL th), (2, dI n), (8, acc 0 (encs (outs (fsts F) i))), (9, dI i)] [] [] (accT i)
theorem rCtx_spec {th : List Tm} {K : Int} (h : ThOk K th) (l : List Tm) (hl : LOk K l) (n : Int) (hn : in64 n) :
    ∃ h, (lim C).call 45 [dL l, dL th, dI n] [] = some (.ret (.tup [dL (CtxR l th n).1, dI (CtxR l th n).2]), h) := by
  have hr : room = 1099511627776 := rfl
  have hll := hl.len
  have hrec : ∀ i, i < l.length → ∃ h, (lim C).call 46 [dT (l.getD i default), dL th, dI (n + i)] [] = some (.ret (.tup [dT (FillR (l.getD i default) th (n + i)).1, dI (FillR (l.getD i default) th (n + i)).2]), h) := fun i hi =>
    rFill_spec h (l.getD i default) (hl.at hi).1 (hl.at hi).2 (n + i)
  have hrec : ∀ i, i < l.length → ∃ h, (lim C).call 46 [dT (l.getD i default), dL th, dI (n + i)] [] = some (.ret (.tup [dT ((fun i : Nat => FillR (l.getD i default) th (n + i)) i).1, dI ((fun i : Nat => FillR (l.getD i default) th (n + i)) i).2]), h) := hrec
  have hwr : ∀ i, i < l.length → (∀ j, j < i → ((fun i : Nat => FillR (l.getD i default) th (n + i)) j).2 = 0) → IntKind.wrap .i64 (n + (i : Int)) = n + i := fun i hi hb => ctx_wrap hn hll hi hb
  unfold CtxR
  generalize (fun i : Nat => FillR (l.getD i default) th (n + i)) = F at hrec hwr ⊢
  have hstep : ∀ i, i < l.length → (∀ j, j ≤ i → (F j).2 = 0) → (lim C).code 45 (cf (.loop (cf (cf (cs (cf (cs (cs (bodyOf Tryz.f45))))))))) (rcx_S l th n F i) = some (.nor, rcx_S l th n F (i + 1)) := fun i hi he => by
    obtain ⟨h, hc⟩ := hrec i hi
    rw [he i (Nat.le_refl i)] at hc
    have hw := hwr i hi fun j hj => he j (by omega)
    have hln : (encs (outs (fsts F) i)).length = i := by simp [encs, outs]
    have hap := fun locs heap => mApp_acc (encs (outs (fsts F) i)) (enc (F i).1) 3 locs heap (by rw [hln]; omega) (encs_all _) (enc_width _)
    have hsn : encs (outs (fsts F) i) ++ [enc (F i).1] = encs (outs (fsts F) (i + 1)) := by unfold outs; rw [List.range_succ, List.map_append, encs_append]; rfl
    rw [hln, hsn] at hap
    simp -implicitDefEqProofs (disch := decide +kernel) only [cf, cs, bodyOf, Tryz.f45, Option.getD_some, go_sem, ↓reduceIte, Nat.reduceSub, Nat.reduceAdd, Nat.reduceMul, Nat.reduceBEq, Nat.reduceLT, Nat.reduceLeDiff, Nat.reduceEqDiff, reduceCtorEq, Int.reduceToNat, Int.reduceLE, Int.reduceLT, Int.reduceBEq, Int.reduceBNe, mCall, rcx_S, cells_enc, cel3, lt_true hi, getD_get hi, hw, hc, hap, (enc_eq (F i).1).symm, wrap_succ (n := i) (by omega)]
  refine ⟨[], ?_⟩
  rw [ev_fn 45 Tryz.f45 _ _ _ rfl Tryz.func45 rfl Tryz.ntmps45 rfl]
  by_cases he : firstE F l.length = 0
  · have hz := (firstE_zero _ _).1 he
    have hloop : (lim C).code 45 (.loop (cf (cf (cs (cf (cs (cs (bodyOf Tryz.f45)))))))) (rcx_S l th n F 0) = some (.exit 0, mk 38 [(0, dL l), (1, dL th), (2, dI n), (8, acc 0 (encs (outs (fsts F) l.length))), (9, dI l.length), (15, dB false)] [] [] (accT l.length)) := by
      refine loop_run (rcx_S l th n F) l.length (fun i hi => hstep i hi fun j hj => hz j (by omega)) ?_ (by simp)
      simp -implicitDefEqProofs (disch := decide +kernel) only [cf, cs, bodyOf, Tryz.f45, Option.getD_some, go_sem, ↓reduceIte, Nat.reduceSub, Nat.reduceAdd, Nat.reduceMul, Nat.reduceBEq, Nat.reduceLT, Nat.reduceLeDiff, Nat.reduceEqDiff, reduceCtorEq, Int.reduceToNat, Int.reduceLE, Int.reduceLT, Int.reduceBEq, Int.reduceBNe, mCall, rcx_S, lt_false (Nat.le_refl l.length)]
    rw [eachR_all hz]
    simp -implicitDefEqProofs (disch := decide +kernel) only [go_sem, ↓reduceIte, Nat.reduceSub, Nat.reduceAdd, Nat.reduceMul, Nat.reduceBEq, Nat.reduceLT, Nat.reduceLeDiff, Nat.reduceEqDiff, reduceCtorEq, Int.reduceToNat, Int.reduceLE, Int.reduceLT, Int.reduceBEq, Int.reduceBNe, mCall]
    rw [loop_at hloop ?hb ?hs]
    case hb => rfl
    case hs => rfl
    simp -implicitDefEqProofs (disch := decide +kernel) only [go_sem, ↓reduceIte, Nat.reduceSub, Nat.reduceAdd, Nat.reduceMul, Nat.reduceBEq, Nat.reduceLT, Nat.reduceLeDiff, Nat.reduceEqDiff, reduceCtorEq, Int.reduceToNat, Int.reduceLE, Int.reduceLT, Int.reduceBEq, Int.reduceBNe, mCall, acc_drop]
  · obtain ⟨j, hj, hp, hb⟩ := firstE_at _ _ he
    have hne : ((F j).2 != 0) = true := by rw [hp]; simpa using he
    have hloop : (lim C).code 45 (.loop (cf (cf (cs (cf (cs (cs (bodyOf Tryz.f45)))))))) (rcx_S l th n F 0) = some (.ret, mk 38 [(6, .clip []), (7, dI (F j).2)] [] [] (accT j)) := by
      refine loop_run (rcx_S l th n F) j (fun i hi => hstep i (by omega) fun k hk => hb k (by omega)) ?_ (by simp)
      obtain ⟨h, hc⟩ := hrec j hj
      have hw := hwr j hj hb
      simp -implicitDefEqProofs (disch := decide +kernel) only [cf, cs, bodyOf, Tryz.f45, Option.getD_some, go_sem, ↓reduceIte, Nat.reduceSub, Nat.reduceAdd, Nat.reduceMul, Nat.reduceBEq, Nat.reduceLT, Nat.reduceLeDiff, Nat.reduceEqDiff, reduceCtorEq, Int.reduceToNat, Int.reduceLE, Int.reduceLT, Int.reduceBEq, Int.reduceBNe, mCall, rcx_S, cells_enc, cel3, lt_true hj, getD_get hj, hw, hc, hne, (enc_eq (F j).1).symm]
    have hres : eachR F l.length = ([], (F j).2) := by unfold eachR; rw [if_neg he, hp]
    rw [hres]
    simp -implicitDefEqProofs (disch := decide +kernel) only [go_sem, ↓reduceIte, Nat.reduceSub, Nat.reduceAdd, Nat.reduceMul, Nat.reduceBEq, Nat.reduceLT, Nat.reduceLeDiff, Nat.reduceEqDiff, reduceCtorEq, Int.reduceToNat, Int.reduceLE, Int.reduceLT, Int.reduceBEq, Int.reduceBNe, mCall]
    rw [loop_at hloop ?hb ?hs]
    case hb => rfl
    case hs => rfl
    simp -implicitDefEqProofs (disch := decide +kernel) only [go_sem, ↓reduceIte, Nat.reduceSub, Nat.reduceAdd, Nat.reduceMul, Nat.reduceBEq, Nat.reduceLT, Nat.reduceLeDiff, Nat.reduceEqDiff, reduceCtorEq, Int.reduceToNat, Int.reduceLE, Int.reduceLT, Int.reduceBEq, Int.reduceBNe, mCall]
    rfl
end Go.Proofs.YtkmpfdecjmnccaaGreat
/- The reference of layer 12. -/
set_option linter.unusedSimpArgs false
set_option linter.unusedVariables false
set_option maxRecDepth 100000
namespace Go.Proofs.YtkmpfdecjmnccaaGreat
open Go.Proofs
theorem r12decl_spec {K : Int} {sg : List Dc} {ms : List Md} (hin : WIn K ⟨sg, ms, []⟩) (d : Md) (hz : d.t.size < room) (hv : vleB K d.t = true) (hcl : d.ctx.length < room) (hcz : ∀ x ∈ d.ctx, x.size < room ∧ vleB K x = true) :
    ∃ h, (lim C).call 32 [dDs sg, dMs ms, dM d] [] = some (.ret (dI (declMW (Wo.wd ⟨sg, ms, []⟩) d)), h) := by
  have hr : room = 1099511627776 := rfl
  have c1 := r11Ctx_spec (cx := d.ctx) hin hcz (by show 0 + _ < room; omega)
  have c1 : (lim C).call 49 [dDs sg, dMs ms, .d (.slc []), dL d.ctx] [] = some (.ret (dI (CtxWR (Wo.wd ⟨sg, ms, []⟩) [] d.ctx)), []) := c1
  have hen := encM_fold d
  have het := (enc_eq d.t).symm
  have hctx : WIn K ⟨sg, ms, d.ctx⟩ := hin.cons hcz hcl
  obtain ⟨h2, c2⟩ := rType_spec hctx d.t hz hv
  have c2 : (lim C).call 50 [dDs sg, dMs ms, dL d.ctx, dT d.t] [] = some (.ret (dI (TypR (Wo.wd ⟨sg, ms, []⟩) d.ctx d.t)), h2) := c2
  have h00 : ((0 : Int) != 0) = false := rfl
  refine ⟨[], ?_⟩
  unfold declMW
  generalize CtxWR (Wo.wd ⟨sg, ms, []⟩) [] d.ctx = v at *
  generalize TypR (Wo.wd ⟨sg, ms, []⟩) d.ctx d.t = u at *
  rw [ev_fn 32 Tryz.f32 _ _ _ rfl Tryz.func32 rfl Tryz.ntmps32 rfl]
  by_cases h0 : v = 0
  · subst h0
    rw [if_neg (by decide)]
    cases k1 : (d.t.kind != 2)
    · cases k2 : d.param
      · rw [if_neg (by simp)]
        simp -implicitDefEqProofs (disch := decide +kernel) only [go_sem, ↓reduceIte, Nat.reduceSub, Nat.reduceAdd, Nat.reduceMul, Nat.reduceBEq, Nat.reduceLT, Nat.reduceLeDiff, Nat.reduceEqDiff, reduceCtorEq, Int.reduceToNat, Int.reduceLE, Int.reduceLT, Int.reduceBEq, Int.reduceBNe, mCall, cells_encM, c1, c2, h00, k1, k2, het]
      · cases k3 : decide ((d.ctx.length : Int) > 0)
        · rw [if_neg (by simp)]
          simp -implicitDefEqProofs (disch := decide +kernel) only [go_sem, ↓reduceIte, Nat.reduceSub, Nat.reduceAdd, Nat.reduceMul, Nat.reduceBEq, Nat.reduceLT, Nat.reduceLeDiff, Nat.reduceEqDiff, reduceCtorEq, Int.reduceToNat, Int.reduceLE, Int.reduceLT, Int.reduceBEq, Int.reduceBNe, mCall, cells_encM, c1, c2, h00, k1, k2, k3, het]
        · rw [if_pos (by simp)]
          simp -implicitDefEqProofs (disch := decide +kernel) only [go_sem, ↓reduceIte, Nat.reduceSub, Nat.reduceAdd, Nat.reduceMul, Nat.reduceBEq, Nat.reduceLT, Nat.reduceLeDiff, Nat.reduceEqDiff, reduceCtorEq, Int.reduceToNat, Int.reduceLE, Int.reduceLT, Int.reduceBEq, Int.reduceBNe, mCall, cells_encM, c1, c2, h00, k1, k2, k3, het]
    · rw [if_pos (by simp)]
      simp -implicitDefEqProofs (disch := decide +kernel) only [go_sem, ↓reduceIte, Nat.reduceSub, Nat.reduceAdd, Nat.reduceMul, Nat.reduceBEq, Nat.reduceLT, Nat.reduceLeDiff, Nat.reduceEqDiff, reduceCtorEq, Int.reduceToNat, Int.reduceLE, Int.reduceLT, Int.reduceBEq, Int.reduceBNe, mCall, cells_encM, c1, c2, h00, k1, het]
  · have h0' : (v != 0) = true := by simpa using h0
    rw [if_pos h0]
    simp -implicitDefEqProofs (disch := decide +kernel) only [go_sem, ↓reduceIte, Nat.reduceSub, Nat.reduceAdd, Nat.reduceMul, Nat.reduceBEq, Nat.reduceLT, Nat.reduceLeDiff, Nat.reduceEqDiff, reduceCtorEq, Int.reduceToNat, Int.reduceLE, Int.reduceLT, Int.reduceBEq, Int.reduceBNe, mCall, cells_encM, c1, h0']
theorem r12var_spec (t : Tm) (ms : List Md) (h0 : 0 ≤ t.head) : ∃ h, (lim C).call 48 [dT t, dMs ms] [] = some (.ret (dB (varB t ms)), h) := by
  refine ⟨[], ?_⟩
  unfold varB
  rw [ev_fn 48 Tryz.f48 _ _ _ rfl Tryz.func48 rfl Tryz.ntmps48 rfl]
  by_cases k : t.kind = 6
  · rw [if_pos k]
    cases h1 : decide (t.head < (ms.length : Int))
    · simp -implicitDefEqProofs (disch := decide +kernel) only [go_sem, ↓reduceIte, Nat.reduceSub, Nat.reduceAdd, Nat.reduceMul, Nat.reduceBEq, Nat.reduceLT, Nat.reduceLeDiff, Nat.reduceEqDiff, reduceCtorEq, Int.reduceToNat, Int.reduceLE, Int.reduceLT, Int.reduceBEq, Int.reduceBNe, mCall, cells_enc, cel3, k, h1]
    · have hlt : t.head.toNat < ms.length := by simp at h1; omega
      have hg := mget_get hlt
      simp -implicitDefEqProofs (disch := decide +kernel) only [go_sem, ↓reduceIte, Nat.reduceSub, Nat.reduceAdd, Nat.reduceMul, Nat.reduceBEq, Nat.reduceLT, Nat.reduceLeDiff, Nat.reduceEqDiff, reduceCtorEq, Int.reduceToNat, Int.reduceLE, Int.reduceLT, Int.reduceBEq, Int.reduceBNe, mCall, cells_enc, cel3, k, h1, hg, h0, cells_encM]
  · rw [if_neg k]
    have k' : (t.kind == 6) = false := by simpa using k
    cases k4 : (t.kind == 4)
    · simp -implicitDefEqProofs (disch := decide +kernel) only [go_sem, ↓reduceIte, Nat.reduceSub, Nat.reduceAdd, Nat.reduceMul, Nat.reduceBEq, Nat.reduceLT, Nat.reduceLeDiff, Nat.reduceEqDiff, reduceCtorEq, Int.reduceToNat, Int.reduceLE, Int.reduceLT, Int.reduceBEq, Int.reduceBNe, mCall, cells_enc, cel3, k', k4]
    · have h2 : ((t.args.length : Int) == 0) = decide ((t.args.length : Int) = 0) := rfl
      simp -implicitDefEqProofs (disch := decide +kernel) only [go_sem, ↓reduceIte, Nat.reduceSub, Nat.reduceAdd, Nat.reduceMul, Nat.reduceBEq, Nat.reduceLT, Nat.reduceLeDiff, Nat.reduceEqDiff, reduceCtorEq, Int.reduceToNat, Int.reduceLE, Int.reduceLT, Int.reduceBEq, Int.reduceBNe, mCall, cells_enc, cel3, k', k4, h2]
def rd_S (sg : List Dc) (ms : List Md) (i : Nat) : St := mk 30 [(0, dDs sg), (1, dMs ms), (6, dI i)] [] [] []
theorem r12Decls_spec {K : Int} {sg : List Dc} {ms : List Md} (hin : WIn K ⟨sg, ms, []⟩) : (lim C).call 13 [dDs sg, dMs ms] [] = some (.ret (.tup [dI (DeclsR sg ms).1, dI (DeclsR sg ms).2]), []) := by
  have hr : room = 1099511627776 := rfl
  have hml := hin.sz.ml
  have hml : ms.length < room := hml
  have h01 : ((0 : Int) != 0) = false := rfl
  have hc : ∀ i, i < ms.length → ∃ h, (lim C).call 32 [dDs sg, .d (.slc ((encMs ms).take i)), dM (ms.getD i default)] [] = some (.ret (dI (declsW sg ms i)), h) := fun i hi => by
    obtain ⟨z1, z2, z3⟩ := hin.sz.mz _ (mget_mem hi)
    obtain ⟨v1, v2⟩ := hin.metas _ (mget_mem hi)
    obtain ⟨h, c⟩ := r12decl_spec (hin.takeM i) (ms.getD i default) z1 v1 z2 fun x hx => ⟨z3 x hx, v2 x hx⟩
    rw [← encMs_take]
    exact ⟨h, c⟩
  have hloop : (lim C).code 13 (.loop (cf (cf (cs (cf (cs (cs (bodyOf Tryz.f13)))))))) (rd_S sg ms 0) = some (if (fstR (declsW sg ms) ms.length 0).2 = 0 then (.exit 0, mk 30 [(0, dDs sg), (1, dMs ms), (6, dI ms.length), (14, dB false)] [] [] []) else (.ret, (fun r : Int × Int => mk 30 [(4, dI r.1), (5, dI r.2)] [] [] []) (fstR (declsW sg ms) ms.length 0))) := by
    refine loop_first (rd_S sg ms) _ ms.length (R := fun r : Int × Int => mk 30 [(4, dI r.1), (5, dI r.2)] [] [] []) (fun i hi hp h0 => ?_) (fun i hi hp h0 => ?_) ?_ (by simp)
    · obtain ⟨h, c1⟩ := hc i hi
      rw [h0] at c1
      have hle : i ≤ ms.length := by omega
      simp -implicitDefEqProofs (disch := decide +kernel) only [cf, cs, bodyOf, Tryz.f13, Option.getD_some, go_sem, ↓reduceIte, Nat.reduceSub, Nat.reduceAdd, Nat.reduceMul, Nat.reduceBEq, Nat.reduceLT, Nat.reduceLeDiff, Nat.reduceEqDiff, reduceCtorEq, Int.reduceToNat, Int.reduceLE, Int.reduceLT, Int.reduceBEq, Int.reduceBNe, mCall, rd_S, lt_true hi, mget_get hi, hle, Nat.zero_le, encMs_all, c1, h01, cells_encM, wrap_succ (n := i) (by omega)]
    · obtain ⟨h, c1⟩ := hc i hi
      have hle : i ≤ ms.length := by omega
      have e' : (declsW sg ms i != 0) = true := by simpa using h0
      simp -implicitDefEqProofs (disch := decide +kernel) only [cf, cs, bodyOf, Tryz.f13, Option.getD_some, go_sem, ↓reduceIte, Nat.reduceSub, Nat.reduceAdd, Nat.reduceMul, Nat.reduceBEq, Nat.reduceLT, Nat.reduceLeDiff, Nat.reduceEqDiff, reduceCtorEq, Int.reduceToNat, Int.reduceLE, Int.reduceLT, Int.reduceBEq, Int.reduceBNe, mCall, rd_S, lt_true hi, mget_get hi, hle, Nat.zero_le, encMs_all, c1, e', cells_encM]
    · simp -implicitDefEqProofs (disch := decide +kernel) only [cf, cs, bodyOf, Tryz.f13, Option.getD_some, go_sem, ↓reduceIte, Nat.reduceSub, Nat.reduceAdd, Nat.reduceMul, Nat.reduceBEq, Nat.reduceLT, Nat.reduceLeDiff, Nat.reduceEqDiff, reduceCtorEq, Int.reduceToNat, Int.reduceLE, Int.reduceLT, Int.reduceBEq, Int.reduceBNe, mCall, rd_S, lt_false (Nat.le_refl ms.length)]
  unfold DeclsR firstR
  rw [ev_fn 13 Tryz.f13 _ _ _ rfl Tryz.func13 rfl Tryz.ntmps13 rfl]
  cases k1 : decide ((ms.length : Int) > 40)
  · rw [if_neg (by simpa using k1)]
    simp -implicitDefEqProofs (disch := decide +kernel) only [go_sem, ↓reduceIte, Nat.reduceSub, Nat.reduceAdd, Nat.reduceMul, Nat.reduceBEq, Nat.reduceLT, Nat.reduceLeDiff, Nat.reduceEqDiff, reduceCtorEq, Int.reduceToNat, Int.reduceLE, Int.reduceLT, Int.reduceBEq, Int.reduceBNe, mCall, k1]
    rw [loop_at hloop ?hb ?hs]
    case hb => rfl
    case hs => rfl
    rcases fc_split (declsW sg ms) ms.length with ha | ⟨i, hi, hne, hp⟩
    · rw [fst_miss ms.length 0 fun i _ h => ha i (by omega), if_pos rfl]
      simp -implicitDefEqProofs (disch := decide +kernel) only [go_sem, ↓reduceIte, Nat.reduceSub, Nat.reduceAdd, Nat.reduceMul, Nat.reduceBEq, Nat.reduceLT, Nat.reduceLeDiff, Nat.reduceEqDiff, reduceCtorEq, Int.reduceToNat, Int.reduceLE, Int.reduceLT, Int.reduceBEq, Int.reduceBNe, mCall]
    · rw [fst_hit hp hne ms.length 0 (Nat.zero_le i) (by omega), if_neg hne]
      simp -implicitDefEqProofs (disch := decide +kernel) only [go_sem, ↓reduceIte, Nat.reduceSub, Nat.reduceAdd, Nat.reduceMul, Nat.reduceBEq, Nat.reduceLT, Nat.reduceLeDiff, Nat.reduceEqDiff, reduceCtorEq, Int.reduceToNat, Int.reduceLE, Int.reduceLT, Int.reduceBEq, Int.reduceBNe, mCall]
  · rw [if_pos (by simpa using k1)]
    simp -implicitDefEqProofs (disch := decide +kernel) only [go_sem, ↓reduceIte, Nat.reduceSub, Nat.reduceAdd, Nat.reduceMul, Nat.reduceBEq, Nat.reduceLT, Nat.reduceLeDiff, Nat.reduceEqDiff, reduceCtorEq, Int.reduceToNat, Int.reduceLE, Int.reduceLT, Int.reduceBEq, Int.reduceBNe, mCall, k1]
set_option maxHeartbeats 4000000 in
theorem r12one_spec {K : Int} {w : Wo} {dl : List Md} {th : List Tm} (hin : WIn K w) (ht : K + 20200000000 ≤ topV) (hth : ThOk K th) (hdl : DlOk K dl) (hlen : th.length = dl.length) (hcl : w.ctx.length + 1048576 < room) {i : Nat} (hi : i < dl.length) :
    ∃ h, (lim C).call 31 [dDs w.sig, dMs w.metas, dL w.ctx, dM (dl.getD i default), .d (.slc ((encs th).take i)), dT (th.getD i default)] [] = some (.ret (dI (subW w dl th i)), h) := by
  have hr : room = 1099511627776 := rfl
  obtain ⟨sg, ms, ext⟩ := w
  have hcl : ext.length + 1048576 < room := hcl
  have hit : i < th.length := by omega
  obtain ⟨d1, d2, d3⟩ := hdl.all _ (mget_mem hi)
  have hti := hth.take i
  have tz := hth.all _ (getD_mem (a := th) hit)
  obtain ⟨h1, c1⟩ := rCtx_spec hti (dl.getD i default).ctx d1 0 (by unfold in64; omega)
  obtain ⟨h2, c2⟩ := rFill_spec hti (dl.getD i default).t d2 d3 (dl.getD i default).ctx.length
  have hci := ctxR_in (n := 0) hti d1
  have hd1 := d1.len
  have hk := hin.hk
  obtain ⟨h3, c3⟩ := rTerm_spec (hin.add ht hci.2 (by omega)) (th.getD i default) (subTy dl th i).1 tz.1 (vle_mono (by omega) tz.2) (by have := fillR_size (dl.getD i default).t (th.take i) (dl.getD i default).ctx.length; unfold subTy; omega) (fillR_vle' hti d3 _)
  have hlx : ext.length + (subCx dl th i).1.length ≤ room := by have := hci.1; unfold subCx; omega
  have c3 : (lim C).call 47 [dDs sg, dMs ms, .d (.slc (encs (ext ++ (subCx dl th i).1))), dT (th.getD i default), dT (subTy dl th i).1] [] = some (.ret (dI (TermR (Wo.wd ⟨sg, ms, ext⟩) (ext ++ (subCx dl th i).1) (th.getD i default) (subTy dl th i).1)), h3) := c3
  rw [encs_append] at c3
  have c1 : (lim C).call 45 [dL (dl.getD i default).ctx, .d (.slc (encs (th.take i))), dI 0] [] = some (.ret (.tup [dL (subCx dl th i).1, dI (subCx dl th i).2]), h1) := c1
  have c2 : (lim C).call 46 [dT (dl.getD i default).t, .d (.slc (encs (th.take i))), dI (dl.getD i default).ctx.length] [] = some (.ret (.tup [dT (subTy dl th i).1, dI (subTy dl th i).2]), h2) := c2
  rw [encs_take] at c1 c2
  have a1 := fun locs heap => app_first (encs ext) 3 locs heap (by rw [encs_length]; omega) (encs_all _)
  have a2 := fun locs heap => app_own (encs ext) (encs (subCx dl th i).1) locs heap (by rw [encs_length, encs_length]; omega) (encs_all _) (encs_all _)
  simp only [encs_length] at a1 a2
  have hsw : subW ⟨sg, ms, ext⟩ dl th i = if (subCx dl th i).2 ≠ 0 then (subCx dl th i).2 else if (subTy dl th i).2 ≠ 0 then (subTy dl th i).2
    else if TermR (Wo.wd ⟨sg, ms, ext⟩) (ext ++ (subCx dl th i).1) (th.getD i default) (subTy dl th i).1 ≠ 0 then TermR (Wo.wd ⟨sg, ms, ext⟩) (ext ++ (subCx dl th i).1) (th.getD i default) (subTy dl th i).1
    else if ((dl.getD i default).param && !varB (th.getD i default) ms) = true then 3 else 0 := rfl
  generalize subW ⟨sg, ms, ext⟩ dl th i = v at hsw ⊢
  generalize subCx dl th i = cx at *
  generalize subTy dl th i = ty at *
  generalize hte : TermR (Wo.wd ⟨sg, ms, ext⟩) (ext ++ cx.1) (th.getD i default) ty.1 = te at *
  have het := (enc_eq (th.getD i default)).symm
  have hea := (enc_eq (dl.getD i default).t).symm
  have hey := (enc_eq ty.1).symm
  have hz' : ((0 : Int) != 0) = false := rfl
  refine ⟨[], ?_⟩
  rw [ev_fn 31 Tryz.f31 _ _ _ rfl Tryz.func31 rfl Tryz.ntmps31 rfl]
  by_cases e1 : cx.2 = 0
  · rw [e1] at c1 hsw
    rw [if_neg (by decide)] at hsw
    by_cases e2 : ty.2 = 0
    · rw [e2] at c2 hsw
      rw [if_neg (by decide)] at hsw
      by_cases e3 : te = 0
      · subst e3
        rw [if_neg (by decide)] at hsw
        have hmt := mayW_of (TermR_ok hte).1 (th.getD i default) (by simp)
        obtain ⟨h4, hv⟩ := r12var_spec (th.getD i default) ms (nodes_head (may_parts hmt).1)
        cases e5 : varB (th.getD i default) ms
        · rw [e5] at hv hsw
          cases e4 : (dl.getD i default).param
          · rw [e4, if_neg (by simp)] at hsw
            subst hsw
            simp -implicitDefEqProofs (disch := decide +kernel) only [go_sem, ↓reduceIte, Nat.reduceSub, Nat.reduceAdd, Nat.reduceMul, Nat.reduceBEq, Nat.reduceLT, Nat.reduceLeDiff, Nat.reduceEqDiff, reduceCtorEq, Int.reduceToNat, Int.reduceLE, Int.reduceLT, Int.reduceBEq, Int.reduceBNe, mCall, a1, a2, c1, c2, c3, e4, hv, hz', het, hea, hey, cells_enc, cel3, cells_encM]
          · rw [e4, if_pos (by rfl)] at hsw
            subst hsw
            simp -implicitDefEqProofs (disch := decide +kernel) only [go_sem, ↓reduceIte, Nat.reduceSub, Nat.reduceAdd, Nat.reduceMul, Nat.reduceBEq, Nat.reduceLT, Nat.reduceLeDiff, Nat.reduceEqDiff, reduceCtorEq, Int.reduceToNat, Int.reduceLE, Int.reduceLT, Int.reduceBEq, Int.reduceBNe, mCall, a1, a2, c1, c2, c3, e4, hv, hz', het, hea, hey, cells_enc, cel3, cells_encM]
        · rw [e5] at hv hsw
          cases e4 : (dl.getD i default).param
          · rw [e4, if_neg (by simp)] at hsw
            subst hsw
            simp -implicitDefEqProofs (disch := decide +kernel) only [go_sem, ↓reduceIte, Nat.reduceSub, Nat.reduceAdd, Nat.reduceMul, Nat.reduceBEq, Nat.reduceLT, Nat.reduceLeDiff, Nat.reduceEqDiff, reduceCtorEq, Int.reduceToNat, Int.reduceLE, Int.reduceLT, Int.reduceBEq, Int.reduceBNe, mCall, a1, a2, c1, c2, c3, e4, hv, hz', het, hea, hey, cells_enc, cel3, cells_encM]
          · rw [e4, if_neg (by decide)] at hsw
            subst hsw
            simp -implicitDefEqProofs (disch := decide +kernel) only [go_sem, ↓reduceIte, Nat.reduceSub, Nat.reduceAdd, Nat.reduceMul, Nat.reduceBEq, Nat.reduceLT, Nat.reduceLeDiff, Nat.reduceEqDiff, reduceCtorEq, Int.reduceToNat, Int.reduceLE, Int.reduceLT, Int.reduceBEq, Int.reduceBNe, mCall, a1, a2, c1, c2, c3, e4, hv, hz', het, hea, hey, cells_enc, cel3, cells_encM]
      · have e3'' : (te != 0) = true := by simpa using e3
        rw [if_pos e3] at hsw
        subst hsw
        simp -implicitDefEqProofs (disch := decide +kernel) only [go_sem, ↓reduceIte, Nat.reduceSub, Nat.reduceAdd, Nat.reduceMul, Nat.reduceBEq, Nat.reduceLT, Nat.reduceLeDiff, Nat.reduceEqDiff, reduceCtorEq, Int.reduceToNat, Int.reduceLE, Int.reduceLT, Int.reduceBEq, Int.reduceBNe, mCall, a1, a2, c1, c2, c3, hz', e3'', het, hea, hey, cells_enc, cel3, cells_encM]
    · have e2'' : (ty.2 != 0) = true := by simpa using e2
      rw [if_pos e2] at hsw
      subst hsw
      simp -implicitDefEqProofs (disch := decide +kernel) only [go_sem, ↓reduceIte, Nat.reduceSub, Nat.reduceAdd, Nat.reduceMul, Nat.reduceBEq, Nat.reduceLT, Nat.reduceLeDiff, Nat.reduceEqDiff, reduceCtorEq, Int.reduceToNat, Int.reduceLE, Int.reduceLT, Int.reduceBEq, Int.reduceBNe, mCall, c1, c2, hz', e2'', het, hea, hey, cells_enc, cel3, cells_encM]
  · have e1' : (cx.2 != 0) = true := by simpa using e1
    rw [if_pos e1] at hsw
    subst hsw
    simp -implicitDefEqProofs (disch := decide +kernel) only [go_sem, ↓reduceIte, Nat.reduceSub, Nat.reduceAdd, Nat.reduceMul, Nat.reduceBEq, Nat.reduceLT, Nat.reduceLeDiff, Nat.reduceEqDiff, reduceCtorEq, Int.reduceToNat, Int.reduceLE, Int.reduceLT, Int.reduceBEq, Int.reduceBNe, mCall, c1, e1', het, hea, hey, cells_enc, cel3, cells_encM]
def rs12_S (w : Wo) (dl : List Md) (th : List Tm) (i : Nat) : St := mk 45 [(0, dDs w.sig), (1, dMs w.metas), (2, dL w.ctx), (3, dMs dl), (4, dL th), (11, dI i)] [] [] []
theorem r12Sub_spec {K : Int} {w : Wo} {dl : List Md} {th : List Tm} (hin : WIn K w) (ht : K + 20200000000 ≤ topV) (hth : ThOk K th) (hdl : DlOk K dl) (hcl : w.ctx.length + 1048576 < room) : (lim C).call 11 [dDs w.sig, dMs w.metas, dL w.ctx, dMs dl, dL th] [] = some (.ret (dI (SubR w dl th)), []) := by
  have hr : room = 1099511627776 := rfl
  have hdll := hdl.len
  have h01 : ((0 : Int) != 0) = false := rfl
  unfold SubR
  rw [ev_fn 11 Tryz.f11 _ _ _ rfl Tryz.func11 rfl Tryz.ntmps11 rfl]
  cases k1 : decide ((dl.length : Int) > 40)
  · rw [if_neg (by simpa using k1)]
    cases k2 : ((th.length : Int) != (dl.length : Int))
    · have hlen : th.length = dl.length := by
        have h : (th.length : Int) = (dl.length : Int) := by simpa using k2
        omega
      rw [if_neg (by omega), hlen]
      have hloop : (lim C).code 11 (.loop (cf (cf (cs (cf (cs (cs (cs (bodyOf Tryz.f11))))))))) (rs12_S w dl th 0) = some (if (fstR (subW w dl th) dl.length 0).2 = 0 then (.exit 0, mk 45 [(0, dDs w.sig), (1, dMs w.metas), (2, dL w.ctx), (3, dMs dl), (4, dL th), (11, dI dl.length), (24, dB false)] [] [] []) else (.ret, (fun r : Int × Int => mk 45 [(10, dI r.2)] [] [] []) (fstR (subW w dl th) dl.length 0))) := by
        refine loop_first (rs12_S w dl th) _ dl.length (R := fun r : Int × Int => mk 45 [(10, dI r.2)] [] [] []) (fun i hi hp h0 => ?_) (fun i hi hp h0 => ?_) ?_ (by simp)
        · obtain ⟨h, c1⟩ := r12one_spec hin ht hth hdl hlen hcl hi
          rw [h0] at c1
          have hit : i < th.length := by omega
          have hle : i ≤ th.length := by omega
          simp -implicitDefEqProofs (disch := decide +kernel) only [cf, cs, bodyOf, Tryz.f11, Option.getD_some, go_sem, ↓reduceIte, Nat.reduceSub, Nat.reduceAdd, Nat.reduceMul, Nat.reduceBEq, Nat.reduceLT, Nat.reduceLeDiff, Nat.reduceEqDiff, reduceCtorEq, Int.reduceToNat, Int.reduceLE, Int.reduceLT, Int.reduceBEq, Int.reduceBNe, mCall, rs12_S, lt_true hi, mget_get hi, getD_get hit, hle, Nat.zero_le, encs_all, c1, h01, cells_encM, cells_enc, cel3, (enc_eq (th.getD i default)).symm, wrap_succ (n := i) (by omega)]
        · obtain ⟨h, c1⟩ := r12one_spec hin ht hth hdl hlen hcl hi
          have e' : (subW w dl th i != 0) = true := by simpa using h0
          have hit : i < th.length := by omega
          have hle : i ≤ th.length := by omega
          simp -implicitDefEqProofs (disch := decide +kernel) only [cf, cs, bodyOf, Tryz.f11, Option.getD_some, go_sem, ↓reduceIte, Nat.reduceSub, Nat.reduceAdd, Nat.reduceMul, Nat.reduceBEq, Nat.reduceLT, Nat.reduceLeDiff, Nat.reduceEqDiff, reduceCtorEq, Int.reduceToNat, Int.reduceLE, Int.reduceLT, Int.reduceBEq, Int.reduceBNe, mCall, rs12_S, lt_true hi, mget_get hi, getD_get hit, hle, Nat.zero_le, encs_all, c1, e', cells_encM, cells_enc, cel3, (enc_eq (th.getD i default)).symm]
        · simp -implicitDefEqProofs (disch := decide +kernel) only [cf, cs, bodyOf, Tryz.f11, Option.getD_some, go_sem, ↓reduceIte, Nat.reduceSub, Nat.reduceAdd, Nat.reduceMul, Nat.reduceBEq, Nat.reduceLT, Nat.reduceLeDiff, Nat.reduceEqDiff, reduceCtorEq, Int.reduceToNat, Int.reduceLE, Int.reduceLT, Int.reduceBEq, Int.reduceBNe, mCall, rs12_S, lt_false (Nat.le_refl dl.length)]
      simp -implicitDefEqProofs (disch := decide +kernel) only [go_sem, ↓reduceIte, Nat.reduceSub, Nat.reduceAdd, Nat.reduceMul, Nat.reduceBEq, Nat.reduceLT, Nat.reduceLeDiff, Nat.reduceEqDiff, reduceCtorEq, Int.reduceToNat, Int.reduceLE, Int.reduceLT, Int.reduceBEq, Int.reduceBNe, mCall, k1, k2]
      rw [loop_at hloop ?hb ?hs]
      case hb => rfl
      case hs => rfl
      by_cases e : (fstR (subW w dl th) dl.length 0).2 = 0
      · rw [if_pos e]
        simp -implicitDefEqProofs (disch := decide +kernel) only [go_sem, ↓reduceIte, Nat.reduceSub, Nat.reduceAdd, Nat.reduceMul, Nat.reduceBEq, Nat.reduceLT, Nat.reduceLeDiff, Nat.reduceEqDiff, reduceCtorEq, Int.reduceToNat, Int.reduceLE, Int.reduceLT, Int.reduceBEq, Int.reduceBNe, mCall, e]
      · rw [if_neg e]
        simp -implicitDefEqProofs (disch := decide +kernel) only [go_sem, ↓reduceIte, Nat.reduceSub, Nat.reduceAdd, Nat.reduceMul, Nat.reduceBEq, Nat.reduceLT, Nat.reduceLeDiff, Nat.reduceEqDiff, reduceCtorEq, Int.reduceToNat, Int.reduceLE, Int.reduceLT, Int.reduceBEq, Int.reduceBNe, mCall, e]
    · have hlen : th.length ≠ dl.length := by
        have h : ¬(th.length : Int) = (dl.length : Int) := by simpa using k2
        omega
      rw [if_pos hlen]
      simp -implicitDefEqProofs (disch := decide +kernel) only [go_sem, ↓reduceIte, Nat.reduceSub, Nat.reduceAdd, Nat.reduceMul, Nat.reduceBEq, Nat.reduceLT, Nat.reduceLeDiff, Nat.reduceEqDiff, reduceCtorEq, Int.reduceToNat, Int.reduceLE, Int.reduceLT, Int.reduceBEq, Int.reduceBNe, mCall, k1, k2]
  · rw [if_pos (by simpa using k1)]
    simp -implicitDefEqProofs (disch := decide +kernel) only [go_sem, ↓reduceIte, Nat.reduceSub, Nat.reduceAdd, Nat.reduceMul, Nat.reduceBEq, Nat.reduceLT, Nat.reduceLeDiff, Nat.reduceEqDiff, reduceCtorEq, Int.reduceToNat, Int.reduceLE, Int.reduceLT, Int.reduceBEq, Int.reduceBNe, mCall, k1]
def rsz_S (ms : List Md) (i : Nat) : St := mk 21 [(0, dMs ms), (3, acc 0 (encIs ((SizesL ms).take i))), (4, dI i)] [] [] (tkA [] ((SizesL ms).take i).length)
theorem r12Sizes_spec (ms : List Md) (hl : ms.length < room) : (lim C).call 15 [dMs ms] [] = some (.ret (.d (.slc (encIs (SizesL ms)))), []) := by
  have hr : room = 1099511627776 := rfl
  have hlen : ∀ i, i ≤ ms.length → ((SizesL ms).take i).length = i := fun i h => by simp [SizesL]; omega
  have hloop : (lim C).code 15 (.loop (cf (cf (cs (cf (cs (cs (bodyOf Tryz.f15)))))))) (rsz_S ms 0) = some (.exit 0, mk 21 [(0, dMs ms), (3, acc 0 (encIs (SizesL ms))), (4, dI ms.length), (8, dB false)] [] [] (tkA [] (SizesL ms).length)) := by
    refine loop_run (rsz_S ms) ms.length (fun i hi => ?_) ?_ (by simp)
    · have ha := fun locs heap => app_gen2 (encIs ((SizesL ms).take i)) [.int .i64 ((ms.getD i default).ctx.length : Int)] 1 rfl [] locs heap (by rw [encIs_len, hlen i (by omega)]; simp; omega) (encIs_all _) rfl
      simp only [SizesL_snoc hi, encIs_len, List.length_nil] at ha
      simp -implicitDefEqProofs (disch := decide +kernel) only [cf, cs, bodyOf, Tryz.f15, Option.getD_some, go_sem, ↓reduceIte, Nat.reduceSub, Nat.reduceAdd, Nat.reduceMul, Nat.reduceBEq, Nat.reduceLT, Nat.reduceLeDiff, Nat.reduceEqDiff, reduceCtorEq, Int.reduceToNat, Int.reduceLE, Int.reduceLT, Int.reduceBEq, Int.reduceBNe, mCall, rsz_S, lt_true hi, mget_get hi, cells_encM, acc_sl, acc_okA, ha, wrap_succ (n := i) (by omega)]
    · have ht : (SizesL ms).take ms.length = SizesL ms := by rw [List.take_of_length_le]; simp [SizesL]
      simp -implicitDefEqProofs (disch := decide +kernel) only [cf, cs, bodyOf, Tryz.f15, Option.getD_some, go_sem, ↓reduceIte, Nat.reduceSub, Nat.reduceAdd, Nat.reduceMul, Nat.reduceBEq, Nat.reduceLT, Nat.reduceLeDiff, Nat.reduceEqDiff, reduceCtorEq, Int.reduceToNat, Int.reduceLE, Int.reduceLT, Int.reduceBEq, Int.reduceBNe, mCall, rsz_S, lt_false (Nat.le_refl ms.length), ht]
  rw [ev_fn 15 Tryz.f15 _ _ _ rfl Tryz.func15 rfl Tryz.ntmps15 rfl]
  simp -implicitDefEqProofs (disch := decide +kernel) only [go_sem, ↓reduceIte, Nat.reduceSub, Nat.reduceAdd, Nat.reduceMul, Nat.reduceBEq, Nat.reduceLT, Nat.reduceLeDiff, Nat.reduceEqDiff, reduceCtorEq, Int.reduceToNat, Int.reduceLE, Int.reduceLT, Int.reduceBEq, Int.reduceBNe, mCall]
  rw [loop_at hloop ?hb ?hs]
  case hb => rfl
  case hs => rfl
  simp -implicitDefEqProofs (disch := decide +kernel) only [go_sem, ↓reduceIte, Nat.reduceSub, Nat.reduceAdd, Nat.reduceMul, Nat.reduceBEq, Nat.reduceLT, Nat.reduceLeDiff, Nat.reduceEqDiff, reduceCtorEq, Int.reduceToNat, Int.reduceLE, Int.reduceLT, Int.reduceBEq, Int.reduceBNe, mCall, acc_erase, acc_okA]
def rpm_S (ms : List Md) (i : Nat) : St := mk 20 [(0, dMs ms), (3, acc 0 (encBs ((ParamsL ms).take i))), (4, dI i)] [] [] (tkA [] ((ParamsL ms).take i).length)
theorem r12Params_spec (ms : List Md) (hl : ms.length < room) : (lim C).call 17 [dMs ms] [] = some (.ret (.d (.slc (encBs (ParamsL ms)))), []) := by
  have hr : room = 1099511627776 := rfl
  have hlen : ∀ i, i ≤ ms.length → ((ParamsL ms).take i).length = i := fun i h => by simp [ParamsL]; omega
  have hloop : (lim C).code 17 (.loop (cf (cf (cs (cf (cs (cs (bodyOf Tryz.f17)))))))) (rpm_S ms 0) = some (.exit 0, mk 20 [(0, dMs ms), (3, acc 0 (encBs (ParamsL ms))), (4, dI ms.length), (8, dB false)] [] [] (tkA [] (ParamsL ms).length)) := by
    refine loop_run (rpm_S ms) ms.length (fun i hi => ?_) ?_ (by simp)
    · have ha := fun locs heap => app_gen2 (encBs ((ParamsL ms).take i)) [.bool (ms.getD i default).param] 1 rfl [] locs heap (by rw [encBs_len, hlen i (by omega)]; simp; omega) (encBs_all _) rfl
      simp only [ParamsL_snoc hi, encBs_len, List.length_nil] at ha
      simp -implicitDefEqProofs (disch := decide +kernel) only [cf, cs, bodyOf, Tryz.f17, Option.getD_some, go_sem, ↓reduceIte, Nat.reduceSub, Nat.reduceAdd, Nat.reduceMul, Nat.reduceBEq, Nat.reduceLT, Nat.reduceLeDiff, Nat.reduceEqDiff, reduceCtorEq, Int.reduceToNat, Int.reduceLE, Int.reduceLT, Int.reduceBEq, Int.reduceBNe, mCall, rpm_S, lt_true hi, mget_get hi, cells_encM, acc_sl, acc_okA, ha, wrap_succ (n := i) (by omega)]
    · have ht : (ParamsL ms).take ms.length = ParamsL ms := by rw [List.take_of_length_le]; simp [ParamsL]
      simp -implicitDefEqProofs (disch := decide +kernel) only [cf, cs, bodyOf, Tryz.f17, Option.getD_some, go_sem, ↓reduceIte, Nat.reduceSub, Nat.reduceAdd, Nat.reduceMul, Nat.reduceBEq, Nat.reduceLT, Nat.reduceLeDiff, Nat.reduceEqDiff, reduceCtorEq, Int.reduceToNat, Int.reduceLE, Int.reduceLT, Int.reduceBEq, Int.reduceBNe, mCall, rpm_S, lt_false (Nat.le_refl ms.length), ht]
  rw [ev_fn 17 Tryz.f17 _ _ _ rfl Tryz.func17 rfl Tryz.ntmps17 rfl]
  simp -implicitDefEqProofs (disch := decide +kernel) only [go_sem, ↓reduceIte, Nat.reduceSub, Nat.reduceAdd, Nat.reduceMul, Nat.reduceBEq, Nat.reduceLT, Nat.reduceLeDiff, Nat.reduceEqDiff, reduceCtorEq, Int.reduceToNat, Int.reduceLE, Int.reduceLT, Int.reduceBEq, Int.reduceBNe, mCall]
  rw [loop_at hloop ?hb ?hs]
  case hb => rfl
  case hs => rfl
  simp -implicitDefEqProofs (disch := decide +kernel) only [go_sem, ↓reduceIte, Nat.reduceSub, Nat.reduceAdd, Nat.reduceMul, Nat.reduceBEq, Nat.reduceLT, Nat.reduceLeDiff, Nat.reduceEqDiff, reduceCtorEq, Int.reduceToNat, Int.reduceLE, Int.reduceLT, Int.reduceBEq, Int.reduceBNe, mCall, acc_erase, acc_okA]
end Go.Proofs.YtkmpfdecjmnccaaGreat
