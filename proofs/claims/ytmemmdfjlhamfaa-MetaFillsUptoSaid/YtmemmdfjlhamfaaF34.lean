/- The reference of layer 3: apply and spine, told whole. -/
import Derived.Test.YtmemmdfjlhamfaaF33
set_option linter.unusedSimpArgs false
set_option linter.unusedVariables false
set_option maxRecDepth 100000
namespace Go.Proofs.Ytmemmdfjlhamfaa
open Go.Proofs
def RWalk (f : Nat) : Prop := ∀ (t : Tm) (s : Sb) (n : Nat) (h : List HO) (K D H : Int), Pre f n K D H t s →
  (lim C).call 116 [.href h.length 0, dT t, dS s] (h ++ [.var 0 [dI n, dI 0]]) = outW h (ap f t s n)
def outL (h : List HO) : R (Tm × List Tm) → Ex × St
  | .ok p m => (.exit 0, rsp_X p.1 p.2 h m)
  | .er e m => (.ret, rsp_R h m e)
theorem err_ne {e : Nat} (h : e = 3 ∨ e = 4) : ((e : Int) != 0) = true := by
  rcases h with rfl | rfl <;> rfl
theorem loop_nor {f : Nat} {b : Code} {σ σ' : St} (h : (lim C).code f b σ = some (.nor, σ')) : (lim C).code f (.loop b) σ = (lim C).code f (.loop b) σ' := by
  rw [ev_loop, h]; rfl
theorem loop_out {f : Nat} {b : Code} {σ : St} {x : Ex} {σ' : St} (h : (lim C).code f b σ = some (x, σ')) (hx : x ≠ .nor) : (lim C).code f (.loop b) σ = some (x, σ') := by
  rw [ev_loop, h]
  cases x <;> first | rfl | exact absurd rfl hx
theorem rsp_loop {f : Nat} (hA : RWalk f) : ∀ (args : List Tm) (u : Tm) (n : Nat) (h : List HO) (H : Int), 40000 ≤ n + f → n ≤ 40000 → nodesB u = true → vleB H u = true → 0 ≤ H → H + 40001 ≤ 4503599627370496 + n →
    (∀ x ∈ args, nodesB x = true ∧ vleB H x = true) → u.size + (args.map Tm.size).sum + (40000 - n) * 4001 < room →
    (lim C).code 128 (.loop (cf (cf (cf (cs (bodyOf Try.f128)))))) (rsp_S u args h n) = some (outL h (spnL (ap f) u args n))
  | [], u, n, h, H, _, _, _, _, _, _, _, _ => loop_out (rsp_nil rfl h n) (by simp)
  | a :: rest, u, n, h, H, hf, hn, hu, hv, h0, ht, ha, hz => by
    have hr : room = 1099511627776 := rfl
    obtain ⟨a1, a2⟩ := ha a (by simp)
    have hlen := len_sum (a :: rest)
    simp only [List.map_cons, List.sum_cons] at hz hlen
    have hul := len_size u
    have hsza : a.size < room := by omega
    have hlr : (a :: rest).length < room := by omega
    simp only [spnL]
    split
    · rename_i hk
      have hkb : (u.kind == 3) = true := by simpa using hk
      split
      · rename_i hm
        have hul1 := lam_len hu hk
        have hu0 : nodesB (u.arg 0) = true := node_args hu 0 (by omega)
        have hv0 : vleB H (u.arg 0) = true := vle_args hv 0 (by omega)
        have hs1 : SOk H ⟨[a], 0⟩ := ⟨by simpa using hm, by simpa using a2, by simp⟩
        have hsz0 := size_arg (arg_mem (t := u) (i := 0) (by omega))
        have hw := hA (u.arg 0) ⟨[a], 0⟩ n h H (-1) H ⟨hf, hu0, hv0, h0, Int.le_refl _, by omega, by simp, hs1, ht, by omega, by simp; omega, by simp; omega, hn⟩
        cases hap : ap f (u.arg 0) ⟨[a], 0⟩ n with
        | er e m =>
          rw [hap] at hw
          rw [R.bind_er]
          exact loop_out (rsp_lam1 (rest := rest) rfl hkb (by omega) hsza hm (err_ne (ap_err _ _ _ _ _ _ hap)) hw) (by simp)
        | ok v m =>
          rw [hap] at hw
          rw [R.bind_ok]
          obtain ⟨_, hft⟩ := ap_fits f (u.arg 0) ⟨[a], 0⟩ n H (-1) H v m hu0 hv0 h0 (Int.le_refl _) (by omega) (by simp) hs1 hap
          have q1 := hft.lt
          have q2 := hft.lim
          have q3 := hft.size
          have q4 : (40000 - n) * 4001 = (m - n) * 4001 + (40000 - m) * 4001 := by rw [← Nat.add_mul]; congr 1; omega
          have ih := rsp_loop hA rest v m h (H + ((m - n : Nat) : Int)) (by omega) q2 hft.nodes hft.vle (by omega) (by omega) (fun x hx => ⟨(ha x (by simp [hx])).1, vle_mono (by omega) (ha x (by simp [hx])).2⟩) (by omega)
          exact (loop_nor (rsp_lam (rest := rest) rfl hkb (by omega) hsza hm hlr hw)).trans ih
      · rename_i hm
        exact loop_out (rsp_big (rest := rest) rfl hkb hsza (by simpa using hm) h n) (by simp)
    · rename_i hk
      exact loop_out (rsp_head (by simp) (by simpa using hk) h n) (by simp)
/-! ### spine -/
theorem rsp_enter {u : Tm} {l : List Tm} {h : List HO} {n m : Nat} {e : Int} (hloop : (lim C).code 128 (.loop (cf (cf (cf (cs (bodyOf Try.f128)))))) (rsp_S u l h n) = some (.ret, rsp_R h m e)) :
    (lim C).call 128 [.href h.length 0, dT u, dL l] (h ++ [.var 0 [dI n, dI 0]]) = some (.ret (dT zT), h ++ [.var 0 [dI m, dI e]]) := by
  rw [ev_fn 128 Try.f128 _ _ _ rfl Try.func128 rfl Try.ntmps128 rfl]
  simp -implicitDefEqProofs (disch := decide +kernel) only [go_sem, ↓reduceIte, Nat.reduceSub, Nat.reduceAdd, Nat.reduceMul, Nat.reduceBEq, Nat.reduceLT, Nat.reduceLeDiff, Nat.reduceEqDiff, reduceCtorEq, Int.reduceToNat, Int.reduceLE, Int.reduceLT, Int.reduceBEq, Int.reduceBNe, mCall, cells_enc, cel3]
  rw [loop_at hloop ?hb ?hs]
  case hb => rfl
  case hs => rfl
  simp -implicitDefEqProofs (disch := decide +kernel) only [go_sem, ↓reduceIte, Nat.reduceSub, Nat.reduceAdd, Nat.reduceMul, Nat.reduceBEq, Nat.reduceLT, Nat.reduceLeDiff, Nat.reduceEqDiff, reduceCtorEq, Int.reduceToNat, Int.reduceLE, Int.reduceLT, Int.reduceBEq, Int.reduceBNe, mCall, rsp_R, cel3, (enc_eq zT).symm]
theorem rsp_done {u v : Tm} {l l' : List Tm} {h : List HO} {n m : Nat} (hl : l' = []) (hloop : (lim C).code 128 (.loop (cf (cf (cf (cs (bodyOf Try.f128)))))) (rsp_S u l h n) = some (.exit 0, rsp_X v l' h m)) :
    (lim C).call 128 [.href h.length 0, dT u, dL l] (h ++ [.var 0 [dI n, dI 0]]) = some (.ret (dT v), h ++ [.var 0 [dI m, dI 0]]) := by
  have h0 : ((l'.length : Int) == 0) = true := by rw [hl]; rfl
  rw [ev_fn 128 Try.f128 _ _ _ rfl Try.func128 rfl Try.ntmps128 rfl]
  simp -implicitDefEqProofs (disch := decide +kernel) only [go_sem, ↓reduceIte, Nat.reduceSub, Nat.reduceAdd, Nat.reduceMul, Nat.reduceBEq, Nat.reduceLT, Nat.reduceLeDiff, Nat.reduceEqDiff, reduceCtorEq, Int.reduceToNat, Int.reduceLE, Int.reduceLT, Int.reduceBEq, Int.reduceBNe, mCall, cells_enc, cel3]
  rw [loop_at hloop ?hb ?hs]
  case hb => rfl
  case hs => rfl
  simp -implicitDefEqProofs (disch := decide +kernel) only [go_sem, ↓reduceIte, Nat.reduceSub, Nat.reduceAdd, Nat.reduceMul, Nat.reduceBEq, Nat.reduceLT, Nat.reduceLeDiff, Nat.reduceEqDiff, reduceCtorEq, Int.reduceToNat, Int.reduceLE, Int.reduceLT, Int.reduceBEq, Int.reduceBNe, mCall, rsp_X, cel3, zc3, cells_enc, h0, (enc_eq v).symm]
theorem rsp_heads {u v : Tm} {l l' : List Tm} {h : List HO} {n m : Nat} (hl : 0 < l'.length) (hlr : v.args.length + l'.length < room) (hk : heads v.kind = true) (hloop : (lim C).code 128 (.loop (cf (cf (cf (cs (bodyOf Try.f128)))))) (rsp_S u l h n) = some (.exit 0, rsp_X v l' h m)) :
    (lim C).call 128 [.href h.length 0, dT u, dL l] (h ++ [.var 0 [dI n, dI 0]]) = some (.ret (dT (.mk v.kind v.head (v.args ++ l'))), h ++ [.var 0 [dI m, dI 0]]) := by
  have hr : room = 1099511627776 := rfl
  have h0 : ((l'.length : Int) == 0) = false := by simp; intro e; rw [e] at hl; simp at hl
  have ha1 := fun locs heap => app_first (encs v.args) 3 locs heap (by rw [encs_length]; omega) (encs_all _)
  have ha2 := fun locs heap => app_more (encs v.args) (encs l') 3 (by simp) locs heap (by rw [encs_length, encs_length]; omega) (encs_all _) (encs_all _)
  simp only [encs_length, ← encs_append] at ha1 ha2
  have he := tm_enc v.kind v.head (v.args ++ l')
  rw [ev_fn 128 Try.f128 _ _ _ rfl Try.func128 rfl Try.ntmps128 rfl]
  simp -implicitDefEqProofs (disch := decide +kernel) only [go_sem, ↓reduceIte, Nat.reduceSub, Nat.reduceAdd, Nat.reduceMul, Nat.reduceBEq, Nat.reduceLT, Nat.reduceLeDiff, Nat.reduceEqDiff, reduceCtorEq, Int.reduceToNat, Int.reduceLE, Int.reduceLT, Int.reduceBEq, Int.reduceBNe, mCall, cells_enc, cel3]
  rw [loop_at hloop ?hb ?hs]
  case hb => rfl
  case hs => rfl
  cases k4 : (v.kind != 4)
  · simp -implicitDefEqProofs (disch := decide +kernel) only [go_sem, ↓reduceIte, Nat.reduceSub, Nat.reduceAdd, Nat.reduceMul, Nat.reduceBEq, Nat.reduceLT, Nat.reduceLeDiff, Nat.reduceEqDiff, reduceCtorEq, Int.reduceToNat, Int.reduceLE, Int.reduceLT, Int.reduceBEq, Int.reduceBNe, mCall, rsp_X, cel3, zc3, cells_enc, h0, k4, ha1, ha2, he]
  · cases k5 : (v.kind != 5)
    · simp -implicitDefEqProofs (disch := decide +kernel) only [go_sem, ↓reduceIte, Nat.reduceSub, Nat.reduceAdd, Nat.reduceMul, Nat.reduceBEq, Nat.reduceLT, Nat.reduceLeDiff, Nat.reduceEqDiff, reduceCtorEq, Int.reduceToNat, Int.reduceLE, Int.reduceLT, Int.reduceBEq, Int.reduceBNe, mCall, rsp_X, cel3, zc3, cells_enc, h0, k4, k5, ha1, ha2, he]
    · have k2 : (v.kind != 2) = false := by
        simp only [heads, Bool.or_eq_true, beq_iff_eq] at hk
        simp only [bne_iff_ne, ne_eq] at k4 k5
        simp; omega
      simp -implicitDefEqProofs (disch := decide +kernel) only [go_sem, ↓reduceIte, Nat.reduceSub, Nat.reduceAdd, Nat.reduceMul, Nat.reduceBEq, Nat.reduceLT, Nat.reduceLeDiff, Nat.reduceEqDiff, reduceCtorEq, Int.reduceToNat, Int.reduceLE, Int.reduceLT, Int.reduceBEq, Int.reduceBNe, mCall, rsp_X, cel3, zc3, cells_enc, h0, k4, k5, k2, ha1, ha2, he]
theorem rsp_bad {u v : Tm} {l l' : List Tm} {h : List HO} {n m : Nat} (hl : 0 < l'.length) (hk : heads v.kind = false) (hloop : (lim C).code 128 (.loop (cf (cf (cf (cs (bodyOf Try.f128)))))) (rsp_S u l h n) = some (.exit 0, rsp_X v l' h m)) :
    (lim C).call 128 [.href h.length 0, dT u, dL l] (h ++ [.var 0 [dI n, dI 0]]) = some (.ret (dT zT), h ++ [.var 0 [dI m, dI 3]]) := by
  have h0 : ((l'.length : Int) == 0) = false := by simp; intro e; rw [e] at hl; simp at hl
  simp only [heads, Bool.or_eq_false_iff, beq_eq_false_iff_ne] at hk
  obtain ⟨⟨q4, q5⟩, q2⟩ := hk
  have k4 : (v.kind != 4) = true := by simpa using q4
  have k5 : (v.kind != 5) = true := by simpa using q5
  have k2 : (v.kind != 2) = true := by simpa using q2
  have hf := rfail_spec h m 3
  rw [ev_fn 128 Try.f128 _ _ _ rfl Try.func128 rfl Try.ntmps128 rfl]
  simp -implicitDefEqProofs (disch := decide +kernel) only [go_sem, ↓reduceIte, Nat.reduceSub, Nat.reduceAdd, Nat.reduceMul, Nat.reduceBEq, Nat.reduceLT, Nat.reduceLeDiff, Nat.reduceEqDiff, reduceCtorEq, Int.reduceToNat, Int.reduceLE, Int.reduceLT, Int.reduceBEq, Int.reduceBNe, mCall, cells_enc, cel3]
  rw [loop_at hloop ?hb ?hs]
  case hb => rfl
  case hs => rfl
  simp -implicitDefEqProofs (disch := decide +kernel) only [go_sem, ↓reduceIte, Nat.reduceSub, Nat.reduceAdd, Nat.reduceMul, Nat.reduceBEq, Nat.reduceLT, Nat.reduceLeDiff, Nat.reduceEqDiff, reduceCtorEq, Int.reduceToNat, Int.reduceLE, Int.reduceLT, Int.reduceBEq, Int.reduceBNe, mCall, rsp_X, cel3, zc3, cells_enc, h0, k4, k5, k2, hf, (enc_eq zT).symm]
end Go.Proofs.Ytmemmdfjlhamfaa
