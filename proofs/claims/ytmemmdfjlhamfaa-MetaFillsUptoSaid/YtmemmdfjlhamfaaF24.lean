/- subst: apply and spine, told whole. -/
import Derived.Test.YtmemmdfjlhamfaaF23
set_option linter.unusedSimpArgs false
set_option linter.unusedVariables false
set_option maxRecDepth 100000
namespace Go.Proofs.Ytmemmdfjlhamfaa
open Go.Proofs
theorem seqF_pre {g : Nat → Nat → R Tm} {n : Nat} : ∀ {k : Nat} {xs : List Tm} {m : Nat}, seqF g n k = .ok xs m → ∀ i, i ≤ k → ∃ ys m1, seqF g n i = .ok ys m1
  | 0, xs, m, h, i, hi => by
    obtain rfl : i = 0 := by omega
    exact ⟨_, _, h⟩
  | k + 1, xs, m, h, i, hi => by
    rcases Nat.lt_or_ge k i with hk | hk
    · obtain rfl : i = k + 1 := by omega
      exact ⟨_, _, h⟩
    · obtain ⟨ys, m1, h1, _⟩ := R.bind_eq h
      exact seqF_pre h1 i hk
theorem seqF_er {g : Nat → Nat → R Tm} {n : Nat} : ∀ {k e m : Nat}, seqF g n k = .er e m → ∃ j xs mj, j < k ∧ seqF g n j = .ok xs mj ∧ g j mj = .er e m
  | 0, e, m, h => by cases h
  | k + 1, e, m, h => by
    cases hk : seqF g n k with
    | er e' m' =>
      simp only [seqF, hk, R.bind_er, R.er.injEq] at h
      obtain ⟨rfl, rfl⟩ := h
      obtain ⟨j, xs, mj, h1, h2, h3⟩ := seqF_er hk
      exact ⟨j, xs, mj, by omega, h2, h3⟩
    | ok xs mk =>
      simp only [seqF, hk, R.bind_ok] at h
      cases hg : g k mk with
      | er e' m' =>
        rw [hg, R.bind_er] at h
        simp only [R.er.injEq] at h
        obtain ⟨rfl, rfl⟩ := h
        exact ⟨k, xs, mk, by omega, hk, hg⟩
      | ok x m' => rw [hg] at h; cases h
theorem seqF_succ {g : Nat → Nat → R Tm} {n k : Nat} {xs : List Tm} {m : Nat} {x : Tm} {m' : Nat} (h1 : seqF g n k = .ok xs m) (h2 : g k m = .ok x m') : seqF g n (k + 1) = .ok (xs ++ [x]) m' := by
  simp only [seqF, h1, h2, R.bind_ok]
/-- What is asked before a term is gone to. -/
structure Pre (f n : Nat) (K D H : Int) (t : Tm) (s : Sb) : Prop where
  fuel : 40000 ≤ n + f
  nodes : nodesB t = true
  vle : vleB K t = true
  k0 : 0 ≤ K
  kh : K ≤ H
  kd : K + D ≤ H
  sd : s.sh - s.L.length ≤ D
  ok : SOk H s
  top : H + 40001 ≤ 4503599627370496 + n
  ts : t.size < room
  sl : s.L.length + 40001 ≤ 1000000000000 + n
  ss : s.sh + 40001 ≤ 4503599627370496 + n
  nb : n ≤ 40000
def Walk (f : Nat) : Prop := ∀ (t : Tm) (s : Sb) (n : Nat) (h : List HO) (K D H : Int), Pre f n K D H t s →
  (lim C).call 66 [.href h.length 0, dT t, dS s] (h ++ [.var 0 [dI n]]) = outR h (ap f t s n)
theorem spn_walk {f : Nat} (hA : Walk f) : ∀ (args : List Tm) (u : Tm) (n : Nat) (h : List HO) (H : Int), 40000 ≤ n + f → n ≤ 40000 → nodesB u = true → vleB H u = true → 0 ≤ H → H + 40001 ≤ 4503599627370496 + n →
    (∀ x ∈ args, nodesB x = true ∧ vleB H x = true) → u.size + (args.map Tm.size).sum + (40000 - n) * 4001 < room →
    (lim C).call 91 [.href h.length 0, dT u, dL args] (h ++ [.var 0 [dI n]]) = outR h (spnA (ap f) u args n)
  | [], u, n, h, H, _, _, _, _, _, _, _, _ => spn_nil u [] rfl n h
  | a :: rest, u, n, h, H, hf, hn, hu, hv, h0, ht, ha, hz => by
    have hr : room = 1099511627776 := rfl
    obtain ⟨a1, a2⟩ := ha a (by simp)
    have hlen := len_sum (a :: rest)
    simp only [List.map_cons, List.sum_cons] at hz hlen
    have hul := len_size u
    have hsza : a.size < room := by omega
    have hlr : (a :: rest).length < room := by omega
    simp only [spnA]
    split
    · rename_i hk
      have hkb : (u.kind == 3) = true := by simpa using hk
      split
      · rename_i hm
        have hul1 : u.args.length = 1 := by
          have hnu := node_here hu
          unfold nodeOk at hnu
          simp [hk] at hnu
          exact hnu.2
        have hu0 : nodesB (u.arg 0) = true := node_args hu 0 (by omega)
        have hv0 : vleB H (u.arg 0) = true := vle_args hv 0 (by omega)
        have hs1 : SOk H ⟨[a], 0⟩ := ⟨by simpa using hm, by simpa using a2, by simp⟩
        have hsz0 := size_arg (arg_mem (t := u) (i := 0) (by omega))
        have hw := hA (u.arg 0) ⟨[a], 0⟩ n h H (-1) H ⟨hf, hu0, hv0, h0, Int.le_refl _, by omega, by simp, hs1, ht, by omega, by simp; omega, by simp; omega, hn⟩
        cases hap : ap f (u.arg 0) ⟨[a], 0⟩ n with
        | er e m =>
          rw [hap] at hw
          rw [R.bind_er]
          exact spn_lam1 (m := m) (h' := h ++ [.var 0 [dI m]]) hkb (by omega) hm (rest := rest) hsza rfl hlr hw
        | ok v m =>
          rw [hap] at hw
          rw [R.bind_ok]
          obtain ⟨_, hft⟩ := ap_fits f (u.arg 0) ⟨[a], 0⟩ n H (-1) H v m hu0 hv0 h0 (Int.le_refl _) (by omega) (by simp) hs1 hap
          have q1 := hft.lt
          have q2 := hft.lim
          have q3 := hft.size
          have q4 : (40000 - n) * 4001 = (m - n) * 4001 + (40000 - m) * 4001 := by rw [← Nat.add_mul]; congr 1; omega
          have ih := spn_walk hA rest v m h (H + ((m - n : Nat) : Int)) (by omega) q2 hft.nodes hft.vle (by omega) (by omega) (fun x hx => ⟨(ha x (by simp [hx])).1, vle_mono (by omega) (ha x (by simp [hx])).2⟩) (by omega)
          cases hsp : spnA (ap f) v rest m with
          | er e m' =>
            rw [hsp] at ih
            exact spn_lam2 hkb (by omega) hm (rest := rest) hsza rfl hlr hw ih
          | ok r m' =>
            rw [hsp] at ih
            exact spn_lam hkb (by omega) hm (rest := rest) hsza rfl hlr hw ih
      · rename_i hm
        exact spn_big hkb (by simpa using hm) hsza rfl
    · rename_i hk
      have hkb : (u.kind == 3) = false := by simpa using hk
      split
      · rename_i hh
        exact spn_head (rest := rest) hh rfl (by omega)
      · rename_i hh
        exact spn_bad (by simpa using hh) hkb rfl

/-! ### apply -/
theorem ap_over {t : Tm} {s : Sb} {n : Nat} {h : List HO} (hn : n + 1 > 40000) (hn2 : n < 9223372036854775807) : (lim C).call 66 [.href h.length 0, dT t, dS s] (h ++ [.var 0 [dI n]]) = some (.pan (errV 4), h ++ [.var 0 [dI (n + 1 : Nat)]]) := by
  have hgt : decide (((n + 1 : Nat) : Int) > 40000) = true := by simp; omega
  rw [ev_fn 66 Try.f66 _ _ _ rfl Try.func66 rfl Try.ntmps66 rfl]
  simp -implicitDefEqProofs (disch := decide +kernel) only [go_sem, ↓reduceIte, Nat.reduceSub, Nat.reduceAdd, Nat.reduceMul, Nat.reduceBEq, Nat.reduceLT, Nat.reduceLeDiff, Nat.reduceEqDiff, reduceCtorEq, Int.reduceToNat, Int.reduceLE, Int.reduceLT, Int.reduceBEq, Int.reduceBNe, mCall, cells_enc, cells_encS, cel3, cel2, getApp0, setApp0, wrap_succ hn2, hgt, fail_spec]
  rfl
def ap_X (t : Tm) (s : Sb) (h : List HO) (xs : List Tm) (m : Nat) : St :=
  mk 78 [(0, .href h.length 0), (4, .lref 4 0), (5, .lref 5 0), (6, .lref 6 0), (7, .lref 7 0), (30, dL t.args), (31, dI t.args.length), (32, dI t.args.length), (33, dB false)]
    [(4, cel3 t), (5, cel2 s), (6, zc3), (7, [dI t.kind, dI t.head, acc 0 (encs xs)])] (h ++ [.var 0 [dI m]]) (accT xs.length)
theorem ap_pan {t : Tm} {s : Sb} {n m e : Nat} {h : List HO} {xs : List Tm} (hn : n + 1 ≤ 40000) (hloop : (lim C).code 66 (.loop (cf (cf (cs (cf (cs (cs (cs (bodyOf Try.f66))))))))) (ap_S t s h [] (n + 1) 0) = some (.pan (errV e), ap_E t s h xs m)) : (lim C).call 66 [.href h.length 0, dT t, dS s] (h ++ [.var 0 [dI n]]) = some (.pan (errV e), h ++ [.var 0 [dI m]]) := by
  have hgt : decide (((n + 1 : Nat) : Int) > 40000) = false := by simp; omega
  rw [ev_fn 66 Try.f66 _ _ _ rfl Try.func66 rfl Try.ntmps66 rfl]
  simp -implicitDefEqProofs (disch := decide +kernel) only [go_sem, ↓reduceIte, Nat.reduceSub, Nat.reduceAdd, Nat.reduceMul, Nat.reduceBEq, Nat.reduceLT, Nat.reduceLeDiff, Nat.reduceEqDiff, reduceCtorEq, Int.reduceToNat, Int.reduceLE, Int.reduceLT, Int.reduceBEq, Int.reduceBNe, mCall, cells_enc, cells_encS, cel3, cel2, getApp0, setApp0, wrap_succ (n := n) (by omega), hgt]
  rw [loop_at hloop ?hb ?hs]
  case hb => rfl
  case hs => rfl
  simp -implicitDefEqProofs (disch := decide +kernel) only [go_sem, ↓reduceIte, Nat.reduceSub, Nat.reduceAdd, Nat.reduceMul, Nat.reduceBEq, Nat.reduceLT, Nat.reduceLeDiff, Nat.reduceEqDiff, reduceCtorEq, Int.reduceToNat, Int.reduceLE, Int.reduceLT, Int.reduceBEq, Int.reduceBNe, mCall, ap_E]
theorem ap_ret {t : Tm} {s : Sb} {n m : Nat} {h : List HO} {xs : List Tm} (hn : n + 1 ≤ 40000) (k4 : (t.kind == 4) = false) (hloop : (lim C).code 66 (.loop (cf (cf (cs (cf (cs (cs (cs (bodyOf Try.f66))))))))) (ap_S t s h [] (n + 1) 0) = some (.exit 0, ap_X t s h xs m)) : (lim C).call 66 [.href h.length 0, dT t, dS s] (h ++ [.var 0 [dI n]]) = some (.ret (dT (.mk t.kind t.head xs)), h ++ [.var 0 [dI m]]) := by
  have k4' : (t.kind != 4) = true := by simp [bne, k4]
  have he := tm_enc t.kind t.head xs
  have hgt : decide (((n + 1 : Nat) : Int) > 40000) = false := by simp; omega
  rw [ev_fn 66 Try.f66 _ _ _ rfl Try.func66 rfl Try.ntmps66 rfl]
  simp -implicitDefEqProofs (disch := decide +kernel) only [go_sem, ↓reduceIte, Nat.reduceSub, Nat.reduceAdd, Nat.reduceMul, Nat.reduceBEq, Nat.reduceLT, Nat.reduceLeDiff, Nat.reduceEqDiff, reduceCtorEq, Int.reduceToNat, Int.reduceLE, Int.reduceLT, Int.reduceBEq, Int.reduceBNe, mCall, cells_enc, cells_encS, cel3, cel2, getApp0, setApp0, wrap_succ (n := n) (by omega), hgt]
  rw [loop_at hloop ?hb ?hs]
  case hb => rfl
  case hs => rfl
  simp -implicitDefEqProofs (disch := decide +kernel) only [go_sem, ↓reduceIte, Nat.reduceSub, Nat.reduceAdd, Nat.reduceMul, Nat.reduceBEq, Nat.reduceLT, Nat.reduceLeDiff, Nat.reduceEqDiff, reduceCtorEq, Int.reduceToNat, Int.reduceLE, Int.reduceLT, Int.reduceBEq, Int.reduceBNe, mCall, ap_X, zc3, cel3, k4', acc_keep, acc_drop, he]
theorem ap_var {t : Tm} {s : Sb} {n m : Nat} {h h' : List HO} {xs : List Tm} {r : Tm} (hn : n + 1 ≤ 40000) (k4 : (t.kind == 4) = true) (hloop : (lim C).code 66 (.loop (cf (cf (cs (cf (cs (cs (cs (bodyOf Try.f66))))))))) (ap_S t s h [] (n + 1) 0) = some (.exit 0, ap_X t s h xs m))
    (hof : (lim C).call 92 [dS s, dI t.head] [] = some (.ret (dT (ofS s t.head)), []))
    (hsp : (lim C).call 91 [.href h.length 0, dT (ofS s t.head), dL xs] (h ++ [.var 0 [dI m]]) = some (.ret (dT r), h')) : (lim C).call 66 [.href h.length 0, dT t, dS s] (h ++ [.var 0 [dI n]]) = some (.ret (dT r), h') := by
  have k4' : (t.kind != 4) = false := by simp [bne, k4]
  have hgt : decide (((n + 1 : Nat) : Int) > 40000) = false := by simp; omega
  rw [ev_fn 66 Try.f66 _ _ _ rfl Try.func66 rfl Try.ntmps66 rfl]
  simp -implicitDefEqProofs (disch := decide +kernel) only [go_sem, ↓reduceIte, Nat.reduceSub, Nat.reduceAdd, Nat.reduceMul, Nat.reduceBEq, Nat.reduceLT, Nat.reduceLeDiff, Nat.reduceEqDiff, reduceCtorEq, Int.reduceToNat, Int.reduceLE, Int.reduceLT, Int.reduceBEq, Int.reduceBNe, mCall, cells_enc, cells_encS, cel3, cel2, getApp0, setApp0, wrap_succ (n := n) (by omega), hgt]
  rw [loop_at hloop ?hb ?hs]
  case hb => rfl
  case hs => rfl
  simp -implicitDefEqProofs (disch := decide +kernel) only [go_sem, ↓reduceIte, Nat.reduceSub, Nat.reduceAdd, Nat.reduceMul, Nat.reduceBEq, Nat.reduceLT, Nat.reduceLeDiff, Nat.reduceEqDiff, reduceCtorEq, Int.reduceToNat, Int.reduceLE, Int.reduceLT, Int.reduceBEq, Int.reduceBNe, mCall, ap_X, zc3, cel3, cel2, (encS_eq s).symm, cells_enc, k4', acc_keep, acc_drop, hof, hsp, (enc_eq r).symm]
theorem ap_var2 {t : Tm} {s : Sb} {n m e : Nat} {h h' : List HO} {xs : List Tm} (hn : n + 1 ≤ 40000) (k4 : (t.kind == 4) = true) (hloop : (lim C).code 66 (.loop (cf (cf (cs (cf (cs (cs (cs (bodyOf Try.f66))))))))) (ap_S t s h [] (n + 1) 0) = some (.exit 0, ap_X t s h xs m))
    (hof : (lim C).call 92 [dS s, dI t.head] [] = some (.ret (dT (ofS s t.head)), []))
    (hsp : (lim C).call 91 [.href h.length 0, dT (ofS s t.head), dL xs] (h ++ [.var 0 [dI m]]) = some (.pan (errV e), h')) : (lim C).call 66 [.href h.length 0, dT t, dS s] (h ++ [.var 0 [dI n]]) = some (.pan (errV e), h') := by
  have k4' : (t.kind != 4) = false := by simp [bne, k4]
  have hgt : decide (((n + 1 : Nat) : Int) > 40000) = false := by simp; omega
  rw [ev_fn 66 Try.f66 _ _ _ rfl Try.func66 rfl Try.ntmps66 rfl]
  simp -implicitDefEqProofs (disch := decide +kernel) only [go_sem, ↓reduceIte, Nat.reduceSub, Nat.reduceAdd, Nat.reduceMul, Nat.reduceBEq, Nat.reduceLT, Nat.reduceLeDiff, Nat.reduceEqDiff, reduceCtorEq, Int.reduceToNat, Int.reduceLE, Int.reduceLT, Int.reduceBEq, Int.reduceBNe, mCall, cells_enc, cells_encS, cel3, cel2, getApp0, setApp0, wrap_succ (n := n) (by omega), hgt]
  rw [loop_at hloop ?hb ?hs]
  case hb => rfl
  case hs => rfl
  simp -implicitDefEqProofs (disch := decide +kernel) only [go_sem, ↓reduceIte, Nat.reduceSub, Nat.reduceAdd, Nat.reduceMul, Nat.reduceBEq, Nat.reduceLT, Nat.reduceLeDiff, Nat.reduceEqDiff, reduceCtorEq, Int.reduceToNat, Int.reduceLE, Int.reduceLT, Int.reduceBEq, Int.reduceBNe, mCall, ap_X, zc3, cel3, cel2, (encS_eq s).symm, cells_enc, k4', acc_keep, acc_drop, hof, hsp]
/-- The loop's state behind so many rounds. -/
def ap_SS (t : Tm) (s : Sb) (h : List HO) (g : Nat → Nat → R Tm) (n i : Nat) : St := match seqF g n i with
  | .ok xs m => ap_S t s h xs m i
  | .er _ _ => ap_S t s h [] n i
theorem ap_walk : ∀ f : Nat, Walk f
  | 0 => fun t s n h K D H p => by
    have h1 := p.fuel
    have h2 := p.nb
    rw [ap_zero]
    exact ap_over (by omega) (by omega)
  | f + 1 => fun t s n h K D H p => by
    have hr : room = 1099511627776 := rfl
    have ih := ap_walk f
    have hfu := p.fuel
    have htop := p.top
    have hsl := p.sl
    have hss := p.ss
    have hts := p.ts
    have hkh := p.kh
    have hkd := p.kd
    have hk0 := p.k0
    have hl' := len_size t
    rw [ap_succ]
    by_cases hn : n + 1 > 40000
    · rw [if_pos hn]
      exact ap_over hn (by have := p.nb; omega)
    rw [if_neg hn]
    have hm : ∀ x ∈ s.L, mayB x = true ∧ vlowB x = true := fun x hx => ⟨p.ok.may x hx, vle_mono (by omega) (p.ok.vle x hx)⟩
    have hsh := p.ok.sh
    -- each round
    have hpre : ∀ i, i < t.args.length → ∀ xs m, seqF (fun i m => ap f (t.arg i) (below s t i) m) (n + 1) i = .ok xs m → n + 1 ≤ m ∧ m ≤ 40000 ∧ Pre f m K D (H + 1) (t.arg i) (below s t i) := by
      intro i hi xs m he
      obtain ⟨q1, q2, _, _⟩ := seq_fits (H := H) t.args.length (fun i hi m x m' hm hx => by
        obtain ⟨b1, b2⟩ := below_ok (t := t) (i := i) p.ok (by omega) p.sd
        exact ap_fits f _ _ m K D (H + 1) x m' (node_args p.nodes i hi) (vle_args p.vle i hi) hk0 (by omega) (by omega) b2 b1 hx) (by omega) i (by omega) xs m he
      obtain ⟨b1, b2⟩ := below_ok (t := t) (i := i) p.ok (by omega) p.sd
      have hsz := size_arg (arg_mem hi)
      refine ⟨q1, q2, by omega, node_args p.nodes i hi, vle_args p.vle i hi, hk0, by omega, by omega, b2, b1, by omega, by omega, ?_, ?_, q2⟩
      · unfold below
        split
        · rw [under_len]; omega
        · omega
      · unfold below
        split
        · simp only [underS]; omega
        · omega
    have hstep : ∀ i, i < t.args.length → (∃ ys m', seqF (fun i m => ap f (t.arg i) (below s t i) m) (n + 1) (i + 1) = .ok ys m') →
        (lim C).code 66 (cf (.loop (cf (cf (cs (cf (cs (cs (cs (bodyOf Try.f66)))))))))) (ap_SS t s h (fun i m => ap f (t.arg i) (below s t i) m) (n + 1) i) = some (.nor, ap_SS t s h (fun i m => ap f (t.arg i) (below s t i) m) (n + 1) (i + 1)) := by
      rintro i hi ⟨ys, m', he⟩
      obtain ⟨xs, m, h1, h2⟩ := R.bind_eq he
      obtain ⟨x, m2, h3, h4⟩ := R.bind_eq h2
      cases h4
      obtain ⟨q1, q2, q3⟩ := hpre i hi xs m h1
      have hrec := ih _ _ m h _ _ _ q3
      have h3' : ap f (t.arg i) (below s t i) m = .ok x m' := h3
      rw [h3'] at hrec
      have hxl := seqF_len _ _ _ _ _ h1
      unfold ap_SS
      rw [h1, he]
      exact ap_step hi hxl hts hm (by omega) ⟨hsh, by omega⟩ hrec
    have hS0 : ap_SS t s h (fun i m => ap f (t.arg i) (below s t i) m) (n + 1) 0 = ap_S t s h [] (n + 1) 0 := rfl
    cases hseq : seqF (fun i m => ap f (t.arg i) (below s t i) m) (n + 1) t.args.length with
    | er e m =>
      rw [R.bind_er]
      obtain ⟨j, xs, mj, hj, h1, h2⟩ := seqF_er hseq
      obtain ⟨q1, q2, q3⟩ := hpre j hj xs mj h1
      have hrec := ih _ _ mj h _ _ _ q3
      have h2' : ap f (t.arg j) (below s t j) mj = .er e m := h2
      rw [h2'] at hrec
      have hxl := seqF_len _ _ _ _ _ h1
      refine ap_pan (xs := xs) (by omega) ?_
      rw [← hS0]
      refine loop_run (ap_SS t s h (fun i m => ap f (t.arg i) (below s t i) m) (n + 1)) j (fun i hi => hstep i (by omega) (seqF_pre h1 (i + 1) (by omega))) ?_ (by simp)
      have : ap_SS t s h (fun i m => ap f (t.arg i) (below s t i) m) (n + 1) j = ap_S t s h xs mj j := by unfold ap_SS; rw [h1]
      rw [this]
      exact ap_stop hj hxl hts hm (by omega) ⟨hsh, by omega⟩ hrec
    | ok xs m =>
      rw [R.bind_ok]
      have hxl := seqF_len _ _ _ _ _ hseq
      have hloop : (lim C).code 66 (.loop (cf (cf (cs (cf (cs (cs (cs (bodyOf Try.f66))))))))) (ap_S t s h [] (n + 1) 0) = some (.exit 0, ap_X t s h xs m) := by
        rw [← hS0]
        refine loop_run (ap_SS t s h (fun i m => ap f (t.arg i) (below s t i) m) (n + 1)) t.args.length (fun i hi => hstep i hi (seqF_pre hseq (i + 1) (by omega))) ?_ (by simp)
        have : ap_SS t s h (fun i m => ap f (t.arg i) (below s t i) m) (n + 1) t.args.length = ap_S t s h xs m t.args.length := by unfold ap_SS; rw [hseq]
        rw [this]
        simp -implicitDefEqProofs (disch := decide +kernel) only [cf, cs, bodyOf, Try.f66, Option.getD_some, go_sem, ↓reduceIte, Nat.reduceSub, Nat.reduceAdd, Nat.reduceMul, Nat.reduceBEq, Nat.reduceLT, Nat.reduceLeDiff, Nat.reduceEqDiff, reduceCtorEq, Int.reduceToNat, Int.reduceLE, Int.reduceLT, Int.reduceBEq, Int.reduceBNe, mCall, ap_S, ap_X, lt_false (Nat.le_refl t.args.length)]
      obtain ⟨q1, q2, q3, q4⟩ := seq_fits (H := H) t.args.length (fun i hi m x m' hm hx => by
        obtain ⟨b1, b2⟩ := below_ok (t := t) (i := i) p.ok (by omega) p.sd
        exact ap_fits f _ _ m K D (H + 1) x m' (node_args p.nodes i hi) (vle_args p.vle i hi) hk0 (by omega) (by omega) b2 b1 hx) (by omega) _ (Nat.le_refl _) xs m hseq
      by_cases hk : t.kind = 4
      · rw [if_pos hk]
        have hkb : (t.kind == 4) = true := by simpa using hk
        have hh0 := node_head (node_here p.nodes)
        have hh1 := vle_here p.vle hk
        obtain ⟨o1, o2, o3⟩ := of_ok p.ok hh0 hh1 p.sd hkd
        have hof := of_spec s t.head hh0 (by omega) (by omega) ⟨hsh, by omega⟩ (fun x hx => by have := (may_parts (p.ok.may x hx)).2.1; omega)
        have q5 : (m - (n + 1)) * 4001 + (40000 - m) * 4001 ≤ 40000 * 4001 := by rw [← Nat.add_mul]; exact Nat.mul_le_mul_right _ (by omega)
        have hsp := spn_walk ih xs (ofS s t.head) m h (H + 1 + ((m - (n + 1) : Nat) : Int)) (by omega) q2 o1 (vle_mono (by omega) o2) (by omega) (by omega) q3 (by omega)
        cases hs : spnA (ap f) (ofS s t.head) xs m with
        | ok r m' => rw [hs] at hsp; exact ap_var (by omega) hkb hloop hof hsp
        | er e m' => rw [hs] at hsp; exact ap_var2 (by omega) hkb hloop hof hsp
      · rw [if_neg hk]
        exact ap_ret (by omega) (by simpa using hk) hloop
end Go.Proofs.Ytmemmdfjlhamfaa
