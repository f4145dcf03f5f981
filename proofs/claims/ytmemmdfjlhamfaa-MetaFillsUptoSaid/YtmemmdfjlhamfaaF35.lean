/- The reference of layer 3: apply told whole; done, Spine; law SubstSpines. -/
import Derived.Test.YtmemmdfjlhamfaaF34
set_option linter.unusedSimpArgs false
set_option linter.unusedVariables false
set_option maxRecDepth 100000
namespace Go.Proofs.Ytmemmdfjlhamfaa
open Go.Proofs
theorem rspn_walk {f : Nat} (hA : RWalk f) (args : List Tm) (u : Tm) (n : Nat) (h : List HO) (H : Int) (hf : 40000 ≤ n + f) (hn : n ≤ 40000) (hu : nodesB u = true) (hv : vleB H u = true) (h0 : 0 ≤ H) (ht : H + 40001 ≤ 4503599627370496 + n)
    (ha : ∀ x ∈ args, nodesB x = true ∧ vleB H x = true) (hz : u.size + (args.map Tm.size).sum + (40000 - n) * 4001 < room) :
    (lim C).call 128 [.href h.length 0, dT u, dL args] (h ++ [.var 0 [dI n, dI 0]]) = outW h (spnA (ap f) u args n) := by
  have hloop := rsp_loop hA args u n h H hf hn hu hv h0 ht ha hz
  have hfit := fun r m hr => spn_fits (ap_fits f) args u n H r m hn hu hv h0 ha hr
  rw [spnA_L] at hfit ⊢
  have hlen := len_sum args
  cases hL : spnL (ap f) u args n with
  | er e m =>
    rw [hL] at hloop
    exact rsp_enter hloop
  | ok p m =>
    obtain ⟨v, l'⟩ := p
    rw [hL] at hloop hfit
    simp only [R.bind_ok, spnE] at hfit ⊢
    by_cases hl : l' = []
    · rw [if_pos hl]
      exact rsp_done hl hloop
    · rw [if_neg hl] at hfit ⊢
      have hpos : 0 < l'.length := List.length_pos_iff.2 hl
      cases hk : heads v.kind
      · rw [if_neg (by simp)]
        exact rsp_bad hpos hk hloop
      · rw [if_pos rfl]
        rw [hk, if_pos rfl] at hfit
        have hs := (hfit _ _ rfl).size
        have hlm := (hfit _ _ rfl).lim
        have hls := len_size (.mk v.kind v.head (v.args ++ l'))
        rw [mk_args, List.length_append] at hls
        have q : (m - n) * 4001 ≤ (40000 - n) * 4001 := Nat.mul_le_mul_right _ (by omega)
        exact rsp_heads hpos (by omega) hk hloop
/-! ### apply -/
theorem rap_over {t : Tm} {s : Sb} {n : Nat} {h : List HO} (hn : n + 1 > 40000) (hn2 : n < 9223372036854775807) : (lim C).call 116 [.href h.length 0, dT t, dS s] (h ++ [.var 0 [dI n, dI 0]]) = some (.ret (dT zT), h ++ [.var 0 [dI (n + 1 : Nat), dI 4]]) := by
  have hgt : decide (((n + 1 : Nat) : Int) > 40000) = true := by simp; omega
  have hf := rfail_spec h (n + 1 : Nat) 4
  rw [ev_fn 116 Try.f116 _ _ _ rfl Try.func116 rfl Try.ntmps116 rfl]
  simp -implicitDefEqProofs (disch := decide +kernel) only [go_sem, ↓reduceIte, Nat.reduceSub, Nat.reduceAdd, Nat.reduceMul, Nat.reduceBEq, Nat.reduceLT, Nat.reduceLeDiff, Nat.reduceEqDiff, reduceCtorEq, Int.reduceToNat, Int.reduceLE, Int.reduceLT, Int.reduceBEq, Int.reduceBNe, mCall, cells_enc, cells_encS, cel3, cel2, getApp0, setApp0, wrap_succ hn2, hgt, hf, (enc_eq zT).symm]
def rap_X (t : Tm) (s : Sb) (h : List HO) (xs : List Tm) (m : Nat) : St :=
  mk 74 [(0, .href h.length 0), (4, .lref 4 0), (5, .lref 5 0), (6, .lref 6 0), (7, acc 0 (encs xs)), (8, dI t.args.length), (30, dB false)]
    [(4, cel3 t), (5, cel2 s), (6, zc3)] (h ++ [.var 0 [dI m, dI 0]]) (accT xs.length)
theorem rap_ret0 {t : Tm} {s : Sb} {n m k : Nat} {e : Int} {h : List HO} (hn : n + 1 ≤ 40000) (hloop : (lim C).code 116 (.loop (cf (cf (cs (cf (cs (cs (cs (cs (bodyOf Try.f116)))))))))) (rap_S t s h [] (n + 1) 0) = some (.ret, mk 74 [(6, .lref 6 0)] [(6, cel3 zT)] (h ++ [.var 0 [dI m, dI e]]) (accT k))) :
    (lim C).call 116 [.href h.length 0, dT t, dS s] (h ++ [.var 0 [dI n, dI 0]]) = some (.ret (dT zT), h ++ [.var 0 [dI m, dI e]]) := by
  have hgt : decide (((n + 1 : Nat) : Int) > 40000) = false := by simp; omega
  rw [ev_fn 116 Try.f116 _ _ _ rfl Try.func116 rfl Try.ntmps116 rfl]
  simp -implicitDefEqProofs (disch := decide +kernel) only [go_sem, ↓reduceIte, Nat.reduceSub, Nat.reduceAdd, Nat.reduceMul, Nat.reduceBEq, Nat.reduceLT, Nat.reduceLeDiff, Nat.reduceEqDiff, reduceCtorEq, Int.reduceToNat, Int.reduceLE, Int.reduceLT, Int.reduceBEq, Int.reduceBNe, mCall, cells_enc, cells_encS, cel3, cel2, getApp0, setApp0, wrap_succ (n := n) (by omega), hgt]
  rw [loop_at hloop ?hb ?hs]
  case hb => rfl
  case hs => rfl
  simp -implicitDefEqProofs (disch := decide +kernel) only [go_sem, ↓reduceIte, Nat.reduceSub, Nat.reduceAdd, Nat.reduceMul, Nat.reduceBEq, Nat.reduceLT, Nat.reduceLeDiff, Nat.reduceEqDiff, reduceCtorEq, Int.reduceToNat, Int.reduceLE, Int.reduceLT, Int.reduceBEq, Int.reduceBNe, mCall, cel3, (enc_eq zT).symm]
theorem rap_node {t : Tm} {s : Sb} {n m : Nat} {h : List HO} {xs : List Tm} (hn : n + 1 ≤ 40000) (k4 : (t.kind == 4) = false) (hloop : (lim C).code 116 (.loop (cf (cf (cs (cf (cs (cs (cs (cs (bodyOf Try.f116)))))))))) (rap_S t s h [] (n + 1) 0) = some (.exit 0, rap_X t s h xs m)) :
    (lim C).call 116 [.href h.length 0, dT t, dS s] (h ++ [.var 0 [dI n, dI 0]]) = some (.ret (dT (.mk t.kind t.head xs)), h ++ [.var 0 [dI m, dI 0]]) := by
  have hgt : decide (((n + 1 : Nat) : Int) > 40000) = false := by simp; omega
  have he := tm_enc t.kind t.head xs
  rw [ev_fn 116 Try.f116 _ _ _ rfl Try.func116 rfl Try.ntmps116 rfl]
  simp -implicitDefEqProofs (disch := decide +kernel) only [go_sem, ↓reduceIte, Nat.reduceSub, Nat.reduceAdd, Nat.reduceMul, Nat.reduceBEq, Nat.reduceLT, Nat.reduceLeDiff, Nat.reduceEqDiff, reduceCtorEq, Int.reduceToNat, Int.reduceLE, Int.reduceLT, Int.reduceBEq, Int.reduceBNe, mCall, cells_enc, cells_encS, cel3, cel2, getApp0, setApp0, wrap_succ (n := n) (by omega), hgt]
  rw [loop_at hloop ?hb ?hs]
  case hb => rfl
  case hs => rfl
  simp -implicitDefEqProofs (disch := decide +kernel) only [go_sem, ↓reduceIte, Nat.reduceSub, Nat.reduceAdd, Nat.reduceMul, Nat.reduceBEq, Nat.reduceLT, Nat.reduceLeDiff, Nat.reduceEqDiff, reduceCtorEq, Int.reduceToNat, Int.reduceLE, Int.reduceLT, Int.reduceBEq, Int.reduceBNe, mCall, rap_X, zc3, cel3, k4, acc_keep, acc_drop, acc_okA, acc_flat, acc_cells, he]
theorem rap_var {t : Tm} {s : Sb} {n m k : Nat} {h : List HO} {xs : List Tm} {r : Tm} {e : Int} (hn : n + 1 ≤ 40000) (k4 : (t.kind == 4) = true) (hloop : (lim C).code 116 (.loop (cf (cf (cs (cf (cs (cs (cs (cs (bodyOf Try.f116)))))))))) (rap_S t s h [] (n + 1) 0) = some (.exit 0, rap_X t s h xs m))
    (hof : (lim C).call 129 [dS s, dI t.head] [] = some (.ret (dT (ofS s t.head)), []))
    (hsp : (lim C).call 128 [.href h.length 0, dT (ofS s t.head), dL xs] (h ++ [.var 0 [dI m, dI 0]]) = some (.ret (dT r), h ++ [.var 0 [dI k, dI e]])) :
    (lim C).call 116 [.href h.length 0, dT t, dS s] (h ++ [.var 0 [dI n, dI 0]]) = some (.ret (dT r), h ++ [.var 0 [dI k, dI e]]) := by
  have hgt : decide (((n + 1 : Nat) : Int) > 40000) = false := by simp; omega
  rw [ev_fn 116 Try.f116 _ _ _ rfl Try.func116 rfl Try.ntmps116 rfl]
  simp -implicitDefEqProofs (disch := decide +kernel) only [go_sem, ↓reduceIte, Nat.reduceSub, Nat.reduceAdd, Nat.reduceMul, Nat.reduceBEq, Nat.reduceLT, Nat.reduceLeDiff, Nat.reduceEqDiff, reduceCtorEq, Int.reduceToNat, Int.reduceLE, Int.reduceLT, Int.reduceBEq, Int.reduceBNe, mCall, cells_enc, cells_encS, cel3, cel2, getApp0, setApp0, wrap_succ (n := n) (by omega), hgt]
  rw [loop_at hloop ?hb ?hs]
  case hb => rfl
  case hs => rfl
  simp -implicitDefEqProofs (disch := decide +kernel) only [go_sem, ↓reduceIte, Nat.reduceSub, Nat.reduceAdd, Nat.reduceMul, Nat.reduceBEq, Nat.reduceLT, Nat.reduceLeDiff, Nat.reduceEqDiff, reduceCtorEq, Int.reduceToNat, Int.reduceLE, Int.reduceLT, Int.reduceBEq, Int.reduceBNe, mCall, rap_X, zc3, cel3, cel2, (encS_eq s).symm, cells_enc, k4, acc_keep, acc_drop, acc_okA, acc_flat, acc_cells, hof, hsp, (enc_eq r).symm]
def rap_SS (t : Tm) (s : Sb) (h : List HO) (g : Nat → Nat → R Tm) (n i : Nat) : St := match seqF g n i with
  | .ok xs m => rap_S t s h xs m i
  | .er _ _ => rap_S t s h [] n i
theorem rap_walk : ∀ f : Nat, RWalk f
  | 0 => fun t s n h K D H p => by
    have h1 := p.fuel
    have h2 := p.nb
    rw [ap_zero]
    exact rap_over (by omega) (by omega)
  | f + 1 => fun t s n h K D H p => by
    have hr : room = 1099511627776 := rfl
    have ih := rap_walk f
    have hfu := p.fuel
    have htop := p.top
    have hsl := p.sl
    have hss := p.ss
    have hts := p.ts
    have hkh := p.kh
    have hkd := p.kd
    have hk0 := p.k0
    have hl' := len_size t
    rw [ap_succ]
    by_cases hn : n + 1 > 40000
    · rw [if_pos hn]
      exact rap_over hn (by have := p.nb; omega)
    rw [if_neg hn]
    have hm : ∀ x ∈ s.L, mayB x = true ∧ vlowB x = true := fun x hx => ⟨p.ok.may x hx, vle_mono (by omega) (p.ok.vle x hx)⟩
    have hsh := p.ok.sh
    have hpre : ∀ i, i < t.args.length → ∀ xs m, seqF (fun i m => ap f (t.arg i) (below s t i) m) (n + 1) i = .ok xs m → n + 1 ≤ m ∧ m ≤ 40000 ∧ Pre f m K D (H + 1) (t.arg i) (below s t i) := by
      intro i hi xs m he
      obtain ⟨q1, q2, _, _⟩ := seq_fits (H := H) t.args.length (fun i hi m x m' hm hx => by
        obtain ⟨b1, b2⟩ := below_ok (t := t) (i := i) p.ok (by omega) p.sd
        exact ap_fits f _ _ m K D (H + 1) x m' (node_args p.nodes i hi) (vle_args p.vle i hi) hk0 (by omega) (by omega) b2 b1 hx) (by omega) i (by omega) xs m he
      obtain ⟨b1, b2⟩ := below_ok (t := t) (i := i) p.ok (by omega) p.sd
      have hsz := size_arg (arg_mem hi)
      refine ⟨q1, q2, by omega, node_args p.nodes i hi, vle_args p.vle i hi, hk0, by omega, by omega, b2, b1, by omega, by omega, ?_, ?_, q2⟩
      · unfold below
        split
        · rw [under_len]; omega
        · omega
      · unfold below
        split
        · simp only [underS]; omega
        · omega
    have hstep : ∀ i, i < t.args.length → (∃ ys m', seqF (fun i m => ap f (t.arg i) (below s t i) m) (n + 1) (i + 1) = .ok ys m') →
        (lim C).code 116 (cf (.loop (cf (cf (cs (cf (cs (cs (cs (cs (bodyOf Try.f116))))))))))) (rap_SS t s h (fun i m => ap f (t.arg i) (below s t i) m) (n + 1) i) = some (.nor, rap_SS t s h (fun i m => ap f (t.arg i) (below s t i) m) (n + 1) (i + 1)) := by
      rintro i hi ⟨ys, m', he⟩
      obtain ⟨xs, m, h1, h2⟩ := R.bind_eq he
      obtain ⟨x, m2, h3, h4⟩ := R.bind_eq h2
      cases h4
      obtain ⟨q1, q2, q3⟩ := hpre i hi xs m h1
      have hrec := ih _ _ m h _ _ _ q3
      have h3' : ap f (t.arg i) (below s t i) m = .ok x m' := h3
      rw [h3'] at hrec
      have hxl := seqF_len _ _ _ _ _ h1
      unfold rap_SS
      rw [h1, he]
      exact rap_step hi hxl hts hm (by omega) ⟨hsh, by omega⟩ hrec
    have hS0 : rap_SS t s h (fun i m => ap f (t.arg i) (below s t i) m) (n + 1) 0 = rap_S t s h [] (n + 1) 0 := rfl
    cases hseq : seqF (fun i m => ap f (t.arg i) (below s t i) m) (n + 1) t.args.length with
    | er e m =>
      rw [R.bind_er]
      obtain ⟨j, xs, mj, hj, h1, h2⟩ := seqF_er hseq
      obtain ⟨q1, q2, q3⟩ := hpre j hj xs mj h1
      have hrec := ih _ _ mj h _ _ _ q3
      have h2' : ap f (t.arg j) (below s t j) mj = .er e m := h2
      rw [h2'] at hrec
      have hxl := seqF_len _ _ _ _ _ h1
      refine rap_ret0 (k := xs.length) (by omega) ?_
      rw [← hS0]
      refine loop_run (rap_SS t s h (fun i m => ap f (t.arg i) (below s t i) m) (n + 1)) j (fun i hi => hstep i (by omega) (seqF_pre h1 (i + 1) (by omega))) ?_ (by simp)
      have : rap_SS t s h (fun i m => ap f (t.arg i) (below s t i) m) (n + 1) j = rap_S t s h xs mj j := by unfold rap_SS; rw [h1]
      rw [this]
      exact rap_stop (err_ne (ap_err _ _ _ _ _ _ h2')) hj hxl hts hm (by omega) ⟨hsh, by omega⟩ hrec
    | ok xs m =>
      rw [R.bind_ok]
      have hxl := seqF_len _ _ _ _ _ hseq
      have hloop : (lim C).code 116 (.loop (cf (cf (cs (cf (cs (cs (cs (cs (bodyOf Try.f116)))))))))) (rap_S t s h [] (n + 1) 0) = some (.exit 0, rap_X t s h xs m) := by
        rw [← hS0]
        refine loop_run (rap_SS t s h (fun i m => ap f (t.arg i) (below s t i) m) (n + 1)) t.args.length (fun i hi => hstep i hi (seqF_pre hseq (i + 1) (by omega))) ?_ (by simp)
        have : rap_SS t s h (fun i m => ap f (t.arg i) (below s t i) m) (n + 1) t.args.length = rap_S t s h xs m t.args.length := by unfold rap_SS; rw [hseq]
        rw [this]
        simp -implicitDefEqProofs (disch := decide +kernel) only [cf, cs, bodyOf, Try.f116, Option.getD_some, go_sem, ↓reduceIte, Nat.reduceSub, Nat.reduceAdd, Nat.reduceMul, Nat.reduceBEq, Nat.reduceLT, Nat.reduceLeDiff, Nat.reduceEqDiff, reduceCtorEq, Int.reduceToNat, Int.reduceLE, Int.reduceLT, Int.reduceBEq, Int.reduceBNe, mCall, rap_S, rap_X, cel3, lt_false (Nat.le_refl t.args.length)]
      obtain ⟨q1, q2, q3, q4⟩ := seq_fits (H := H) t.args.length (fun i hi m x m' hm hx => by
        obtain ⟨b1, b2⟩ := below_ok (t := t) (i := i) p.ok (by omega) p.sd
        exact ap_fits f _ _ m K D (H + 1) x m' (node_args p.nodes i hi) (vle_args p.vle i hi) hk0 (by omega) (by omega) b2 b1 hx) (by omega) _ (Nat.le_refl _) xs m hseq
      by_cases hk : t.kind = 4
      · rw [if_pos hk]
        have hkb : (t.kind == 4) = true := by simpa using hk
        have hh0 := node_head (node_here p.nodes)
        have hh1 := vle_here p.vle hk
        obtain ⟨o1, o2, o3⟩ := of_ok p.ok hh0 hh1 p.sd hkd
        have hof := mapped_spec s t.head hh0 (by omega) (by omega) ⟨hsh, by omega⟩ (fun x hx => ⟨by have := (may_parts (p.ok.may x hx)).2.1; omega, (hm x hx).2⟩)
        have q5 : (m - (n + 1)) * 4001 + (40000 - m) * 4001 ≤ 40000 * 4001 := by rw [← Nat.add_mul]; exact Nat.mul_le_mul_right _ (by omega)
        have hsp := rspn_walk ih xs (ofS s t.head) m h (H + 1 + ((m - (n + 1) : Nat) : Int)) (by omega) q2 o1 (vle_mono (by omega) o2) (by omega) (by omega) q3 (by omega)
        cases hs : spnA (ap f) (ofS s t.head) xs m with
        | ok r m' => rw [hs] at hsp; exact rap_var (by omega) hkb hloop hof hsp
        | er e m' => rw [hs] at hsp; exact rap_var (by omega) hkb hloop hof hsp
      · rw [if_neg hk]
        exact rap_node (by omega) (by simpa using hk) hloop
end Go.Proofs.Ytmemmdfjlhamfaa
