/- Layer 3: how great answers are, what may go wrong. -/
import Derived.Test.YtmemmdfjlhamfaaF28
set_option linter.unusedSimpArgs false
set_option linter.unusedVariables false
set_option maxRecDepth 100000
namespace Go.Proofs.Ytmemmdfjlhamfaa
open Go.Proofs
theorem calm_vle {c : Int} (hc : c ≤ 4503599627370496) : ∀ (t : Tm) (n : Int), 0 ≤ n → n + t.size ≤ 4000000000000000000 → nodesB t = true → vleB c t = true → ∀ q ∈ pre t n, calm q := by
  refine Tm.ind fun t ih n h1 h2 hn hl => pre_ind ?_ fun i hi p hp => ?_
  · have h3 := node_head (node_here hn)
    intro hk
    have h4 := vle_here hl hk
    constructor <;> simp only <;> omega
  · have h3 := size_arg (arg_mem hi)
    have h4 := bnd_le t i
    exact ih _ (arg_mem hi) (n + bnd t i) (by omega) (by omega) (node_args hn i hi) (vle_args hl i hi) p hp
theorem zT_may : mayB zT = true := by
  refine may_of (nodes_mk (by simp [nodeOk, mk_kind, mk_head, mk_args]) (by simp)) ?_ ?_
  · unfold zT; rw [mk_size]; simp
  · unfold zT; rw [depth_eq]; simp [mk_args]
theorem zT_vle (c : Int) : vleB c zT = true := vle_mk (fun h => by omega) (by simp)
theorem outD_may (r : R Tm) : mayB (outD r).1 = true := by
  cases r with
  | ok u m =>
    simp only [outD]
    split
    · assumption
    · exact zT_may
  | er e m => exact zT_may
theorem applyR_may (t : Tm) (s : Sb) : mayB (applyR t s).1 = true := by
  unfold applyR
  split
  · exact outD_may _
  · exact zT_may
theorem spineR_may (t : Tm) (l : List Tm) : mayB (spineR t l).1 = true := by
  unfold spineR
  split
  · exact outD_may _
  · exact zT_may
theorem outD_vle {r : R Tm} {c : Int} (h : ∀ u m, r = .ok u m → vleB c u = true) : vleB c (outD r).1 = true := by
  cases r with
  | ok u m =>
    simp only [outD]
    split
    · exact h u m rfl
    · exact zT_vle c
  | er e m => exact zT_vle c
theorem applyR_vle {t : Tm} {s : Sb} {K : Int} (h0 : 0 ≤ K) (ht : vleB K t = true) (hs : ∀ x ∈ s.L, vleB K x = true) : vleB (K + 2000000) (applyR t s).1 = true := by
  unfold applyR
  split
  · rename_i h
    simp only [Bool.and_eq_true] at h
    obtain ⟨h1, h2⟩ := h
    obtain ⟨q1, q2, q3, q4⟩ := smay_parts h2
    refine outD_vle fun u m hu => ?_
    have := (ap_fits 40000 t s 0 K (s.sh - s.L.length) (K + 1048576) u m (may_parts h1).1 ht h0 (by omega) (by omega) (Int.le_refl _) ⟨q4, fun x hx => vle_mono (by omega) (hs x hx), q2⟩ hu).2
    have e := this.lim
    exact vle_mono (by omega) this.vle
  · exact zT_vle _
/-- What may go wrong. -/
theorem spn_err {A : Tm → Sb → Nat → R Tm} (hA : ∀ t s n e m, A t s n = .er e m → e = 3 ∨ e = 4) : ∀ (l : List Tm) (u : Tm) (n e m : Nat), spnA A u l n = .er e m → e = 3 ∨ e = 4
  | [], u, n, e, m, h => by cases h
  | a :: rest, u, n, e, m, h => by
    simp only [spnA] at h
    split at h
    · split at h
      · cases hx : A (u.arg 0) ⟨[a], 0⟩ n with
        | ok v m1 => rw [hx] at h; exact spn_err hA rest v m1 e m h
        | er e1 m1 =>
          rw [hx, R.bind_er] at h
          simp only [R.er.injEq] at h
          exact h.1 ▸ hA _ _ _ _ _ hx
      · simp only [R.er.injEq] at h; omega
    · split at h
      · cases h
      · simp only [R.er.injEq] at h; omega
theorem ap_err : ∀ (f : Nat) (t : Tm) (s : Sb) (n e m : Nat), ap f t s n = .er e m → e = 3 ∨ e = 4
  | 0, t, s, n, e, m, h => by
    rw [ap_zero] at h
    simp only [R.er.injEq] at h; omega
  | f + 1, t, s, n, e, m, h => by
    rw [ap_succ] at h
    split at h
    · simp only [R.er.injEq] at h; omega
    · have key : ∀ k e m, seqF (fun i m => ap f (t.arg i) (below s t i) m) (n + 1) k = .er e m → e = 3 ∨ e = 4 := by
        intro k
        induction k with
        | zero => intro e m h; cases h
        | succ k ih =>
          intro e m h
          simp only [seqF] at h
          cases hx : seqF (fun i m => ap f (t.arg i) (below s t i) m) (n + 1) k with
          | er e1 m1 =>
            rw [hx, R.bind_er] at h
            simp only [R.er.injEq] at h
            exact h.1 ▸ ih _ _ hx
          | ok xs m1 =>
            rw [hx, R.bind_ok] at h
            cases hy : ap f (t.arg k) (below s t k) m1 with
            | er e1 m2 =>
              rw [hy, R.bind_er] at h
              simp only [R.er.injEq] at h
              exact h.1 ▸ ap_err f _ _ _ _ _ hy
            | ok x m2 => rw [hy] at h; cases h
      cases hx : seqF (fun i m => ap f (t.arg i) (below s t i) m) (n + 1) t.args.length with
      | er e1 m1 =>
        rw [hx, R.bind_er] at h
        simp only [R.er.injEq] at h
        exact h.1 ▸ key _ _ _ hx
      | ok xs m1 =>
        rw [hx, R.bind_ok] at h
        split at h
        · exact spn_err (fun t s n e m h => ap_err f t s n e m h) _ _ _ _ _ h
        · cases h
end Go.Proofs.Ytmemmdfjlhamfaa
