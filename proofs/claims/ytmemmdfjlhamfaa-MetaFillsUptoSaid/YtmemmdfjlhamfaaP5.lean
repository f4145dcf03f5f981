/- Substitutions: in plain words. -/
import Derived.Test.YtmemmdfjlhamfaaP4
set_option linter.unusedVariables false
set_option linter.unusedSimpArgs false
namespace Go.Proofs.Ytmemmdfjlhamfaa
/-- What comes back, and how many nodes were gone to; or why nothing does. -/
inductive R (α : Type) where
  | ok (a : α) (n : Nat)
  | er (e : Nat) (n : Nat)
def R.bind {α β : Type} : R α → (α → Nat → R β) → R β
  | .ok a n, k => k a n
  | .er e n, _ => .er e n
theorem R.bind_ok {α β : Type} (a : α) (n : Nat) (k : α → Nat → R β) : (R.ok a n).bind k = k a n := rfl
theorem R.bind_er {α β : Type} (e n : Nat) (k : α → Nat → R β) : (R.er e n).bind k = .er e n := rfl
theorem R.bind_eq {α β : Type} {x : R α} {k : α → Nat → R β} {b : β} {m : Nat} (h : x.bind k = .ok b m) : ∃ a n, x = .ok a n ∧ k a n = .ok b m := by
  cases x with
  | ok a n => exact ⟨a, n, rfl, h⟩
  | er e n => cases h
structure Sb where
  L : List Tm
  sh : Int
def ofS (s : Sb) (i : Int) : Tm := if i < s.L.length then s.L.getD (s.L.length - 1 - i.toNat) default else .mk 4 (i - s.L.length + s.sh) []
def var0 : Tm := .mk 4 0 []
def underS (s : Sb) : Sb := ⟨(s.L.map fun x => upT x 1 0) ++ [var0], s.sh + 1⟩
def below (s : Sb) (t : Tm) (i : Nat) : Sb := if bnd t i = 1 then underS s else s
/-- One behind the other. -/
def seqF (g : Nat → Nat → R Tm) (n : Nat) : Nat → R (List Tm)
  | 0 => .ok [] n
  | k + 1 => (seqF g n k).bind fun xs m => (g k m).bind fun x m' => .ok (xs ++ [x]) m'
def heads (k : Int) : Bool := k == 4 || k == 5 || k == 2
def spnA (A : Tm → Sb → Nat → R Tm) : Tm → List Tm → Nat → R Tm
  | u, [], n => .ok u n
  | u, a :: rest, n =>
    if u.kind = 3 then (if mayB a then (A (u.arg 0) ⟨[a], 0⟩ n).bind fun v m => spnA A v rest m else .er 4 n)
    else if heads u.kind then .ok (.mk u.kind u.head (u.args ++ a :: rest)) n else .er 3 n
def ap : Nat → Tm → Sb → Nat → R Tm
  | 0, _, _, n => .er 4 (n + 1)
  | f + 1, t, s, n => if n + 1 > 40000 then .er 4 (n + 1) else
    (seqF (fun i m => ap f (t.arg i) (below s t i) m) (n + 1) t.args.length).bind fun xs m =>
      if t.kind = 4 then spnA (ap f) (ofS s t.head) xs m else .ok (.mk t.kind t.head xs) m
theorem ap_succ (f : Nat) (t : Tm) (s : Sb) (n : Nat) : ap (f + 1) t s n = if n + 1 > 40000 then .er 4 (n + 1) else
    (seqF (fun i m => ap f (t.arg i) (below s t i) m) (n + 1) t.args.length).bind fun xs m =>
      if t.kind = 4 then spnA (ap f) (ofS s t.head) xs m else .ok (.mk t.kind t.head xs) m := rfl
theorem ap_zero (t : Tm) (s : Sb) (n : Nat) : ap 0 t s n = .er 4 (n + 1) := rfl
theorem seqF_len (g : Nat → Nat → R Tm) (n : Nat) : ∀ (k : Nat) (xs : List Tm) (m : Nat), seqF g n k = .ok xs m → xs.length = k
  | 0, xs, m, h => by cases h; rfl
  | k + 1, xs, m, h => by
    obtain ⟨ys, m1, h1, h2⟩ := R.bind_eq h
    obtain ⟨x, m2, h3, h4⟩ := R.bind_eq h2
    cases h4
    simp [seqF_len g n k ys m1 h1]
/-- What may be said of a substitution: its terms may be, their variables are no greater than so many. -/
structure SOk (H : Int) (s : Sb) : Prop where
  may : ∀ x ∈ s.L, mayB x = true
  vle : ∀ x ∈ s.L, vleB H x = true
  sh : 0 ≤ s.sh
theorem may_var0 : mayB var0 = true := by
  refine may_of ?_ ?_ ?_
  · rw [nodesB_eq]; simp [var0, nodeOk, Tm.kind, Tm.args, Tm.head, allB]
  · rw [size_eq]; simp [var0, Tm.args]
  · rw [depth_eq]; simp [var0, Tm.args]
theorem vle_var {H i : Int} (h : i ≤ H) : vleB H (.mk 4 i []) = true := by
  unfold vleB
  rw [canB_iff]
  exact ⟨fun _ => decide_eq_true h, fun i hi => by simp [Tm.args] at hi⟩
theorem SOk.under {H : Int} {s : Sb} (h : SOk H s) (h0 : 0 ≤ H) : SOk (H + 1) (underS s) := by
  refine ⟨fun x hx => ?_, fun x hx => ?_, by have := h.sh; simp only [underS]; omega⟩
  · simp only [underS, List.mem_append, List.mem_map, List.mem_singleton] at hx
    rcases hx with ⟨y, hy, rfl⟩ | rfl
    · exact up_may (h.may y hy) (by omega) 0
    · exact may_var0
  · simp only [underS, List.mem_append, List.mem_map, List.mem_singleton] at hx
    rcases hx with ⟨y, hy, rfl⟩ | rfl
    · exact vle_up (h.vle y hy) (by omega) 0
    · exact vle_var (by omega)
theorem SOk.mono {H K : Int} {s : Sb} (h : SOk H s) (hk : H ≤ K) : SOk K s := ⟨h.may, fun x hx => vle_mono hk (h.vle x hx), h.sh⟩
theorem under_len (s : Sb) : (underS s).L.length = s.L.length + 1 := by simp [underS]
theorem nodes_mk {k h : Int} {l : List Tm} (h1 : nodeOk (.mk k h l) = true) (h2 : ∀ x ∈ l, nodesB x = true) : nodesB (.mk k h l) = true := by
  rw [nodesB_eq, h1, Bool.true_and, allB_iff]
  exact fun i hi => h2 _ (arg_mem hi)
theorem vle_mk {c k h : Int} {l : List Tm} (h1 : k = 4 → h ≤ c) (h2 : ∀ x ∈ l, vleB c x = true) : vleB c (.mk k h l) = true := by
  unfold vleB
  rw [canB_iff]
  refine ⟨fun hk => decide_eq_true (h1 hk), fun i hi => ?_⟩
  rw [vle_at]
  exact h2 _ (arg_mem hi)
theorem of_ok {H K D : Int} {s : Sb} (h : SOk H s) {i : Int} (h0 : 0 ≤ i) (hi : i ≤ K) (hd : s.sh - s.L.length ≤ D) (hk : K + D ≤ H) : nodesB (ofS s i) = true ∧ vleB H (ofS s i) = true ∧ (ofS s i).size ≤ 4000 := by
  unfold ofS
  split
  · rename_i hl
    have hm : s.L.getD (s.L.length - 1 - i.toNat) default ∈ s.L := by
      rw [List.getD_eq_getElem?_getD, List.getElem?_eq_getElem (by omega)]
      exact List.getElem_mem _
    exact ⟨(may_parts (h.may _ hm)).1, h.vle _ hm, (may_parts (h.may _ hm)).2.1⟩
  · rename_i hl
    refine ⟨nodes_mk ?_ (by simp), vle_var (by omega), by rw [mk_size]; simp⟩
    have := h.sh
    have h5 : 0 ≤ i - s.L.length + s.sh := by omega
    simp only [nodeOk, mk_kind, mk_args, mk_head]
    simp [h5]
/-- How great things are: what is gone to, its variables, its nodes. -/
structure Fits (n m : Nat) (H : Int) (c : Nat) (u : Tm) : Prop where
  lt : n ≤ m
  lim : m ≤ 40000
  nodes : nodesB u = true
  vle : vleB (H + ((m - n : Nat) : Int)) u = true
  size : u.size ≤ c + (m - n) * 4001
theorem node_heads {k h : Int} (hk : heads k = true) (hh : 0 ≤ h) (l : List Tm) : nodeOk (.mk k h l) = true := by
  simp only [heads, Bool.or_eq_true, beq_iff_eq] at hk
  rcases hk with (rfl | rfl) | rfl <;> simp [nodeOk, Tm.kind, Tm.head, hh]
theorem size_mk (k h : Int) (l : List Tm) : (Tm.mk k h l).size = 1 + (l.map Tm.size).sum := mk_size k h l
theorem spn_fits {A : Tm → Sb → Nat → R Tm} (hA : ∀ (t : Tm) (s : Sb) (n : Nat) (K D H : Int) (u : Tm) (m : Nat), nodesB t = true → vleB K t = true → 0 ≤ K → K ≤ H → K + D ≤ H → s.sh - s.L.length ≤ D → SOk H s → A t s n = .ok u m → n + 1 ≤ m ∧ Fits n m H 0 u) :
    ∀ (args : List Tm) (u : Tm) (n : Nat) (H : Int) (r : Tm) (m : Nat), n ≤ 40000 → nodesB u = true → vleB H u = true → 0 ≤ H → (∀ x ∈ args, nodesB x = true ∧ vleB H x = true) → spnA A u args n = .ok r m → Fits n m H (u.size + (args.map Tm.size).sum) r
  | [], u, n, H, r, m, hn, hu, hv, h0, ha, h => by
    cases h
    exact ⟨Nat.le_refl _, hn, hu, by simpa using hv, by simp⟩
  | a :: rest, u, n, H, r, m, hn, hu, hv, h0, ha, h => by
    simp only [spnA] at h
    obtain ⟨a1, a2⟩ := ha a (by simp)
    split at h
    · rename_i hk
      split at h
      case isFalse => cases h
      rename_i hm
      obtain ⟨v, n1, h1, h2⟩ := R.bind_eq h
      have hnu := node_here hu
      have hlen : u.args.length = 1 := by
        unfold nodeOk at hnu
        simp [hk] at hnu
        exact hnu.2
      obtain ⟨g1, g2⟩ := hA _ _ _ H (-1) H v n1 (node_args hu 0 (by omega)) (vle_args hv 0 (by omega)) h0 (Int.le_refl _) (by omega) (by simp) ⟨by simpa using hm, by simpa using a2, by simp⟩ h1
      have hr := spn_fits hA rest v n1 (H + ((n1 - n : Nat) : Int)) r m g2.lim g2.nodes g2.vle (by omega) (fun x hx => ⟨(ha x (by simp [hx])).1, vle_mono (by omega) (ha x (by simp [hx])).2⟩) h2
      have e1 := hr.lt
      have e2 := g2.size
      have e3 := hr.size
      refine ⟨by omega, hr.lim, hr.nodes, ?_, ?_⟩
      · have := hr.vle
        rwa [show H + ((n1 - n : Nat) : Int) + ((m - n1 : Nat) : Int) = H + ((m - n : Nat) : Int) by omega] at this
      · simp only [List.map_cons, List.sum_cons]
        have : (m - n) * 4001 = (n1 - n) * 4001 + (m - n1) * 4001 := by rw [← Nat.add_mul]; congr 1; omega
        omega
    · split at h
      case isFalse => cases h
      rename_i hk hh
      cases h
      refine ⟨Nat.le_refl _, hn, nodes_mk (node_heads hh (node_head (node_here hu)) _) fun x hx => ?_, ?_, ?_⟩
      · rcases List.mem_append.1 hx with hx | hx
        · obtain ⟨i, hi, rfl⟩ := List.mem_iff_getElem.1 hx
          rw [arg_eq hi]; exact node_args hu i hi
        · exact (ha x hx).1
      · refine vle_mk (fun hk4 => ?_) fun x hx => ?_
        · have := vle_here hv hk4; omega
        · rcases List.mem_append.1 hx with hx | hx
          · obtain ⟨i, hi, rfl⟩ := List.mem_iff_getElem.1 hx
            rw [arg_eq hi]; exact vle_mono (by omega) (vle_args hv i hi)
          · exact vle_mono (by omega) (ha x hx).2
      · rw [mk_size, size_eq u, List.map_append, List.sum_append]
        omega
theorem below_ok {s : Sb} {t : Tm} {i : Nat} {H D : Int} (h : SOk H s) (h0 : 0 ≤ H) (hd : s.sh - s.L.length ≤ D) : SOk (H + 1) (below s t i) ∧ (below s t i).sh - (below s t i).L.length ≤ D := by
  unfold below
  split
  · refine ⟨h.under h0, ?_⟩
    rw [under_len]; simp only [underS]; omega
  · exact ⟨h.mono (by omega), hd⟩
theorem seq_fits {g : Nat → Nat → R Tm} {n : Nat} {H : Int} (K : Nat) (hg : ∀ i, i < K → ∀ m x m', m ≤ 40000 → g i m = .ok x m' → m + 1 ≤ m' ∧ Fits m m' (H + 1) 0 x) (hn : n ≤ 40000) : ∀ (k : Nat), k ≤ K → ∀ (xs : List Tm) (m : Nat), seqF g n k = .ok xs m →
    n ≤ m ∧ m ≤ 40000 ∧ (∀ x ∈ xs, nodesB x = true ∧ vleB (H + 1 + ((m - n : Nat) : Int)) x = true) ∧ (xs.map Tm.size).sum ≤ (m - n) * 4001
  | 0, hk, xs, m, h => by cases h; exact ⟨Nat.le_refl _, hn, by simp, by simp⟩
  | k + 1, hk, xs, m, h => by
    obtain ⟨ys, m1, h1, h2⟩ := R.bind_eq h
    obtain ⟨x, m2, h3, h4⟩ := R.bind_eq h2
    cases h4
    obtain ⟨e1, e2, e3, e4⟩ := seq_fits K hg hn k (by omega) ys m1 h1
    obtain ⟨e5, e6⟩ := hg k (by omega) m1 x m e2 h3
    have e7 := e6.size
    refine ⟨by omega, e6.lim, fun y hy => ?_, ?_⟩
    · rcases List.mem_append.1 hy with hy | hy
      · exact ⟨(e3 y hy).1, vle_mono (by omega) (e3 y hy).2⟩
      · obtain rfl : y = x := by simpa using hy
        exact ⟨e6.nodes, vle_mono (by omega) e6.vle⟩
    · simp only [List.map_append, List.sum_append, List.map_cons, List.map_nil, List.sum_cons, List.sum_nil]
      have : (m - n) * 4001 = (m1 - n) * 4001 + (m - m1) * 4001 := by rw [← Nat.add_mul]; congr 1; omega
      omega
theorem node_same {t : Tm} {xs : List Tm} (h : nodeOk t = true) (hl : xs.length = t.args.length) : nodeOk (.mk t.kind t.head xs) = true := by
  unfold nodeOk at h ⊢
  rw [mk_kind, mk_head, mk_args, hl]
  exact h
theorem ap_fits : ∀ (f : Nat) (t : Tm) (s : Sb) (n : Nat) (K D H : Int) (u : Tm) (m : Nat), nodesB t = true → vleB K t = true → 0 ≤ K → K ≤ H → K + D ≤ H → s.sh - s.L.length ≤ D → SOk H s → ap f t s n = .ok u m → n + 1 ≤ m ∧ Fits n m H 0 u
  | 0, t, s, n, K, D, H, u, m, hn, hv, h0, h1, h2, h3, h4, h => by cases h
  | f + 1, t, s, n, K, D, H, u, m, hn, hv, h0, h1, h2, h3, h4, h => by
    rw [ap_succ] at h
    split at h
    · cases h
    rename_i hlim
    obtain ⟨xs, m1, e1, e2⟩ := R.bind_eq h
    obtain ⟨q1, q2, q3, q4⟩ := seq_fits (H := H) t.args.length (fun i hi m x m' hm hx => by
      obtain ⟨b1, b2⟩ := below_ok (t := t) (i := i) h4 (by omega) h3
      exact ap_fits f _ _ m K D (H + 1) x m' (node_args hn i hi) (vle_args hv i hi) h0 (by omega) (by omega) b2 b1 hx) (by omega) _ (Nat.le_refl _) xs m1 e1
    have hxl := seqF_len _ _ _ _ _ e1
    split at e2
    · rename_i hk
      obtain ⟨o1, o2, o3⟩ := of_ok h4 (node_head (node_here hn)) (vle_here hv hk) h3 h2
      have := spn_fits (ap_fits f) xs (ofS s t.head) m1 (H + 1 + ((m1 - (n + 1) : Nat) : Int)) u m q2 o1 (vle_mono (by omega) o2) (by omega) q3 e2
      have l1 := this.lt
      have l2 := this.size
      refine ⟨by omega, by omega, this.lim, this.nodes, ?_, ?_⟩
      · have l3 := this.vle
        rwa [show H + 1 + ((m1 - (n + 1) : Nat) : Int) + ((m - m1 : Nat) : Int) = H + ((m - n : Nat) : Int) by omega] at l3
      · have : (m - n) * 4001 = (m1 - (n + 1)) * 4001 + (m - m1) * 4001 + 4001 := by rw [← Nat.add_mul, ← Nat.succ_mul]; congr 1; omega
        omega
    · rename_i hk
      cases e2
      refine ⟨by omega, by omega, q2, nodes_mk (node_same (node_here hn) hxl) fun x hx => (q3 x hx).1, vle_mk (fun h => absurd h hk) fun x hx => vle_mono (by omega) (q3 x hx).2, ?_⟩
      rw [mk_size]
      have : (m - n) * 4001 = (m - (n + 1)) * 4001 + 4001 := by rw [← Nat.succ_mul]; congr 1; omega
      omega
end Go.Proofs.Ytmemmdfjlhamfaa
