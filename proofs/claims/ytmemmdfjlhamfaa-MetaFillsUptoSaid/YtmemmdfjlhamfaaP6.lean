/- Substitutions: laws in plain words. -/
import Derived.Test.YtmemmdfjlhamfaaP5
set_option linter.unusedVariables false
set_option linter.unusedSimpArgs false
namespace Go.Proofs.Ytmemmdfjlhamfaa
theorem getD_map {l : List Tm} {g : Tm → Tm} {i : Nat} (h : i < l.length) : (l.map g).getD i default = g (l.getD i default) := by
  rw [List.getD_eq_getElem?_getD, List.getD_eq_getElem?_getD, List.getElem?_map, List.getElem?_eq_getElem h]; rfl
theorem getD_append_l {l l' : List Tm} {i : Nat} (h : i < l.length) : (l ++ l').getD i default = l.getD i default := by
  rw [List.getD_eq_getElem?_getD, List.getD_eq_getElem?_getD, List.getElem?_append_left h]
theorem of_under0 (s : Sb) : ofS (underS s) 0 = var0 := by
  unfold ofS
  rw [under_len, if_pos (by omega), show s.L.length + 1 - 1 - (0 : Int).toNat = s.L.length by omega]
  simp only [underS]
  rw [List.getD_eq_getElem?_getD, List.getElem?_append_right (by simp)]
  simp
theorem up_var (j n : Int) (h : j ≥ n) : upT (.mk 4 j []) 1 n = .mk 4 (j + 1) [] := by
  unfold upT
  rw [mapT_eq]
  simp [mk_kind, mk_head, mk_args, gUp, h]
theorem of_under (s : Sb) {i : Int} (h : 0 ≤ i) (hs : 0 ≤ s.sh) : ofS (underS s) (i + 1) = upT (ofS s i) 1 0 := by
  unfold ofS
  rw [under_len]
  by_cases hi : i < s.L.length
  · rw [if_pos (by omega), if_pos hi, show s.L.length + 1 - 1 - (i + 1).toNat = s.L.length - 1 - i.toNat by omega]
    simp only [underS]
    rw [getD_append_l (by simp; omega), getD_map (by omega)]
  · rw [if_neg (by omega), if_neg hi, up_var _ _ (by omega)]
    simp only [underS]
    congr 1; omega
/-! ### where variables become variables -/
def below_n (s : Sb) : Nat → Sb
  | 0 => s
  | d + 1 => underS (below_n s d)
theorem below_bnd (s : Sb) (d : Nat) (t : Tm) (i : Nat) : below (below_n s d) t i = below_n s (d + bnd t i) := by
  unfold below
  rcases Nat.eq_zero_or_pos (bnd t i) with h | h
  · rw [h, if_neg (by omega)]; rfl
  · have := bnd_le t i
    have h1 : bnd t i = 1 := by omega
    rw [h1, if_pos rfl]; rfl
theorem spn_var (A : Tm → Sb → Nat → R Tm) (j : Int) (l : List Tm) (n : Nat) : spnA A (.mk 4 j []) l n = .ok (.mk 4 j l) n := by
  cases l with
  | nil => rfl
  | cons a l => simp [spnA, mk_kind, mk_head, mk_args, heads]
theorem seqF_ok {g : Nat → Nat → R Tm} {F : Nat → Tm} {c : Nat → Nat} {n : Nat} : ∀ k : Nat, (∀ i, i < k → ∀ m, n ≤ m → m + c i ≤ n + ((List.range k).map c).sum → g i m = .ok (F i) (m + c i)) → seqF g n k = .ok ((List.range k).map F) (n + ((List.range k).map c).sum)
  | 0, h => rfl
  | k + 1, h => by
    have hs : ((List.range (k + 1)).map c).sum = ((List.range k).map c).sum + c k := by rw [List.range_succ, List.map_append, List.sum_append]; simp
    rw [hs] at h ⊢
    simp only [seqF]
    rw [seqF_ok k (fun i hi m h1 h2 => h i (by omega) m h1 (by omega))]
    simp only [R.bind_ok]
    rw [h k (by omega) _ (by omega) (by omega)]
    simp only [R.bind_ok]
    rw [List.range_succ, List.map_append, Nat.add_assoc]
    rfl
theorem ap_ren {s : Sb} {G : Int → Int → Int} {P : Int → Int → Bool} (hH : ∀ (d : Nat) (i : Int), 0 ≤ i → P i d = true → ofS (below_n s d) i = .mk 4 (G i d) []) :
    ∀ t : Tm, nodesB t = true → ∀ (f d n : Nat), canB P t d = true → 40000 ≤ n + f → n + t.size ≤ 40000 → ap f t (below_n s d) n = .ok (mapT G t d) (n + t.size) := by
  refine Tm.ind fun t ih hn f d n hc hf hz => ?_
  have hp := size_pos t
  obtain ⟨f, rfl⟩ : ∃ f', f = f' + 1 := ⟨f - 1, by omega⟩
  rw [ap_succ, if_neg (by omega)]
  rw [canB_iff] at hc
  have hsum : ((List.range t.args.length).map fun i => (t.arg i).size).sum = (t.args.map Tm.size).sum := by
    congr 1
    refine List.ext_getElem (by simp) fun i h1 h2 => ?_
    simp at h1
    simp [arg_eq h1]
  have hse := size_eq t
  rw [seqF_ok (F := fun i => mapT G (t.arg i) ((d : Int) + bnd t i)) (c := fun i => (t.arg i).size) t.args.length (fun i hi m h1 h2 => by
    rw [hsum] at h2
    have hx := ih _ (arg_mem hi) (node_args hn i hi) f (d + bnd t i) m (by have := hc.2 i hi; rwa [show ((d + bnd t i : Nat) : Int) = (d : Int) + bnd t i by omega]) (by omega) (by omega)
    rw [below_bnd]
    rw [hx]
    congr 2), hsum]
  simp only [R.bind_ok]
  have hm := mapT_eq G t (d : Int)
  by_cases hk : t.kind = 4
  · rw [if_pos hk, hH d t.head (node_head (node_here hn)) (hc.1 hk), spn_var, hm, hk, hse]
    simp only [beq_self_eq_true, if_true]
    congr 1; omega
  · rw [if_neg hk, hm, hse]
    have : (t.kind == 4) = false := by simpa using hk
    simp only [this, Bool.false_eq_true, if_false]
    congr 1; omega
/-! ### scopes -/
theorem var_scoped {j v M : Int} (h : j < v) : scopedB (.mk 4 j []) v M = true := by
  rw [scoped_iff]
  exact ⟨fun _ => h, fun hk => by simp [mk_kind] at hk, fun i hi => by simp [mk_args] at hi⟩
theorem mk_scoped {k h : Int} {l : List Tm} {v M : Int} (h1 : k = 4 → h < v) (h2 : k = 6 → h < M) (h3 : ∀ i, i < l.length → scopedB (l.getD i default) (v + bnd (.mk k h l) i) M = true) : scopedB (.mk k h l) v M = true := by
  rw [scoped_iff]
  exact ⟨h1, h2, h3⟩
theorem bnd_mk (t : Tm) {xs : List Tm} (h : xs.length = t.args.length) (i : Nat) : bnd (.mk t.kind t.head xs) i = bnd t i := by
  unfold bnd
  rw [mk_kind, mk_args, h]
theorem bnd_none {k h : Int} {l : List Tm} (hk : heads k = true) (i : Nat) : bnd (.mk k h l) i = 0 := by
  unfold bnd
  rw [mk_kind, if_neg]
  rintro ⟨h1, _⟩
  simp only [heads, Bool.or_eq_true, beq_iff_eq] at hk
  omega
theorem bnd_none' {t : Tm} (hk : heads t.kind = true) (i : Nat) : bnd t i = 0 := by
  rw [← mk_self t]; exact bnd_none hk i
theorem lam_len {u : Tm} (h : nodesB u = true) (hk : u.kind = 3) : u.args.length = 1 := by
  have hnu := node_here h
  unfold nodeOk at hnu
  simp [hk] at hnu
  exact hnu.2
theorem lam_bnd {u : Tm} (h : nodesB u = true) (hk : u.kind = 3) : bnd u 0 = 1 := by
  unfold bnd
  rw [if_pos ⟨.inr hk, by rw [lam_len h hk]⟩]
/-- What is in scope, what it is mapped to. -/
def Maps (s : Sb) (v w M : Int) : Prop := ∀ i : Int, 0 ≤ i → i < v → scopedB (ofS s i) w M = true
theorem Maps.under {s : Sb} {v w M : Int} (h : Maps s v w M) (hs : 0 ≤ s.sh) (hw : 0 ≤ w) : Maps (underS s) (v + 1) (w + 1) M := by
  intro i h0 hi
  rcases Int.lt_or_le 0 i with h1 | h1
  · have := of_under s (i := i - 1) (by omega) hs
    rw [show i - 1 + 1 = i by omega] at this
    rw [this]
    exact up_scoped (h (i - 1) (by omega) (by omega)) (by omega)
  · obtain rfl : i = 0 := by omega
    rw [of_under0]
    exact var_scoped (by omega)
theorem Maps.one {a : Tm} {w M : Int} (h : scopedB a w M = true) : Maps ⟨[a], 0⟩ (w + 1) w M := by
  intro i h0 hi
  unfold ofS
  split
  · rename_i hl
    simp at hl
    obtain rfl : i = 0 := by omega
    exact h
  · rename_i hl
    simp at hl
    exact var_scoped (by simp; omega)
theorem below_maps {s : Sb} {t : Tm} {i : Nat} {v w M : Int} (h : Maps s v w M) (hs : 0 ≤ s.sh) (hw : 0 ≤ w) : Maps (below s t i) (v + bnd t i) (w + bnd t i) M ∧ 0 ≤ (below s t i).sh := by
  unfold below
  have := bnd_le t i
  split
  · rename_i h1
    rw [h1]
    exact ⟨h.under hs hw, by simp only [underS]; omega⟩
  · rename_i h1
    rw [show bnd t i = 0 by omega]
    simpa using ⟨h, hs⟩
theorem up_nodes {t : Tm} (h : nodesB t = true) {b : Int} (hb : 0 ≤ b) (n : Int) : nodesB (upT t b n) = true := by
  have key : ∀ (t : Tm) (n : Int), nodesB t = true → canB (fun x _ => decide (0 ≤ x)) t n = true := by
    refine Tm.ind fun t ih n hn => ?_
    rw [canB_iff]
    exact ⟨fun _ => by simpa using node_head (node_here hn), fun i hi => ih _ (arg_mem hi) _ (node_args hn i hi)⟩
  refine nodesB_map (fun x m hx => ?_) t n (key t n h) h
  have := of_decide_eq_true hx
  unfold gUp
  split <;> omega
def NodesS (s : Sb) : Prop := (∀ x ∈ s.L, nodesB x = true) ∧ 0 ≤ s.sh
theorem nodes_var0 : nodesB var0 = true := (may_parts may_var0).1
theorem NodesS.below {s : Sb} (h : NodesS s) (t : Tm) (i : Nat) : NodesS (below s t i) := by
  unfold Go.Proofs.Ytmemmdfjlhamfaa.below
  split
  · refine ⟨fun x hx => ?_, by have := h.2; simp only [underS]; omega⟩
    simp only [underS, List.mem_append, List.mem_map, List.mem_singleton] at hx
    rcases hx with ⟨y, hy, rfl⟩ | rfl
    · exact up_nodes (h.1 y hy) (by omega) 0
    · exact nodes_var0
  · exact h
theorem NodesS.of {s : Sb} (h : NodesS s) {i : Int} (h0 : 0 ≤ i) : nodesB (ofS s i) = true := by
  unfold ofS
  split
  · refine h.1 _ ?_
    rw [List.getD_eq_getElem?_getD, List.getElem?_eq_getElem (by omega)]
    exact List.getElem_mem _
  · refine nodes_mk ?_ (by simp)
    have := h.2
    have h5 : 0 ≤ i - s.L.length + s.sh := by omega
    simp only [nodeOk, mk_kind, mk_args, mk_head]
    simp [h5]
abbrev Scopes (A : Tm → Sb → Nat → R Tm) (M : Int) : Prop := ∀ (t : Tm) (s : Sb) (n : Nat) (v w : Int) (u : Tm) (m : Nat), nodesB t = true → scopedB t v M = true → NodesS s → Maps s v w M → 0 ≤ w → A t s n = .ok u m → nodesB u = true ∧ scopedB u w M = true
theorem spn_scoped {A : Tm → Sb → Nat → R Tm} {M : Int} (hA : Scopes A M) :
    ∀ (args : List Tm) (u : Tm) (n : Nat) (w : Int) (r : Tm) (m : Nat), nodesB u = true → scopedB u w M = true → 0 ≤ w → (∀ x ∈ args, nodesB x = true ∧ scopedB x w M = true) → spnA A u args n = .ok r m → nodesB r = true ∧ scopedB r w M = true
  | [], u, n, w, r, m, hu, hs, h0, ha, h => by cases h; exact ⟨hu, hs⟩
  | a :: rest, u, n, w, r, m, hu, hs, h0, ha, h => by
    simp only [spnA] at h
    obtain ⟨a1, a2⟩ := ha a (by simp)
    split at h
    · rename_i hk
      split at h
      case isFalse => cases h
      rename_i hm
      obtain ⟨v, n1, h1, h2⟩ := R.bind_eq h
      have hl := lam_len hu hk
      have hs' := (scoped_iff.1 hs).2.2 0 (by omega)
      rw [lam_bnd hu hk] at hs'
      obtain ⟨hn, hb⟩ := hA _ _ _ (w + 1) w v n1 (node_args hu 0 (by omega)) hs' ⟨by simpa using a1, by simp⟩ (Maps.one a2) h0 h1
      exact spn_scoped hA rest v n1 w r m hn hb h0 (fun x hx => ha x (by simp [hx])) h2
    · split at h
      case isFalse => cases h
      rename_i hk hh
      cases h
      rw [scoped_iff] at hs
      refine ⟨nodes_mk (node_heads hh (node_head (node_here hu)) _) fun x hx => ?_, mk_scoped hs.1 hs.2.1 fun i hi => ?_⟩
      · rcases List.mem_append.1 hx with hx | hx
        · obtain ⟨i, hi, rfl⟩ := List.mem_iff_getElem.1 hx
          rw [arg_eq hi]; exact node_args hu i hi
        · exact (ha x hx).1
      rw [bnd_none hh]
      rcases Nat.lt_or_ge i u.args.length with hl | hl
      · rw [getD_append_l hl]
        have := hs.2.2 i hl
        rwa [bnd_none' hh] at this
      · have hx : (u.args ++ a :: rest).getD i default ∈ a :: rest := by
          rw [List.getD_eq_getElem?_getD, List.getElem?_append_right hl, List.getElem?_eq_getElem (by simp at hi ⊢; omega)]
          exact List.getElem_mem _
        have := (ha _ hx).2
        simpa using this
theorem seq_all {g : Nat → Nat → R Tm} {n : Nat} {Q : Nat → Tm → Prop} : ∀ (k : Nat), (∀ i, i < k → ∀ m x m', g i m = .ok x m' → Q i x) → ∀ (xs : List Tm) (m : Nat), seqF g n k = .ok xs m → ∀ i, i < k → Q i (xs.getD i default)
  | 0, _, xs, m, h, i, hi => by omega
  | k + 1, hq, xs, m, h, i, hi => by
    obtain ⟨ys, m1, h1, h2⟩ := R.bind_eq h
    obtain ⟨x, m2, h3, h4⟩ := R.bind_eq h2
    cases h4
    have hl := seqF_len _ _ _ _ _ h1
    rcases Nat.lt_or_ge i k with hk | hk
    · rw [getD_append_l (by omega)]
      exact seq_all k (fun i hi => hq i (by omega)) ys m1 h1 i hk
    · obtain rfl : i = k := by omega
      rw [List.getD_eq_getElem?_getD, List.getElem?_append_right (by omega), hl]
      simp
      exact hq i (by omega) _ _ _ h3
theorem getD_all {l : List Tm} {Q : Tm → Prop} (h : ∀ i, i < l.length → Q (l.getD i default)) : ∀ x ∈ l, Q x := by
  intro x hx
  obtain ⟨i, hi, rfl⟩ := List.mem_iff_getElem.1 hx
  have := h i hi
  rwa [List.getD_eq_getElem?_getD, List.getElem?_eq_getElem hi] at this
theorem ap_scoped {M : Int} : ∀ f : Nat, Scopes (ap f) M
  | 0 => fun t s n v w u m hn hs hS hM hw h => by cases h
  | f + 1 => fun t s n v w u m hn hs hS hM hw h => by
    have ih := ap_scoped (M := M) f
    rw [ap_succ] at h
    split at h
    · cases h
    obtain ⟨xs, m1, e1, e2⟩ := R.bind_eq h
    have hs' := scoped_iff.1 hs
    have hxl := seqF_len _ _ _ _ _ e1
    have hall := seq_all (Q := fun i x => nodesB x = true ∧ scopedB x (w + bnd t i) M = true) t.args.length (fun i hi m x m' hx => by
      obtain ⟨b1, b2⟩ := below_maps (t := t) (i := i) hM hS.2 hw
      exact ih _ _ m (v + bnd t i) (w + bnd t i) x m' (node_args hn i hi) (hs'.2.2 i hi) (hS.below t i) b1 (by omega) hx) xs m1 e1
    split at e2
    · rename_i hk
      refine spn_scoped ih xs (ofS s t.head) m1 w u m (hS.of (node_head (node_here hn))) (hM _ (node_head (node_here hn)) (hs'.1 hk)) hw (getD_all fun i hi => ?_) e2
      have := hall i (by omega)
      rw [bnd_none' (by simp [heads, hk])] at this
      simpa using this
    · rename_i hk
      cases e2
      refine ⟨nodes_mk (node_same (node_here hn) hxl) (getD_all fun i hi => (hall i (by omega)).1), mk_scoped (fun h => absurd h hk) hs'.2.1 fun i hi => ?_⟩
      rw [bnd_mk t hxl]
      exact (hall i (by omega)).2
/-! ### with less done ahead -/
/-- One that began by so many nodes later, and one that did not. -/
def Later (d : Nat) (r r' : R Tm) : Prop := (∃ k, r = .er 4 k) ∨ (∃ u m, r = .ok u (m + d) ∧ r' = .ok u m) ∨ ∃ e m, r = .er e (m + d) ∧ r' = .er e m
def LaterL (d : Nat) (r r' : R (List Tm)) : Prop := (∃ k, r = .er 4 k) ∨ (∃ u m, r = .ok u (m + d) ∧ r' = .ok u m) ∨ ∃ e m, r = .er e (m + d) ∧ r' = .er e m
theorem spn_later {A : Tm → Sb → Nat → R Tm} {d : Nat} (hA : ∀ t s n, Later d (A t s (n + d)) (A t s n)) : ∀ (l : List Tm) (u : Tm) (n : Nat), Later d (spnA A u l (n + d)) (spnA A u l n)
  | [], u, n => .inr (.inl ⟨u, n, rfl, rfl⟩)
  | a :: rest, u, n => by
    simp only [spnA]
    split
    · split
      · rcases hA (u.arg 0) ⟨[a], 0⟩ n with ⟨k, h⟩ | ⟨v, m, h, h'⟩ | ⟨e, m, h, h'⟩
        · rw [h]; exact .inl ⟨k, rfl⟩
        · rw [h, h']; exact spn_later hA rest v m
        · rw [h, h']; exact .inr (.inr ⟨e, m, rfl, rfl⟩)
      · exact .inl ⟨_, rfl⟩
    · split
      · exact .inr (.inl ⟨_, n, rfl, rfl⟩)
      · exact .inr (.inr ⟨3, n, rfl, rfl⟩)
theorem seq_later {g : Nat → Nat → R Tm} {d : Nat} (hg : ∀ i n, Later d (g i (n + d)) (g i n)) (n : Nat) : ∀ k : Nat, LaterL d (seqF g (n + d) k) (seqF g n k)
  | 0 => .inr (.inl ⟨[], n, rfl, rfl⟩)
  | k + 1 => by
    simp only [seqF]
    rcases seq_later hg n k with ⟨k, h⟩ | ⟨v, m, h, h'⟩ | ⟨e, m, h, h'⟩
    · rw [h]; exact .inl ⟨_, rfl⟩
    · rw [h, h', R.bind_ok, R.bind_ok]
      rcases hg k m with ⟨k, h⟩ | ⟨x, m, h, h'⟩ | ⟨e, m, h, h'⟩
      · rw [h]; exact .inl ⟨_, rfl⟩
      · rw [h, h']; exact .inr (.inl ⟨_, m, rfl, rfl⟩)
      · rw [h, h']; exact .inr (.inr ⟨e, m, rfl, rfl⟩)
    · rw [h, h']; exact .inr (.inr ⟨e, m, rfl, rfl⟩)
theorem ap_later (d : Nat) : ∀ (f : Nat) (t : Tm) (s : Sb) (n : Nat), Later d (ap f t s (n + d)) (ap f t s n)
  | 0, t, s, n => .inl ⟨_, rfl⟩
  | f + 1, t, s, n => by
    rw [ap_succ, ap_succ]
    by_cases h1 : n + d + 1 > 40000
    · rw [if_pos h1]; exact .inl ⟨_, rfl⟩
    rw [if_neg h1, if_neg (by omega)]
    have := seq_later (g := fun i m => ap f (t.arg i) (below s t i) m) (d := d) (fun i n => ap_later d f _ _ n) (n + 1) t.args.length
    rw [show n + 1 + d = n + d + 1 by omega] at this
    rcases this with ⟨k, h⟩ | ⟨xs, m, h, h'⟩ | ⟨e, m, h, h'⟩
    · rw [h]; exact .inl ⟨_, rfl⟩
    · rw [h, h', R.bind_ok, R.bind_ok]
      split
      · exact spn_later (fun t s n => ap_later d f t s n) xs _ m
      · exact .inr (.inl ⟨_, m, rfl, rfl⟩)
    · rw [h, h']; exact .inr (.inr ⟨e, m, rfl, rfl⟩)
end Go.Proofs.Ytmemmdfjlhamfaa
