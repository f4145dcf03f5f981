/- One entry more within a context: in plain words. -/
import Derived.Test.YtbcoacljjhbonaaGreatB3
set_option linter.unusedVariables false
set_option linter.unusedSimpArgs false
namespace Go.Proofs.YtbcoacljjhbonaaGreat
theorem mapT_shift (g : Int → Int → Int) (d : Int) : ∀ (t : Tm) (n : Int), mapT g t (n + d) = mapT (fun x m => g x (m + d)) t n := by
  refine Tm.ind fun t ih n => ?_
  rw [mapT_eq, mapT_eq]
  congr 1
  refine List.map_congr_left fun i hi => ?_
  have hi : i < t.args.length := by simpa using hi
  have := ih _ (arg_mem hi) (n + bnd t i)
  rw [← this]
  congr 1
  omega
theorem up_swap (t : Tm) {k : Int} (hk : 0 ≤ k) : upT (upT t 1 k) 1 0 = upT (upT t 1 0) 1 (k + 1) := by
  have h1 : upT t 1 k = mapT (fun x m => gUp 1 x (m + k)) t 0 := by
    have := mapT_shift (gUp 1) k t 0
    rwa [Int.zero_add] at this
  have h2 : upT (upT t 1 0) 1 (k + 1) = mapT (fun x m => gUp 1 x (m + (k + 1))) (upT t 1 0) 0 := by
    have := mapT_shift (gUp 1) (k + 1) (upT t 1 0) 0
    rwa [Int.zero_add] at this
  rw [h1, h2]
  unfold upT
  rw [mapT_map, mapT_map]
  refine mapT_congr (p := fun _ _ => true) (fun x m _ => ?_) t 0 (canB_true t 0)
  unfold gUp
  by_cases h : x ≥ m + k
  · rw [if_pos h, if_pos (by omega), if_pos (show x ≥ m by omega), if_pos (by omega)]
  · rw [if_neg h]
    by_cases h' : x ≥ m
    · rw [if_pos h', if_neg (by omega)]
    · rw [if_neg h', if_neg (by omega)]
theorem may_up {t : Tm} (hn : nodesB t = true) {b : Int} (hb : 0 ≤ b) (n : Int) : mayB (upT t b n) = mayB t := by
  unfold mayB
  rw [mapT_size, mapT_depth, up_nodes hn hb n, hn]
theorem may_sub {t x : Tm} (hx : x ∈ t.args) (h : mayB t = true) : mayB x = true := by
  obtain ⟨h1, h2, h3⟩ := may_parts h
  have hs := size_arg hx
  have hd := depth_arg hx
  refine may_of ?_ (by omega) (by omega)
  obtain ⟨i, hi, rfl⟩ := List.mem_iff_getElem.1 hx
  rw [arg_eq hi]
  exact node_args h1 i hi
theorem up_mk_heads {k h : Int} {l : List Tm} (hk : heads k = true) (b n : Int) : upT (.mk k h l) b n = .mk k (if k == 4 then gUp b h n else h) (l.map fun x => upT x b n) := by
  unfold upT
  rw [mapT_eq]
  simp only [mk_kind, mk_head, mk_args]
  congr 1
  refine List.ext_getElem (by simp) fun i h1 h2 => ?_
  have hi : i < l.length := by simpa using h2
  simp only [List.getElem_map, List.getElem_range, bnd_none hk, Int.natCast_zero, Int.add_zero]
  have := arg_eq (t := .mk k h l) hi
  simp only [mk_args] at this
  rw [this]
/-- A substitution, and one that maps to what is up. -/
def RUp (s s' : Sb) (j k : Int) : Prop := ∀ i : Int, 0 ≤ i → ofS s' (gUp 1 i j) = upT (ofS s i) 1 k
theorem RUp.under {s s' : Sb} {j k : Int} (h : RUp s s' j k) (hs : 0 ≤ s.sh) (hs' : 0 ≤ s'.sh) (hj : 0 ≤ j) (hk : 0 ≤ k) : RUp (underS s) (underS s') (j + 1) (k + 1) := by
  intro i hi
  rcases Int.lt_or_le 0 i with h1 | h1
  · have e : gUp 1 i (j + 1) = gUp 1 (i - 1) j + 1 := by unfold gUp; split <;> split <;> omega
    have hg : 0 ≤ gUp 1 (i - 1) j := by unfold gUp; split <;> omega
    have hu := of_under s (i := i - 1) (by omega) hs
    rw [show i - 1 + 1 = i by omega] at hu
    rw [e, of_under s' hg hs', h (i - 1) (by omega), hu, up_swap _ hk]
  · obtain rfl : i = 0 := by omega
    have e : gUp 1 0 (j + 1) = 0 := by unfold gUp; rw [if_neg (by omega)]
    rw [e, of_under0, of_under0]
    unfold var0
    rw [up_mk_heads rfl]
    have : gUp 1 0 (k + 1) = 0 := by unfold gUp; rw [if_neg (by omega)]
    rw [this]; rfl
theorem RUp.one (a : Tm) {k : Int} (hk : 0 ≤ k) : RUp ⟨[a], 0⟩ ⟨[upT a 1 k], 0⟩ (k + 1) k := by
  intro i hi
  rcases Int.lt_or_le 0 i with h1 | h1
  · have h2 : ofS ⟨[a], 0⟩ i = .mk 4 (i - 1) [] := by
      unfold ofS
      rw [if_neg (by simp; omega)]
      congr 1
      simp
    have hg : 0 < gUp 1 i (k + 1) := by unfold gUp; split <;> omega
    have h3 : ofS ⟨[upT a 1 k], 0⟩ (gUp 1 i (k + 1)) = .mk 4 (gUp 1 i (k + 1) - 1) [] := by
      unfold ofS
      rw [if_neg (by simp; omega)]
      congr 1
      simp
    rw [h2, h3, up_mk_heads rfl]
    have : gUp 1 i (k + 1) - 1 = gUp 1 (i - 1) k := by unfold gUp; split <;> split <;> omega
    rw [this]; rfl
  · obtain rfl : i = 0 := by omega
    have e : gUp 1 0 (k + 1) = 0 := by unfold gUp; rw [if_neg (by omega)]
    rw [e]; rfl
def mapR (g : Tm → Tm) : R Tm → R Tm
  | .ok a n => .ok (g a) n
  | .er e n => .er e n
abbrev RisesA (A : Tm → Sb → Nat → R Tm) : Prop := ∀ (t : Tm) (s s' : Sb) (n : Nat) (j k : Int), nodesB t = true → NodesS s → NodesS s' → 0 ≤ j → 0 ≤ k → RUp s s' j k → A (upT t 1 j) s' n = mapR (fun x => upT x 1 k) (A t s n)
theorem spn_up {A : Tm → Sb → Nat → R Tm} (hA : RisesA A) (hG : Goes A) {k : Int} (hk : 0 ≤ k) : ∀ (l : List Tm) (u : Tm) (n : Nat), nodesB u = true → (∀ x ∈ l, nodesB x = true) → spnA A (upT u 1 k) (l.map fun x => upT x 1 k) n = mapR (fun x => upT x 1 k) (spnA A u l n)
  | [], u, n, _, _ => rfl
  | a :: rest, u, n, hu, hl => by
    have ha := hl a (by simp)
    simp only [List.map_cons, spnA, mapT_kind, may_up ha (show (0 : Int) ≤ 1 by decide)]
    by_cases h3 : u.kind = 3
    · rw [if_pos h3, if_pos h3]
      by_cases hm : mayB a = true
      · rw [if_pos hm, if_pos hm]
        have hl1 := lam_len hu h3
        have harg : (upT u 1 k).arg 0 = upT (u.arg 0) 1 (k + 1) := by
          unfold upT
          rw [mapT_arg _ _ (by omega), lam_bnd hu h3]
          rfl
        rw [harg, hA (u.arg 0) ⟨[a], 0⟩ ⟨[upT a 1 k], 0⟩ n (k + 1) k (node_args hu 0 (by omega)) ⟨by simpa using ha, by simp⟩ ⟨by simpa using up_nodes ha (by decide) k, by simp⟩ (by omega) hk (RUp.one a hk)]
        cases hx : A (u.arg 0) ⟨[a], 0⟩ n with
        | ok v m =>
          simp only [mapR, R.bind_ok]
          have hv := (hG _ _ _ v m (node_args hu 0 (by omega)) ⟨by simpa using ha, by simp⟩ hx).1
          exact spn_up hA hG hk rest v m hv fun x hx => hl x (by simp [hx])
        | er e m => rfl
      · rw [if_neg hm, if_neg hm]; rfl
    · rw [if_neg h3, if_neg h3]
      by_cases hh : heads u.kind = true
      · rw [if_pos hh, if_pos hh]
        simp only [mapR]
        congr 1
        rw [up_mk_heads hh]
        have h1 := up_mk_heads (h := u.head) (l := u.args) hh 1 k
        rw [mk_self] at h1
        rw [h1]
        simp [mk_head, mk_args]
      · rw [if_neg hh, if_neg hh]; rfl
def upArgs (t : Tm) (k : Int) (xs : List Tm) : List Tm := (List.range xs.length).map fun i => upT (xs.getD i default) 1 (k + bnd t i)
theorem upArgs_snoc (t : Tm) (k : Int) (xs : List Tm) (x : Tm) : upArgs t k (xs ++ [x]) = upArgs t k xs ++ [upT x 1 (k + bnd t xs.length)] := by
  unfold upArgs
  rw [List.length_append, List.length_singleton, List.range_succ, List.map_append]
  congr 1
  · refine List.map_congr_left fun i hi => ?_
    rw [getD_append_l (by simpa using hi)]
  · simp [List.getD_eq_getElem?_getD]
theorem seqF_up {g g' : Nat → Nat → R Tm} {t : Tm} {k : Int} {n : Nat} : ∀ (c : Nat), (∀ i, i < c → ∀ m, g' i m = mapR (fun x => upT x 1 (k + bnd t i)) (g i m)) →
    seqF g' n c = match seqF g n c with
      | .ok xs m => .ok (upArgs t k xs) m
      | .er e m => .er e m
  | 0, _ => rfl
  | c + 1, h => by
    have ih := seqF_up (n := n) c fun i hi => h i (by omega)
    simp only [seqF]
    rw [ih]
    cases hs : seqF g n c with
    | ok xs m =>
      simp only [R.bind_ok]
      rw [h c (by omega) m]
      have hl := seqF_len _ _ _ _ _ hs
      cases hx : g c m with
      | ok x m' => simp only [mapR, R.bind_ok]; rw [upArgs_snoc, hl]
      | er e m' => rfl
    | er e m => rfl
theorem upArgs_mk (t : Tm) (k : Int) {xs : List Tm} (hl : xs.length = t.args.length) (h4 : t.kind ≠ 4) : Tm.mk t.kind t.head (upArgs t k xs) = upT (.mk t.kind t.head xs) 1 k := by
  have h4' : (t.kind == 4) = false := by simpa using h4
  unfold upT
  rw [mapT_eq]
  simp only [mk_kind, mk_head, mk_args, h4', Bool.false_eq_true, if_false]
  congr 1
  unfold upArgs
  refine List.map_congr_left fun i hi => ?_
  rw [bnd_mk t hl]
  rfl
theorem upArgs_var {t : Tm} (hk : t.kind = 4) (k : Int) (xs : List Tm) : upArgs t k xs = xs.map fun x => upT x 1 k := by
  unfold upArgs
  refine List.ext_getElem (by simp) fun i h1 h2 => ?_
  have hi : i < xs.length := by simpa using h2
  simp only [List.getElem_map, List.getElem_range, bnd_zero (t := t) (by omega) (by omega), Int.natCast_zero, Int.add_zero]
  rw [List.getD_eq_getElem?_getD, List.getElem?_eq_getElem hi]
  rfl
theorem NodesS.below' {s : Sb} (h : NodesS s) (t : Tm) (i : Nat) : NodesS (Go.Proofs.YtbcoacljjhbonaaGreat.below s t i) := h.below t i
theorem ap_up : ∀ f : Nat, RisesA (ap f)
  | 0 => fun t s s' n j k _ _ _ _ _ _ => rfl
  | f + 1 => fun t s s' n j k ht hs hs' hj hk hr => by
    have ih := ap_up f
    rw [ap_succ, ap_succ]
    by_cases h1 : n + 1 > 40000
    · rw [if_pos h1, if_pos h1]; rfl
    rw [if_neg h1, if_neg h1]
    have hlen : (upT t 1 j).args.length = t.args.length := mapT_len _ t j
    rw [hlen]
    rw [seqF_up (g := fun i m => ap f (t.arg i) (below s t i) m) (t := t) (k := k) t.args.length (fun i hi m => by
      have harg : (upT t 1 j).arg i = upT (t.arg i) 1 (j + bnd t i) := mapT_arg _ _ hi
      have hbn : bnd (upT t 1 j) i = bnd t i := mapT_bnd _ t j i
      have hb : below s' (upT t 1 j) i = below s' t i := by unfold below; rw [hbn]
      rw [harg, hb]
      have hbl := bnd_le t i
      refine ih (t.arg i) (below s t i) (below s' t i) m (j + bnd t i) (k + bnd t i) (node_args ht i hi) (hs.below t i) (hs'.below t i) (by omega) (by omega) ?_
      unfold below
      by_cases hb1 : bnd t i = 1
      · rw [if_pos hb1, if_pos hb1, hb1]
        exact hr.under hs.2 hs'.2 hj hk
      · rw [if_neg hb1, if_neg hb1, show bnd t i = 0 by omega]
        simpa using hr)]
    cases hsq : seqF (fun i m => ap f (t.arg i) (below s t i) m) (n + 1) t.args.length with
    | er e m => rfl
    | ok xs m =>
      simp only [R.bind_ok]
      have hxl := seqF_len _ _ _ _ _ hsq
      have hxn : ∀ x ∈ xs, nodesB x = true := getD_all fun i hi => seq_all (Q := fun i x => nodesB x = true) t.args.length (fun i hi m x m' hx => (ap_goes f _ _ m x m' (node_args ht i hi) (hs.below t i) hx).1) xs m hsq i (by omega)
      have hkd : (upT t 1 j).kind = t.kind := mapT_kind _ t j
      by_cases h4 : t.kind = 4
      · rw [if_pos (by rw [hkd]; exact h4), if_pos h4]
        have h4' : (t.kind == 4) = true := by simpa using h4
        have hhd : (upT t 1 j).head = gUp 1 t.head j := by
          unfold upT
          rw [mapT_head, h4', if_pos rfl]
        rw [hhd, hr _ (node_head (node_here ht)), upArgs_var h4]
        exact spn_up ih (ap_goes f) hk xs _ m (hs.of (node_head (node_here ht))) hxn
      · rw [if_neg (by rw [hkd]; exact h4), if_neg h4]
        have h4' : (t.kind == 4) = false := by simpa using h4
        have hhd : (upT t 1 j).head = t.head := by
          unfold upT
          rw [mapT_head, h4']; rfl
        rw [hhd, hkd]
        simp only [mapR]
        rw [upArgs_mk t k hxl h4]
theorem zT_up (b n : Int) : upT zT b n = zT := by unfold upT; rw [mapT_eq]; rfl
theorem applyR_up {t a : Tm} (ht : mayB t = true) (ha : mayB a = true) {k : Int} (hk : 0 ≤ k) : applyR (upT t 1 (k + 1)) ⟨[upT a 1 k], 0⟩ = (upT (applyR t ⟨[a], 0⟩).1 1 k, (applyR t ⟨[a], 0⟩).2) := by
  have hn := (may_parts ht).1
  have hna := (may_parts ha).1
  have ha' : mayB (upT a 1 k) = true := by rw [may_up hna (by decide)]; exact ha
  have ht' : mayB (upT t 1 (k + 1)) = true := by rw [may_up hn (by decide)]; exact ht
  have hS : ∀ x, mayB x = true → smayB ⟨[x], 0⟩ = true := fun x hx => by
    unfold smayB
    rw [maysB_iff.2 (by simpa using hx)]
    simp
  unfold applyR
  rw [ht, ht', hS a ha, hS _ ha', Bool.and_self, if_pos rfl, if_pos rfl]
  rw [ap_up 40000 t ⟨[a], 0⟩ ⟨[upT a 1 k], 0⟩ 0 (k + 1) k hn ⟨by simpa using hna, by simp⟩ ⟨by simpa using (may_parts ha').1, by simp⟩ (by omega) hk (RUp.one a hk)]
  cases hx : ap 40000 t ⟨[a], 0⟩ 0 with
  | er e m => simp only [mapR, outD]; rw [zT_up]
  | ok u m =>
    have hu := (ap_goes 40000 _ _ _ u m hn ⟨by simpa using hna, by simp⟩ hx).1
    simp only [mapR, outD]
    rw [may_up hu (by decide)]
    by_cases hm : mayB u = true
    · rw [if_pos hm, if_pos hm]
    · rw [if_neg hm, if_neg hm, zT_up]
/-! ### contexts -/
theorem varW_zero (c : List Tm) (a : Tm) : varW (c ++ [a]) 0 = (upT a 1 0, 0) := by
  rw [varW_lt (by simp)]
  have e1 : (c ++ [a]).getD ((c ++ [a]).length - 1 - (0 : Int).toNat) default = a := by
    rw [List.getD_eq_getElem?_getD]; simp
  rw [e1]; rfl
theorem varW_succ (c : List Tm) (a : Tm) {h : Int} (h0 : 0 ≤ h) (hl : h < c.length) : varW (c ++ [a]) (h + 1) = (upT (varW c h).1 1 0, 0) := by
  rw [varW_lt (by simp; omega), varW_lt hl]
  have e1 : (c ++ [a]).getD ((c ++ [a]).length - 1 - (h + 1).toNat) default = c.getD (c.length - 1 - h.toNat) default := by
    rw [getD_append_l (by simp; omega)]
    congr 1
    simp; omega
  rw [e1, up_up _ (by omega) 1 0]
structure WkC (c c' : List Tm) (k : Int) : Prop where
  len : c'.length = c.length + 1
  k0 : 0 ≤ k
  kl : k ≤ c.length
  look : ∀ h : Int, 0 ≤ h → h < c.length → varW c' (gUp 1 h k) = (upT (varW c h).1 1 k, 0)
theorem WkC.new (c : List Tm) (b : Tm) : WkC c (c ++ [b]) 0 := by
  refine ⟨by simp, by decide, by omega, fun h h0 hl => ?_⟩
  have : gUp 1 h 0 = h + 1 := by unfold gUp; rw [if_pos (by omega)]
  rw [this, varW_succ c b h0 hl]
theorem WkC.more {c c' : List Tm} {k : Int} (hw : WkC c c' k) (a : Tm) : WkC (c ++ [a]) (c' ++ [upT a 1 k]) (k + 1) := by
  have hl := hw.len
  have hk := hw.k0
  have hkl := hw.kl
  refine ⟨by simp [hl], by omega, by simp; omega, fun h h0 hh => ?_⟩
  simp at hh
  rcases Int.lt_or_le 0 h with h1 | h1
  · have e : gUp 1 h (k + 1) = gUp 1 (h - 1) k + 1 := by unfold gUp; split <;> split <;> omega
    have hg : 0 ≤ gUp 1 (h - 1) k ∧ gUp 1 (h - 1) k < c'.length := by unfold gUp; split <;> omega
    have hv := varW_succ c a (h := h - 1) (by omega) (by omega)
    rw [show h - 1 + 1 = h by omega] at hv
    rw [e, varW_succ c' _ hg.1 hg.2, hw.look (h - 1) (by omega) (by omega), hv, up_swap _ hk]
  · obtain rfl : h = 0 := by omega
    have e : gUp 1 0 (k + 1) = 0 := by unfold gUp; rw [if_neg (by omega)]
    rw [e, varW_zero, varW_zero, up_swap _ hk]
theorem scoped_more {v v' m m' : Int} (h1 : v ≤ v') (h2 : m ≤ m') : ∀ t : Tm, scopedB t v m = true → scopedB t v' m' = true := by
  have key : ∀ (t : Tm) (v v' : Int), v ≤ v' → scopedB t v m = true → scopedB t v' m' = true := by
    refine Tm.ind fun t ih v v' hv h => ?_
    rw [scoped_iff] at h ⊢
    exact ⟨fun e => by have := h.1 e; omega, fun e => by have := h.2.1 e; omega, fun i hi => ih _ (arg_mem hi) _ _ (by omega) (h.2.2 i hi)⟩
  exact fun t h => key t v v' h1 h
/-- All declarations may be, and have no variables. -/
structure Closed (w : Wd) : Prop where
  may : ∀ x ∈ w.sig, mayB x = true
  scp : ∀ x ∈ w.sig, scopedB x 0 0 = true
  metas : w.metas = []
theorem closed_up {x : Tm} (h : scopedB x 0 0 = true) {k : Int} (hk : 0 ≤ k) (b : Int) : upT x b k = x := up_far (scoped_more hk (Int.le_refl 0) x h) b
theorem spW_up {T T' : Nat → Tm → Int} {arg arg' : Nat → Tm} {q : Int} (hq : 0 ≤ q) : ∀ (k i : Nat) (t : Tm), mayB t = true → (∀ j, i ≤ j → j < i + k → mayB (arg j) = true ∧ arg' j = upT (arg j) 1 q ∧ ∀ x, mayB x = true → T j x = 0 → T' j (upT x 1 q) = 0) →
    (spW T arg k i t).2 = 0 → spW T' arg' k i (upT t 1 q) = (upT (spW T arg k i t).1 1 q, 0)
  | 0, i, t, _, _, _ => rfl
  | k + 1, i, t, ht, hT, h => by
    obtain ⟨e1, e2, e3, e4⟩ := spW_ok h
    obtain ⟨a1, a2, a3⟩ := hT i (Nat.le_refl i) (by omega)
    have hn := (may_parts ht).1
    have hl := pi_len hn e1
    have x0 : (upT t 1 q).arg 0 = upT (t.arg 0) 1 q := by
      unfold upT
      rw [mapT_arg _ _ (by omega), pi_bnd0 hn e1, Int.natCast_zero, Int.add_zero]
    have x1 : (upT t 1 q).arg 1 = upT (t.arg 1) 1 (q + 1) := by
      unfold upT
      rw [mapT_arg _ _ (by omega), pi_bnd1 hn e1]
      rfl
    have ha := applyR_up (may_sub (arg_mem (t := t) (i := 1) (by omega)) ht) a1 hq
    rw [spW_go (by rw [mapT_kind]; exact e1) (by rw [x0]; exact a3 _ (may_sub (arg_mem (by omega)) ht) e2) (by rw [x1, a2, ha]; exact e3), x1, a2, ha, e4]
    exact spW_up hq k (i + 1) _ (applyR_may _ _) (fun j h1 h2 => hT j (by omega) (by omega)) (by rw [← e4]; exact h)
theorem term_up {w : Wd} (hw : Closed w) : ∀ (m a : Tm) (c c' : List Tm) (k : Int), mayB m = true → mayB a = true → (∀ x ∈ c, mayB x = true) → WkC c c' k → termW w m a c = 0 → termW w (upT m 1 k) (upT a 1 k) c' = 0 := by
  refine Tm.ind fun m ih a c c' k hm ha hc hk h => ?_
  have hn := (may_parts hm).1
  have hna := (may_parts ha).1
  by_cases h3 : m.kind = 3
  · have hl := lam_len hn h3
    rw [term_lam h3] at h
    rw [term_lam (by rw [mapT_kind]; exact h3)]
    by_cases ha1 : a.kind = 1
    · have hl2 := pi_len hna ha1
      rw [if_pos ha1, argW_lt (by omega)] at h
      rw [if_pos (by rw [mapT_kind]; exact ha1), argW_lt (by rw [mapT_len]; omega)]
      have x0 : (upT a 1 k).arg 0 = upT (a.arg 0) 1 k := by
        unfold upT
        rw [mapT_arg _ _ (by omega), pi_bnd0 hna ha1, Int.natCast_zero, Int.add_zero]
      have x1 : (upT a 1 k).arg 1 = upT (a.arg 1) 1 (k + 1) := by
        unfold upT
        rw [mapT_arg _ _ (by omega), pi_bnd1 hna ha1]; rfl
      have x2 : (upT m 1 k).arg 0 = upT (m.arg 0) 1 (k + 1) := by
        unfold upT
        rw [mapT_arg _ _ (by omega), lam_bnd hn h3]; rfl
      rw [x0, x1, x2]
      refine ih _ (arg_mem (by omega)) _ _ _ _ (may_sub (arg_mem (by omega)) hm) (may_sub (arg_mem (by omega)) ha) (fun x hx => ?_) (hk.more _) h
      rcases List.mem_append.1 hx with hx | hx
      · exact hc x hx
      · obtain rfl : x = a.arg 0 := by simpa using hx
        exact may_sub (arg_mem (by omega)) ha
    · rw [if_neg ha1] at h; cases h
  · obtain ⟨ha2, e⟩ := term_ok h3 h
    refine term_go (by rw [mapT_kind]; exact h3) (by rw [mapT_kind]; exact ha2) ?_
    have e0 : (cmW w c (fun i x => argW w m i x c) m).2 = 0 := by rw [e]
    have h0 := node_head (node_here hn)
    have hk0 := hk.k0
    have hT : ∀ j, 0 ≤ j → j < 0 + m.args.length → m.kind ≠ 1 → mayB (m.arg j) = true ∧ (upT m 1 k).arg j = upT (m.arg j) 1 k ∧ ∀ x, mayB x = true → argW w m j x c = 0 → argW w (upT m 1 k) j (upT x 1 k) c' = 0 := fun j _ hj h1 => by
      have hj : j < m.args.length := by omega
      have hx : (upT m 1 k).arg j = upT (m.arg j) 1 k := by
        unfold upT
        rw [mapT_arg _ _ hj, bnd_zero h1 h3, Int.natCast_zero, Int.add_zero]
      refine ⟨may_sub (arg_mem hj) hm, hx, fun x hmx hxx => ?_⟩
      rw [argW_lt hj] at hxx
      rw [argW_lt (by rw [mapT_len]; exact hj), hx]
      exact ih _ (arg_mem hj) _ _ _ _ (may_sub (arg_mem hj) hm) hmx hc hk hxx
    have hlen : (upT m 1 k).args.length = m.args.length := mapT_len _ m k
    rcases cm_kind e0 with k4 | k5 | k6
    · rw [cm_var k4] at e e0
      rw [cm_var (by rw [mapT_kind]; exact k4)]
      obtain ⟨q1, q2⟩ := spD_ok e0
      obtain ⟨v1, v2⟩ := varW_ok q1
      have hhd : (upT m 1 k).head = gUp 1 m.head k := by
        unfold upT
        rw [mapT_head, k4]; rfl
      have hv := hk.look m.head h0 v1
      rw [q2] at e e0
      have hmv : mayB (varW c m.head).1 = true := by
        rw [v2]
        refine up_may (hc _ ?_) (by omega) 0
        rw [List.getD_eq_getElem?_getD, List.getElem?_eq_getElem (by omega)]
        exact List.getElem_mem _
      rw [hhd, spD_go (by rw [hv]), hv, hlen]
      have := spW_up (T' := fun i x => argW w (upT m 1 k) i x c') (arg' := (upT m 1 k).arg) hk0 m.args.length 0 _ hmv (fun j h1 h2 => hT j h1 h2 (by omega)) e0
      rw [this, e]
    · rw [cm_const k5] at e e0
      rw [cm_const (by rw [mapT_kind]; exact k5)]
      obtain ⟨q1, q2⟩ := spD_ok e0
      obtain ⟨v1, v2, v3⟩ := declW_ok q1
      have hhd : (upT m 1 k).head = m.head := by
        unfold upT
        rw [mapT_head, k5]; rfl
      rw [q2] at e e0
      have hmem : w.sig.getD m.head.toNat default ∈ w.sig := by
        rw [List.getD_eq_getElem?_getD, List.getElem?_eq_getElem (by omega)]
        exact List.getElem_mem _
      rw [hhd, spD_go q1, hlen]
      have hcl : upT (declW w m.head false).1 1 k = (declW w m.head false).1 := by
        rw [v3]; exact closed_up (hw.scp _ hmem) hk0 1
      have := spW_up (T' := fun i x => argW w (upT m 1 k) i x c') (arg' := (upT m 1 k).arg) hk0 m.args.length 0 _ (by rw [v3]; exact hw.may _ hmem) (fun j h1 h2 => hT j h1 h2 (by omega)) e0
      rw [hcl] at this
      rw [this, e]
    · rw [cm_meta k6] at e0
      have := (metaW_ok e0).1
      rw [hw.metas] at this
      simp at this; omega
end Go.Proofs.YtbcoacljjhbonaaGreat
/- Laws of layer 10: signatures in order; CheckFront. -/
set_option linter.unusedSimpArgs false
set_option linter.unusedVariables false
set_option maxRecDepth 100000
namespace Go.Proofs.YtbcoacljjhbonaaGreat
open Go.Proofs
theorem loop_all2 {f : Nat} {b : Code} (S : Nat → St) (n : Nat) (p : Nat → Bool) {E R : Ex × St} (h : ∀ i, i < n → (∀ j, j < i → p j = true) → p i = true → (lim C).code f b (S i) = some (.nor, S (i + 1)))
    (hr : ∀ i, i < n → (∀ j, j < i → p j = true) → p i = false → (lim C).code f b (S i) = some R) (he : allB n p = true → (lim C).code f b (S n) = some E) (hR : R.1 ≠ .nor) (hE : E.1 ≠ .nor) :
    (lim C).code f (.loop b) (S 0) = some (if allB n p then E else R) := by
  by_cases hall : allB n p = true
  · rw [if_pos hall]
    have ha := (allB_iff n p).1 hall
    exact loop_run S n (fun i hi => h i hi (fun j hj => ha j (by omega)) (ha i hi)) (he hall) hE
  · rw [if_neg hall]
    obtain ⟨j, h1, h2, h3⟩ := allB_first n p (by simpa using hall)
    exact loop_run S j (fun i hi => h i (by omega) (fun k hk => h3 k (by omega)) (h3 i hi)) (hr j h1 h3 h2) hR
def sigB (sg : List Dc) (i : Nat) : Bool := TypR (Wo.wd ⟨sg.take i, [], []⟩) [] (Dcs.at sg i).t == 0 || KindR (Wo.wd ⟨sg.take i, [], []⟩) [] (Dcs.at sg i).t == 0
def ctxB (sg : List Dc) (cx : List Tm) (i : Nat) : Bool := TypR (Wo.wd ⟨sg, [], []⟩) (cx.take i) (cx.getD i default) == 0
def goodB (sg : List Dc) (cx : List Tm) : Bool := allB sg.length (sigB sg) && allB cx.length (ctxB sg cx)
theorem sigB_closed {sg : List Dc} {i : Nat} (h : sigB sg i = true) : mayB (Dcs.at sg i).t = true ∧ scopedB (Dcs.at sg i).t 0 0 = true := by
  unfold sigB at h
  rw [Bool.or_eq_true, beq_iff_eq, beq_iff_eq] at h
  rcases h with h | h
  · obtain ⟨h1, h2⟩ := TypR_ok h
    have hm := mayW_of h1 _ (List.mem_singleton.2 rfl)
    exact ⟨hm, typ_scoped _ _ _ (may_parts hm).1 h2⟩
  · obtain ⟨h1, h2⟩ := KindR_ok h
    have hm := mayW_of h1 _ (List.mem_singleton.2 rfl)
    exact ⟨hm, kind_scoped _ _ _ (may_parts hm).1 h2⟩
theorem closed_vle {x : Tm} (h : mayB x = true ∧ scopedB x 0 0 = true) : vleB 2097152 x = true := by
  have := (may_parts h.1).2.1
  exact vle_mono (by omega) (scoped_vle x 0 0 h.2)
theorem mem_takeD {sg : List Dc} {i : Nat} (hi : i ≤ sg.length) {d : Dc} (h : d ∈ sg.take i) : ∃ j, j < i ∧ d = Dcs.at sg j := by
  obtain ⟨j, hj, rfl⟩ := List.mem_iff_getElem.1 h
  simp only [List.length_take] at hj
  refine ⟨j, by omega, ?_⟩
  rw [List.getElem_take]
  have := dat_get (l := sg) (i := j) (by omega)
  rw [List.getElem?_eq_getElem (by omega)] at this
  simpa using this
theorem sig_in {sg : List Dc} {cx : List Tm} (hw : WSz ⟨sg, [], cx⟩) {i : Nat} (hi : i ≤ sg.length) (h : ∀ j, j < i → sigB sg j = true) : WIn 2097152 ⟨sg.take i, [], []⟩ := by
  have hr : room = 1099511627776 := rfl
  have htv : topV = 1125899906842624 := rfl
  have hsl := hw.sl
  have hsl : sg.length < room := hsl
  refine ⟨⟨by show 0 < room; decide, by simp, by simp; omega, fun d hd => hw.sz d (List.mem_of_mem_take hd), by show 0 < room; decide, by simp⟩, by decide, by rw [htv]; decide, by simp, fun d hd => ?_, by simp⟩
  obtain ⟨j, hj, rfl⟩ := mem_takeD hi hd
  exact closed_vle (sigB_closed (h j hj))
theorem mem_takeT {cx : List Tm} {i : Nat} (hi : i ≤ cx.length) {x : Tm} (h : x ∈ cx.take i) : ∃ j, j < i ∧ x = cx.getD j default := by
  obtain ⟨j, hj, rfl⟩ := List.mem_iff_getElem.1 h
  simp only [List.length_take] at hj
  refine ⟨j, by omega, ?_⟩
  rw [List.getElem_take]
  have := getD_get (a := cx) (i := j) (by omega)
  rw [List.getElem?_eq_getElem (by omega)] at this
  simpa using this
theorem ctxB_vle {sg : List Dc} {cx : List Tm} {j : Nat} (hj : j ≤ cx.length) (h : ctxB sg cx j = true) : mayB (cx.getD j default) = true ∧ vleB 2097152 (cx.getD j default) = true := by
  unfold ctxB at h
  rw [beq_iff_eq] at h
  obtain ⟨h1, h2⟩ := TypR_ok h
  have hm := mayW_of h1 _ (List.mem_singleton.2 rfl)
  have hs := typ_scoped _ _ _ (may_parts hm).1 h2
  have hz := (may_parts hm).2.1
  unfold mayW at h1
  simp only [Bool.and_eq_true, Bool.not_eq_true', decide_eq_false_iff_not] at h1
  have hl := h1.1.1.1.1
  exact ⟨hm, vle_mono (by omega) (scoped_vle _ _ _ hs)⟩
theorem ctx_in {sg : List Dc} {cx : List Tm} (hw : WSz ⟨sg, [], cx⟩) (h : ∀ j, j < sg.length → sigB sg j = true) {i : Nat} (hi : i ≤ cx.length) (hc : ∀ j, j < i → ctxB sg cx j = true) : WIn 2097152 ⟨sg, [], cx.take i⟩ := by
  have hr : room = 1099511627776 := rfl
  have htv : topV = 1125899906842624 := rfl
  have hcl := hw.cl
  have hcl : cx.length < room := hcl
  refine ⟨⟨by simp; omega, fun x hx => hw.cz x (List.mem_of_mem_take hx), hw.sl, hw.sz, by show 0 < room; decide, by simp⟩, by decide, by rw [htv]; decide, fun x hx => ?_, fun d hd => ?_, by simp⟩
  · obtain ⟨j, hj, rfl⟩ := mem_takeT hi hx
    exact (ctxB_vle (by omega) (hc j hj)).2
  · obtain ⟨j, hj, rfl⟩ := mem_takeD (Nat.le_refl _) (by rw [List.take_length]; exact hd)
    exact closed_vle (sigB_closed (h j hj))
def gd_S1 (sg : List Dc) (cx : List Tm) (i : Nat) : St := mk 51 [(0, dDs sg), (1, dL cx), (5, dI i)] [] [] []
def gd_S2 (sg : List Dc) (cx : List Tm) (i : Nat) : St := mk 51 [(0, dDs sg), (1, dL cx), (6, dI i)] [] [] []
def gd_R : St := mk 51 [(4, dB false)] [] [] []
end Go.Proofs.YtbcoacljjhbonaaGreat
/- The package world: first, Sig, Ctx, Schema. -/
set_option linter.unusedSimpArgs false
set_option linter.unusedVariables false
set_option maxRecDepth 100000
namespace Go.Proofs.YtbcoacljjhbonaaGreat
open Go.Proofs
/-- The first one of a list that is wrong, from the i-th on. -/
def fstR (W : Nat → Int) : Nat → Nat → Int × Int
  | 0, _ => (0, 0)
  | k + 1, i => if W i ≠ 0 then ((i : Int), W i) else fstR W k (i + 1)
def firstR (W : Nat → Int) (n : Nat) : Int × Int := if (n : Int) > 40 then (0, 4) else fstR W n 0
/-- A function that tells what is wrong with each of a list, as long as nothing was. -/
def DoesW (g : Nat) (caps : List AV) (h : List HO) (X : List Dv) (W : Nat → Int) : Prop :=
  ∀ i x, X[i]? = some x → (∀ j, j < i → W j = 0) → ∀ (locs : List (Option (List AV))) (toks : List (Option Nat)), mCall C (lim C) g (dI i :: .d x :: caps) { locs := locs, heap := h, toks := toks } = some (.v (dI (W i)), { locs := locs, heap := h, toks := toks })
def fi_out (X : AV) (n : Nat) (g : Nat) (caps : List AV) (h : List HO) (r : Int × Int) : Ex × St :=
  if r.2 = 0 then (.exit 0, mk 28 [(1, .fn g [] caps), (12, X), (13, dI n), (14, dI n), (15, dB false)] [] h []) else (.ret, mk 28 [(4, dI r.1), (5, dI r.2)] [] h [])
theorem fi_err (X : AV) (n : Nat) (g : Nat) (caps : List AV) (h : List HO) (i e : Int) (he : e ≠ 0) : fi_out X n g caps h (i, e) = (.ret, mk 28 [(4, dI i), (5, dI e)] [] h []) := if_neg he
theorem fstR_zero (W : Nat → Int) : ∀ k i, (fstR W k i).2 = 0 → fstR W k i = (0, 0)
  | 0, i, _ => rfl
  | k + 1, i, h => by
    simp only [fstR] at h ⊢
    by_cases he : W i = 0
    · rw [if_neg (by simpa using he)] at h ⊢; exact fstR_zero W k (i + 1) h
    · rw [if_pos he] at h; exact absurd h he
def fiT_S (l : List Tm) (g : Nat) (caps : List AV) (h : List HO) (i : Nat) : St := mk 28 [(1, .fn g [] caps), (12, .d (.slc (encs l))), (13, dI l.length), (14, dI i)] [] h []
theorem fiT_loop {g : Nat} {caps : List AV} {h : List HO} {l : List Tm} {W : Nat → Int} (hd : DoesW g caps h (encs l) W) (hl : l.length < room) : ∀ k i, i + k = l.length → (∀ j, j < i → W j = 0) →
    (lim C).code 28 (.loop (cf (cf (cs (cf (cs (cs (bodyOf Tryz.f28)))))))) (fiT_S l g caps h i) = some (fi_out (.d (.slc (encs l))) l.length g caps h (fstR W k i))
  | 0, i, hi, hp => by
    obtain rfl : i = l.length := by omega
    simp only [fstR, fi_out, if_true]
    refine loop_out' ?_ (by simp)
    simp -implicitDefEqProofs (disch := decide +kernel) only [cf, cs, bodyOf, Tryz.f28, Option.getD_some, go_sem, ↓reduceIte, Nat.reduceSub, Nat.reduceAdd, Nat.reduceMul, Nat.reduceBEq, Nat.reduceLT, Nat.reduceLeDiff, Nat.reduceEqDiff, reduceCtorEq, Int.reduceToNat, Int.reduceLE, Int.reduceLT, Int.reduceBEq, Int.reduceBNe, fiT_S, lt_false (Nat.le_refl l.length)]
  | k + 1, i, hi, hp => by
    have hr : room = 1099511627776 := rfl
    have hlt : i < l.length := by omega
    have hc := hd i _ (by rw [encs_get, getD_get hlt]; rfl) hp
    simp only [fstR]
    by_cases he : W i = 0
    · rw [if_neg (by simpa using he)]
      rw [he] at hc
      have h00 : ((0 : Int) != 0) = false := rfl
      refine (loop_nor' (σ' := fiT_S l g caps h (i + 1)) ?_).trans (fiT_loop hd hl k (i + 1) (by omega) fun j hj => ?_)
      · simp -implicitDefEqProofs (disch := decide +kernel) only [cf, cs, bodyOf, Tryz.f28, Option.getD_some, go_sem, ↓reduceIte, Nat.reduceSub, Nat.reduceAdd, Nat.reduceMul, Nat.reduceBEq, Nat.reduceLT, Nat.reduceLeDiff, Nat.reduceEqDiff, reduceCtorEq, Int.reduceToNat, Int.reduceLE, Int.reduceLT, Int.reduceBEq, Int.reduceBNe, fiT_S, lt_true hlt, getD_get hlt, hc, h00, cells_enc, cel3, wrap_succ (n := i) (by omega)]
      · rcases Nat.lt_or_ge j i with h3 | h3
        · exact hp j h3
        · obtain rfl : j = i := by omega
          exact he
    · rw [if_pos he, fi_err _ _ _ _ _ _ _ he]
      have he' : (W i != 0) = true := by simpa using he
      refine loop_out' ?_ (by simp)
      simp -implicitDefEqProofs (disch := decide +kernel) only [cf, cs, bodyOf, Tryz.f28, Option.getD_some, go_sem, ↓reduceIte, Nat.reduceSub, Nat.reduceAdd, Nat.reduceMul, Nat.reduceBEq, Nat.reduceLT, Nat.reduceLeDiff, Nat.reduceEqDiff, reduceCtorEq, Int.reduceToNat, Int.reduceLE, Int.reduceLT, Int.reduceBEq, Int.reduceBNe, fiT_S, lt_true hlt, getD_get hlt, hc, he', cells_enc, cel3]
theorem fstT_spec {g : Nat} {caps : List AV} {h : List HO} {l : List Tm} {W : Nat → Int} (hd : DoesW g caps h (encs l) W) (hl : l.length < room) (hc1 : okL caps = true) (hc2 : eraseL caps = caps) :
    (lim C).call 28 [.d (.slc (encs l)), .fn g [] caps] h = some (.ret (.tup [dI (firstR W l.length).1, dI (firstR W l.length).2]), h) := by
  unfold firstR
  rw [ev_fn 28 Tryz.f28 _ _ _ rfl Tryz.func28 rfl Tryz.ntmps28 rfl]
  cases k1 : decide ((l.length : Int) > 40)
  · rw [if_neg (by simpa using k1)]
    have hloop := fiT_loop hd hl l.length 0 (by omega) (fun j hj => by omega)
    have hz : (fstR W l.length 0).2 = 0 → fstR W l.length 0 = (0, 0) := fstR_zero W l.length 0
    generalize fstR W l.length 0 = r at hloop hz ⊢
    obtain ⟨i, e⟩ := r
    simp -implicitDefEqProofs (disch := decide +kernel) only [go_sem, ↓reduceIte, Nat.reduceSub, Nat.reduceAdd, Nat.reduceMul, Nat.reduceBEq, Nat.reduceLT, Nat.reduceLeDiff, Nat.reduceEqDiff, reduceCtorEq, Int.reduceToNat, Int.reduceLE, Int.reduceLT, Int.reduceBEq, Int.reduceBNe, hc1, hc2, k1]
    rw [loop_at hloop ?hb ?hs]
    case hb => rfl
    case hs => rfl
    by_cases he : e = 0
    · subst he
      obtain rfl : i = 0 := congrArg Prod.fst (hz rfl)
      simp only [fi_out, if_true]
      simp -implicitDefEqProofs (disch := decide +kernel) only [go_sem, ↓reduceIte, Nat.reduceSub, Nat.reduceAdd, Nat.reduceMul, Nat.reduceBEq, Nat.reduceLT, Nat.reduceLeDiff, Nat.reduceEqDiff, reduceCtorEq, Int.reduceToNat, Int.reduceLE, Int.reduceLT, Int.reduceBEq, Int.reduceBNe]
    · rw [fi_err _ _ _ _ _ _ _ he]
      simp -implicitDefEqProofs (disch := decide +kernel) only [go_sem, ↓reduceIte, Nat.reduceSub, Nat.reduceAdd, Nat.reduceMul, Nat.reduceBEq, Nat.reduceLT, Nat.reduceLeDiff, Nat.reduceEqDiff, reduceCtorEq, Int.reduceToNat, Int.reduceLE, Int.reduceLT, Int.reduceBEq, Int.reduceBNe]
  · rw [if_pos (by simpa using k1)]
    simp -implicitDefEqProofs (disch := decide +kernel) only [go_sem, ↓reduceIte, Nat.reduceSub, Nat.reduceAdd, Nat.reduceMul, Nat.reduceBEq, Nat.reduceLT, Nat.reduceLeDiff, Nat.reduceEqDiff, reduceCtorEq, Int.reduceToNat, Int.reduceLE, Int.reduceLT, Int.reduceBEq, Int.reduceBNe, hc1, hc2, k1]
def fiD_S (l : List Dc) (g : Nat) (caps : List AV) (h : List HO) (i : Nat) : St := mk 28 [(1, .fn g [] caps), (12, .d (.slc (encDs l))), (13, dI l.length), (14, dI i)] [] h []
theorem fiD_loop {g : Nat} {caps : List AV} {h : List HO} {l : List Dc} {W : Nat → Int} (hd : DoesW g caps h (encDs l) W) (hl : l.length < room) : ∀ k i, i + k = l.length → (∀ j, j < i → W j = 0) →
    (lim C).code 18 (.loop (cf (cf (cs (cf (cs (cs (bodyOf Tryz.f18)))))))) (fiD_S l g caps h i) = some (fi_out (.d (.slc (encDs l))) l.length g caps h (fstR W k i))
  | 0, i, hi, hp => by
    obtain rfl : i = l.length := by omega
    simp only [fstR, fi_out, if_true]
    refine loop_out' ?_ (by simp)
    simp -implicitDefEqProofs (disch := decide +kernel) only [cf, cs, bodyOf, Tryz.f18, Option.getD_some, go_sem, ↓reduceIte, Nat.reduceSub, Nat.reduceAdd, Nat.reduceMul, Nat.reduceBEq, Nat.reduceLT, Nat.reduceLeDiff, Nat.reduceEqDiff, reduceCtorEq, Int.reduceToNat, Int.reduceLE, Int.reduceLT, Int.reduceBEq, Int.reduceBNe, fiD_S, lt_false (Nat.le_refl l.length)]
  | k + 1, i, hi, hp => by
    have hr : room = 1099511627776 := rfl
    have hlt : i < l.length := by omega
    have hc := hd i _ (by rw [encDs_get, dat_get hlt]; rfl) hp
    simp only [fstR]
    by_cases he : W i = 0
    · rw [if_neg (by simpa using he)]
      rw [he] at hc
      have h00 : ((0 : Int) != 0) = false := rfl
      refine (loop_nor' (σ' := fiD_S l g caps h (i + 1)) ?_).trans (fiD_loop hd hl k (i + 1) (by omega) fun j hj => ?_)
      · simp -implicitDefEqProofs (disch := decide +kernel) only [cf, cs, bodyOf, Tryz.f18, Option.getD_some, go_sem, ↓reduceIte, Nat.reduceSub, Nat.reduceAdd, Nat.reduceMul, Nat.reduceBEq, Nat.reduceLT, Nat.reduceLeDiff, Nat.reduceEqDiff, reduceCtorEq, Int.reduceToNat, Int.reduceLE, Int.reduceLT, Int.reduceBEq, Int.reduceBNe, fiD_S, lt_true hlt, dat_get hlt, hc, h00, cells_encD, wrap_succ (n := i) (by omega)]
      · rcases Nat.lt_or_ge j i with h3 | h3
        · exact hp j h3
        · obtain rfl : j = i := by omega
          exact he
    · rw [if_pos he, fi_err _ _ _ _ _ _ _ he]
      have he' : (W i != 0) = true := by simpa using he
      refine loop_out' ?_ (by simp)
      simp -implicitDefEqProofs (disch := decide +kernel) only [cf, cs, bodyOf, Tryz.f18, Option.getD_some, go_sem, ↓reduceIte, Nat.reduceSub, Nat.reduceAdd, Nat.reduceMul, Nat.reduceBEq, Nat.reduceLT, Nat.reduceLeDiff, Nat.reduceEqDiff, reduceCtorEq, Int.reduceToNat, Int.reduceLE, Int.reduceLT, Int.reduceBEq, Int.reduceBNe, fiD_S, lt_true hlt, dat_get hlt, hc, he', cells_encD]
theorem fstD_spec {g : Nat} {caps : List AV} {h : List HO} {l : List Dc} {W : Nat → Int} (hd : DoesW g caps h (encDs l) W) (hl : l.length < room) (hc1 : okL caps = true) (hc2 : eraseL caps = caps) :
    (lim C).call 18 [.d (.slc (encDs l)), .fn g [] caps] h = some (.ret (.tup [dI (firstR W l.length).1, dI (firstR W l.length).2]), h) := by
  unfold firstR
  rw [ev_fn 18 Tryz.f18 _ _ _ rfl Tryz.func18 rfl Tryz.ntmps18 rfl]
  cases k1 : decide ((l.length : Int) > 40)
  · rw [if_neg (by simpa using k1)]
    have hloop := fiD_loop hd hl l.length 0 (by omega) (fun j hj => by omega)
    have hz : (fstR W l.length 0).2 = 0 → fstR W l.length 0 = (0, 0) := fstR_zero W l.length 0
    generalize fstR W l.length 0 = r at hloop hz ⊢
    obtain ⟨i, e⟩ := r
    simp -implicitDefEqProofs (disch := decide +kernel) only [go_sem, ↓reduceIte, Nat.reduceSub, Nat.reduceAdd, Nat.reduceMul, Nat.reduceBEq, Nat.reduceLT, Nat.reduceLeDiff, Nat.reduceEqDiff, reduceCtorEq, Int.reduceToNat, Int.reduceLE, Int.reduceLT, Int.reduceBEq, Int.reduceBNe, hc1, hc2, k1]
    rw [loop_at hloop ?hb ?hs]
    case hb => rfl
    case hs => rfl
    by_cases he : e = 0
    · subst he
      obtain rfl : i = 0 := congrArg Prod.fst (hz rfl)
      simp only [fi_out, if_true]
      simp -implicitDefEqProofs (disch := decide +kernel) only [go_sem, ↓reduceIte, Nat.reduceSub, Nat.reduceAdd, Nat.reduceMul, Nat.reduceBEq, Nat.reduceLT, Nat.reduceLeDiff, Nat.reduceEqDiff, reduceCtorEq, Int.reduceToNat, Int.reduceLE, Int.reduceLT, Int.reduceBEq, Int.reduceBNe]
    · rw [fi_err _ _ _ _ _ _ _ he]
      simp -implicitDefEqProofs (disch := decide +kernel) only [go_sem, ↓reduceIte, Nat.reduceSub, Nat.reduceAdd, Nat.reduceMul, Nat.reduceBEq, Nat.reduceLT, Nat.reduceLeDiff, Nat.reduceEqDiff, reduceCtorEq, Int.reduceToNat, Int.reduceLE, Int.reduceLT, Int.reduceBEq, Int.reduceBNe]
  · rw [if_pos (by simpa using k1)]
    simp -implicitDefEqProofs (disch := decide +kernel) only [go_sem, ↓reduceIte, Nat.reduceSub, Nat.reduceAdd, Nat.reduceMul, Nat.reduceBEq, Nat.reduceLT, Nat.reduceLeDiff, Nat.reduceEqDiff, reduceCtorEq, Int.reduceToNat, Int.reduceLE, Int.reduceLT, Int.reduceBEq, Int.reduceBNe, hc1, hc2, k1]
/-- What is wrong with the i-th declaration, over those ahead of it. -/
def sigW (sg : List Dc) (i : Nat) : Int := if isKind (Dcs.at sg i).t then KindR (Wo.wd ⟨sg.take i, [], []⟩) [] (Dcs.at sg i).t else TypR (Wo.wd ⟨sg.take i, [], []⟩) [] (Dcs.at sg i).t
theorem sigW_B {sg : List Dc} {i : Nat} (h : sigW sg i = 0) : sigB sg i = true := by
  unfold sigW at h
  unfold sigB
  rw [Bool.or_eq_true, beq_iff_eq, beq_iff_eq]
  split at h
  · exact .inr h
  · exact .inl h
def SigR (sg : List Dc) : Int × Int := firstR (sigW sg) sg.length
theorem wsig1_spec {sg : List Dc} (hw : WSz ⟨sg, [], []⟩) {i : Nat} (hi : i < sg.length) (hp : ∀ j, j < i → sigW sg j = 0) :
    (lim C).call 19 [dI i, dDc (Dcs.at sg i), .href 0 0] [.var 0 [dDs sg]] = some (.ret (dI (sigW sg i)), [.var 0 [dDs sg]]) := by
  have hr : room = 1099511627776 := rfl
  have hin := sig_in hw (Nat.le_of_lt hi) (fun j hj => sigW_B (hp j hj))
  have zt := hw.sz _ (dat_mem hi)
  obtain ⟨h1, c1⟩ := cType_spec hin (Dcs.at sg i).t zt
  obtain ⟨h2, c2⟩ := cKind_spec hin (Dcs.at sg i).t zt
  have c1 : (lim C).call 22 [.d (.slc (encDs (sg.take i))), .d (.slc []), .d (.slc []), dT (Dcs.at sg i).t] [] = some (.ret (dI (TypR (Wo.wd ⟨sg.take i, [], []⟩) [] (Dcs.at sg i).t)), h1) := c1
  have c2 : (lim C).call 21 [.d (.slc (encDs (sg.take i))), .d (.slc []), .d (.slc []), dT (Dcs.at sg i).t] [] = some (.ret (dI (KindR (Wo.wd ⟨sg.take i, [], []⟩) [] (Dcs.at sg i).t)), h2) := c2
  rw [encDs_take] at c1 c2
  have hle : i ≤ sg.length := by omega
  have hk := skind_spec (Dcs.at sg i).t
  have hk' : isKind (Dcs.at sg i).t = ((lastOf (Dcs.at sg i).t).kind == 0) := rfl
  unfold sigW
  rw [hk']
  rw [ev_fn 19 Tryz.f19 _ _ _ rfl Tryz.func19 rfl Tryz.ntmps19 rfl]
  cases k1 : ((lastOf (Dcs.at sg i).t).kind == 0)
  · rw [k1] at hk
    simp -implicitDefEqProofs (disch := decide +kernel) only [go_sem, ↓reduceIte, Nat.reduceSub, Nat.reduceAdd, Nat.reduceMul, Nat.reduceBEq, Nat.reduceLT, Nat.reduceLeDiff, Nat.reduceEqDiff, reduceCtorEq, Int.reduceToNat, Int.reduceLE, Int.reduceLT, Int.reduceBEq, Int.reduceBNe, mCall, hk, c1, Nat.zero_le, hle, encDs_all, cells_encD, (enc_eq (Dcs.at sg i).t).symm]
  · rw [k1] at hk
    simp -implicitDefEqProofs (disch := decide +kernel) only [go_sem, ↓reduceIte, Nat.reduceSub, Nat.reduceAdd, Nat.reduceMul, Nat.reduceBEq, Nat.reduceLT, Nat.reduceLeDiff, Nat.reduceEqDiff, reduceCtorEq, Int.reduceToNat, Int.reduceLE, Int.reduceLT, Int.reduceBEq, Int.reduceBNe, mCall, hk, c2, Nat.zero_le, hle, encDs_all, cells_encD, (enc_eq (Dcs.at sg i).t).symm]
theorem wSig_spec (sg : List Dc) (hw : WSz ⟨sg, [], []⟩) : ∃ h, (lim C).call 7 [dDs sg] [] = some (.ret (.tup [dI (SigR sg).1, dI (SigR sg).2]), h) := by
  have hd : DoesW 19 [.href 0 0] [.var 0 [dDs sg]] (encDs sg) (sigW sg) := by
    intro i x hx hp locs toks
    rw [encDs_get] at hx
    obtain ⟨d, hdd, rfl⟩ := Option.map_eq_some_iff.1 hx
    obtain ⟨hlt, hat⟩ := getD_of_get hdd
    have hat : Dcs.at sg i = d := hat
    have hc := wsig1_spec hw hlt hp
    rw [hat] at hc
    simp only [mCall, callsPure, pureL, AV.pure, okL, AV.okA, C_thr, eraseL, AV.erase, Bool.and_true, Bool.true_and, Bool.and_false, Bool.false_and, Bool.false_eq_true, if_false, if_true, Option.bind_some, heapRes_ret, hc]
  have hf := fstD_spec hd hw.sl rfl rfl
  refine ⟨[.var 0 [dDs sg]], ?_⟩
  unfold SigR
  generalize firstR (sigW sg) sg.length = r at hf ⊢
  rw [ev_fn 7 Tryz.f7 _ _ _ rfl Tryz.func7 rfl Tryz.ntmps7 rfl]
  simp -implicitDefEqProofs (disch := decide +kernel) only [go_sem, ↓reduceIte, Nat.reduceSub, Nat.reduceAdd, Nat.reduceMul, Nat.reduceBEq, Nat.reduceLT, Nat.reduceLeDiff, Nat.reduceEqDiff, reduceCtorEq, Int.reduceToNat, Int.reduceLE, Int.reduceLT, Int.reduceBEq, Int.reduceBNe, mCall, hf]
/-- What is wrong with the i-th entry, behind those ahead of it. -/
def ctxW (w : Wd) (ar cx : List Tm) (i : Nat) : Int := TypR w (ar ++ cx.take i) (cx.getD i default)
def CtxWR (w : Wd) (ar cx : List Tm) : Int := (firstR (ctxW w ar cx) cx.length).2
theorem typ0_vle {w : Wd} {c : List Tm} {x : Tm} (h : TypR w c x = 0) : mayB x = true ∧ vleB 2097152 x = true := by
  obtain ⟨h1, h2⟩ := TypR_ok h
  have hm := mayW_of h1 _ (List.mem_singleton.2 rfl)
  have hs := typ_scoped _ _ _ (may_parts hm).1 h2
  have hz := (may_parts hm).2.1
  unfold mayW at h1
  simp only [Bool.and_eq_true, Bool.not_eq_true', decide_eq_false_iff_not] at h1
  have hl := h1.1.1.1.1
  exact ⟨hm, vle_mono (by omega) (scoped_vle _ _ _ hs)⟩
theorem ctx_in2 {K : Int} {sg : List Dc} {ms : List Md} {ar cx : List Tm} (hin : WIn K ⟨sg, ms, ar⟩) (hcz : ∀ x ∈ cx, x.size < room) (hcl : ar.length + cx.length < room) {i : Nat} (hi : i ≤ cx.length) (hp : ∀ j, j < i → ctxW (Wo.wd ⟨sg, ms, ar⟩) ar cx j = 0) : WIn K ⟨sg, ms, ar ++ cx.take i⟩ := by
  have hk := hin.hk
  refine hin.cons (c := ar ++ cx.take i) (fun x hx => ?_) (by simp; omega)
  rcases List.mem_append.1 hx with hx | hx
  · exact ⟨hin.sz.cz x hx, hin.ctx x hx⟩
  · refine ⟨hcz x (List.mem_of_mem_take hx), ?_⟩
    obtain ⟨j, hj, rfl⟩ := mem_takeT hi hx
    exact vle_mono hk (typ0_vle (hp j hj)).2
def cx_H (sg : List Dc) (ms : List Md) (ar cx : List Tm) : List HO := [.var 0 [dDs sg], .var 0 [dMs ms], .var 0 [dL ar], .var 0 [dL (ar ++ cx)]]
theorem wctx1_spec {K : Int} {sg : List Dc} {ms : List Md} {ar cx : List Tm} (hin : WIn K ⟨sg, ms, ar⟩) (hcz : ∀ x ∈ cx, x.size < room) (hcl : ar.length + cx.length < room) {i : Nat} (hi : i < cx.length) (hp : ∀ j, j < i → ctxW (Wo.wd ⟨sg, ms, ar⟩) ar cx j = 0) :
    (lim C).call 29 [dI i, dT (cx.getD i default), .href 0 0, .href 1 0, .href 3 0, .href 2 0] (cx_H sg ms ar cx) = some (.ret (dI (ctxW (Wo.wd ⟨sg, ms, ar⟩) ar cx i)), cx_H sg ms ar cx) := by
  have hr : room = 1099511627776 := rfl
  have hin2 := ctx_in2 hin hcz hcl (Nat.le_of_lt hi) hp
  obtain ⟨h1, c1⟩ := cType_spec hin2 (cx.getD i default) (hcz _ (getD_mem (a := cx) hi))
  have htk : (encs (ar ++ cx)).take (ar.length + i) = encs (ar ++ cx.take i) := by
    rw [← encs_take, List.take_append]
    congr 2
    · rw [List.take_of_length_le (by omega)]
    · congr 1; omega
  have c1 : (lim C).call 22 [dDs sg, dMs ms, .d (.slc (encs (ar ++ cx.take i))), dT (cx.getD i default)] [] = some (.ret (dI (TypR (Wo.wd ⟨sg, ms, ar⟩) (ar ++ cx.take i) (cx.getD i default))), h1) := c1
  rw [← htk] at c1
  have hw1 : IntKind.wrap .i64 ((ar.length : Int) + i) = ((ar.length + i : Nat) : Int) := by rw [wrap_ok (by omega) (by omega)]; omega
  have hle : ar.length + i ≤ (ar ++ cx).length := by simp; omega
  have h0 : (0 : Int) ≤ ((ar.length + i : Nat) : Int) := by omega
  have hT : (((ar.length + i : Nat) : Int)).toNat = ar.length + i := by omega
  unfold ctxW
  simp only [cx_H]
  rw [ev_fn 29 Tryz.f29 _ _ _ rfl Tryz.func29 rfl Tryz.ntmps29 rfl]
  simp -implicitDefEqProofs (disch := decide +kernel) only [go_sem, ↓reduceIte, Nat.reduceSub, Nat.reduceAdd, Nat.reduceMul, Nat.reduceBEq, Nat.reduceLT, Nat.reduceLeDiff, Nat.reduceEqDiff, reduceCtorEq, Int.reduceToNat, Int.reduceLE, Int.reduceLT, Int.reduceBEq, Int.reduceBNe, mCall, cx_H, hw1, hle, h0, hT, encs_all, Nat.zero_le, c1, cells_enc, cel3, (enc_eq (cx.getD i default)).symm]
theorem wCtx_spec {K : Int} {sg : List Dc} {ms : List Md} {ar : List Tm} (hin : WIn K ⟨sg, ms, ar⟩) (cx : List Tm) (hcz : ∀ x ∈ cx, x.size < room) (hcl : ar.length + cx.length < room) : ∃ h, (lim C).call 10 [dDs sg, dMs ms, dL ar, dL cx] [] = some (.ret (dI (CtxWR (Wo.wd ⟨sg, ms, ar⟩) ar cx)), h) := by
  have hd : DoesW 29 [.href 0 0, .href 1 0, .href 3 0, .href 2 0] (cx_H sg ms ar cx) (encs cx) (ctxW (Wo.wd ⟨sg, ms, ar⟩) ar cx) := by
    intro i x hx hp locs toks
    rw [encs_get] at hx
    obtain ⟨d, hdd, rfl⟩ := Option.map_eq_some_iff.1 hx
    obtain ⟨hlt, hat⟩ := getD_of_get hdd
    have hc := wctx1_spec hin hcz hcl hlt hp
    rw [hat] at hc
    simp only [mCall, callsPure, pureL, AV.pure, okL, AV.okA, C_thr, eraseL, AV.erase, Bool.and_true, Bool.true_and, Bool.and_false, Bool.false_and, Bool.false_eq_true, if_false, if_true, Option.bind_some, heapRes_ret, hc]
  have hf := fstT_spec hd (by omega) rfl rfl
  have hcc := concat_spec ar cx hcl
  refine ⟨cx_H sg ms ar cx, ?_⟩
  unfold CtxWR
  generalize firstR (ctxW (Wo.wd ⟨sg, ms, ar⟩) ar cx) cx.length = r at hf ⊢
  have hcx : Dv.slc [.slc (encs ar), .slc (encs cx)] = .slc [.slc (encs ar), .slc (encs cx)] := rfl
  simp only [cx_H] at hf ⊢
  rw [ev_fn 10 Tryz.f10 _ _ _ rfl Tryz.func10 rfl Tryz.ntmps10 rfl]
  simp -implicitDefEqProofs (disch := decide +kernel) only [go_sem, ↓reduceIte, Nat.reduceSub, Nat.reduceAdd, Nat.reduceMul, Nat.reduceBEq, Nat.reduceLT, Nat.reduceLeDiff, Nat.reduceEqDiff, reduceCtorEq, Int.reduceToNat, Int.reduceLE, Int.reduceLT, Int.reduceBEq, Int.reduceBNe, mCall, hf, hcc]
/-- What is wrong with the types that entries may have. -/
def schW (w : Wd) (l : List Tm) (i : Nat) : Int := if (l.getD i default).kind ≠ 2 then 1 else TypR w [] (l.getD i default)
def SchemaR (w : Wd) (l : List Tm) : Int := (firstR (schW w l) l.length).2
theorem wsch1_spec {K : Int} {sg : List Dc} (hin : WIn K ⟨sg, [], []⟩) {x : Tm} (hz : x.size < room) (i : Nat) :
    (lim C).call 30 [dI i, dT x, .href 0 0] [.var 0 [dDs sg]] = some (.ret (dI (if x.kind ≠ 2 then 1 else TypR (Wo.wd ⟨sg, [], []⟩) [] x)), [.var 0 [dDs sg]]) := by
  obtain ⟨h1, c1⟩ := cType_spec hin x hz
  have c1 : (lim C).call 22 [dDs sg, .d (.slc []), .d (.slc []), dT x] [] = some (.ret (dI (TypR (Wo.wd ⟨sg, [], []⟩) [] x)), h1) := c1
  rw [ev_fn 30 Tryz.f30 _ _ _ rfl Tryz.func30 rfl Tryz.ntmps30 rfl]
  by_cases hk : x.kind = 2
  · have hex := (enc_eq x).symm
    rw [hk] at hex
    rw [if_neg (by simpa using hk)]
    simp -implicitDefEqProofs (disch := decide +kernel) only [go_sem, ↓reduceIte, Nat.reduceSub, Nat.reduceAdd, Nat.reduceMul, Nat.reduceBEq, Nat.reduceLT, Nat.reduceLeDiff, Nat.reduceEqDiff, reduceCtorEq, Int.reduceToNat, Int.reduceLE, Int.reduceLT, Int.reduceBEq, Int.reduceBNe, mCall, hk, c1, cells_enc, cel3, hex]
  · have hk' : (x.kind != 2) = true := by simpa using hk
    rw [if_pos hk]
    simp -implicitDefEqProofs (disch := decide +kernel) only [go_sem, ↓reduceIte, Nat.reduceSub, Nat.reduceAdd, Nat.reduceMul, Nat.reduceBEq, Nat.reduceLT, Nat.reduceLeDiff, Nat.reduceEqDiff, reduceCtorEq, Int.reduceToNat, Int.reduceLE, Int.reduceLT, Int.reduceBEq, Int.reduceBNe, mCall, hk', cells_enc, cel3]
theorem wSchema_spec {K : Int} {sg : List Dc} (hin : WIn K ⟨sg, [], []⟩) (l : List Tm) (hz : ∀ x ∈ l, x.size < room) (hl : l.length < room) : ∃ h, (lim C).call 12 [dDs sg, dL l] [] = some (.ret (dI (SchemaR (Wo.wd ⟨sg, [], []⟩) l)), h) := by
  have hd : DoesW 30 [.href 0 0] [.var 0 [dDs sg]] (encs l) (schW (Wo.wd ⟨sg, [], []⟩) l) := by
    intro i x hx hp locs toks
    rw [encs_get] at hx
    obtain ⟨d, hdd, rfl⟩ := Option.map_eq_some_iff.1 hx
    obtain ⟨hlt, hat⟩ := getD_of_get hdd
    have hc := wsch1_spec hin (x := d) (hz _ (List.mem_of_getElem? hdd)) i
    have hs : schW (Wo.wd ⟨sg, [], []⟩) l i = if d.kind ≠ 2 then 1 else TypR (Wo.wd ⟨sg, [], []⟩) [] d := by unfold schW; rw [hat]
    rw [hs]
    simp only [mCall, callsPure, pureL, AV.pure, okL, AV.okA, C_thr, eraseL, AV.erase, Bool.and_true, Bool.true_and, Bool.and_false, Bool.false_and, Bool.false_eq_true, if_false, if_true, Option.bind_some, heapRes_ret, hc]
  have hf := fstT_spec hd hl rfl rfl
  refine ⟨[.var 0 [dDs sg]], ?_⟩
  unfold SchemaR
  generalize firstR (schW (Wo.wd ⟨sg, [], []⟩) l) l.length = r at hf ⊢
  rw [ev_fn 12 Tryz.f12 _ _ _ rfl Tryz.func12 rfl Tryz.ntmps12 rfl]
  simp -implicitDefEqProofs (disch := decide +kernel) only [go_sem, ↓reduceIte, Nat.reduceSub, Nat.reduceAdd, Nat.reduceMul, Nat.reduceBEq, Nat.reduceLT, Nat.reduceLeDiff, Nat.reduceEqDiff, reduceCtorEq, Int.reduceToNat, Int.reduceLE, Int.reduceLT, Int.reduceBEq, Int.reduceBNe, mCall, hf]
end Go.Proofs.YtbcoacljjhbonaaGreat
/- The package world: Conforms. -/
set_option linter.unusedSimpArgs false
set_option linter.unusedVariables false
set_option maxRecDepth 100000
namespace Go.Proofs.YtbcoacljjhbonaaGreat
open Go.Proofs
/-- A function that answers for each of a list; it leaves more shared variables each time. -/
def AsksH (g : Nat) (caps : List AV) (H : Nat → List HO) (X : List Dv) (p : Nat → Bool) : Prop :=
  ∀ i x, X[i]? = some x → ∀ (locs : List (Option (List AV))) (toks : List (Option Nat)), mCall C (lim C) g (.d x :: caps) { locs := locs, heap := H i, toks := toks } = some (.v (dB (!p i)), { locs := locs, heap := H (i + 1), toks := toks })
def itH_S (l : List Tm) (g : Nat) (caps : List AV) (H : Nat → List HO) (i : Nat) : St := mk 19 [(0, dL l), (1, .fn g [] caps), (7, dI l.length), (8, dI i)] [] (H i) []
theorem itH_spec {g : Nat} {caps : List AV} {H : Nat → List HO} {l : List Tm} {p : Nat → Bool} (hd : AsksH g caps H (encs l) p) (hl : l.length < room) (hc1 : okL caps = true) (hc2 : eraseL caps = caps) :
    ∃ (i : Int) (n : Nat), (lim C).call 47 [dL l, .fn g [] caps] (H 0) = some (.ret (dI i), H n) ∧ decide (i ≥ 0) = !allB l.length p := by
  have hr : room = 1099511627776 := rfl
  have hstep : ∀ i, i < l.length → p i = true → (lim C).code 47 (cf (.loop (cf (cf (cs (cf (cs (bodyOf Tryz.f47)))))))) (itH_S l g caps H i) = some (.nor, itH_S l g caps H (i + 1)) := fun i hi hm => by
    have hc := hd i _ (by rw [encs_get, getD_get hi]; rfl)
    rw [hm] at hc
    simp -implicitDefEqProofs (disch := decide +kernel) only [cf, cs, bodyOf, Tryz.f47, Option.getD_some, go_sem, ↓reduceIte, Nat.reduceSub, Nat.reduceAdd, Nat.reduceMul, Nat.reduceBEq, Nat.reduceLT, Nat.reduceLeDiff, Nat.reduceEqDiff, reduceCtorEq, Int.reduceToNat, Int.reduceLE, Int.reduceLT, Int.reduceBEq, Int.reduceBNe, itH_S, lt_true hi, getD_get hi, hc, cells_enc, cel3, wrap_succ (n := i) (by omega)]
  cases hall : allB l.length p
  · obtain ⟨j, hj, hpj, hb⟩ := allB_first _ _ hall
    refine ⟨j, j + 1, ?_, by simp⟩
    have hc := hd j _ (by rw [encs_get, getD_get hj]; rfl)
    rw [hpj] at hc
    have hloop : (lim C).code 47 (.loop (cf (cf (cs (cf (cs (bodyOf Tryz.f47))))))) (itH_S l g caps H 0) = some (.ret, mk 19 [(4, dI j)] [] (H (j + 1)) []) := by
      refine loop_run (itH_S l g caps H) j (fun i hi => hstep i (by omega) (hb i hi)) ?_ (by simp)
      simp -implicitDefEqProofs (disch := decide +kernel) only [cf, cs, bodyOf, Tryz.f47, Option.getD_some, go_sem, ↓reduceIte, Nat.reduceSub, Nat.reduceAdd, Nat.reduceMul, Nat.reduceBEq, Nat.reduceLT, Nat.reduceLeDiff, Nat.reduceEqDiff, reduceCtorEq, Int.reduceToNat, Int.reduceLE, Int.reduceLT, Int.reduceBEq, Int.reduceBNe, itH_S, lt_true hj, getD_get hj, hc, cells_enc, cel3]
    rw [ev_fn 47 Tryz.f47 _ _ _ rfl Tryz.func47 rfl Tryz.ntmps47 rfl]
    simp -implicitDefEqProofs (disch := decide +kernel) only [go_sem, ↓reduceIte, Nat.reduceSub, Nat.reduceAdd, Nat.reduceMul, Nat.reduceBEq, Nat.reduceLT, Nat.reduceLeDiff, Nat.reduceEqDiff, reduceCtorEq, Int.reduceToNat, Int.reduceLE, Int.reduceLT, Int.reduceBEq, Int.reduceBNe, hc1, hc2]
    rw [loop_at hloop ?hb ?hs]
    case hb => rfl
    case hs => rfl
    simp -implicitDefEqProofs (disch := decide +kernel) only [go_sem, ↓reduceIte, Nat.reduceSub, Nat.reduceAdd, Nat.reduceMul, Nat.reduceBEq, Nat.reduceLT, Nat.reduceLeDiff, Nat.reduceEqDiff, reduceCtorEq, Int.reduceToNat, Int.reduceLE, Int.reduceLT, Int.reduceBEq, Int.reduceBNe]
  · refine ⟨-1, l.length, ?_, by simp⟩
    have hloop : (lim C).code 47 (.loop (cf (cf (cs (cf (cs (bodyOf Tryz.f47))))))) (itH_S l g caps H 0) = some (.exit 0, mk 19 [(0, dL l), (1, .fn g [] caps), (7, dI l.length), (8, dI l.length), (9, dB false)] [] (H l.length) []) := by
      refine loop_run (itH_S l g caps H) l.length (fun i hi => hstep i hi ((allB_iff _ _).1 hall i hi)) ?_ (by simp)
      simp -implicitDefEqProofs (disch := decide +kernel) only [cf, cs, bodyOf, Tryz.f47, Option.getD_some, go_sem, ↓reduceIte, Nat.reduceSub, Nat.reduceAdd, Nat.reduceMul, Nat.reduceBEq, Nat.reduceLT, Nat.reduceLeDiff, Nat.reduceEqDiff, reduceCtorEq, Int.reduceToNat, Int.reduceLE, Int.reduceLT, Int.reduceBEq, Int.reduceBNe, itH_S, lt_false (Nat.le_refl l.length)]
    rw [ev_fn 47 Tryz.f47 _ _ _ rfl Tryz.func47 rfl Tryz.ntmps47 rfl]
    simp -implicitDefEqProofs (disch := decide +kernel) only [go_sem, ↓reduceIte, Nat.reduceSub, Nat.reduceAdd, Nat.reduceMul, Nat.reduceBEq, Nat.reduceLT, Nat.reduceLeDiff, Nat.reduceEqDiff, reduceCtorEq, Int.reduceToNat, Int.reduceLE, Int.reduceLT, Int.reduceBEq, Int.reduceBNe, hc1, hc2]
    rw [loop_at hloop ?hb ?hs]
    case hb => rfl
    case hs => rfl
    simp -implicitDefEqProofs (disch := decide +kernel) only [go_sem, ↓reduceIte, Nat.reduceSub, Nat.reduceAdd, Nat.reduceMul, Nat.reduceBEq, Nat.reduceLT, Nat.reduceLeDiff, Nat.reduceEqDiff, reduceCtorEq, Int.reduceToNat, Int.reduceLE, Int.reduceLT, Int.reduceBEq, Int.reduceBNe]
theorem ctH_spec {g : Nat} {caps : List AV} {H : Nat → List HO} {l : List Tm} {p : Nat → Bool} (hd : AsksH g caps H (encs l) p) (hl : l.length < room) (hc1 : okL caps = true) (hc2 : eraseL caps = caps) (hc3 : pureL caps = false) :
    ∃ n, (lim C).call 32 [dL l, .fn g [] caps] (H 0) = some (.ret (dB (!allB l.length p)), H n) := by
  obtain ⟨i, n, h1, h2⟩ := itH_spec hd hl hc1 hc2
  refine ⟨n, ?_⟩
  rw [ev_fn 32 Tryz.f32 _ _ _ rfl Tryz.func32 rfl Tryz.ntmps32 rfl]
  simp -implicitDefEqProofs (disch := decide +kernel) only [go_sem, ↓reduceIte, Nat.reduceSub, Nat.reduceAdd, Nat.reduceMul, Nat.reduceBEq, Nat.reduceLT, Nat.reduceLeDiff, Nat.reduceEqDiff, reduceCtorEq, Int.reduceToNat, Int.reduceLE, Int.reduceLT, Int.reduceBEq, Int.reduceBNe, mCall, hc1, hc2, hc3, h1, h2]
/-- Whether one of a list is the same. -/
def hasB (sc : List Tm) (a : Tm) : Bool := !allB sc.length fun i => !sameB (sc.getD i default) a
def ConfB (sc l : List Tm) : Bool := allB l.length fun i => hasB sc (l.getD i default)
theorem conf11_spec {s a : Tm} {h : List HO} {j : Nat} (hs : s.size < room) (hj : h[j]? = some (.var 0 (cel3 a))) :
    (lim C).call 33 [dT s, .href j 0] h = some (.ret (dB (sameB s a)), h) := by
  have hsm := tsame_spec s hs a
  simp only [cel3] at hj
  rw [ev_fn 33 Tryz.f33 _ _ _ rfl Tryz.func33 rfl Tryz.ntmps33 rfl]
  simp -implicitDefEqProofs (disch := decide +kernel) only [go_sem, ↓reduceIte, Nat.reduceSub, Nat.reduceAdd, Nat.reduceMul, Nat.reduceBEq, Nat.reduceLT, Nat.reduceLeDiff, Nat.reduceEqDiff, reduceCtorEq, Int.reduceToNat, Int.reduceLE, Int.reduceLT, Int.reduceBEq, Int.reduceBNe, mCall, hj, hsm, cells_enc, cel3, (enc_eq s).symm, (enc_eq a).symm]
theorem conf1_spec {sc : List Tm} {a : Tm} {h : List HO} (hl : sc.length < room) (hz : ∀ x ∈ sc, x.size < room) (h0 : h[0]? = some (.var 0 [dL sc])) :
    (lim C).call 31 [dT a, .href 0 0] h = some (.ret (dB (!hasB sc a)), h ++ [.var 0 (cel3 a)]) := by
  have hlen : 0 < h.length := by
    rcases Nat.eq_zero_or_pos h.length with e | e
    · rw [List.eq_nil_of_length_eq_zero e] at h0; cases h0
    · exact e
  have h0' : (h ++ [.var 0 [dI a.kind, dI a.head, dL a.args]])[0]? = some (.var 0 [dL sc]) := by rw [List.getElem?_append_left hlen]; exact h0
  have hd : AsksE 33 [.href h.length 0] (h ++ [.var 0 (cel3 a)]) (encs sc) (fun i => !sameB (sc.getD i default) a) := by
    intro i x hx locs toks
    rw [encs_get] at hx
    obtain ⟨d, hdd, rfl⟩ := Option.map_eq_some_iff.1 hx
    obtain ⟨hlt, hat⟩ := getD_of_get hdd
    have hc := conf11_spec (s := d) (a := a) (h := h ++ [.var 0 (cel3 a)]) (j := h.length) (hz _ (List.mem_of_getElem? hdd)) (by rw [getApp0]; rfl)
    simp only [mCall, callsPure, pureL, AV.pure, okL, AV.okA, C_thr, eraseL, AV.erase, Bool.and_true, Bool.true_and, Bool.and_false, Bool.false_and, Bool.false_eq_true, if_false, if_true, Option.bind_some, heapRes_ret, hc, hat, Bool.not_not]
  have hf := ctT_spec hd hl rfl rfl rfl
  unfold hasB
  simp only [cel3] at hf ⊢
  rw [ev_fn 31 Tryz.f31 _ _ _ rfl Tryz.func31 rfl Tryz.ntmps31 rfl]
  simp -implicitDefEqProofs (disch := decide +kernel) only [go_sem, ↓reduceIte, Nat.reduceSub, Nat.reduceAdd, Nat.reduceMul, Nat.reduceBEq, Nat.reduceLT, Nat.reduceLeDiff, Nat.reduceEqDiff, reduceCtorEq, Int.reduceToNat, Int.reduceLE, Int.reduceLT, Int.reduceBEq, Int.reduceBNe, mCall, h0', hf, cells_enc, cel3]
def conf_H (sc l : List Tm) (i : Nat) : List HO := .var 0 [dL sc] :: (l.take i).map fun x => .var 0 (cel3 x)
theorem wConf_spec (sc l : List Tm) (h1 : sc.length < room) (z1 : ∀ x ∈ sc, x.size < room) (h2 : l.length < room) : ∃ h, (lim C).call 14 [dL sc, dL l] [] = some (.ret (dB (ConfB sc l)), h) := by
  have hd : AsksH 31 [.href 0 0] (conf_H sc l) (encs l) (fun i => hasB sc (l.getD i default)) := by
    intro i x hx locs toks
    rw [encs_get] at hx
    obtain ⟨d, hdd, rfl⟩ := Option.map_eq_some_iff.1 hx
    obtain ⟨hlt, hat⟩ := getD_of_get hdd
    have hc := conf1_spec (sc := sc) (a := d) (h := conf_H sc l i) h1 z1 rfl
    have hn : conf_H sc l i ++ [.var 0 (cel3 d)] = conf_H sc l (i + 1) := by
      unfold conf_H
      rw [List.take_add_one, hdd, List.map_append]
      rfl
    rw [hn] at hc
    simp only [mCall, callsPure, pureL, AV.pure, okL, AV.okA, C_thr, eraseL, AV.erase, Bool.and_true, Bool.true_and, Bool.and_false, Bool.false_and, Bool.false_eq_true, if_false, if_true, Option.bind_some, heapRes_ret, hc, hat]
  obtain ⟨n, hf⟩ := ctH_spec hd h2 rfl rfl rfl
  have hf : (lim C).call 32 [dL l, .fn 31 [] [.href 0 0]] [.var 0 [dL sc]] = _ := hf
  refine ⟨conf_H sc l n, ?_⟩
  unfold ConfB
  rw [ev_fn 14 Tryz.f14 _ _ _ rfl Tryz.func14 rfl Tryz.ntmps14 rfl]
  simp -implicitDefEqProofs (disch := decide +kernel) only [go_sem, ↓reduceIte, Nat.reduceSub, Nat.reduceAdd, Nat.reduceMul, Nat.reduceBEq, Nat.reduceLT, Nat.reduceLeDiff, Nat.reduceEqDiff, reduceCtorEq, Int.reduceToNat, Int.reduceLE, Int.reduceLT, Int.reduceBEq, Int.reduceBNe, mCall, hf, Bool.not_not]
end Go.Proofs.YtbcoacljjhbonaaGreat
/- The reference of layer 3: its small functions. -/
set_option linter.unusedSimpArgs false
set_option linter.unusedVariables false
set_option maxRecDepth 100000
namespace Go.Proofs.YtbcoacljjhbonaaGreat
open Go.Proofs
/-- One below what binds, whatever its terms are. -/
def upG (x : Tm) : Tm := if renB x 1 0 then upT x 1 0 else x
def underG (s : Sb) : Sb := ⟨(s.L.map upG) ++ [var0], s.sh + 1⟩
theorem upG_may {x : Tm} (h : mayB x = true) : upG x = upT x 1 0 := by
  unfold upG
  rw [if_pos (by unfold renB; rw [h]; rfl)]
theorem underG_may {s : Sb} (h : ∀ x ∈ s.L, mayB x = true) : underG s = underS s := by
  unfold underG underS
  congr 2
  exact List.map_congr_left fun x hx => upG_may (h x hx)
theorem upG_size (x : Tm) : (upG x).size = x.size := by
  unfold upG
  split
  · rw [mapT_size]
  · rfl
def ug_F (s : Sb) (j : Nat) : Tm := upG (s.L.getD j default)
theorem ug_out (s : Sb) : encs (outs (ug_F s) s.L.length) ++ [enc var0] = encs (underG s).L := by
  have : outs (ug_F s) s.L.length = s.L.map upG := by
    unfold outs ug_F
    refine List.ext_getElem (by simp) fun i h1 h2 => ?_
    simp at h1
    simp [List.getD_eq_getElem?_getD, h1]
  rw [this]
  simp [underG, encs_append, encs]
theorem ug_app {s : Sb} (hl : s.L.length < room) {i : Nat} (hi : i < s.L.length) (locs : List (Option (List AV))) (heap : List HO) :
    mApp (acc 0 (encs (outs (ug_F s) i))) [enc (ug_F s i)] 3 { locs := locs, heap := heap, toks := accT i } = some (.v (acc 0 (encs (outs (ug_F s) (i + 1)))), { locs := locs, heap := heap, toks := accT (i + 1) }) := by
  have hr : room = 1099511627776 := rfl
  have hln : (encs (outs (ug_F s) i)).length = i := by simp [encs, outs]
  have hap := mApp_acc (encs (outs (ug_F s) i)) (enc (ug_F s i)) 3 locs heap (by rw [hln]; omega) (encs_all _) (enc_width _)
  have hsn : encs (outs (ug_F s) i) ++ [enc (ug_F s i)] = encs (outs (ug_F s) (i + 1)) := by unfold outs; rw [List.range_succ, List.map_append, encs_append]; rfl
  rw [hln, hsn] at hap
  exact hap
theorem ug_last {s : Sb} (hl : s.L.length < room) (locs : List (Option (List AV))) (heap : List HO) :
    mApp (acc 0 (encs (outs (ug_F s) s.L.length))) [enc var0] 3 { locs := locs, heap := heap, toks := accT s.L.length } = some (.v (acc 0 (encs (underG s).L)), { locs := locs, heap := heap, toks := accT (s.L.length + 1) }) := by
  have hr : room = 1099511627776 := rfl
  have hln : (encs (outs (ug_F s) s.L.length)).length = s.L.length := by simp [encs, outs]
  have hap := mApp_acc (encs (outs (ug_F s) s.L.length)) (enc var0) 3 locs heap (by rw [hln]; omega) (encs_all _) (enc_width _)
  rw [hln, ug_out] at hap
  exact hap
theorem var0_enc : Dv.agg [.int .i64 4, .int .i64 0, .slc []] = enc var0 := by unfold var0; rw [enc_mk]; rfl
def ug_S (s : Sb) (i : Nat) : St := mk 32 [(2, .lref 2 0), (3, .lref 3 0), (11, dL s.L), (12, dI s.L.length), (13, dI i)] [(2, [.clip [], dI 0]), (3, [acc 0 (encs (outs (ug_F s) i)), dI (s.sh + 1)])] [] (accT i)
theorem underG_spec (s : Sb) (hm : ∀ x ∈ s.L, x.size < room ∧ vlowB x = true) (hl : s.L.length < room) (hs : 0 ≤ s.sh ∧ s.sh ≤ 4503599627370496) :
    (lim C).call 95 [dS s] [] = some (.ret (dS (underG s)), []) := by
  have hr : room = 1099511627776 := rfl
  have hw : IntKind.wrap .i64 (s.sh + 1) = s.sh + 1 := wrap_ok (by omega) (by omega)
  have hstep : ∀ i, i < s.L.length → (lim C).code 95 (cf (.loop (cf (cf (cs (cf (cs (cs (bodyOf Tryz.f95))))))))) (ug_S s i) = some (.nor, ug_S s (i + 1)) := fun i hi => by
    obtain ⟨m1, m2⟩ := hm _ (getD_mem hi)
    obtain ⟨h, hc⟩ := sup_spec (s.L.getD i default) m1 m2 1 0
    have hc' : (lim C).call 91 [dT (s.L.getD i default), dI 1, dI 0] [] = some (.ret (dT (ug_F s i)), h) := hc
    have hap := ug_app hl hi
    simp -implicitDefEqProofs (disch := decide +kernel) only [cf, cs, bodyOf, Tryz.f95, Option.getD_some, go_sem, ↓reduceIte, Nat.reduceSub, Nat.reduceAdd, Nat.reduceMul, Nat.reduceBEq, Nat.reduceLT, Nat.reduceLeDiff, Nat.reduceEqDiff, reduceCtorEq, Int.reduceToNat, Int.reduceLE, Int.reduceLT, Int.reduceBEq, Int.reduceBNe, mCall, ug_S, cel2, acc_keep, lt_true hi, getD_get hi, hc', hap, wrap_succ (n := i) (by omega)]
  have hloop : (lim C).code 95 (.loop (cf (cf (cs (cf (cs (cs (bodyOf Tryz.f95)))))))) (ug_S s 0) = some (.exit 0, mk 32 [(2, .lref 2 0), (3, .lref 3 0), (11, dL s.L), (12, dI s.L.length), (13, dI s.L.length), (14, dB false)] [(2, [.clip [], dI 0]), (3, [acc 0 (encs (outs (ug_F s) s.L.length)), dI (s.sh + 1)])] [] (accT s.L.length)) := by
    refine loop_run (ug_S s) s.L.length hstep ?_ (by simp)
    simp -implicitDefEqProofs (disch := decide +kernel) only [cf, cs, bodyOf, Tryz.f95, Option.getD_some, go_sem, ↓reduceIte, Nat.reduceSub, Nat.reduceAdd, Nat.reduceMul, Nat.reduceBEq, Nat.reduceLT, Nat.reduceLeDiff, Nat.reduceEqDiff, reduceCtorEq, Int.reduceToNat, Int.reduceLE, Int.reduceLT, Int.reduceBEq, Int.reduceBNe, mCall, ug_S, cel2, lt_false (Nat.le_refl s.L.length)]
  have hap := ug_last hl
  have hv := var0_enc
  have he : Dv.agg [.slc (encs (underG s).L), .int .i64 (s.sh + 1)] = encS (underG s) := rfl
  rw [ev_fn 95 Tryz.f95 _ _ _ rfl Tryz.func95 rfl Tryz.ntmps95 rfl]
  simp -implicitDefEqProofs (disch := decide +kernel) only [go_sem, ↓reduceIte, Nat.reduceSub, Nat.reduceAdd, Nat.reduceMul, Nat.reduceBEq, Nat.reduceLT, Nat.reduceLeDiff, Nat.reduceEqDiff, reduceCtorEq, Int.reduceToNat, Int.reduceLE, Int.reduceLT, Int.reduceBEq, Int.reduceBNe, mCall, encS_eq, hw]
  rw [loop_at hloop ?hb ?hs]
  case hb => rfl
  case hs => rfl
  simp -implicitDefEqProofs (disch := decide +kernel) only [go_sem, ↓reduceIte, Nat.reduceSub, Nat.reduceAdd, Nat.reduceMul, Nat.reduceBEq, Nat.reduceLT, Nat.reduceLeDiff, Nat.reduceEqDiff, reduceCtorEq, Int.reduceToNat, Int.reduceLE, Int.reduceLT, Int.reduceBEq, Int.reduceBNe, mCall, cel2, cells_encS, acc_keep, acc_drop, hap, hv, he, (encS_eq (underG s)).symm]
def rug_S (s : Sb) (i : Nat) : St := mk 34 [(1, .lref 1 0), (2, .lref 2 0), (3, .lref 3 0), (4, dI i)] [(1, cel2 s), (2, [.clip [], dI 0]), (3, [acc 0 (encs (outs (ug_F s) i)), dI (s.sh + 1)])] [] (accT i)
theorem runder_spec (s : Sb) (hm : ∀ x ∈ s.L, x.size < room ∧ vlowB x = true) (hl : s.L.length < room) (hs : 0 ≤ s.sh ∧ s.sh ≤ 4503599627370496) :
    (lim C).call 102 [dS s] [] = some (.ret (dS (underG s)), []) := by
  have hr : room = 1099511627776 := rfl
  have hw : IntKind.wrap .i64 (s.sh + 1) = s.sh + 1 := wrap_ok (by omega) (by omega)
  have hstep : ∀ i, i < s.L.length → (lim C).code 102 (cf (.loop (cf (cf (cs (cf (cs (cs (bodyOf Tryz.f102))))))))) (rug_S s i) = some (.nor, rug_S s (i + 1)) := fun i hi => by
    obtain ⟨m1, m2⟩ := hm _ (getD_mem hi)
    have hc := rUp_spec (s.L.getD i default) m1 m2 1 0
    have hc' : (lim C).call 98 [dT (s.L.getD i default), dI 1, dI 0] [] = some (.ret (dT (ug_F s i)), []) := hc
    have hap := ug_app hl hi
    simp -implicitDefEqProofs (disch := decide +kernel) only [cf, cs, bodyOf, Tryz.f102, Option.getD_some, go_sem, ↓reduceIte, Nat.reduceSub, Nat.reduceAdd, Nat.reduceMul, Nat.reduceBEq, Nat.reduceLT, Nat.reduceLeDiff, Nat.reduceEqDiff, reduceCtorEq, Int.reduceToNat, Int.reduceLE, Int.reduceLT, Int.reduceBEq, Int.reduceBNe, mCall, rug_S, cel2, acc_keep, lt_true hi, getD_get hi, hc', hap, wrap_succ (n := i) (by omega)]
  have hloop : (lim C).code 102 (.loop (cf (cf (cs (cf (cs (cs (bodyOf Tryz.f102)))))))) (rug_S s 0) = some (.exit 0, mk 34 [(1, .lref 1 0), (2, .lref 2 0), (3, .lref 3 0), (4, dI s.L.length), (13, dB false)] [(1, cel2 s), (2, [.clip [], dI 0]), (3, [acc 0 (encs (outs (ug_F s) s.L.length)), dI (s.sh + 1)])] [] (accT s.L.length)) := by
    refine loop_run (rug_S s) s.L.length hstep ?_ (by simp)
    simp -implicitDefEqProofs (disch := decide +kernel) only [cf, cs, bodyOf, Tryz.f102, Option.getD_some, go_sem, ↓reduceIte, Nat.reduceSub, Nat.reduceAdd, Nat.reduceMul, Nat.reduceBEq, Nat.reduceLT, Nat.reduceLeDiff, Nat.reduceEqDiff, reduceCtorEq, Int.reduceToNat, Int.reduceLE, Int.reduceLT, Int.reduceBEq, Int.reduceBNe, mCall, rug_S, cel2, lt_false (Nat.le_refl s.L.length)]
  have hap := ug_last hl
  have hv := var0_enc
  have he : Dv.agg [.slc (encs (underG s).L), .int .i64 (s.sh + 1)] = encS (underG s) := rfl
  rw [ev_fn 102 Tryz.f102 _ _ _ rfl Tryz.func102 rfl Tryz.ntmps102 rfl]
  simp -implicitDefEqProofs (disch := decide +kernel) only [go_sem, ↓reduceIte, Nat.reduceSub, Nat.reduceAdd, Nat.reduceMul, Nat.reduceBEq, Nat.reduceLT, Nat.reduceLeDiff, Nat.reduceEqDiff, reduceCtorEq, Int.reduceToNat, Int.reduceLE, Int.reduceLT, Int.reduceBEq, Int.reduceBNe, mCall, cells_encS, cel2, hw]
  rw [loop_at hloop ?hb ?hs]
  case hb => rfl
  case hs => rfl
  simp -implicitDefEqProofs (disch := decide +kernel) only [go_sem, ↓reduceIte, Nat.reduceSub, Nat.reduceAdd, Nat.reduceMul, Nat.reduceBEq, Nat.reduceLT, Nat.reduceLeDiff, Nat.reduceEqDiff, reduceCtorEq, Int.reduceToNat, Int.reduceLE, Int.reduceLT, Int.reduceBEq, Int.reduceBNe, mCall, cel2, cells_encS, acc_keep, acc_drop, hap, hv, he, (encS_eq (underG s)).symm]

/-! ### Same -/
theorem mapped_spec (s : Sb) (i : Int) (h0 : 0 ≤ i) (hi : i ≤ 4503599627370496) (hl : s.L.length < room) (hs : 0 ≤ s.sh ∧ s.sh ≤ 4503599627370496) (hz : ∀ x ∈ s.L, x.size < room ∧ vlowB x = true) :
    (lim C).call 104 [dS s, dI i] [] = some (.ret (dT (ofS s i)), []) := by
  have hr : room = 1099511627776 := rfl
  rw [ev_fn 104 Tryz.f104 _ _ _ rfl Tryz.func104 rfl Tryz.ntmps104 rfl]
  cases hlt : decide (i < (s.L.length : Int))
  · have hlt' : ¬ i < (s.L.length : Int) := by simpa using hlt
    have hw1 : IntKind.wrap .i64 (i - (s.L.length : Int)) = i - (s.L.length : Int) := wrap_ok (by omega) (by omega)
    have hw2 : IntKind.wrap .i64 (i - (s.L.length : Int) + s.sh) = i - (s.L.length : Int) + s.sh := wrap_ok (by omega) (by omega)
    have he : Dv.agg [.int .i64 4, .int .i64 (i - (s.L.length : Int) + s.sh), .slc []] = enc (ofS s i) := by
      unfold ofS; rw [if_neg hlt', enc_mk]; rfl
    simp -implicitDefEqProofs (disch := decide +kernel) only [go_sem, ↓reduceIte, Nat.reduceSub, Nat.reduceAdd, Nat.reduceMul, Nat.reduceBEq, Nat.reduceLT, Nat.reduceLeDiff, Nat.reduceEqDiff, reduceCtorEq, Int.reduceToNat, Int.reduceLE, Int.reduceLT, Int.reduceBEq, Int.reduceBNe, mCall, encS_eq, hlt, hw1, hw2, he]
  · have hlt' : i < (s.L.length : Int) := by simpa using hlt
    have hw1 : IntKind.wrap .i64 ((s.L.length : Int) - 1) = (s.L.length : Int) - 1 := wrap_ok (by omega) (by omega)
    have hw2 : IntKind.wrap .i64 ((s.L.length : Int) - 1 - i) = (s.L.length : Int) - 1 - i := wrap_ok (by omega) (by omega)
    have hge : 0 ≤ (s.L.length : Int) - 1 - i := by omega
    have hnat : ((s.L.length : Int) - 1 - i).toNat = s.L.length - 1 - i.toNat := by omega
    have hget : s.L[s.L.length - 1 - i.toNat]? = some (ofS s i) := by
      unfold ofS
      rw [if_pos hlt', List.getD_eq_getElem?_getD, List.getElem?_eq_getElem (by omega)]
      rfl
    have hmem : ofS s i ∈ s.L := List.mem_of_getElem? hget
    have hu := rUp_spec (ofS s i) (hz _ hmem).1 (hz _ hmem).2 0 0
    have hue : (if renB (ofS s i) 0 0 then upT (ofS s i) 0 0 else ofS s i) = ofS s i := by
      split
      · rw [up_zero]
      · rfl
    rw [hue] at hu
    simp -implicitDefEqProofs (disch := decide +kernel) only [go_sem, ↓reduceIte, Nat.reduceSub, Nat.reduceAdd, Nat.reduceMul, Nat.reduceBEq, Nat.reduceLT, Nat.reduceLeDiff, Nat.reduceEqDiff, reduceCtorEq, Int.reduceToNat, Int.reduceLE, Int.reduceLT, Int.reduceBEq, Int.reduceBNe, mCall, encS_eq, hlt, hw1, hw2, hge, hnat, hget, hu]
theorem rfail_spec (h : List HO) (n : Int) (e : Int) : (lim C).call 100 [.href h.length 0, dI e] (h ++ [.var 0 [dI n, dI 0]]) = some (.ret (dT zT), h ++ [.var 0 [dI n, dI e]]) := by
  rw [ev_fn 100 Tryz.f100 _ _ _ rfl Tryz.func100 rfl Tryz.ntmps100 rfl]
  simp -implicitDefEqProofs (disch := decide +kernel) only [go_sem, ↓reduceIte, Nat.reduceSub, Nat.reduceAdd, Nat.reduceMul, Nat.reduceBEq, Nat.reduceLT, Nat.reduceLeDiff, Nat.reduceEqDiff, reduceCtorEq, Int.reduceToNat, Int.reduceLE, Int.reduceLT, Int.reduceBEq, Int.reduceBNe, mCall, getApp0, setApp0, zT_enc]
theorem sameL_refl (x : List Tm) : sameL x x = true := by
  simp only [sameL, beq_self_eq_true, Bool.true_and, allB_iff]
  exact fun i hi => sameB_refl _
end Go.Proofs.YtbcoacljjhbonaaGreat
/- The reference of layer 3, gone through. -/
set_option linter.unusedSimpArgs false
set_option linter.unusedVariables false
set_option maxRecDepth 100000
namespace Go.Proofs.YtbcoacljjhbonaaGreat
open Go.Proofs
def outW (h : List HO) : R Tm → Option (CR × List HO)
  | .ok u m => some (.ret (dT u), h ++ [.var 0 [dI m, dI 0]])
  | .er e m => some (.ret (dT zT), h ++ [.var 0 [dI m, dI (e : Int)]])
def rap_S (t : Tm) (s : Sb) (h : List HO) (xs : List Tm) (m : Nat) (i : Nat) : St :=
  mk 74 [(0, .href h.length 0), (4, .lref 4 0), (5, .lref 5 0), (6, .lref 6 0), (7, acc 0 (encs xs)), (8, dI i)]
    [(4, cel3 t), (5, cel2 s), (6, zc3)] (h ++ [.var 0 [dI m, dI 0]]) (accT xs.length)
theorem rap_step {t : Tm} {s : Sb} {h : List HO} {xs : List Tm} {m m' i : Nat} {x : Tm} (hi : i < t.args.length) (hxl : xs.length = i) (hs : t.size < room) (hm : ∀ x ∈ s.L, mayB x = true ∧ vlowB x = true) (hl : s.L.length < room) (hsh : 0 ≤ s.sh ∧ s.sh ≤ 4503599627370496)
    (hrec : (lim C).call 87 [.href h.length 0, dT (t.arg i), dS (below s t i)] (h ++ [.var 0 [dI m, dI 0]]) = some (.ret (dT x), h ++ [.var 0 [dI m', dI 0]])) :
    (lim C).code 87 (cf (.loop (cf (cf (cs (cf (cs (cs (cs (cs (bodyOf Tryz.f87))))))))))) (rap_S t s h xs m i) = some (.nor, rap_S t s h (xs ++ [x]) m' (i + 1)) := by
  have hr : room = 1099511627776 := rfl
  have hl' := len_size t
  have hap := fun locs heap => mApp_acc (encs xs) (enc x) 3 locs heap (by rw [encs_length]; omega) (encs_all _) (enc_width _)
  have hsn : encs xs ++ [enc x] = encs (xs ++ [x]) := by rw [encs_append]; rfl
  rw [encs_length, hsn] at hap
  have hxs : (xs ++ [x]).length = xs.length + 1 := by simp
  have hu := runder_spec s (fun x hx => ⟨by have := (may_parts (hm x hx).1).2.1; omega, (hm x hx).2⟩) hl hsh
  rw [underG_may fun x hx => (hm x hx).1] at hu
  have hbi := binds_spec t i hs hi
  have h00 : ((0 : Int) != 0) = false := rfl
  unfold below at hrec
  rcases Nat.eq_zero_or_pos (bnd t i) with hb | hb
  · rw [if_neg (by omega)] at hrec
    rw [hb] at hbi
    have hb1 : (((0 : Nat) : Int) == 1) = false := rfl
    simp -implicitDefEqProofs (disch := decide +kernel) only [cf, cs, bodyOf, Tryz.f87, Option.getD_some, go_sem, ↓reduceIte, Nat.reduceSub, Nat.reduceAdd, Nat.reduceMul, Nat.reduceBEq, Nat.reduceLT, Nat.reduceLeDiff, Nat.reduceEqDiff, reduceCtorEq, Int.reduceToNat, Int.reduceLE, Int.reduceLT, Int.reduceBEq, Int.reduceBNe, mCall, rap_S, cel3, cells_enc, cells_encS, cel2, zc3, acc_keep, acc_drop, (encS_eq s).symm, (enc_eq t).symm, (enc_eq x).symm, lt_true hi, arg_get hi, getApp0, setApp0, hrec, hap, hxs, hbi, hb1, h00, wrap_succ (n := i) (by omega)]
  · have hb' : bnd t i = 1 := by have := bnd_le t i; omega
    rw [if_pos hb'] at hrec
    rw [hb'] at hbi
    have hb1 : (((1 : Nat) : Int) == 1) = true := rfl
    simp -implicitDefEqProofs (disch := decide +kernel) only [cf, cs, bodyOf, Tryz.f87, Option.getD_some, go_sem, ↓reduceIte, Nat.reduceSub, Nat.reduceAdd, Nat.reduceMul, Nat.reduceBEq, Nat.reduceLT, Nat.reduceLeDiff, Nat.reduceEqDiff, reduceCtorEq, Int.reduceToNat, Int.reduceLE, Int.reduceLT, Int.reduceBEq, Int.reduceBNe, mCall, rap_S, cel3, cells_enc, cells_encS, cel2, zc3, acc_keep, acc_drop, (encS_eq s).symm, (encS_eq (underS s)).symm, (enc_eq t).symm, (enc_eq x).symm, lt_true hi, arg_get hi, getApp0, setApp0, hrec, hap, hxs, hbi, hb1, hu, h00, wrap_succ (n := i) (by omega)]
theorem rap_stop {t : Tm} {s : Sb} {h : List HO} {xs : List Tm} {m m' i e : Nat} (he : ((e : Int) != 0) = true) (hi : i < t.args.length) (hxl : xs.length = i) (hs : t.size < room) (hm : ∀ x ∈ s.L, mayB x = true ∧ vlowB x = true) (hl : s.L.length < room) (hsh : 0 ≤ s.sh ∧ s.sh ≤ 4503599627370496)
    (hrec : (lim C).call 87 [.href h.length 0, dT (t.arg i), dS (below s t i)] (h ++ [.var 0 [dI m, dI 0]]) = some (.ret (dT zT), h ++ [.var 0 [dI m', dI (e : Int)]])) :
    (lim C).code 87 (cf (.loop (cf (cf (cs (cf (cs (cs (cs (cs (bodyOf Tryz.f87))))))))))) (rap_S t s h xs m i) = some (.ret, mk 74 [(6, .lref 6 0)] [(6, cel3 zT)] (h ++ [.var 0 [dI m', dI (e : Int)]]) (accT xs.length)) := by
  have hr : room = 1099511627776 := rfl
  have hl' := len_size t
  have hu := runder_spec s (fun x hx => ⟨by have := (may_parts (hm x hx).1).2.1; omega, (hm x hx).2⟩) hl hsh
  rw [underG_may fun x hx => (hm x hx).1] at hu
  have hbi := binds_spec t i hs hi
  unfold below at hrec
  rcases Nat.eq_zero_or_pos (bnd t i) with hb | hb
  · rw [if_neg (by omega)] at hrec
    rw [hb] at hbi
    have hb1 : (((0 : Nat) : Int) == 1) = false := rfl
    simp -implicitDefEqProofs (disch := decide +kernel) only [cf, cs, bodyOf, Tryz.f87, Option.getD_some, go_sem, ↓reduceIte, Nat.reduceSub, Nat.reduceAdd, Nat.reduceMul, Nat.reduceBEq, Nat.reduceLT, Nat.reduceLeDiff, Nat.reduceEqDiff, reduceCtorEq, Int.reduceToNat, Int.reduceLE, Int.reduceLT, Int.reduceBEq, Int.reduceBNe, mCall, rap_S, cel3, cells_enc, cells_encS, cel2, zc3, acc_keep, acc_drop, (encS_eq s).symm, (enc_eq t).symm, (enc_eq zT).symm, lt_true hi, arg_get hi, getApp0, setApp0, hrec, hbi, hb1, he]
  · have hb' : bnd t i = 1 := by have := bnd_le t i; omega
    rw [if_pos hb'] at hrec
    rw [hb'] at hbi
    have hb1 : (((1 : Nat) : Int) == 1) = true := rfl
    simp -implicitDefEqProofs (disch := decide +kernel) only [cf, cs, bodyOf, Tryz.f87, Option.getD_some, go_sem, ↓reduceIte, Nat.reduceSub, Nat.reduceAdd, Nat.reduceMul, Nat.reduceBEq, Nat.reduceLT, Nat.reduceLeDiff, Nat.reduceEqDiff, reduceCtorEq, Int.reduceToNat, Int.reduceLE, Int.reduceLT, Int.reduceBEq, Int.reduceBNe, mCall, rap_S, cel3, cells_enc, cells_encS, cel2, zc3, acc_keep, acc_drop, (encS_eq s).symm, (encS_eq (underS s)).symm, (enc_eq t).symm, (enc_eq zT).symm, lt_true hi, arg_get hi, getApp0, setApp0, hrec, hbi, hb1, hu, he]
end Go.Proofs.YtbcoacljjhbonaaGreat
/- The reference of layer 3: apply and spine, told whole. -/
set_option linter.unusedSimpArgs false
set_option linter.unusedVariables false
set_option maxRecDepth 100000
namespace Go.Proofs.YtbcoacljjhbonaaGreat
open Go.Proofs
/-! ### spine's loop -/
def spnL (A : Tm → Sb → Nat → R Tm) : Tm → List Tm → Nat → R (Tm × List Tm)
  | u, [], n => .ok (u, []) n
  | u, a :: rest, n => if u.kind = 3 then (if mayB a then (A (u.arg 0) ⟨[a], 0⟩ n).bind fun v m => spnL A v rest m else .er 4 n) else .ok (u, a :: rest) n
def spnE (p : Tm × List Tm) (n : Nat) : R Tm := if p.2 = [] then .ok p.1 n else if heads p.1.kind then .ok (.mk p.1.kind p.1.head (p.1.args ++ p.2)) n else .er 3 n
theorem spnA_L (A : Tm → Sb → Nat → R Tm) : ∀ (l : List Tm) (u : Tm) (n : Nat), spnA A u l n = (spnL A u l n).bind spnE
  | [], u, n => rfl
  | a :: rest, u, n => by
    simp only [spnA, spnL]
    split
    · split
      · cases hx : A (u.arg 0) ⟨[a], 0⟩ n with
        | ok v m => rw [R.bind_ok, R.bind_ok]; exact spnA_L A rest v m
        | er e m => rfl
      · rfl
    · rw [R.bind_ok]
      simp [spnE]
def rsp_S (u : Tm) (l : List Tm) (h : List HO) (n : Nat) : St := mk 75 [(0, .href h.length 0), (2, dL l), (4, .lref 4 0), (6, .lref 6 0)] [(4, cel3 u), (6, zc3)] (h ++ [.var 0 [dI n, dI 0]]) []
def rsp_X (u : Tm) (l : List Tm) (h : List HO) (n : Nat) : St := mk 75 [(0, .href h.length 0), (2, dL l), (4, .lref 4 0), (6, .lref 6 0), (16, dB false)] [(4, cel3 u), (6, zc3)] (h ++ [.var 0 [dI n, dI 0]]) []
def rsp_R (h : List HO) (n : Nat) (e : Int) : St := mk 75 [(6, .lref 6 0)] [(6, cel3 zT)] (h ++ [.var 0 [dI n, dI e]]) []
theorem rsp_nil {u : Tm} {l : List Tm} (hl : l = []) (h : List HO) (n : Nat) : (lim C).code 103 (cf (.loop (cf (cf (cf (cs (bodyOf Tryz.f103))))))) (rsp_S u l h n) = some (.exit 0, rsp_X u l h n) := by
  have h0 : decide ((l.length : Int) > 0) = false := by rw [hl]; rfl
  simp -implicitDefEqProofs (disch := decide +kernel) only [cf, cs, bodyOf, Tryz.f103, Option.getD_some, go_sem, ↓reduceIte, Nat.reduceSub, Nat.reduceAdd, Nat.reduceMul, Nat.reduceBEq, Nat.reduceLT, Nat.reduceLeDiff, Nat.reduceEqDiff, reduceCtorEq, Int.reduceToNat, Int.reduceLE, Int.reduceLT, Int.reduceBEq, Int.reduceBNe, mCall, rsp_S, rsp_X, h0]
theorem rsp_head {u : Tm} {l : List Tm} (hl : 0 < l.length) (hk : (u.kind == 3) = false) (h : List HO) (n : Nat) : (lim C).code 103 (cf (.loop (cf (cf (cf (cs (bodyOf Tryz.f103))))))) (rsp_S u l h n) = some (.exit 0, rsp_X u l h n) := by
  have h0 : decide ((l.length : Int) > 0) = true := by simpa using hl
  simp -implicitDefEqProofs (disch := decide +kernel) only [cf, cs, bodyOf, Tryz.f103, Option.getD_some, go_sem, ↓reduceIte, Nat.reduceSub, Nat.reduceAdd, Nat.reduceMul, Nat.reduceBEq, Nat.reduceLT, Nat.reduceLeDiff, Nat.reduceEqDiff, reduceCtorEq, Int.reduceToNat, Int.reduceLE, Int.reduceLT, Int.reduceBEq, Int.reduceBNe, mCall, rsp_S, rsp_X, cel3, h0, hk]
theorem rsp_big {u a : Tm} {l rest : List Tm} (hl : l = a :: rest) (hk : (u.kind == 3) = true) (hz : a.size < room) (hm : mayB a = false) (h : List HO) (n : Nat) : (lim C).code 103 (cf (.loop (cf (cf (cf (cs (bodyOf Tryz.f103))))))) (rsp_S u l h n) = some (.ret, rsp_R h n 4) := by
  have h0 : decide ((l.length : Int) > 0) = true := by rw [hl]; simp
  have ha : l[0]? = some a := by rw [hl]; rfl
  have hma := may_spec a hz
  rw [hm] at hma
  have hf := rfail_spec h n 4
  simp -implicitDefEqProofs (disch := decide +kernel) only [cf, cs, bodyOf, Tryz.f103, Option.getD_some, go_sem, ↓reduceIte, Nat.reduceSub, Nat.reduceAdd, Nat.reduceMul, Nat.reduceBEq, Nat.reduceLT, Nat.reduceLeDiff, Nat.reduceEqDiff, reduceCtorEq, Int.reduceToNat, Int.reduceLE, Int.reduceLT, Int.reduceBEq, Int.reduceBNe, mCall, rsp_S, rsp_R, cel3, zc3, cells_enc, h0, hk, ha, hma, hf]
theorem rsp_lam {u a v : Tm} {l rest : List Tm} (hl : l = a :: rest) (hk : (u.kind == 3) = true) (hu : 0 < u.args.length) (hz : a.size < room) (hm : mayB a = true) {h : List HO} {n m : Nat} (hlr : l.length < room)
    (hrec : (lim C).call 87 [.href h.length 0, dT (u.arg 0), dS ⟨[a], 0⟩] (h ++ [.var 0 [dI n, dI 0]]) = some (.ret (dT v), h ++ [.var 0 [dI m, dI 0]])) :
    (lim C).code 103 (cf (.loop (cf (cf (cf (cs (bodyOf Tryz.f103))))))) (rsp_S u l h n) = some (.nor, rsp_S v rest h m) := by
  have h0 : decide ((l.length : Int) > 0) = true := by rw [hl]; simp
  have ha : l[0]? = some a := by rw [hl]; rfl
  have hma := may_spec a hz
  rw [hm] at hma
  have h2 : (encs l).drop 1 = encs rest := by rw [hl]; rfl
  have hle : 1 ≤ l.length := by rw [hl]; simp
  have h3 : (encs l).take l.length = encs l := by rw [← encs_length, List.take_length]
  have hsb : Dv.agg [.slc [enc a], .int .i64 0] = encS ⟨[a], 0⟩ := rfl
  have h00 : ((0 : Int) != 0) = false := rfl
  simp -implicitDefEqProofs (disch := decide +kernel) only [cf, cs, bodyOf, Tryz.f103, Option.getD_some, go_sem, ↓reduceIte, Nat.reduceSub, Nat.reduceAdd, Nat.reduceMul, Nat.reduceBEq, Nat.reduceLT, Nat.reduceLeDiff, Nat.reduceEqDiff, reduceCtorEq, Int.reduceToNat, Int.reduceLE, Int.reduceLT, Int.reduceBEq, Int.reduceBNe, mCall, rsp_S, cel3, cells_enc, h0, hk, ha, arg_get hu, hma, h2, h3, hle, encs_all, encs_length, hsb, hrec, getApp0, setApp0, h00]
theorem rsp_lam1 {u a : Tm} {l rest : List Tm} (hl : l = a :: rest) (hk : (u.kind == 3) = true) (hu : 0 < u.args.length) (hz : a.size < room) (hm : mayB a = true) {h : List HO} {n m e : Nat} (he : ((e : Int) != 0) = true)
    (hrec : (lim C).call 87 [.href h.length 0, dT (u.arg 0), dS ⟨[a], 0⟩] (h ++ [.var 0 [dI n, dI 0]]) = some (.ret (dT zT), h ++ [.var 0 [dI m, dI (e : Int)]])) :
    (lim C).code 103 (cf (.loop (cf (cf (cf (cs (bodyOf Tryz.f103))))))) (rsp_S u l h n) = some (.ret, rsp_R h m e) := by
  have h0 : decide ((l.length : Int) > 0) = true := by rw [hl]; simp
  have ha : l[0]? = some a := by rw [hl]; rfl
  have hma := may_spec a hz
  rw [hm] at hma
  have hsb : Dv.agg [.slc [enc a], .int .i64 0] = encS ⟨[a], 0⟩ := rfl
  simp -implicitDefEqProofs (disch := decide +kernel) only [cf, cs, bodyOf, Tryz.f103, Option.getD_some, go_sem, ↓reduceIte, Nat.reduceSub, Nat.reduceAdd, Nat.reduceMul, Nat.reduceBEq, Nat.reduceLT, Nat.reduceLeDiff, Nat.reduceEqDiff, reduceCtorEq, Int.reduceToNat, Int.reduceLE, Int.reduceLT, Int.reduceBEq, Int.reduceBNe, mCall, rsp_S, rsp_R, cel3, zc3, cells_enc, h0, hk, ha, arg_get hu, hma, hsb, hrec, getApp0, setApp0, he, (enc_eq zT).symm]
end Go.Proofs.YtbcoacljjhbonaaGreat
/- The reference of layer 3: apply and spine, told whole. -/
set_option linter.unusedSimpArgs false
set_option linter.unusedVariables false
set_option maxRecDepth 100000
namespace Go.Proofs.YtbcoacljjhbonaaGreat
open Go.Proofs
def RWalk (f : Nat) : Prop := ∀ (t : Tm) (s : Sb) (n : Nat) (h : List HO) (K D H : Int), Pre f n K D H t s →
  (lim C).call 87 [.href h.length 0, dT t, dS s] (h ++ [.var 0 [dI n, dI 0]]) = outW h (ap f t s n)
def outL (h : List HO) : R (Tm × List Tm) → Ex × St
  | .ok p m => (.exit 0, rsp_X p.1 p.2 h m)
  | .er e m => (.ret, rsp_R h m e)
theorem err_ne {e : Nat} (h : e = 3 ∨ e = 4) : ((e : Int) != 0) = true := by
  rcases h with rfl | rfl <;> rfl
theorem loop_nor {f : Nat} {b : Code} {σ σ' : St} (h : (lim C).code f b σ = some (.nor, σ')) : (lim C).code f (.loop b) σ = (lim C).code f (.loop b) σ' := by
  rw [ev_loop, h]; rfl
theorem loop_out {f : Nat} {b : Code} {σ : St} {x : Ex} {σ' : St} (h : (lim C).code f b σ = some (x, σ')) (hx : x ≠ .nor) : (lim C).code f (.loop b) σ = some (x, σ') := by
  rw [ev_loop, h]
  cases x <;> first | rfl | exact absurd rfl hx
theorem rsp_loop {f : Nat} (hA : RWalk f) : ∀ (args : List Tm) (u : Tm) (n : Nat) (h : List HO) (H : Int), 40000 ≤ n + f → n ≤ 40000 → nodesB u = true → vleB H u = true → 0 ≤ H → H + 40001 ≤ 4503599627370496 + n →
    (∀ x ∈ args, nodesB x = true ∧ vleB H x = true) → u.size + (args.map Tm.size).sum + (40000 - n) * 4001 < room →
    (lim C).code 103 (.loop (cf (cf (cf (cs (bodyOf Tryz.f103)))))) (rsp_S u args h n) = some (outL h (spnL (ap f) u args n))
  | [], u, n, h, H, _, _, _, _, _, _, _, _ => loop_out (rsp_nil rfl h n) (by simp)
  | a :: rest, u, n, h, H, hf, hn, hu, hv, h0, ht, ha, hz => by
    have hr : room = 1099511627776 := rfl
    obtain ⟨a1, a2⟩ := ha a (by simp)
    have hlen := len_sum (a :: rest)
    simp only [List.map_cons, List.sum_cons] at hz hlen
    have hul := len_size u
    have hsza : a.size < room := by omega
    have hlr : (a :: rest).length < room := by omega
    simp only [spnL]
    split
    · rename_i hk
      have hkb : (u.kind == 3) = true := by simpa using hk
      split
      · rename_i hm
        have hul1 := lam_len hu hk
        have hu0 : nodesB (u.arg 0) = true := node_args hu 0 (by omega)
        have hv0 : vleB H (u.arg 0) = true := vle_args hv 0 (by omega)
        have hs1 : SOk H ⟨[a], 0⟩ := ⟨by simpa using hm, by simpa using a2, by simp⟩
        have hsz0 := size_arg (arg_mem (t := u) (i := 0) (by omega))
        have hw := hA (u.arg 0) ⟨[a], 0⟩ n h H (-1) H ⟨hf, hu0, hv0, h0, Int.le_refl _, by omega, by simp, hs1, ht, by omega, by simp; omega, by simp; omega, hn⟩
        cases hap : ap f (u.arg 0) ⟨[a], 0⟩ n with
        | er e m =>
          rw [hap] at hw
          rw [R.bind_er]
          exact loop_out (rsp_lam1 (rest := rest) rfl hkb (by omega) hsza hm (err_ne (ap_err _ _ _ _ _ _ hap)) hw) (by simp)
        | ok v m =>
          rw [hap] at hw
          rw [R.bind_ok]
          obtain ⟨_, hft⟩ := ap_fits f (u.arg 0) ⟨[a], 0⟩ n H (-1) H v m hu0 hv0 h0 (Int.le_refl _) (by omega) (by simp) hs1 hap
          have q1 := hft.lt
          have q2 := hft.lim
          have q3 := hft.size
          have q4 : (40000 - n) * 4001 = (m - n) * 4001 + (40000 - m) * 4001 := by rw [← Nat.add_mul]; congr 1; omega
          have ih := rsp_loop hA rest v m h (H + ((m - n : Nat) : Int)) (by omega) q2 hft.nodes hft.vle (by omega) (by omega) (fun x hx => ⟨(ha x (by simp [hx])).1, vle_mono (by omega) (ha x (by simp [hx])).2⟩) (by omega)
          exact (loop_nor (rsp_lam (rest := rest) rfl hkb (by omega) hsza hm hlr hw)).trans ih
      · rename_i hm
        exact loop_out (rsp_big (rest := rest) rfl hkb hsza (by simpa using hm) h n) (by simp)
    · rename_i hk
      exact loop_out (rsp_head (by simp) (by simpa using hk) h n) (by simp)
/-! ### spine -/
theorem rsp_enter {u : Tm} {l : List Tm} {h : List HO} {n m : Nat} {e : Int} (hloop : (lim C).code 103 (.loop (cf (cf (cf (cs (bodyOf Tryz.f103)))))) (rsp_S u l h n) = some (.ret, rsp_R h m e)) :
    (lim C).call 103 [.href h.length 0, dT u, dL l] (h ++ [.var 0 [dI n, dI 0]]) = some (.ret (dT zT), h ++ [.var 0 [dI m, dI e]]) := by
  rw [ev_fn 103 Tryz.f103 _ _ _ rfl Tryz.func103 rfl Tryz.ntmps103 rfl]
  simp -implicitDefEqProofs (disch := decide +kernel) only [go_sem, ↓reduceIte, Nat.reduceSub, Nat.reduceAdd, Nat.reduceMul, Nat.reduceBEq, Nat.reduceLT, Nat.reduceLeDiff, Nat.reduceEqDiff, reduceCtorEq, Int.reduceToNat, Int.reduceLE, Int.reduceLT, Int.reduceBEq, Int.reduceBNe, mCall, cells_enc, cel3]
  rw [loop_at hloop ?hb ?hs]
  case hb => rfl
  case hs => rfl
  simp -implicitDefEqProofs (disch := decide +kernel) only [go_sem, ↓reduceIte, Nat.reduceSub, Nat.reduceAdd, Nat.reduceMul, Nat.reduceBEq, Nat.reduceLT, Nat.reduceLeDiff, Nat.reduceEqDiff, reduceCtorEq, Int.reduceToNat, Int.reduceLE, Int.reduceLT, Int.reduceBEq, Int.reduceBNe, mCall, rsp_R, cel3, (enc_eq zT).symm]
theorem rsp_done {u v : Tm} {l l' : List Tm} {h : List HO} {n m : Nat} (hl : l' = []) (hloop : (lim C).code 103 (.loop (cf (cf (cf (cs (bodyOf Tryz.f103)))))) (rsp_S u l h n) = some (.exit 0, rsp_X v l' h m)) :
    (lim C).call 103 [.href h.length 0, dT u, dL l] (h ++ [.var 0 [dI n, dI 0]]) = some (.ret (dT v), h ++ [.var 0 [dI m, dI 0]]) := by
  have h0 : ((l'.length : Int) == 0) = true := by rw [hl]; rfl
  rw [ev_fn 103 Tryz.f103 _ _ _ rfl Tryz.func103 rfl Tryz.ntmps103 rfl]
  simp -implicitDefEqProofs (disch := decide +kernel) only [go_sem, ↓reduceIte, Nat.reduceSub, Nat.reduceAdd, Nat.reduceMul, Nat.reduceBEq, Nat.reduceLT, Nat.reduceLeDiff, Nat.reduceEqDiff, reduceCtorEq, Int.reduceToNat, Int.reduceLE, Int.reduceLT, Int.reduceBEq, Int.reduceBNe, mCall, cells_enc, cel3]
  rw [loop_at hloop ?hb ?hs]
  case hb => rfl
  case hs => rfl
  simp -implicitDefEqProofs (disch := decide +kernel) only [go_sem, ↓reduceIte, Nat.reduceSub, Nat.reduceAdd, Nat.reduceMul, Nat.reduceBEq, Nat.reduceLT, Nat.reduceLeDiff, Nat.reduceEqDiff, reduceCtorEq, Int.reduceToNat, Int.reduceLE, Int.reduceLT, Int.reduceBEq, Int.reduceBNe, mCall, rsp_X, cel3, zc3, cells_enc, h0, (enc_eq v).symm]
theorem rsp_heads {u v : Tm} {l l' : List Tm} {h : List HO} {n m : Nat} (hl : 0 < l'.length) (hlr : v.args.length + l'.length < room) (hk : heads v.kind = true) (hloop : (lim C).code 103 (.loop (cf (cf (cf (cs (bodyOf Tryz.f103)))))) (rsp_S u l h n) = some (.exit 0, rsp_X v l' h m)) :
    (lim C).call 103 [.href h.length 0, dT u, dL l] (h ++ [.var 0 [dI n, dI 0]]) = some (.ret (dT (.mk v.kind v.head (v.args ++ l'))), h ++ [.var 0 [dI m, dI 0]]) := by
  have hr : room = 1099511627776 := rfl
  have h0 : ((l'.length : Int) == 0) = false := by simp; intro e; rw [e] at hl; simp at hl
  have ha1 := fun locs heap => app_first (encs v.args) 3 locs heap (by rw [encs_length]; omega) (encs_all _)
  have ha2 := fun locs heap => app_more (encs v.args) (encs l') 3 (by simp) locs heap (by rw [encs_length, encs_length]; omega) (encs_all _) (encs_all _)
  simp only [encs_length, ← encs_append] at ha1 ha2
  have he := tm_enc v.kind v.head (v.args ++ l')
  rw [ev_fn 103 Tryz.f103 _ _ _ rfl Tryz.func103 rfl Tryz.ntmps103 rfl]
  simp -implicitDefEqProofs (disch := decide +kernel) only [go_sem, ↓reduceIte, Nat.reduceSub, Nat.reduceAdd, Nat.reduceMul, Nat.reduceBEq, Nat.reduceLT, Nat.reduceLeDiff, Nat.reduceEqDiff, reduceCtorEq, Int.reduceToNat, Int.reduceLE, Int.reduceLT, Int.reduceBEq, Int.reduceBNe, mCall, cells_enc, cel3]
  rw [loop_at hloop ?hb ?hs]
  case hb => rfl
  case hs => rfl
  cases k4 : (v.kind != 4)
  · simp -implicitDefEqProofs (disch := decide +kernel) only [go_sem, ↓reduceIte, Nat.reduceSub, Nat.reduceAdd, Nat.reduceMul, Nat.reduceBEq, Nat.reduceLT, Nat.reduceLeDiff, Nat.reduceEqDiff, reduceCtorEq, Int.reduceToNat, Int.reduceLE, Int.reduceLT, Int.reduceBEq, Int.reduceBNe, mCall, rsp_X, cel3, zc3, cells_enc, h0, k4, ha1, ha2, he]
  · cases k5 : (v.kind != 5)
    · simp -implicitDefEqProofs (disch := decide +kernel) only [go_sem, ↓reduceIte, Nat.reduceSub, Nat.reduceAdd, Nat.reduceMul, Nat.reduceBEq, Nat.reduceLT, Nat.reduceLeDiff, Nat.reduceEqDiff, reduceCtorEq, Int.reduceToNat, Int.reduceLE, Int.reduceLT, Int.reduceBEq, Int.reduceBNe, mCall, rsp_X, cel3, zc3, cells_enc, h0, k4, k5, ha1, ha2, he]
    · have k2 : (v.kind != 2) = false := by
        simp only [heads, Bool.or_eq_true, beq_iff_eq] at hk
        simp only [bne_iff_ne, ne_eq] at k4 k5
        simp; omega
      simp -implicitDefEqProofs (disch := decide +kernel) only [go_sem, ↓reduceIte, Nat.reduceSub, Nat.reduceAdd, Nat.reduceMul, Nat.reduceBEq, Nat.reduceLT, Nat.reduceLeDiff, Nat.reduceEqDiff, reduceCtorEq, Int.reduceToNat, Int.reduceLE, Int.reduceLT, Int.reduceBEq, Int.reduceBNe, mCall, rsp_X, cel3, zc3, cells_enc, h0, k4, k5, k2, ha1, ha2, he]
theorem rsp_bad {u v : Tm} {l l' : List Tm} {h : List HO} {n m : Nat} (hl : 0 < l'.length) (hk : heads v.kind = false) (hloop : (lim C).code 103 (.loop (cf (cf (cf (cs (bodyOf Tryz.f103)))))) (rsp_S u l h n) = some (.exit 0, rsp_X v l' h m)) :
    (lim C).call 103 [.href h.length 0, dT u, dL l] (h ++ [.var 0 [dI n, dI 0]]) = some (.ret (dT zT), h ++ [.var 0 [dI m, dI 3]]) := by
  have h0 : ((l'.length : Int) == 0) = false := by simp; intro e; rw [e] at hl; simp at hl
  simp only [heads, Bool.or_eq_false_iff, beq_eq_false_iff_ne] at hk
  obtain ⟨⟨q4, q5⟩, q2⟩ := hk
  have k4 : (v.kind != 4) = true := by simpa using q4
  have k5 : (v.kind != 5) = true := by simpa using q5
  have k2 : (v.kind != 2) = true := by simpa using q2
  have hf := rfail_spec h m 3
  rw [ev_fn 103 Tryz.f103 _ _ _ rfl Tryz.func103 rfl Tryz.ntmps103 rfl]
  simp -implicitDefEqProofs (disch := decide +kernel) only [go_sem, ↓reduceIte, Nat.reduceSub, Nat.reduceAdd, Nat.reduceMul, Nat.reduceBEq, Nat.reduceLT, Nat.reduceLeDiff, Nat.reduceEqDiff, reduceCtorEq, Int.reduceToNat, Int.reduceLE, Int.reduceLT, Int.reduceBEq, Int.reduceBNe, mCall, cells_enc, cel3]
  rw [loop_at hloop ?hb ?hs]
  case hb => rfl
  case hs => rfl
  simp -implicitDefEqProofs (disch := decide +kernel) only [go_sem, ↓reduceIte, Nat.reduceSub, Nat.reduceAdd, Nat.reduceMul, Nat.reduceBEq, Nat.reduceLT, Nat.reduceLeDiff, Nat.reduceEqDiff, reduceCtorEq, Int.reduceToNat, Int.reduceLE, Int.reduceLT, Int.reduceBEq, Int.reduceBNe, mCall, rsp_X, cel3, zc3, cells_enc, h0, k4, k5, k2, hf, (enc_eq zT).symm]
end Go.Proofs.YtbcoacljjhbonaaGreat
/- The reference of layer 3: apply told whole; done, Spine; law SubstSpines. -/
set_option linter.unusedSimpArgs false
set_option linter.unusedVariables false
set_option maxRecDepth 100000
namespace Go.Proofs.YtbcoacljjhbonaaGreat
open Go.Proofs
theorem rspn_walk {f : Nat} (hA : RWalk f) (args : List Tm) (u : Tm) (n : Nat) (h : List HO) (H : Int) (hf : 40000 ≤ n + f) (hn : n ≤ 40000) (hu : nodesB u = true) (hv : vleB H u = true) (h0 : 0 ≤ H) (ht : H + 40001 ≤ 4503599627370496 + n)
    (ha : ∀ x ∈ args, nodesB x = true ∧ vleB H x = true) (hz : u.size + (args.map Tm.size).sum + (40000 - n) * 4001 < room) :
    (lim C).call 103 [.href h.length 0, dT u, dL args] (h ++ [.var 0 [dI n, dI 0]]) = outW h (spnA (ap f) u args n) := by
  have hloop := rsp_loop hA args u n h H hf hn hu hv h0 ht ha hz
  have hfit := fun r m hr => spn_fits (ap_fits f) args u n H r m hn hu hv h0 ha hr
  rw [spnA_L] at hfit ⊢
  have hlen := len_sum args
  cases hL : spnL (ap f) u args n with
  | er e m =>
    rw [hL] at hloop
    exact rsp_enter hloop
  | ok p m =>
    obtain ⟨v, l'⟩ := p
    rw [hL] at hloop hfit
    simp only [R.bind_ok, spnE] at hfit ⊢
    by_cases hl : l' = []
    · rw [if_pos hl]
      exact rsp_done hl hloop
    · rw [if_neg hl] at hfit ⊢
      have hpos : 0 < l'.length := List.length_pos_iff.2 hl
      cases hk : heads v.kind
      · rw [if_neg (by simp)]
        exact rsp_bad hpos hk hloop
      · rw [if_pos rfl]
        rw [hk, if_pos rfl] at hfit
        have hs := (hfit _ _ rfl).size
        have hlm := (hfit _ _ rfl).lim
        have hls := len_size (.mk v.kind v.head (v.args ++ l'))
        rw [mk_args, List.length_append] at hls
        have q : (m - n) * 4001 ≤ (40000 - n) * 4001 := Nat.mul_le_mul_right _ (by omega)
        exact rsp_heads hpos (by omega) hk hloop
/-! ### apply -/
theorem rap_over {t : Tm} {s : Sb} {n : Nat} {h : List HO} (hn : n + 1 > 40000) (hn2 : n < 9223372036854775807) : (lim C).call 87 [.href h.length 0, dT t, dS s] (h ++ [.var 0 [dI n, dI 0]]) = some (.ret (dT zT), h ++ [.var 0 [dI (n + 1 : Nat), dI 4]]) := by
  have hgt : decide (((n + 1 : Nat) : Int) > 40000) = true := by simp; omega
  have hf := rfail_spec h (n + 1 : Nat) 4
  rw [ev_fn 87 Tryz.f87 _ _ _ rfl Tryz.func87 rfl Tryz.ntmps87 rfl]
  simp -implicitDefEqProofs (disch := decide +kernel) only [go_sem, ↓reduceIte, Nat.reduceSub, Nat.reduceAdd, Nat.reduceMul, Nat.reduceBEq, Nat.reduceLT, Nat.reduceLeDiff, Nat.reduceEqDiff, reduceCtorEq, Int.reduceToNat, Int.reduceLE, Int.reduceLT, Int.reduceBEq, Int.reduceBNe, mCall, cells_enc, cells_encS, cel3, cel2, getApp0, setApp0, wrap_succ hn2, hgt, hf, (enc_eq zT).symm]
def rap_X (t : Tm) (s : Sb) (h : List HO) (xs : List Tm) (m : Nat) : St :=
  mk 74 [(0, .href h.length 0), (4, .lref 4 0), (5, .lref 5 0), (6, .lref 6 0), (7, acc 0 (encs xs)), (8, dI t.args.length), (30, dB false)]
    [(4, cel3 t), (5, cel2 s), (6, zc3)] (h ++ [.var 0 [dI m, dI 0]]) (accT xs.length)
theorem rap_ret0 {t : Tm} {s : Sb} {n m k : Nat} {e : Int} {h : List HO} (hn : n + 1 ≤ 40000) (hloop : (lim C).code 87 (.loop (cf (cf (cs (cf (cs (cs (cs (cs (bodyOf Tryz.f87)))))))))) (rap_S t s h [] (n + 1) 0) = some (.ret, mk 74 [(6, .lref 6 0)] [(6, cel3 zT)] (h ++ [.var 0 [dI m, dI e]]) (accT k))) :
    (lim C).call 87 [.href h.length 0, dT t, dS s] (h ++ [.var 0 [dI n, dI 0]]) = some (.ret (dT zT), h ++ [.var 0 [dI m, dI e]]) := by
  have hgt : decide (((n + 1 : Nat) : Int) > 40000) = false := by simp; omega
  rw [ev_fn 87 Tryz.f87 _ _ _ rfl Tryz.func87 rfl Tryz.ntmps87 rfl]
  simp -implicitDefEqProofs (disch := decide +kernel) only [go_sem, ↓reduceIte, Nat.reduceSub, Nat.reduceAdd, Nat.reduceMul, Nat.reduceBEq, Nat.reduceLT, Nat.reduceLeDiff, Nat.reduceEqDiff, reduceCtorEq, Int.reduceToNat, Int.reduceLE, Int.reduceLT, Int.reduceBEq, Int.reduceBNe, mCall, cells_enc, cells_encS, cel3, cel2, getApp0, setApp0, wrap_succ (n := n) (by omega), hgt]
  rw [loop_at hloop ?hb ?hs]
  case hb => rfl
  case hs => rfl
  simp -implicitDefEqProofs (disch := decide +kernel) only [go_sem, ↓reduceIte, Nat.reduceSub, Nat.reduceAdd, Nat.reduceMul, Nat.reduceBEq, Nat.reduceLT, Nat.reduceLeDiff, Nat.reduceEqDiff, reduceCtorEq, Int.reduceToNat, Int.reduceLE, Int.reduceLT, Int.reduceBEq, Int.reduceBNe, mCall, cel3, (enc_eq zT).symm]
theorem rap_node {t : Tm} {s : Sb} {n m : Nat} {h : List HO} {xs : List Tm} (hn : n + 1 ≤ 40000) (k4 : (t.kind == 4) = false) (hloop : (lim C).code 87 (.loop (cf (cf (cs (cf (cs (cs (cs (cs (bodyOf Tryz.f87)))))))))) (rap_S t s h [] (n + 1) 0) = some (.exit 0, rap_X t s h xs m)) :
    (lim C).call 87 [.href h.length 0, dT t, dS s] (h ++ [.var 0 [dI n, dI 0]]) = some (.ret (dT (.mk t.kind t.head xs)), h ++ [.var 0 [dI m, dI 0]]) := by
  have hgt : decide (((n + 1 : Nat) : Int) > 40000) = false := by simp; omega
  have he := tm_enc t.kind t.head xs
  rw [ev_fn 87 Tryz.f87 _ _ _ rfl Tryz.func87 rfl Tryz.ntmps87 rfl]
  simp -implicitDefEqProofs (disch := decide +kernel) only [go_sem, ↓reduceIte, Nat.reduceSub, Nat.reduceAdd, Nat.reduceMul, Nat.reduceBEq, Nat.reduceLT, Nat.reduceLeDiff, Nat.reduceEqDiff, reduceCtorEq, Int.reduceToNat, Int.reduceLE, Int.reduceLT, Int.reduceBEq, Int.reduceBNe, mCall, cells_enc, cells_encS, cel3, cel2, getApp0, setApp0, wrap_succ (n := n) (by omega), hgt]
  rw [loop_at hloop ?hb ?hs]
  case hb => rfl
  case hs => rfl
  simp -implicitDefEqProofs (disch := decide +kernel) only [go_sem, ↓reduceIte, Nat.reduceSub, Nat.reduceAdd, Nat.reduceMul, Nat.reduceBEq, Nat.reduceLT, Nat.reduceLeDiff, Nat.reduceEqDiff, reduceCtorEq, Int.reduceToNat, Int.reduceLE, Int.reduceLT, Int.reduceBEq, Int.reduceBNe, mCall, rap_X, zc3, cel3, k4, acc_keep, acc_drop, acc_okA, acc_flat, acc_cells, he]
theorem rap_var {t : Tm} {s : Sb} {n m k : Nat} {h : List HO} {xs : List Tm} {r : Tm} {e : Int} (hn : n + 1 ≤ 40000) (k4 : (t.kind == 4) = true) (hloop : (lim C).code 87 (.loop (cf (cf (cs (cf (cs (cs (cs (cs (bodyOf Tryz.f87)))))))))) (rap_S t s h [] (n + 1) 0) = some (.exit 0, rap_X t s h xs m))
    (hof : (lim C).call 104 [dS s, dI t.head] [] = some (.ret (dT (ofS s t.head)), []))
    (hsp : (lim C).call 103 [.href h.length 0, dT (ofS s t.head), dL xs] (h ++ [.var 0 [dI m, dI 0]]) = some (.ret (dT r), h ++ [.var 0 [dI k, dI e]])) :
    (lim C).call 87 [.href h.length 0, dT t, dS s] (h ++ [.var 0 [dI n, dI 0]]) = some (.ret (dT r), h ++ [.var 0 [dI k, dI e]]) := by
  have hgt : decide (((n + 1 : Nat) : Int) > 40000) = false := by simp; omega
  rw [ev_fn 87 Tryz.f87 _ _ _ rfl Tryz.func87 rfl Tryz.ntmps87 rfl]
  simp -implicitDefEqProofs (disch := decide +kernel) only [go_sem, ↓reduceIte, Nat.reduceSub, Nat.reduceAdd, Nat.reduceMul, Nat.reduceBEq, Nat.reduceLT, Nat.reduceLeDiff, Nat.reduceEqDiff, reduceCtorEq, Int.reduceToNat, Int.reduceLE, Int.reduceLT, Int.reduceBEq, Int.reduceBNe, mCall, cells_enc, cells_encS, cel3, cel2, getApp0, setApp0, wrap_succ (n := n) (by omega), hgt]
  rw [loop_at hloop ?hb ?hs]
  case hb => rfl
  case hs => rfl
  simp -implicitDefEqProofs (disch := decide +kernel) only [go_sem, ↓reduceIte, Nat.reduceSub, Nat.reduceAdd, Nat.reduceMul, Nat.reduceBEq, Nat.reduceLT, Nat.reduceLeDiff, Nat.reduceEqDiff, reduceCtorEq, Int.reduceToNat, Int.reduceLE, Int.reduceLT, Int.reduceBEq, Int.reduceBNe, mCall, rap_X, zc3, cel3, cel2, (encS_eq s).symm, cells_enc, k4, acc_keep, acc_drop, acc_okA, acc_flat, acc_cells, hof, hsp, (enc_eq r).symm]
def rap_SS (t : Tm) (s : Sb) (h : List HO) (g : Nat → Nat → R Tm) (n i : Nat) : St := match seqF g n i with
  | .ok xs m => rap_S t s h xs m i
  | .er _ _ => rap_S t s h [] n i
theorem rap_walk : ∀ f : Nat, RWalk f
  | 0 => fun t s n h K D H p => by
    have h1 := p.fuel
    have h2 := p.nb
    rw [ap_zero]
    exact rap_over (by omega) (by omega)
  | f + 1 => fun t s n h K D H p => by
    have hr : room = 1099511627776 := rfl
    have ih := rap_walk f
    have hfu := p.fuel
    have htop := p.top
    have hsl := p.sl
    have hss := p.ss
    have hts := p.ts
    have hkh := p.kh
    have hkd := p.kd
    have hk0 := p.k0
    have hl' := len_size t
    rw [ap_succ]
    by_cases hn : n + 1 > 40000
    · rw [if_pos hn]
      exact rap_over hn (by have := p.nb; omega)
    rw [if_neg hn]
    have hm : ∀ x ∈ s.L, mayB x = true ∧ vlowB x = true := fun x hx => ⟨p.ok.may x hx, vle_mono (by omega) (p.ok.vle x hx)⟩
    have hsh := p.ok.sh
    have hpre : ∀ i, i < t.args.length → ∀ xs m, seqF (fun i m => ap f (t.arg i) (below s t i) m) (n + 1) i = .ok xs m → n + 1 ≤ m ∧ m ≤ 40000 ∧ Pre f m K D (H + 1) (t.arg i) (below s t i) := by
      intro i hi xs m he
      obtain ⟨q1, q2, _, _⟩ := seq_fits (H := H) t.args.length (fun i hi m x m' hm hx => by
        obtain ⟨b1, b2⟩ := below_ok (t := t) (i := i) p.ok (by omega) p.sd
        exact ap_fits f _ _ m K D (H + 1) x m' (node_args p.nodes i hi) (vle_args p.vle i hi) hk0 (by omega) (by omega) b2 b1 hx) (by omega) i (by omega) xs m he
      obtain ⟨b1, b2⟩ := below_ok (t := t) (i := i) p.ok (by omega) p.sd
      have hsz := size_arg (arg_mem hi)
      refine ⟨q1, q2, by omega, node_args p.nodes i hi, vle_args p.vle i hi, hk0, by omega, by omega, b2, b1, by omega, by omega, ?_, ?_, q2⟩
      · unfold below
        split
        · rw [under_len]; omega
        · omega
      · unfold below
        split
        · simp only [underS]; omega
        · omega
    have hstep : ∀ i, i < t.args.length → (∃ ys m', seqF (fun i m => ap f (t.arg i) (below s t i) m) (n + 1) (i + 1) = .ok ys m') →
        (lim C).code 87 (cf (.loop (cf (cf (cs (cf (cs (cs (cs (cs (bodyOf Tryz.f87))))))))))) (rap_SS t s h (fun i m => ap f (t.arg i) (below s t i) m) (n + 1) i) = some (.nor, rap_SS t s h (fun i m => ap f (t.arg i) (below s t i) m) (n + 1) (i + 1)) := by
      rintro i hi ⟨ys, m', he⟩
      obtain ⟨xs, m, h1, h2⟩ := R.bind_eq he
      obtain ⟨x, m2, h3, h4⟩ := R.bind_eq h2
      cases h4
      obtain ⟨q1, q2, q3⟩ := hpre i hi xs m h1
      have hrec := ih _ _ m h _ _ _ q3
      have h3' : ap f (t.arg i) (below s t i) m = .ok x m' := h3
      rw [h3'] at hrec
      have hxl := seqF_len _ _ _ _ _ h1
      unfold rap_SS
      rw [h1, he]
      exact rap_step hi hxl hts hm (by omega) ⟨hsh, by omega⟩ hrec
    have hS0 : rap_SS t s h (fun i m => ap f (t.arg i) (below s t i) m) (n + 1) 0 = rap_S t s h [] (n + 1) 0 := rfl
    cases hseq : seqF (fun i m => ap f (t.arg i) (below s t i) m) (n + 1) t.args.length with
    | er e m =>
      rw [R.bind_er]
      obtain ⟨j, xs, mj, hj, h1, h2⟩ := seqF_er hseq
      obtain ⟨q1, q2, q3⟩ := hpre j hj xs mj h1
      have hrec := ih _ _ mj h _ _ _ q3
      have h2' : ap f (t.arg j) (below s t j) mj = .er e m := h2
      rw [h2'] at hrec
      have hxl := seqF_len _ _ _ _ _ h1
      refine rap_ret0 (k := xs.length) (by omega) ?_
      rw [← hS0]
      refine loop_run (rap_SS t s h (fun i m => ap f (t.arg i) (below s t i) m) (n + 1)) j (fun i hi => hstep i (by omega) (seqF_pre h1 (i + 1) (by omega))) ?_ (by simp)
      have : rap_SS t s h (fun i m => ap f (t.arg i) (below s t i) m) (n + 1) j = rap_S t s h xs mj j := by unfold rap_SS; rw [h1]
      rw [this]
      exact rap_stop (err_ne (ap_err _ _ _ _ _ _ h2')) hj hxl hts hm (by omega) ⟨hsh, by omega⟩ hrec
    | ok xs m =>
      rw [R.bind_ok]
      have hxl := seqF_len _ _ _ _ _ hseq
      have hloop : (lim C).code 87 (.loop (cf (cf (cs (cf (cs (cs (cs (cs (bodyOf Tryz.f87)))))))))) (rap_S t s h [] (n + 1) 0) = some (.exit 0, rap_X t s h xs m) := by
        rw [← hS0]
        refine loop_run (rap_SS t s h (fun i m => ap f (t.arg i) (below s t i) m) (n + 1)) t.args.length (fun i hi => hstep i hi (seqF_pre hseq (i + 1) (by omega))) ?_ (by simp)
        have : rap_SS t s h (fun i m => ap f (t.arg i) (below s t i) m) (n + 1) t.args.length = rap_S t s h xs m t.args.length := by unfold rap_SS; rw [hseq]
        rw [this]
        simp -implicitDefEqProofs (disch := decide +kernel) only [cf, cs, bodyOf, Tryz.f87, Option.getD_some, go_sem, ↓reduceIte, Nat.reduceSub, Nat.reduceAdd, Nat.reduceMul, Nat.reduceBEq, Nat.reduceLT, Nat.reduceLeDiff, Nat.reduceEqDiff, reduceCtorEq, Int.reduceToNat, Int.reduceLE, Int.reduceLT, Int.reduceBEq, Int.reduceBNe, mCall, rap_S, rap_X, cel3, lt_false (Nat.le_refl t.args.length)]
      obtain ⟨q1, q2, q3, q4⟩ := seq_fits (H := H) t.args.length (fun i hi m x m' hm hx => by
        obtain ⟨b1, b2⟩ := below_ok (t := t) (i := i) p.ok (by omega) p.sd
        exact ap_fits f _ _ m K D (H + 1) x m' (node_args p.nodes i hi) (vle_args p.vle i hi) hk0 (by omega) (by omega) b2 b1 hx) (by omega) _ (Nat.le_refl _) xs m hseq
      by_cases hk : t.kind = 4
      · rw [if_pos hk]
        have hkb : (t.kind == 4) = true := by simpa using hk
        have hh0 := node_head (node_here p.nodes)
        have hh1 := vle_here p.vle hk
        obtain ⟨o1, o2, o3⟩ := of_ok p.ok hh0 hh1 p.sd hkd
        have hof := mapped_spec s t.head hh0 (by omega) (by omega) ⟨hsh, by omega⟩ (fun x hx => ⟨by have := (may_parts (p.ok.may x hx)).2.1; omega, (hm x hx).2⟩)
        have q5 : (m - (n + 1)) * 4001 + (40000 - m) * 4001 ≤ 40000 * 4001 := by rw [← Nat.add_mul]; exact Nat.mul_le_mul_right _ (by omega)
        have hsp := rspn_walk ih xs (ofS s t.head) m h (H + 1 + ((m - (n + 1) : Nat) : Int)) (by omega) q2 o1 (vle_mono (by omega) o2) (by omega) (by omega) q3 (by omega)
        cases hs : spnA (ap f) (ofS s t.head) xs m with
        | ok r m' => rw [hs] at hsp; exact rap_var (by omega) hkb hloop hof hsp
        | er e m' => rw [hs] at hsp; exact rap_var (by omega) hkb hloop hof hsp
      · rw [if_neg hk]
        exact rap_node (by omega) (by simpa using hk) hloop
end Go.Proofs.YtbcoacljjhbonaaGreat
/- Layer 3: the reference's Spine; law SubstSpines. -/
set_option linter.unusedSimpArgs false
set_option linter.unusedVariables false
set_option maxRecDepth 100000
namespace Go.Proofs.YtbcoacljjhbonaaGreat
open Go.Proofs
theorem rdone_ok {u : Tm} {m : Nat} (hs : u.size < room) (hm : mayB u = true) : (lim C).call 88 [.href 0 0, dT u] [.var 0 [dI m, dI 0]] = some (.ret (.tup [dT u, dI 0]), [.var 0 [dI m, dI 0]]) := by
  have hma := may_spec u hs
  rw [hm] at hma
  have h0 : ((0 : Int) == 0) = true := rfl
  have h00 : ((0 : Int) != 0) = false := rfl
  rw [ev_fn 88 Tryz.f88 _ _ _ rfl Tryz.func88 rfl Tryz.ntmps88 rfl]
  simp -implicitDefEqProofs (disch := decide +kernel) only [go_sem, ↓reduceIte, Nat.reduceSub, Nat.reduceAdd, Nat.reduceMul, Nat.reduceBEq, Nat.reduceLT, Nat.reduceLeDiff, Nat.reduceEqDiff, reduceCtorEq, Int.reduceToNat, Int.reduceLE, Int.reduceLT, Int.reduceBEq, Int.reduceBNe, mCall, cells_enc, cel3, (enc_eq u).symm, hma, h0, h00]
theorem rdone_big {u : Tm} {m : Nat} (hs : u.size < room) (hm : mayB u = false) : (lim C).call 88 [.href 0 0, dT u] [.var 0 [dI m, dI 0]] = some (.ret (.tup [dT zT, dI 4]), [.var 0 [dI m, dI 4]]) := by
  have hma := may_spec u hs
  rw [hm] at hma
  have h0 : ((0 : Int) == 0) = true := rfl
  have h40 : ((4 : Int) != 0) = true := rfl
  rw [ev_fn 88 Tryz.f88 _ _ _ rfl Tryz.func88 rfl Tryz.ntmps88 rfl]
  simp -implicitDefEqProofs (disch := decide +kernel) only [go_sem, ↓reduceIte, Nat.reduceSub, Nat.reduceAdd, Nat.reduceMul, Nat.reduceBEq, Nat.reduceLT, Nat.reduceLeDiff, Nat.reduceEqDiff, reduceCtorEq, Int.reduceToNat, Int.reduceLE, Int.reduceLT, Int.reduceBEq, Int.reduceBNe, mCall, cells_enc, cel3, (enc_eq u).symm, hma, h0, h40, zT_enc]
theorem rdone_er {m e : Nat} (he : ((e : Int) != 0) = true) : (lim C).call 88 [.href 0 0, dT zT] [.var 0 [dI m, dI (e : Int)]] = some (.ret (.tup [dT zT, dI (e : Int)]), [.var 0 [dI m, dI (e : Int)]]) := by
  have hr : room = 1099511627776 := rfl
  have hma := may_spec zT (by have := (may_parts zT_may).2.1; omega)
  have h0 : ((e : Int) == 0) = false := by simpa using he
  rw [ev_fn 88 Tryz.f88 _ _ _ rfl Tryz.func88 rfl Tryz.ntmps88 rfl]
  simp -implicitDefEqProofs (disch := decide +kernel) only [go_sem, ↓reduceIte, Nat.reduceSub, Nat.reduceAdd, Nat.reduceMul, Nat.reduceBEq, Nat.reduceLT, Nat.reduceLeDiff, Nat.reduceEqDiff, reduceCtorEq, Int.reduceToNat, Int.reduceLE, Int.reduceLT, Int.reduceBEq, Int.reduceBNe, mCall, cells_enc, cel3, (enc_eq zT).symm, hma, h0, he, zT_enc]
theorem rdone_spec {r : R Tm} (hs : ∀ u m, r = .ok u m → u.size < room) (he : ∀ e m, r = .er e m → e = 3 ∨ e = 4) {x : AV} {hp : List HO} (h : outW [] r = some (.ret x, hp)) :
    ∃ h', (lim C).call 88 [.href 0 0, x] hp = some (.ret (.tup [dT (outD r).1, dI (outD r).2]), h') := by
  cases r with
  | ok u m =>
    cases h
    cases hm : mayB u
    · exact ⟨_, by simp only [outD, hm]; exact rdone_big (hs u m rfl) hm⟩
    · exact ⟨_, by simp only [outD, hm]; exact rdone_ok (hs u m rfl) hm⟩
  | er e m =>
    cases h
    exact ⟨_, rdone_er (err_ne (he e m rfl))⟩
theorem underG_list (l : List Tm) (hz : ∀ x ∈ l, x.size < room) : ∀ x ∈ (underG ⟨l, 3⟩).L, x.size < room := by
  have hr : room = 1099511627776 := rfl
  intro x hx
  simp only [underG, List.mem_append, List.mem_map, List.mem_singleton] at hx
  rcases hx with ⟨y, hy, rfl⟩ | rfl
  · rw [upG_size]; exact hz y hy
  · have := (may_parts may_var0).2.1; omega
theorem outD_size {r : R Tm} : (outD r).1.size ≤ 4000 := (may_parts (outD_may r)).2.1
end Go.Proofs.YtbcoacljjhbonaaGreat
/- The references of layers 3 and 4: Apply, Fill, Ctx, All. -/
set_option linter.unusedSimpArgs false
set_option linter.unusedVariables false
set_option maxRecDepth 100000
namespace Go.Proofs.YtbcoacljjhbonaaGreat
open Go.Proofs
theorem dec_le (a b : Int) : decide (a ≤ b) = !decide (a > b) := by by_cases h : a ≤ b <;> simp [h]; omega
theorem dec_ge (a b : Int) : decide (a ≥ b) = !decide (a < b) := by by_cases h : a ≥ b <;> simp [h]; omega
theorem smayB_code (s : Sb) : smayB s = (!decide ((s.L.length : Int) > 200) && !decide (s.sh < 0) && !decide (s.sh > 1048576) && maysB s.L) := by
  unfold smayB
  rw [dec_le, dec_ge, dec_le]
def rsm_S (s : Sb) (i : Nat) : St := mk 34 [(1, .lref 1 0), (3, dI i)] [(1, cel2 s)] [] []
theorem rsMay_spec (s : Sb) (hl : s.L.length < room) (hz : ∀ x ∈ s.L, x.size < room) : (lim C).call 86 [dS s] [] = retB (smayB s) := by
  have hr : room = 1099511627776 := rfl
  have hloop : (lim C).code 86 (.loop (cf (cf (cs (cf (cs (cs (bodyOf Tryz.f86)))))))) (rsm_S s 0) = some (if allB s.L.length (fun k => mayB (s.L.getD k default)) then (.exit 0, mk 34 [(1, .lref 1 0), (3, dI s.L.length), (23, dB false)] [(1, cel2 s)] [] []) else (.ret, mk 34 [(2, dB false)] [] [] [])) := by
    refine loop_all (rsm_S s) s.L.length _ (fun k hk hp => ?_) (fun k hk hp => ?_) ?_ (by simp) (by simp)
    · have hc := may_spec (s.L.getD k default) (hz _ (getD_mem hk))
      rw [hp] at hc
      simp -implicitDefEqProofs (disch := decide +kernel) only [cf, cs, bodyOf, Tryz.f86, Option.getD_some, go_sem, ↓reduceIte, Nat.reduceSub, Nat.reduceAdd, Nat.reduceMul, Nat.reduceBEq, Nat.reduceLT, Nat.reduceLeDiff, Nat.reduceEqDiff, reduceCtorEq, Int.reduceToNat, Int.reduceLE, Int.reduceLT, Int.reduceBEq, Int.reduceBNe, mCall, rsm_S, cel2, lt_true hk, getD_get hk, hc, wrap_succ (n := k) (by omega)]
    · have hc := may_spec (s.L.getD k default) (hz _ (getD_mem hk))
      rw [hp] at hc
      simp -implicitDefEqProofs (disch := decide +kernel) only [cf, cs, bodyOf, Tryz.f86, Option.getD_some, go_sem, ↓reduceIte, Nat.reduceSub, Nat.reduceAdd, Nat.reduceMul, Nat.reduceBEq, Nat.reduceLT, Nat.reduceLeDiff, Nat.reduceEqDiff, reduceCtorEq, Int.reduceToNat, Int.reduceLE, Int.reduceLT, Int.reduceBEq, Int.reduceBNe, mCall, rsm_S, cel2, lt_true hk, getD_get hk, hc]
    · simp -implicitDefEqProofs (disch := decide +kernel) only [cf, cs, bodyOf, Tryz.f86, Option.getD_some, go_sem, ↓reduceIte, Nat.reduceSub, Nat.reduceAdd, Nat.reduceMul, Nat.reduceBEq, Nat.reduceLT, Nat.reduceLeDiff, Nat.reduceEqDiff, reduceCtorEq, Int.reduceToNat, Int.reduceLE, Int.reduceLT, Int.reduceBEq, Int.reduceBNe, mCall, rsm_S, cel2, lt_false (Nat.le_refl s.L.length)]
  rw [smayB_code]
  have hm : maysB s.L = allB s.L.length (fun k => mayB (s.L.getD k default)) := rfl
  rw [hm]
  rw [ev_fn 86 Tryz.f86 _ _ _ rfl Tryz.func86 rfl Tryz.ntmps86 rfl]
  cases h1 : decide ((s.L.length : Int) > 200)
  rotate_left
  · simp -implicitDefEqProofs (disch := decide +kernel) only [go_sem, ↓reduceIte, Nat.reduceSub, Nat.reduceAdd, Nat.reduceMul, Nat.reduceBEq, Nat.reduceLT, Nat.reduceLeDiff, Nat.reduceEqDiff, reduceCtorEq, Int.reduceToNat, Int.reduceLE, Int.reduceLT, Int.reduceBEq, Int.reduceBNe, mCall, cells_encS, cel2, h1]
  cases h2 : decide (s.sh < 0)
  rotate_left
  · simp -implicitDefEqProofs (disch := decide +kernel) only [go_sem, ↓reduceIte, Nat.reduceSub, Nat.reduceAdd, Nat.reduceMul, Nat.reduceBEq, Nat.reduceLT, Nat.reduceLeDiff, Nat.reduceEqDiff, reduceCtorEq, Int.reduceToNat, Int.reduceLE, Int.reduceLT, Int.reduceBEq, Int.reduceBNe, mCall, cells_encS, cel2, h1, h2]
  cases h3 : decide (s.sh > 1048576)
  rotate_left
  · simp -implicitDefEqProofs (disch := decide +kernel) only [go_sem, ↓reduceIte, Nat.reduceSub, Nat.reduceAdd, Nat.reduceMul, Nat.reduceBEq, Nat.reduceLT, Nat.reduceLeDiff, Nat.reduceEqDiff, reduceCtorEq, Int.reduceToNat, Int.reduceLE, Int.reduceLT, Int.reduceBEq, Int.reduceBNe, mCall, cells_encS, cel2, h1, h2, h3]
  cases h4 : allB s.L.length (fun k => mayB (s.L.getD k default))
  · rw [h4, if_neg (by simp)] at hloop
    simp -implicitDefEqProofs (disch := decide +kernel) only [go_sem, ↓reduceIte, Nat.reduceSub, Nat.reduceAdd, Nat.reduceMul, Nat.reduceBEq, Nat.reduceLT, Nat.reduceLeDiff, Nat.reduceEqDiff, reduceCtorEq, Int.reduceToNat, Int.reduceLE, Int.reduceLT, Int.reduceBEq, Int.reduceBNe, mCall, cells_encS, cel2, h1, h2, h3]
    rw [loop_at hloop ?hb ?hs]
    case hb => rfl
    case hs => rfl
    simp -implicitDefEqProofs (disch := decide +kernel) only [go_sem, ↓reduceIte, Nat.reduceSub, Nat.reduceAdd, Nat.reduceMul, Nat.reduceBEq, Nat.reduceLT, Nat.reduceLeDiff, Nat.reduceEqDiff, reduceCtorEq, Int.reduceToNat, Int.reduceLE, Int.reduceLT, Int.reduceBEq, Int.reduceBNe, mCall, h1]
  · rw [h4, if_pos rfl] at hloop
    simp -implicitDefEqProofs (disch := decide +kernel) only [go_sem, ↓reduceIte, Nat.reduceSub, Nat.reduceAdd, Nat.reduceMul, Nat.reduceBEq, Nat.reduceLT, Nat.reduceLeDiff, Nat.reduceEqDiff, reduceCtorEq, Int.reduceToNat, Int.reduceLE, Int.reduceLT, Int.reduceBEq, Int.reduceBNe, mCall, cells_encS, cel2, h1, h2, h3]
    rw [loop_at hloop ?hb ?hs]
    case hb => rfl
    case hs => rfl
    simp -implicitDefEqProofs (disch := decide +kernel) only [go_sem, ↓reduceIte, Nat.reduceSub, Nat.reduceAdd, Nat.reduceMul, Nat.reduceBEq, Nat.reduceLT, Nat.reduceLeDiff, Nat.reduceEqDiff, reduceCtorEq, Int.reduceToNat, Int.reduceLE, Int.reduceLT, Int.reduceBEq, Int.reduceBNe, mCall, h1]
theorem rapply_spec (t : Tm) (s : Sb) (hz : t.size < room) (hzs : ∀ x ∈ s.L, x.size < room) (hl : s.L.length < room) (hv : vleB topV t = true) (hvs : ∀ x ∈ s.L, vleB topV x = true) :
    ∃ h, (lim C).call 75 [dT t, dS s] [] = some (.ret (.tup [dT (applyR t s).1, dI (applyR t s).2]), h) := by
  have hr : room = 1099511627776 := rfl
  have hm1 := may_spec t hz
  have hm2 := rsMay_spec s hl hzs
  have he := (enc_eq t).symm
  have hes := (encS_eq s).symm
  unfold applyR
  cases h1 : mayB t
  · rw [h1] at hm1
    refine ⟨[], ?_⟩
    rw [ev_fn 75 Tryz.f75 _ _ _ rfl Tryz.func75 rfl Tryz.ntmps75 rfl]
    simp -implicitDefEqProofs (disch := decide +kernel) only [go_sem, ↓reduceIte, Nat.reduceSub, Nat.reduceAdd, Nat.reduceMul, Nat.reduceBEq, Nat.reduceLT, Nat.reduceLeDiff, Nat.reduceEqDiff, reduceCtorEq, Int.reduceToNat, Int.reduceLE, Int.reduceLT, Int.reduceBEq, Int.reduceBNe, mCall, cells_enc, cells_encS, cel3, cel2, he, hes, hm1, hm2, zT_enc]
  · rw [h1] at hm1
    cases h2 : smayB s
    · rw [h2] at hm2
      refine ⟨[], ?_⟩
      rw [ev_fn 75 Tryz.f75 _ _ _ rfl Tryz.func75 rfl Tryz.ntmps75 rfl]
      simp -implicitDefEqProofs (disch := decide +kernel) only [go_sem, ↓reduceIte, Nat.reduceSub, Nat.reduceAdd, Nat.reduceMul, Nat.reduceBEq, Nat.reduceLT, Nat.reduceLeDiff, Nat.reduceEqDiff, reduceCtorEq, Int.reduceToNat, Int.reduceLE, Int.reduceLT, Int.reduceBEq, Int.reduceBNe, mCall, cells_enc, cells_encS, cel3, cel2, he, hes, hm1, hm2, zT_enc]
    · rw [h2] at hm2
      have hw := rap_walk 40000 t s 0 [] _ _ _ (pre_top h1 h2 hv hvs)
      have hsz : ∀ u m, ap 40000 t s 0 = .ok u m → u.size < room := fun u m hu => by
        have := (ap_size h1 h2 hv hvs hu)
        have := this.size
        have := ‹Fits 0 m (topV + 1048576) 0 u›.lim
        have q : (m - 0) * 4001 ≤ 40000 * 4001 := Nat.mul_le_mul_right _ (by omega)
        omega
      have her : ∀ e m, ap 40000 t s 0 = .er e m → e = 3 ∨ e = 4 := fun e m h => ap_err 40000 t s 0 e m h
      obtain ⟨x, hp, hx⟩ : ∃ x : Tm, ∃ hp, outW [] (ap 40000 t s 0) = some (.ret (dT x), hp) := by
        cases ap 40000 t s 0 with
        | ok u m => exact ⟨u, _, rfl⟩
        | er e m => exact ⟨zT, _, rfl⟩
      obtain ⟨h', hd⟩ := rdone_spec hsz her hx
      have hw' : (lim C).call 87 [.href 0 0, dT t, dS s] [.var 0 [dI 0, dI 0]] = some (.ret (dT x), hp) := by rw [← hx]; exact hw
      refine ⟨h', ?_⟩
      rw [ev_fn 75 Tryz.f75 _ _ _ rfl Tryz.func75 rfl Tryz.ntmps75 rfl]
      generalize outD (ap 40000 t s 0) = rr at hd ⊢
      simp -implicitDefEqProofs (disch := decide +kernel) only [go_sem, ↓reduceIte, Nat.reduceSub, Nat.reduceAdd, Nat.reduceMul, Nat.reduceBEq, Nat.reduceLT, Nat.reduceLeDiff, Nat.reduceEqDiff, reduceCtorEq, Int.reduceToNat, Int.reduceLE, Int.reduceLT, Int.reduceBEq, Int.reduceBNe, mCall, cells_enc, cells_encS, cel3, cel2, zc3, he, hes, hm1, hm2, hw', hd, (enc_eq x).symm, (enc_eq rr.1).symm]
end Go.Proofs.YtbcoacljjhbonaaGreat
/- The reference of layer 10: May, a spine. -/
set_option linter.unusedSimpArgs false
set_option linter.unusedVariables false
set_option maxRecDepth 100000
namespace Go.Proofs.YtbcoacljjhbonaaGreat
open Go.Proofs
def ra_S (l : List Tm) (i : Nat) : St := mk 18 [(0, dL l), (3, dI i)] [] [] []
theorem rall_spec (l : List Tm) (hl : l.length < room) (hz : ∀ x ∈ l, x.size < room) : (lim C).call 59 [dL l] [] = retB (maysB l) := by
  have hr : room = 1099511627776 := rfl
  have hloop : (lim C).code 59 (.loop (cf (cf (cs (cf (cs (bodyOf Tryz.f59))))))) (ra_S l 0) = some (if allB l.length (fun k => mayB (l.getD k default)) then (.exit 0, mk 18 [(0, dL l), (3, dI l.length), (8, dB false)] [] [] []) else (.ret, mk 18 [(2, dB false)] [] [] [])) := by
    refine loop_all (ra_S l) l.length _ (fun k hk hp => ?_) (fun k hk hp => ?_) ?_ (by simp) (by simp)
    · have hc := may_spec (l.getD k default) (hz _ (getD_mem hk))
      rw [hp] at hc
      simp -implicitDefEqProofs (disch := decide +kernel) only [cf, cs, bodyOf, Tryz.f59, Option.getD_some, go_sem, ↓reduceIte, Nat.reduceSub, Nat.reduceAdd, Nat.reduceMul, Nat.reduceBEq, Nat.reduceLT, Nat.reduceLeDiff, Nat.reduceEqDiff, reduceCtorEq, Int.reduceToNat, Int.reduceLE, Int.reduceLT, Int.reduceBEq, Int.reduceBNe, mCall, ra_S, lt_true hk, getD_get hk, hc, wrap_succ (n := k) (by omega)]
    · have hc := may_spec (l.getD k default) (hz _ (getD_mem hk))
      rw [hp] at hc
      simp -implicitDefEqProofs (disch := decide +kernel) only [cf, cs, bodyOf, Tryz.f59, Option.getD_some, go_sem, ↓reduceIte, Nat.reduceSub, Nat.reduceAdd, Nat.reduceMul, Nat.reduceBEq, Nat.reduceLT, Nat.reduceLeDiff, Nat.reduceEqDiff, reduceCtorEq, Int.reduceToNat, Int.reduceLE, Int.reduceLT, Int.reduceBEq, Int.reduceBNe, mCall, ra_S, lt_true hk, getD_get hk, hc]
    · simp -implicitDefEqProofs (disch := decide +kernel) only [cf, cs, bodyOf, Tryz.f59, Option.getD_some, go_sem, ↓reduceIte, Nat.reduceSub, Nat.reduceAdd, Nat.reduceMul, Nat.reduceBEq, Nat.reduceLT, Nat.reduceLeDiff, Nat.reduceEqDiff, reduceCtorEq, Int.reduceToNat, Int.reduceLE, Int.reduceLT, Int.reduceBEq, Int.reduceBNe, mCall, ra_S, lt_false (Nat.le_refl l.length)]
  have hm : maysB l = allB l.length (fun k => mayB (l.getD k default)) := rfl
  rw [ev_fn 59 Tryz.f59 _ _ _ rfl Tryz.func59 rfl Tryz.ntmps59 rfl]
  simp -implicitDefEqProofs (disch := decide +kernel) only [go_sem, ↓reduceIte, Nat.reduceSub, Nat.reduceAdd, Nat.reduceMul, Nat.reduceBEq, Nat.reduceLT, Nat.reduceLeDiff, Nat.reduceEqDiff, reduceCtorEq, Int.reduceToNat, Int.reduceLE, Int.reduceLT, Int.reduceBEq, Int.reduceBNe, mCall]
  rw [loop_at hloop ?hb ?hs]
  case hb => rfl
  case hs => rfl
  rw [hm]
  cases allB l.length (fun k => mayB (l.getD k default)) <;> simp -implicitDefEqProofs (disch := decide +kernel) only [go_sem, ↓reduceIte, Nat.reduceSub, Nat.reduceAdd, Nat.reduceMul, Nat.reduceBEq, Nat.reduceLT, Nat.reduceLeDiff, Nat.reduceEqDiff, reduceCtorEq, Int.reduceToNat, Int.reduceLE, Int.reduceLT, Int.reduceBEq, Int.reduceBNe, mCall]
def rm_S1 (w : Wo) (l : List Tm) (i : Nat) : St := mk 65 [(0, dDs w.sig), (1, dMs w.metas), (2, dL w.ctx), (3, dL l), (9, dI i)] [] [] []
def rm_S2 (w : Wo) (l : List Tm) (i : Nat) : St := mk 65 [(1, dMs w.metas), (2, dL w.ctx), (3, dL l), (11, dI i)] [] [] []
def rm_R : St := mk 65 [(8, dB false)] [] [] []
theorem rMay_spec (w : Wo) (l : List Tm) (hw : WSz w) (hl : l.length < room) (hz : ∀ x ∈ l, x.size < room) : (lim C).call 43 [dDs w.sig, dMs w.metas, dL w.ctx, dL l] [] = retB (mayW w.wd w.ctx l) := by
  have hr : room = 1099511627776 := rfl
  have s1 := hw.sl
  have m1 := hw.ml
  have hloop1 : (lim C).code 43 (.loop (cf (cf (cs (cf (cs (cs (bodyOf Tryz.f43)))))))) (rm_S1 w l 0) = some (if allB w.sig.length (fun i => mayB (Dcs.at w.sig i).t) then (.exit 0, mk 65 [(0, dDs w.sig), (1, dMs w.metas), (2, dL w.ctx), (3, dL l), (9, dI w.sig.length), (22, dB false)] [] [] []) else (.ret, rm_R)) := by
    refine loop_all (rm_S1 w l) w.sig.length _ (fun k hk hp => ?_) (fun k hk hp => ?_) ?_ (by simp) (by simp)
    · have hc := may_spec (Dcs.at w.sig k).t (hw.sz _ (dat_mem hk))
      rw [hp] at hc
      simp -implicitDefEqProofs (disch := decide +kernel) only [cf, cs, bodyOf, Tryz.f43, Option.getD_some, go_sem, ↓reduceIte, Nat.reduceSub, Nat.reduceAdd, Nat.reduceMul, Nat.reduceBEq, Nat.reduceLT, Nat.reduceLeDiff, Nat.reduceEqDiff, reduceCtorEq, Int.reduceToNat, Int.reduceLE, Int.reduceLT, Int.reduceBEq, Int.reduceBNe, mCall, rm_S1, lt_true hk, dat_get hk, hc, cells_encD, (enc_eq (Dcs.at w.sig k).t).symm, wrap_succ (n := k) (by omega)]
    · have hc := may_spec (Dcs.at w.sig k).t (hw.sz _ (dat_mem hk))
      rw [hp] at hc
      simp -implicitDefEqProofs (disch := decide +kernel) only [cf, cs, bodyOf, Tryz.f43, Option.getD_some, go_sem, ↓reduceIte, Nat.reduceSub, Nat.reduceAdd, Nat.reduceMul, Nat.reduceBEq, Nat.reduceLT, Nat.reduceLeDiff, Nat.reduceEqDiff, reduceCtorEq, Int.reduceToNat, Int.reduceLE, Int.reduceLT, Int.reduceBEq, Int.reduceBNe, mCall, rm_S1, rm_R, lt_true hk, dat_get hk, hc, cells_encD, (enc_eq (Dcs.at w.sig k).t).symm]
    · simp -implicitDefEqProofs (disch := decide +kernel) only [cf, cs, bodyOf, Tryz.f43, Option.getD_some, go_sem, ↓reduceIte, Nat.reduceSub, Nat.reduceAdd, Nat.reduceMul, Nat.reduceBEq, Nat.reduceLT, Nat.reduceLeDiff, Nat.reduceEqDiff, reduceCtorEq, Int.reduceToNat, Int.reduceLE, Int.reduceLT, Int.reduceBEq, Int.reduceBNe, mCall, rm_S1, lt_false (Nat.le_refl w.sig.length)]
  have hloop2 : (lim C).code 43 (.loop (cf (cf (cs (cf (cs (cs (cs (bodyOf Tryz.f43))))))))) (rm_S2 w l 0) = some (if allB w.metas.length (fun i => mayB (w.metas.getD i default).t && maysB (w.metas.getD i default).ctx) then (.exit 2, mk 65 [(1, dMs w.metas), (2, dL w.ctx), (3, dL l), (11, dI w.metas.length), (36, dB false)] [] [] []) else (.ret, rm_R)) := by
    refine loop_all (rm_S2 w l) w.metas.length _ (fun k hk hp => ?_) (fun k hk hp => ?_) ?_ (by simp) (by simp)
    · obtain ⟨z1, z2, z3⟩ := hw.mz _ (mget_mem hk)
      have hc := may_spec (w.metas.getD k default).t z1
      have hd := rall_spec (w.metas.getD k default).ctx z2 z3
      simp only [Bool.and_eq_true] at hp
      rw [hp.1] at hc
      rw [hp.2] at hd
      simp -implicitDefEqProofs (disch := decide +kernel) only [cf, cs, bodyOf, Tryz.f43, Option.getD_some, go_sem, ↓reduceIte, Nat.reduceSub, Nat.reduceAdd, Nat.reduceMul, Nat.reduceBEq, Nat.reduceLT, Nat.reduceLeDiff, Nat.reduceEqDiff, reduceCtorEq, Int.reduceToNat, Int.reduceLE, Int.reduceLT, Int.reduceBEq, Int.reduceBNe, mCall, rm_S2, lt_true hk, mget_get hk, hc, hd, cells_encM, (enc_eq (w.metas.getD k default).t).symm, wrap_succ (n := k) (by omega)]
    · obtain ⟨z1, z2, z3⟩ := hw.mz _ (mget_mem hk)
      have hc := may_spec (w.metas.getD k default).t z1
      have hd := rall_spec (w.metas.getD k default).ctx z2 z3
      cases h2 : maysB (w.metas.getD k default).ctx
      · rw [h2] at hd
        simp -implicitDefEqProofs (disch := decide +kernel) only [cf, cs, bodyOf, Tryz.f43, Option.getD_some, go_sem, ↓reduceIte, Nat.reduceSub, Nat.reduceAdd, Nat.reduceMul, Nat.reduceBEq, Nat.reduceLT, Nat.reduceLeDiff, Nat.reduceEqDiff, reduceCtorEq, Int.reduceToNat, Int.reduceLE, Int.reduceLT, Int.reduceBEq, Int.reduceBNe, mCall, rm_S2, rm_R, lt_true hk, mget_get hk, hc, hd, cells_encM, (enc_eq (w.metas.getD k default).t).symm]
      · rw [h2, Bool.and_true] at hp
        rw [hp] at hc
        rw [h2] at hd
        simp -implicitDefEqProofs (disch := decide +kernel) only [cf, cs, bodyOf, Tryz.f43, Option.getD_some, go_sem, ↓reduceIte, Nat.reduceSub, Nat.reduceAdd, Nat.reduceMul, Nat.reduceBEq, Nat.reduceLT, Nat.reduceLeDiff, Nat.reduceEqDiff, reduceCtorEq, Int.reduceToNat, Int.reduceLE, Int.reduceLT, Int.reduceBEq, Int.reduceBNe, mCall, rm_S2, rm_R, lt_true hk, mget_get hk, hc, hd, cells_encM, (enc_eq (w.metas.getD k default).t).symm]
    · simp -implicitDefEqProofs (disch := decide +kernel) only [cf, cs, bodyOf, Tryz.f43, Option.getD_some, go_sem, ↓reduceIte, Nat.reduceSub, Nat.reduceAdd, Nat.reduceMul, Nat.reduceBEq, Nat.reduceLT, Nat.reduceLeDiff, Nat.reduceEqDiff, reduceCtorEq, Int.reduceToNat, Int.reduceLE, Int.reduceLT, Int.reduceBEq, Int.reduceBNe, mCall, rm_S2, lt_false (Nat.le_refl w.metas.length)]
  have hc1 := rall_spec w.ctx hw.cl hw.cz
  have hc2 := rall_spec l hl hz
  rw [mayW_eq]
  rw [ev_fn 43 Tryz.f43 _ _ _ rfl Tryz.func43 rfl Tryz.ntmps43 rfl]
  cases k1 : decide ((w.ctx.length : Int) > 1000)
  · cases k4 : allB w.sig.length (fun i => mayB (Dcs.at w.sig i).t)
    · rw [k4] at hloop1
      simp -implicitDefEqProofs (disch := decide +kernel) only [go_sem, ↓reduceIte, Nat.reduceSub, Nat.reduceAdd, Nat.reduceMul, Nat.reduceBEq, Nat.reduceLT, Nat.reduceLeDiff, Nat.reduceEqDiff, reduceCtorEq, Int.reduceToNat, Int.reduceLE, Int.reduceLT, Int.reduceBEq, Int.reduceBNe, mCall, k1]
      rw [loop_at hloop1 ?hb ?hs]
      case hb => rfl
      case hs => rfl
      simp -implicitDefEqProofs (disch := decide +kernel) only [go_sem, ↓reduceIte, Nat.reduceSub, Nat.reduceAdd, Nat.reduceMul, Nat.reduceBEq, Nat.reduceLT, Nat.reduceLeDiff, Nat.reduceEqDiff, reduceCtorEq, Int.reduceToNat, Int.reduceLE, Int.reduceLT, Int.reduceBEq, Int.reduceBNe, mCall, rm_R]
    · rw [k4] at hloop1
      simp -implicitDefEqProofs (disch := decide +kernel) only [go_sem, ↓reduceIte, Nat.reduceSub, Nat.reduceAdd, Nat.reduceMul, Nat.reduceBEq, Nat.reduceLT, Nat.reduceLeDiff, Nat.reduceEqDiff, reduceCtorEq, Int.reduceToNat, Int.reduceLE, Int.reduceLT, Int.reduceBEq, Int.reduceBNe, mCall, k1]
      rw [loop_at hloop1 ?hb ?hs]
      case hb => rfl
      case hs => rfl
      cases k5 : allB w.metas.length (fun i => mayB (w.metas.getD i default).t && maysB (w.metas.getD i default).ctx)
      · rw [k5] at hloop2
        simp -implicitDefEqProofs (disch := decide +kernel) only [go_sem, ↓reduceIte, Nat.reduceSub, Nat.reduceAdd, Nat.reduceMul, Nat.reduceBEq, Nat.reduceLT, Nat.reduceLeDiff, Nat.reduceEqDiff, reduceCtorEq, Int.reduceToNat, Int.reduceLE, Int.reduceLT, Int.reduceBEq, Int.reduceBNe, mCall]
        rw [loop_at hloop2 ?hb ?hs]
        case hb => rfl
        case hs => rfl
        simp -implicitDefEqProofs (disch := decide +kernel) only [go_sem, ↓reduceIte, Nat.reduceSub, Nat.reduceAdd, Nat.reduceMul, Nat.reduceBEq, Nat.reduceLT, Nat.reduceLeDiff, Nat.reduceEqDiff, reduceCtorEq, Int.reduceToNat, Int.reduceLE, Int.reduceLT, Int.reduceBEq, Int.reduceBNe, mCall, rm_R]
      · rw [k5] at hloop2
        simp -implicitDefEqProofs (disch := decide +kernel) only [go_sem, ↓reduceIte, Nat.reduceSub, Nat.reduceAdd, Nat.reduceMul, Nat.reduceBEq, Nat.reduceLT, Nat.reduceLeDiff, Nat.reduceEqDiff, reduceCtorEq, Int.reduceToNat, Int.reduceLE, Int.reduceLT, Int.reduceBEq, Int.reduceBNe, mCall]
        rw [loop_at hloop2 ?hb ?hs]
        case hb => rfl
        case hs => rfl
        cases k2 : maysB l <;> cases k3 : maysB w.ctx <;> (rw [k2] at hc2; rw [k3] at hc1; simp -implicitDefEqProofs (disch := decide +kernel) only [go_sem, ↓reduceIte, Nat.reduceSub, Nat.reduceAdd, Nat.reduceMul, Nat.reduceBEq, Nat.reduceLT, Nat.reduceLeDiff, Nat.reduceEqDiff, reduceCtorEq, Int.reduceToNat, Int.reduceLE, Int.reduceLT, Int.reduceBEq, Int.reduceBNe, mCall, hc1, hc2])
  · simp -implicitDefEqProofs (disch := decide +kernel) only [go_sem, ↓reduceIte, Nat.reduceSub, Nat.reduceAdd, Nat.reduceMul, Nat.reduceBEq, Nat.reduceLT, Nat.reduceLeDiff, Nat.reduceEqDiff, reduceCtorEq, Int.reduceToNat, Int.reduceLE, Int.reduceLT, Int.reduceBEq, Int.reduceBNe, mCall, k1]
theorem rmore_spec (l : List Tm) (a : Tm) (hl : l.length < room) : (lim C).call 60 [dL l, dT a] [] = some (.ret (dL (l ++ [a])), []) := by
  have hr : room = 1099511627776 := rfl
  have ha1 := fun locs heap => app_first (encs l) 3 locs heap (by rw [encs_length]; omega) (encs_all _)
  have ha2 := fun locs heap => app_more (encs l) [enc a] 3 (by simp) locs heap (by rw [encs_length]; simp; omega) (encs_all _) (by simp [enc_width])
  have hz : encs l ++ [enc a] = encs (l ++ [a]) := by rw [encs_append]; rfl
  simp only [encs_length, hz] at ha1 ha2
  rw [ev_fn 60 Tryz.f60 _ _ _ rfl Tryz.func60 rfl Tryz.ntmps60 rfl]
  simp -implicitDefEqProofs (disch := decide +kernel) only [go_sem, ↓reduceIte, Nat.reduceSub, Nat.reduceAdd, Nat.reduceMul, Nat.reduceBEq, Nat.reduceLT, Nat.reduceLeDiff, Nat.reduceEqDiff, reduceCtorEq, Int.reduceToNat, Int.reduceLE, Int.reduceLT, Int.reduceBEq, Int.reduceBNe, mCall, ha1, ha2, cells_enc, cel3, (enc_eq a).symm]
end Go.Proofs.YtbcoacljjhbonaaGreat
/- The reference of layer 10: what a node comes to. -/
set_option linter.unusedSimpArgs false
set_option linter.unusedVariables false
set_option maxRecDepth 100000
namespace Go.Proofs.YtbcoacljjhbonaaGreat
open Go.Proofs
/-- What is shared: declarations, metas. -/
def rfH (w : Wo) : List HO := [.var 0 [dDs w.sig, dMs w.metas]]
def RTells (w : Wo) (m : Tm) (K : Int) : Prop := ∀ i, i < m.args.length → ∀ x : Tm, mayB x = true → vleB (K + 2000000 * ((i : Int) + 1)) x = true →
  (lim C).call 74 [.href 0 0, dL w.ctx, dT (m.arg i), dT x] (rfH w) = some (.ret (dI (argW w.wd m i x w.ctx)), rfH w)
structure RNodeOk (w : Wo) (m : Tm) (K : Int) : Prop where
  tells : RTells w m K
  may : mayB m = true
  vle : vleB K m = true
  wok : WOk K w m.size
  top : K + 4000000 * (m.size : Int) ≤ topV
theorem RNodeOk.h0 {w : Wo} {m : Tm} {K : Int} (h : RNodeOk w m K) : 0 ≤ K := h.wok.h0
theorem RNodeOk.top2 {w : Wo} {m : Tm} {K : Int} (h : RNodeOk w m K) : K + 2000000 * ((m.args.length : Int) + 2) ≤ topV := by
  have := h.top
  have := len_size m
  omega
def rsc_S (w : Wo) (t : Tm) (l : List Tm) (i : Nat) : St := mk 59 [(0, .href 0 0), (1, dL w.ctx), (3, dL l), (6, .lref 6 0), (8, .lref 8 0), (10, dI i)] [(6, cel3 t), (8, zc3)] (rfH w) []
def rsc_X (w : Wo) (t : Tm) (l : List Tm) : St := mk 59 [(0, .href 0 0), (1, dL w.ctx), (3, dL l), (6, .lref 6 0), (8, .lref 8 0), (10, dI l.length), (17, dB false)] [(6, cel3 t), (8, zc3)] (rfH w) []
def rsc_R (w : Wo) (e : Int) : St := mk 59 [(8, .lref 8 0), (9, dI e)] [(8, zc3)] (rfH w) []
theorem rsc_step {w : Wo} {m t u : Tm} {i : Nat} {h' : List HO} (hi : i < m.args.length) (hl : m.args.length < room) (k1 : (t.kind != 1) = false) (ht : t.args.length = 2)
    (hrec : (lim C).call 74 [.href 0 0, dL w.ctx, dT (m.arg i), dT (t.arg 0)] (rfH w) = some (.ret (dI 0), rfH w))
    (hap : (lim C).call 75 [dT (t.arg 1), dS ⟨[m.arg i], 0⟩] [] = some (.ret (.tup [dT u, dI 0]), h')) :
    (lim C).code 61 (cf (.loop (cf (cf (cs (cf (cs (bodyOf Tryz.f61)))))))) (rsc_S w t m.args i) = some (.nor, rsc_S w u m.args (i + 1)) := by
  have hr : room = 1099511627776 := rfl
  have e0 : t.args[0]? = some (t.arg 0) := arg_get (by omega)
  have e1 : t.args[1]? = some (t.arg 1) := arg_get (by omega)
  have hsb : Dv.agg [.slc [enc (m.arg i)], .int .i64 0] = encS ⟨[m.arg i], 0⟩ := rfl
  have h00 : ((0 : Int) != 0) = false := rfl
  simp only [rfH] at hrec
  simp -implicitDefEqProofs (disch := decide +kernel) only [cf, cs, bodyOf, Tryz.f61, Option.getD_some, go_sem, ↓reduceIte, Nat.reduceSub, Nat.reduceAdd, Nat.reduceMul, Nat.reduceBEq, Nat.reduceLT, Nat.reduceLeDiff, Nat.reduceEqDiff, reduceCtorEq, Int.reduceToNat, Int.reduceLE, Int.reduceLT, Int.reduceBEq, Int.reduceBNe, mCall, rsc_S, rfH, cel3, zc3, cells_enc, lt_true hi, arg_get hi, k1, e0, e1, hsb, hrec, hap, h00, (enc_eq (m.arg i)).symm, (enc_eq u).symm, wrap_succ (n := i) (by omega)]
theorem rsc_bad1 {w : Wo} {m t : Tm} {i : Nat} (hi : i < m.args.length) (hl : m.args.length < room) (k1 : (t.kind != 1) = true) :
    (lim C).code 61 (cf (.loop (cf (cf (cs (cf (cs (bodyOf Tryz.f61)))))))) (rsc_S w t m.args i) = some (.ret, rsc_R w 3) := by
  have hz := zT_enc
  simp -implicitDefEqProofs (disch := decide +kernel) only [cf, cs, bodyOf, Tryz.f61, Option.getD_some, go_sem, ↓reduceIte, Nat.reduceSub, Nat.reduceAdd, Nat.reduceMul, Nat.reduceBEq, Nat.reduceLT, Nat.reduceLeDiff, Nat.reduceEqDiff, reduceCtorEq, Int.reduceToNat, Int.reduceLE, Int.reduceLT, Int.reduceBEq, Int.reduceBNe, mCall, rsc_S, rsc_R, rfH, cel3, zc3, cells_enc, lt_true hi, arg_get hi, k1, hz, (enc_eq (m.arg i)).symm]
theorem rsc_bad2 {w : Wo} {m t : Tm} {i : Nat} {e : Int} (hi : i < m.args.length) (hl : m.args.length < room) (k1 : (t.kind != 1) = false) (ht : t.args.length = 2) (he : (e != 0) = true)
    (hrec : (lim C).call 74 [.href 0 0, dL w.ctx, dT (m.arg i), dT (t.arg 0)] (rfH w) = some (.ret (dI e), rfH w)) :
    (lim C).code 61 (cf (.loop (cf (cf (cs (cf (cs (bodyOf Tryz.f61)))))))) (rsc_S w t m.args i) = some (.ret, rsc_R w e) := by
  have hz := zT_enc
  have e0 : t.args[0]? = some (t.arg 0) := arg_get (by omega)
  simp only [rfH] at hrec
  simp -implicitDefEqProofs (disch := decide +kernel) only [cf, cs, bodyOf, Tryz.f61, Option.getD_some, go_sem, ↓reduceIte, Nat.reduceSub, Nat.reduceAdd, Nat.reduceMul, Nat.reduceBEq, Nat.reduceLT, Nat.reduceLeDiff, Nat.reduceEqDiff, reduceCtorEq, Int.reduceToNat, Int.reduceLE, Int.reduceLT, Int.reduceBEq, Int.reduceBNe, mCall, rsc_S, rsc_R, rfH, cel3, zc3, cells_enc, lt_true hi, arg_get hi, k1, e0, hrec, he, hz, (enc_eq (m.arg i)).symm]
theorem rsc_bad3 {w : Wo} {m t u : Tm} {i : Nat} {e : Int} {h' : List HO} (hi : i < m.args.length) (hl : m.args.length < room) (k1 : (t.kind != 1) = false) (ht : t.args.length = 2) (he : (e != 0) = true)
    (hrec : (lim C).call 74 [.href 0 0, dL w.ctx, dT (m.arg i), dT (t.arg 0)] (rfH w) = some (.ret (dI 0), rfH w))
    (hap : (lim C).call 75 [dT (t.arg 1), dS ⟨[m.arg i], 0⟩] [] = some (.ret (.tup [dT u, dI e]), h')) :
    (lim C).code 61 (cf (.loop (cf (cf (cs (cf (cs (bodyOf Tryz.f61)))))))) (rsc_S w t m.args i) = some (.ret, rsc_R w e) := by
  have hz := zT_enc
  have e0 : t.args[0]? = some (t.arg 0) := arg_get (by omega)
  have e1 : t.args[1]? = some (t.arg 1) := arg_get (by omega)
  have hsb : Dv.agg [.slc [enc (m.arg i)], .int .i64 0] = encS ⟨[m.arg i], 0⟩ := rfl
  have h00 : ((0 : Int) != 0) = false := rfl
  simp only [rfH] at hrec
  simp -implicitDefEqProofs (disch := decide +kernel) only [cf, cs, bodyOf, Tryz.f61, Option.getD_some, go_sem, ↓reduceIte, Nat.reduceSub, Nat.reduceAdd, Nat.reduceMul, Nat.reduceBEq, Nat.reduceLT, Nat.reduceLeDiff, Nat.reduceEqDiff, reduceCtorEq, Int.reduceToNat, Int.reduceLE, Int.reduceLT, Int.reduceBEq, Int.reduceBNe, mCall, rsc_S, rsc_R, rfH, cel3, zc3, cells_enc, lt_true hi, arg_get hi, k1, e0, e1, hsb, hrec, hap, he, h00, hz, (enc_eq (m.arg i)).symm, (enc_eq u).symm]
def rsc_out (w : Wo) (l : List Tm) (r : Tm × Int) : Ex × St := if r.2 = 0 then (.exit 0, rsc_X w r.1 l) else (.ret, rsc_R w r.2)
theorem rsc_err (w : Wo) (l : List Tm) {e : Int} (h : e ≠ 0) : rsc_out w l (zT, e) = (.ret, rsc_R w e) := if_neg h
theorem rsc_loop {w : Wo} {m : Tm} {K : Int} (hn : RNodeOk w m K) : ∀ (k i : Nat) (t : Tm), i + k = m.args.length → mayB t = true → vleB (K + 2000000 * ((i : Int) + 1)) t = true →
    (lim C).code 61 (.loop (cf (cf (cs (cf (cs (bodyOf Tryz.f61))))))) (rsc_S w t m.args i) = some (rsc_out w m.args (spW (argF w m) m.arg k i t))
  | 0, i, t, hi, _, _ => by
    obtain rfl : i = m.args.length := by omega
    simp only [spW, rsc_out, if_true]
    refine loop_out' ?_ (by simp)
    simp -implicitDefEqProofs (disch := decide +kernel) only [cf, cs, bodyOf, Tryz.f61, Option.getD_some, go_sem, ↓reduceIte, Nat.reduceSub, Nat.reduceAdd, Nat.reduceMul, Nat.reduceBEq, Nat.reduceLT, Nat.reduceLeDiff, Nat.reduceEqDiff, reduceCtorEq, Int.reduceToNat, Int.reduceLE, Int.reduceLT, Int.reduceBEq, Int.reduceBNe, mCall, rsc_S, rsc_X, lt_false (Nat.le_refl m.args.length)]
  | k + 1, i, t, hi, ht, hvt => by
    have hr : room = 1099511627776 := rfl
    have hm := hn.may
    have hv := hn.vle
    have h0 := hn.h0
    have hK := hn.top2
    have hlt : i < m.args.length := by omega
    have hml : m.args.length < room := by have := len_size m; have := may_room hm; omega
    simp only [spW]
    cases k1 : (t.kind != 1)
    · have hk : t.kind = 1 := by simpa using k1
      have hl2 := pi_len (may_parts ht).1 hk
      rw [if_neg (by simpa using hk)]
      have m0 := may_argm (arg_mem (t := t) (i := 0) (by omega)) ht
      have m1 := may_argm (arg_mem (t := t) (i := 1) (by omega)) ht
      have v0 := vle_args hvt 0 (by omega)
      have v1 := vle_args hvt 1 (by omega)
      have hrec := hn.tells i hlt (t.arg 0) m0 v0
      by_cases he : argF w m i (t.arg 0) = 0
      · rw [if_neg (by simpa using he)]
        have he' : argW w.wd m i (t.arg 0) w.ctx = 0 := he
        rw [he'] at hrec
        have ma := may_argm (arg_mem hlt) hm
        have va := vle_args hv i hlt
        obtain ⟨h', hap⟩ := rapply_spec (t.arg 1) ⟨[m.arg i], 0⟩ (may_room m1) (by simpa using may_room ma) (by simp; omega) (vle_mono (by omega) v1) (by simpa using vle_mono (by omega) va)
        have hvr := applyR_vle (K := K + 2000000 * ((i : Int) + 1)) (by omega) v1 (s := ⟨[m.arg i], 0⟩) (by simpa using vle_mono (by omega) va)
        have hmr := applyR_may (t.arg 1) ⟨[m.arg i], 0⟩
        generalize applyR (t.arg 1) ⟨[m.arg i], 0⟩ = r at hap hvr hmr ⊢
        obtain ⟨u, e⟩ := r
        by_cases he2 : e = 0
        · subst he2
          rw [if_neg (by simp)]
          exact (loop_nor' (rsc_step hlt hml k1 hl2 hrec hap)).trans (rsc_loop hn k (i + 1) u (by omega) hmr (by
            have : K + 2000000 * ((i : Int) + 1) + 2000000 = K + 2000000 * (((i + 1 : Nat) : Int) + 1) := by omega
            rw [← this]; exact hvr))
        · rw [if_pos (by simpa using he2)]
          rw [rsc_err w m.args (by simpa using he2)]
          exact loop_out' (rsc_bad3 hlt hml k1 hl2 (by simpa using he2) hrec hap) (by simp)
      · rw [if_pos (by simpa using he)]
        have he' : ¬ argW w.wd m i (t.arg 0) w.ctx = 0 := he
        rw [rsc_err w m.args (by simpa using he)]
        exact loop_out' (rsc_bad2 hlt hml k1 hl2 (by simpa using he') hrec) (by simp)
    · rw [if_pos (by simpa using k1)]
      rw [rsc_err w m.args (by decide)]
      exact loop_out' (rsc_bad1 hlt hml k1) (by simp)
theorem rspine_spec {w : Wo} {m : Tm} {K : Int} (hn : RNodeOk w m K) {t : Tm} (ht : mayB t = true) (hvt : vleB (K + 2000000) t = true) :
    (lim C).call 61 [.href 0 0, dL w.ctx, dT t, dL m.args] (rfH w) = some (.ret (.tup [dT (spW (argF w m) m.arg m.args.length 0 t).1, dI (spW (argF w m) m.arg m.args.length 0 t).2]), rfH w) := by
  have hloop := rsc_loop hn m.args.length 0 t (by omega) ht (by simpa using hvt)
  generalize hr : spW (argF w m) m.arg m.args.length 0 t = r at hloop ⊢
  obtain ⟨u, e⟩ := r
  simp only [rfH]
  rw [ev_fn 61 Tryz.f61 _ _ _ rfl Tryz.func61 rfl Tryz.ntmps61 rfl]
  simp -implicitDefEqProofs (disch := decide +kernel) only [go_sem, ↓reduceIte, Nat.reduceSub, Nat.reduceAdd, Nat.reduceMul, Nat.reduceBEq, Nat.reduceLT, Nat.reduceLeDiff, Nat.reduceEqDiff, reduceCtorEq, Int.reduceToNat, Int.reduceLE, Int.reduceLT, Int.reduceBEq, Int.reduceBNe, mCall, cells_enc, cel3]
  rw [loop_at hloop ?hb ?hs]
  case hb => rfl
  case hs => rfl
  by_cases he : e = 0
  · subst he
    simp only [rsc_out, if_true]
    simp -implicitDefEqProofs (disch := decide +kernel) only [go_sem, ↓reduceIte, Nat.reduceSub, Nat.reduceAdd, Nat.reduceMul, Nat.reduceBEq, Nat.reduceLT, Nat.reduceLeDiff, Nat.reduceEqDiff, reduceCtorEq, Int.reduceToNat, Int.reduceLE, Int.reduceLT, Int.reduceBEq, Int.reduceBNe, mCall, rsc_X, rfH, cel3, zc3, cells_enc, (enc_eq u).symm]
  · have hz : u = zT := by
      have := spW_err (T := argF w m) (arg := m.arg) m.args.length 0 t (by rw [hr]; exact he)
      rw [hr] at this
      exact this
    subst hz
    simp only [rsc_out, if_neg he]
    simp -implicitDefEqProofs (disch := decide +kernel) only [go_sem, ↓reduceIte, Nat.reduceSub, Nat.reduceAdd, Nat.reduceMul, Nat.reduceBEq, Nat.reduceLT, Nat.reduceLeDiff, Nat.reduceEqDiff, reduceCtorEq, Int.reduceToNat, Int.reduceLE, Int.reduceLT, Int.reduceBEq, Int.reduceBNe, mCall, rsc_R, rfH, cel3, zc3, cells_enc, zT_enc]
def rmt_S (w : Wo) (m : Tm) (D : Md) (i : Nat) : St := mk 93 [(0, .href 0 0), (1, dL w.ctx), (5, .lref 5 0), (6, .lref 6 0), (8, .lref 8 0), (9, dI i)] [(5, cel3 m), (6, zc3), (8, cel5 D)] (rfH w) []
def rmt_X (w : Wo) (m : Tm) (D : Md) : St := mk 93 [(0, .href 0 0), (1, dL w.ctx), (5, .lref 5 0), (6, .lref 6 0), (8, .lref 8 0), (9, dI m.args.length), (44, dB false)] [(5, cel3 m), (6, zc3), (8, cel5 D)] (rfH w) []
def rmt_R (w : Wo) (e : Int) : St := mk 93 [(6, .lref 6 0), (7, dI e)] [(6, zc3)] (rfH w) []
theorem rmt_step {w : Wo} {m u : Tm} {D : Md} {i : Nat} {h' : List HO} (hi : i < D.ctx.length) (him : i < m.args.length) (hl : D.ctx.length < room) (hlm : m.args.length < room) (hlc : w.ctx.length < room)
    (hap : (lim C).call 75 [dT (D.ctx.getD i default), dS ⟨m.args.take i, w.ctx.length⟩] [] = some (.ret (.tup [dT u, dI 0]), h'))
    (hrec : (lim C).call 74 [.href 0 0, dL w.ctx, dT (m.arg i), dT u] (rfH w) = some (.ret (dI 0), rfH w)) :
    (lim C).code 99 (cf (.loop (cf (cf (cs (cf (cs (cs (cs (cs (bodyOf Tryz.f99))))))))))) (rmt_S w m D i) = some (.nor, rmt_S w m D (i + 1)) := by
  have hr : room = 1099511627776 := rfl
  have hsb : Dv.agg [.slc ((encs m.args).take i), .int .i64 w.ctx.length] = encS ⟨m.args.take i, w.ctx.length⟩ := by rw [← encs_take]; rfl
  have h00 : ((0 : Int) != 0) = false := rfl
  have hle : i ≤ m.args.length := by omega
  simp only [rfH] at hrec
  simp -implicitDefEqProofs (disch := decide +kernel) only [cf, cs, bodyOf, Tryz.f99, Option.getD_some, go_sem, ↓reduceIte, Nat.reduceSub, Nat.reduceAdd, Nat.reduceMul, Nat.reduceBEq, Nat.reduceLT, Nat.reduceLeDiff, Nat.reduceEqDiff, reduceCtorEq, Int.reduceToNat, Int.reduceLE, Int.reduceLT, Int.reduceBEq, Int.reduceBNe, mCall, rmt_S, rfH, cel3, cel5, zc3, cells_enc, lt_true him, getD_get hi, arg_get him, Nat.zero_le, hle, encs_all, hsb, hap, hrec, h00, (enc_eq (m.arg i)).symm, (enc_eq u).symm, (enc_eq (D.ctx.getD i default)).symm, wrap_succ (n := i) (by omega)]
theorem rmt_bad1 {w : Wo} {m u : Tm} {D : Md} {i : Nat} {e : Int} {h' : List HO} (hi : i < D.ctx.length) (him : i < m.args.length) (hl : D.ctx.length < room) (hlm : m.args.length < room) (hlc : w.ctx.length < room) (he : (e != 0) = true)
    (hap : (lim C).call 75 [dT (D.ctx.getD i default), dS ⟨m.args.take i, w.ctx.length⟩] [] = some (.ret (.tup [dT u, dI e]), h')) :
    (lim C).code 99 (cf (.loop (cf (cf (cs (cf (cs (cs (cs (cs (bodyOf Tryz.f99))))))))))) (rmt_S w m D i) = some (.ret, rmt_R w e) := by
  have hr : room = 1099511627776 := rfl
  have hz := zT_enc
  have hsb : Dv.agg [.slc ((encs m.args).take i), .int .i64 w.ctx.length] = encS ⟨m.args.take i, w.ctx.length⟩ := by rw [← encs_take]; rfl
  have hle : i ≤ m.args.length := by omega
  simp -implicitDefEqProofs (disch := decide +kernel) only [cf, cs, bodyOf, Tryz.f99, Option.getD_some, go_sem, ↓reduceIte, Nat.reduceSub, Nat.reduceAdd, Nat.reduceMul, Nat.reduceBEq, Nat.reduceLT, Nat.reduceLeDiff, Nat.reduceEqDiff, reduceCtorEq, Int.reduceToNat, Int.reduceLE, Int.reduceLT, Int.reduceBEq, Int.reduceBNe, mCall, rmt_S, rmt_R, rfH, cel3, cel5, zc3, cells_enc, lt_true him, getD_get hi, arg_get him, Nat.zero_le, hle, encs_all, hsb, hap, he, hz, (enc_eq u).symm, (enc_eq (D.ctx.getD i default)).symm]
theorem rmt_bad2 {w : Wo} {m u : Tm} {D : Md} {i : Nat} {e : Int} {h' : List HO} (hi : i < D.ctx.length) (him : i < m.args.length) (hl : D.ctx.length < room) (hlm : m.args.length < room) (hlc : w.ctx.length < room) (he : (e != 0) = true)
    (hap : (lim C).call 75 [dT (D.ctx.getD i default), dS ⟨m.args.take i, w.ctx.length⟩] [] = some (.ret (.tup [dT u, dI 0]), h'))
    (hrec : (lim C).call 74 [.href 0 0, dL w.ctx, dT (m.arg i), dT u] (rfH w) = some (.ret (dI e), rfH w)) :
    (lim C).code 99 (cf (.loop (cf (cf (cs (cf (cs (cs (cs (cs (bodyOf Tryz.f99))))))))))) (rmt_S w m D i) = some (.ret, rmt_R w e) := by
  have hr : room = 1099511627776 := rfl
  have hz := zT_enc
  have hsb : Dv.agg [.slc ((encs m.args).take i), .int .i64 w.ctx.length] = encS ⟨m.args.take i, w.ctx.length⟩ := by rw [← encs_take]; rfl
  have h00 : ((0 : Int) != 0) = false := rfl
  have hle : i ≤ m.args.length := by omega
  simp only [rfH] at hrec
  simp -implicitDefEqProofs (disch := decide +kernel) only [cf, cs, bodyOf, Tryz.f99, Option.getD_some, go_sem, ↓reduceIte, Nat.reduceSub, Nat.reduceAdd, Nat.reduceMul, Nat.reduceBEq, Nat.reduceLT, Nat.reduceLeDiff, Nat.reduceEqDiff, reduceCtorEq, Int.reduceToNat, Int.reduceLE, Int.reduceLT, Int.reduceBEq, Int.reduceBNe, mCall, rmt_S, rmt_R, rfH, cel3, cel5, zc3, cells_enc, lt_true him, getD_get hi, arg_get him, Nat.zero_le, hle, encs_all, hsb, hap, hrec, h00, he, hz, (enc_eq (m.arg i)).symm, (enc_eq u).symm, (enc_eq (D.ctx.getD i default)).symm]
theorem rmeta_app {w : Wo} {m : Tm} {K : Int} (hn : RNodeOk w m K) {x : Tm} (hx : mayB x = true ∧ vleB K x = true) (i : Nat) :
    (∃ h, (lim C).call 75 [dT x, dS ⟨m.args.take i, w.ctx.length⟩] [] = some (.ret (.tup [dT (applyR x ⟨m.args.take i, w.ctx.length⟩).1, dI (applyR x ⟨m.args.take i, w.ctx.length⟩).2]), h)) ∧
    mayB (applyR x ⟨m.args.take i, w.ctx.length⟩).1 = true ∧ vleB (K + 2000000) (applyR x ⟨m.args.take i, w.ctx.length⟩).1 = true := by
  have hr : room = 1099511627776 := rfl
  have ht := hn.top
  have hml : m.args.length < room := by have := len_size m; have := may_room hn.may; omega
  have hp := fun y (hy : y ∈ m.args.take i) => mem_args_may (mem_take' hy) hn.may hn.vle
  refine ⟨rapply_spec x _ (may_room hx.1) (fun y hy => may_room (hp y hy).1) (by simp; omega) (vle_mono (by omega) hx.2) (fun y hy => vle_mono (by omega) (hp y hy).2), applyR_may _ _, applyR_vle hn.h0 hx.2 fun y hy => (hp y hy).2⟩
def rmt_out (w : Wo) (m : Tm) (D : Md) (e : Int) : Ex × St := if e = 0 then (.exit 0, rmt_X w m D) else (.ret, rmt_R w e)
theorem rmt_err (w : Wo) (m : Tm) (D : Md) {e : Int} (h : e ≠ 0) : rmt_out w m D e = (.ret, rmt_R w e) := if_neg h
theorem rmt_loop {w : Wo} {m : Tm} {K : Int} (hn : RNodeOk w m K) {D : Md} (hD : D ∈ w.metas) (hDl : D.ctx.length = m.args.length) : ∀ (k i : Nat), i + k = m.args.length →
    (lim C).code 99 (.loop (cf (cf (cs (cf (cs (cs (cs (cs (bodyOf Tryz.f99)))))))))) (rmt_S w m D i) =
      some (rmt_out w m D (mtW (argF w m) D.ctx m.args w.ctx.length k i))
  | 0, i, hi => by
    obtain rfl : i = m.args.length := by omega
    simp only [mtW, rmt_out, if_true]
    refine loop_out' ?_ (by simp)
    simp -implicitDefEqProofs (disch := decide +kernel) only [cf, cs, bodyOf, Tryz.f99, Option.getD_some, go_sem, ↓reduceIte, Nat.reduceSub, Nat.reduceAdd, Nat.reduceMul, Nat.reduceBEq, Nat.reduceLT, Nat.reduceLeDiff, Nat.reduceEqDiff, reduceCtorEq, Int.reduceToNat, Int.reduceLE, Int.reduceLT, Int.reduceBEq, Int.reduceBNe, mCall, rmt_S, rmt_X, cel3, lt_false (Nat.le_refl m.args.length)]
  | k + 1, i, hi => by
    have hr : room = 1099511627776 := rfl
    have hlt : i < m.args.length := by omega
    have hltD : i < D.ctx.length := by omega
    have hml : m.args.length < room := by have := len_size m; have := may_room hn.may; omega
    have hcl := hn.wok.cl
    obtain ⟨_, dl, dc⟩ := hn.wok.metas D hD
    obtain ⟨⟨h', hap⟩, ha1, ha2⟩ := rmeta_app hn (dc _ (getD_mem hltD)) i
    simp only [mtW]
    generalize applyR (D.ctx.getD i default) ⟨m.args.take i, w.ctx.length⟩ = r at hap ha1 ha2 ⊢
    obtain ⟨u, e⟩ := r
    by_cases he : e = 0
    · subst he
      simp only [ne_eq, not_true_eq_false, if_false]
      have hrec := hn.tells i hlt u ha1 (vle_mono (by omega) ha2)
      by_cases he2 : argF w m i u = 0
      · have he' : argW w.wd m i u w.ctx = 0 := he2
        rw [he'] at hrec
        simp only [he2, not_true_eq_false, if_false]
        exact (loop_nor' (rmt_step hltD hlt dl hml (by omega) hap hrec)).trans (rmt_loop hn hD hDl k (i + 1) (by omega))
      · have he' : ¬ argW w.wd m i u w.ctx = 0 := he2
        simp only [he2, not_false_eq_true, if_true]
        rw [rmt_err w m D he2]
        exact loop_out' (rmt_bad2 hltD hlt dl hml (by omega) (by simpa using he') hap hrec) (by simp)
    · simp only [ne_eq, he, not_false_eq_true, if_true]
      rw [rmt_err w m D he]
      exact loop_out' (rmt_bad1 hltD hlt dl hml (by omega) (by simpa using he) hap) (by simp)
theorem rmeta_spec {w : Wo} {m : Tm} {K : Int} (hn : RNodeOk w m K) : (lim C).call 99 [.href 0 0, dL w.ctx, dT m] (rfH w) = some (.ret (.tup [dT (metaW w.wd w.ctx.length (argF w m) m).1, dI (metaW w.wd w.ctx.length (argF w m) m).2]), rfH w) := by
  have hr : room = 1099511627776 := rfl
  have hz := zT_enc
  have hh := node_head (node_here (may_parts hn.may).1)
  have hcl := hn.wok.cl
  have hml : m.args.length < room := by have := len_size m; have := may_room hn.may; omega
  unfold metaW
  have hwm : w.wd.metas = w.metas := rfl
  rw [hwm]
  simp only [rfH]
  rw [ev_fn 99 Tryz.f99 _ _ _ rfl Tryz.func99 rfl Tryz.ntmps99 rfl]
  cases h1 : decide (m.head ≥ (w.metas.length : Int))
  · rw [if_neg (by simpa using h1)]
    have hlt : m.head.toNat < w.metas.length := by simp at h1; omega
    have hg := mget_get hlt
    have hD := mget_mem hlt
    generalize w.metas.getD m.head.toNat default = D at hg hD ⊢
    obtain ⟨dt, dl, dc⟩ := hn.wok.metas D hD
    cases h2 : ((m.args.length : Int) != D.ctx.length)
    · have hDl : D.ctx.length = m.args.length := by simp at h2; omega
      rw [if_neg (by simpa using hDl)]
      have hloop := rmt_loop hn hD hDl m.args.length 0 (by omega)
      obtain ⟨⟨h', hap⟩, ha1, ha2⟩ := rmeta_app hn dt m.args.length
      rw [List.take_length] at hap
      by_cases h3 : mtW (argF w m) D.ctx m.args w.ctx.length m.args.length 0 = 0
      · rw [if_neg (by simpa using h3)]
        rw [rmt_out, if_pos h3] at hloop
        have hsb : Dv.agg [.slc (encs m.args), .int .i64 w.ctx.length] = encS ⟨m.args, w.ctx.length⟩ := rfl
        generalize applyR D.t ⟨m.args, w.ctx.length⟩ = r at hap ⊢
        simp -implicitDefEqProofs (disch := decide +kernel) only [go_sem, ↓reduceIte, Nat.reduceSub, Nat.reduceAdd, Nat.reduceMul, Nat.reduceBEq, Nat.reduceLT, Nat.reduceLeDiff, Nat.reduceEqDiff, reduceCtorEq, Int.reduceToNat, Int.reduceLE, Int.reduceLT, Int.reduceBEq, Int.reduceBNe, mCall, cells_enc, cel3, h1, hg, hh, h2, cells_encM, cel5]
        rw [loop_at hloop ?hb ?hs]
        case hb => rfl
        case hs => rfl
        simp -implicitDefEqProofs (disch := decide +kernel) only [go_sem, ↓reduceIte, Nat.reduceSub, Nat.reduceAdd, Nat.reduceMul, Nat.reduceBEq, Nat.reduceLT, Nat.reduceLeDiff, Nat.reduceEqDiff, reduceCtorEq, Int.reduceToNat, Int.reduceLE, Int.reduceLT, Int.reduceBEq, Int.reduceBNe, mCall, rmt_X, rfH, cel3, cel5, zc3, cells_enc, hsb, hap, (enc_eq D.t).symm, (enc_eq r.1).symm]
      · rw [if_pos (by simpa using h3)]
        rw [rmt_out, if_neg h3] at hloop
        simp -implicitDefEqProofs (disch := decide +kernel) only [go_sem, ↓reduceIte, Nat.reduceSub, Nat.reduceAdd, Nat.reduceMul, Nat.reduceBEq, Nat.reduceLT, Nat.reduceLeDiff, Nat.reduceEqDiff, reduceCtorEq, Int.reduceToNat, Int.reduceLE, Int.reduceLT, Int.reduceBEq, Int.reduceBNe, mCall, cells_enc, cel3, h1, hg, hh, h2, cells_encM, cel5]
        rw [loop_at hloop ?hb ?hs]
        case hb => rfl
        case hs => rfl
        simp -implicitDefEqProofs (disch := decide +kernel) only [go_sem, ↓reduceIte, Nat.reduceSub, Nat.reduceAdd, Nat.reduceMul, Nat.reduceBEq, Nat.reduceLT, Nat.reduceLeDiff, Nat.reduceEqDiff, reduceCtorEq, Int.reduceToNat, Int.reduceLE, Int.reduceLT, Int.reduceBEq, Int.reduceBNe, mCall, rmt_R, rfH, cel3, zc3, cells_enc, zT_enc]
    · have hDl : ¬ D.ctx.length = m.args.length := by simp at h2; omega
      rw [if_pos (by simpa using hDl)]
      simp -implicitDefEqProofs (disch := decide +kernel) only [go_sem, ↓reduceIte, Nat.reduceSub, Nat.reduceAdd, Nat.reduceMul, Nat.reduceBEq, Nat.reduceLT, Nat.reduceLeDiff, Nat.reduceEqDiff, reduceCtorEq, Int.reduceToNat, Int.reduceLE, Int.reduceLT, Int.reduceBEq, Int.reduceBNe, mCall, cells_enc, cel3, h1, hg, hh, h2, hz, cells_encM, cel5]
  · rw [if_pos (by simpa using h1)]
    simp -implicitDefEqProofs (disch := decide +kernel) only [go_sem, ↓reduceIte, Nat.reduceSub, Nat.reduceAdd, Nat.reduceMul, Nat.reduceBEq, Nat.reduceLT, Nat.reduceLeDiff, Nat.reduceEqDiff, reduceCtorEq, Int.reduceToNat, Int.reduceLE, Int.reduceLT, Int.reduceBEq, Int.reduceBNe, mCall, cells_enc, cel3, h1, hz]
end Go.Proofs.YtbcoacljjhbonaaGreat
