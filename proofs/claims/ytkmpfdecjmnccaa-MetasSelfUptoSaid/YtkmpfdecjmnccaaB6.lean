/- Metas as their own terms: in plain words. -/
import Derived.Test.YtkmpfdecjmnccaaB5
set_option linter.unusedVariables false
set_option linter.unusedSimpArgs false
set_option maxRecDepth 100000
namespace Go.Proofs.Ytkmpfdecjmnccaa
open Go.Proofs
def selfT (i n : Nat) : Tm := .mk 6 i (idL n n)
theorem idL_get {k i j : Nat} (h : j < i) : (idL k i).getD j default = .mk 4 ((k : Int) - 1 - j) [] := by
  simp [idL, List.getD, List.getElem?_map, List.getElem?_range h]
theorem idL_in {k i : Nat} {y : Tm} (h : y ∈ idL k i) : ∃ j, j < i ∧ y = .mk 4 ((k : Int) - 1 - j) [] := by
  unfold idL at h
  obtain ⟨j, hj, rfl⟩ := List.mem_map.1 h
  exact ⟨j, List.mem_range.1 hj, rfl⟩
theorem idL_may {k i : Nat} (hi : i ≤ k) {y : Tm} (h : y ∈ idL k i) : mayB y = true ∧ y.size = 1 ∧ y.depth = 1 := by
  obtain ⟨j, hj, rfl⟩ := idL_in h
  refine ⟨leaf_var (by omega), ?_, ?_⟩
  · rw [mk_size]; rfl
  · rw [mk_depth]; rfl
theorem ones_sum : ∀ l : List Tm, (∀ x ∈ l, x.size = 1) → (l.map Tm.size).sum = l.length
  | [], _ => rfl
  | x :: l, h => by
    simp only [List.map_cons, List.sum_cons, List.length_cons, h x (by simp), ones_sum l fun y hy => h y (by simp [hy])]
    omega
theorem ones_depth : ∀ l : List Tm, (∀ x ∈ l, x.depth = 1) → (l.map Tm.depth).foldr max 0 ≤ 1
  | [], _ => by simp
  | x :: l, h => by
    have := ones_depth l fun y hy => h y (by simp [hy])
    simp only [List.map_cons, List.foldr_cons, h x (by simp)]
    omega
theorem self_kind (i n : Nat) : (selfT i n).kind = 6 := rfl
theorem self_size (i n : Nat) : (selfT i n).size = 1 + n := by
  unfold selfT
  rw [mk_size, ones_sum _ fun x hx => (idL_may (Nat.le_refl n) hx).2.1, idL_len]
theorem self_may {i n : Nat} (hn : n ≤ 200) : mayB (selfT i n) = true := by
  refine small_may ?_ (fun x hx => (idL_may (Nat.le_refl n) hx).1) ?_ ?_
  · simp [nodeOk, Tm.kind, Tm.head, Tm.args]
  · have := self_size i n
    unfold selfT at this
    omega
  · rw [mk_depth]
    have := ones_depth (idL n n) fun x hx => (idL_may (Nat.le_refl n) hx).2.2
    omega
theorem self_ap {i : Nat} {L : List Tm} {sh : Int} (hm : mayB (.mk 6 i L) = true) (hl : L.length ≤ 200) (h0 : 0 ≤ sh) (h1 : sh ≤ 1048576) : applyR (selfT i L.length) ⟨L, sh⟩ = (.mk 6 i L, 0) := by
  have hL : ∀ x ∈ L, mayB x = true := fun x hx => may_sub (t := .mk 6 i L) hx hm
  have hlen : (selfT i L.length).args.length = L.length := idL_len _ _
  have hr : ((List.range L.length).map fun j => L.getD j default) = L := by
    refine List.ext_getElem (by simp) fun j h1 h2 => ?_
    simp [List.getD, List.getElem?_eq_getElem h2]
  have hs1 : ((List.range L.length).map fun _ => 1).sum = L.length := by
    rw [List.map_const', List.length_range, List.sum_replicate_nat, Nat.mul_one]
  have hap : ap (39999 + 1) (selfT i L.length) ⟨L, sh⟩ 0 = .ok (.mk 6 i L) (1 + L.length) := by
    rw [ap_succ, if_neg (by omega), hlen]
    rw [seqF_ok (F := fun j => L.getD j default) (c := fun _ => 1) L.length fun j hj m h2 h3 => ?_, R.bind_ok, hr, hs1]
    · rw [if_neg (by rw [self_kind]; decide)]
      rfl
    · rw [hs1] at h3
      have ha : (selfT i L.length).arg j = .mk 4 ((L.length : Int) - 1 - j) [] := by
        rw [← idL_get hj]; rfl
      have hb : below ⟨L, sh⟩ (selfT i L.length) j = ⟨L, sh⟩ := by
        unfold below
        rw [bnd_zero (by rw [self_kind]; decide) (by rw [self_kind]; decide), if_neg (by decide)]
      rw [ha, hb, ap_leaf 39998 4 _ _ m (by omega), if_pos rfl]
      congr 1
      unfold ofS
      show (if (L.length : Int) - 1 - j < L.length then L.getD (L.length - 1 - ((L.length : Int) - 1 - j).toNat) default else _) = _
      rw [if_pos (by omega)]
      congr 1; omega
  unfold applyR
  rw [self_may hl, smay_of hl h0 h1 hL, Bool.and_self, if_pos rfl, hap]
  simp only [outD, hm, if_true]
/-- Whether each meta of a term has as many Args as its context has entries. -/
inductive Fit (ms : List Md) : Tm → Prop
  | mk (t : Tm) (h6 : t.kind = 6 → t.head < ms.length ∧ (ms.getD t.head.toNat default).ctx.length = t.args.length) (ha : ∀ i, i < t.args.length → Fit ms (t.arg i)) : Fit ms t
theorem term_fit (w : Wd) : ∀ (m a : Tm) (ctx : List Tm), nodesB m = true → termW w m a ctx = 0 → Fit w.metas m := by
  refine Tm.ind fun m ih a ctx hn h => ?_
  by_cases hk : m.kind = 3
  · have hl := lam_len hn hk
    rw [term_lam hk] at h
    by_cases ha : a.kind = 1
    · rw [if_pos ha, argW_lt (by omega)] at h
      refine .mk m (fun e => by omega) fun i hi => ?_
      obtain rfl : i = 0 := by omega
      exact ih _ (arg_mem hi) _ _ (node_args hn 0 hi) h
    · rw [if_neg ha] at h; cases h
  · obtain ⟨_, e⟩ := term_ok hk h
    have e0 : (cmW w ctx (fun i x => argW w m i x ctx) m).2 = 0 := by rw [e]
    refine .mk m (fun e6 => ?_) fun i hi => ?_
    · rw [cm_meta e6] at e0
      obtain ⟨h1, h2, _⟩ := metaW_ok e0
      exact ⟨h1, h2⟩
    · obtain ⟨x, hx⟩ := cm_args e0 i hi
      rw [argW_lt hi] at hx
      exact ih _ (arg_mem hi) _ _ (node_args hn i hi) hx
theorem typ_fit (w : Wd) : ∀ (a : Tm) (ctx : List Tm), nodesB a = true → typW w a ctx = 0 → Fit w.metas a := by
  refine Tm.ind fun a ih ctx hn h => ?_
  by_cases h1 : a.kind = 1
  · have hl := pi_len hn h1
    rw [typW_pi w h1 (by omega)] at h
    by_cases e : typW w (a.arg 0) ctx ≠ 0
    · rw [if_pos e] at h; exact absurd h e
    rw [if_neg e] at h
    refine .mk a (fun e => by omega) fun i hi => ?_
    have hi2 : i = 0 ∨ i = 1 := by omega
    rcases hi2 with rfl | rfl
    · exact ih _ (arg_mem hi) _ (node_args hn 0 hi) (Classical.not_not.1 e)
    · exact ih _ (arg_mem hi) _ (node_args hn 1 hi) h
  · by_cases h2 : a.kind = 2
    · rw [typW_fam w h2] at h
      obtain ⟨_, e, _⟩ := famW_ok h
      refine .mk a (fun e => by omega) fun i hi => ?_
      obtain ⟨x, hx⟩ := spW_all _ 0 _ e i (Nat.zero_le i) (by omega)
      rw [argW_lt hi] at hx
      exact term_fit w _ _ _ (node_args hn i hi) hx
    · rw [typW_no w h1 h2] at h; cases h
/-- The metas as their own terms. -/
structure Selfs (ms : List Md) (th : List Tm) : Prop where
  len : th.length = ms.length
  small : ms.length ≤ 200
  get : ∀ i, i < ms.length → th.getD i default = selfT i (ms.getD i default).ctx.length
  few : ∀ i, i < ms.length → (ms.getD i default).ctx.length ≤ 200
theorem fill_self {ms : List Md} {th : List Tm} (hs : Selfs ms th) : ∀ (t : Tm) (n : Int), Fit ms t → mayB t = true → 0 ≤ n → n + t.depth ≤ 1048576 → fillT applyR maysB th t n = (t, 0) := by
  refine Tm.ind fun t ih n hf hm h0 h1 => ?_
  obtain ⟨_, h6, ha⟩ := hf
  have hF : ∀ i, i < t.args.length → fillF applyR maysB th t n i = (t.arg i, 0) := fun i hi => by
    have hd := depth_arg (arg_mem hi)
    have hb := bnd_le t i
    exact ih _ (arg_mem hi) _ (ha i hi) (may_sub (arg_mem hi) hm) (by omega) (by omega)
  have hz : firstE (fillF applyR maysB th t n) t.args.length = 0 := (firstE_zero _ _).2 fun i hi => by rw [hF i hi]
  have hargs : ((List.range t.args.length).map fun i => (fillF applyR maysB th t n i).1) = t.args := by
    rw [← args_range t]
    simp only [List.length_map, List.length_range]
    refine List.map_congr_left fun i hi => ?_
    have hi : i < t.args.length := by simpa using hi
    rw [hF i hi]
  rw [fillT_eq, if_pos hz, hargs]
  unfold fillN
  by_cases hk : t.kind = 6
  · obtain ⟨e1, e2⟩ := h6 hk
    have hh := node_head (node_here (may_parts hm).1)
    have hlt : t.head.toNat < ms.length := by omega
    have hll := hs.len
    rw [if_neg (by simpa using hk), if_neg (by omega), if_pos (maysB_iff.2 fun x hx => may_sub hx hm), hs.get _ hlt, e2]
    have hself : Tm.mk 6 (t.head.toNat : Int) t.args = t := by
      obtain ⟨k, h, l⟩ := t
      have hk : k = 6 := hk
      have hh : 0 ≤ h := hh
      subst hk
      show Tm.mk 6 (h.toNat : Int) l = _
      have e : (h.toNat : Int) = h := Int.toNat_of_nonneg hh
      rw [e]
    have hfew := hs.few _ hlt
    rw [e2] at hfew
    have := self_ap (i := t.head.toNat) (L := t.args) (sh := n) (by rw [hself]; exact hm) hfew h0 (by omega)
    rw [this, hself]
  · rw [if_pos hk, mk_self]
theorem take_idL {n j : Nat} (h : j ≤ n) : (idL n n).take j = idL n j := by
  unfold idL
  rw [← List.map_take, List.take_range, Nat.min_eq_left h]
theorem ofS_take {n j : Nat} (h : j ≤ n) {i : Int} (hi : 0 ≤ i) : ofS ⟨idL n j, n⟩ i = .mk 4 (i + ((n - j : Nat) : Int)) [] := by
  unfold ofS
  show (if i < ((idL n j).length : Int) then (idL n j).getD ((idL n j).length - 1 - i.toNat) default else .mk 4 (i - ((idL n j).length : Int) + (n : Int)) []) = _
  rw [idL_len]
  by_cases hl : i < (j : Int)
  · rw [if_pos hl, idL_get (by omega)]
    congr 1; omega
  · rw [if_neg hl]
    congr 1; omega
theorem apply_take {n j : Nat} (h : j ≤ n) (hn : n ≤ 200) {t : Tm} (ht : mayB t = true) : applyR t ⟨idL n j, n⟩ = (upT t ((n - j : Nat) : Int) 0, 0) := by
  have hu : mayB (upT t ((n - j : Nat) : Int) 0) = true := by rw [may_up (may_parts ht).1 (by omega)]; exact ht
  have hg := ren_all (s := ⟨idL n j, n⟩) (G := gUp ((n - j : Nat) : Int)) (P := fun _ _ => true) (by show (0 : Int) ≤ (n : Int); omega) (fun i hi _ => by rw [ofS_take h hi]; unfold gUp; rw [if_pos (by omega)]) (fun d => by unfold gUp; rw [if_neg (by omega)])
    (fun i d hi _ => ⟨rfl, by unfold gUp; split <;> split <;> omega⟩) (fun i d hi _ => by unfold gUp; split <;> omega)
  exact apply_ren 0 hg ht (smay_of (by rw [idL_len]; omega) (by omega) (by omega) fun y hy => (idL_may h hy).1) (canB_true t _) hu
theorem mtW_zero {T : Nat → Tm → Int} {D l : List Tm} {n : Int} : ∀ k i, (∀ j, i ≤ j → j < i + k → (applyR (D.getD j default) ⟨l.take j, n⟩).2 = 0 ∧ T j (applyR (D.getD j default) ⟨l.take j, n⟩).1 = 0) → mtW T D l n k i = 0
  | 0, i, h => rfl
  | k + 1, i, h => by
    obtain ⟨h1, h2⟩ := h i (Nat.le_refl i) (by omega)
    rw [mtW_go h1 h2]
    exact mtW_zero k (i + 1) fun j a b => h j (by omega) (by omega)
theorem up_kind (t : Tm) (b n : Int) : (upT t b n).kind = t.kind := by
  unfold upT
  rw [mapT_eq]
  rfl
theorem var_term {w : Wd} {h : Int} {x : Tm} {ctx : List Tm} (hv : varW ctx h = (x, 0)) (hx : x.kind = 2) : termW w (.mk 4 h []) x ctx = 0 := by
  refine term_go (show (4 : Int) ≠ 3 by decide) hx ?_
  rw [cm_var rfl]
  show spD _ _ (varW ctx h) = _
  rw [hv]
  rfl
theorem self_term {w : Wd} {i : Nat} {d : Md} (hi : i < w.metas.length) (hd : w.metas.getD i default = d) (hw : mayW w d.ctx [selfT i d.ctx.length, d.t] = true) (hn : d.ctx.length ≤ 200) (hk : d.t.kind = 2) (hc : ∀ x ∈ d.ctx, x.kind = 2 ∧ mayB x = true) : TermR w d.ctx (selfT i d.ctx.length) d.t = 0 := by
  have hmt : mayB d.t = true := mayW_of hw d.t (by simp)
  unfold TermR
  rw [hw, if_pos rfl]
  refine term_go (by rw [self_kind]; decide) hk ?_
  have hT : ((i : Int)).toNat = i := Int.toNat_natCast i
  have hmt0 : mtW (fun j x => argW w (selfT i d.ctx.length) j x d.ctx) d.ctx (idL d.ctx.length d.ctx.length) d.ctx.length d.ctx.length 0 = 0 := by
    refine mtW_zero _ 0 fun j _ hj => ?_
    have hj : j < d.ctx.length := by omega
    obtain ⟨x2, x1⟩ := hc _ (getD_mem (a := d.ctx) hj)
    rw [take_idL (by omega), apply_take (by omega) hn x1]
    refine ⟨rfl, ?_⟩
    show argW w (selfT i d.ctx.length) j _ d.ctx = 0
    rw [argW_lt (by show j < (idL _ _).length; rw [idL_len]; exact hj)]
    have ha : (selfT i d.ctx.length).arg j = .mk 4 ((d.ctx.length : Int) - 1 - j) [] := by
      rw [← idL_get hj]; rfl
    rw [ha]
    refine var_term ?_ (by rw [up_kind]; exact x2)
    rw [varW_lt (by omega)]
    have e1 : d.ctx.length - 1 - ((d.ctx.length : Int) - 1 - j).toNat = j := by omega
    have e2 : (d.ctx.length : Int) - 1 - j + 1 = ((d.ctx.length - j : Nat) : Int) := by omega
    rw [e1, e2]
  rw [cm_meta (self_kind _ _)]
  rw [metaW_go (by show (i : Int) < _; omega) (by show (w.metas.getD ((i : Int)).toNat default).ctx.length = (idL _ _).length; rw [hT, hd, idL_len]) (by
    show mtW _ (w.metas.getD ((i : Int)).toNat default).ctx (idL _ _) _ (idL _ _).length 0 = 0
    rw [hT, hd, idL_len]; exact hmt0)]
  show applyR (w.metas.getD ((i : Int)).toNat default).t ⟨idL _ _, _⟩ = _
  rw [hT, hd, apply_take (Nat.le_refl _) hn hmt, Nat.sub_self]
  congr 1
  exact up_zero _ _
theorem fillR_self {ms : List Md} {th : List Tm} (hs : Selfs ms th) {t : Tm} {n : Int} (hf : Fit ms t) (hm : mayB t = true) (h0 : 0 ≤ n) (h1 : n ≤ 1000) : FillR t th n = (t, 0) := by
  have hth : ∀ x ∈ th, mayB x = true := fun x hx => by
    obtain ⟨i, hi, rfl⟩ := List.mem_iff_getElem.1 hx
    have hi' : i < ms.length := by have := hs.len; omega
    have e : th.getD i default = th[i] := by simp [List.getD, List.getElem?_eq_getElem hi]
    rw [← e, hs.get i hi']
    exact self_may (hs.few i hi')
  have hl := hs.len
  have hsm := hs.small
  have hd := (may_parts hm).2.2
  unfold FillR fillW
  rw [if_pos (fillOk_of hm h0 h1 (by omega) hth), fillM, fill_self hs t n hf hm h0 (by omega)]
  simp [hm]
end Go.Proofs.Ytkmpfdecjmnccaa
/- Metas as their own terms are in order. -/
set_option linter.unusedVariables false
set_option linter.unusedSimpArgs false
set_option maxRecDepth 100000
namespace Go.Proofs.Ytkmpfdecjmnccaa
open Go.Proofs
theorem Selfs.take {ms : List Md} {th : List Tm} (h : Selfs ms th) {k : Nat} (hk : k ≤ ms.length) : Selfs (ms.take k) (th.take k) := by
  have hl := h.len
  have hlen : (ms.take k).length = k := by simp; omega
  refine ⟨by simp [hl], by have := h.small; omega, fun i hi => ?_, fun i hi => ?_⟩
  · rw [take_getD' (by omega), take_getD' (by omega)]
    exact h.get i (by omega)
  · rw [take_getD' (by omega)]
    exact h.few i (by omega)
theorem ctx_self {ms : List Md} {th cx : List Tm} (hs : Selfs ms th) (hl : cx.length ≤ 200) (h : ∀ i, i < cx.length → Fit ms (cx.getD i default) ∧ mayB (cx.getD i default) = true) : CtxR cx th 0 = (cx, 0) := by
  unfold CtxR
  have hF : ∀ i, i < cx.length → FillR (cx.getD i default) th (0 + (i : Int)) = (cx.getD i default, 0) := fun i hi => fillR_self hs (h i hi).1 (h i hi).2 (by omega) (by omega)
  rw [eachR_all fun i hi => by rw [hF i hi]]
  congr 1
  refine List.ext_getElem (by simp [outs]) fun i h1 h2 => ?_
  simp only [outs, List.getElem_map, List.getElem_range]
  rw [hF i h2]
  simp [List.getD, List.getElem?_eq_getElem h2]
/-- What is told of a meta that is in order. -/
theorem decl_parts {sg : List Dc} {ms : List Md} {i : Nat} (h : declsW sg ms i = 0) :
    (∀ j, j < (ms.getD i default).ctx.length → TypR (Wo.wd ⟨sg, ms.take i, []⟩) ((ms.getD i default).ctx.take j) ((ms.getD i default).ctx.getD j default) = 0) ∧
    (ms.getD i default).t.kind = 2 ∧ TypR (Wo.wd ⟨sg, ms.take i, []⟩) (ms.getD i default).ctx (ms.getD i default).t = 0 ∧ (ms.getD i default).ctx.length ≤ 40 := by
  unfold declsW declMW at h
  by_cases e1 : CtxWR (Wo.wd ⟨sg, ms.take i, []⟩) [] (ms.getD i default).ctx = 0
  · rw [if_neg (by simpa using e1)] at h
    by_cases e2 : ((ms.getD i default).t.kind != 2 || (ms.getD i default).param && decide (((ms.getD i default).ctx.length : Int) > 0)) = true
    · rw [if_pos e2] at h; cases h
    rw [if_neg e2] at h
    obtain ⟨a1, a2⟩ := first_ok' e1
    refine ⟨fun j hj => a2 j hj, ?_, h, a1⟩
    simp only [Bool.or_eq_true, not_or] at e2
    simpa using e2.1
  · rw [if_pos e1] at h; exact absurd h e1
theorem mayW_parts {w : Wd} {c l : List Tm} (h : mayW w c l = true) : c.length ≤ 1000 ∧ (∀ x ∈ l, mayB x = true) ∧ (∀ x ∈ c, mayB x = true) ∧ maysB w.sig = true := by
  unfold mayW at h
  simp only [Bool.and_eq_true, Bool.not_eq_true', decide_eq_false_iff_not] at h
  exact ⟨by omega, maysB_iff.1 h.1.1.1.2, maysB_iff.1 h.1.1.2, h.1.2⟩
theorem self_sub {sg : List Dc} {ms : List Md} {th : List Tm} (hD : (DeclsR sg ms).2 = 0) (hs : Selfs ms th) (hcs : ∀ i, i < ms.length → ∀ x ∈ (ms.getD i default).ctx, x.kind = 2) : SubR ⟨sg, ms, []⟩ ms th = 0 := by
  obtain ⟨h1, h2⟩ := first_ok' hD
  have hall : ∀ i, i < ms.length → mayB (ms.getD i default).t = true ∧ (∀ x ∈ (ms.getD i default).ctx, mayB x = true) ∧ maysB (sg.map Dc.t) = true ∧ (ms.getD i default).ctx.length ≤ 1000 := fun i hi => by
    obtain ⟨p1, p2, p3, p4⟩ := decl_parts (h2 i hi)
    obtain ⟨m1, m2, m3, m4⟩ := mayW_parts (TypR_ok p3).1
    exact ⟨m2 _ (by simp), m3, m4, m1⟩
  refine sub_all h1 hs.len fun i hi => ?_
  obtain ⟨p1, p2, p3, p4⟩ := decl_parts (h2 i hi)
  obtain ⟨q1, q2, q3, q4⟩ := hall i hi
  have hst := hs.take (k := i) (by omega)
  have hcx : subCx ms th i = ((ms.getD i default).ctx, 0) := by
    refine ctx_self hst (by omega) fun j hj => ⟨?_, q2 _ (getD_mem hj)⟩
    have hm := q2 _ (getD_mem (a := (ms.getD i default).ctx) hj)
    exact typ_fit (Wo.wd ⟨sg, ms.take i, []⟩) _ _ (may_parts hm).1 (TypR_ok (p1 j hj)).2
  have hty : subTy ms th i = ((ms.getD i default).t, 0) :=
    fillR_self hst (typ_fit (Wo.wd ⟨sg, ms.take i, []⟩) _ _ (may_parts q1).1 (TypR_ok p3).2) q1 (by omega) (by omega)
  have hte : TermR (Wo.wd ⟨sg, ms, []⟩) (ms.getD i default).ctx (selfT i (ms.getD i default).ctx.length) (ms.getD i default).t = 0 := by
    refine self_term (w := Wo.wd ⟨sg, ms, []⟩) hi rfl ?_ (by omega) p2 fun x hx => ⟨hcs i hi x hx, q2 x hx⟩
    unfold mayW
    simp only [Bool.and_eq_true, Bool.not_eq_true', decide_eq_false_iff_not]
    refine ⟨⟨⟨⟨by omega, maysB_iff.2 fun x hx => ?_⟩, maysB_iff.2 q2⟩, q3⟩, (allB_iff _ _).2 fun j hj => ?_⟩
    · simp only [List.mem_cons, List.not_mem_nil, or_false] at hx
      rcases hx with rfl | rfl
      · exact self_may (by omega)
      · exact q1
    · obtain ⟨r1, r2, _⟩ := hall j hj
      show mdMay (ms.getD j default) = true
      unfold mdMay
      rw [r1, maysB_iff.2 r2]; rfl
  unfold subW
  rw [hcx, hty, hs.get i hi]
  rw [if_neg (by simp), if_neg (by simp)]
  show (if TermR (Wo.wd ⟨sg, ms, []⟩) ([] ++ (ms.getD i default).ctx) _ _ ≠ 0 then _ else _) = _
  rw [List.nil_append, if_neg (by rw [hte]; simp)]
  cases hpar : (ms.getD i default).param
  · rw [if_neg (by simp)]
  · have hv : varB (selfT i (ms.getD i default).ctx.length) ms = true := by
      unfold varB
      rw [if_pos (self_kind _ _)]
      show (decide ((i : Int) < (ms.length : Int)) && (ms.getD ((i : Int)).toNat default).param) = true
      rw [Int.toNat_natCast, hpar]
      simpa using hi
    rw [show (⟨sg, ms, []⟩ : Wo).metas = ms from rfl, hv, if_neg (by simp)]
end Go.Proofs.Ytkmpfdecjmnccaa
/- The laws of layer 12: MetasSelf. -/
set_option linter.unusedSimpArgs false
set_option linter.unusedVariables false
set_option maxRecDepth 100000
namespace Go.Proofs.Ytkmpfdecjmnccaa
open Go.Proofs
def selvesL (ms : List Md) : List Tm := (List.range ms.length).map fun i => selfT i (ms.getD i default).ctx.length
theorem app_one3 (xs : List Dv) (y : Dv) (locs : List (Option (List AV))) (heap : List HO) (hr : xs.length + 1 ≤ room) (hx : (xs.all fun x => x.width == 3) = true) (hw : (y.width == 3) = true) :
    mApp (acc 0 xs) [y] 3 { locs := locs, heap := heap, toks := tkA [] xs.length } = some (.v (acc 0 (xs ++ [y])), { locs := locs, heap := heap, toks := tkA [] (xs.length + 1) }) := by
  rw [acc_snoc']
  cases xs with
  | nil =>
    simp only [acc, tkA]
    simp [mApp, appOwn, hw, room]
  | cons x xs =>
    have h1 : tkA [] (x :: xs).length = [some (x :: xs).length] := by simp [tkA]
    have h2 : tkA [] ((x :: xs).length + 1) = [some ((x :: xs).length + 1)] := by simp [tkA]
    rw [h1, h2]
    show mApp (.own 0 (x :: xs)) [y] 3 _ = _
    simp only [mApp, appOwn]
    simp only [hx, hw, List.length_cons, List.length_nil, List.all_cons, List.all_nil, Bool.and_true]
    simp only [List.length_cons] at hr
    simp [hr]
theorem selves_get {ms : List Md} {i : Nat} (h : i < ms.length) : (selvesL ms).getD i default = selfT i (ms.getD i default).ctx.length := by
  simp [selvesL, List.getD, List.getElem?_map, List.getElem?_range h]
theorem selves_len (ms : List Md) : (selvesL ms).length = ms.length := by simp [selvesL]
theorem selves_snoc {ms : List Md} {i : Nat} (h : i < ms.length) : encs ((selvesL ms).take i) ++ [enc (selfT i (ms.getD i default).ctx.length)] = encs ((selvesL ms).take (i + 1)) := by
  rw [List.take_add_one, getD_get (by rw [selves_len]; exact h), selves_get h, encs_append]; rfl
theorem idS_eq {n : Nat} (h : n ≤ 200) : idS (n : Int) = ⟨idL n n, n⟩ := by
  have : idN (n : Int) = n := by unfold idN; rw [if_neg (by omega), if_neg (by omega)]; omega
  unfold idS
  rw [this]
def sv_S (ms : List Md) (i : Nat) : St := mk 25 [(0, dMs ms), (3, acc 0 (encs ((selvesL ms).take i))), (4, dI i)] [] [] (tkA [] i)
theorem selves_spec (ms : List Md) (hl : ms.length < room) (hf : ∀ i, i < ms.length → (ms.getD i default).ctx.length ≤ 200) : (lim C).call 20 [dMs ms] [] = some (.ret (dL (selvesL ms)), []) := by
  have hr : room = 1099511627776 := rfl
  have hloop : (lim C).code 20 (.loop (cf (cf (cs (cf (cs (cs (bodyOf Try.f20)))))))) (sv_S ms 0) = some (.exit 0, mk 25 [(0, dMs ms), (3, acc 0 (encs (selvesL ms))), (4, dI ms.length), (8, dB false)] [] [] (tkA [] ms.length)) := by
    refine loop_run (sv_S ms) ms.length (fun i hi => ?_) ?_ (by simp)
    · have hlen : (encs ((selvesL ms).take i)).length = i := by rw [encs_length, List.length_take, selves_len]; omega
      have ha := fun locs heap => app_one3 (encs ((selvesL ms).take i)) (enc (selfT i (ms.getD i default).ctx.length)) locs heap (by rw [hlen]; omega) (encs_all _) (by rw [enc_width]; rfl)
      rw [selves_snoc hi, hlen] at ha
      have hc := same_spec ((ms.getD i default).ctx.length : Int)
      rw [idS_eq (hf i hi)] at hc
      have he : Dv.agg [.int .i64 6, .int .i64 i, .slc (encs (idL (ms.getD i default).ctx.length (ms.getD i default).ctx.length))] = enc (selfT i (ms.getD i default).ctx.length) := (enc_mk 6 i _).symm
      simp -implicitDefEqProofs (disch := decide +kernel) only [cf, cs, bodyOf, Try.f20, Option.getD_some, go_sem, ↓reduceIte, Nat.reduceSub, Nat.reduceAdd, Nat.reduceMul, Nat.reduceBEq, Nat.reduceLT, Nat.reduceLeDiff, Nat.reduceEqDiff, reduceCtorEq, Int.reduceToNat, Int.reduceLE, Int.reduceLT, Int.reduceBEq, Int.reduceBNe, mCall, sv_S, lt_true hi, mget_get hi, cells_encM, hc, he, fieldS_L, acc_sl, acc_okA, acc_pure', ha, wrap_succ (n := i) (by omega)]
    · have ht : (selvesL ms).take ms.length = selvesL ms := by rw [List.take_of_length_le]; rw [selves_len]; exact Nat.le_refl _
      simp -implicitDefEqProofs (disch := decide +kernel) only [cf, cs, bodyOf, Try.f20, Option.getD_some, go_sem, ↓reduceIte, Nat.reduceSub, Nat.reduceAdd, Nat.reduceMul, Nat.reduceBEq, Nat.reduceLT, Nat.reduceLeDiff, Nat.reduceEqDiff, reduceCtorEq, Int.reduceToNat, Int.reduceLE, Int.reduceLT, Int.reduceBEq, Int.reduceBNe, mCall, sv_S, lt_false (Nat.le_refl ms.length), ht]
  rw [ev_fn 20 Try.f20 _ _ _ rfl Try.func20 rfl Try.ntmps20 rfl]
  simp -implicitDefEqProofs (disch := decide +kernel) only [go_sem, ↓reduceIte, Nat.reduceSub, Nat.reduceAdd, Nat.reduceMul, Nat.reduceBEq, Nat.reduceLT, Nat.reduceLeDiff, Nat.reduceEqDiff, reduceCtorEq, Int.reduceToNat, Int.reduceLE, Int.reduceLT, Int.reduceBEq, Int.reduceBNe, mCall]
  rw [loop_at hloop ?hb ?hs]
  case hb => rfl
  case hs => rfl
  simp -implicitDefEqProofs (disch := decide +kernel) only [go_sem, ↓reduceIte, Nat.reduceSub, Nat.reduceAdd, Nat.reduceMul, Nat.reduceBEq, Nat.reduceLT, Nat.reduceLeDiff, Nat.reduceEqDiff, reduceCtorEq, Int.reduceToNat, Int.reduceLE, Int.reduceLT, Int.reduceBEq, Int.reduceBNe, mCall, acc_erase, acc_okA]
def famsB (ms : List Md) (i : Nat) : Bool := allB (ms.getD i default).ctx.length fun k => ((ms.getD i default).ctx.getD k default).kind == 2
def se_O (sg : List Dc) (ms : List Md) (i : Nat) : St := mk 74 [(0, dDs sg), (1, dMs ms), (11, dI i)] [] [] []
def se_I (sg : List Dc) (ms : List Md) (i k : Nat) : St := mk 74 [(0, dDs sg), (1, dMs ms), (11, dI i), (12, dI k)] [] [] []
def se_R : St := mk 74 [(4, dB true)] [] [] []
theorem self_in {sg : List Dc} {ms : List Md} {i : Nat} (hi : i < ms.length) (hl : (ms.getD i default).ctx.length < room) :
    (lim C).code 4 (.loop (cf (cf (cs (cf (cf (cs (cf (cf (cs (cf (cs (cs (cs (cs (cs (cs (cs (bodyOf Try.f4))))))))))))))))))) (se_I sg ms i 0) = some (if famsB ms i then (.exit 2, mk 74 [(0, dDs sg), (1, dMs ms), (11, dI i), (12, dI (ms.getD i default).ctx.length), (54, dB false)] [] [] []) else (.ret, se_R)) := by
  have hr : room = 1099511627776 := rfl
  refine loop_all (se_I sg ms i) (ms.getD i default).ctx.length _ (fun k hk hp => ?_) (fun k hk hp => ?_) ?_ (by simp) (by simp)
  · have hk2 : (((ms.getD i default).ctx.getD k default).kind != 2) = false := by simpa using hp
    simp -implicitDefEqProofs (disch := decide +kernel) only [cf, cs, bodyOf, Try.f4, Option.getD_some, go_sem, ↓reduceIte, Nat.reduceSub, Nat.reduceAdd, Nat.reduceMul, Nat.reduceBEq, Nat.reduceLT, Nat.reduceLeDiff, Nat.reduceEqDiff, reduceCtorEq, Int.reduceToNat, Int.reduceLE, Int.reduceLT, Int.reduceBEq, Int.reduceBNe, mCall, se_I, lt_true hk, mget_get hi, getD_get hk, cells_encM, cells_enc, cel3, hk2, wrap_succ (n := k) (by omega)]
  · have hk2 : (((ms.getD i default).ctx.getD k default).kind != 2) = true := by simpa using hp
    simp -implicitDefEqProofs (disch := decide +kernel) only [cf, cs, bodyOf, Try.f4, Option.getD_some, go_sem, ↓reduceIte, Nat.reduceSub, Nat.reduceAdd, Nat.reduceMul, Nat.reduceBEq, Nat.reduceLT, Nat.reduceLeDiff, Nat.reduceEqDiff, reduceCtorEq, Int.reduceToNat, Int.reduceLE, Int.reduceLT, Int.reduceBEq, Int.reduceBNe, mCall, se_I, se_R, lt_true hk, mget_get hi, getD_get hk, cells_encM, cells_enc, cel3, hk2]
  · simp -implicitDefEqProofs (disch := decide +kernel) only [cf, cs, bodyOf, Try.f4, Option.getD_some, go_sem, ↓reduceIte, Nat.reduceSub, Nat.reduceAdd, Nat.reduceMul, Nat.reduceBEq, Nat.reduceLT, Nat.reduceLeDiff, Nat.reduceEqDiff, reduceCtorEq, Int.reduceToNat, Int.reduceLE, Int.reduceLT, Int.reduceBEq, Int.reduceBNe, mCall, se_I, mget_get hi, cells_encM, lt_false (Nat.le_refl (ms.getD i default).ctx.length)]
set_option maxHeartbeats 4000000 in
theorem metasSelf_holds (sg : List Dc) (wsg : ∀ t ∈ sg, Wf t.t) (hsg : dsum sg + 1 ≤ 1048576) (ms : List Md) (wms : ∀ t ∈ ms, WfM t) (hms : msum ms + 1 ≤ 1048576) :
    ∃ h, (lim C).call 4 [dDs sg, dMs ms] [] = some (.ret (dB true), h) := by
  have hr : room = 1099511627776 := rfl
  have htv : topV = 1125899906842624 := rfl
  have hw := wsz_of (cx := []) hsg hms (by simp)
  have hA := awake12_spec
  have hF := fewW_spec ⟨sg, ms, []⟩ hw
  have hF : (lim C).call 8 [dDs sg, dMs ms, .d (.slc [])] [] = retB (fewW ⟨sg, ms, []⟩) := hF
  refine ⟨[], ?_⟩
  rw [ev_fn 4 Try.f4 _ _ _ rfl Try.func4 rfl Try.ntmps4 rfl]
  simp -implicitDefEqProofs (disch := decide +kernel) only [go_sem, ↓reduceIte, Nat.reduceSub, Nat.reduceAdd, Nat.reduceMul, Nat.reduceBEq, Nat.reduceLT, Nat.reduceLeDiff, Nat.reduceEqDiff, reduceCtorEq, Int.reduceToNat, Int.reduceLE, Int.reduceLT, Int.reduceBEq, Int.reduceBNe, mCall, hA, hF]
  cases k1 : fewW ⟨sg, ms, []⟩
  · simp -implicitDefEqProofs (disch := decide +kernel) only [go_sem, ↓reduceIte, Nat.reduceSub, Nat.reduceAdd, Nat.reduceMul, Nat.reduceBEq, Nat.reduceLT, Nat.reduceLeDiff, Nat.reduceEqDiff, reduceCtorEq, Int.reduceToNat, Int.reduceLE, Int.reduceLT, Int.reduceBEq, Int.reduceBNe, mCall, hA, hF, k1]
  · skip
    simp -implicitDefEqProofs (disch := decide +kernel) only [go_sem, ↓reduceIte, Nat.reduceSub, Nat.reduceAdd, Nat.reduceMul, Nat.reduceBEq, Nat.reduceLT, Nat.reduceLeDiff, Nat.reduceEqDiff, reduceCtorEq, Int.reduceToNat, Int.reduceLE, Int.reduceLT, Int.reduceBEq, Int.reduceBNe, mCall, hA, hF, k1]
    have hin := few_in hw k1
    have hd := few_dl hw k1
    have hin0 : WIn lowK ⟨sg, [], []⟩ := hin.takeM 0
    have hml : ms.length < room := hw.ml
    obtain ⟨_, ⟨f1, f2⟩, _⟩ := fewW_parts k1
    have f1 : ms.length ≤ 30 := f1
    have hfew : ∀ i, i < ms.length → (ms.getD i default).ctx.length ≤ 60 := fun i hi => by
      have := f2 _ (mget_mem hi)
      simp only [mdLight, Bool.and_eq_true] at this
      exact (lights_parts this.1).1
    obtain ⟨h1, c1⟩ := wSig_spec sg hin0.sz
    obtain ⟨h2, c2⟩ := mDecls_spec hin
    have h01 : ((0 : Int) != 0) = false := rfl
    have h00 : ((0 : Int) == 0) = true := rfl
    have hS : Selfs ms (selvesL ms) := ⟨selves_len ms, by omega, fun i hi => selves_get hi, fun i hi => by have := hfew i hi; omega⟩
    have c3 := selves_spec ms hml fun i hi => by have := hfew i hi; omega
    have hth : ThOk lowK (selvesL ms) := by
      refine ⟨by decide, by rw [htv]; decide, by rw [selves_len]; exact hml, fun x hx => ?_⟩
      obtain ⟨i, hi, rfl⟩ := List.mem_iff_getElem.1 hx
      have hi' : i < ms.length := by rw [selves_len] at hi; exact hi
      have e : (selvesL ms).getD i default = (selvesL ms)[i] := by simp [List.getD, List.getElem?_eq_getElem hi]
      rw [← e, selves_get hi']
      have h60 := hfew i hi'
      refine ⟨by rw [self_size]; omega, vle_mk (fun e => by cases e) fun y hy => ?_⟩
      obtain ⟨j, hj, rfl⟩ := idL_in hy
      exact vle_var (by show ((ms.getD i default).ctx.length : Int) - 1 - j ≤ 1099511627776; omega)
    obtain ⟨h4, c4⟩ := mSub_spec hin (by rw [htv]; decide) hth hd (by show 0 + 1048576 < room; decide)
    have c4 : (lim C).call 17 [dDs sg, dMs ms, .d (.slc []), dMs ms, dL (selvesL ms)] [] = some (.ret (dI (SubR ⟨sg, ms, []⟩ ms (selvesL ms))), h4) := c4
    have key : (DeclsR sg ms).2 = 0 → (∀ i, i < ms.length → famsB ms i = true) → SubR ⟨sg, ms, []⟩ ms (selvesL ms) = 0 := fun e hall => self_sub e hS fun i hi x hx => by
      obtain ⟨k, hk, rfl⟩ := List.mem_iff_getElem.1 hx
      have h5 : (((ms.getD i default).ctx.getD k default).kind == 2) = true := (allB_iff _ _).1 (hall i hi) k hk
      have h6 : (ms.getD i default).ctx.getD k default = (ms.getD i default).ctx[k] := by
        rw [List.getD_eq_getElem?_getD, List.getElem?_eq_getElem hk]; rfl
      rw [h6] at h5
      exact eq_of_beq h5
    generalize SigR sg = r at *
    generalize DeclsR sg ms = q at *
    by_cases e1 : r.2 = 0
    · rw [e1] at c1
      by_cases e2 : q.2 = 0
      · rw [e2] at c2
        have hloop : (lim C).code 4 (.loop (cf (cf (cs (cf (cs (cs (cs (cs (cs (cs (cs (bodyOf Try.f4))))))))))))) (se_O sg ms 0) = some (if allB ms.length (famsB ms) then (.exit 0, mk 74 [(0, dDs sg), (1, dMs ms), (11, dI ms.length), (44, dB false)] [] [] []) else (.ret, se_R)) := by
          refine loop_all (se_O sg ms) ms.length _ (fun i hi hp => ?_) (fun i hi hp => ?_) ?_ (by simp) (by simp)
          · have hl := self_in (sg := sg) hi (by have := hfew i hi; omega)
            rw [hp] at hl
            simp -implicitDefEqProofs (disch := decide +kernel) only [cf, cs, bodyOf, Try.f4, Option.getD_some, go_sem, ↓reduceIte, Nat.reduceSub, Nat.reduceAdd, Nat.reduceMul, Nat.reduceBEq, Nat.reduceLT, Nat.reduceLeDiff, Nat.reduceEqDiff, reduceCtorEq, Int.reduceToNat, Int.reduceLE, Int.reduceLT, Int.reduceBEq, Int.reduceBNe, mCall, se_O, lt_true hi]
            rw [loop_at hl ?hb ?hs]
            case hb => rfl
            case hs => rfl
            simp -implicitDefEqProofs (disch := decide +kernel) only [go_sem, ↓reduceIte, Nat.reduceSub, Nat.reduceAdd, Nat.reduceMul, Nat.reduceBEq, Nat.reduceLT, Nat.reduceLeDiff, Nat.reduceEqDiff, reduceCtorEq, Int.reduceToNat, Int.reduceLE, Int.reduceLT, Int.reduceBEq, Int.reduceBNe, mCall, se_O, wrap_succ (n := i) (by omega)]
          · have hl := self_in (sg := sg) hi (by have := hfew i hi; omega)
            rw [hp] at hl
            simp -implicitDefEqProofs (disch := decide +kernel) only [cf, cs, bodyOf, Try.f4, Option.getD_some, go_sem, ↓reduceIte, Nat.reduceSub, Nat.reduceAdd, Nat.reduceMul, Nat.reduceBEq, Nat.reduceLT, Nat.reduceLeDiff, Nat.reduceEqDiff, reduceCtorEq, Int.reduceToNat, Int.reduceLE, Int.reduceLT, Int.reduceBEq, Int.reduceBNe, mCall, se_O, lt_true hi]
            rw [loop_at hl ?hb ?hs]
            case hb => rfl
            case hs => rfl
            simp -implicitDefEqProofs (disch := decide +kernel) only [go_sem, ↓reduceIte, Nat.reduceSub, Nat.reduceAdd, Nat.reduceMul, Nat.reduceBEq, Nat.reduceLT, Nat.reduceLeDiff, Nat.reduceEqDiff, reduceCtorEq, Int.reduceToNat, Int.reduceLE, Int.reduceLT, Int.reduceBEq, Int.reduceBNe, mCall, se_O, se_R]
          · simp -implicitDefEqProofs (disch := decide +kernel) only [cf, cs, bodyOf, Try.f4, Option.getD_some, go_sem, ↓reduceIte, Nat.reduceSub, Nat.reduceAdd, Nat.reduceMul, Nat.reduceBEq, Nat.reduceLT, Nat.reduceLeDiff, Nat.reduceEqDiff, reduceCtorEq, Int.reduceToNat, Int.reduceLE, Int.reduceLT, Int.reduceBEq, Int.reduceBNe, mCall, se_O, lt_false (Nat.le_refl ms.length)]
        simp -implicitDefEqProofs (disch := decide +kernel) only [go_sem, ↓reduceIte, Nat.reduceSub, Nat.reduceAdd, Nat.reduceMul, Nat.reduceBEq, Nat.reduceLT, Nat.reduceLeDiff, Nat.reduceEqDiff, reduceCtorEq, Int.reduceToNat, Int.reduceLE, Int.reduceLT, Int.reduceBEq, Int.reduceBNe, mCall, c1, c2, h01]
        rw [loop_at hloop ?hb ?hs]
        case hb => rfl
        case hs => rfl
        cases hall : allB ms.length (famsB ms)
        · simp -implicitDefEqProofs (disch := decide +kernel) only [go_sem, ↓reduceIte, Nat.reduceSub, Nat.reduceAdd, Nat.reduceMul, Nat.reduceBEq, Nat.reduceLT, Nat.reduceLeDiff, Nat.reduceEqDiff, reduceCtorEq, Int.reduceToNat, Int.reduceLE, Int.reduceLT, Int.reduceBEq, Int.reduceBNe, mCall, se_R]
        · have e3 := key e2 ((allB_iff _ _).1 hall)
          rw [e3] at c4
          simp -implicitDefEqProofs (disch := decide +kernel) only [go_sem, ↓reduceIte, Nat.reduceSub, Nat.reduceAdd, Nat.reduceMul, Nat.reduceBEq, Nat.reduceLT, Nat.reduceLeDiff, Nat.reduceEqDiff, reduceCtorEq, Int.reduceToNat, Int.reduceLE, Int.reduceLT, Int.reduceBEq, Int.reduceBNe, mCall, c3, c4, h00]
      · have e2' : (q.2 != 0) = true := by simpa using e2
        simp -implicitDefEqProofs (disch := decide +kernel) only [go_sem, ↓reduceIte, Nat.reduceSub, Nat.reduceAdd, Nat.reduceMul, Nat.reduceBEq, Nat.reduceLT, Nat.reduceLeDiff, Nat.reduceEqDiff, reduceCtorEq, Int.reduceToNat, Int.reduceLE, Int.reduceLT, Int.reduceBEq, Int.reduceBNe, mCall, c1, c2, h01, e2']
    · have e1' : (r.2 != 0) = true := by simpa using e1
      simp -implicitDefEqProofs (disch := decide +kernel) only [go_sem, ↓reduceIte, Nat.reduceSub, Nat.reduceAdd, Nat.reduceMul, Nat.reduceBEq, Nat.reduceLT, Nat.reduceLeDiff, Nat.reduceEqDiff, reduceCtorEq, Int.reduceToNat, Int.reduceLE, Int.reduceLT, Int.reduceBEq, Int.reduceBNe, mCall, c1, c2, e1']
end Go.Proofs.Ytkmpfdecjmnccaa
