/- Terms as functions that are applied: substitution goes on as these do. -/
import Derived.Test.YtojahppjdimdbaaP7
set_option linter.unusedVariables false
set_option linter.unusedSimpArgs false
namespace Go.Proofs.Ytojahppjdimdbaa
open E
def wrap (b : Nat) (e : E) : E := if b = 1 then .lam e else e
def hd (t : Tm) : E := if t.kind = 4 then .var t.head.toNat else .con t.kind t.head
def em : Tm → E
  | .mk k h l => if k = 3 then (if h0 : 0 < l.length then .lam (em l[0]) else .con 3 0)
      else apps (hd (.mk k h l)) ((List.range l.length).map fun i => if hi : i < l.length then wrap (bnd (.mk k h l) i) (em l[i]) else .con 0 0)
decreasing_by
  · have := List.sizeOf_lt_of_mem (List.getElem_mem h0)
    simp only [Tm.mk.sizeOf_spec]
    omega
  · have := List.sizeOf_lt_of_mem (List.getElem_mem hi)
    simp only [Tm.mk.sizeOf_spec]
    omega
def ems (t : Tm) : List E := (List.range t.args.length).map fun i => wrap (bnd t i) (em (t.arg i))
theorem em_lam {t : Tm} (hk : t.kind = 3) (hl : 0 < t.args.length) : em t = .lam (em (t.arg 0)) := by
  obtain ⟨k, h, l⟩ := t
  have hk : k = 3 := hk
  have hl : 0 < l.length := hl
  rw [em, if_pos hk, dif_pos hl]
  have := arg_eq (t := .mk k h l) hl
  simp only [Tm.args] at this
  rw [this]
theorem em_app {t : Tm} (hk : t.kind ≠ 3) : em t = apps (hd t) (ems t) := by
  obtain ⟨k, h, l⟩ := t
  have hk : ¬ k = 3 := hk
  rw [em, if_neg hk]
  congr 1
  refine List.map_congr_left fun i hi => ?_
  have hi : i < l.length := by simpa using hi
  have := arg_eq (t := .mk k h l) hi
  simp only [Tm.args] at this
  rw [dif_pos hi, this]
theorem hd_rigid (t : Tm) : rigid (hd t) := by unfold hd; split <;> trivial
theorem ems_len (t : Tm) : (ems t).length = t.args.length := by simp [ems]
theorem ems_getElem (t : Tm) (i : Nat) (h : i < (ems t).length) : (ems t)[i] = wrap (bnd t i) (em (t.arg i)) := by simp [ems]
theorem ems_none {t : Tm} (hk : heads t.kind = true) : ems t = t.args.map em := by
  unfold ems
  refine List.ext_getElem (by simp) fun i h1 h2 => ?_
  simp at h1
  simp [bnd_none' hk, wrap, arg_eq h1]
theorem em_heads {k h : Int} {l : List Tm} (hk : heads k = true) : em (.mk k h l) = apps (hd (.mk k h [])) (l.map em) := by
  have h3 : (Tm.mk k h l).kind ≠ 3 := by
    simp only [heads, Bool.or_eq_true, beq_iff_eq] at hk
    show k ≠ 3
    omega
  rw [em_app h3, ems_none (t := .mk k h l) hk]
  rfl
theorem em_var {i : Int} : em (.mk 4 i []) = .var i.toNat := by
  rw [em_heads rfl]; rfl
/-! ### up by one -/
def upn : Nat → Nat → Nat
  | 0 => Nat.succ
  | n + 1 => upr (upn n)
theorem upn_get : ∀ n i : Nat, upn n i = if i ≥ n then i + 1 else i
  | 0, i => by simp [upn]
  | n + 1, 0 => by simp [upn, upr]
  | n + 1, i + 1 => by
    simp only [upn, upr, upn_get n i]
    split <;> split <;> omega
theorem em_up : ∀ t : Tm, nodesB t = true → ∀ n : Nat, em (mapT (gUp 1) t (n : Int)) = ren (upn n) (em t) := by
  refine Tm.ind fun t ih hn n => ?_
  by_cases hk : t.kind = 3
  · have hl := lam_len hn hk
    rw [em_lam hk (by omega), em_lam (by rw [mapT_kind]; exact hk) (by rw [mapT_len]; omega), mapT_arg _ _ (by omega), lam_bnd hn hk]
    have := ih _ (arg_mem (by omega)) (node_args hn 0 (by omega)) (n + 1)
    rw [show ((n : Int) + ((1 : Nat) : Int)) = ((n + 1 : Nat) : Int) by omega, this]
    rfl
  · rw [em_app hk, em_app (by rw [mapT_kind]; exact hk), ren_apps]
    have h1 : hd (mapT (gUp 1) t (n : Int)) = ren (upn n) (hd t) := by
      have h0 := node_head (node_here hn)
      unfold hd
      rw [mapT_kind, mapT_head]
      by_cases h4 : t.kind = 4
      · rw [if_pos h4, if_pos h4]
        have : (t.kind == 4) = true := by simpa using h4
        simp only [this, if_true, ren, upn_get, gUp]
        congr 1
        split <;> split <;> omega
      · rw [if_neg h4, if_neg h4]
        have : (t.kind == 4) = false := by simpa using h4
        simp only [this, Bool.false_eq_true, if_false, ren]
    have h2 : ems (mapT (gUp 1) t (n : Int)) = (ems t).map (ren (upn n)) := by
      unfold ems
      rw [mapT_len, List.map_map]
      refine List.map_congr_left fun i hi => ?_
      have hi : i < t.args.length := by simpa using hi
      have hx := ih _ (arg_mem hi) (node_args hn i hi) (n + bnd t i)
      simp only [Function.comp_apply]
      rw [mapT_arg _ _ hi, mapT_bnd, show ((n : Int) + ((bnd t i : Nat) : Int)) = ((n + bnd t i : Nat) : Int) by omega, hx]
      unfold wrap
      by_cases hb : bnd t i = 1
      · rw [if_pos hb, if_pos hb, hb]; rfl
      · rw [if_neg hb, if_neg hb, show bnd t i = 0 by have := bnd_le t i; omega]; rfl
    rw [h1, h2]
/-- What a substitution does. -/
def sg (s : Sb) (i : Nat) : E := em (ofS s i)
theorem sg_under {s : Sb} (h : NodesS s) : sg (underS s) = ups (sg s) := by
  funext i
  cases i with
  | zero => show em (ofS (underS s) 0) = _; rw [of_under0]; unfold var0; rw [em_var]; rfl
  | succ i =>
    show em (ofS (underS s) ((i + 1 : Nat) : Int)) = _
    rw [show ((i + 1 : Nat) : Int) = (i : Int) + 1 by omega, of_under s (by omega) h.2]
    exact em_up _ (h.of (by omega)) 0
theorem sg_one (a : Tm) : sg ⟨[a], 0⟩ = one (em a) := by
  funext i
  cases i with
  | zero => rfl
  | succ i =>
    show em (ofS ⟨[a], 0⟩ ((i + 1 : Nat) : Int)) = .var i
    have : ofS ⟨[a], 0⟩ ((i + 1 : Nat) : Int) = .mk 4 i [] := by
      unfold ofS
      rw [if_neg (by simp; omega)]
      congr 1
      simp
    rw [this, em_var]
    rfl
abbrev Goes (A : Tm → Sb → Nat → R Tm) : Prop := ∀ (t : Tm) (s : Sb) (n : Nat) (u : Tm) (m : Nat), nodesB t = true → NodesS s → A t s n = .ok u m → nodesB u = true ∧ PS (sub (sg s) (em t)) (em u)
theorem all2_refl (l : List E) : All2 PS l l := by
  induction l with
  | nil => exact .nil
  | cons a l ih => exact .cons (.refl a) ih
theorem spn_goes {A : Tm → Sb → Nat → R Tm} (hA : Goes A) : ∀ (l : List Tm) (u : Tm) (n : Nat) (r : Tm) (m : Nat), nodesB u = true → (∀ x ∈ l, nodesB x = true) → spnA A u l n = .ok r m → nodesB r = true ∧ PS (apps (em u) (l.map em)) (em r)
  | [], u, n, r, m, hu, hl, h => by cases h; exact ⟨hu, .refl _⟩
  | a :: rest, u, n, r, m, hu, hl, h => by
    simp only [spnA] at h
    split at h
    · rename_i hk
      split at h
      case isFalse => cases h
      obtain ⟨v, n1, h1, h2⟩ := R.bind_eq h
      have hl1 := lam_len hu hk
      obtain ⟨hv, hp⟩ := hA _ _ _ v n1 (node_args hu 0 (by omega)) ⟨by simpa using hl a (by simp), by simp⟩ h1
      obtain ⟨hr, hq⟩ := spn_goes hA rest v n1 r m hv (fun x hx => hl x (by simp [hx])) h2
      refine ⟨hr, ?_⟩
      rw [List.map_cons, apps_cons, em_lam hk (by omega)]
      rw [sg_one] at hp
      refine PS.trans (PS.apps ?_ (all2_refl _)) hq
      exact .head (.beta (P.refl _) (P.refl _)) hp
    · split at h
      case isFalse => cases h
      rename_i hk hh
      cases h
      refine ⟨nodes_mk (node_heads hh (node_head (node_here hu)) _) fun x hx => ?_, ?_⟩
      · rcases List.mem_append.1 hx with hx | hx
        · obtain ⟨i, hi, rfl⟩ := List.mem_iff_getElem.1 hx
          rw [arg_eq hi]; exact node_args hu i hi
        · exact hl x hx
      · rw [em_heads hh, List.map_append, apps_append]
        have : em u = apps (hd (.mk u.kind u.head [])) (u.args.map em) := by
          conv => lhs; rw [← mk_self u]
          exact em_heads hh
        rw [this]
        exact .refl _
theorem all2_of {l l' : List E} (hl : l.length = l'.length) {Q : E → E → Prop} (h : ∀ i, (h1 : i < l.length) → (h2 : i < l'.length) → Q l[i] l'[i]) : All2 Q l l' := by
  induction l generalizing l' with
  | nil =>
    obtain rfl := List.eq_nil_of_length_eq_zero hl.symm
    exact .nil
  | cons a l ih =>
    cases l' with
    | nil => cases hl
    | cons b l' =>
      refine .cons (h 0 (by simp) (by simp)) (ih (by simpa using hl) fun i h1 h2 => ?_)
      have := h (i + 1) (by simpa using h1) (by simpa using h2)
      simpa using this
theorem ap_goes : ∀ f : Nat, Goes (ap f)
  | 0 => fun t s n u m ht hs h => by cases h
  | f + 1 => fun t s n u m ht hs h => by
    have ih := ap_goes f
    rw [ap_succ] at h
    split at h
    · cases h
    obtain ⟨xs, m1, e1, e2⟩ := R.bind_eq h
    have hxl := seqF_len _ _ _ _ _ e1
    have hall := seq_all (Q := fun i x => nodesB x = true ∧ PS (sub (sg (below s t i)) (em (t.arg i))) (em x)) t.args.length (fun i hi m x m' hx => ih _ _ m x m' (node_args ht i hi) (hs.below t i) hx) xs m1 e1
    have hxn : ∀ x ∈ xs, nodesB x = true := getD_all fun i hi => (hall i (by omega)).1
    have hget : ∀ i, (h1 : i < xs.length) → xs[i] = xs.getD i default := fun i h1 => by rw [List.getD_eq_getElem?_getD, List.getElem?_eq_getElem h1]; rfl
    split at e2
    · rename_i hk
      have hh : heads t.kind = true := by simp [heads, hk]
      obtain ⟨hr, hp⟩ := spn_goes ih xs (ofS s t.head) m1 u m (hs.of (node_head (node_here ht))) hxn e2
      refine ⟨hr, PS.trans ?_ hp⟩
      rw [em_app (by omega), sub_apps, ems_none hh]
      have hhd : sub (sg s) (hd t) = em (ofS s t.head) := by
        have h0 := node_head (node_here ht)
        unfold hd
        rw [if_pos hk]
        show em (ofS s (t.head.toNat : Int)) = _
        rw [Int.toNat_of_nonneg h0]
      rw [hhd]
      refine PS.apps (.refl _) (all2_of (by simp [hxl]) fun i h1 h2 => ?_)
      simp only [List.length_map] at h1 h2
      have := (hall i h1).2
      rw [show below s t i = s by unfold below; rw [bnd_none' hh]; rfl] at this
      simp only [List.getElem_map, arg_eq h1, hget i h2]
      exact this
    · rename_i hk
      cases e2
      have hnk : nodesB (.mk t.kind t.head xs) = true := nodes_mk (node_same (node_here ht) hxl) hxn
      refine ⟨hnk, ?_⟩
      have hbel : ∀ i, i < t.args.length → PS (sub (sg s) (wrap (bnd t i) (em (t.arg i)))) (wrap (bnd t i) (em (xs.getD i default))) := fun i hi => by
        have := (hall i hi).2
        unfold below at this
        unfold wrap
        by_cases hb : bnd t i = 1
        · rw [if_pos hb, sg_under hs] at this
          rw [if_pos hb, if_pos hb]
          exact PS.lam this
        · rw [if_neg hb] at this
          rw [if_neg hb, if_neg hb]
          exact this
      by_cases h3 : t.kind = 3
      · have hl := lam_len ht h3
        rw [em_lam h3 (by omega), em_lam (t := .mk t.kind t.head xs) h3 (by rw [mk_args]; omega)]
        have := hbel 0 (by omega)
        rw [lam_bnd ht h3] at this
        exact this
      · rw [em_app h3, em_app (t := .mk t.kind t.head xs) h3, sub_apps]
        have hhd : sub (sg s) (hd t) = hd (.mk t.kind t.head xs) := by
          unfold hd
          rw [mk_kind, if_neg hk, if_neg hk]; rfl
        rw [hhd]
        refine PS.apps (.refl _) (all2_of (by simp [ems_len, hxl, mk_args]) fun i h1 h2 => ?_)
        simp only [List.length_map, ems_len] at h1
        have := hbel i h1
        simp only [List.getElem_map, ems_getElem]
        rw [bnd_mk t hxl]
        exact this
/-! ### nothing is left to do -/
theorem all2_eq {Q : E → E → Prop} {l l' : List E} (h : All2 Q l l') (hq : ∀ e ∈ l, ∀ x, Q e x → x = e) : l' = l := by
  induction h with
  | nil => rfl
  | cons q _ ih => rw [hq _ (by simp) _ q, ih fun e he => hq e (by simp [he])]
theorem em_nf : ∀ t : Tm, nodesB t = true → ∀ x, P (em t) x → x = em t := by
  refine Tm.ind fun t ih hn x hp => ?_
  by_cases hk : t.kind = 3
  · have hl := lam_len hn hk
    rw [em_lam hk (by omega)] at hp ⊢
    cases hp with
    | lam p => rw [ih _ (arg_mem (by omega)) (node_args hn 0 (by omega)) _ p]
  · rw [em_app hk] at hp ⊢
    obtain ⟨l', rfl, h2⟩ := P_apps (hd_rigid t) _ _ rfl _ hp
    rw [all2_eq h2 fun e he x hx => ?_]
    unfold ems at he
    simp only [List.mem_map, List.mem_range] at he
    obtain ⟨i, hi, rfl⟩ := he
    have hi' := ih _ (arg_mem hi) (node_args hn i hi)
    unfold wrap at hx ⊢
    by_cases hb : bnd t i = 1
    · rw [if_pos hb] at hx ⊢
      cases hx with
      | lam p => rw [hi' _ p]
    · rw [if_neg hb] at hx ⊢
      exact hi' _ hx
theorem em_stays {t : Tm} (hn : nodesB t = true) {x : E} (h : PS (em t) x) : x = em t := by
  generalize he : em t = e at h
  induction h with
  | refl => rfl
  | head p _ ih =>
    subst he
    have := em_nf t hn _ p
    subst this
    exact ih rfl
theorem em_inj : ∀ t u : Tm, nodesB t = true → nodesB u = true → em t = em u → t = u := by
  refine Tm.ind fun t ih u ht hu he => ?_
  by_cases hk : t.kind = 3
  · have hl := lam_len ht hk
    rw [em_lam hk (by omega)] at he
    by_cases hk' : u.kind = 3
    · have hl' := lam_len hu hk'
      rw [em_lam hk' (by omega)] at he
      injection he with he
      have h0 : t.head = 0 := by
        have := node_here ht
        unfold nodeOk at this
        simp [hk] at this
        exact this.1
      have h0' : u.head = 0 := by
        have := node_here hu
        unfold nodeOk at this
        simp [hk'] at this
        exact this.1
      refine tm_ext (by omega) (by omega) (by omega) fun i hi => ?_
      obtain rfl : i = 0 := by omega
      exact ih _ (arg_mem hi) _ (node_args ht 0 hi) (node_args hu 0 (by omega)) he
    · rw [em_app hk'] at he
      exact absurd he.symm (apps_no_lam (hd_rigid u) _ _)
  · by_cases hk' : u.kind = 3
    · have hl' := lam_len hu hk'
      rw [em_app hk, em_lam hk' (by omega)] at he
      exact absurd he (apps_no_lam (hd_rigid t) _ _)
    · rw [em_app hk, em_app hk'] at he
      obtain ⟨h1, h2⟩ := apps_inj (hd_rigid t) (hd_rigid u) _ _ _ rfl he
      have n1 := node_head (node_here ht)
      have n2 := node_head (node_here hu)
      have hkh : t.kind = u.kind ∧ t.head = u.head := by
        unfold hd at h1
        by_cases h4 : t.kind = 4
        · rw [if_pos h4] at h1
          by_cases h4' : u.kind = 4
          · rw [if_pos h4'] at h1
            injection h1 with h1
            exact ⟨by omega, by omega⟩
          · rw [if_neg h4'] at h1; cases h1
        · rw [if_neg h4] at h1
          by_cases h4' : u.kind = 4
          · rw [if_pos h4'] at h1; cases h1
          · rw [if_neg h4'] at h1
            injection h1 with h1 h1'
            exact ⟨h1, h1'⟩
      have hlen : t.args.length = u.args.length := by rw [← ems_len, h2, ems_len]
      refine tm_ext hkh.1 hkh.2 hlen fun i hi => ?_
      have hb : bnd u i = bnd t i := by unfold bnd; rw [hkh.1, hlen]
      have h3 : (ems t)[i]'(by rw [ems_len]; exact hi) = (ems u)[i]'(by rw [ems_len]; omega) := by simp only [h2]
      rw [ems_getElem, ems_getElem, hb] at h3
      refine ih _ (arg_mem hi) _ (node_args ht i hi) (node_args hu i (by omega)) ?_
      unfold wrap at h3
      split at h3
      · injection h3
      · exact h3
/-- Two variables, one behind the other or both at once. -/
theorem twice_plain {f : Nat} {t n m a b c x : Tm} {k1 k2 k3 k4 : Nat} (ht : nodesB t = true) (hn : nodesB n = true) (hm : nodesB m = true)
    (h1 : ap f t ⟨[n], 0⟩ 0 = .ok a k1) (h2 : ap f a ⟨[m], 0⟩ 0 = .ok b k2) (h3 : ap f n ⟨[m], 0⟩ 0 = .ok x k3) (h4 : ap f t ⟨[m, x], 0⟩ 0 = .ok c k4) : b = c := by
  obtain ⟨na, p1⟩ := ap_goes f t ⟨[n], 0⟩ 0 a k1 ht ⟨by simpa using hn, by simp⟩ h1
  obtain ⟨nb, p2⟩ := ap_goes f a ⟨[m], 0⟩ 0 b k2 na ⟨by simpa using hm, by simp⟩ h2
  obtain ⟨nx, p3⟩ := ap_goes f n ⟨[m], 0⟩ 0 x k3 hn ⟨by simpa using hm, by simp⟩ h3
  obtain ⟨nc, p4⟩ := ap_goes f t ⟨[m, x], 0⟩ 0 c k4 ht ⟨by simp [hm, nx], by simp⟩ h4
  rw [sg_one] at p1 p2 p3
  have q1 : PS (sub (E.one (em m)) (sub (E.one (em n)) (em t))) (em b) := (PS.sub1 p1 _).trans p2
  have q2 : PS (sub (E.one (em m)) (sub (E.one (em n)) (em t))) (em c) := by
    rw [sub_sub]
    refine PS.trans (PS.subs (em t) (σ' := sg ⟨[m, x], 0⟩) fun i => ?_) p4
    match i with
    | 0 => exact p3
    | 1 => exact .refl _
    | i + 2 =>
      have : ofS ⟨[m, x], 0⟩ ((i + 2 : Nat) : Int) = .mk 4 i [] := by
        unfold ofS
        rw [if_neg (by simp; omega)]
        congr 1
        simp
      show PS (E.var i) (em (ofS ⟨[m, x], 0⟩ ((i + 2 : Nat) : Int)))
      rw [this, em_var]
      exact .refl _
  obtain ⟨d, r1, r2⟩ := conf q1 q2
  have e1 := em_stays nb r1
  have e2 := em_stays nc r2
  exact em_inj b c nb nc (e1.symm.trans e2)
end Go.Proofs.Ytojahppjdimdbaa
