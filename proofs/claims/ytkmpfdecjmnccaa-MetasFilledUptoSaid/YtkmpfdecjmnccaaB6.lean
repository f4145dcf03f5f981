/- Metas as their own terms: in plain words. -/
import Derived.Test.YtkmpfdecjmnccaaB5
set_option linter.unusedVariables false
set_option linter.unusedSimpArgs false
set_option maxRecDepth 100000
namespace Go.Proofs.Ytkmpfdecjmnccaa
open Go.Proofs
def selfT (i n : Nat) : Tm := .mk 6 i (idL n n)
inductive Fit (ms : List Md) : Tm → Prop
  | mk (t : Tm) (h6 : t.kind = 6 → t.head < ms.length ∧ (ms.getD t.head.toNat default).ctx.length = t.args.length) (ha : ∀ i, i < t.args.length → Fit ms (t.arg i)) : Fit ms t
theorem term_fit (w : Wd) : ∀ (m a : Tm) (ctx : List Tm), nodesB m = true → termW w m a ctx = 0 → Fit w.metas m := by
  refine Tm.ind fun m ih a ctx hn h => ?_
  by_cases hk : m.kind = 3
  · have hl := lam_len hn hk
    rw [term_lam hk] at h
    by_cases ha : a.kind = 1
    · rw [if_pos ha, argW_lt (by omega)] at h
      refine .mk m (fun e => by omega) fun i hi => ?_
      obtain rfl : i = 0 := by omega
      exact ih _ (arg_mem hi) _ _ (node_args hn 0 hi) h
    · rw [if_neg ha] at h; cases h
  · obtain ⟨_, e⟩ := term_ok hk h
    have e0 : (cmW w ctx (fun i x => argW w m i x ctx) m).2 = 0 := by rw [e]
    refine .mk m (fun e6 => ?_) fun i hi => ?_
    · rw [cm_meta e6] at e0
      obtain ⟨h1, h2, _⟩ := metaW_ok e0
      exact ⟨h1, h2⟩
    · obtain ⟨x, hx⟩ := cm_args e0 i hi
      rw [argW_lt hi] at hx
      exact ih _ (arg_mem hi) _ _ (node_args hn i hi) hx
theorem typ_fit (w : Wd) : ∀ (a : Tm) (ctx : List Tm), nodesB a = true → typW w a ctx = 0 → Fit w.metas a := by
  refine Tm.ind fun a ih ctx hn h => ?_
  by_cases h1 : a.kind = 1
  · have hl := pi_len hn h1
    rw [typW_pi w h1 (by omega)] at h
    by_cases e : typW w (a.arg 0) ctx ≠ 0
    · rw [if_pos e] at h; exact absurd h e
    rw [if_neg e] at h
    refine .mk a (fun e => by omega) fun i hi => ?_
    have hi2 : i = 0 ∨ i = 1 := by omega
    rcases hi2 with rfl | rfl
    · exact ih _ (arg_mem hi) _ (node_args hn 0 hi) (Classical.not_not.1 e)
    · exact ih _ (arg_mem hi) _ (node_args hn 1 hi) h
  · by_cases h2 : a.kind = 2
    · rw [typW_fam w h2] at h
      obtain ⟨_, e, _⟩ := famW_ok h
      refine .mk a (fun e => by omega) fun i hi => ?_
      obtain ⟨x, hx⟩ := spW_all _ 0 _ e i (Nat.zero_le i) (by omega)
      rw [argW_lt hi] at hx
      exact term_fit w _ _ _ (node_args hn i hi) hx
    · rw [typW_no w h1 h2] at h; cases h
structure Selfs (ms : List Md) (th : List Tm) : Prop where
  len : th.length = ms.length
  small : ms.length ≤ 200
  get : ∀ i, i < ms.length → th.getD i default = selfT i (ms.getD i default).ctx.length
  few : ∀ i, i < ms.length → (ms.getD i default).ctx.length ≤ 200
end Go.Proofs.Ytkmpfdecjmnccaa
/- Metas as their own terms are in order. -/
set_option linter.unusedVariables false
set_option linter.unusedSimpArgs false
set_option maxRecDepth 100000
namespace Go.Proofs.Ytkmpfdecjmnccaa
open Go.Proofs
theorem Selfs.take {ms : List Md} {th : List Tm} (h : Selfs ms th) {k : Nat} (hk : k ≤ ms.length) : Selfs (ms.take k) (th.take k) := by
  have hl := h.len
  have hlen : (ms.take k).length = k := by simp; omega
  refine ⟨by simp [hl], by have := h.small; omega, fun i hi => ?_, fun i hi => ?_⟩
  · rw [take_getD' (by omega), take_getD' (by omega)]
    exact h.get i (by omega)
  · rw [take_getD' (by omega)]
    exact h.few i (by omega)
theorem decl_parts {sg : List Dc} {ms : List Md} {i : Nat} (h : declsW sg ms i = 0) :
    (∀ j, j < (ms.getD i default).ctx.length → TypR (Wo.wd ⟨sg, ms.take i, []⟩) ((ms.getD i default).ctx.take j) ((ms.getD i default).ctx.getD j default) = 0) ∧
    (ms.getD i default).t.kind = 2 ∧ TypR (Wo.wd ⟨sg, ms.take i, []⟩) (ms.getD i default).ctx (ms.getD i default).t = 0 ∧ (ms.getD i default).ctx.length ≤ 40 := by
  unfold declsW declMW at h
  by_cases e1 : CtxWR (Wo.wd ⟨sg, ms.take i, []⟩) [] (ms.getD i default).ctx = 0
  · rw [if_neg (by simpa using e1)] at h
    by_cases e2 : ((ms.getD i default).t.kind != 2 || (ms.getD i default).param && decide (((ms.getD i default).ctx.length : Int) > 0)) = true
    · rw [if_pos e2] at h; cases h
    rw [if_neg e2] at h
    obtain ⟨a1, a2⟩ := first_ok' e1
    refine ⟨fun j hj => a2 j hj, ?_, h, a1⟩
    simp only [Bool.or_eq_true, not_or] at e2
    simpa using e2.1
  · rw [if_pos e1] at h; exact absurd h e1
theorem mayW_parts {w : Wd} {c l : List Tm} (h : mayW w c l = true) : c.length ≤ 1000 ∧ (∀ x ∈ l, mayB x = true) ∧ (∀ x ∈ c, mayB x = true) ∧ maysB w.sig = true := by
  unfold mayW at h
  simp only [Bool.and_eq_true, Bool.not_eq_true', decide_eq_false_iff_not] at h
  exact ⟨by omega, maysB_iff.1 h.1.1.1.2, maysB_iff.1 h.1.1.2, h.1.2⟩
end Go.Proofs.Ytkmpfdecjmnccaa
/- The laws of layer 12: MetasSelf. -/
set_option linter.unusedSimpArgs false
set_option linter.unusedVariables false
set_option maxRecDepth 100000
namespace Go.Proofs.Ytkmpfdecjmnccaa
open Go.Proofs
end Go.Proofs.Ytkmpfdecjmnccaa
/- Types as functions that are applied: what has which, whatever is left to reduce in it. -/
set_option linter.unusedVariables false
set_option linter.unusedSimpArgs false
namespace Go.Proofs.Ytkmpfdecjmnccaa
open E
def J (a b : E) : Prop := ∃ c, PS a c ∧ PS b c
theorem J.rfl {a : E} : J a a := ⟨a, .refl a, .refl a⟩
theorem J.symm {a b : E} (h : J a b) : J b a := ⟨h.choose, h.choose_spec.2, h.choose_spec.1⟩
theorem J.of {a b : E} (h : PS a b) : J a b := ⟨b, h, .refl b⟩
theorem J.trans {a b c : E} (h : J a b) (k : J b c) : J a c := by
  obtain ⟨x, h1, h2⟩ := h
  obtain ⟨y, k1, k2⟩ := k
  obtain ⟨z, z1, z2⟩ := conf h2 k1
  exact ⟨z, h1.trans z1, k2.trans z2⟩
theorem J.sub {a b : E} (h : J a b) (σ : Nat → E) : J (E.sub σ a) (E.sub σ b) := by
  obtain ⟨x, h1, h2⟩ := h
  exact ⟨_, h1.sub1 σ, h2.sub1 σ⟩
theorem J.ren {a b : E} (h : J a b) (ρ : Nat → Nat) : J (E.ren ρ a) (E.ren ρ b) := by
  obtain ⟨x, h1, h2⟩ := h
  exact ⟨_, h1.ren ρ, h2.ren ρ⟩
theorem J.subs {σ τ : Nat → E} (t : E) (h : ∀ i, J (σ i) (τ i)) : J (E.sub σ t) (E.sub τ t) := by
  refine ⟨E.sub (fun i => (h i).choose) t, PS.subs t fun i => (h i).choose_spec.1, PS.subs t fun i => (h i).choose_spec.2⟩
theorem J.one {a b : E} (h : J a b) (t : E) : J (E.sub (E.one a) t) (E.sub (E.one b) t) := by
  refine J.subs t fun i => ?_
  cases i with
  | zero => exact h
  | succ i => exact J.rfl
def piE (A B : E) : E := apps (con 1 0) [A, lam B]
theorem sub_pi (σ : Nat → E) (A B : E) : E.sub σ (piE A B) = piE (E.sub σ A) (E.sub (ups σ) B) := rfl
theorem ren_pi (ρ : Nat → Nat) (A B : E) : E.ren ρ (piE A B) = piE (E.ren ρ A) (E.ren (upr ρ) B) := rfl
theorem all2_head {l l1 : List E} (h1 : All2 P l l1) : ∀ {l2 : List E}, All2 PS l1 l2 → All2 PS l l2 := by
  induction h1 with
  | nil => intro l2 h2; cases h2; exact .nil
  | cons q _ ih => intro l2 h2; cases h2 with
    | cons q2 r2 => exact .cons (.head q q2) (ih r2)
theorem PS_apps {h x y : E} (hr : rigid h) (hp : PS x y) : ∀ l, x = apps h l → ∃ l', y = apps h l' ∧ All2 PS l l' := by
  induction hp with
  | refl a => exact fun l e => ⟨l, e, all2_refl l⟩
  | @head a b c p _ ih =>
    intro l e
    subst e
    obtain ⟨l1, rfl, h1⟩ := P_apps hr _ l _root_.rfl _ p
    obtain ⟨l2, rfl, h2⟩ := ih l1 _root_.rfl
    refine ⟨l2, _root_.rfl, ?_⟩
    exact all2_head h1 h2
theorem PS_lam {b y : E} (hp : PS (lam b) y) : ∃ b', y = lam b' ∧ PS b b' := by
  generalize he : lam b = x at hp
  induction hp generalizing b with
  | refl a => exact ⟨b, he.symm, .refl b⟩
  | head p _ ih =>
    subst he
    cases p with
    | lam p =>
      obtain ⟨b', e, h⟩ := ih _root_.rfl
      exact ⟨b', e, .head p h⟩
theorem PS_pi {A B x : E} (hp : PS (piE A B) x) : ∃ A' B', x = piE A' B' ∧ PS A A' ∧ PS B B' := by
  obtain ⟨l', rfl, h⟩ := PS_apps (show rigid (con 1 0) from trivial) hp [A, lam B] _root_.rfl
  cases h with
  | cons q r => cases r with
    | cons q2 r2 =>
      cases r2
      obtain ⟨B', rfl, h2⟩ := PS_lam q2
      exact ⟨_, B', _root_.rfl, q, h2⟩
theorem pi_inj {A B A' B' : E} (h : piE A B = piE A' B') : A = A' ∧ B = B' := by
  unfold piE apps at h
  simp only [List.foldl] at h
  injection h with h1 h2
  injection h1 with h3 h4
  injection h2 with h5
  exact ⟨h4, h5⟩
theorem J_pi {A B A' B' : E} (h : J (piE A B) (piE A' B')) : J A A' ∧ J B B' := by
  obtain ⟨x, h1, h2⟩ := h
  obtain ⟨A1, B1, rfl, a1, b1⟩ := PS_pi h1
  obtain ⟨A2, B2, e, a2, b2⟩ := PS_pi h2
  obtain ⟨rfl, rfl⟩ := pi_inj e
  exact ⟨⟨_, a1, a2⟩, ⟨_, b1, b2⟩⟩
theorem J_to_pi {T T' A B : E} (h : J T T') (k : PS T (piE A B)) : ∃ A' B', PS T' (piE A' B') ∧ J A A' ∧ J B B' := by
  obtain ⟨x, h1, h2⟩ := h
  obtain ⟨y, y1, y2⟩ := conf k h1
  obtain ⟨A', B', rfl, a1, b1⟩ := PS_pi y1
  exact ⟨A', B', h2.trans y2, .of a1, .of b1⟩
def IsFam (T : E) : Prop := ∃ h l, PS T (apps (con 2 h) l)
theorem IsFam.conv {T T' : E} (h : IsFam T) (k : J T T') : IsFam T' := by
  obtain ⟨c, l, h1⟩ := h
  obtain ⟨x, k1, k2⟩ := k
  obtain ⟨y, y1, y2⟩ := conf h1 k1
  obtain ⟨l', rfl, _⟩ := PS_apps (show rigid (con 2 c) from trivial) y1 l _root_.rfl
  exact ⟨c, l', k2.trans y2⟩
theorem IsFam.sub {T : E} (h : IsFam T) (σ : Nat → E) : IsFam (E.sub σ T) := by
  obtain ⟨c, l, h1⟩ := h
  have := h1.sub1 σ
  rw [sub_apps] at this
  exact ⟨c, _, this⟩
theorem ren_var_sub : ∀ (t : E) (ρ : Nat → Nat), E.ren ρ t = E.sub (fun i => var (ρ i)) t
  | var i, _ => _root_.rfl
  | con _ _, _ => _root_.rfl
  | lam b, ρ => by
    simp only [E.ren, E.sub, ren_var_sub b]
    congr 2
    funext i
    cases i <;> rfl
  | app f a, ρ => by simp only [E.ren, E.sub, ren_var_sub f, ren_var_sub a]
theorem IsFam.ren {T : E} (h : IsFam T) (ρ : Nat → Nat) : IsFam (E.ren ρ T) := by rw [ren_var_sub]; exact h.sub _
theorem fam_not_pi {T A B : E} (h : IsFam T) (k : PS T (piE A B)) : False := by
  obtain ⟨c, l, h1⟩ := h
  obtain ⟨y, y1, y2⟩ := conf h1 k
  obtain ⟨l', rfl, _⟩ := PS_apps (show rigid (con 2 c) from trivial) y1 l _root_.rfl
  obtain ⟨A', B', e, _, _⟩ := PS_pi y2
  have := (apps_inj (show rigid (con 2 c) from trivial) (show rigid (con 1 0) from trivial) _ _ _ _root_.rfl e).1
  injection this with h1 h2
  exact absurd h1 (by decide)
/-! ### terms as such -/
theorem em_pi {t : Tm} (hn : nodesB t = true) (hk : t.kind = 1) : em t = piE (em (t.arg 0)) (em (t.arg 1)) := by
  have hl := pi_len hn hk
  have h0 : t.head = 0 := by
    have := node_here hn
    unfold nodeOk at this
    simp [hk] at this
    exact this.1
  rw [em_app (by omega)]
  have h1 : hd t = con 1 0 := by unfold hd; rw [if_neg (by omega), hk, h0]
  have h2 : ems t = [em (t.arg 0), lam (em (t.arg 1))] := by
    unfold ems
    rw [hl]
    simp only [List.range_succ, List.range_zero, List.nil_append, List.map_append, List.map_cons, List.map_nil, List.cons_append, pi_bnd0 hn hk, pi_bnd1 hn hk]
    rfl
  rw [h1, h2]; rfl
theorem em_kind {a : Tm} (hn : nodesB a = true) {k h : Int} {l : List E} (hk : k ≠ 4) (he : em a = apps (con k h) l) : a.kind = k ∧ a.head = h ∧ ems a = l := by
  by_cases h3 : a.kind = 3
  · have hl := lam_len hn h3
    rw [em_lam h3 (by omega)] at he
    exact absurd he.symm (apps_no_lam (show rigid (con k h) from trivial) _ _)
  · rw [em_app h3] at he
    obtain ⟨e1, e2⟩ := apps_inj (hd_rigid a) (show rigid (con k h) from trivial) _ _ _ _root_.rfl he
    unfold hd at e1
    by_cases h4 : a.kind = 4
    · rw [if_pos h4] at e1; cases e1
    · rw [if_neg h4] at e1
      injection e1 with e3 e4
      exact ⟨e3, e4, e2⟩
theorem J_em {a : Tm} (hn : nodesB a = true) {T : E} (h : J T (em a)) : PS T (em a) := by
  obtain ⟨x, h1, h2⟩ := h
  rw [em_stays hn h2] at h1
  exact h1
theorem em_to_pi {a : Tm} (hn : nodesB a = true) {T A B : E} (h : J T (em a)) (k : PS T (piE A B)) : a.kind = 1 ∧ J A (em (a.arg 0)) ∧ J B (em (a.arg 1)) := by
  obtain ⟨A', B', h1, h2, h3⟩ := J_to_pi h k
  have h4 := em_stays hn h1
  obtain ⟨k1, _, _⟩ := em_kind hn (by decide) h4.symm
  rw [em_pi hn k1] at h4
  obtain ⟨rfl, rfl⟩ := pi_inj h4
  exact ⟨k1, h2, h3⟩
theorem em_to_fam {a : Tm} (hn : nodesB a = true) {T : E} (h : J T (em a)) (k : IsFam T) : a.kind = 2 := by
  obtain ⟨c, l, h1⟩ := k.conv h
  exact (em_kind hn (by decide) (em_stays hn h1).symm).1
theorem em_fam {a : Tm} (hk : a.kind = 2) : IsFam (em a) := by
  rw [em_app (by omega)]
  refine ⟨a.head, ems a, ?_⟩
  have : hd a = con 2 a.head := by unfold hd; rw [if_neg (by omega), hk]
  rw [this]
  exact .refl _
theorem em_same {a b : Tm} (ha : nodesB a = true) (hb : nodesB b = true) (h : J (em a) (em b)) : a = b := by
  have := em_stays ha (J_em ha h.symm |> fun _ => PS.refl (em a))
  obtain ⟨x, h1, h2⟩ := h
  exact em_inj a b ha hb ((em_stays ha h1).symm.trans (em_stays hb h2))
/-! ### typing -/
structure Env where
  con : Nat → Option E
  fam : Nat → Option E
  mts : Nat → Option (List E × E)
abbrev Gam := Nat → Option E
def ext (G : Gam) (A : E) : Gam
  | 0 => some (E.ren Nat.succ A)
  | i + 1 => (G i).map (E.ren Nat.succ)
def mS (l : List Tm) (i : Nat) : Nat → E := fun v => if v < i then em (l.getD (i - 1 - v) default) else con 0 0
mutual
inductive Typ (X : Env) : Gam → Tm → E → Prop where
  | lam {G : Gam} {m : Tm} {T A B : E} : m.kind = 3 → PS T (piE A B) → Typ X (ext G A) (m.arg 0) B → Typ X G m T
  | var {G : Gam} {m : Tm} {T T0 T1 : E} : m.kind = 4 → G m.head.toNat = some T0 → Spn X G m.args T0 T1 → J T1 T → IsFam T → Typ X G m T
  | con {G : Gam} {m : Tm} {T T0 T1 : E} : m.kind = 5 → X.con m.head.toNat = some T0 → Spn X G m.args T0 T1 → J T1 T → IsFam T → Typ X G m T
  | mt {G : Gam} {m : Tm} {T C : E} {D : List E} : m.kind = 6 → X.mts m.head.toNat = some (D, C) → D.length = m.args.length →
      (∀ i, i < m.args.length → Typ X G (m.arg i) (E.sub (mS m.args i) (D.getD i (E.con 0 0)))) → J (E.sub (mS m.args m.args.length) C) T → IsFam T → Typ X G m T
inductive Spn (X : Env) : Gam → List Tm → E → E → Prop where
  | nil {G : Gam} {T : E} : Spn X G [] T T
  | cons {G : Gam} {a : Tm} {l : List Tm} {T T1 A B : E} : PS T (piE A B) → Typ X G a A → Spn X G l (E.sub (E.one (em a)) B) T1 → Spn X G (a :: l) T T1
end
def CtxJ (G G' : Gam) : Prop := ∀ i A, G i = some A → ∃ A', G' i = some A' ∧ J A A'
theorem CtxJ.self (G : Gam) : CtxJ G G := fun i A h => ⟨A, h, J.rfl⟩
theorem CtxJ.ext {G G' : Gam} (h : CtxJ G G') {A A' : E} (k : J A A') : CtxJ (ext G A) (Go.Proofs.Ytkmpfdecjmnccaa.ext G' A') := by
  intro i B hB
  cases i with
  | zero =>
    simp only [Go.Proofs.Ytkmpfdecjmnccaa.ext, Option.some.injEq] at hB ⊢
    subst hB
    exact ⟨_, _root_.rfl, k.ren _⟩
  | succ i =>
    simp only [Go.Proofs.Ytkmpfdecjmnccaa.ext] at hB ⊢
    obtain ⟨C, hC, rfl⟩ := Option.map_eq_some_iff.1 hB
    obtain ⟨C', e, j⟩ := h i C hC
    exact ⟨_, by rw [e]; rfl, j.ren _⟩
theorem spn_conv {X : Env} {G G' : Gam} : ∀ (l : List Tm), (∀ x ∈ l, ∀ T T', J T T' → Typ X G x T → Typ X G' x T') → ∀ T T' T1, J T T' → Spn X G l T T1 → ∃ T1', Spn X G' l T' T1' ∧ J T1 T1'
  | [], _, T, T', T1, hj, h => by cases h; exact ⟨T', .nil, hj⟩
  | a :: l, ih, T, T', T1, hj, h => by
    cases h with
    | cons p t s =>
      obtain ⟨A', B', p', jA, jB⟩ := J_to_pi hj p
      obtain ⟨T1', s', j⟩ := spn_conv l (fun x hx => ih x (by simp [hx])) _ (E.sub (E.one (em a)) B') T1 (jB.sub _) s
      exact ⟨T1', .cons p' (ih a (by simp) _ _ jA t) s', j⟩
theorem typ_conv {X : Env} : ∀ m : Tm, nodesB m = true → ∀ (G G' : Gam) (T T' : E), CtxJ G G' → J T T' → Typ X G m T → Typ X G' m T' := by
  refine Tm.ind fun m ih hn G G' T T' hg hj h => ?_
  have hmem : ∀ x ∈ m.args, nodesB x = true := fun x hx => by
    obtain ⟨i, hi, rfl⟩ := List.mem_iff_getElem.1 hx
    rw [arg_eq hi]; exact node_args hn i hi
  have hsp := fun T T' T1 => spn_conv (X := X) (G := G) (G' := G') m.args (fun x hx T T' j t => ih x hx (hmem x hx) G G' T T' hg j t) T T' T1
  cases h with
  | lam k p t =>
    have hl := lam_len hn k
    obtain ⟨A', B', p', jA, jB⟩ := J_to_pi hj p
    exact .lam k p' (ih _ (arg_mem (by omega)) (node_args hn 0 (by omega)) _ _ _ _ (hg.ext jA) jB t)
  | var k e s j f =>
    obtain ⟨T0', e', j0⟩ := hg _ _ e
    obtain ⟨T1', s', j1⟩ := hsp _ _ _ j0 s
    exact .var k e' s' ((j1.symm.trans j).trans hj) (f.conv hj)
  | con k e s j f =>
    obtain ⟨T1', s', j1⟩ := hsp _ _ _ J.rfl s
    exact .con k e s' ((j1.symm.trans j).trans hj) (f.conv hj)
  | mt k e hl ht j f =>
    exact .mt k e hl (fun i hi => ih _ (arg_mem hi) (node_args hn i hi) _ _ _ _ hg J.rfl (ht i hi)) (j.trans hj) (f.conv hj)
theorem typ_to {X : Env} {m : Tm} (hn : nodesB m = true) {G : Gam} {T T' : E} (h : Typ X G m T) (hj : J T T') : Typ X G m T' := typ_conv m hn G G T T' (CtxJ.self G) hj h
structure EnvOk (X : Env) : Prop where
  con : ∀ h T, X.con h = some T → ∀ σ, E.sub σ T = T
  fam : ∀ h T, X.fam h = some T → ∀ σ, E.sub σ T = T
theorem EnvOk.conr {X : Env} (hX : EnvOk X) {h : Nat} {T : E} (e : X.con h = some T) (ρ : Nat → Nat) : E.ren ρ T = T := by rw [ren_var_sub]; exact hX.con h T e _
theorem EnvOk.famr {X : Env} (hX : EnvOk X) {h : Nat} {T : E} (e : X.fam h = some T) (ρ : Nat → Nat) : E.ren ρ T = T := by rw [ren_var_sub]; exact hX.fam h T e _
/-! ### up by one -/
def WkG (G G' : Gam) (k : Nat) : Prop := ∀ i A, G i = some A → G' (upn k i) = some (E.ren (upn k) A)
theorem WkG.ext {G G' : Gam} {k : Nat} (h : WkG G G' k) (A : E) : WkG (ext G A) (Go.Proofs.Ytkmpfdecjmnccaa.ext G' (E.ren (upn k) A)) (k + 1) := by
  have hc : ∀ B : E, E.ren (upn (k + 1)) (E.ren Nat.succ B) = E.ren Nat.succ (E.ren (upn k) B) := fun B => by
    rw [ren_ren, ren_ren]; rfl
  intro i B hB
  cases i with
  | zero =>
    simp only [Go.Proofs.Ytkmpfdecjmnccaa.ext, Option.some.injEq] at hB
    subst hB
    show some (E.ren Nat.succ (E.ren (upn k) A)) = _
    rw [hc]
  | succ i =>
    simp only [Go.Proofs.Ytkmpfdecjmnccaa.ext] at hB
    obtain ⟨C, hC, rfl⟩ := Option.map_eq_some_iff.1 hB
    show (G' (upn k i)).map (E.ren Nat.succ) = _
    rw [h i C hC, hc]; rfl
theorem mS_up (l : List Tm) (hl : ∀ x ∈ l, nodesB x = true) (k i : Nat) (hi : i ≤ l.length) (C : E) : E.ren (upn k) (E.sub (mS l i) C) = E.sub (mS (l.map fun x => upT x 1 k) i) C := by
  rw [ren_sub]
  congr 1
  funext v
  unfold mS
  by_cases hv : v < i
  · rw [if_pos hv, if_pos hv, getD_map (by omega)]
    have hm : l.getD (i - 1 - v) default ∈ l := by
      rw [List.getD_eq_getElem?_getD, List.getElem?_eq_getElem (by omega)]
      exact List.getElem_mem _
    exact (em_up _ (hl _ hm) k).symm
  · rw [if_neg hv, if_neg hv]; rfl
theorem spn_wk {X : Env} {G G' : Gam} {k : Nat} : ∀ (l : List Tm), (∀ x ∈ l, nodesB x = true ∧ ∀ T, Typ X G x T → Typ X G' (upT x 1 k) (E.ren (upn k) T)) → ∀ T T1, Spn X G l T T1 → Spn X G' (l.map fun x => upT x 1 k) (E.ren (upn k) T) (E.ren (upn k) T1)
  | [], _, T, T1, h => by cases h; exact .nil
  | a :: l, ih, T, T1, h => by
    obtain ⟨hn, ha⟩ := ih a (by simp)
    cases h with
    | @cons _ _ _ _ _ A B p t s =>
      have hs := spn_wk l (fun x hx => ih x (by simp [hx])) _ _ s
      have hp := p.ren (upn k)
      rw [ren_pi] at hp
      rw [ren_one] at hs
      have hem : em (upT a 1 k) = E.ren (upn k) (em a) := em_up a hn k
      refine .cons hp (ha _ t) ?_
      rw [hem]
      exact hs
theorem up_args {m : Tm} (h1 : m.kind ≠ 1) (h3 : m.kind ≠ 3) (b k : Int) : (upT m b k).args = m.args.map fun x => upT x b k := by
  unfold upT
  rw [mapT_args]
  refine List.ext_getElem (by simp) fun i h1' h2' => ?_
  have hi : i < m.args.length := by simpa using h2'
  simp only [List.getElem_map, List.getElem_range, bnd_zero h1 h3, Int.natCast_zero, Int.add_zero, arg_eq hi]
theorem typ_wk {X : Env} (hX : EnvOk X) : ∀ m : Tm, nodesB m = true → ∀ (G G' : Gam) (k : Nat) (T : E), WkG G G' k → Typ X G m T → Typ X G' (upT m 1 k) (E.ren (upn k) T) := by
  refine Tm.ind fun m ih hn G G' k T hg h => ?_
  have hmem : ∀ x ∈ m.args, nodesB x = true := fun x hx => by
    obtain ⟨i, hi, rfl⟩ := List.mem_iff_getElem.1 hx
    rw [arg_eq hi]; exact node_args hn i hi
  have hsp := spn_wk (X := X) (G := G) (G' := G') (k := k) m.args fun x hx => ⟨hmem x hx, fun T t => ih x hx (hmem x hx) G G' k T hg t⟩
  have hkd : (upT m 1 k).kind = m.kind := mapT_kind _ m k
  have h0 := node_head (node_here hn)
  cases h with
  | @lam _ _ _ A B k3 p t =>
    have hl := lam_len hn k3
    have hp := p.ren (upn k)
    rw [ren_pi] at hp
    refine .lam (hkd.trans k3) hp ?_
    have := ih _ (arg_mem (by omega)) (node_args hn 0 (by omega)) _ _ (k + 1) _ (hg.ext A) t
    have harg : (upT m 1 k).arg 0 = upT (m.arg 0) 1 ((k + 1 : Nat) : Int) := by
      unfold upT
      rw [mapT_arg _ _ (by omega), lam_bnd hn k3]; rfl
    rw [harg]
    exact this
  | var k4 e s j f =>
    have hhd : (upT m 1 k).head.toNat = upn k m.head.toNat := by
      unfold upT
      rw [mapT_head, k4, upn_get]
      simp only [beq_self_eq_true, if_true, gUp]
      split <;> split <;> omega
    refine .var (hkd.trans k4) (by rw [hhd]; exact hg _ _ e) ?_ (j.ren _) (f.ren _)
    rw [up_args (by omega) (by omega)]
    exact hsp _ _ s
  | con k5 e s j f =>
    have hhd : (upT m 1 k).head = m.head := by
      unfold upT
      rw [mapT_head, k5]; rfl
    refine .con (hkd.trans k5) (by rw [hhd]; exact e) ?_ (j.ren _) (f.ren _)
    rw [up_args (by omega) (by omega)]
    have := hsp _ _ s
    rw [hX.conr e] at this
    exact this
  | @mt _ _ _ C D k6 e hl ht j f =>
    have hhd : (upT m 1 k).head = m.head := by
      unfold upT
      rw [mapT_head, k6]; rfl
    have hlen : (upT m 1 k).args.length = m.args.length := mapT_len _ m k
    have ha := up_args (m := m) (by omega) (by omega) 1 k
    refine .mt (hkd.trans k6) (by rw [hhd]; exact e) (hl.trans hlen.symm) (fun i hi => ?_) ?_ (f.ren _)
    · rw [hlen] at hi
      have := ih _ (arg_mem hi) (node_args hn i hi) _ _ k _ hg (ht i hi)
      rw [mS_up _ hmem k i (by omega)] at this
      have harg : (upT m 1 k).arg i = upT (m.arg i) 1 (k : Int) := by
        unfold upT
        rw [mapT_arg _ _ hi, bnd_zero (by omega) (by omega), Int.natCast_zero, Int.add_zero]
      rw [harg, ha]
      exact this
    · rw [hlen, ha, ← mS_up _ hmem k _ (Nat.le_refl _)]
      exact j.ren _
end Go.Proofs.Ytkmpfdecjmnccaa
/- Types as functions that are applied: substitution keeps what has which; it ends only where it is too great. -/
set_option linter.unusedVariables false
set_option linter.unusedSimpArgs false
namespace Go.Proofs.Ytkmpfdecjmnccaa
open E
def TySub (X : Env) (G' : Gam) (s : Sb) (G : Gam) : Prop := ∀ (i : Nat) T, G i = some T →
  (∃ (j : Nat) (T' : E), ofS s i = .mk 4 j [] ∧ G' j = some T' ∧ J T' (E.sub (sg s) T)) ∨ Typ X G' (ofS s i) (E.sub (sg s) T)
theorem wkG_new (G : Gam) (A : E) : WkG G (ext G A) 0 := by
  intro i B hB
  show (G i).map (E.ren Nat.succ) = _
  rw [hB]; rfl
theorem TySub.under {X : Env} (hX : EnvOk X) {G G' : Gam} {s : Sb} (hs : NodesS s) (h : TySub X G' s G) (A : E) : TySub X (ext G' (E.sub (sg s) A)) (underS s) (ext G A) := by
  have hc : ∀ B : E, E.sub (sg (underS s)) (E.ren Nat.succ B) = E.ren Nat.succ (E.sub (sg s) B) := fun B => by
    rw [sg_under hs, sub_ren, ren_sub]; rfl
  intro i T hT
  cases i with
  | zero =>
    simp only [ext, Option.some.injEq] at hT
    subst hT
    refine .inl ⟨0, _, of_under0 s, rfl, ?_⟩
    rw [hc]; exact J.rfl
  | succ i =>
    simp only [ext] at hT
    obtain ⟨C, hC, rfl⟩ := Option.map_eq_some_iff.1 hT
    have ho : ofS (underS s) ((i + 1 : Nat) : Int) = upT (ofS s i) 1 0 := by
      rw [show ((i + 1 : Nat) : Int) = (i : Int) + 1 by omega]
      exact of_under s (by omega) hs.2
    rcases h i C hC with ⟨j, T', h1, h2, h3⟩ | h1
    · refine .inl ⟨j + 1, E.ren Nat.succ T', ?_, ?_, ?_⟩
      · rw [ho, h1, up_mk_heads rfl]
        simp only [List.map_nil, beq_self_eq_true, if_true]
        congr 1
      · show (G' j).map _ = _
        rw [h2]; rfl
      · rw [hc]; exact h3.ren _
    · refine .inr ?_
      rw [ho, hc]
      exact typ_wk hX _ (hs.of (by omega)) _ _ 0 _ (wkG_new G' _) h1
theorem TySub.one {X : Env} {G : Gam} {a : Tm} {A : E} (h : Typ X G a A) : TySub X G ⟨[a], 0⟩ (ext G A) := by
  intro i T hT
  rw [sg_one]
  cases i with
  | zero =>
    simp only [ext, Option.some.injEq] at hT
    subst hT
    refine .inr ?_
    rw [sub_ren]
    have : E.sub (fun i => E.one (em a) (Nat.succ i)) A = A := sub_var A
    rw [this]
    exact h
  | succ i =>
    simp only [ext] at hT
    obtain ⟨C, hC, rfl⟩ := Option.map_eq_some_iff.1 hT
    refine .inl ⟨i, C, ?_, hC, ?_⟩
    · unfold ofS
      rw [if_neg (by simp; omega)]
      congr 1
      simp
    · rw [sub_ren]
      have : E.sub (fun i => E.one (em a) (Nat.succ i)) C = C := sub_var C
      rw [this]; exact J.rfl
inductive L2 (Q : Tm → Tm → Prop) : List Tm → List Tm → Prop where
  | nil : L2 Q [] []
  | cons {a b : Tm} {l l' : List Tm} : Q a b → L2 Q l l' → L2 Q (a :: l) (b :: l')
theorem L2.of {Q : Tm → Tm → Prop} : ∀ (l l' : List Tm), l.length = l'.length → (∀ i, i < l.length → Q (l.getD i default) (l'.getD i default)) → L2 Q l l'
  | [], [], _, _ => .nil
  | [], _ :: _, h, _ => by simp at h
  | _ :: _, [], h, _ => by simp at h
  | a :: l, b :: l', h, q => .cons (q 0 (by simp)) (L2.of l l' (by simpa using h) fun i hi => q (i + 1) (by simp; omega))
theorem seq_typed {g : Nat → Nat → R Tm} {Q : Nat → Tm → Prop} {n : Nat} : ∀ c : Nat, (∀ i, i < c → ∀ m, (∃ k, g i m = .er 4 k) ∨ ∃ x k, g i m = .ok x k ∧ Q i x) →
    (∃ k, seqF g n c = .er 4 k) ∨ ∃ xs k, seqF g n c = .ok xs k ∧ xs.length = c ∧ ∀ i, i < c → Q i (xs.getD i default)
  | 0, _ => .inr ⟨[], n, rfl, rfl, fun i hi => by omega⟩
  | c + 1, h => by
    simp only [seqF]
    rcases seq_typed (n := n) c (fun i hi => h i (by omega)) with ⟨k, e⟩ | ⟨xs, k, e, hl, hq⟩
    · rw [e]; exact .inl ⟨k, rfl⟩
    · rw [e, R.bind_ok]
      rcases h c (by omega) k with ⟨k', e'⟩ | ⟨x, k', e', hx⟩
      · rw [e']; exact .inl ⟨k', rfl⟩
      · rw [e', R.bind_ok]
        refine .inr ⟨xs ++ [x], k', rfl, by simp [hl], fun i hi => ?_⟩
        rcases Nat.lt_or_ge i c with h1 | h1
        · rw [getD_append_l (by omega)]; exact hq i h1
        · obtain rfl : i = c := by omega
          rw [List.getD_eq_getElem?_getD, List.getElem?_append_right (by omega), hl]
          simpa using hx
def Goes1 (X : Env) (G G' : Gam) (σ : Nat → E) (a x : Tm) : Prop := nodesB x = true ∧ PS (E.sub σ (em a)) (em x) ∧ ∀ A, Typ X G a A → Typ X G' x (E.sub σ A)
theorem spn_sub {X : Env} {G G' : Gam} {σ : Nat → E} {l l' : List Tm} (h : L2 (Goes1 X G G' σ) l l') : ∀ {T T' T1 : E}, J T' (E.sub σ T) → Spn X G l T T1 → ∃ T1', Spn X G' l' T' T1' ∧ J T1' (E.sub σ T1) := by
  induction h with
  | nil => intro T T' T1 hj hs; cases hs; exact ⟨T', .nil, hj⟩
  | @cons a x l l' q _ ih =>
    intro T T' T1 hj hs
    obtain ⟨hx, hp, ht⟩ := q
    cases hs with
    | @cons _ _ _ _ _ A B p t s =>
      have hp2 := p.sub1 σ
      rw [sub_pi] at hp2
      obtain ⟨A', B', p', jA, jB⟩ := J_to_pi hj.symm hp2
      have hty := typ_to hx (ht _ t) jA
      have j2 : J (E.sub (E.one (em x)) B') (E.sub σ (E.sub (E.one (em a)) B)) := by
        rw [sub_one]
        exact (jB.symm.sub _).trans (J.one (J.of hp).symm _)
      obtain ⟨T1', s', j'⟩ := ih j2 s
      exact ⟨T1', .cons p' hty s', j'⟩
abbrev Keeps (X : Env) (A : Tm → Sb → Nat → R Tm) : Prop := ∀ (m : Tm) (s : Sb) (n : Nat) (G G' : Gam) (T : E), nodesB m = true → NodesS s → Typ X G m T → TySub X G' s G → (∃ k, A m s n = .er 4 k) ∨ ∃ x k, A m s n = .ok x k ∧ Typ X G' x (E.sub (sg s) T)
theorem spn_keeps {X : Env} {A : Tm → Sb → Nat → R Tm} (hA : Keeps X A) (hG : Goes A) {G : Gam} : ∀ (l : List Tm) (u : Tm) (n : Nat) (U U1 V : E), nodesB u = true → (∀ x ∈ l, nodesB x = true) → Typ X G u U → Spn X G l U U1 → J U1 V →
    (∃ k, spnA A u l n = .er 4 k) ∨ ∃ r k, spnA A u l n = .ok r k ∧ Typ X G r V
  | [], u, n, U, U1, V, hu, _, ht, hs, hj => by cases hs; exact .inr ⟨u, n, rfl, typ_to hu ht hj⟩
  | a :: rest, u, n, U, U1, V, hu, hl, ht, hs, hj => by
    have ha := hl a (by simp)
    cases hs with
    | @cons _ _ _ _ _ A1 B1 p ta s =>
      cases ht with
      | @lam _ _ _ A2 B2 k3 p2 tb =>
        simp only [spnA]
        rw [if_pos k3]
        by_cases hm : mayB a = true
        · rw [if_pos hm]
          have hl1 := lam_len hu k3
          have hn0 := node_args hu 0 (by omega)
          obtain ⟨x, y1, y2⟩ := conf p p2
          have hjj := J_pi (J.trans (J.of y1) (J.of y2).symm)
          have hsn : NodesS ⟨[a], 0⟩ := ⟨by simpa using ha, by simp⟩
          rcases hA (u.arg 0) ⟨[a], 0⟩ n _ _ _ hn0 hsn tb (TySub.one (typ_to ha ta hjj.1)) with ⟨k, e⟩ | ⟨v, k, e, tv⟩
          · rw [e]; exact .inl ⟨k, rfl⟩
          · rw [e, R.bind_ok]
            have hv := (hG _ _ _ v k hn0 hsn e).1
            rw [sg_one] at tv
            exact spn_keeps hA hG rest v k _ U1 V hv (fun x hx => hl x (by simp [hx])) (typ_to hv tv (hjj.2.symm.sub _)) s hj
        · rw [if_neg hm]; exact .inl ⟨n, rfl⟩
      | var _ _ _ _ f => exact (fam_not_pi f p).elim
      | con _ _ _ _ f => exact (fam_not_pi f p).elim
      | mt _ _ _ _ _ f => exact (fam_not_pi f p).elim
theorem mem_nodes {m : Tm} (hn : nodesB m = true) : ∀ x ∈ m.args, nodesB x = true := fun x hx => by
  obtain ⟨i, hi, rfl⟩ := List.mem_iff_getElem.1 hx
  rw [arg_eq hi]; exact node_args hn i hi
theorem mS_sub {σ : Nat → E} {l l' : List Tm} (h : ∀ i, i < l.length → PS (E.sub σ (em (l.getD i default))) (em (l'.getD i default))) {i : Nat} (hi : i ≤ l.length) (C : E) : J (E.sub σ (E.sub (mS l i) C)) (E.sub (mS l' i) C) := by
  rw [sub_sub]
  refine J.subs C fun v => ?_
  unfold mS
  by_cases hv : v < i
  · rw [if_pos hv, if_pos hv]; exact .of (h _ (by omega))
  · rw [if_neg hv, if_neg hv]; exact J.rfl
theorem ap_keeps {X : Env} (hX : EnvOk X) : ∀ f : Nat, Keeps X (ap f)
  | 0 => fun m s n G G' T _ _ _ _ => .inl ⟨_, rfl⟩
  | f + 1 => fun m s n G G' T hm hs ht hS => by
    have ih := ap_keeps hX f
    rw [ap_succ]
    by_cases h1 : n + 1 > 40000
    · rw [if_pos h1]; exact .inl ⟨_, rfl⟩
    rw [if_neg h1]
    by_cases k3 : m.kind = 3
    · cases ht with
      | var k => omega
      | con k => omega
      | mt k => omega
      | @lam _ _ _ A B _ p t =>
        have hl := lam_len hm k3
        have hb := lam_bnd hm k3
        have hbel : below s m 0 = underS s := by unfold below; rw [if_pos hb]
        rcases seq_typed (g := fun i m' => ap f (m.arg i) (below s m i) m') (n := n + 1) (Q := fun i x => Typ X (ext G' (E.sub (sg s) A)) x (E.sub (ups (sg s)) B)) m.args.length (fun i hi m' => by
          obtain rfl : i = 0 := by omega
          rw [hbel]
          have := ih (m.arg 0) (underS s) m' _ _ _ (node_args hm 0 hi) (by have := hs.below m 0; rwa [hbel] at this) t (hS.under hX hs A)
          rwa [sg_under hs] at this) with ⟨k, e⟩ | ⟨xs, k, e, hxl, hq⟩
        · rw [e]; exact .inl ⟨k, rfl⟩
        · rw [e, R.bind_ok, if_neg (by omega)]
          refine .inr ⟨_, k, rfl, ?_⟩
          have hp := p.sub1 (sg s)
          rw [sub_pi] at hp
          exact .lam k3 hp (hq 0 (by omega))
    · have hbel : ∀ i, below s m i = below s m i := fun _ => rfl
      have hmk : m.kind = 4 ∨ m.kind = 5 ∨ m.kind = 6 := by
        cases ht with
        | var k => exact .inl k
        | con k => exact .inr (.inl k)
        | mt k => exact .inr (.inr k)
        | lam k => exact absurd k k3
      have hb0 : ∀ i, below s m i = s := fun i => by unfold below; rw [bnd_zero (by omega) k3, if_neg (by decide)]
      have harg : ∀ i, i < m.args.length → ∃ A, Typ X G (m.arg i) A := by
        have key : ∀ (l : List Tm) (T0 T1 : E), Spn X G l T0 T1 → ∀ i, i < l.length → ∃ A, Typ X G (l.getD i default) A := by
          intro l
          induction l with
          | nil => intro _ _ _ i hi; simp at hi
          | cons a l ihl =>
            intro T0 T1 hsp i hi
            cases hsp with
            | cons p t s' =>
              cases i with
              | zero => exact ⟨_, t⟩
              | succ i => exact ihl _ _ s' i (by simpa using hi)
        cases ht with
        | var _ _ sp => exact fun i hi => key _ _ _ sp i hi
        | con _ _ sp => exact fun i hi => key _ _ _ sp i hi
        | mt _ _ _ ha => exact fun i hi => ⟨_, ha i hi⟩
        | lam k => exact absurd k k3
      rcases seq_typed (g := fun i m' => ap f (m.arg i) (below s m i) m') (n := n + 1) (Q := fun i x => Goes1 X G G' (sg s) (m.arg i) x) m.args.length (fun i hi m' => by
        rw [hb0]
        obtain ⟨A, hA⟩ := harg i hi
        rcases ih (m.arg i) s m' _ _ _ (node_args hm i hi) hs hA hS with ⟨k, e⟩ | ⟨x, k, e, tx⟩
        · exact .inl ⟨k, e⟩
        · obtain ⟨g1, g2⟩ := ap_goes f _ _ _ x k (node_args hm i hi) hs e
          refine .inr ⟨x, k, e, g1, g2, fun A' hA' => ?_⟩
          rcases ih (m.arg i) s m' _ _ _ (node_args hm i hi) hs hA' hS with ⟨k', e'⟩ | ⟨x', k', e', tx'⟩
          · rw [e] at e'; cases e'
          · rw [e] at e'; cases e'; exact tx') with ⟨k, e⟩ | ⟨xs, k, e, hxl, hq⟩
      · rw [e]; exact .inl ⟨k, rfl⟩
      rw [e, R.bind_ok]
      have hL2 : L2 (Goes1 X G G' (sg s)) m.args xs := L2.of _ _ hxl.symm fun i hi => hq i hi
      have hxn : ∀ x ∈ xs, nodesB x = true := getD_all fun i hi => (hq i (by omega)).1
      have h0 := node_head (node_here hm)
      cases ht with
      | lam k => exact absurd k k3
      | @var _ _ _ T0 T1 k4 e0 sp j fm =>
        rw [if_pos k4]
        have hint : ((m.head.toNat : Nat) : Int) = m.head := Int.toNat_of_nonneg h0
        have hof : ofS s m.head = ofS s ((m.head.toNat : Nat) : Int) := by rw [hint]
        rcases hS _ _ e0 with ⟨jv, T', h2, h3, h4⟩ | h2
        · rw [hof, h2, spn_var]
          obtain ⟨T1', s', j'⟩ := spn_sub hL2 h4 sp
          exact .inr ⟨_, k, rfl, .var rfl (by rw [mk_head, Int.toNat_natCast]; exact h3) s' (j'.trans (j.sub _)) (fm.sub _)⟩
        · rw [hof]
          obtain ⟨T1', s', j'⟩ := spn_sub hL2 J.rfl sp
          exact spn_keeps ih (ap_goes f) xs _ k _ T1' _ (hs.of (by omega)) hxn h2 s' (j'.trans (j.sub _))
      | con k5 e0 sp j fm =>
        rw [if_neg (by omega)]
        obtain ⟨T1', s', j'⟩ := spn_sub hL2 (J.rfl) sp
        rw [hX.con _ _ e0] at s'
        exact .inr ⟨_, k, rfl, .con k5 e0 s' (j'.trans (j.sub _)) (fm.sub _)⟩
      | @mt _ _ _ C D k6 e0 hdl hd j fm =>
        rw [if_neg (by omega)]
        have hps : ∀ i, i < m.args.length → PS (E.sub (sg s) (em (m.args.getD i default))) (em (xs.getD i default)) := fun i hi => (hq i hi).2.1
        refine .inr ⟨_, k, rfl, .mt k6 e0 (by rw [mk_args, hxl]; exact hdl) (fun i hi => ?_) ?_ (fm.sub _)⟩
        · rw [mk_args, hxl] at hi
          obtain ⟨q1, q2, q3⟩ := hq i hi
          exact typ_to q1 (q3 _ (hd i hi)) (mS_sub hps (by omega) _)
        · rw [mk_args, hxl]
          exact (mS_sub hps (Nat.le_refl _) C).symm.trans (j.sub _)
/-! ### types -/
inductive Kd (X : Env) : Gam → Tm → Prop where
  | sort {G : Gam} {A : Tm} : A.kind = 0 → Kd X G A
  | pi {G : Gam} {A : Tm} : A.kind = 1 → Kd X G (A.arg 0) → Kd X (ext G (em (A.arg 0))) (A.arg 1) → Kd X G A
  | fam {G : Gam} {A : Tm} {K K1 : E} : A.kind = 2 → X.fam A.head.toNat = some K → Spn X G A.args K K1 → Kd X G A
theorem kd_conv {X : Env} : ∀ A : Tm, nodesB A = true → ∀ (G G' : Gam), CtxJ G G' → Kd X G A → Kd X G' A := by
  refine Tm.ind fun A ih hn G G' hg h => ?_
  cases h with
  | sort k => exact .sort k
  | pi k h0 h1 =>
    have hl := pi_len hn k
    exact .pi k (ih _ (arg_mem (by omega)) (node_args hn 0 (by omega)) _ _ hg h0) (ih _ (arg_mem (by omega)) (node_args hn 1 (by omega)) _ _ (hg.ext J.rfl) h1)
  | fam k e s =>
    obtain ⟨T1', s', _⟩ := spn_conv (X := X) (G := G) (G' := G') A.args (fun x hx T T' j t => typ_conv x (mem_nodes hn x hx) G G' T T' hg j t) _ _ _ J.rfl s
    exact .fam k e s'
theorem kd_wk {X : Env} (hX : EnvOk X) : ∀ A : Tm, nodesB A = true → ∀ (G G' : Gam) (k : Nat), WkG G G' k → Kd X G A → Kd X G' (upT A 1 k) := by
  refine Tm.ind fun A ih hn G G' k hg h => ?_
  have hkd : (upT A 1 k).kind = A.kind := mapT_kind _ A k
  cases h with
  | sort k0 => exact .sort (hkd.trans k0)
  | pi k1 h0 h1 =>
    have hl := pi_len hn k1
    have x0 : (upT A 1 k).arg 0 = upT (A.arg 0) 1 k := by
      unfold upT
      rw [mapT_arg _ _ (by omega), pi_bnd0 hn k1, Int.natCast_zero, Int.add_zero]
    have x1 : (upT A 1 k).arg 1 = upT (A.arg 1) 1 ((k + 1 : Nat) : Int) := by
      unfold upT
      rw [mapT_arg _ _ (by omega), pi_bnd1 hn k1]; rfl
    refine .pi (hkd.trans k1) (by rw [x0]; exact ih _ (arg_mem (by omega)) (node_args hn 0 (by omega)) _ _ k hg h0) ?_
    rw [x0, x1]
    have he : em (upT (A.arg 0) 1 k) = E.ren (upn k) (em (A.arg 0)) := em_up _ (node_args hn 0 (by omega)) k
    rw [he]
    exact ih _ (arg_mem (by omega)) (node_args hn 1 (by omega)) _ _ (k + 1) (hg.ext _) h1
  | fam k2 e s =>
    have hhd : (upT A 1 k).head = A.head := by
      unfold upT
      rw [mapT_head, k2]; rfl
    have hs := spn_wk (X := X) (G := G) (G' := G') (k := k) A.args (fun x hx => ⟨mem_nodes hn x hx, fun T t => typ_wk hX x (mem_nodes hn x hx) G G' k T hg t⟩) _ _ s
    rw [hX.famr e] at hs
    have ha := up_args (m := A) (by omega) (by omega) 1 (k : Int)
    rw [← ha] at hs
    exact .fam (hkd.trans k2) (by rw [hhd]; exact e) hs
theorem kd_keeps {X : Env} (hX : EnvOk X) : ∀ (f : Nat) (A : Tm) (s : Sb) (n : Nat) (G G' : Gam), nodesB A = true → NodesS s → Kd X G A → TySub X G' s G → (∃ k, ap f A s n = .er 4 k) ∨ ∃ x k, ap f A s n = .ok x k ∧ Kd X G' x
  | 0, A, s, n, G, G', _, _, _, _ => .inl ⟨_, rfl⟩
  | f + 1, A, s, n, G, G', hn, hs, hk, hS => by
    rw [ap_succ]
    by_cases h1 : n + 1 > 40000
    · rw [if_pos h1]; exact .inl ⟨_, rfl⟩
    rw [if_neg h1]
    cases hk with
    | sort k0 =>
      have hl : A.args.length = 0 := by
        have := node_here hn
        unfold nodeOk at this
        simp [k0] at this
        rw [this.2]; rfl
      rw [hl]
      simp only [seqF, R.bind_ok]
      rw [if_neg (by omega)]
      exact .inr ⟨_, _, rfl, .sort k0⟩
    | pi k1 h0 h1' =>
      have hl := pi_len hn k1
      have b0 : below s A 0 = s := by unfold below; rw [pi_bnd0 hn k1, if_neg (by decide)]
      have b1 : below s A 1 = underS s := by unfold below; rw [pi_bnd1 hn k1, if_pos rfl]
      have hn0 := node_args hn 0 (by omega)
      have hn1 := node_args hn 1 (by omega)
      rcases seq_typed (g := fun i m' => ap f (A.arg i) (below s A i) m') (n := n + 1) (Q := fun i x => nodesB x = true ∧ (i = 0 → Kd X G' x ∧ PS (E.sub (sg s) (em (A.arg 0))) (em x)) ∧ (i = 1 → Kd X (ext G' (E.sub (sg s) (em (A.arg 0)))) x)) A.args.length (fun i hi m' => by
        rw [hl] at hi
        rcases (show i = 0 ∨ i = 1 by omega) with rfl | rfl
        · rw [b0]
          rcases kd_keeps hX f (A.arg 0) s m' _ _ hn0 hs h0 hS with ⟨k, e⟩ | ⟨x, k, e, kx⟩
          · exact .inl ⟨k, e⟩
          · obtain ⟨g1, g2⟩ := ap_goes f _ _ _ x k hn0 hs e
            exact .inr ⟨x, k, e, g1, fun _ => ⟨kx, g2⟩, fun h => by omega⟩
        · rw [b1]
          have hsu : NodesS (underS s) := by have := hs.below A 1; rwa [b1] at this
          rcases kd_keeps hX f (A.arg 1) (underS s) m' _ _ hn1 hsu h1' (hS.under hX hs _) with ⟨k, e⟩ | ⟨x, k, e, kx⟩
          · exact .inl ⟨k, e⟩
          · exact .inr ⟨x, k, e, (ap_goes f _ _ _ x k hn1 hsu e).1, fun h => by omega, fun _ => kx⟩) with ⟨k, e⟩ | ⟨xs, k, e, hxl, hq⟩
      · rw [e]; exact .inl ⟨k, rfl⟩
      rw [e, R.bind_ok, if_neg (by omega)]
      have q0 := (hq 0 (by omega)).2.1 rfl
      have q1 := hq 1 (by omega)
      refine .inr ⟨_, k, rfl, .pi k1 q0.1 ?_⟩
      exact kd_conv _ q1.1 _ _ ((CtxJ.self G').ext (J.of q0.2)) (q1.2.2 rfl)
    | @fam _ _ K K1 k2 e0 sp =>
      have hb0 : ∀ i, below s A i = s := fun i => by unfold below; rw [bnd_zero (by omega) (by omega), if_neg (by decide)]
      have key : ∀ (l : List Tm) (T0 T1 : E), Spn X G l T0 T1 → ∀ i, i < l.length → ∃ B, Typ X G (l.getD i default) B := by
        intro l
        induction l with
        | nil => intro _ _ _ i hi; simp at hi
        | cons a l ihl =>
          intro T0 T1 hsp i hi
          cases hsp with
          | cons p t s' =>
            cases i with
            | zero => exact ⟨_, t⟩
            | succ i => exact ihl _ _ s' i (by simpa using hi)
      rcases seq_typed (g := fun i m' => ap f (A.arg i) (below s A i) m') (n := n + 1) (Q := fun i x => Goes1 X G G' (sg s) (A.arg i) x) A.args.length (fun i hi m' => by
        rw [hb0]
        obtain ⟨B, hB⟩ := key _ _ _ sp i hi
        have hB : Typ X G (A.arg i) B := hB
        rcases ap_keeps hX f (A.arg i) s m' _ _ _ (node_args hn i hi) hs hB hS with ⟨k, e⟩ | ⟨x, k, e, tx⟩
        · exact .inl ⟨k, e⟩
        · obtain ⟨g1, g2⟩ := ap_goes f _ _ _ x k (node_args hn i hi) hs e
          refine .inr ⟨x, k, e, g1, g2, fun A' hA' => ?_⟩
          rcases ap_keeps hX f (A.arg i) s m' _ _ _ (node_args hn i hi) hs hA' hS with ⟨k', e'⟩ | ⟨x', k', e', tx'⟩
          · rw [e] at e'; cases e'
          · rw [e] at e'; cases e'; exact tx') with ⟨k, e⟩ | ⟨xs, k, e, hxl, hq⟩
      · rw [e]; exact .inl ⟨k, rfl⟩
      rw [e, R.bind_ok, if_neg (by omega)]
      have hL2 : L2 (Goes1 X G G' (sg s)) A.args xs := L2.of _ _ hxl.symm fun i hi => hq i hi
      obtain ⟨T1', s', j'⟩ := spn_sub hL2 J.rfl sp
      rw [hX.fam _ _ e0] at s'
      exact .inr ⟨_, k, rfl, .fam k2 e0 s'⟩
end Go.Proofs.Ytkmpfdecjmnccaa
/- What the check tells, and what has which whatever is left to reduce: the one out of the other, without metas. -/
set_option linter.unusedVariables false
set_option linter.unusedSimpArgs false
namespace Go.Proofs.Ytkmpfdecjmnccaa
open E
def ctxE (c : List Tm) : Gam := fun i => if i < c.length then some (em (varW c i).1) else none
theorem varW_nodes {c : List Tm} (hc : ∀ x ∈ c, nodesB x = true) {i : Int} (h0 : 0 ≤ i) (hi : i < c.length) : nodesB (varW c i).1 = true := by
  rw [varW_lt hi]
  refine up_nodes (hc _ ?_) (by omega) 0
  rw [List.getD_eq_getElem?_getD, List.getElem?_eq_getElem (by omega)]
  exact List.getElem_mem _
theorem ctxE_ext {c : List Tm} (hc : ∀ x ∈ c, nodesB x = true) {a : Tm} (ha : nodesB a = true) : ctxE (c ++ [a]) = ext (ctxE c) (em a) := by
  funext i
  cases i with
  | zero =>
    show (if 0 < (c ++ [a]).length then some (em (varW (c ++ [a]) ((0 : Nat) : Int)).1) else none) = some (E.ren Nat.succ (em a))
    rw [if_pos (by simp), show ((0 : Nat) : Int) = 0 from rfl, varW_zero]
    exact congrArg some (em_up a ha 0)
  | succ i =>
    show (if i + 1 < (c ++ [a]).length then some (em (varW (c ++ [a]) ((i + 1 : Nat) : Int)).1) else none) = (if i < c.length then some (em (varW c i).1) else none).map (E.ren Nat.succ)
    by_cases hi : i < c.length
    · rw [if_pos (by simp; omega), if_pos hi, show ((i + 1 : Nat) : Int) = (i : Int) + 1 by omega, varW_succ c a (by omega) (by omega)]
      exact congrArg some (em_up _ (varW_nodes hc (by omega) (by omega)) 0)
    · rw [if_neg (by simp; omega), if_neg hi]; rfl
def envE (w : Wd) : Env where
  con h := if h < w.sig.length ∧ kindAt w.sig h = false then some (em (w.sig.getD h default)) else none
  fam h := if h < w.sig.length ∧ kindAt w.sig h = true then some (em (w.sig.getD h default)) else none
  mts _ := none
theorem sub_scoped : ∀ (t : Tm), nodesB t = true → ∀ (n : Nat) (M : Int), scopedB t n M = true → ∀ σ : Nat → E, (∀ i, i < n → σ i = var i) → E.sub σ (em t) = em t := by
  refine Tm.ind fun t ih hn n M hs σ hσ => ?_
  rw [scoped_iff] at hs
  have h0 := node_head (node_here hn)
  by_cases h3 : t.kind = 3
  · have hl := lam_len hn h3
    rw [em_lam h3 (by omega)]
    simp only [E.sub]
    congr 1
    have := hs.2.2 0 (by omega)
    rw [lam_bnd hn h3] at this
    refine ih _ (arg_mem (by omega)) (node_args hn 0 (by omega)) (n + 1) M (by simpa using this) _ fun i hi => ?_
    cases i with
    | zero => rfl
    | succ i => simp only [ups]; rw [hσ i (by omega)]; rfl
  · rw [em_app h3, sub_apps]
    congr 1
    · unfold hd
      by_cases h4 : t.kind = 4
      · rw [if_pos h4]
        have := hs.1 h4
        exact hσ _ (by omega)
      · rw [if_neg h4]; rfl
    · unfold ems
      rw [List.map_map]
      refine List.map_congr_left fun i hi => ?_
      have hi : i < t.args.length := by simpa using hi
      have hsi := hs.2.2 i hi
      simp only [Function.comp_apply]
      unfold wrap
      have hbl := bnd_le t i
      by_cases hb : bnd t i = 1
      · rw [if_pos hb]
        simp only [E.sub]
        congr 1
        rw [hb] at hsi
        refine ih _ (arg_mem hi) (node_args hn i hi) (n + 1) M (by simpa using hsi) _ fun j hj => ?_
        cases j with
        | zero => rfl
        | succ j => simp only [ups]; rw [hσ j (by omega)]; rfl
      · rw [if_neg hb]
        rw [show bnd t i = 0 by omega, Int.natCast_zero, Int.add_zero] at hsi
        exact ih _ (arg_mem hi) (node_args hn i hi) n M hsi _ hσ
theorem closed_mem {w : Wd} (hw : Closed w) {h : Nat} (hh : h < w.sig.length) : mayB (w.sig.getD h default) = true ∧ scopedB (w.sig.getD h default) 0 0 = true := by
  have : w.sig.getD h default ∈ w.sig := by
    rw [List.getD_eq_getElem?_getD, List.getElem?_eq_getElem hh]
    exact List.getElem_mem _
  exact ⟨hw.may _ this, hw.scp _ this⟩
theorem envE_ok {w : Wd} (hw : Closed w) : EnvOk (envE w) := by
  refine ⟨fun h T e σ => ?_, fun h T e σ => ?_⟩
  all_goals
    simp only [envE] at e
    split at e
    · rename_i hh
      cases e
      obtain ⟨h1, h2⟩ := closed_mem hw hh.1
      exact sub_scoped _ (may_parts h1).1 0 0 h2 σ fun i hi => by omega
    · cases e
theorem smay_one {x : Tm} (h : mayB x = true) : smayB ⟨[x], 0⟩ = true := by
  unfold smayB
  rw [maysB_iff.2 (by simpa using h)]
  simp
theorem applyR_goes {t a : Tm} (ht : mayB t = true) (ha : mayB a = true) (h : (applyR t ⟨[a], 0⟩).2 = 0) : PS (E.sub (E.one (em a)) (em t)) (em (applyR t ⟨[a], 0⟩).1) := by
  unfold applyR at h ⊢
  rw [ht, smay_one ha, Bool.and_self, if_pos rfl] at h ⊢
  cases hx : ap 40000 t ⟨[a], 0⟩ 0 with
  | er e m =>
    rw [hx] at h
    have := ap_err _ _ _ _ _ _ hx
    simp only [outD] at h
    omega
  | ok u m =>
    rw [hx] at h
    simp only [outD] at h ⊢
    by_cases hm : mayB u = true
    · rw [if_pos hm]
      have := (ap_goes 40000 _ _ _ u m (may_parts ht).1 ⟨by simpa using (may_parts ha).1, by simp⟩ hx).2
      rwa [sg_one] at this
    · rw [if_neg hm] at h; cases h
theorem drop_arg {m : Tm} {i : Nat} (hi : i < m.args.length) : m.args.drop i = m.arg i :: m.args.drop (i + 1) := by
  rw [List.drop_eq_getElem_cons hi, arg_eq hi]
theorem spW_spn {X : Env} {G : Gam} {m : Tm} (hm : mayB m = true) {T : Nat → Tm → Int} (hT : ∀ i, i < m.args.length → ∀ x A, mayB x = true → T i x = 0 → J A (em x) → Typ X G (m.arg i) A) : ∀ (k i : Nat) (t : Tm) (T0 : E), i + k = m.args.length → mayB t = true → J T0 (em t) → (spW T m.arg k i t).2 = 0 →
    ∃ T1, Spn X G (m.args.drop i) T0 T1 ∧ J T1 (em (spW T m.arg k i t).1)
  | 0, i, t, T0, hi, _, hj, _ => by
    rw [List.drop_eq_nil_of_le (by omega)]
    exact ⟨T0, .nil, hj⟩
  | k + 1, i, t, T0, hi, ht, hj, h => by
    obtain ⟨e1, e2, e3, e4⟩ := spW_ok h
    have hlt : i < m.args.length := by omega
    have hn := (may_parts ht).1
    have hl := pi_len hn e1
    have ha := may_sub (arg_mem hlt) hm
    rw [em_pi hn e1] at hj
    obtain ⟨A', B', p', jA, jB⟩ := J_to_pi hj.symm (.refl _)
    have m0 := may_sub (arg_mem (t := t) (i := 0) (by omega)) ht
    have m1 := may_sub (arg_mem (t := t) (i := 1) (by omega)) ht
    have hta := hT i hlt _ A' m0 e2 jA.symm
    have hap : PS (E.sub (E.one (em (m.arg i))) (em (t.arg 1))) (em (applyR (t.arg 1) ⟨[m.arg i], 0⟩).1) := applyR_goes m1 ha e3
    obtain ⟨T1, s', j'⟩ := spW_spn hm hT k (i + 1) _ (E.sub (E.one (em (m.arg i))) B') (by omega) (applyR_may _ _) ((jB.symm.sub _).trans (J.of hap)) (by rw [← e4]; exact h)
    rw [drop_arg hlt, e4]
    exact ⟨T1, .cons p' hta s', j'⟩
end Go.Proofs.Ytkmpfdecjmnccaa
/- With a term of its type for the last variable a term has what its type is then, if nothing is too great. -/
set_option linter.unusedVariables false
set_option linter.unusedSimpArgs false
namespace Go.Proofs.Ytkmpfdecjmnccaa
open E
structure CG (w : Wd) (c : List Tm) : Prop where
  may : ∀ x ∈ c, mayB x = true
  kd : ∀ i : Nat, i < c.length → Kd (envE w) (ctxE c) (varW c i).1
theorem CG.nodes {w : Wd} {c : List Tm} (h : CG w c) : ∀ x ∈ c, nodesB x = true := fun x hx => (may_parts (h.may x hx)).1
theorem CG.nil (w : Wd) : CG w [] := ⟨fun x hx => (by simp at hx), fun i hi => (by simp at hi)⟩
theorem CG.more {w : Wd} (hw : Closed w) {c : List Tm} (h : CG w c) {a : Tm} (ha : mayB a = true) (k : Kd (envE w) (ctxE c) a) : CG w (c ++ [a]) := by
  have hX := envE_ok hw
  have hna := (may_parts ha).1
  refine ⟨fun x hx => ?_, fun i hi => ?_⟩
  · rcases List.mem_append.1 hx with hx | hx
    · exact h.may x hx
    · obtain rfl : x = a := by simpa using hx
      exact ha
  · rw [ctxE_ext h.nodes hna]
    simp at hi
    cases i with
    | zero =>
      rw [show ((0 : Nat) : Int) = 0 from rfl, varW_zero]
      exact kd_wk hX a hna _ _ 0 (wkG_new _ _) k
    | succ i =>
      rw [show ((i + 1 : Nat) : Int) = (i : Int) + 1 by omega, varW_succ c a (by omega) (by omega)]
      exact kd_wk hX _ (varW_nodes h.nodes (by omega) (by omega)) _ _ 0 (wkG_new _ _) (h.kd i (by omega))
theorem applyR_kd {X : Env} (hX : EnvOk X) {G : Gam} {t a : Tm} {A : E} (ht : mayB t = true) (ha : mayB a = true) (hk : Kd X (ext G A) t) (hta : Typ X G a A) : (applyR t ⟨[a], 0⟩).2 = 4 ∨ (applyR t ⟨[a], 0⟩).2 = 0 ∧ Kd X G (applyR t ⟨[a], 0⟩).1 := by
  unfold applyR
  rw [ht, smay_one ha, Bool.and_self, if_pos rfl]
  rcases kd_keeps hX 40000 t ⟨[a], 0⟩ 0 _ _ (may_parts ht).1 ⟨by simpa using (may_parts ha).1, by simp⟩ hk (TySub.one hta) with ⟨k, e⟩ | ⟨u, k, e, ku⟩
  · rw [e]; exact .inl rfl
  · rw [e]
    simp only [outD]
    by_cases hm : mayB u = true
    · rw [if_pos hm]; exact .inr ⟨rfl, ku⟩
    · rw [if_neg hm]; exact .inl rfl
theorem spn_spW {X : Env} (hX : EnvOk X) {G : Gam} {m : Tm} (hm : mayB m = true) {T : Nat → Tm → Int} (hT : ∀ i, i < m.args.length → ∀ x A, mayB x = true → Kd X G x → Typ X G (m.arg i) A → J A (em x) → T i x = 0 ∨ T i x = 4) : ∀ (k i : Nat) (t : Tm) (T0 T1 : E), i + k = m.args.length → mayB t = true → Kd X G t → J T0 (em t) → Spn X G (m.args.drop i) T0 T1 →
    (spW T m.arg k i t).2 = 4 ∨ (spW T m.arg k i t).2 = 0 ∧ J T1 (em (spW T m.arg k i t).1)
  | 0, i, t, T0, T1, hi, _, _, hj, hs => by
    rw [List.drop_eq_nil_of_le (by omega)] at hs
    cases hs
    exact .inr ⟨rfl, hj⟩
  | k + 1, i, t, T0, T1, hi, ht, hk, hj, hs => by
    have hlt : i < m.args.length := by omega
    have hn := (may_parts ht).1
    have ha := may_sub (arg_mem hlt) hm
    rw [drop_arg hlt] at hs
    cases hs with
    | cons p ta s =>
      obtain ⟨k1, jA, jB⟩ := em_to_pi hn hj p
      have hl := pi_len hn k1
      have m0 := may_sub (arg_mem (t := t) (i := 0) (by omega)) ht
      have m1 := may_sub (arg_mem (t := t) (i := 1) (by omega)) ht
      have hkk : Kd X G (t.arg 0) ∧ Kd X (ext G (em (t.arg 0))) (t.arg 1) := by
        cases hk with
        | sort k0 => omega
        | pi _ h0 h1 => exact ⟨h0, h1⟩
        | fam k2 => omega
      have hta := typ_to (may_parts ha).1 ta jA
      simp only [spW]
      rw [if_neg (by simpa using k1)]
      rcases hT i hlt _ _ m0 hkk.1 ta jA with e | e
      · rw [if_neg (by simpa using e)]
        rcases applyR_kd hX m1 ha hkk.2 hta with e2 | ⟨e2, ku⟩
        · rw [if_pos (by rw [e2]; decide), e2]; exact .inl rfl
        · rw [if_neg (by simpa using e2)]
          have hap := applyR_goes m1 ha e2
          exact spn_spW hX hm hT k (i + 1) _ _ T1 (by omega) (applyR_may _ _) ku ((jB.sub _).trans (J.of hap)) s
      · rw [if_pos (by rw [e]; decide), e]; exact .inl rfl
theorem cm_end {w : Wd} {m a : Tm} {c : List Tm} {T1 T : E} {r : Tm × Int} (h3 : m.kind ≠ 3) (ha2 : a.kind = 2) (ha : mayB a = true) (hr : cmW w c (fun i x => argW w m i x c) m = r) (hrm : mayB r.1 = true) (hj : J T (em a)) (j : J T1 T) (h : r.2 = 4 ∨ r.2 = 0 ∧ J T1 (em r.1)) : termW w m a c = 0 ∨ termW w m a c = 4 := by
  rw [termW_eq]
  unfold termB
  rw [if_neg h3, if_neg (by simpa using ha2), hr]
  rcases h with e | ⟨e, j1⟩
  · rw [if_pos (by rw [e]; decide), e]; exact .inr rfl
  · rw [if_neg (by simpa using e)]
    have := em_same (may_parts hrm).1 (may_parts ha).1 (j1.symm.trans (j.trans hj))
    rw [this, sameB_refl]
    exact .inl rfl
end Go.Proofs.Ytkmpfdecjmnccaa
/- What is put for metas in terms as such. -/
set_option linter.unusedVariables false
set_option linter.unusedSimpArgs false
namespace Go.Proofs.Ytkmpfdecjmnccaa
open E
def rp (S : Int → E) : E → E
  | .var i => .var i
  | .con k h => if k = 6 then S h else .con k h
  | .lam b => .lam (rp S b)
  | .app f a => .app (rp S f) (rp S a)
def Shut (S : Int → E) : Prop := ∀ h σ, E.sub σ (S h) = S h
theorem rp_ren {S : Int → E} (hS : Shut S) : ∀ (t : E) (ρ : Nat → Nat), rp S (E.ren ρ t) = E.ren ρ (rp S t)
  | .var i, ρ => rfl
  | .con k h, ρ => by
    simp only [E.ren, rp]
    split
    · rw [ren_var_sub, hS]
    · rfl
  | .lam b, ρ => by simp only [E.ren, rp, rp_ren hS b]
  | .app f a, ρ => by simp only [E.ren, rp, rp_ren hS f, rp_ren hS a]
theorem rp_ups {S : Int → E} (hS : Shut S) (σ : Nat → E) : (fun i => rp S (ups σ i)) = ups fun i => rp S (σ i) := by
  funext i
  cases i with
  | zero => rfl
  | succ i => exact rp_ren hS _ _
theorem rp_sub {S : Int → E} (hS : Shut S) : ∀ (t : E) (σ : Nat → E), rp S (E.sub σ t) = E.sub (fun i => rp S (σ i)) (rp S t)
  | .var i, σ => rfl
  | .con k h, σ => by
    simp only [E.sub, rp]
    split
    · rw [hS]
    · rfl
  | .lam b, σ => by simp only [E.sub, rp, rp_sub hS b, rp_ups hS]
  | .app f a, σ => by simp only [E.sub, rp, rp_sub hS f, rp_sub hS a]
theorem rp_one {S : Int → E} (hS : Shut S) (a b : E) : rp S (E.sub (E.one a) b) = E.sub (E.one (rp S a)) (rp S b) := by
  rw [rp_sub hS]
  congr 1
  funext i
  cases i <;> rfl
theorem rp_P {S : Int → E} (hS : Shut S) {t t' : E} (h : P t t') : P (rp S t) (rp S t') := by
  induction h with
  | var i => exact .var i
  | con k h => exact P.refl _
  | lam _ ih => exact .lam ih
  | app _ _ ih1 ih2 => exact .app ih1 ih2
  | beta _ _ ih1 ih2 =>
    rw [rp_one hS]
    exact .beta ih1 ih2
theorem rp_PS {S : Int → E} (hS : Shut S) {t t' : E} (h : PS t t') : PS (rp S t) (rp S t') := by
  induction h with
  | refl => exact .refl _
  | head p _ ih => exact .head (rp_P hS p) ih
theorem rp_J {S : Int → E} (hS : Shut S) {t t' : E} (h : J t t') : J (rp S t) (rp S t') := by
  obtain ⟨x, h1, h2⟩ := h
  exact ⟨_, rp_PS hS h1, rp_PS hS h2⟩
theorem rp_apps (S : Int → E) : ∀ (l : List E) (f : E), rp S (E.apps f l) = E.apps (rp S f) (l.map (rp S))
  | [], f => rfl
  | a :: l, f => by
    rw [List.map_cons, apps_cons, apps_cons, rp_apps S l]
    rfl
theorem rp_pi (S : Int → E) (A B : E) : rp S (piE A B) = piE (rp S A) (rp S B) := by
  unfold piE
  rw [rp_apps]
  rfl
theorem rp_fam {S : Int → E} (hS : Shut S) {T : E} (h : IsFam T) : IsFam (rp S T) := by
  obtain ⟨c, l, h1⟩ := h
  have := rp_PS hS h1
  rw [rp_apps] at this
  exact ⟨c, _, this⟩
/-! ### so many binders -/
def lams : Nat → E → E
  | 0, b => b
  | n + 1, b => .lam (lams n b)
def upsn : Nat → (Nat → E) → Nat → E
  | 0, σ => σ
  | n + 1, σ => upsn n (ups σ)
theorem sub_lams : ∀ (n : Nat) (σ : Nat → E) (b : E), E.sub σ (lams n b) = lams n (E.sub (upsn n σ) b)
  | 0, σ, b => rfl
  | n + 1, σ, b => by
    simp only [lams, E.sub, upsn]
    rw [sub_lams n]
theorem upsn_get : ∀ (n : Nat) (σ : Nat → E) (v : Nat), upsn n σ v = if v < n then .var v else E.ren (fun i => i + n) (σ (v - n))
  | 0, σ, v => by
    rw [if_neg (by omega)]
    show σ v = E.ren (fun i => i) (σ v)
    rw [ren_var_sub]
    exact (sub_var _).symm
  | n + 1, σ, v => by
    simp only [upsn]
    rw [upsn_get n]
    by_cases h : v < n
    · rw [if_pos h, if_pos (by omega)]
    · rw [if_neg h]
      by_cases h2 : v = n
      · subst h2
        rw [if_pos (by omega), Nat.sub_self]
        simp [ups, E.ren]
      · rw [if_neg (by omega)]
        obtain ⟨m, hm⟩ : ∃ m, v - n = m + 1 := ⟨v - n - 1, by omega⟩
        rw [hm, show v - (n + 1) = m by omega]
        simp only [ups]
        rw [ren_ren]
        congr 1
        funext i
        omega
def vS (l : List E) : Nat → E := fun v => if v < l.length then l.getD (l.length - 1 - v) (.con 0 0) else .var (v - l.length)
theorem lams_beta : ∀ (l : List E) (b : E), PS (E.apps (lams l.length b) l) (E.sub (vS l) b)
  | [], b => by
    show PS b (E.sub (vS []) b)
    have : vS [] = E.var := by funext v; unfold vS; rw [if_neg (by simp)]; rfl
    rw [this, sub_var]
    exact .refl _
  | a :: r, b => by
    have h1 : PS (E.apps (lams (a :: r).length b) (a :: r)) (E.apps (E.sub (E.one a) (lams r.length b)) r) :=
      PS.apps (f := E.app (E.lam (lams r.length b)) a) (.head (.beta (P.refl _) (P.refl _)) (.refl _)) (all2_refl r)
    rw [sub_lams] at h1
    have h2 := lams_beta r (E.sub (upsn r.length (E.one a)) b)
    rw [sub_sub] at h2
    have h3 : (fun i => E.sub (vS r) (upsn r.length (E.one a) i)) = vS (a :: r) := by
      funext v
      rw [upsn_get]
      by_cases h : v < r.length
      · rw [if_pos h]
        show vS r v = _
        unfold vS
        rw [if_pos h, if_pos (by simp; omega)]
        obtain ⟨m, hm⟩ : ∃ m, r.length - v = m + 1 := ⟨r.length - v - 1, by omega⟩
        rw [show (a :: r).length - 1 - v = m + 1 by simp; omega, show r.length - 1 - v = m by omega]
        rfl
      · rw [if_neg h]
        by_cases h2 : v = r.length
        · subst h2
          rw [Nat.sub_self]
          show E.sub (vS r) (E.ren (fun i => i + r.length) a) = _
          rw [sub_ren]
          have : (fun i => vS r (i + r.length)) = E.var := by
            funext i
            unfold vS
            rw [if_neg (by omega), Nat.add_sub_cancel]
          rw [this, sub_var]
          unfold vS
          rw [if_pos (by simp)]
          simp
        · obtain ⟨m, hm⟩ : ∃ m, v - r.length = m + 1 := ⟨v - r.length - 1, by omega⟩
          rw [hm]
          show vS r (m + r.length) = _
          unfold vS
          rw [if_neg (by omega), if_neg (by simp; omega)]
          congr 1
          simp
          omega
    rw [h3] at h2
    exact h1.trans h2
theorem sub_agree : ∀ (t : Tm), nodesB t = true → ∀ (n : Nat) (M : Int), scopedB t n M = true → ∀ σ τ : Nat → E, (∀ i, i < n → σ i = τ i) → E.sub σ (em t) = E.sub τ (em t) := by
  refine Tm.ind fun t ih hn n M hs σ τ hσ => ?_
  rw [scoped_iff] at hs
  have h0 := node_head (node_here hn)
  have hup : ∀ i, i < n + 1 → ups σ i = ups τ i := fun i hi => by
    cases i with
    | zero => rfl
    | succ i => simp only [ups]; rw [hσ i (by omega)]
  by_cases h3 : t.kind = 3
  · have hl := lam_len hn h3
    rw [em_lam h3 (by omega)]
    simp only [E.sub]
    congr 1
    have := hs.2.2 0 (by omega)
    rw [lam_bnd hn h3] at this
    exact ih _ (arg_mem (by omega)) (node_args hn 0 (by omega)) (n + 1) M (by simpa using this) _ _ hup
  · rw [em_app h3, sub_apps, sub_apps]
    congr 1
    · unfold hd
      by_cases h4 : t.kind = 4
      · rw [if_pos h4]
        have := hs.1 h4
        exact hσ _ (by omega)
      · rw [if_neg h4]; rfl
    · unfold ems
      rw [List.map_map, List.map_map]
      refine List.map_congr_left fun i hi => ?_
      have hi : i < t.args.length := by simpa using hi
      have hsi := hs.2.2 i hi
      simp only [Function.comp_apply]
      unfold wrap
      have hbl := bnd_le t i
      by_cases hb : bnd t i = 1
      · rw [if_pos hb]
        simp only [E.sub]
        congr 1
        rw [hb] at hsi
        exact ih _ (arg_mem hi) (node_args hn i hi) (n + 1) M (by simpa using hsi) _ _ hup
      · rw [if_neg hb]
        rw [show bnd t i = 0 by omega, Int.natCast_zero, Int.add_zero] at hsi
        exact ih _ (arg_mem hi) (node_args hn i hi) n M hsi _ _ hσ
end Go.Proofs.Ytkmpfdecjmnccaa
/- What is filled has the filled type. -/
set_option linter.unusedVariables false
set_option linter.unusedSimpArgs false
set_option maxRecDepth 100000
namespace Go.Proofs.Ytkmpfdecjmnccaa
open E
theorem applyR_any {t : Tm} {s : Sb} (ht : mayB t = true) (h : (applyR t s).2 = 0) : mayB (applyR t s).1 = true ∧ PS (E.sub (sg s) (em t)) (em (applyR t s).1) := by
  unfold applyR at h ⊢
  cases hs : smayB s
  · rw [hs, Bool.and_false, if_neg (by decide)] at h; cases h
  · rw [ht, hs, Bool.and_self, if_pos rfl] at h
    rw [ht, Bool.and_self, if_pos rfl]
    obtain ⟨s1, s2, s3, s4⟩ := smay_parts hs
    cases hx : ap 40000 t s 0 with
    | er e m =>
      rw [hx] at h
      have := ap_err _ _ _ _ _ _ hx
      simp only [outD] at h
      omega
    | ok u m =>
      rw [hx] at h
      simp only [outD] at h ⊢
      by_cases hm : mayB u = true
      · rw [if_pos hm]
        exact ⟨hm, (ap_goes 40000 _ _ _ u m (may_parts ht).1 ⟨fun x hx => (may_parts (s4 x hx)).1, s2⟩ hx).2⟩
      · rw [if_neg hm] at h; cases h
def metaE (ms : List Md) (th : List Tm) (h : Int) : E := if 0 ≤ h ∧ h < th.length then lams (ms.getD h.toNat default).ctx.length (em (th.getD h.toNat default)) else .con 6 h
structure ThFit (ms : List Md) (th : List Tm) : Prop where
  may : ∀ x ∈ th, mayB x = true
  scp : ∀ h : Nat, h < th.length → ∃ M, scopedB (th.getD h default) ((ms.getD h default).ctx.length : Nat) M = true
theorem ThFit.shut {ms : List Md} {th : List Tm} (hf : ThFit ms th) : Shut (metaE ms th) := by
  intro h σ
  unfold metaE
  split
  · rename_i hh
    have hlt : h.toNat < th.length := by omega
    obtain ⟨M, hs⟩ := hf.scp h.toNat hlt
    rw [sub_lams, sub_scoped _ (may_parts (hf.may _ (getD_mem (a := th) hlt))).1 _ M hs _ fun i hi => by rw [upsn_get, if_pos hi]]
  · rfl
theorem rp_wrap (S : Int → E) (b : Nat) (e : E) : rp S (wrap b e) = wrap b (rp S e) := by
  unfold wrap
  split <;> rfl
theorem PS_wrap {b : Nat} {e e' : E} (h : PS e e') : PS (wrap b e) (wrap b e') := by
  unfold wrap
  split
  · exact PS.lam h
  · exact h
theorem fill_args {th : List Tm} {t : Tm} {n : Int} {x : Tm} (h : fillT applyR maysB th t n = (x, 0)) :
    (∀ i, i < t.args.length → (fillF applyR maysB th t n i).2 = 0) ∧ fillN applyR maysB th t.kind t.head ((List.range t.args.length).map fun i => (fillF applyR maysB th t n i).1) n = (x, 0) := by
  rw [fillT_eq] at h
  by_cases hz : firstE (fillF applyR maysB th t n) t.args.length = 0
  · rw [if_pos hz] at h
    exact ⟨(firstE_zero _ _).1 hz, h⟩
  · rw [if_neg hz] at h
    have := congrArg Prod.snd h
    exact absurd this hz
theorem fill_goes {ms : List Md} {th : List Tm} (hf : ThFit ms th) : ∀ (t : Tm) (n : Int) (x : Tm), nodesB t = true → Fit ms t → fillT applyR maysB th t n = (x, 0) → nodesB x = true ∧ PS (rp (metaE ms th) (em t)) (em x) := by
  refine Tm.ind fun t ih n x hn hfit h => ?_
  obtain ⟨_, h6, ha⟩ := hfit
  obtain ⟨hz, hN⟩ := fill_args h
  have hF : ∀ i, i < t.args.length → nodesB (fillF applyR maysB th t n i).1 = true ∧ PS (rp (metaE ms th) (em (t.arg i))) (em (fillF applyR maysB th t n i).1) := fun i hi =>
    ih _ (arg_mem hi) _ _ (node_args hn i hi) (ha i hi) (Prod.ext rfl (hz i hi))
  generalize hxs : ((List.range t.args.length).map fun i => (fillF applyR maysB th t n i).1) = xs at hN
  have hxl : xs.length = t.args.length := by rw [← hxs]; simp
  have hxg : ∀ i, i < t.args.length → xs.getD i default = (fillF applyR maysB th t n i).1 := fun i hi => by
    rw [← hxs]
    simp [List.getD, List.getElem?_map, List.getElem?_range hi]
  have hxn : ∀ y ∈ xs, nodesB y = true := getD_all fun i hi => by rw [hxg i (by omega)]; exact (hF i (by omega)).1
  unfold fillN at hN
  by_cases hk : t.kind = 6
  · rw [if_neg (by simpa using hk)] at hN
    by_cases hh : t.head ≥ th.length
    · rw [if_pos hh] at hN
      have := congrArg Prod.snd hN
      cases this
    rw [if_neg hh] at hN
    by_cases hm : maysB xs = true
    · rw [if_pos hm] at hN
      have h0 := node_head (node_here hn)
      have hlt : t.head.toNat < th.length := by omega
      have hmt := hf.may _ (getD_mem (a := th) hlt)
      obtain ⟨g1, g2⟩ := applyR_any (s := ⟨xs, n⟩) hmt (by rw [hN])
      rw [hN] at g1 g2
      refine ⟨(may_parts g1).1, PS.trans ?_ g2⟩
      obtain ⟨e1, e2⟩ := h6 hk
      have hem : em t = E.apps (.con 6 t.head) (t.args.map em) := by
        rw [em_app (by omega)]
        have h1 : hd t = .con 6 t.head := by unfold hd; rw [if_neg (by omega), hk]
        rw [h1]
        congr 1
        unfold ems
        refine List.ext_getElem (by simp) fun i a b => ?_
        have hi : i < t.args.length := by simpa using b
        simp only [List.getElem_map, List.getElem_range]
        unfold wrap
        rw [bnd_zero (by omega) (by omega), if_neg (by decide), arg_eq hi]
      rw [hem, rp_apps]
      have hS : rp (metaE ms th) (.con 6 t.head) = lams xs.length (em (th.getD t.head.toNat default)) := by
        show (if (6 : Int) = 6 then metaE ms th t.head else _) = _
        rw [if_pos rfl]
        unfold metaE
        rw [if_pos ⟨h0, by omega⟩, e2, hxl]
      rw [hS]
      have hall : All2 PS ((t.args.map em).map (rp (metaE ms th))) (xs.map em) := by
        refine all2_of (by simp [hxl]) fun i a b => ?_
        have hi : i < t.args.length := by simpa using a
        have := (hF i hi).2
        rw [← hxg i hi] at this
        simp only [List.getElem_map]
        rw [← arg_eq hi] at this
        have e : xs.getD i default = xs[i]'(by omega) := by simp [List.getD, List.getElem?_eq_getElem (show i < xs.length by omega)]
        rwa [e] at this
      have hb := lams_beta (xs.map em) (em (th.getD t.head.toNat default))
      rw [List.length_map] at hb
      refine (PS.apps (.refl _) hall).trans ?_
      obtain ⟨M, hsc⟩ := hf.scp t.head.toNat hlt
      rw [e2, ← hxl] at hsc
      rw [sub_agree _ (may_parts hmt).1 _ M hsc (vS (xs.map em)) (sg ⟨xs, n⟩) fun i hi => ?_] at hb
      · exact hb
      · unfold vS sg ofS
        rw [if_pos (by simpa using hi), if_pos (show (i : Int) < (xs.length : Int) by omega), List.length_map]
        rw [List.getD_eq_getElem?_getD, List.getElem?_map, Int.toNat_natCast, List.getElem?_eq_getElem (by omega)]
        simp [List.getD, List.getElem?_eq_getElem (show xs.length - 1 - i < xs.length by omega)]
    · rw [if_neg hm] at hN
      have := congrArg Prod.snd hN
      cases this
  · rw [if_pos hk] at hN
    obtain rfl := congrArg Prod.fst hN
    show nodesB (Tm.mk t.kind t.head xs) = true ∧ PS _ (em (Tm.mk t.kind t.head xs))
    refine ⟨nodes_mk (node_same (node_here hn) hxl) hxn, ?_⟩
    by_cases h3 : t.kind = 3
    · have hl := lam_len hn h3
      rw [em_lam h3 (by omega), em_lam (t := .mk t.kind t.head xs) h3 (by show 0 < xs.length; omega)]
      have := (hF 0 (by omega)).2
      rw [← hxg 0 (by omega)] at this
      exact PS.lam this
    · rw [em_app h3, em_app (t := .mk t.kind t.head xs) h3, rp_apps]
      have hh : rp (metaE ms th) (hd t) = hd (.mk t.kind t.head xs) := by
        unfold hd
        show rp _ (if t.kind = 4 then _ else _) = (if t.kind = 4 then _ else _)
        split
        · rfl
        · show (if t.kind = 6 then _ else _) = _
          rw [if_neg hk]; rfl
      rw [hh]
      refine PS.apps (.refl _) (all2_of (by simp [ems_len, hxl, mk_args]) fun i a b => ?_)
      have hi : i < t.args.length := by simpa [ems_len] using a
      simp only [List.getElem_map]
      rw [ems_getElem, ems_getElem, bnd_mk t hxl, rp_wrap]
      have := (hF i hi).2
      rw [← hxg i hi] at this
      exact PS_wrap this
end Go.Proofs.Ytkmpfdecjmnccaa
/- What is filled has the filled type: terms, types. -/
set_option linter.unusedVariables false
set_option linter.unusedSimpArgs false
set_option maxRecDepth 100000
namespace Go.Proofs.Ytkmpfdecjmnccaa
open E
def GamRp (S : Int → E) (G G' : Gam) : Prop := ∀ i T, G i = some T → ∃ T', G' i = some T' ∧ J T' (rp S T)
theorem GamRp.ext {S : Int → E} (hS : Shut S) {G G' : Gam} (h : GamRp S G G') {A A' : E} (hj : J A' (rp S A)) : GamRp S (ext G A) (Go.Proofs.Ytkmpfdecjmnccaa.ext G' A') := by
  intro i T hT
  cases i with
  | zero =>
    simp only [Go.Proofs.Ytkmpfdecjmnccaa.ext, Option.some.injEq] at hT ⊢
    subst hT
    exact ⟨_, rfl, by rw [rp_ren hS]; exact hj.ren _⟩
  | succ i =>
    simp only [Go.Proofs.Ytkmpfdecjmnccaa.ext] at hT ⊢
    obtain ⟨B, hB, rfl⟩ := Option.map_eq_some_iff.1 hT
    obtain ⟨B', e, j⟩ := h i B hB
    exact ⟨_, by rw [e]; rfl, by rw [rp_ren hS]; exact j.ren _⟩
structure FillsE (X X' : Env) (ms : List Md) (th : List Tm) : Prop where
  fit : ThFit ms th
  con : ∀ h T, X.con h = some T → ∃ T', X'.con h = some T' ∧ J T' (rp (metaE ms th) T)
  fam : ∀ h T, X.fam h = some T → ∃ T', X'.fam h = some T' ∧ J T' (rp (metaE ms th) T)
  mts : ∀ h D C, X.mts h = some (D, C) → h < th.length ∧ D.length ≤ 200 ∧ ∃ Gh B, Typ X' Gh (th.getD h default) B ∧ ∀ (xs : List Tm) (n : Int) (G' : Gam), xs.length = D.length → (∀ x ∈ xs, nodesB x = true) → 0 ≤ n →
    (∀ i, i < xs.length → Typ X' G' (xs.getD i default) (E.sub (mS xs i) (rp (metaE ms th) (D.getD i (E.con 0 0))))) → TySub X' G' ⟨xs, n⟩ Gh ∧ J (E.sub (sg ⟨xs, n⟩) B) (E.sub (mS xs xs.length) (rp (metaE ms th) C))
def GoesR (X X' : Env) (G G' : Gam) (S : Int → E) (a x : Tm) : Prop := nodesB x = true ∧ PS (rp S (em a)) (em x) ∧ ∀ A, Typ X G a A → Typ X' G' x (rp S A)
theorem spn_rp {X X' : Env} {G G' : Gam} {S : Int → E} (hS : Shut S) {l l' : List Tm} (h : L2 (GoesR X X' G G' S) l l') : ∀ {T T' T1 : E}, J T' (rp S T) → Spn X G l T T1 → ∃ T1', Spn X' G' l' T' T1' ∧ J T1' (rp S T1) := by
  induction h with
  | nil => intro T T' T1 hj hs; cases hs; exact ⟨T', .nil, hj⟩
  | @cons a x l l' q _ ih =>
    intro T T' T1 hj hs
    obtain ⟨hx, hp, ht⟩ := q
    cases hs with
    | @cons _ _ _ _ _ A B p t s =>
      have hp2 := rp_PS hS p
      rw [rp_pi] at hp2
      obtain ⟨A', B', p', jA, jB⟩ := J_to_pi hj.symm hp2
      have hty := typ_to hx (ht _ t) jA
      have j2 : J (E.sub (E.one (em x)) B') (rp S (E.sub (E.one (em a)) B)) := by
        rw [rp_one hS]
        exact (jB.symm.sub _).trans (J.one (J.of hp).symm _)
      obtain ⟨T1', s', j'⟩ := ih j2 s
      exact ⟨T1', .cons p' hty s', j'⟩
theorem mS_rp {S : Int → E} (hS : Shut S) {l l' : List Tm} (h : ∀ i, i < l.length → PS (rp S (em (l.getD i default))) (em (l'.getD i default))) {i : Nat} (hi : i ≤ l.length) (C : E) : J (rp S (E.sub (mS l i) C)) (E.sub (mS l' i) (rp S C)) := by
  rw [rp_sub hS]
  refine J.subs _ fun v => ?_
  unfold mS
  by_cases hv : v < i
  · rw [if_pos hv, if_pos hv]; exact .of (h _ (by omega))
  · rw [if_neg hv, if_neg hv]; exact J.rfl
theorem fill_cases {th : List Tm} {t : Tm} {n : Int} (h : ∀ i, i < t.args.length → (fillF applyR maysB th t n i).2 = 4 ∨ (fillF applyR maysB th t n i).2 = 0) :
    (fillT applyR maysB th t n).2 = 4 ∨ (∀ i, i < t.args.length → (fillF applyR maysB th t n i).2 = 0) ∧ ∃ xs : List Tm, xs.length = t.args.length ∧ (∀ i, i < t.args.length → xs.getD i default = (fillF applyR maysB th t n i).1) ∧ fillT applyR maysB th t n = fillN applyR maysB th t.kind t.head xs n := by
  rw [fillT_eq]
  by_cases hz : firstE (fillF applyR maysB th t n) t.args.length = 0
  · rw [if_pos hz]
    refine .inr ⟨(firstE_zero _ _).1 hz, _, by simp, fun i hi => ?_, rfl⟩
    simp [List.getD, List.getElem?_map, List.getElem?_range hi]
  · rw [if_neg hz]
    obtain ⟨j, hj, e, _⟩ := firstE_at _ _ hz
    refine .inl ?_
    show firstE _ _ = 4
    rcases h j hj with e4 | e0
    · rw [← e, e4]
    · rw [e0] at e; exact absurd e.symm hz
theorem spn_args {X : Env} {G : Gam} : ∀ (l : List Tm) (T0 T1 : E), Spn X G l T0 T1 → ∀ i, i < l.length → ∃ A, Typ X G (l.getD i default) A := by
  intro l
  induction l with
  | nil => intro _ _ _ i hi; simp at hi
  | cons a l ihl =>
    intro T0 T1 hsp i hi
    cases hsp with
    | cons p t s' =>
      cases i with
      | zero => exact ⟨_, t⟩
      | succ i => exact ihl _ _ s' i (by simpa using hi)
theorem fill_keeps {X X' : Env} (hX' : EnvOk X') {ms : List Md} {th : List Tm} (hk : FillsE X X' ms th) : ∀ (m : Tm) (n : Int) (G G' : Gam) (T : E), nodesB m = true → Fit ms m → 0 ≤ n → n + m.depth ≤ 1048576 → Typ X G m T → GamRp (metaE ms th) G G' →
    (fillT applyR maysB th m n).2 = 4 ∨ (fillT applyR maysB th m n).2 = 0 ∧ Typ X' G' (fillT applyR maysB th m n).1 (rp (metaE ms th) T) := by
  have hS := hk.fit.shut
  refine Tm.ind fun m ih n G G' T hn hfit h0 h1 ht hg => ?_
  obtain ⟨_, h6, hfa⟩ := hfit
  by_cases k3 : m.kind = 3
  · cases ht with
    | var k => omega
    | con k => omega
    | mt k => omega
    | @lam _ _ _ A B _ p t =>
      have hl := lam_len hn k3
      have hb := lam_bnd hn k3
      have hd := depth_arg (arg_mem (t := m) (i := 0) (by omega))
      have hF := ih _ (arg_mem (t := m) (i := 0) (by omega)) (n + bnd m 0) _ _ _ (node_args hn 0 (by omega)) (hfa 0 (by omega)) (by omega) (by omega) t (hg.ext hS (A' := rp (metaE ms th) A) J.rfl)
      rcases fill_cases (th := th) (t := m) (n := n) (fun i hi => by
        obtain rfl : i = 0 := by omega
        rcases hF with e | ⟨e, _⟩
        · exact .inl e
        · exact .inr e) with e | ⟨hz, xs, hxl, hxg, e⟩
      · exact .inl e
      · rw [e]
        unfold fillN
        rw [if_pos (by omega)]
        refine .inr ⟨rfl, ?_⟩
        rcases hF with e4 | ⟨_, tx⟩
        · have := hz 0 (by omega)
          unfold fillF at this
          rw [e4] at this; cases this
        · have hp := rp_PS hS p
          rw [rp_pi] at hp
          refine .lam k3 hp ?_
          show Typ X' _ (xs.getD 0 default) _
          rw [hxg 0 (by omega)]
          exact tx
  · have harg : ∀ i, i < m.args.length → ∃ A, Typ X G (m.arg i) A := by
      cases ht with
      | var _ _ sp => exact fun i hi => spn_args _ _ _ sp i hi
      | con _ _ sp => exact fun i hi => spn_args _ _ _ sp i hi
      | mt _ _ _ ha => exact fun i hi => ⟨_, ha i hi⟩
      | lam k => exact absurd k k3
    have hmk : m.kind = 4 ∨ m.kind = 5 ∨ m.kind = 6 := by
      cases ht with
      | var k => exact .inl k
      | con k => exact .inr (.inl k)
      | mt k => exact .inr (.inr k)
      | lam k => exact absurd k k3
    have hF : ∀ i, i < m.args.length → ∀ A, Typ X G (m.arg i) A → (fillF applyR maysB th m n i).2 = 4 ∨ (fillF applyR maysB th m n i).2 = 0 ∧ Typ X' G' (fillF applyR maysB th m n i).1 (rp (metaE ms th) A) := fun i hi A hA => by
      have hd := depth_arg (arg_mem (t := m) hi)
      have hb := bnd_le m i
      exact ih _ (arg_mem hi) _ _ _ _ (node_args hn i hi) (hfa i hi) (by omega) (by omega) hA hg
    rcases fill_cases (th := th) (t := m) (n := n) (fun i hi => by
      obtain ⟨A, hA⟩ := harg i hi
      rcases hF i hi A hA with e | ⟨e, _⟩
      · exact .inl e
      · exact .inr e) with e | ⟨hz, xs, hxl, hxg, e⟩
    · exact .inl e
    have hq : ∀ i, i < m.args.length → GoesR X X' G G' (metaE ms th) (m.args.getD i default) (xs.getD i default) := fun i hi => by
      rw [hxg i hi]
      obtain ⟨g1, g2⟩ := fill_goes hk.fit (m.arg i) (n + bnd m i) _ (node_args hn i hi) (hfa i hi) (Prod.ext rfl (hz i hi))
      refine ⟨g1, g2, fun A hA => ?_⟩
      rcases hF i hi A hA with e4 | ⟨_, tx⟩
      · rw [hz i hi] at e4; cases e4
      · exact tx
    have hL2 : L2 (GoesR X X' G G' (metaE ms th)) m.args xs := L2.of _ _ hxl.symm hq
    have hxn : ∀ x ∈ xs, nodesB x = true := getD_all fun i hi => (hq i (by omega)).1
    have hh := node_head (node_here hn)
    rw [e]
    unfold fillN
    cases ht with
    | lam k => exact absurd k k3
    | @var _ _ _ T0 T1 k4 e0 sp j fm =>
      rw [if_pos (by omega)]
      obtain ⟨T0', e0', j0⟩ := hg _ _ e0
      obtain ⟨T1', s', j'⟩ := spn_rp hS hL2 j0 sp
      exact .inr ⟨rfl, .var k4 e0' s' (j'.trans (rp_J hS j)) (rp_fam hS fm)⟩
    | @con _ _ _ T0 T1 k5 e0 sp j fm =>
      rw [if_pos (by omega)]
      obtain ⟨T0', e0', j0⟩ := hk.con _ _ e0
      obtain ⟨T1', s', j'⟩ := spn_rp hS hL2 j0 sp
      exact .inr ⟨rfl, .con k5 e0' s' (j'.trans (rp_J hS j)) (rp_fam hS fm)⟩
    | @mt _ _ _ C D k6 e0 hdl hda j fm =>
      obtain ⟨m1, m2, Gh, B, tB, hsub⟩ := hk.mts _ _ _ e0
      rw [if_neg (by omega), if_neg (by omega)]
      by_cases hm : maysB xs = true
      · rw [if_pos hm]
        have hps : ∀ i, i < m.args.length → PS (rp (metaE ms th) (em (m.args.getD i default))) (em (xs.getD i default)) := fun i hi => (hq i hi).2.1
        obtain ⟨hty, hjB⟩ := hsub xs n G' (by omega) hxn h0 fun i hi => by
          obtain ⟨q1, q2, q3⟩ := hq i (by omega)
          exact typ_to q1 (q3 _ (hda i (by omega))) (mS_rp hS hps (by omega) _)
        have hmt := hk.fit.may _ (getD_mem (a := th) m1)
        have hnt := (may_parts hmt).1
        have hsn : NodesS ⟨xs, n⟩ := ⟨hxn, h0⟩
        unfold applyR
        rw [hmt, smay_of (by omega) h0 (by omega) (maysB_iff.1 hm), Bool.and_self, if_pos rfl]
        rcases ap_keeps hX' 40000 _ _ 0 _ _ _ hnt hsn tB hty with ⟨k, e'⟩ | ⟨u, k, e', tu⟩
        · rw [e']; exact .inl rfl
        · rw [e']
          simp only [outD]
          by_cases hmu : mayB u = true
          · rw [if_pos hmu]
            refine .inr ⟨rfl, typ_to (may_parts hmu).1 tu ?_⟩
            have hj2 := mS_rp hS hps (Nat.le_refl _) C
            rw [hxl] at hjB
            exact (hjB.trans hj2.symm).trans (rp_J hS j)
          · rw [if_neg hmu]; exact .inl rfl
      · rw [if_neg hm]; exact .inl rfl
theorem fill_kd {X X' : Env} (hX' : EnvOk X') {ms : List Md} {th : List Tm} (hk : FillsE X X' ms th) : ∀ (a : Tm) (n : Int) (G G' : Gam), nodesB a = true → Fit ms a → 0 ≤ n → n + a.depth ≤ 1048576 → Kd X G a → GamRp (metaE ms th) G G' →
    (fillT applyR maysB th a n).2 = 4 ∨ (fillT applyR maysB th a n).2 = 0 ∧ Kd X' G' (fillT applyR maysB th a n).1 := by
  have hS := hk.fit.shut
  refine Tm.ind fun a ih n G G' hn hfit h0 h1 ht hg => ?_
  obtain ⟨_, h6, hfa⟩ := hfit
  cases ht with
  | sort k0 =>
    have hl : a.args.length = 0 := by
      have := node_here hn
      unfold nodeOk at this
      simp [k0] at this
      rw [this.2]; rfl
    rcases fill_cases (th := th) (t := a) (n := n) (fun i hi => by omega) with e | ⟨hz, xs, hxl, hxg, e⟩
    · exact .inl e
    · rw [e]
      unfold fillN
      rw [if_pos (by omega)]
      exact .inr ⟨rfl, .sort k0⟩
  | pi k1 q0 q1 =>
    have hl := pi_len hn k1
    have hd0 := depth_arg (arg_mem (t := a) (i := 0) (by omega))
    have hd1 := depth_arg (arg_mem (t := a) (i := 1) (by omega))
    have hb0 := bnd_le a 0
    have hb1 := bnd_le a 1
    have hn0 := node_args hn 0 (by omega)
    have hn1 := node_args hn 1 (by omega)
    have hF0 := ih _ (arg_mem (t := a) (i := 0) (by omega)) (n + bnd a 0) _ _ hn0 (hfa 0 (by omega)) (by omega) (by omega) q0 hg
    have hF1 := ih _ (arg_mem (t := a) (i := 1) (by omega)) (n + bnd a 1) _ _ hn1 (hfa 1 (by omega)) (by omega) (by omega) q1 (hg.ext hS (A' := rp (metaE ms th) (em (a.arg 0))) J.rfl)
    rcases fill_cases (th := th) (t := a) (n := n) (fun i hi => by
      rcases (show i = 0 ∨ i = 1 by omega) with rfl | rfl
      · rcases hF0 with e | ⟨e, _⟩
        · exact .inl e
        · exact .inr e
      · rcases hF1 with e | ⟨e, _⟩
        · exact .inl e
        · exact .inr e) with e | ⟨hz, xs, hxl, hxg, e⟩
    · exact .inl e
    · rw [e]
      unfold fillN
      rw [if_pos (by omega)]
      refine .inr ⟨rfl, ?_⟩
      have z0 := hz 0 (by omega)
      have z1 := hz 1 (by omega)
      unfold fillF at z0 z1
      rw [z0] at hF0
      rw [z1] at hF1
      rcases hF0 with e4 | ⟨_, kx0⟩
      · cases e4
      rcases hF1 with e4 | ⟨_, kx1⟩
      · cases e4
      obtain ⟨g1, g2⟩ := fill_goes hk.fit (a.arg 0) (n + bnd a 0) _ hn0 (hfa 0 (by omega)) (Prod.ext rfl z0)
      obtain ⟨g3, _⟩ := fill_goes hk.fit (a.arg 1) (n + bnd a 1) _ hn1 (hfa 1 (by omega)) (Prod.ext rfl z1)
      refine .pi k1 ?_ ?_
      · show Kd X' G' (xs.getD 0 default)
        rw [hxg 0 (by omega)]; exact kx0
      · show Kd X' (ext G' (em (xs.getD 0 default))) (xs.getD 1 default)
        rw [hxg 0 (by omega), hxg 1 (by omega)]
        exact kd_conv _ g3 _ _ ((CtxJ.self G').ext (J.of g2)) kx1
  | @fam _ _ K K1 k2 e0 sp =>
    have hF : ∀ i, i < a.args.length → ∀ A, Typ X G (a.arg i) A → (fillF applyR maysB th a n i).2 = 4 ∨ (fillF applyR maysB th a n i).2 = 0 ∧ Typ X' G' (fillF applyR maysB th a n i).1 (rp (metaE ms th) A) := fun i hi A hA => by
      have hd := depth_arg (arg_mem (t := a) hi)
      have hb := bnd_le a i
      exact fill_keeps hX' hk _ _ _ _ _ (node_args hn i hi) (hfa i hi) (by omega) (by omega) hA hg
    rcases fill_cases (th := th) (t := a) (n := n) (fun i hi => by
      obtain ⟨A, hA⟩ := spn_args _ _ _ sp i hi
      rcases hF i hi A hA with e | ⟨e, _⟩
      · exact .inl e
      · exact .inr e) with e | ⟨hz, xs, hxl, hxg, e⟩
    · exact .inl e
    have hq : ∀ i, i < a.args.length → GoesR X X' G G' (metaE ms th) (a.args.getD i default) (xs.getD i default) := fun i hi => by
      rw [hxg i hi]
      obtain ⟨g1, g2⟩ := fill_goes hk.fit (a.arg i) (n + bnd a i) _ (node_args hn i hi) (hfa i hi) (Prod.ext rfl (hz i hi))
      refine ⟨g1, g2, fun A hA => ?_⟩
      rcases hF i hi A hA with e4 | ⟨_, tx⟩
      · rw [hz i hi] at e4; cases e4
      · exact tx
    have hL2 : L2 (GoesR X X' G G' (metaE ms th)) a.args xs := L2.of _ _ hxl.symm hq
    rw [e]
    unfold fillN
    rw [if_pos (by omega)]
    obtain ⟨T0', e0', j0⟩ := hk.fam _ _ e0
    obtain ⟨T1', s', j'⟩ := spn_rp hS hL2 j0 sp
    exact .inr ⟨rfl, .fam k2 e0' s'⟩
end Go.Proofs.Ytkmpfdecjmnccaa
/- What the check tells, and what has which whatever is left to reduce: with metas. -/
set_option linter.unusedVariables false
set_option linter.unusedSimpArgs false
set_option maxRecDepth 100000
namespace Go.Proofs.Ytkmpfdecjmnccaa
open E
def envM (w : Wd) : Env := { envE w with mts := fun h => if h < w.metas.length then some ((w.metas.getD h default).ctx.map em, em (w.metas.getD h default).t) else none }
structure ClosedM (w : Wd) : Prop where
  may : ∀ x ∈ w.sig, mayB x = true
  scp : ∀ x ∈ w.sig, scopedB x 0 0 = true
  mm : ∀ h, h < w.metas.length → mayB (w.metas.getD h default).t = true ∧ ∀ x ∈ (w.metas.getD h default).ctx, mayB x = true
  ms : ∀ h, h < w.metas.length → (∀ i, i < (w.metas.getD h default).ctx.length → ∃ M, scopedB ((w.metas.getD h default).ctx.getD i default) i M = true) ∧ ∃ M, scopedB (w.metas.getD h default).t ((w.metas.getD h default).ctx.length : Nat) M = true
theorem ClosedM.plain {w : Wd} (h : ClosedM w) : Closed ⟨w.sig, []⟩ := ⟨h.may, h.scp, rfl⟩
theorem envM_ok {w : Wd} (h : ClosedM w) : EnvOk (envM w) := ⟨(envE_ok h.plain).con, (envE_ok h.plain).fam⟩
theorem closedM_mem {w : Wd} (hw : ClosedM w) {h : Nat} (hh : h < w.sig.length) : mayB (w.sig.getD h default) = true ∧ scopedB (w.sig.getD h default) 0 0 = true := closed_mem hw.plain hh
theorem mtW_each {T : Nat → Tm → Int} {D l : List Tm} {n : Int} : ∀ (k i : Nat), mtW T D l n k i = 0 → ∀ j, i ≤ j → j < i + k → (applyR (D.getD j default) ⟨l.take j, n⟩).2 = 0 ∧ T j (applyR (D.getD j default) ⟨l.take j, n⟩).1 = 0
  | 0, i, h, j, h1, h2 => by omega
  | k + 1, i, h, j, h1, h2 => by
    obtain ⟨e1, e2, e3⟩ := mtW_ok h
    rcases Nat.eq_or_lt_of_le h1 with rfl | h1
    · exact ⟨e1, e2⟩
    · exact mtW_each k (i + 1) e3 j h1 (by omega)
theorem mtW_cases {T : Nat → Tm → Int} {D l : List Tm} {n : Int} : ∀ (k i : Nat), (∀ j, i ≤ j → j < i + k → ((applyR (D.getD j default) ⟨l.take j, n⟩).2 = 0 ∧ (T j (applyR (D.getD j default) ⟨l.take j, n⟩).1 = 0 ∨ T j (applyR (D.getD j default) ⟨l.take j, n⟩).1 = 4)) ∨ (applyR (D.getD j default) ⟨l.take j, n⟩).2 = 4) → mtW T D l n k i = 0 ∨ mtW T D l n k i = 4
  | 0, i, h => .inl rfl
  | k + 1, i, h => by
    rcases h i (Nat.le_refl i) (by omega) with ⟨h1, h2 | h2⟩ | h1
    · rw [mtW_go h1 h2]
      exact mtW_cases k (i + 1) fun j a b => h j (by omega) (by omega)
    · simp only [mtW]
      rw [if_neg (by simpa using h1), if_pos (by rw [h2]; decide), h2]
      exact .inr rfl
    · simp only [mtW]
      rw [if_pos (by rw [h1]; decide), h1]
      exact .inr rfl
theorem map_getD {l : List Tm} {i : Nat} (h : i < l.length) : (l.map em).getD i (E.con 0 0) = em (l.getD i default) := by
  rw [List.getD_eq_getElem?_getD, List.getElem?_map, List.getD_eq_getElem?_getD, List.getElem?_eq_getElem h]; rfl
theorem sg_mS {l : List Tm} {n : Int} {k v : Nat} (hk : k ≤ l.length) (hv : v < k) : sg ⟨l.take k, n⟩ v = mS l k v := by
  unfold sg ofS mS
  have hl : (l.take k).length = k := by simp; omega
  show em (if (v : Int) < ((l.take k).length : Int) then (l.take k).getD ((l.take k).length - 1 - ((v : Nat) : Int).toNat) default else _) = _
  rw [if_pos (by omega), if_pos hv, hl, Int.toNat_natCast]
  congr 1
  rw [List.getD_eq_getElem?_getD, List.getD_eq_getElem?_getD, List.getElem?_take_of_lt (by omega)]
theorem em_ups {t : Tm} (hn : nodesB t = true) : ∀ b : Nat, em (upT t (b : Int) 0) = E.ren (fun v => v + b) (em t)
  | 0 => by
    rw [show ((0 : Nat) : Int) = 0 from rfl, up_zero, ren_var_sub]
    exact (sub_var _).symm
  | b + 1 => by
    have h := em_up _ (up_nodes hn (b := (b : Int)) (by omega) 0) 0
    have hu : upT (upT t (b : Int) 0) 1 ((0 : Nat) : Int) = upT t ((b + 1 : Nat) : Int) 0 := by
      have := up_up t (b := (b : Int)) (by omega) 1 0
      rw [show ((b + 1 : Nat) : Int) = (b : Int) + 1 by omega]
      exact this
    have h : em (upT (upT t (b : Int) 0) 1 ((0 : Nat) : Int)) = _ := h
    rw [hu, em_ups hn b, ren_ren] at h
    exact h
theorem meta_sub {X : Env} {G' : Gam} {D l : List Tm} {n : Int} {k : Nat} (hD : k ≤ D.length) (hk : k ≤ l.length) (hn : ∀ x ∈ D, nodesB x = true) (hs : ∀ i, i < D.length → ∃ M, scopedB (D.getD i default) i M = true)
    (ht : ∀ i, i < k → Typ X G' (l.getD i default) (E.sub (mS l i) (em (D.getD i default)))) : TySub X G' ⟨l.take k, n⟩ (ctxE (D.take k)) := by
  intro i T hT
  have hDl : (D.take k).length = k := by simp; omega
  have hll : (l.take k).length = k := by simp; omega
  unfold ctxE at hT
  rw [hDl] at hT
  split at hT
  case isFalse => cases hT
  rename_i hi
  cases hT
  refine .inr ?_
  have hv : (varW (D.take k) i).1 = upT (D.getD (k - 1 - i) default) ((i + 1 : Nat) : Int) 0 := by
    rw [varW_lt (by omega), hDl, Int.toNat_natCast]
    show upT ((D.take k).getD (k - 1 - i) default) _ 0 = _
    congr 1
    rw [List.getD_eq_getElem?_getD, List.getD_eq_getElem?_getD, List.getElem?_take_of_lt (by omega)]
  have hlt : k - 1 - i < D.length := by omega
  have hnD := hn _ (getD_mem (a := D) hlt)
  rw [hv, em_ups hnD, sub_ren]
  obtain ⟨M, hsc⟩ := hs _ hlt
  rw [sub_agree _ hnD (k - 1 - i) M hsc _ (mS l (k - 1 - i)) fun v hv' => ?_]
  · have ho : ofS ⟨l.take k, n⟩ i = l.getD (k - 1 - i) default := by
      unfold ofS
      show (if (i : Int) < ((l.take k).length : Int) then (l.take k).getD ((l.take k).length - 1 - ((i : Nat) : Int).toNat) default else _) = _
      rw [if_pos (by omega), hll, Int.toNat_natCast, List.getD_eq_getElem?_getD, List.getD_eq_getElem?_getD, List.getElem?_take_of_lt (by omega)]
    rw [ho]
    exact ht _ (by omega)
  · show sg ⟨l.take k, n⟩ (v + (i + 1)) = _
    rw [sg_mS hk (by omega)]
    unfold mS
    rw [if_pos (by omega), if_pos hv']
    congr 2
    omega
theorem applyR_kdS {X : Env} (hX : EnvOk X) {G G' : Gam} {t : Tm} {s : Sb} (ht : mayB t = true) (hs : smayB s = true) (hk : Kd X G t) (hS : TySub X G' s G) : (applyR t s).2 = 4 ∨ (applyR t s).2 = 0 ∧ Kd X G' (applyR t s).1 := by
  obtain ⟨s1, s2, s3, s4⟩ := smay_parts hs
  unfold applyR
  rw [ht, hs, Bool.and_self, if_pos rfl]
  rcases kd_keeps hX 40000 t s 0 _ _ (may_parts ht).1 ⟨fun x hx => (may_parts (s4 x hx)).1, s2⟩ hk hS with ⟨k, e⟩ | ⟨u, k, e, ku⟩
  · rw [e]; exact .inl rfl
  · rw [e]
    simp only [outD]
    by_cases hm : mayB u = true
    · rw [if_pos hm]; exact .inr ⟨rfl, ku⟩
    · rw [if_neg hm]; exact .inl rfl
theorem term_typM {w : Wd} (hw : ClosedM w) : ∀ (m a : Tm) (c : List Tm) (A : E), mayB m = true → mayB a = true → (∀ x ∈ c, mayB x = true) → termW w m a c = 0 → J A (em a) → Typ (envM w) (ctxE c) m A := by
  refine Tm.ind fun m ih a c A hm ha hc h hj => ?_
  have hn := (may_parts hm).1
  have hna := (may_parts ha).1
  have hcn : ∀ x ∈ c, nodesB x = true := fun x hx => (may_parts (hc x hx)).1
  by_cases h3 : m.kind = 3
  · have hl := lam_len hn h3
    rw [term_lam h3] at h
    by_cases ha1 : a.kind = 1
    · have hl2 := pi_len hna ha1
      rw [if_pos ha1, argW_lt (by omega)] at h
      have ma0 := may_sub (arg_mem (t := a) (i := 0) (by omega)) ha
      have ma1 := may_sub (arg_mem (t := a) (i := 1) (by omega)) ha
      have := ih _ (arg_mem (by omega)) (a.arg 1) (c ++ [a.arg 0]) (em (a.arg 1)) (may_sub (arg_mem (by omega)) hm) ma1 (fun x hx => by
        rcases List.mem_append.1 hx with hx | hx
        · exact hc x hx
        · obtain rfl : x = a.arg 0 := by simpa using hx
          exact ma0) h J.rfl
      rw [ctxE_ext hcn (may_parts ma0).1] at this
      have ht : Typ (envM w) (ctxE c) m (em a) := .lam h3 (by rw [em_pi hna ha1]; exact .refl _) this
      exact typ_to hn ht hj.symm
    · rw [if_neg ha1] at h; cases h
  · obtain ⟨ha2, e⟩ := term_ok h3 h
    have e0 : (cmW w c (fun i x => argW w m i x c) m).2 = 0 := by rw [e]
    have h0 := node_head (node_here hn)
    have hfam : IsFam A := (em_fam ha2).conv hj.symm
    have hT : ∀ i, i < m.args.length → ∀ x B, mayB x = true → argW w m i x c = 0 → J B (em x) → Typ (envM w) (ctxE c) (m.arg i) B := fun i hi x B hx hax hb => by
      rw [argW_lt hi] at hax
      exact ih _ (arg_mem hi) x c B (may_sub (arg_mem hi) hm) hx hc hax hb
    rcases cm_kind e0 with k4 | k5 | k6
    · rw [cm_var k4] at e e0
      obtain ⟨q1, q2⟩ := spD_ok e0
      obtain ⟨v1, v2⟩ := varW_ok q1
      rw [q2] at e e0
      have hmv : mayB (varW c m.head).1 = true := by
        rw [v2]
        refine up_may (hc _ ?_) (by omega) 0
        rw [List.getD_eq_getElem?_getD, List.getElem?_eq_getElem (by omega)]
        exact List.getElem_mem _
      obtain ⟨T1, s, j⟩ := spW_spn hm hT m.args.length 0 _ _ (by omega) hmv J.rfl e0
      rw [List.drop_zero] at s
      rw [e] at j
      have hg : ctxE c m.head.toNat = some (em (varW c m.head).1) := by
        unfold ctxE
        rw [if_pos (by omega), Int.toNat_of_nonneg h0]
      exact .var k4 hg s (j.trans hj.symm) hfam
    · rw [cm_const k5] at e e0
      obtain ⟨q1, q2⟩ := spD_ok e0
      obtain ⟨v1, v2, v3⟩ := declW_ok q1
      rw [q2] at e e0
      have hcm := closedM_mem hw (h := m.head.toNat) (by omega)
      have hd1 : (declW w m.head false).1 = w.sig.getD m.head.toNat default := by rw [v3]
      rw [hd1] at e e0
      obtain ⟨T1, s, j⟩ := spW_spn hm hT m.args.length 0 _ _ (by omega) hcm.1 J.rfl e0
      rw [List.drop_zero] at s
      rw [e] at j
      have hg : (envM w).con m.head.toNat = some (em (w.sig.getD m.head.toNat default)) := if_pos ⟨by omega, v2⟩
      exact .con k5 hg s (j.trans hj.symm) hfam
    · rw [cm_meta k6] at e e0
      obtain ⟨v1, v2, v3, v4⟩ := metaW_ok e0
      rw [v4] at e e0
      have hlt : m.head.toNat < w.metas.length := by omega
      obtain ⟨md1, md2⟩ := hw.mm _ hlt
      have hsc := hw.ms _ hlt
      have hg : (envM w).mts m.head.toNat = some ((w.metas.getD m.head.toNat default).ctx.map em, em (w.metas.getD m.head.toNat default).t) := if_pos hlt
      refine .mt k6 hg (by rw [List.length_map]; exact v2) (fun i hi => ?_) ?_ hfam
      · have hic : i < (w.metas.getD m.head.toNat default).ctx.length := by omega
        obtain ⟨w1, w2⟩ := mtW_each _ 0 v3 i (Nat.zero_le i) (by omega)
        have hx := applyR_any (md2 _ (getD_mem (a := (w.metas.getD m.head.toNat default).ctx) hic)) w1
        rw [map_getD hic]
        refine hT i hi _ _ hx.1 w2 ?_
        obtain ⟨M, hs⟩ := hsc.1 i hic
        have hp := hx.2
        rw [sub_agree _ (may_parts (md2 _ (getD_mem (a := (w.metas.getD m.head.toNat default).ctx) hic))).1 i M hs (sg ⟨m.args.take i, c.length⟩) (mS m.args i) fun v hv => sg_mS (by omega) hv] at hp
        exact J.of hp
      · have hx := applyR_any md1 e0
        rw [e] at hx
        obtain ⟨M, hs⟩ := hsc.2
        have hp := hx.2
        rw [v2] at hs
        rw [sub_agree _ (may_parts md1).1 m.args.length M hs (sg ⟨m.args, c.length⟩) (mS m.args m.args.length) fun v hv => by
          have := sg_mS (l := m.args) (n := c.length) (Nat.le_refl _) hv
          rwa [List.take_length] at this] at hp
        exact (J.of hp).trans hj.symm
theorem typ_kdM {w : Wd} (hw : ClosedM w) : ∀ (a : Tm) (c : List Tm), mayB a = true → (∀ x ∈ c, mayB x = true) → typW w a c = 0 → Kd (envM w) (ctxE c) a := by
  refine Tm.ind fun a ih c ha hc h => ?_
  have hn := (may_parts ha).1
  have hcn : ∀ x ∈ c, nodesB x = true := fun x hx => (may_parts (hc x hx)).1
  by_cases h1 : a.kind = 1
  · have hl := pi_len hn h1
    rw [typW_pi w h1 (by omega)] at h
    by_cases e : typW w (a.arg 0) c ≠ 0
    · rw [if_pos e] at h; exact absurd h e
    rw [if_neg e] at h
    have ma0 := may_sub (arg_mem (t := a) (i := 0) (by omega)) ha
    have k1 := ih _ (arg_mem (by omega)) (c ++ [a.arg 0]) (may_sub (arg_mem (by omega)) ha) (fun x hx => by
        rcases List.mem_append.1 hx with hx | hx
        · exact hc x hx
        · obtain rfl : x = a.arg 0 := by simpa using hx
          exact ma0) h
    rw [ctxE_ext hcn (may_parts ma0).1] at k1
    exact .pi h1 (ih _ (arg_mem (by omega)) c ma0 hc (Classical.not_not.1 e)) k1
  · by_cases h2 : a.kind = 2
    · rw [typW_fam w h2] at h
      obtain ⟨e1, e2, e3⟩ := famW_ok h
      obtain ⟨v1, v2, v3⟩ := declW_ok e1
      have h0 := node_head (node_here hn)
      have hcm := closedM_mem hw (h := a.head.toNat) (by omega)
      have hd1 : (declW w a.head true).1 = w.sig.getD a.head.toNat default := by rw [v3]
      rw [hd1] at e2
      obtain ⟨T1, s, j⟩ := spW_spn (X := envM w) (G := ctxE c) ha (fun i hi x B hx hax hb => by
        simp only [argW_lt hi] at hax
        exact term_typM hw _ x c B (may_sub (arg_mem hi) ha) hx hc hax hb) a.args.length 0 _ _ (by omega) hcm.1 J.rfl e2
      rw [List.drop_zero] at s
      have hg : (envM w).fam a.head.toNat = some (em (w.sig.getD a.head.toNat default)) := if_pos ⟨by omega, v2⟩
      exact .fam h2 hg s
    · rw [typW_no w h1 h2] at h; cases h
structure CGM (w : Wd) (c : List Tm) : Prop where
  may : ∀ x ∈ c, mayB x = true
  kd : ∀ i : Nat, i < c.length → Kd (envM w) (ctxE c) (varW c i).1
theorem CGM.nodes {w : Wd} {c : List Tm} (h : CGM w c) : ∀ x ∈ c, nodesB x = true := fun x hx => (may_parts (h.may x hx)).1
theorem CGM.nil (w : Wd) : CGM w [] := ⟨fun x hx => (by simp at hx), fun i hi => (by simp at hi)⟩
theorem CGM.more {w : Wd} (hw : ClosedM w) {c : List Tm} (h : CGM w c) {a : Tm} (ha : mayB a = true) (k : Kd (envM w) (ctxE c) a) : CGM w (c ++ [a]) := by
  have hX := envM_ok hw
  have hna := (may_parts ha).1
  refine ⟨fun x hx => ?_, fun i hi => ?_⟩
  · rcases List.mem_append.1 hx with hx | hx
    · exact h.may x hx
    · obtain rfl : x = a := by simpa using hx
      exact ha
  · rw [ctxE_ext h.nodes hna]
    simp at hi
    cases i with
    | zero =>
      rw [show ((0 : Nat) : Int) = 0 from rfl, varW_zero]
      exact kd_wk hX a hna _ _ 0 (wkG_new _ _) k
    | succ i =>
      rw [show ((i + 1 : Nat) : Int) = (i : Int) + 1 by omega, varW_succ c a (by omega) (by omega)]
      exact kd_wk hX _ (varW_nodes h.nodes (by omega) (by omega)) _ _ 0 (wkG_new _ _) (h.kd i (by omega))
theorem typ_termM {w : Wd} (hw : ClosedM w) (hsk : ∀ h, h < w.sig.length → ∀ G, Kd (envM w) G (w.sig.getD h default))
    (hmk : ∀ h, h < w.metas.length → (∀ i, i < (w.metas.getD h default).ctx.length → Kd (envM w) (ctxE ((w.metas.getD h default).ctx.take i)) ((w.metas.getD h default).ctx.getD i default)) ∧ Kd (envM w) (ctxE (w.metas.getD h default).ctx) (w.metas.getD h default).t ∧ (w.metas.getD h default).ctx.length ≤ 200) : ∀ (m a : Tm) (c : List Tm) (T : E), mayB m = true → mayB a = true → c.length + m.depth ≤ 1048576 → CGM w c → Kd (envM w) (ctxE c) a → Typ (envM w) (ctxE c) m T → J T (em a) → termW w m a c = 0 ∨ termW w m a c = 4 := by
  refine Tm.ind fun m ih a c T hm ha hcl hc hk ht hj => ?_
  have hX := envM_ok hw
  have hn := (may_parts hm).1
  have hna := (may_parts ha).1
  have h0 := node_head (node_here hn)
  have hT : ∀ i, i < m.args.length → ∀ x A, mayB x = true → Kd (envM w) (ctxE c) x → Typ (envM w) (ctxE c) (m.arg i) A → J A (em x) → argW w m i x c = 0 ∨ argW w m i x c = 4 := fun i hi x A hx hkx hta hjx => by
    rw [argW_lt hi]
    exact ih _ (arg_mem hi) x c A (may_sub (arg_mem hi) hm) hx (by have := depth_arg (arg_mem (t := m) hi); omega) hc hkx hta hjx
  cases ht with
  | lam k3 p t =>
    obtain ⟨k1, jA, jB⟩ := em_to_pi hna hj p
    have hl := lam_len hn k3
    have hl2 := pi_len hna k1
    have ma0 := may_sub (arg_mem (t := a) (i := 0) (by omega)) ha
    have ma1 := may_sub (arg_mem (t := a) (i := 1) (by omega)) ha
    have hkk : Kd (envM w) (ctxE c) (a.arg 0) ∧ Kd (envM w) (ext (ctxE c) (em (a.arg 0))) (a.arg 1) := by
      cases hk with
      | sort k0 => omega
      | pi _ h0 h1 => exact ⟨h0, h1⟩
      | fam k2 => omega
    rw [term_lam k3, if_pos k1, argW_lt (by omega)]
    have he := ctxE_ext hc.nodes (may_parts ma0).1
    refine ih _ (arg_mem (by omega)) _ _ _ (may_sub (arg_mem (by omega)) hm) ma1 (by have := depth_arg (arg_mem (t := m) (i := 0) (by omega)); simp; omega) (hc.more hw ma0 hkk.1) (by rw [he]; exact hkk.2) ?_ jB
    rw [he]
    exact typ_conv _ (node_args hn 0 (by omega)) _ _ _ _ ((CtxJ.self _).ext jA) J.rfl t
  | var k4 e s j f =>
    have ha2 := em_to_fam hna hj f
    unfold ctxE at e
    split at e
    case isFalse => cases e
    rename_i hlt
    cases e
    rw [Int.toNat_of_nonneg h0] at s
    have hl : m.head < c.length := by omega
    have hv : varW c m.head = ((varW c m.head).1, 0) := by rw [varW_lt hl]
    have hmv : mayB (varW c m.head).1 = true := by
      rw [varW_lt hl]
      refine up_may (hc.may _ ?_) (by omega) 0
      rw [List.getD_eq_getElem?_getD, List.getElem?_eq_getElem (by omega)]
      exact List.getElem_mem _
    have hkv := hc.kd m.head.toNat hlt
    rw [Int.toNat_of_nonneg h0] at hkv
    refine cm_end (by omega) ha2 ha (by rw [cm_var k4, spD_go (by rw [hv])]) (spW_may _ _ _ hmv) hj j ?_
    exact spn_spW hX hm hT m.args.length 0 _ _ _ (by omega) hmv hkv J.rfl (by rw [List.drop_zero]; exact s)
  | con k5 e s j f =>
    have ha2 := em_to_fam hna hj f
    simp only [envM, envE] at e
    split at e
    case isFalse => cases e
    rename_i hlt
    cases e
    have hd := declW_go (w := w) (h := m.head) (kind := false) (by omega) hlt.2
    have hcm := closedM_mem hw hlt.1
    refine cm_end (by omega) ha2 ha (by rw [cm_const k5, spD_go (by rw [hd]), hd]) (spW_may _ _ _ hcm.1) hj j ?_
    exact spn_spW hX hm hT m.args.length 0 _ _ _ (by omega) hcm.1 (hsk _ hlt.1 _) J.rfl (by rw [List.drop_zero]; exact s)
  | @mt _ _ _ C D k6 e hdl hda j f =>
    have ha2 := em_to_fam hna hj f
    simp only [envM] at e
    split at e
    case isFalse => cases e
    rename_i hlt
    cases e
    rw [List.length_map] at hdl
    obtain ⟨md1, md2⟩ := hw.mm _ hlt
    have hsc := hw.ms _ hlt
    have hkm := hmk _ hlt
    refine cm_end (by omega) ha2 ha (by rw [cm_meta k6]) metaW_may hj j ?_
    have hty : ∀ i, i < m.args.length → Typ (envM w) (ctxE c) (m.args.getD i default) (E.sub (mS m.args i) (em ((w.metas.getD m.head.toNat default).ctx.getD i default))) := fun i hi => by
      have := hda i hi
      rwa [map_getD (by omega)] at this
    have hnl : ∀ x ∈ m.args, nodesB x = true := mem_nodes hn
    have hsub : ∀ k, k ≤ m.args.length → TySub (envM w) (ctxE c) ⟨m.args.take k, c.length⟩ (ctxE ((w.metas.getD m.head.toNat default).ctx.take k)) := fun k hk' =>
      meta_sub (by omega) hk' (fun x hx => (may_parts (md2 x hx)).1) (fun i hi => hsc.1 i hi) fun i hi => hty i (by omega)
    have hms : mtW (fun i x => argW w m i x c) (w.metas.getD m.head.toNat default).ctx m.args c.length m.args.length 0 = 0 ∨ mtW (fun i x => argW w m i x c) (w.metas.getD m.head.toNat default).ctx m.args c.length m.args.length 0 = 4 := by
      refine mtW_cases _ 0 fun i _ hi => ?_
      have hi : i < m.args.length := by omega
      have hic : i < (w.metas.getD m.head.toNat default).ctx.length := by omega
      have hmD := md2 _ (getD_mem (a := (w.metas.getD m.head.toNat default).ctx) hic)
      have hKd := hkm.1 i hic
      have h200 := hkm.2.2
      have hsm : smayB ⟨m.args.take i, c.length⟩ = true := smay_of (by rw [List.length_take]; omega) (by omega) (by omega) fun y hy => may_sub (List.mem_of_mem_take hy) hm
      rcases applyR_kdS hX hmD hsm hKd (hsub i (by omega)) with e4 | ⟨e4, kx⟩
      · exact .inr e4
      · refine .inl ⟨e4, ?_⟩
        have hx := applyR_any hmD e4
        obtain ⟨M, hs⟩ := hsc.1 i hic
        have hp := hx.2
        rw [sub_agree _ (may_parts hmD).1 i M hs (sg ⟨m.args.take i, c.length⟩) (mS m.args i) fun v hv => sg_mS (by omega) hv] at hp
        exact hT i hi _ _ hx.1 kx (hty i hi) (J.of hp)
    unfold metaW
    have h0' : m.head < (w.metas.length : Int) := by omega
    rw [if_neg (by omega), if_neg (by omega)]
    rcases hms with e0 | e4
    · rw [if_neg (by omega)]
      have h200 := hkm.2.2
      have hsm : smayB ⟨m.args, c.length⟩ = true := smay_of (by omega) (by omega) (by omega) fun y hy => may_sub hy hm
      have hsf := hsub _ (Nat.le_refl _)
      rw [List.take_length, ← hdl, List.take_length] at hsf
      rcases applyR_kdS hX md1 hsm hkm.2.1 hsf with e4 | ⟨e4, kx⟩
      · exact .inl e4
      · refine .inr ⟨e4, ?_⟩
        have hx := applyR_any md1 e4
        obtain ⟨M, hs⟩ := hsc.2
        have hp := hx.2
        rw [hdl] at hs
        rw [sub_agree _ (may_parts md1).1 m.args.length M hs (sg ⟨m.args, c.length⟩) (mS m.args m.args.length) fun v hv => by
          have := sg_mS (l := m.args) (n := c.length) (Nat.le_refl _) hv
          rwa [List.take_length] at this] at hp
        exact J.of hp
    · rw [if_pos (by omega), e4]; exact .inl rfl
end Go.Proofs.Ytkmpfdecjmnccaa
/- A world in order, and one that another is filled to. -/
set_option linter.unusedVariables false
set_option linter.unusedSimpArgs false
set_option maxRecDepth 100000
namespace Go.Proofs.Ytkmpfdecjmnccaa
open E
theorem kind_kdM {w : Wd} (hw : ClosedM w) : ∀ (a : Tm) (c : List Tm), mayB a = true → (∀ x ∈ c, mayB x = true) → kindW w a c = 0 → Kd (envM w) (ctxE c) a := by
  refine Tm.ind fun a ih c ha hc h => ?_
  have hn := (may_parts ha).1
  have hcn : ∀ x ∈ c, nodesB x = true := fun x hx => (may_parts (hc x hx)).1
  by_cases h0 : a.kind = 0
  · exact .sort h0
  by_cases h1 : a.kind = 1
  · have hl := pi_len hn h1
    rw [kindW_pi w h1 (by omega)] at h
    by_cases e : typW w (a.arg 0) c ≠ 0
    · rw [if_pos e] at h; exact absurd h e
    rw [if_neg e] at h
    have ma0 := may_sub (arg_mem (t := a) (i := 0) (by omega)) ha
    have k1 := ih _ (arg_mem (by omega)) (c ++ [a.arg 0]) (may_sub (arg_mem (by omega)) ha) (fun x hx => by
        rcases List.mem_append.1 hx with hx | hx
        · exact hc x hx
        · obtain rfl : x = a.arg 0 := by simpa using hx
          exact ma0) h
    rw [ctxE_ext hcn (may_parts ma0).1] at k1
    exact .pi h1 (typ_kdM hw _ c ma0 hc (Classical.not_not.1 e)) k1
  · rw [kindW_no w h0 h1] at h; cases h
theorem rp_id : ∀ e : E, rp (fun h => .con 6 h) e = e
  | .var i => rfl
  | .con k h => by
    simp only [rp]
    split
    · rename_i e; rw [e]
    · rfl
  | .lam b => by simp only [rp, rp_id b]
  | .app f a => by simp only [rp, rp_id f, rp_id a]
theorem rp_agree {S S' : Int → E} : ∀ (t : Tm), nodesB t = true → ∀ (v M : Int), scopedB t v M = true → (∀ h : Int, 0 ≤ h → h < M → S h = S' h) → rp S (em t) = rp S' (em t) := by
  refine Tm.ind fun t ih hn v M hs hS => ?_
  rw [scoped_iff] at hs
  have h0 := node_head (node_here hn)
  by_cases h3 : t.kind = 3
  · have hl := lam_len hn h3
    rw [em_lam h3 (by omega)]
    simp only [rp]
    rw [ih _ (arg_mem (by omega)) (node_args hn 0 (by omega)) _ M (hs.2.2 0 (by omega)) hS]
  · rw [em_app h3, rp_apps, rp_apps]
    congr 1
    · unfold hd
      by_cases h4 : t.kind = 4
      · rw [if_pos h4]; rfl
      · rw [if_neg h4]
        simp only [rp]
        by_cases h6 : t.kind = 6
        · rw [if_pos h6, if_pos h6]
          exact hS _ h0 (hs.2.1 h6)
        · rw [if_neg h6, if_neg h6]
    · unfold ems
      rw [List.map_map, List.map_map]
      refine List.map_congr_left fun i hi => ?_
      have hi : i < t.args.length := by simpa using hi
      simp only [Function.comp_apply]
      rw [rp_wrap, rp_wrap, ih _ (arg_mem hi) (node_args hn i hi) _ M (hs.2.2 i hi) hS]
theorem rp_none (S : Int → E) {t : Tm} (hn : nodesB t = true) {v : Int} (hs : scopedB t v 0 = true) : rp S (em t) = em t := by
  rw [rp_agree (S := S) (S' := fun h => .con 6 h) t hn v 0 hs (fun h h0 h1 => by omega)]
  exact rp_id _
theorem fill_scoped {ms : List Md} {th : List Tm} {M' : Int} (hf : ThFit ms th) (hs' : ∀ h : Nat, h < th.length → scopedB (th.getD h default) ((ms.getD h default).ctx.length : Nat) M' = true) : ∀ (t : Tm) (n : Int) (v M : Int) (x : Tm), nodesB t = true → Fit ms t → scopedB t v M = true → 0 ≤ v → 0 ≤ n → fillT applyR maysB th t n = (x, 0) → scopedB x v M' = true := by
  refine Tm.ind fun t ih n v M x hn hfit hsc hv hn0 h => ?_
  have hfit' := hfit
  obtain ⟨_, h6, ha⟩ := hfit
  obtain ⟨hz, hN⟩ := fill_args h
  rw [scoped_iff] at hsc
  have hF : ∀ i, i < t.args.length → nodesB (fillF applyR maysB th t n i).1 = true ∧ scopedB (fillF applyR maysB th t n i).1 (v + bnd t i) M' = true := fun i hi =>
    ⟨(fill_goes hf _ _ _ (node_args hn i hi) (ha i hi) (Prod.ext rfl (hz i hi))).1,
     ih _ (arg_mem hi) (n + bnd t i) (v + bnd t i) M _ (node_args hn i hi) (ha i hi) (hsc.2.2 i hi) (by omega) (by omega) (Prod.ext rfl (hz i hi))⟩
  generalize hxs : ((List.range t.args.length).map fun i => (fillF applyR maysB th t n i).1) = xs at hN
  have hxl : xs.length = t.args.length := by rw [← hxs]; simp
  have hxg : ∀ i, i < t.args.length → xs.getD i default = (fillF applyR maysB th t n i).1 := fun i hi => by
    rw [← hxs]
    simp [List.getD, List.getElem?_map, List.getElem?_range hi]
  have hxn : ∀ y ∈ xs, nodesB y = true := getD_all fun i hi => by rw [hxg i (by omega)]; exact (hF i (by omega)).1
  unfold fillN at hN
  by_cases hk : t.kind = 6
  · rw [if_neg (by simpa using hk)] at hN
    by_cases hh : t.head ≥ th.length
    · rw [if_pos hh] at hN
      have := congrArg Prod.snd hN
      cases this
    rw [if_neg hh] at hN
    by_cases hm : maysB xs = true
    · rw [if_pos hm] at hN
      have h0 := node_head (node_here hn)
      have hlt : t.head.toNat < th.length := by omega
      have hmt := hf.may _ (getD_mem (a := th) hlt)
      obtain ⟨e1, e2⟩ := h6 hk
      unfold applyR at hN
      cases hsm : smayB ⟨xs, n⟩
      · rw [hsm, Bool.and_false, if_neg (by decide)] at hN
        have := congrArg Prod.snd hN
        cases this
      rw [hmt, hsm, Bool.and_self, if_pos rfl] at hN
      cases hx : ap 40000 (th.getD t.head.toNat default) ⟨xs, n⟩ 0 with
      | er e m =>
        rw [hx] at hN
        have := ap_err _ _ _ _ _ _ hx
        have h2 := congrArg Prod.snd hN
        simp only [outD] at h2
        omega
      | ok u m =>
        rw [hx] at hN
        simp only [outD] at hN
        by_cases hmu : mayB u = true
        · rw [if_pos hmu] at hN
          obtain rfl := congrArg Prod.fst hN
          have hth := hs' _ hlt
          rw [e2] at hth
          have hM : Maps ⟨xs, n⟩ (t.args.length : Nat) v M' := fun i hi0 hi => by
            unfold ofS
            rw [if_pos (show i < (xs.length : Int) by omega)]
            have hj : xs.length - 1 - i.toNat < t.args.length := by omega
            show scopedB (xs.getD (xs.length - 1 - i.toNat) default) v M' = true
            rw [hxg _ hj]
            have := (hF _ hj).2
            rwa [bnd_zero (by omega) (by omega), Int.natCast_zero, Int.add_zero] at this
          exact (ap_scoped 40000 _ _ 0 _ v u m (may_parts hmt).1 hth ⟨hxn, hn0⟩ hM hv hx).2
        · rw [if_neg hmu] at hN
          have := congrArg Prod.snd hN
          cases this
    · rw [if_neg hm] at hN
      have := congrArg Prod.snd hN
      cases this
  · rw [if_pos hk] at hN
    obtain rfl := congrArg Prod.fst hN
    show scopedB (Tm.mk t.kind t.head xs) v M' = true
    rw [scoped_iff]
    refine ⟨fun e => hsc.1 e, fun e => absurd e hk, fun i hi => ?_⟩
    have hi : i < t.args.length := by rw [← hxl]; exact hi
    rw [bnd_mk t hxl]
    show scopedB (xs.getD i default) _ M' = true
    rw [hxg i hi]
    exact (hF i hi).2
end Go.Proofs.Ytkmpfdecjmnccaa
/- A signature and metas in order, as a world. -/
set_option linter.unusedVariables false
set_option linter.unusedSimpArgs false
set_option maxRecDepth 100000
namespace Go.Proofs.Ytkmpfdecjmnccaa
open E
theorem wd_take (sg : List Dc) (ms : List Md) (i k : Nat) : Ext (Wo.wd ⟨sg.take i, ms.take k, []⟩) (Wo.wd ⟨sg, ms, []⟩) := by
  refine ⟨by simp [Wo.wd]; omega, fun j hj => ?_, by simp [Wo.wd]; omega, fun j hj => ?_⟩
  · simp only [Wo.wd, List.length_map, List.length_take] at hj
    simp only [Wo.wd]
    rw [getD_sig (by omega), getD_sig (by simp; omega)]
    congr 1
    simp only [Dcs.at, List.getD_eq_getElem?_getD]
    rw [List.getElem?_take, if_pos (by omega)]
  · simp only [Wo.wd, List.length_take] at hj
    show ms.getD j default = (ms.take k).getD j default
    rw [take_getD' (by omega)]
theorem wd_takeM (sg : List Dc) (ms : List Md) (k : Nat) : Ext (Wo.wd ⟨sg, ms.take k, []⟩) (Wo.wd ⟨sg, ms, []⟩) := by
  have := wd_take sg ms sg.length k
  rwa [List.take_length] at this
structure GoodW (w : Wd) : Prop where
  cl : ClosedM w
  sk : ∀ h, h < w.sig.length → ∀ G, Kd (envM w) G (w.sig.getD h default)
  mt : ∀ h, h < w.metas.length → (∀ i, i < (w.metas.getD h default).ctx.length → Kd (envM w) (ctxE ((w.metas.getD h default).ctx.take i)) ((w.metas.getD h default).ctx.getD i default)) ∧ Kd (envM w) (ctxE (w.metas.getD h default).ctx) (w.metas.getD h default).t ∧ (w.metas.getD h default).ctx.length ≤ 200
theorem good_world {sg : List Dc} {ms : List Md} (h1 : (SigR sg).2 = 0) (h2 : (DeclsR sg ms).2 = 0) : GoodW (Wo.wd ⟨sg, ms, []⟩) := by
  obtain ⟨_, s2⟩ := first_ok' h1
  obtain ⟨_, d2⟩ := first_ok' h2
  have hsig : ∀ k, k < sg.length → mayB (Dcs.at sg k).t = true ∧ scopedB (Dcs.at sg k).t 0 0 = true := fun k hk => sigB_closed (sigW_B (s2 k hk))
  have hmem : ∀ x ∈ (Wo.wd ⟨sg, ms, []⟩).sig, ∃ k, k < sg.length ∧ x = (Dcs.at sg k).t := fun x hx => by
    simp only [Wo.wd, List.mem_map] at hx
    obtain ⟨d, hd, rfl⟩ := hx
    obtain ⟨k, hk, rfl⟩ := List.mem_iff_getElem.1 hd
    exact ⟨k, hk, by simp [Dcs.at, List.getD, List.getElem?_eq_getElem hk]⟩
  have hpar : ∀ i, i < ms.length → mayB (ms.getD i default).t = true ∧ (∀ x ∈ (ms.getD i default).ctx, mayB x = true) := fun i hi => by
    obtain ⟨p1, p2, p3, p4⟩ := decl_parts (d2 i hi)
    obtain ⟨m1, m2, m3, m4⟩ := mayW_parts (TypR_ok p3).1
    exact ⟨m2 _ (by simp), m3⟩
  have hcl : ClosedM (Wo.wd ⟨sg, ms, []⟩) := by
    refine ⟨fun x hx => ?_, fun x hx => ?_, fun h hh => hpar h hh, fun h hh => ?_⟩
    · obtain ⟨k, hk, rfl⟩ := hmem x hx; exact (hsig k hk).1
    · obtain ⟨k, hk, rfl⟩ := hmem x hx; exact (hsig k hk).2
    · have hh : h < ms.length := hh
      obtain ⟨p1, p2, p3, p4⟩ := decl_parts (d2 h hh)
      obtain ⟨q1, q2⟩ := hpar h hh
      refine ⟨fun i hi => ⟨((ms.take h).length : Nat), ?_⟩, ⟨((ms.take h).length : Nat), typ_scoped (Wo.wd ⟨sg, ms.take h, []⟩) _ _ (may_parts q1).1 (TypR_ok p3).2⟩⟩
      have hi : i < (ms.getD h default).ctx.length := hi
      have := typ_scoped (Wo.wd ⟨sg, ms.take h, []⟩) _ _ (may_parts (q2 _ (getD_mem (a := (ms.getD h default).ctx) hi))).1 (TypR_ok (p1 i hi)).2
      rw [List.length_take, Nat.min_eq_left (by omega)] at this
      exact this
  refine ⟨hcl, fun k hk G => ?_, fun h hh => ?_⟩
  · have hlt : k < sg.length := by simpa [Wo.wd] using hk
    have hgd : (Wo.wd ⟨sg, ms, []⟩).sig.getD k default = (Dcs.at sg k).t := getD_sig hlt
    have hm := (hsig k hlt).1
    have hs := sigW_B (s2 k hlt)
    rw [hgd]
    have hx : Ext (Wo.wd ⟨sg.take k, [], []⟩) (Wo.wd ⟨sg, ms, []⟩) := wd_take sg ms k 0
    have hk0 : Kd (envM (Wo.wd ⟨sg, ms, []⟩)) (ctxE []) (Dcs.at sg k).t := by
      unfold sigB at hs
      rw [Bool.or_eq_true, beq_iff_eq, beq_iff_eq] at hs
      rcases hs with hs | hs
      · exact typ_kdM hcl _ [] hm (by simp) (typ_ext hx _ [] [] (may_parts hm).1 (Front.self []) (.inl rfl) (TypR_ok hs).2)
      · exact kind_kdM hcl _ [] hm (by simp) (kind_ext hx _ [] [] (may_parts hm).1 (Front.self []) (.inl rfl) (KindR_ok hs).2)
    refine kd_conv _ (may_parts hm).1 _ _ (fun i A hA => ?_) hk0
    simp [ctxE] at hA
  · have hh : h < ms.length := hh
    obtain ⟨p1, p2, p3, p4⟩ := decl_parts (d2 h hh)
    obtain ⟨q1, q2⟩ := hpar h hh
    have hx := wd_takeM sg ms h
    refine ⟨fun i hi => ?_, ?_, by show (ms.getD h default).ctx.length ≤ 200; omega⟩
    · have hi : i < (ms.getD h default).ctx.length := hi
      have hm := q2 _ (getD_mem (a := (ms.getD h default).ctx) hi)
      exact typ_kdM hcl _ _ hm (fun x hx' => q2 x (List.mem_of_mem_take hx')) (typ_ext hx _ _ _ (may_parts hm).1 (Front.self _) (.inl rfl) (TypR_ok (p1 i hi)).2)
    · exact typ_kdM hcl _ _ q1 q2 (typ_ext hx _ _ _ (may_parts q1).1 (Front.self _) (.inl rfl) (TypR_ok p3).2)
end Go.Proofs.Ytkmpfdecjmnccaa
/- Terms for metas in order, as what is put for them. -/
set_option linter.unusedVariables false
set_option linter.unusedSimpArgs false
set_option maxRecDepth 100000
namespace Go.Proofs.Ytkmpfdecjmnccaa
open E
theorem ctxR_parts {cx th : List Tm} {n : Int} (h : (CtxR cx th n).2 = 0) : (CtxR cx th n).1.length = cx.length ∧ ∀ k, k < cx.length → (FillR (cx.getD k default) th (n + k)).2 = 0 ∧ (CtxR cx th n).1.getD k default = (FillR (cx.getD k default) th (n + k)).1 := by
  obtain ⟨h1, h2⟩ := eachR_ok h
  have h3 : CtxR cx th n = (outs (fun i => (FillR (cx.getD i default) th (n + (i : Int))).1) cx.length, 0) := h2
  rw [h3]
  refine ⟨by simp [outs], fun k hk => ⟨h1 k hk, ?_⟩⟩
  simp [outs, List.getD, List.getElem?_map, List.getElem?_range hk]
theorem sub_parts {sg : List Dc} {ov dl : List Md} {th : List Tm} (hS : SubR ⟨sg, ov, []⟩ dl th = 0) {i : Nat} (hi : i < dl.length) :
    (subCx dl th i).2 = 0 ∧ (subTy dl th i).2 = 0 ∧ TermR (Wo.wd ⟨sg, ov, []⟩) (subCx dl th i).1 (th.getD i default) (subTy dl th i).1 = 0 := by
  obtain ⟨_, _, h3⟩ := sub_ok hS
  have h := h3 i hi
  unfold subW at h
  by_cases e1 : (subCx dl th i).2 = 0
  · rw [if_neg (by simpa using e1)] at h
    by_cases e2 : (subTy dl th i).2 = 0
    · rw [if_neg (by simpa using e2)] at h
      by_cases e3 : TermR (Wo.wd ⟨sg, ov, []⟩) ([] ++ (subCx dl th i).1) (th.getD i default) (subTy dl th i).1 = 0
      · rw [List.nil_append] at e3
        exact ⟨e1, e2, e3⟩
      · rw [if_pos e3] at h; exact absurd h e3
    · rw [if_pos e2] at h; exact absurd h e2
  · rw [if_pos e1] at h; exact absurd h e1
theorem sub_fit {sg : List Dc} {ov dl : List Md} {th : List Tm} (hS : SubR ⟨sg, ov, []⟩ dl th = 0) : ThFit dl th ∧ ∀ h : Nat, h < th.length → scopedB (th.getD h default) ((dl.getD h default).ctx.length : Nat) (ov.length : Nat) = true := by
  obtain ⟨_, hlen, _⟩ := sub_ok hS
  have key : ∀ h : Nat, h < th.length → mayB (th.getD h default) = true ∧ scopedB (th.getD h default) ((dl.getD h default).ctx.length : Nat) (ov.length : Nat) = true := fun h hh => by
    obtain ⟨e1, e2, e3⟩ := sub_parts hS (i := h) (by omega)
    obtain ⟨t1, t2⟩ := TermR_ok e3
    have hm := mayW_of t1 (th.getD h default) (by simp)
    have hs := term_scoped _ _ _ _ (may_parts hm).1 t2
    have hl : (subCx dl th h).1.length = (dl.getD h default).ctx.length := (ctxR_parts (cx := (dl.getD h default).ctx) (th := th.take h) (n := 0) e1).1
    rw [hl] at hs
    exact ⟨hm, hs⟩
  refine ⟨⟨fun x hx => ?_, fun h hh => ⟨_, (key h hh).2⟩⟩, fun h hh => (key h hh).2⟩
  obtain ⟨i, hi, rfl⟩ := List.mem_iff_getElem.1 hx
  have e : th.getD i default = th[i] := by simp [List.getD, List.getElem?_eq_getElem hi]
  rw [← e]
  exact (key i hi).1
theorem ThFit.take {ms : List Md} {th : List Tm} (h : ThFit ms th) (k : Nat) : ThFit (ms.take k) (th.take k) := by
  refine ⟨fun x hx => h.may x (List.mem_of_mem_take hx), fun i hi => ?_⟩
  have hi : i < k ∧ i < th.length := by simp at hi; omega
  rw [take_getD' hi.1, take_getD' hi.1]
  exact h.scp i hi.2
theorem metaE_take {ms : List Md} {th : List Tm} {k : Nat} (h : Int) (h0 : 0 ≤ h) (hk : h < k) : metaE (ms.take k) (th.take k) h = metaE ms th h := by
  unfold metaE
  rw [take_getD' (by omega), take_getD' (by omega), List.length_take]
  by_cases e : h < th.length
  · rw [if_pos ⟨h0, by omega⟩, if_pos ⟨h0, e⟩]
  · rw [if_neg (by omega), if_neg (by omega)]
theorem fill_all {ms : List Md} {th : List Tm} (hf : ThFit ms th) {k : Nat} (hk : k ≤ ms.length) (hkt : k ≤ th.length) {t : Tm} {n v : Int} (hm : (FillR t (th.take k) n).2 = 0) (hfit : Fit (ms.take k) t) (hs : scopedB t v (k : Nat) = true) :
    nodesB (FillR t (th.take k) n).1 = true ∧ PS (rp (metaE ms th) (em t)) (em (FillR t (th.take k) n).1) ∧ 0 ≤ n ∧ fillT applyR maysB (th.take k) t n = ((FillR t (th.take k) n).1, 0) := by
  obtain ⟨o1, o2, o3, o4⟩ := fillR_ok hm
  have hfm : fillT applyR maysB (th.take k) t n = ((FillR t (th.take k) n).1, 0) := by
    have : fillM (th.take k) t n = FillR t (th.take k) n := o4.symm
    show fillM (th.take k) t n = _
    rw [this]
    exact Prod.ext rfl hm
  obtain ⟨p1, p2, _⟩ := fillOk_parts o1
  have hn := (may_parts p1).1
  obtain ⟨g1, g2⟩ := fill_goes (hf.take k) t n _ hn hfit hfm
  rw [rp_agree (S' := metaE ms th) t hn v (k : Nat) hs fun h h0 h1 => metaE_take h h0 h1] at g2
  exact ⟨g1, g2, p2, hfm⟩
end Go.Proofs.Ytkmpfdecjmnccaa
/- Terms for metas in order: what is told of them. -/
set_option linter.unusedVariables false
set_option linter.unusedSimpArgs false
set_option maxRecDepth 100000
namespace Go.Proofs.Ytkmpfdecjmnccaa
open E
theorem fills_world {sgn : List Dc} {ov dl : List Md} {th : List Tm} (hs1 : (SigR sgn).2 = 0) (hd1 : (DeclsR sgn dl).2 = 0) (hd2 : (DeclsR sgn ov).2 = 0) (hS : SubR ⟨sgn, ov, []⟩ dl th = 0) :
    FillsE (envM (Wo.wd ⟨sgn, dl, []⟩)) (envM (Wo.wd ⟨sgn, ov, []⟩)) dl th := by
  have hG := good_world hs1 hd1
  have hG' := good_world hs1 hd2
  obtain ⟨_, d2⟩ := first_ok' hd1
  obtain ⟨hf, hsc⟩ := sub_fit hS
  obtain ⟨_, hlen, _⟩ := sub_ok hS
  refine ⟨hf, fun h T e => ?_, fun h T e => ?_, fun h D C e => ?_⟩
  · simp only [envM, envE] at e
    split at e
    case isFalse => cases e
    rename_i hh
    cases e
    obtain ⟨c1, c2⟩ := closedM_mem hG.cl hh.1
    refine ⟨_, if_pos hh, ?_⟩
    rw [rp_none _ (may_parts c1).1 c2]
    exact J.rfl
  · simp only [envM, envE] at e
    split at e
    case isFalse => cases e
    rename_i hh
    cases e
    obtain ⟨c1, c2⟩ := closedM_mem hG.cl hh.1
    refine ⟨_, if_pos hh, ?_⟩
    rw [rp_none _ (may_parts c1).1 c2]
    exact J.rfl
  · simp only [envM] at e
    split at e
    case isFalse => cases e
    rename_i hh
    cases e
    have hh : h < dl.length := hh
    have hh200 : (dl.getD h default).ctx.length ≤ 200 := (hG.mt h hh).2.2
    obtain ⟨p1, p2, p3, p4⟩ := decl_parts (d2 h hh)
    obtain ⟨e1, e2, e3⟩ := sub_parts hS hh
    obtain ⟨t1, t2⟩ := TermR_ok e3
    obtain ⟨m1, m2, m3, m4⟩ := mayW_parts t1
    obtain ⟨l1, l2⟩ := ctxR_parts (cx := (dl.getD h default).ctx) (th := th.take h) (n := 0) e1
    have l1 : (subCx dl th h).1.length = (dl.getD h default).ctx.length := l1
    have hmw := mayW_parts (TypR_ok p3).1
    have hth' : ∀ i : Nat, i < (th.take h).length → scopedB ((th.take h).getD i default) (((dl.take h).getD i default).ctx.length : Nat) (ov.length : Nat) = true := fun i hi => by
      have hi : i < h ∧ i < th.length := by simp at hi; omega
      rw [take_getD' hi.1, take_getD' hi.1]
      exact hsc i hi.2
    have htk : ((dl.take h).length : Int) = (h : Nat) := by simp; omega
    have hent : ∀ i, i < (dl.getD h default).ctx.length → nodesB ((subCx dl th h).1.getD i default) = true ∧ PS (rp (metaE dl th) (em ((dl.getD h default).ctx.getD i default))) (em ((subCx dl th h).1.getD i default)) ∧ scopedB ((subCx dl th h).1.getD i default) i (ov.length : Nat) = true := fun i hi => by
      obtain ⟨q1, q2⟩ := l2 i hi
      have q2 : (subCx dl th h).1.getD i default = _ := q2
      have hmi := hmw.2.2.1 _ (getD_mem (a := (dl.getD h default).ctx) hi)
      have hni := (may_parts hmi).1
      have hfit := typ_fit (Wo.wd ⟨sgn, dl.take h, []⟩) _ _ hni (TypR_ok (p1 i hi)).2
      have hsi := typ_scoped (Wo.wd ⟨sgn, dl.take h, []⟩) _ _ hni (TypR_ok (p1 i hi)).2
      rw [List.length_take, Nat.min_eq_left (by omega)] at hsi
      have hsi : scopedB ((dl.getD h default).ctx.getD i default) i ((dl.take h).length : Nat) = true := hsi
      rw [htk] at hsi
      obtain ⟨g1, g2, g3, g4⟩ := fill_all hf (k := h) (by omega) (by omega) q1 hfit hsi
      rw [q2]
      exact ⟨g1, g2, fill_scoped (hf.take h) hth' _ _ _ _ _ hni hfit hsi (by omega) g3 g4⟩
    have hmt := hmw.2.1 (dl.getD h default).t (by simp)
    have hnt := (may_parts hmt).1
    have hfit := typ_fit (Wo.wd ⟨sgn, dl.take h, []⟩) _ _ hnt (TypR_ok p3).2
    have hst := typ_scoped (Wo.wd ⟨sgn, dl.take h, []⟩) _ _ hnt (TypR_ok p3).2
    have hst : scopedB (dl.getD h default).t ((dl.getD h default).ctx.length : Nat) ((dl.take h).length : Nat) = true := hst
    rw [htk] at hst
    obtain ⟨g1, g2, g3, g4⟩ := fill_all hf (k := h) (by omega) (by omega) (n := ((dl.getD h default).ctx.length : Int)) e2 hfit hst
    have hsb : scopedB (subTy dl th h).1 ((dl.getD h default).ctx.length : Nat) (ov.length : Nat) = true := fill_scoped (hf.take h) hth' _ _ _ _ _ hnt hfit hst (by omega) g3 g4
    refine ⟨by omega, by rw [List.length_map]; exact hh200, ctxE (subCx dl th h).1, em (subTy dl th h).1, term_typM hG'.cl _ _ _ _ (m2 _ (by simp)) (m2 _ (by simp)) m3 t2 J.rfl, fun xs n G' hxl hxn hn0 hty => ?_⟩
    rw [List.length_map] at hxl
    have hxl : xs.length = (dl.getD h default).ctx.length := hxl
    have hsub := meta_sub (X := envM (Wo.wd ⟨sgn, ov, []⟩)) (G' := G') (D := (subCx dl th h).1) (l := xs) (n := n) (k := xs.length) (by omega) (Nat.le_refl _) (fun x hx => (may_parts (m3 x hx)).1) (fun i hi => ⟨_, (hent i (by omega)).2.2⟩) fun i hi => by
      have h1 := hty i hi
      rw [map_getD (by show i < (dl.getD h default).ctx.length; omega)] at h1
      exact typ_to (hxn _ (getD_mem (a := xs) hi)) h1 ((J.of (hent i (by omega)).2.1).sub _)
    rw [List.take_length, List.take_of_length_le (by omega)] at hsub
    refine ⟨hsub, ?_⟩
    rw [← hxl] at hsb
    have g1 : nodesB (subTy dl th h).1 = true := g1
    have g2 : PS (rp (metaE dl th) (em (dl.getD h default).t)) (em (subTy dl th h).1) := g2
    rw [sub_agree (subTy dl th h).1 g1 xs.length _ hsb (sg ⟨xs, n⟩) (mS xs xs.length) fun v hv => by
      have := sg_mS (l := xs) (n := n) (Nat.le_refl _) hv
      rwa [List.take_length] at this]
    exact (J.of g2).symm.sub _
end Go.Proofs.Ytkmpfdecjmnccaa
/- What is filled, in order: the context, a term, a type. -/
set_option linter.unusedVariables false
set_option linter.unusedSimpArgs false
set_option maxRecDepth 100000
namespace Go.Proofs.Ytkmpfdecjmnccaa
open E
def rpG (S : Int → E) (G : Gam) : Gam := fun i => (G i).map (rp S)
theorem rpG_ok (S : Int → E) (G : Gam) : GamRp S G (rpG S G) := fun i T h => ⟨rp S T, by unfold rpG; rw [h]; rfl, J.rfl⟩
theorem ctxJ_fill {S : Int → E} (hS : Shut S) {c l : List Tm} (hlen : l.length = c.length) (hc : ∀ x ∈ c, nodesB x = true) (hl : ∀ x ∈ l, nodesB x = true) (hp : ∀ k, k < c.length → PS (rp S (em (c.getD k default))) (em (l.getD k default))) : CtxJ (rpG S (ctxE c)) (ctxE l) := by
  intro i A hA
  unfold rpG ctxE at hA
  by_cases hi : i < c.length
  · rw [if_pos hi] at hA
    cases hA
    have hk : c.length - 1 - i < c.length := by omega
    have v1 : (varW c i).1 = upT (c.getD (c.length - 1 - i) default) ((i + 1 : Nat) : Int) 0 := by
      rw [varW_lt (by omega), Int.toNat_natCast]; rfl
    have v2 : (varW l i).1 = upT (l.getD (c.length - 1 - i) default) ((i + 1 : Nat) : Int) 0 := by
      rw [varW_lt (by omega), Int.toNat_natCast, hlen]; rfl
    refine ⟨em (varW l i).1, by unfold ctxE; rw [if_pos (by omega)], ?_⟩
    rw [v1, v2, em_ups (hc _ (getD_mem (a := c) hk)), em_ups (hl _ (getD_mem (a := l) (by omega))), rp_ren hS]
    exact (J.of (hp _ hk)).ren _
  · rw [if_neg hi] at hA; cases hA
theorem fillR_cases {t : Tm} {th : List Tm} {n : Int} (ho : fillOk t th n = true) (h : (fillT applyR maysB th t n).2 = 4 ∨ (fillT applyR maysB th t n).2 = 0) :
    (FillR t th n).2 = 4 ∨ (FillR t th n).2 = 0 ∧ (FillR t th n).1 = (fillT applyR maysB th t n).1 ∧ (fillT applyR maysB th t n).2 = 0 := by
  unfold FillR fillW
  rw [if_pos ho]
  rcases h with e | e
  · have e' : (fillM th t n).2 = 4 := e
    rw [if_neg (by rw [e']; decide)]
    exact .inl e'
  · have e' : (fillM th t n).2 = 0 := e
    rw [if_pos e']
    by_cases hm : mayB (fillM th t n).1 = true
    · rw [if_pos hm]; exact .inr ⟨rfl, rfl, e⟩
    · rw [if_neg hm]; exact .inl rfl
end Go.Proofs.Ytkmpfdecjmnccaa
/- What is filled is in order, if nothing is too great. -/
set_option linter.unusedVariables false
set_option linter.unusedSimpArgs false
set_option maxRecDepth 100000
namespace Go.Proofs.Ytkmpfdecjmnccaa
open E
theorem filled_plain {sgn : List Dc} {ov dl : List Md} {th cx : List Tm} {m a : Tm} (hs1 : (SigR sgn).2 = 0) (hd1 : (DeclsR sgn dl).2 = 0) (hd2 : (DeclsR sgn ov).2 = 0) (hS : SubR ⟨sgn, ov, []⟩ dl th = 0)
    (hc : CtxWR (Wo.wd ⟨sgn, dl, []⟩) [] cx = 0) (ha : TypR (Wo.wd ⟨sgn, dl, []⟩) cx a = 0) (hm : TermR (Wo.wd ⟨sgn, dl, []⟩) cx m a = 0) :
    ((CtxR cx th 0).2 = 0 ∨ (CtxR cx th 0).2 = 4) ∧ ((FillR m th cx.length).2 = 0 ∨ (FillR m th cx.length).2 = 4) ∧ ((FillR a th cx.length).2 = 0 ∨ (FillR a th cx.length).2 = 4) ∧
    ((CtxR cx th 0).2 = 0 → (FillR m th cx.length).2 = 0 → (FillR a th cx.length).2 = 0 → TermR (Wo.wd ⟨sgn, ov, []⟩) (CtxR cx th 0).1 (FillR m th cx.length).1 (FillR a th cx.length).1 = 0 ∨ TermR (Wo.wd ⟨sgn, ov, []⟩) (CtxR cx th 0).1 (FillR m th cx.length).1 (FillR a th cx.length).1 = 4) := by
  have hG := good_world hs1 hd1
  have hG' := good_world hs1 hd2
  have hX' := envM_ok hG'.cl
  have hk := fills_world hs1 hd1 hd2 hS
  have hf := hk.fit
  have hSh := hf.shut
  obtain ⟨n1, n2, _⟩ := sub_ok hS
  obtain ⟨c1, c2⟩ := first_ok' hc
  have c2 : ∀ i, i < cx.length → TypR (Wo.wd ⟨sgn, dl, []⟩) (cx.take i) (cx.getD i default) = 0 := fun i hi => c2 i hi
  obtain ⟨a1, a2⟩ := TypR_ok ha
  obtain ⟨b1, b2⟩ := TermR_ok hm
  obtain ⟨_, w2, w3, _⟩ := mayW_parts b1
  have hmm : mayB m = true := w2 m (by simp)
  have hma : mayB a = true := w2 a (by simp)
  have hok : ∀ (t : Tm) (n : Int), mayB t = true → 0 ≤ n → n ≤ 40 → fillOk t th n = true := fun t n h h0 h1 => fillOk_of h h0 (by omega) (by omega) hf.may
  have hdep : ∀ (t : Tm) (n : Int), mayB t = true → 0 ≤ n → n ≤ 40 → n + t.depth ≤ 1048576 := fun t n h h0 h1 => by have := (may_parts h).2.2; omega
  have hmx : ∀ i, i < cx.length → mayB (cx.getD i default) = true := fun i hi => w3 _ (getD_mem hi)
  have hent : ∀ i, i < cx.length → (FillR (cx.getD i default) th (0 + (i : Int))).2 = 4 ∨ (FillR (cx.getD i default) th (0 + (i : Int))).2 = 0 ∧ Kd (envM (Wo.wd ⟨sgn, ov, []⟩)) (rpG (metaE dl th) (ctxE (cx.take i))) (FillR (cx.getD i default) th (0 + (i : Int))).1 ∧ PS (rp (metaE dl th) (em (cx.getD i default))) (em (FillR (cx.getD i default) th (0 + (i : Int))).1) := fun i hi => by
    have hni := (may_parts (hmx i hi)).1
    have hty := (TypR_ok (c2 i hi)).2
    have hfit := typ_fit (Wo.wd ⟨sgn, dl, []⟩) _ _ hni hty
    have hkd := typ_kdM hG.cl _ _ (hmx i hi) (fun x hx => w3 x (List.mem_of_mem_take hx)) hty
    have hh := fill_kd hX' hk _ (0 + (i : Int)) _ _ hni hfit (by omega) (hdep _ _ (hmx i hi) (by omega) (by omega)) hkd (rpG_ok _ _)
    rcases fillR_cases (hok _ _ (hmx i hi) (by omega) (by omega)) (hh.imp id And.left) with e | ⟨e, e1, e2⟩
    · exact .inl e
    · rcases hh with e4 | ⟨_, kx⟩
      · rw [e2] at e4; cases e4
      · rw [e1]
        exact .inr ⟨e, kx, (fill_goes hf _ _ _ hni hfit (Prod.ext rfl e2)).2⟩
  have hnm := (may_parts hmm).1
  have hna := (may_parts hma).1
  have hfa := typ_fit (Wo.wd ⟨sgn, dl, []⟩) _ _ hna a2
  have hfm := term_fit (Wo.wd ⟨sgn, dl, []⟩) _ _ _ hnm b2
  have hta := fill_kd hX' hk _ (cx.length : Int) _ _ hna hfa (by omega) (hdep _ _ hma (by omega) (by omega)) (typ_kdM hG.cl _ _ hma w3 a2) (rpG_ok _ _)
  have htm := fill_keeps hX' hk _ (cx.length : Int) _ _ _ hnm hfm (by omega) (hdep _ _ hmm (by omega) (by omega)) (term_typM hG.cl _ _ _ _ hmm hma w3 b2 J.rfl) (rpG_ok _ _)
  have hra := fillR_cases (hok _ _ hma (by omega) (by omega)) (hta.imp id And.left)
  have hrm := fillR_cases (hok _ _ hmm (by omega) (by omega)) (htm.imp id And.left)
  refine ⟨?_, hrm.elim .inr fun h => .inl h.1, hra.elim .inr fun h => .inl h.1, fun g1 g2 g3 => ?_⟩
  · unfold CtxR eachR
    by_cases hz : firstE (fun i => FillR (cx.getD i default) th (0 + (i : Int))) cx.length = 0
    · rw [if_pos hz]; exact .inl rfl
    · rw [if_neg hz]
      obtain ⟨j, hj, e, _⟩ := firstE_at _ _ hz
      have e : (FillR (cx.getD j default) th (0 + (j : Int))).2 = _ := e
      refine .inr ?_
      show firstE _ _ = 4
      rcases hent j hj with e4 | ⟨e0, _⟩
      · rw [← e, e4]
      · rw [e0] at e; exact absurd e.symm hz
  · obtain ⟨l1, l2⟩ := ctxR_parts g1
    generalize (CtxR cx th 0).1 = l at l1 l2 ⊢
    have hl : ∀ i, i < cx.length → mayB (l.getD i default) = true ∧ Kd (envM (Wo.wd ⟨sgn, ov, []⟩)) (rpG (metaE dl th) (ctxE (cx.take i))) (l.getD i default) ∧ PS (rp (metaE dl th) (em (cx.getD i default))) (em (l.getD i default)) := fun i hi => by
      obtain ⟨q1, q2⟩ := l2 i hi
      rw [q2]
      rcases hent i hi with e4 | ⟨_, k1, k2⟩
      · rw [q1] at e4; cases e4
      · exact ⟨fillR_may _ _ _, k1, k2⟩
    have hml : ∀ x ∈ l, mayB x = true := getD_all fun i hi => (hl i (by omega)).1
    have hcn : ∀ x ∈ cx, nodesB x = true := fun x hx => (may_parts (w3 x hx)).1
    have hln : ∀ x ∈ l, nodesB x = true := fun x hx => (may_parts (hml x hx)).1
    have hcj : ∀ k, k ≤ cx.length → CtxJ (rpG (metaE dl th) (ctxE (cx.take k))) (ctxE (l.take k)) := fun k hk' =>
      ctxJ_fill hSh (by simp; omega) (fun x hx => hcn x (List.mem_of_mem_take hx)) (fun x hx => hln x (List.mem_of_mem_take hx)) fun i hi => by
        have hi : i < k ∧ i < cx.length := by simp at hi; omega
        rw [take_getD' hi.1, take_getD' hi.1]
        exact (hl i hi.2).2.2
    have hcg : ∀ k, k ≤ cx.length → CGM (Wo.wd ⟨sgn, ov, []⟩) (l.take k) := by
      intro k
      induction k with
      | zero => intro _; rw [List.take_zero]; exact CGM.nil _
      | succ k ih =>
        intro hk'
        obtain ⟨q1, q2, q3⟩ := hl k (by omega)
        have : l.take (k + 1) = l.take k ++ [l.getD k default] := by
          rw [List.take_add_one, getD_get (by omega)]; rfl
        rw [this]
        exact (ih (by omega)).more hG'.cl q1 (kd_conv _ (may_parts q1).1 _ _ (hcj k (by omega)) q2)
    have hcJ := hcj cx.length (Nat.le_refl _)
    have hcG := hcg cx.length (Nat.le_refl _)
    rw [List.take_length, List.take_of_length_le (by omega)] at hcJ
    rw [List.take_of_length_le (by omega)] at hcG
    rcases hra with e4 | ⟨_, ea1, ea2⟩
    · rw [g3] at e4; cases e4
    rcases hrm with e4 | ⟨_, em1, em2⟩
    · rw [g2] at e4; cases e4
    have hax := fillR_may a th cx.length
    have hmx' := fillR_may m th cx.length
    rcases hta with e4 | ⟨_, ka⟩
    · rw [ea2] at e4; cases e4
    rcases htm with e4 | ⟨_, tm⟩
    · rw [em2] at e4; cases e4
    rw [← ea1] at ka
    rw [← em1] at tm
    have hpa : PS (rp (metaE dl th) (em a)) (em (FillR a th cx.length).1) := by
      rw [ea1]
      exact (fill_goes hf _ _ _ hna hfa (Prod.ext rfl ea2)).2
    have hres := typ_termM hG'.cl hG'.sk hG'.mt _ _ l _ hmx' hax (by have := (may_parts hmx').2.2; omega) hcG (kd_conv _ (may_parts hax).1 _ _ hcJ ka) (typ_conv _ (may_parts hmx').1 _ _ _ _ hcJ J.rfl tm) (J.of hpa)
    have hw : mayW (Wo.wd ⟨sgn, ov, []⟩) l [(FillR m th cx.length).1, (FillR a th cx.length).1] = true := by
      unfold mayW
      simp only [Bool.and_eq_true, Bool.not_eq_true', decide_eq_false_iff_not]
      refine ⟨⟨⟨⟨by omega, maysB_iff.2 fun x hx => ?_⟩, maysB_iff.2 hml⟩, maysB_iff.2 hG'.cl.may⟩, (allB_iff _ _).2 fun j hj => ?_⟩
      · simp only [List.mem_cons, List.not_mem_nil, or_false] at hx
        rcases hx with rfl | rfl
        · exact hmx'
        · exact hax
      · obtain ⟨r1, r2⟩ := hG'.cl.mm j hj
        unfold mdMay
        rw [r1, maysB_iff.2 r2]; rfl
    unfold TermR
    rw [hw, if_pos rfl]
    exact hres
end Go.Proofs.Ytkmpfdecjmnccaa
