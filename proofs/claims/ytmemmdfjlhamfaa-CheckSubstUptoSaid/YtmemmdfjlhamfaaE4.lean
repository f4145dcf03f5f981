/- Terms as functions that are applied: what two ways of going on come to is the same. -/
import Derived.Test.YtmemmdfjlhamfaaE3
set_option linter.unusedVariables false
set_option linter.unusedSimpArgs false
namespace Go.Proofs.Ytmemmdfjlhamfaa
/-- Terms in which what is applied may be anything. -/
inductive E where
  | var (i : Nat)
  | con (k h : Int)
  | lam (b : E)
  | app (f a : E)
namespace E
def upr (ρ : Nat → Nat) : Nat → Nat
  | 0 => 0
  | i + 1 => ρ i + 1
def ren (ρ : Nat → Nat) : E → E
  | var i => var (ρ i)
  | con k h => con k h
  | lam b => lam (ren (upr ρ) b)
  | app f a => app (ren ρ f) (ren ρ a)
def ups (σ : Nat → E) : Nat → E
  | 0 => var 0
  | i + 1 => ren Nat.succ (σ i)
def sub (σ : Nat → E) : E → E
  | var i => σ i
  | con k h => con k h
  | lam b => lam (sub (ups σ) b)
  | app f a => app (sub σ f) (sub σ a)
def scons (a : E) (σ : Nat → E) : Nat → E
  | 0 => a
  | i + 1 => σ i
theorem upr_comp (ρ ρ' : Nat → Nat) : (fun i => upr ρ' (upr ρ i)) = upr fun i => ρ' (ρ i) := by funext i; cases i <;> rfl
theorem ren_ren : ∀ (t : E) (ρ ρ' : Nat → Nat), ren ρ' (ren ρ t) = ren (fun i => ρ' (ρ i)) t
  | var i, _, _ => rfl
  | con _ _, _, _ => rfl
  | lam b, ρ, ρ' => by simp only [ren, ren_ren b, upr_comp]
  | app f a, ρ, ρ' => by simp only [ren, ren_ren f, ren_ren a]
theorem ups_upr (σ : Nat → E) (ρ : Nat → Nat) : (fun i => ups σ (upr ρ i)) = ups fun i => σ (ρ i) := by funext i; cases i <;> rfl
theorem sub_ren : ∀ (t : E) (ρ : Nat → Nat) (σ : Nat → E), sub σ (ren ρ t) = sub (fun i => σ (ρ i)) t
  | var i, _, _ => rfl
  | con _ _, _, _ => rfl
  | lam b, ρ, σ => by simp only [ren, sub, sub_ren b, ups_upr]
  | app f a, ρ, σ => by simp only [ren, sub, sub_ren f, sub_ren a]
theorem ren_ups (σ : Nat → E) (ρ : Nat → Nat) : (fun i => ren (upr ρ) (ups σ i)) = ups fun i => ren ρ (σ i) := by
  funext i
  cases i with
  | zero => rfl
  | succ i => simp only [ups, ren_ren]; rfl
theorem ren_sub : ∀ (t : E) (σ : Nat → E) (ρ : Nat → Nat), ren ρ (sub σ t) = sub (fun i => ren ρ (σ i)) t
  | var i, _, _ => rfl
  | con _ _, _, _ => rfl
  | lam b, σ, ρ => by simp only [ren, sub, ren_sub b, ren_ups]
  | app f a, σ, ρ => by simp only [ren, sub, ren_sub f, ren_sub a]
theorem sub_ups (σ τ : Nat → E) : (fun i => sub (ups τ) (ups σ i)) = ups fun i => sub τ (σ i) := by
  funext i
  cases i with
  | zero => rfl
  | succ i => simp only [ups, sub_ren, ren_sub]
theorem sub_sub : ∀ (t : E) (σ τ : Nat → E), sub τ (sub σ t) = sub (fun i => sub τ (σ i)) t
  | var i, _, _ => rfl
  | con _ _, _, _ => rfl
  | lam b, σ, τ => by simp only [sub, sub_sub b, sub_ups]
  | app f a, σ, τ => by simp only [sub, sub_sub f, sub_sub a]
theorem ups_var : ups var = var := by funext i; cases i <;> rfl
theorem sub_var : ∀ t : E, sub var t = t
  | var i => rfl
  | con _ _ => rfl
  | lam b => by simp only [sub, ups_var, sub_var b]
  | app f a => by simp only [sub, sub_var f, sub_var a]
/-- A term for the variable 0. -/
def one (a : E) : Nat → E := scons a var
theorem sub_one (σ : Nat → E) (b a : E) : sub σ (sub (one a) b) = sub (one (sub σ a)) (sub (ups σ) b) := by
  rw [sub_sub, sub_sub]
  congr 1
  funext i
  cases i with
  | zero => rfl
  | succ i =>
    simp only [one, scons, ups, sub, sub_ren]
    exact (sub_var _).symm
theorem ren_one (ρ : Nat → Nat) (b a : E) : ren ρ (sub (one a) b) = sub (one (ren ρ a)) (ren (upr ρ) b) := by
  rw [ren_sub, sub_ren]
  congr 1
  funext i
  cases i <;> rfl
/-! ### steps side by side -/
inductive P : E → E → Prop where
  | var (i : Nat) : P (var i) (var i)
  | con (k h : Int) : P (con k h) (con k h)
  | lam {b b' : E} : P b b' → P (lam b) (lam b')
  | app {f f' a a' : E} : P f f' → P a a' → P (app f a) (app f' a')
  | beta {b b' a a' : E} : P b b' → P a a' → P (app (lam b) a) (sub (one a') b')
theorem P.refl : ∀ t : E, P t t
  | E.var i => .var i
  | E.con k h => .con k h
  | E.lam b => .lam (P.refl b)
  | E.app f a => .app (P.refl f) (P.refl a)
theorem P.ren {t t' : E} (h : P t t') : ∀ ρ, P (ren ρ t) (ren ρ t') := by
  induction h with
  | var i => exact fun ρ => .var _
  | con k h => exact fun ρ => .con _ _
  | lam _ ih => exact fun ρ => .lam (ih _)
  | app _ _ ih1 ih2 => exact fun ρ => .app (ih1 _) (ih2 _)
  | beta _ _ ih1 ih2 =>
    intro ρ
    rw [ren_one]
    exact .beta (ih1 _) (ih2 _)
theorem P.sub {t t' : E} (h : P t t') : ∀ {σ σ' : Nat → E}, (∀ i, P (σ i) (σ' i)) → P (sub σ t) (sub σ' t') := by
  have hup : ∀ {σ σ' : Nat → E}, (∀ i, P (σ i) (σ' i)) → ∀ i, P (ups σ i) (ups σ' i) := fun {σ σ'} hs i => by
    cases i with
    | zero => exact .var 0
    | succ i => exact (hs i).ren _
  induction h with
  | var i => exact fun hs => hs i
  | con k h => exact fun _ => .con _ _
  | lam _ ih => exact fun hs => .lam (ih (hup hs))
  | app _ _ ih1 ih2 => exact fun hs => .app (ih1 hs) (ih2 hs)
  | beta _ _ ih1 ih2 =>
    intro σ σ' hs
    rw [sub_one]
    exact .beta (ih1 (hup hs)) (ih2 hs)
/-- All that can be done at once. -/
def cd : E → E
  | var i => var i
  | con k h => con k h
  | lam b => lam (cd b)
  | app (lam b) a => sub (one (cd a)) (cd b)
  | app (var i) a => app (var i) (cd a)
  | app (con k h) a => app (con k h) (cd a)
  | app (app f b) a => app (cd (app f b)) (cd a)
theorem P.tri {t t' : E} (h : P t t') : P t' (cd t) := by
  have hone : ∀ {a a' : E}, P a a' → ∀ i, P (one a i) (one a' i) := fun {a a'} ha i => by
    cases i with
    | zero => exact ha
    | succ i => exact .var i
  induction h with
  | var i => exact .var i
  | con k h => exact .con k h
  | lam _ ih => exact .lam ih
  | @app f f' a a' hf ha ih1 ih2 =>
    cases f with
    | var i => exact .app ih1 ih2
    | con k h => exact .app ih1 ih2
    | app g b => exact .app ih1 ih2
    | lam b =>
      cases hf with
      | @lam _ b' hb =>
        cases ih1 with
        | lam ih1 => exact .beta ih1 ih2
  | beta _ _ ih1 ih2 => exact P.sub ih1 (hone ih2)
inductive PS : E → E → Prop where
  | refl (a : E) : PS a a
  | head {a b c : E} : P a b → PS b c → PS a c
theorem PS.trans {a b c : E} (h : PS a b) (k : PS b c) : PS a c := by
  induction h with
  | refl => exact k
  | head p _ ih => exact .head p (ih k)
theorem PS.one {a b : E} (h : P a b) : PS a b := .head h (.refl b)
theorem strip {a c : E} (k : PS a c) : ∀ {b : E}, P a b → ∃ d, PS b d ∧ P c d := by
  induction k with
  | refl a => exact fun {b} h => ⟨b, .refl b, h⟩
  | @head a a1 c p _ ih =>
    intro b h
    obtain ⟨d, h1, h2⟩ := ih p.tri
    exact ⟨d, .head h.tri h1, h2⟩
theorem conf {a b : E} (h : PS a b) : ∀ {c : E}, PS a c → ∃ d, PS b d ∧ PS c d := by
  induction h with
  | refl a => exact fun {c} k => ⟨c, k, .refl c⟩
  | head p _ ih =>
    intro c k
    obtain ⟨d1, h1, h2⟩ := strip k p
    obtain ⟨d, h3, h4⟩ := ih h1
    exact ⟨d, h3, .head h2 h4⟩
theorem PS.lam {b b' : E} (h : PS b b') : PS (lam b) (lam b') := by
  induction h with
  | refl a => exact .refl _
  | head p _ ih => exact .head (.lam p) ih
theorem PS.app {f f' a a' : E} (h : PS f f') (k : PS a a') : PS (app f a) (app f' a') := by
  have h1 : PS (E.app f a) (E.app f' a) := by
    induction h with
    | refl => exact .refl _
    | head p _ ih => exact .head (.app p (.refl _)) ih
  have h2 : PS (E.app f' a) (E.app f' a') := by
    clear h1
    induction k with
    | refl => exact .refl _
    | head p _ ih => exact .head (.app (.refl _) p) ih
  exact h1.trans h2
theorem PS.sub1 {t t' : E} (h : PS t t') (σ : Nat → E) : PS (sub σ t) (sub σ t') := by
  induction h with
  | refl => exact .refl _
  | head p _ ih => exact .head (P.sub p fun i => .refl _) ih
theorem PS.ren {t t' : E} (h : PS t t') (ρ : Nat → Nat) : PS (ren ρ t) (ren ρ t') := by
  induction h with
  | refl => exact .refl _
  | head p _ ih => exact .head (p.ren ρ) ih
theorem PS.subs : ∀ (t : E) {σ σ' : Nat → E}, (∀ i, PS (σ i) (σ' i)) → PS (sub σ t) (sub σ' t)
  | E.var i, _, _, h => h i
  | E.con _ _, _, _, _ => .refl _
  | E.lam b, σ, σ', h => PS.lam (PS.subs b fun i => by
      cases i with
      | zero => exact .refl _
      | succ i => exact (h i).ren _)
  | E.app f a, σ, σ', h => PS.app (PS.subs f h) (PS.subs a h)
/-! ### one applied to many -/
def apps (f : E) (l : List E) : E := l.foldl E.app f
theorem apps_nil (f : E) : apps f [] = f := rfl
theorem apps_cons (f a : E) (l : List E) : apps f (a :: l) = apps (E.app f a) l := rfl
theorem apps_append (f : E) (l l' : List E) : apps f (l ++ l') = apps (apps f l) l' := by simp [apps]
theorem apps_snoc (f a : E) (l : List E) : apps f (l ++ [a]) = E.app (apps f l) a := by simp [apps]
theorem sub_apps (σ : Nat → E) : ∀ (l : List E) (f : E), sub σ (apps f l) = apps (sub σ f) (l.map (sub σ))
  | [], f => rfl
  | a :: l, f => by rw [apps_cons, sub_apps σ l]; rfl
theorem ren_apps (ρ : Nat → Nat) : ∀ (l : List E) (f : E), ren ρ (apps f l) = apps (ren ρ f) (l.map (ren ρ))
  | [], f => rfl
  | a :: l, f => by rw [apps_cons, ren_apps ρ l]; rfl
inductive All2 (Q : E → E → Prop) : List E → List E → Prop where
  | nil : All2 Q [] []
  | cons {a b : E} {l l' : List E} : Q a b → All2 Q l l' → All2 Q (a :: l) (b :: l')
theorem PS.apps {f f' : E} {l l' : List E} (h : PS f f') (k : All2 PS l l') : PS (E.apps f l) (E.apps f' l') := by
  induction k generalizing f f' with
  | nil => exact h
  | cons q _ ih => exact ih (PS.app h q)
/-- What is no function. -/
def rigid : E → Prop
  | var _ => True
  | con _ _ => True
  | _ => False
theorem apps_rigid {h : E} (hr : rigid h) : ∀ l : List E, (∃ f a, apps h l = E.app f a) ∨ l = [] := by
  intro l
  rcases List.eq_nil_or_concat l with rfl | ⟨l, a, rfl⟩
  · exact .inr rfl
  · exact .inl ⟨_, _, by rw [List.concat_eq_append, apps_snoc]⟩
theorem apps_no_lam {h : E} (hr : rigid h) (l : List E) (b : E) : apps h l ≠ E.lam b := by
  rcases apps_rigid hr l with ⟨f, a, e⟩ | rfl
  · rw [e]; intro h; cases h
  · rw [apps_nil]; intro e; rw [e] at hr; exact hr
theorem P_apps {h : E} (hr : rigid h) : ∀ (n : Nat) (l : List E), l.length = n → ∀ x, P (apps h l) x → ∃ l', x = apps h l' ∧ All2 P l l'
  | 0, l, hn, x, hp => by
    obtain rfl := List.eq_nil_of_length_eq_zero hn
    rw [apps_nil] at hp
    cases h with
    | var i => cases hp; exact ⟨[], rfl, .nil⟩
    | con k h => cases hp; exact ⟨[], rfl, .nil⟩
    | lam b => exact hr.elim
    | app f a => exact hr.elim
  | n + 1, l, hn, x, hp => by
    rcases List.eq_nil_or_concat l with rfl | ⟨l, a, rfl⟩
    · cases hn
    rw [List.concat_eq_append] at hn hp ⊢
    rw [apps_snoc] at hp
    generalize hg : apps h l = g at hp
    have hsn : ∀ {l l' : List E} {a a' : E}, All2 P l l' → P a a' → All2 P (l ++ [a]) (l' ++ [a']) := by
      intro l l' a a' h1 h2
      induction h1 with
      | nil => exact .cons h2 .nil
      | cons q _ ih => exact .cons q ih
    cases hp with
    | app p1 p2 =>
      subst hg
      obtain ⟨l', rfl, h2⟩ := P_apps hr n l (by simpa using hn) _ p1
      exact ⟨l' ++ [_], by rw [apps_snoc], hsn h2 p2⟩
    | beta p1 p2 => exact absurd hg (apps_no_lam hr l _)
theorem apps_inj {h h' : E} (hr : rigid h) (hr' : rigid h') : ∀ (n : Nat) (l l' : List E), l.length = n → apps h l = apps h' l' → h = h' ∧ l = l'
  | 0, l, l', hn, he => by
    obtain rfl := List.eq_nil_of_length_eq_zero hn
    rcases List.eq_nil_or_concat l' with rfl | ⟨l', a, rfl⟩
    · exact ⟨he, rfl⟩
    · rw [List.concat_eq_append, apps_snoc, apps_nil] at he
      rw [he] at hr; exact hr.elim
  | n + 1, l, l', hn, he => by
    rcases List.eq_nil_or_concat l with rfl | ⟨l, a, rfl⟩
    · cases hn
    rcases List.eq_nil_or_concat l' with rfl | ⟨l', a', rfl⟩
    · rw [List.concat_eq_append, apps_snoc, apps_nil] at he
      rw [← he] at hr'; exact hr'.elim
    · rw [List.concat_eq_append, List.concat_eq_append, apps_snoc, apps_snoc] at he
      injection he with h1 h2
      obtain ⟨rfl, rfl⟩ := apps_inj hr hr' n l l' (by simpa using hn) h1
      rw [h2]; exact ⟨rfl, rfl⟩
end E
end Go.Proofs.Ytmemmdfjlhamfaa
/- Terms as functions that are applied: substitution goes on as these do. -/
set_option linter.unusedVariables false
set_option linter.unusedSimpArgs false
namespace Go.Proofs.Ytmemmdfjlhamfaa
open E
def wrap (b : Nat) (e : E) : E := if b = 1 then .lam e else e
def hd (t : Tm) : E := if t.kind = 4 then .var t.head.toNat else .con t.kind t.head
def em : Tm → E
  | .mk k h l => if k = 3 then (if h0 : 0 < l.length then .lam (em l[0]) else .con 3 0)
      else apps (hd (.mk k h l)) ((List.range l.length).map fun i => if hi : i < l.length then wrap (bnd (.mk k h l) i) (em l[i]) else .con 0 0)
decreasing_by
  · have := List.sizeOf_lt_of_mem (List.getElem_mem h0)
    simp only [Tm.mk.sizeOf_spec]
    omega
  · have := List.sizeOf_lt_of_mem (List.getElem_mem hi)
    simp only [Tm.mk.sizeOf_spec]
    omega
def ems (t : Tm) : List E := (List.range t.args.length).map fun i => wrap (bnd t i) (em (t.arg i))
theorem em_lam {t : Tm} (hk : t.kind = 3) (hl : 0 < t.args.length) : em t = .lam (em (t.arg 0)) := by
  obtain ⟨k, h, l⟩ := t
  have hk : k = 3 := hk
  have hl : 0 < l.length := hl
  rw [em, if_pos hk, dif_pos hl]
  have := arg_eq (t := .mk k h l) hl
  simp only [Tm.args] at this
  rw [this]
theorem em_app {t : Tm} (hk : t.kind ≠ 3) : em t = apps (hd t) (ems t) := by
  obtain ⟨k, h, l⟩ := t
  have hk : ¬ k = 3 := hk
  rw [em, if_neg hk]
  congr 1
  refine List.map_congr_left fun i hi => ?_
  have hi : i < l.length := by simpa using hi
  have := arg_eq (t := .mk k h l) hi
  simp only [Tm.args] at this
  rw [dif_pos hi, this]
theorem hd_rigid (t : Tm) : rigid (hd t) := by unfold hd; split <;> trivial
theorem ems_len (t : Tm) : (ems t).length = t.args.length := by simp [ems]
theorem ems_getElem (t : Tm) (i : Nat) (h : i < (ems t).length) : (ems t)[i] = wrap (bnd t i) (em (t.arg i)) := by simp [ems]
theorem ems_none {t : Tm} (hk : heads t.kind = true) : ems t = t.args.map em := by
  unfold ems
  refine List.ext_getElem (by simp) fun i h1 h2 => ?_
  simp at h1
  simp [bnd_none' hk, wrap, arg_eq h1]
theorem em_heads {k h : Int} {l : List Tm} (hk : heads k = true) : em (.mk k h l) = apps (hd (.mk k h [])) (l.map em) := by
  have h3 : (Tm.mk k h l).kind ≠ 3 := by
    simp only [heads, Bool.or_eq_true, beq_iff_eq] at hk
    show k ≠ 3
    omega
  rw [em_app h3, ems_none (t := .mk k h l) hk]
  rfl
theorem em_var {i : Int} : em (.mk 4 i []) = .var i.toNat := by
  rw [em_heads rfl]; rfl
/-! ### up by one -/
def upn : Nat → Nat → Nat
  | 0 => Nat.succ
  | n + 1 => upr (upn n)
theorem upn_get : ∀ n i : Nat, upn n i = if i ≥ n then i + 1 else i
  | 0, i => by simp [upn]
  | n + 1, 0 => by simp [upn, upr]
  | n + 1, i + 1 => by
    simp only [upn, upr, upn_get n i]
    split <;> split <;> omega
theorem em_up : ∀ t : Tm, nodesB t = true → ∀ n : Nat, em (mapT (gUp 1) t (n : Int)) = ren (upn n) (em t) := by
  refine Tm.ind fun t ih hn n => ?_
  by_cases hk : t.kind = 3
  · have hl := lam_len hn hk
    rw [em_lam hk (by omega), em_lam (by rw [mapT_kind]; exact hk) (by rw [mapT_len]; omega), mapT_arg _ _ (by omega), lam_bnd hn hk]
    have := ih _ (arg_mem (by omega)) (node_args hn 0 (by omega)) (n + 1)
    rw [show ((n : Int) + ((1 : Nat) : Int)) = ((n + 1 : Nat) : Int) by omega, this]
    rfl
  · rw [em_app hk, em_app (by rw [mapT_kind]; exact hk), ren_apps]
    have h1 : hd (mapT (gUp 1) t (n : Int)) = ren (upn n) (hd t) := by
      have h0 := node_head (node_here hn)
      unfold hd
      rw [mapT_kind, mapT_head]
      by_cases h4 : t.kind = 4
      · rw [if_pos h4, if_pos h4]
        have : (t.kind == 4) = true := by simpa using h4
        simp only [this, if_true, ren, upn_get, gUp]
        congr 1
        split <;> split <;> omega
      · rw [if_neg h4, if_neg h4]
        have : (t.kind == 4) = false := by simpa using h4
        simp only [this, Bool.false_eq_true, if_false, ren]
    have h2 : ems (mapT (gUp 1) t (n : Int)) = (ems t).map (ren (upn n)) := by
      unfold ems
      rw [mapT_len, List.map_map]
      refine List.map_congr_left fun i hi => ?_
      have hi : i < t.args.length := by simpa using hi
      have hx := ih _ (arg_mem hi) (node_args hn i hi) (n + bnd t i)
      simp only [Function.comp_apply]
      rw [mapT_arg _ _ hi, mapT_bnd, show ((n : Int) + ((bnd t i : Nat) : Int)) = ((n + bnd t i : Nat) : Int) by omega, hx]
      unfold wrap
      by_cases hb : bnd t i = 1
      · rw [if_pos hb, if_pos hb, hb]; rfl
      · rw [if_neg hb, if_neg hb, show bnd t i = 0 by have := bnd_le t i; omega]; rfl
    rw [h1, h2]
/-- What a substitution does. -/
def sg (s : Sb) (i : Nat) : E := em (ofS s i)
theorem sg_under {s : Sb} (h : NodesS s) : sg (underS s) = ups (sg s) := by
  funext i
  cases i with
  | zero => show em (ofS (underS s) 0) = _; rw [of_under0]; unfold var0; rw [em_var]; rfl
  | succ i =>
    show em (ofS (underS s) ((i + 1 : Nat) : Int)) = _
    rw [show ((i + 1 : Nat) : Int) = (i : Int) + 1 by omega, of_under s (by omega) h.2]
    exact em_up _ (h.of (by omega)) 0
theorem sg_one (a : Tm) : sg ⟨[a], 0⟩ = one (em a) := by
  funext i
  cases i with
  | zero => rfl
  | succ i =>
    show em (ofS ⟨[a], 0⟩ ((i + 1 : Nat) : Int)) = .var i
    have : ofS ⟨[a], 0⟩ ((i + 1 : Nat) : Int) = .mk 4 i [] := by
      unfold ofS
      rw [if_neg (by simp; omega)]
      congr 1
      simp
    rw [this, em_var]
    rfl
abbrev Goes (A : Tm → Sb → Nat → R Tm) : Prop := ∀ (t : Tm) (s : Sb) (n : Nat) (u : Tm) (m : Nat), nodesB t = true → NodesS s → A t s n = .ok u m → nodesB u = true ∧ PS (sub (sg s) (em t)) (em u)
theorem all2_refl (l : List E) : All2 PS l l := by
  induction l with
  | nil => exact .nil
  | cons a l ih => exact .cons (.refl a) ih
theorem spn_goes {A : Tm → Sb → Nat → R Tm} (hA : Goes A) : ∀ (l : List Tm) (u : Tm) (n : Nat) (r : Tm) (m : Nat), nodesB u = true → (∀ x ∈ l, nodesB x = true) → spnA A u l n = .ok r m → nodesB r = true ∧ PS (apps (em u) (l.map em)) (em r)
  | [], u, n, r, m, hu, hl, h => by cases h; exact ⟨hu, .refl _⟩
  | a :: rest, u, n, r, m, hu, hl, h => by
    simp only [spnA] at h
    split at h
    · rename_i hk
      split at h
      case isFalse => cases h
      obtain ⟨v, n1, h1, h2⟩ := R.bind_eq h
      have hl1 := lam_len hu hk
      obtain ⟨hv, hp⟩ := hA _ _ _ v n1 (node_args hu 0 (by omega)) ⟨by simpa using hl a (by simp), by simp⟩ h1
      obtain ⟨hr, hq⟩ := spn_goes hA rest v n1 r m hv (fun x hx => hl x (by simp [hx])) h2
      refine ⟨hr, ?_⟩
      rw [List.map_cons, apps_cons, em_lam hk (by omega)]
      rw [sg_one] at hp
      refine PS.trans (PS.apps ?_ (all2_refl _)) hq
      exact .head (.beta (P.refl _) (P.refl _)) hp
    · split at h
      case isFalse => cases h
      rename_i hk hh
      cases h
      refine ⟨nodes_mk (node_heads hh (node_head (node_here hu)) _) fun x hx => ?_, ?_⟩
      · rcases List.mem_append.1 hx with hx | hx
        · obtain ⟨i, hi, rfl⟩ := List.mem_iff_getElem.1 hx
          rw [arg_eq hi]; exact node_args hu i hi
        · exact hl x hx
      · rw [em_heads hh, List.map_append, apps_append]
        have : em u = apps (hd (.mk u.kind u.head [])) (u.args.map em) := by
          conv => lhs; rw [← mk_self u]
          exact em_heads hh
        rw [this]
        exact .refl _
theorem all2_of {l l' : List E} (hl : l.length = l'.length) {Q : E → E → Prop} (h : ∀ i, (h1 : i < l.length) → (h2 : i < l'.length) → Q l[i] l'[i]) : All2 Q l l' := by
  induction l generalizing l' with
  | nil =>
    obtain rfl := List.eq_nil_of_length_eq_zero hl.symm
    exact .nil
  | cons a l ih =>
    cases l' with
    | nil => cases hl
    | cons b l' =>
      refine .cons (h 0 (by simp) (by simp)) (ih (by simpa using hl) fun i h1 h2 => ?_)
      have := h (i + 1) (by simpa using h1) (by simpa using h2)
      simpa using this
theorem ap_goes : ∀ f : Nat, Goes (ap f)
  | 0 => fun t s n u m ht hs h => by cases h
  | f + 1 => fun t s n u m ht hs h => by
    have ih := ap_goes f
    rw [ap_succ] at h
    split at h
    · cases h
    obtain ⟨xs, m1, e1, e2⟩ := R.bind_eq h
    have hxl := seqF_len _ _ _ _ _ e1
    have hall := seq_all (Q := fun i x => nodesB x = true ∧ PS (sub (sg (below s t i)) (em (t.arg i))) (em x)) t.args.length (fun i hi m x m' hx => ih _ _ m x m' (node_args ht i hi) (hs.below t i) hx) xs m1 e1
    have hxn : ∀ x ∈ xs, nodesB x = true := getD_all fun i hi => (hall i (by omega)).1
    have hget : ∀ i, (h1 : i < xs.length) → xs[i] = xs.getD i default := fun i h1 => by rw [List.getD_eq_getElem?_getD, List.getElem?_eq_getElem h1]; rfl
    split at e2
    · rename_i hk
      have hh : heads t.kind = true := by simp [heads, hk]
      obtain ⟨hr, hp⟩ := spn_goes ih xs (ofS s t.head) m1 u m (hs.of (node_head (node_here ht))) hxn e2
      refine ⟨hr, PS.trans ?_ hp⟩
      rw [em_app (by omega), sub_apps, ems_none hh]
      have hhd : sub (sg s) (hd t) = em (ofS s t.head) := by
        have h0 := node_head (node_here ht)
        unfold hd
        rw [if_pos hk]
        show em (ofS s (t.head.toNat : Int)) = _
        rw [Int.toNat_of_nonneg h0]
      rw [hhd]
      refine PS.apps (.refl _) (all2_of (by simp [hxl]) fun i h1 h2 => ?_)
      simp only [List.length_map] at h1 h2
      have := (hall i h1).2
      rw [show below s t i = s by unfold below; rw [bnd_none' hh]; rfl] at this
      simp only [List.getElem_map, arg_eq h1, hget i h2]
      exact this
    · rename_i hk
      cases e2
      have hnk : nodesB (.mk t.kind t.head xs) = true := nodes_mk (node_same (node_here ht) hxl) hxn
      refine ⟨hnk, ?_⟩
      have hbel : ∀ i, i < t.args.length → PS (sub (sg s) (wrap (bnd t i) (em (t.arg i)))) (wrap (bnd t i) (em (xs.getD i default))) := fun i hi => by
        have := (hall i hi).2
        unfold below at this
        unfold wrap
        by_cases hb : bnd t i = 1
        · rw [if_pos hb, sg_under hs] at this
          rw [if_pos hb, if_pos hb]
          exact PS.lam this
        · rw [if_neg hb] at this
          rw [if_neg hb, if_neg hb]
          exact this
      by_cases h3 : t.kind = 3
      · have hl := lam_len ht h3
        rw [em_lam h3 (by omega), em_lam (t := .mk t.kind t.head xs) h3 (by rw [mk_args]; omega)]
        have := hbel 0 (by omega)
        rw [lam_bnd ht h3] at this
        exact this
      · rw [em_app h3, em_app (t := .mk t.kind t.head xs) h3, sub_apps]
        have hhd : sub (sg s) (hd t) = hd (.mk t.kind t.head xs) := by
          unfold hd
          rw [mk_kind, if_neg hk, if_neg hk]; rfl
        rw [hhd]
        refine PS.apps (.refl _) (all2_of (by simp [ems_len, hxl, mk_args]) fun i h1 h2 => ?_)
        simp only [List.length_map, ems_len] at h1
        have := hbel i h1
        simp only [List.getElem_map, ems_getElem]
        rw [bnd_mk t hxl]
        exact this
/-! ### nothing is left to do -/
theorem all2_eq {Q : E → E → Prop} {l l' : List E} (h : All2 Q l l') (hq : ∀ e ∈ l, ∀ x, Q e x → x = e) : l' = l := by
  induction h with
  | nil => rfl
  | cons q _ ih => rw [hq _ (by simp) _ q, ih fun e he => hq e (by simp [he])]
theorem em_nf : ∀ t : Tm, nodesB t = true → ∀ x, P (em t) x → x = em t := by
  refine Tm.ind fun t ih hn x hp => ?_
  by_cases hk : t.kind = 3
  · have hl := lam_len hn hk
    rw [em_lam hk (by omega)] at hp ⊢
    cases hp with
    | lam p => rw [ih _ (arg_mem (by omega)) (node_args hn 0 (by omega)) _ p]
  · rw [em_app hk] at hp ⊢
    obtain ⟨l', rfl, h2⟩ := P_apps (hd_rigid t) _ _ rfl _ hp
    rw [all2_eq h2 fun e he x hx => ?_]
    unfold ems at he
    simp only [List.mem_map, List.mem_range] at he
    obtain ⟨i, hi, rfl⟩ := he
    have hi' := ih _ (arg_mem hi) (node_args hn i hi)
    unfold wrap at hx ⊢
    by_cases hb : bnd t i = 1
    · rw [if_pos hb] at hx ⊢
      cases hx with
      | lam p => rw [hi' _ p]
    · rw [if_neg hb] at hx ⊢
      exact hi' _ hx
theorem em_stays {t : Tm} (hn : nodesB t = true) {x : E} (h : PS (em t) x) : x = em t := by
  generalize he : em t = e at h
  induction h with
  | refl => rfl
  | head p _ ih =>
    subst he
    have := em_nf t hn _ p
    subst this
    exact ih rfl
theorem em_inj : ∀ t u : Tm, nodesB t = true → nodesB u = true → em t = em u → t = u := by
  refine Tm.ind fun t ih u ht hu he => ?_
  by_cases hk : t.kind = 3
  · have hl := lam_len ht hk
    rw [em_lam hk (by omega)] at he
    by_cases hk' : u.kind = 3
    · have hl' := lam_len hu hk'
      rw [em_lam hk' (by omega)] at he
      injection he with he
      have h0 : t.head = 0 := by
        have := node_here ht
        unfold nodeOk at this
        simp [hk] at this
        exact this.1
      have h0' : u.head = 0 := by
        have := node_here hu
        unfold nodeOk at this
        simp [hk'] at this
        exact this.1
      refine tm_ext (by omega) (by omega) (by omega) fun i hi => ?_
      obtain rfl : i = 0 := by omega
      exact ih _ (arg_mem hi) _ (node_args ht 0 hi) (node_args hu 0 (by omega)) he
    · rw [em_app hk'] at he
      exact absurd he.symm (apps_no_lam (hd_rigid u) _ _)
  · by_cases hk' : u.kind = 3
    · have hl' := lam_len hu hk'
      rw [em_app hk, em_lam hk' (by omega)] at he
      exact absurd he (apps_no_lam (hd_rigid t) _ _)
    · rw [em_app hk, em_app hk'] at he
      obtain ⟨h1, h2⟩ := apps_inj (hd_rigid t) (hd_rigid u) _ _ _ rfl he
      have n1 := node_head (node_here ht)
      have n2 := node_head (node_here hu)
      have hkh : t.kind = u.kind ∧ t.head = u.head := by
        unfold hd at h1
        by_cases h4 : t.kind = 4
        · rw [if_pos h4] at h1
          by_cases h4' : u.kind = 4
          · rw [if_pos h4'] at h1
            injection h1 with h1
            exact ⟨by omega, by omega⟩
          · rw [if_neg h4'] at h1; cases h1
        · rw [if_neg h4] at h1
          by_cases h4' : u.kind = 4
          · rw [if_pos h4'] at h1; cases h1
          · rw [if_neg h4'] at h1
            injection h1 with h1 h1'
            exact ⟨h1, h1'⟩
      have hlen : t.args.length = u.args.length := by rw [← ems_len, h2, ems_len]
      refine tm_ext hkh.1 hkh.2 hlen fun i hi => ?_
      have hb : bnd u i = bnd t i := by unfold bnd; rw [hkh.1, hlen]
      have h3 : (ems t)[i]'(by rw [ems_len]; exact hi) = (ems u)[i]'(by rw [ems_len]; omega) := by simp only [h2]
      rw [ems_getElem, ems_getElem, hb] at h3
      refine ih _ (arg_mem hi) _ (node_args ht i hi) (node_args hu i (by omega)) ?_
      unfold wrap at h3
      split at h3
      · injection h3
      · exact h3
/-- Two variables, one behind the other or both at once. -/
theorem twice_plain {f : Nat} {t n m a b c x : Tm} {k1 k2 k3 k4 : Nat} (ht : nodesB t = true) (hn : nodesB n = true) (hm : nodesB m = true)
    (h1 : ap f t ⟨[n], 0⟩ 0 = .ok a k1) (h2 : ap f a ⟨[m], 0⟩ 0 = .ok b k2) (h3 : ap f n ⟨[m], 0⟩ 0 = .ok x k3) (h4 : ap f t ⟨[m, x], 0⟩ 0 = .ok c k4) : b = c := by
  obtain ⟨na, p1⟩ := ap_goes f t ⟨[n], 0⟩ 0 a k1 ht ⟨by simpa using hn, by simp⟩ h1
  obtain ⟨nb, p2⟩ := ap_goes f a ⟨[m], 0⟩ 0 b k2 na ⟨by simpa using hm, by simp⟩ h2
  obtain ⟨nx, p3⟩ := ap_goes f n ⟨[m], 0⟩ 0 x k3 hn ⟨by simpa using hm, by simp⟩ h3
  obtain ⟨nc, p4⟩ := ap_goes f t ⟨[m, x], 0⟩ 0 c k4 ht ⟨by simp [hm, nx], by simp⟩ h4
  rw [sg_one] at p1 p2 p3
  have q1 : PS (sub (E.one (em m)) (sub (E.one (em n)) (em t))) (em b) := (PS.sub1 p1 _).trans p2
  have q2 : PS (sub (E.one (em m)) (sub (E.one (em n)) (em t))) (em c) := by
    rw [sub_sub]
    refine PS.trans (PS.subs (em t) (σ' := sg ⟨[m, x], 0⟩) fun i => ?_) p4
    match i with
    | 0 => exact p3
    | 1 => exact .refl _
    | i + 2 =>
      have : ofS ⟨[m, x], 0⟩ ((i + 2 : Nat) : Int) = .mk 4 i [] := by
        unfold ofS
        rw [if_neg (by simp; omega)]
        congr 1
        simp
      show PS (E.var i) (em (ofS ⟨[m, x], 0⟩ ((i + 2 : Nat) : Int)))
      rw [this, em_var]
      exact .refl _
  obtain ⟨d, r1, r2⟩ := conf q1 q2
  have e1 := em_stays nb r1
  have e2 := em_stays nc r2
  exact em_inj b c nb nc (e1.symm.trans e2)
end Go.Proofs.Ytmemmdfjlhamfaa
/- One entry more within a context: in plain words. -/
set_option linter.unusedVariables false
set_option linter.unusedSimpArgs false
namespace Go.Proofs.Ytmemmdfjlhamfaa
theorem mapT_shift (g : Int → Int → Int) (d : Int) : ∀ (t : Tm) (n : Int), mapT g t (n + d) = mapT (fun x m => g x (m + d)) t n := by
  refine Tm.ind fun t ih n => ?_
  rw [mapT_eq, mapT_eq]
  congr 1
  refine List.map_congr_left fun i hi => ?_
  have hi : i < t.args.length := by simpa using hi
  have := ih _ (arg_mem hi) (n + bnd t i)
  rw [← this]
  congr 1
  omega
theorem up_swap (t : Tm) {k : Int} (hk : 0 ≤ k) : upT (upT t 1 k) 1 0 = upT (upT t 1 0) 1 (k + 1) := by
  have h1 : upT t 1 k = mapT (fun x m => gUp 1 x (m + k)) t 0 := by
    have := mapT_shift (gUp 1) k t 0
    rwa [Int.zero_add] at this
  have h2 : upT (upT t 1 0) 1 (k + 1) = mapT (fun x m => gUp 1 x (m + (k + 1))) (upT t 1 0) 0 := by
    have := mapT_shift (gUp 1) (k + 1) (upT t 1 0) 0
    rwa [Int.zero_add] at this
  rw [h1, h2]
  unfold upT
  rw [mapT_map, mapT_map]
  refine mapT_congr (p := fun _ _ => true) (fun x m _ => ?_) t 0 (canB_true t 0)
  unfold gUp
  by_cases h : x ≥ m + k
  · rw [if_pos h, if_pos (by omega), if_pos (show x ≥ m by omega), if_pos (by omega)]
  · rw [if_neg h]
    by_cases h' : x ≥ m
    · rw [if_pos h', if_neg (by omega)]
    · rw [if_neg h', if_neg (by omega)]
theorem may_up {t : Tm} (hn : nodesB t = true) {b : Int} (hb : 0 ≤ b) (n : Int) : mayB (upT t b n) = mayB t := by
  unfold mayB
  rw [mapT_size, mapT_depth, up_nodes hn hb n, hn]
theorem may_sub {t x : Tm} (hx : x ∈ t.args) (h : mayB t = true) : mayB x = true := by
  obtain ⟨h1, h2, h3⟩ := may_parts h
  have hs := size_arg hx
  have hd := depth_arg hx
  refine may_of ?_ (by omega) (by omega)
  obtain ⟨i, hi, rfl⟩ := List.mem_iff_getElem.1 hx
  rw [arg_eq hi]
  exact node_args h1 i hi
theorem up_mk_heads {k h : Int} {l : List Tm} (hk : heads k = true) (b n : Int) : upT (.mk k h l) b n = .mk k (if k == 4 then gUp b h n else h) (l.map fun x => upT x b n) := by
  unfold upT
  rw [mapT_eq]
  simp only [mk_kind, mk_head, mk_args]
  congr 1
  refine List.ext_getElem (by simp) fun i h1 h2 => ?_
  have hi : i < l.length := by simpa using h2
  simp only [List.getElem_map, List.getElem_range, bnd_none hk, Int.natCast_zero, Int.add_zero]
  have := arg_eq (t := .mk k h l) hi
  simp only [mk_args] at this
  rw [this]
/-- A substitution, and one that maps to what is up. -/
def RUp (s s' : Sb) (j k : Int) : Prop := ∀ i : Int, 0 ≤ i → ofS s' (gUp 1 i j) = upT (ofS s i) 1 k
theorem RUp.under {s s' : Sb} {j k : Int} (h : RUp s s' j k) (hs : 0 ≤ s.sh) (hs' : 0 ≤ s'.sh) (hj : 0 ≤ j) (hk : 0 ≤ k) : RUp (underS s) (underS s') (j + 1) (k + 1) := by
  intro i hi
  rcases Int.lt_or_le 0 i with h1 | h1
  · have e : gUp 1 i (j + 1) = gUp 1 (i - 1) j + 1 := by unfold gUp; split <;> split <;> omega
    have hg : 0 ≤ gUp 1 (i - 1) j := by unfold gUp; split <;> omega
    have hu := of_under s (i := i - 1) (by omega) hs
    rw [show i - 1 + 1 = i by omega] at hu
    rw [e, of_under s' hg hs', h (i - 1) (by omega), hu, up_swap _ hk]
  · obtain rfl : i = 0 := by omega
    have e : gUp 1 0 (j + 1) = 0 := by unfold gUp; rw [if_neg (by omega)]
    rw [e, of_under0, of_under0]
    unfold var0
    rw [up_mk_heads rfl]
    have : gUp 1 0 (k + 1) = 0 := by unfold gUp; rw [if_neg (by omega)]
    rw [this]; rfl
theorem RUp.one (a : Tm) {k : Int} (hk : 0 ≤ k) : RUp ⟨[a], 0⟩ ⟨[upT a 1 k], 0⟩ (k + 1) k := by
  intro i hi
  rcases Int.lt_or_le 0 i with h1 | h1
  · have h2 : ofS ⟨[a], 0⟩ i = .mk 4 (i - 1) [] := by
      unfold ofS
      rw [if_neg (by simp; omega)]
      congr 1
      simp
    have hg : 0 < gUp 1 i (k + 1) := by unfold gUp; split <;> omega
    have h3 : ofS ⟨[upT a 1 k], 0⟩ (gUp 1 i (k + 1)) = .mk 4 (gUp 1 i (k + 1) - 1) [] := by
      unfold ofS
      rw [if_neg (by simp; omega)]
      congr 1
      simp
    rw [h2, h3, up_mk_heads rfl]
    have : gUp 1 i (k + 1) - 1 = gUp 1 (i - 1) k := by unfold gUp; split <;> split <;> omega
    rw [this]; rfl
  · obtain rfl : i = 0 := by omega
    have e : gUp 1 0 (k + 1) = 0 := by unfold gUp; rw [if_neg (by omega)]
    rw [e]; rfl
def mapR (g : Tm → Tm) : R Tm → R Tm
  | .ok a n => .ok (g a) n
  | .er e n => .er e n
abbrev RisesA (A : Tm → Sb → Nat → R Tm) : Prop := ∀ (t : Tm) (s s' : Sb) (n : Nat) (j k : Int), nodesB t = true → NodesS s → NodesS s' → 0 ≤ j → 0 ≤ k → RUp s s' j k → A (upT t 1 j) s' n = mapR (fun x => upT x 1 k) (A t s n)
theorem spn_up {A : Tm → Sb → Nat → R Tm} (hA : RisesA A) (hG : Goes A) {k : Int} (hk : 0 ≤ k) : ∀ (l : List Tm) (u : Tm) (n : Nat), nodesB u = true → (∀ x ∈ l, nodesB x = true) → spnA A (upT u 1 k) (l.map fun x => upT x 1 k) n = mapR (fun x => upT x 1 k) (spnA A u l n)
  | [], u, n, _, _ => rfl
  | a :: rest, u, n, hu, hl => by
    have ha := hl a (by simp)
    simp only [List.map_cons, spnA, mapT_kind, may_up ha (show (0 : Int) ≤ 1 by decide)]
    by_cases h3 : u.kind = 3
    · rw [if_pos h3, if_pos h3]
      by_cases hm : mayB a = true
      · rw [if_pos hm, if_pos hm]
        have hl1 := lam_len hu h3
        have harg : (upT u 1 k).arg 0 = upT (u.arg 0) 1 (k + 1) := by
          unfold upT
          rw [mapT_arg _ _ (by omega), lam_bnd hu h3]
          rfl
        rw [harg, hA (u.arg 0) ⟨[a], 0⟩ ⟨[upT a 1 k], 0⟩ n (k + 1) k (node_args hu 0 (by omega)) ⟨by simpa using ha, by simp⟩ ⟨by simpa using up_nodes ha (by decide) k, by simp⟩ (by omega) hk (RUp.one a hk)]
        cases hx : A (u.arg 0) ⟨[a], 0⟩ n with
        | ok v m =>
          simp only [mapR, R.bind_ok]
          have hv := (hG _ _ _ v m (node_args hu 0 (by omega)) ⟨by simpa using ha, by simp⟩ hx).1
          exact spn_up hA hG hk rest v m hv fun x hx => hl x (by simp [hx])
        | er e m => rfl
      · rw [if_neg hm, if_neg hm]; rfl
    · rw [if_neg h3, if_neg h3]
      by_cases hh : heads u.kind = true
      · rw [if_pos hh, if_pos hh]
        simp only [mapR]
        congr 1
        rw [up_mk_heads hh]
        have h1 := up_mk_heads (h := u.head) (l := u.args) hh 1 k
        rw [mk_self] at h1
        rw [h1]
        simp [mk_head, mk_args]
      · rw [if_neg hh, if_neg hh]; rfl
def upArgs (t : Tm) (k : Int) (xs : List Tm) : List Tm := (List.range xs.length).map fun i => upT (xs.getD i default) 1 (k + bnd t i)
theorem upArgs_snoc (t : Tm) (k : Int) (xs : List Tm) (x : Tm) : upArgs t k (xs ++ [x]) = upArgs t k xs ++ [upT x 1 (k + bnd t xs.length)] := by
  unfold upArgs
  rw [List.length_append, List.length_singleton, List.range_succ, List.map_append]
  congr 1
  · refine List.map_congr_left fun i hi => ?_
    rw [getD_append_l (by simpa using hi)]
  · simp [List.getD_eq_getElem?_getD]
theorem seqF_up {g g' : Nat → Nat → R Tm} {t : Tm} {k : Int} {n : Nat} : ∀ (c : Nat), (∀ i, i < c → ∀ m, g' i m = mapR (fun x => upT x 1 (k + bnd t i)) (g i m)) →
    seqF g' n c = match seqF g n c with
      | .ok xs m => .ok (upArgs t k xs) m
      | .er e m => .er e m
  | 0, _ => rfl
  | c + 1, h => by
    have ih := seqF_up (n := n) c fun i hi => h i (by omega)
    simp only [seqF]
    rw [ih]
    cases hs : seqF g n c with
    | ok xs m =>
      simp only [R.bind_ok]
      rw [h c (by omega) m]
      have hl := seqF_len _ _ _ _ _ hs
      cases hx : g c m with
      | ok x m' => simp only [mapR, R.bind_ok]; rw [upArgs_snoc, hl]
      | er e m' => rfl
    | er e m => rfl
theorem upArgs_mk (t : Tm) (k : Int) {xs : List Tm} (hl : xs.length = t.args.length) (h4 : t.kind ≠ 4) : Tm.mk t.kind t.head (upArgs t k xs) = upT (.mk t.kind t.head xs) 1 k := by
  have h4' : (t.kind == 4) = false := by simpa using h4
  unfold upT
  rw [mapT_eq]
  simp only [mk_kind, mk_head, mk_args, h4', Bool.false_eq_true, if_false]
  congr 1
  unfold upArgs
  refine List.map_congr_left fun i hi => ?_
  rw [bnd_mk t hl]
  rfl
theorem upArgs_var {t : Tm} (hk : t.kind = 4) (k : Int) (xs : List Tm) : upArgs t k xs = xs.map fun x => upT x 1 k := by
  unfold upArgs
  refine List.ext_getElem (by simp) fun i h1 h2 => ?_
  have hi : i < xs.length := by simpa using h2
  simp only [List.getElem_map, List.getElem_range, bnd_zero (t := t) (by omega) (by omega), Int.natCast_zero, Int.add_zero]
  rw [List.getD_eq_getElem?_getD, List.getElem?_eq_getElem hi]
  rfl
theorem NodesS.below' {s : Sb} (h : NodesS s) (t : Tm) (i : Nat) : NodesS (Go.Proofs.Ytmemmdfjlhamfaa.below s t i) := h.below t i
theorem ap_up : ∀ f : Nat, RisesA (ap f)
  | 0 => fun t s s' n j k _ _ _ _ _ _ => rfl
  | f + 1 => fun t s s' n j k ht hs hs' hj hk hr => by
    have ih := ap_up f
    rw [ap_succ, ap_succ]
    by_cases h1 : n + 1 > 40000
    · rw [if_pos h1, if_pos h1]; rfl
    rw [if_neg h1, if_neg h1]
    have hlen : (upT t 1 j).args.length = t.args.length := mapT_len _ t j
    rw [hlen]
    rw [seqF_up (g := fun i m => ap f (t.arg i) (below s t i) m) (t := t) (k := k) t.args.length (fun i hi m => by
      have harg : (upT t 1 j).arg i = upT (t.arg i) 1 (j + bnd t i) := mapT_arg _ _ hi
      have hbn : bnd (upT t 1 j) i = bnd t i := mapT_bnd _ t j i
      have hb : below s' (upT t 1 j) i = below s' t i := by unfold below; rw [hbn]
      rw [harg, hb]
      have hbl := bnd_le t i
      refine ih (t.arg i) (below s t i) (below s' t i) m (j + bnd t i) (k + bnd t i) (node_args ht i hi) (hs.below t i) (hs'.below t i) (by omega) (by omega) ?_
      unfold below
      by_cases hb1 : bnd t i = 1
      · rw [if_pos hb1, if_pos hb1, hb1]
        exact hr.under hs.2 hs'.2 hj hk
      · rw [if_neg hb1, if_neg hb1, show bnd t i = 0 by omega]
        simpa using hr)]
    cases hsq : seqF (fun i m => ap f (t.arg i) (below s t i) m) (n + 1) t.args.length with
    | er e m => rfl
    | ok xs m =>
      simp only [R.bind_ok]
      have hxl := seqF_len _ _ _ _ _ hsq
      have hxn : ∀ x ∈ xs, nodesB x = true := getD_all fun i hi => seq_all (Q := fun i x => nodesB x = true) t.args.length (fun i hi m x m' hx => (ap_goes f _ _ m x m' (node_args ht i hi) (hs.below t i) hx).1) xs m hsq i (by omega)
      have hkd : (upT t 1 j).kind = t.kind := mapT_kind _ t j
      by_cases h4 : t.kind = 4
      · rw [if_pos (by rw [hkd]; exact h4), if_pos h4]
        have h4' : (t.kind == 4) = true := by simpa using h4
        have hhd : (upT t 1 j).head = gUp 1 t.head j := by
          unfold upT
          rw [mapT_head, h4', if_pos rfl]
        rw [hhd, hr _ (node_head (node_here ht)), upArgs_var h4]
        exact spn_up ih (ap_goes f) hk xs _ m (hs.of (node_head (node_here ht))) hxn
      · rw [if_neg (by rw [hkd]; exact h4), if_neg h4]
        have h4' : (t.kind == 4) = false := by simpa using h4
        have hhd : (upT t 1 j).head = t.head := by
          unfold upT
          rw [mapT_head, h4']; rfl
        rw [hhd, hkd]
        simp only [mapR]
        rw [upArgs_mk t k hxl h4]
theorem zT_up (b n : Int) : upT zT b n = zT := by unfold upT; rw [mapT_eq]; rfl
theorem applyR_up {t a : Tm} (ht : mayB t = true) (ha : mayB a = true) {k : Int} (hk : 0 ≤ k) : applyR (upT t 1 (k + 1)) ⟨[upT a 1 k], 0⟩ = (upT (applyR t ⟨[a], 0⟩).1 1 k, (applyR t ⟨[a], 0⟩).2) := by
  have hn := (may_parts ht).1
  have hna := (may_parts ha).1
  have ha' : mayB (upT a 1 k) = true := by rw [may_up hna (by decide)]; exact ha
  have ht' : mayB (upT t 1 (k + 1)) = true := by rw [may_up hn (by decide)]; exact ht
  have hS : ∀ x, mayB x = true → smayB ⟨[x], 0⟩ = true := fun x hx => by
    unfold smayB
    rw [maysB_iff.2 (by simpa using hx)]
    simp
  unfold applyR
  rw [ht, ht', hS a ha, hS _ ha', Bool.and_self, if_pos rfl, if_pos rfl]
  rw [ap_up 40000 t ⟨[a], 0⟩ ⟨[upT a 1 k], 0⟩ 0 (k + 1) k hn ⟨by simpa using hna, by simp⟩ ⟨by simpa using (may_parts ha').1, by simp⟩ (by omega) hk (RUp.one a hk)]
  cases hx : ap 40000 t ⟨[a], 0⟩ 0 with
  | er e m => simp only [mapR, outD]; rw [zT_up]
  | ok u m =>
    have hu := (ap_goes 40000 _ _ _ u m hn ⟨by simpa using hna, by simp⟩ hx).1
    simp only [mapR, outD]
    rw [may_up hu (by decide)]
    by_cases hm : mayB u = true
    · rw [if_pos hm, if_pos hm]
    · rw [if_neg hm, if_neg hm, zT_up]
/-! ### contexts -/
theorem varW_zero (c : List Tm) (a : Tm) : varW (c ++ [a]) 0 = (upT a 1 0, 0) := by
  rw [varW_lt (by simp)]
  have e1 : (c ++ [a]).getD ((c ++ [a]).length - 1 - (0 : Int).toNat) default = a := by
    rw [List.getD_eq_getElem?_getD]; simp
  rw [e1]; rfl
theorem varW_succ (c : List Tm) (a : Tm) {h : Int} (h0 : 0 ≤ h) (hl : h < c.length) : varW (c ++ [a]) (h + 1) = (upT (varW c h).1 1 0, 0) := by
  rw [varW_lt (by simp; omega), varW_lt hl]
  have e1 : (c ++ [a]).getD ((c ++ [a]).length - 1 - (h + 1).toNat) default = c.getD (c.length - 1 - h.toNat) default := by
    rw [getD_append_l (by simp; omega)]
    congr 1
    simp; omega
  rw [e1, up_up _ (by omega) 1 0]
structure WkC (c c' : List Tm) (k : Int) : Prop where
  len : c'.length = c.length + 1
  k0 : 0 ≤ k
  kl : k ≤ c.length
  look : ∀ h : Int, 0 ≤ h → h < c.length → varW c' (gUp 1 h k) = (upT (varW c h).1 1 k, 0)
theorem WkC.new (c : List Tm) (b : Tm) : WkC c (c ++ [b]) 0 := by
  refine ⟨by simp, by decide, by omega, fun h h0 hl => ?_⟩
  have : gUp 1 h 0 = h + 1 := by unfold gUp; rw [if_pos (by omega)]
  rw [this, varW_succ c b h0 hl]
theorem WkC.more {c c' : List Tm} {k : Int} (hw : WkC c c' k) (a : Tm) : WkC (c ++ [a]) (c' ++ [upT a 1 k]) (k + 1) := by
  have hl := hw.len
  have hk := hw.k0
  have hkl := hw.kl
  refine ⟨by simp [hl], by omega, by simp; omega, fun h h0 hh => ?_⟩
  simp at hh
  rcases Int.lt_or_le 0 h with h1 | h1
  · have e : gUp 1 h (k + 1) = gUp 1 (h - 1) k + 1 := by unfold gUp; split <;> split <;> omega
    have hg : 0 ≤ gUp 1 (h - 1) k ∧ gUp 1 (h - 1) k < c'.length := by unfold gUp; split <;> omega
    have hv := varW_succ c a (h := h - 1) (by omega) (by omega)
    rw [show h - 1 + 1 = h by omega] at hv
    rw [e, varW_succ c' _ hg.1 hg.2, hw.look (h - 1) (by omega) (by omega), hv, up_swap _ hk]
  · obtain rfl : h = 0 := by omega
    have e : gUp 1 0 (k + 1) = 0 := by unfold gUp; rw [if_neg (by omega)]
    rw [e, varW_zero, varW_zero, up_swap _ hk]
theorem scoped_more {v v' m m' : Int} (h1 : v ≤ v') (h2 : m ≤ m') : ∀ t : Tm, scopedB t v m = true → scopedB t v' m' = true := by
  have key : ∀ (t : Tm) (v v' : Int), v ≤ v' → scopedB t v m = true → scopedB t v' m' = true := by
    refine Tm.ind fun t ih v v' hv h => ?_
    rw [scoped_iff] at h ⊢
    exact ⟨fun e => by have := h.1 e; omega, fun e => by have := h.2.1 e; omega, fun i hi => ih _ (arg_mem hi) _ _ (by omega) (h.2.2 i hi)⟩
  exact fun t h => key t v v' h1 h
/-- All declarations may be, and have no variables. -/
structure Closed (w : Wd) : Prop where
  may : ∀ x ∈ w.sig, mayB x = true
  scp : ∀ x ∈ w.sig, scopedB x 0 0 = true
  metas : w.metas = []
theorem closed_up {x : Tm} (h : scopedB x 0 0 = true) {k : Int} (hk : 0 ≤ k) (b : Int) : upT x b k = x := up_far (scoped_more hk (Int.le_refl 0) x h) b
theorem spW_up {T T' : Nat → Tm → Int} {arg arg' : Nat → Tm} {q : Int} (hq : 0 ≤ q) : ∀ (k i : Nat) (t : Tm), mayB t = true → (∀ j, i ≤ j → j < i + k → mayB (arg j) = true ∧ arg' j = upT (arg j) 1 q ∧ ∀ x, mayB x = true → T j x = 0 → T' j (upT x 1 q) = 0) →
    (spW T arg k i t).2 = 0 → spW T' arg' k i (upT t 1 q) = (upT (spW T arg k i t).1 1 q, 0)
  | 0, i, t, _, _, _ => rfl
  | k + 1, i, t, ht, hT, h => by
    obtain ⟨e1, e2, e3, e4⟩ := spW_ok h
    obtain ⟨a1, a2, a3⟩ := hT i (Nat.le_refl i) (by omega)
    have hn := (may_parts ht).1
    have hl := pi_len hn e1
    have x0 : (upT t 1 q).arg 0 = upT (t.arg 0) 1 q := by
      unfold upT
      rw [mapT_arg _ _ (by omega), pi_bnd0 hn e1, Int.natCast_zero, Int.add_zero]
    have x1 : (upT t 1 q).arg 1 = upT (t.arg 1) 1 (q + 1) := by
      unfold upT
      rw [mapT_arg _ _ (by omega), pi_bnd1 hn e1]
      rfl
    have ha := applyR_up (may_sub (arg_mem (t := t) (i := 1) (by omega)) ht) a1 hq
    rw [spW_go (by rw [mapT_kind]; exact e1) (by rw [x0]; exact a3 _ (may_sub (arg_mem (by omega)) ht) e2) (by rw [x1, a2, ha]; exact e3), x1, a2, ha, e4]
    exact spW_up hq k (i + 1) _ (applyR_may _ _) (fun j h1 h2 => hT j (by omega) (by omega)) (by rw [← e4]; exact h)
theorem term_up {w : Wd} (hw : Closed w) : ∀ (m a : Tm) (c c' : List Tm) (k : Int), mayB m = true → mayB a = true → (∀ x ∈ c, mayB x = true) → WkC c c' k → termW w m a c = 0 → termW w (upT m 1 k) (upT a 1 k) c' = 0 := by
  refine Tm.ind fun m ih a c c' k hm ha hc hk h => ?_
  have hn := (may_parts hm).1
  have hna := (may_parts ha).1
  by_cases h3 : m.kind = 3
  · have hl := lam_len hn h3
    rw [term_lam h3] at h
    rw [term_lam (by rw [mapT_kind]; exact h3)]
    by_cases ha1 : a.kind = 1
    · have hl2 := pi_len hna ha1
      rw [if_pos ha1, argW_lt (by omega)] at h
      rw [if_pos (by rw [mapT_kind]; exact ha1), argW_lt (by rw [mapT_len]; omega)]
      have x0 : (upT a 1 k).arg 0 = upT (a.arg 0) 1 k := by
        unfold upT
        rw [mapT_arg _ _ (by omega), pi_bnd0 hna ha1, Int.natCast_zero, Int.add_zero]
      have x1 : (upT a 1 k).arg 1 = upT (a.arg 1) 1 (k + 1) := by
        unfold upT
        rw [mapT_arg _ _ (by omega), pi_bnd1 hna ha1]; rfl
      have x2 : (upT m 1 k).arg 0 = upT (m.arg 0) 1 (k + 1) := by
        unfold upT
        rw [mapT_arg _ _ (by omega), lam_bnd hn h3]; rfl
      rw [x0, x1, x2]
      refine ih _ (arg_mem (by omega)) _ _ _ _ (may_sub (arg_mem (by omega)) hm) (may_sub (arg_mem (by omega)) ha) (fun x hx => ?_) (hk.more _) h
      rcases List.mem_append.1 hx with hx | hx
      · exact hc x hx
      · obtain rfl : x = a.arg 0 := by simpa using hx
        exact may_sub (arg_mem (by omega)) ha
    · rw [if_neg ha1] at h; cases h
  · obtain ⟨ha2, e⟩ := term_ok h3 h
    refine term_go (by rw [mapT_kind]; exact h3) (by rw [mapT_kind]; exact ha2) ?_
    have e0 : (cmW w c (fun i x => argW w m i x c) m).2 = 0 := by rw [e]
    have h0 := node_head (node_here hn)
    have hk0 := hk.k0
    have hT : ∀ j, 0 ≤ j → j < 0 + m.args.length → m.kind ≠ 1 → mayB (m.arg j) = true ∧ (upT m 1 k).arg j = upT (m.arg j) 1 k ∧ ∀ x, mayB x = true → argW w m j x c = 0 → argW w (upT m 1 k) j (upT x 1 k) c' = 0 := fun j _ hj h1 => by
      have hj : j < m.args.length := by omega
      have hx : (upT m 1 k).arg j = upT (m.arg j) 1 k := by
        unfold upT
        rw [mapT_arg _ _ hj, bnd_zero h1 h3, Int.natCast_zero, Int.add_zero]
      refine ⟨may_sub (arg_mem hj) hm, hx, fun x hmx hxx => ?_⟩
      rw [argW_lt hj] at hxx
      rw [argW_lt (by rw [mapT_len]; exact hj), hx]
      exact ih _ (arg_mem hj) _ _ _ _ (may_sub (arg_mem hj) hm) hmx hc hk hxx
    have hlen : (upT m 1 k).args.length = m.args.length := mapT_len _ m k
    rcases cm_kind e0 with k4 | k5 | k6
    · rw [cm_var k4] at e e0
      rw [cm_var (by rw [mapT_kind]; exact k4)]
      obtain ⟨q1, q2⟩ := spD_ok e0
      obtain ⟨v1, v2⟩ := varW_ok q1
      have hhd : (upT m 1 k).head = gUp 1 m.head k := by
        unfold upT
        rw [mapT_head, k4]; rfl
      have hv := hk.look m.head h0 v1
      rw [q2] at e e0
      have hmv : mayB (varW c m.head).1 = true := by
        rw [v2]
        refine up_may (hc _ ?_) (by omega) 0
        rw [List.getD_eq_getElem?_getD, List.getElem?_eq_getElem (by omega)]
        exact List.getElem_mem _
      rw [hhd, spD_go (by rw [hv]), hv, hlen]
      have := spW_up (T' := fun i x => argW w (upT m 1 k) i x c') (arg' := (upT m 1 k).arg) hk0 m.args.length 0 _ hmv (fun j h1 h2 => hT j h1 h2 (by omega)) e0
      rw [this, e]
    · rw [cm_const k5] at e e0
      rw [cm_const (by rw [mapT_kind]; exact k5)]
      obtain ⟨q1, q2⟩ := spD_ok e0
      obtain ⟨v1, v2, v3⟩ := declW_ok q1
      have hhd : (upT m 1 k).head = m.head := by
        unfold upT
        rw [mapT_head, k5]; rfl
      rw [q2] at e e0
      have hmem : w.sig.getD m.head.toNat default ∈ w.sig := by
        rw [List.getD_eq_getElem?_getD, List.getElem?_eq_getElem (by omega)]
        exact List.getElem_mem _
      rw [hhd, spD_go q1, hlen]
      have hcl : upT (declW w m.head false).1 1 k = (declW w m.head false).1 := by
        rw [v3]; exact closed_up (hw.scp _ hmem) hk0 1
      have := spW_up (T' := fun i x => argW w (upT m 1 k) i x c') (arg' := (upT m 1 k).arg) hk0 m.args.length 0 _ (by rw [v3]; exact hw.may _ hmem) (fun j h1 h2 => hT j h1 h2 (by omega)) e0
      rw [hcl] at this
      rw [this, e]
    · rw [cm_meta k6] at e0
      have := (metaW_ok e0).1
      rw [hw.metas] at this
      simp at this; omega
end Go.Proofs.Ytmemmdfjlhamfaa
/- Laws of layer 10: signatures in order; CheckFront. -/
set_option linter.unusedSimpArgs false
set_option linter.unusedVariables false
set_option maxRecDepth 100000
namespace Go.Proofs.Ytmemmdfjlhamfaa
open Go.Proofs
theorem loop_all2 {f : Nat} {b : Code} (S : Nat → St) (n : Nat) (p : Nat → Bool) {E R : Ex × St} (h : ∀ i, i < n → (∀ j, j < i → p j = true) → p i = true → (lim C).code f b (S i) = some (.nor, S (i + 1)))
    (hr : ∀ i, i < n → (∀ j, j < i → p j = true) → p i = false → (lim C).code f b (S i) = some R) (he : allB n p = true → (lim C).code f b (S n) = some E) (hR : R.1 ≠ .nor) (hE : E.1 ≠ .nor) :
    (lim C).code f (.loop b) (S 0) = some (if allB n p then E else R) := by
  by_cases hall : allB n p = true
  · rw [if_pos hall]
    have ha := (allB_iff n p).1 hall
    exact loop_run S n (fun i hi => h i hi (fun j hj => ha j (by omega)) (ha i hi)) (he hall) hE
  · rw [if_neg hall]
    obtain ⟨j, h1, h2, h3⟩ := allB_first n p (by simpa using hall)
    exact loop_run S j (fun i hi => h i (by omega) (fun k hk => h3 k (by omega)) (h3 i hi)) (hr j h1 h3 h2) hR
def sigB (sg : List Dc) (i : Nat) : Bool := TypR (Wo.wd ⟨sg.take i, [], []⟩) [] (Dcs.at sg i).t == 0 || KindR (Wo.wd ⟨sg.take i, [], []⟩) [] (Dcs.at sg i).t == 0
def ctxB (sg : List Dc) (cx : List Tm) (i : Nat) : Bool := TypR (Wo.wd ⟨sg, [], []⟩) (cx.take i) (cx.getD i default) == 0
def goodB (sg : List Dc) (cx : List Tm) : Bool := allB sg.length (sigB sg) && allB cx.length (ctxB sg cx)
theorem sigB_closed {sg : List Dc} {i : Nat} (h : sigB sg i = true) : mayB (Dcs.at sg i).t = true ∧ scopedB (Dcs.at sg i).t 0 0 = true := by
  unfold sigB at h
  rw [Bool.or_eq_true, beq_iff_eq, beq_iff_eq] at h
  rcases h with h | h
  · obtain ⟨h1, h2⟩ := TypR_ok h
    have hm := mayW_of h1 _ (List.mem_singleton.2 rfl)
    exact ⟨hm, typ_scoped _ _ _ (may_parts hm).1 h2⟩
  · obtain ⟨h1, h2⟩ := KindR_ok h
    have hm := mayW_of h1 _ (List.mem_singleton.2 rfl)
    exact ⟨hm, kind_scoped _ _ _ (may_parts hm).1 h2⟩
theorem closed_vle {x : Tm} (h : mayB x = true ∧ scopedB x 0 0 = true) : vleB 2097152 x = true := by
  have := (may_parts h.1).2.1
  exact vle_mono (by omega) (scoped_vle x 0 0 h.2)
theorem mem_takeD {sg : List Dc} {i : Nat} (hi : i ≤ sg.length) {d : Dc} (h : d ∈ sg.take i) : ∃ j, j < i ∧ d = Dcs.at sg j := by
  obtain ⟨j, hj, rfl⟩ := List.mem_iff_getElem.1 h
  simp only [List.length_take] at hj
  refine ⟨j, by omega, ?_⟩
  rw [List.getElem_take]
  have := dat_get (l := sg) (i := j) (by omega)
  rw [List.getElem?_eq_getElem (by omega)] at this
  simpa using this
theorem sig_in {sg : List Dc} {cx : List Tm} (hw : WSz ⟨sg, [], cx⟩) {i : Nat} (hi : i ≤ sg.length) (h : ∀ j, j < i → sigB sg j = true) : WIn 2097152 ⟨sg.take i, [], []⟩ := by
  have hr : room = 1099511627776 := rfl
  have htv : topV = 1125899906842624 := rfl
  have hsl := hw.sl
  have hsl : sg.length < room := hsl
  refine ⟨⟨by show 0 < room; decide, by simp, by simp; omega, fun d hd => hw.sz d (List.mem_of_mem_take hd), by show 0 < room; decide, by simp⟩, by decide, by rw [htv]; decide, by simp, fun d hd => ?_, by simp⟩
  obtain ⟨j, hj, rfl⟩ := mem_takeD hi hd
  exact closed_vle (sigB_closed (h j hj))
theorem mem_takeT {cx : List Tm} {i : Nat} (hi : i ≤ cx.length) {x : Tm} (h : x ∈ cx.take i) : ∃ j, j < i ∧ x = cx.getD j default := by
  obtain ⟨j, hj, rfl⟩ := List.mem_iff_getElem.1 h
  simp only [List.length_take] at hj
  refine ⟨j, by omega, ?_⟩
  rw [List.getElem_take]
  have := getD_get (a := cx) (i := j) (by omega)
  rw [List.getElem?_eq_getElem (by omega)] at this
  simpa using this
theorem ctxB_vle {sg : List Dc} {cx : List Tm} {j : Nat} (hj : j ≤ cx.length) (h : ctxB sg cx j = true) : mayB (cx.getD j default) = true ∧ vleB 2097152 (cx.getD j default) = true := by
  unfold ctxB at h
  rw [beq_iff_eq] at h
  obtain ⟨h1, h2⟩ := TypR_ok h
  have hm := mayW_of h1 _ (List.mem_singleton.2 rfl)
  have hs := typ_scoped _ _ _ (may_parts hm).1 h2
  have hz := (may_parts hm).2.1
  unfold mayW at h1
  simp only [Bool.and_eq_true, Bool.not_eq_true', decide_eq_false_iff_not] at h1
  have hl := h1.1.1.1.1
  exact ⟨hm, vle_mono (by omega) (scoped_vle _ _ _ hs)⟩
theorem ctx_in {sg : List Dc} {cx : List Tm} (hw : WSz ⟨sg, [], cx⟩) (h : ∀ j, j < sg.length → sigB sg j = true) {i : Nat} (hi : i ≤ cx.length) (hc : ∀ j, j < i → ctxB sg cx j = true) : WIn 2097152 ⟨sg, [], cx.take i⟩ := by
  have hr : room = 1099511627776 := rfl
  have htv : topV = 1125899906842624 := rfl
  have hcl := hw.cl
  have hcl : cx.length < room := hcl
  refine ⟨⟨by simp; omega, fun x hx => hw.cz x (List.mem_of_mem_take hx), hw.sl, hw.sz, by show 0 < room; decide, by simp⟩, by decide, by rw [htv]; decide, fun x hx => ?_, fun d hd => ?_, by simp⟩
  · obtain ⟨j, hj, rfl⟩ := mem_takeT hi hx
    exact (ctxB_vle (by omega) (hc j hj)).2
  · obtain ⟨j, hj, rfl⟩ := mem_takeD (Nat.le_refl _) (by rw [List.take_length]; exact hd)
    exact closed_vle (sigB_closed (h j hj))
def gd_S1 (sg : List Dc) (cx : List Tm) (i : Nat) : St := mk 51 [(0, dDs sg), (1, dL cx), (5, dI i)] [] [] []
def gd_S2 (sg : List Dc) (cx : List Tm) (i : Nat) : St := mk 51 [(0, dDs sg), (1, dL cx), (6, dI i)] [] [] []
def gd_R : St := mk 51 [(4, dB false)] [] [] []
set_option maxHeartbeats 4000000 in
theorem good_spec (sg : List Dc) (cx : List Tm) (hw : WSz ⟨sg, [], cx⟩) : (lim C).call 44 [dDs sg, dL cx] [] = retB (goodB sg cx) := by
  have hr : room = 1099511627776 := rfl
  have hsl := hw.sl
  have hsl : sg.length < room := hsl
  have hcl := hw.cl
  have hcl : cx.length < room := hcl
  have hloop1 : (lim C).code 44 (.loop (cf (cf (cs (cf (cs (bodyOf Try.f44))))))) (gd_S1 sg cx 0) = some (if allB sg.length (sigB sg) then (.exit 0, mk 51 [(0, dDs sg), (1, dL cx), (5, dI sg.length), (10, dB false)] [] [] []) else (.ret, gd_R)) := by
    refine loop_all2 (gd_S1 sg cx) sg.length _ (fun i hi hp h => ?_) (fun i hi hp h => ?_) (fun _ => ?_) (by simp) (by simp)
    · have hin := sig_in hw (Nat.le_of_lt hi) hp
      have zt := hw.sz _ (dat_mem hi)
      obtain ⟨h1, c1⟩ := cType_spec hin (Dcs.at sg i).t zt
      obtain ⟨h2, c2⟩ := cKind_spec hin (Dcs.at sg i).t zt
      have c1 : (lim C).call 40 [.d (.slc (encDs (sg.take i))), .d (.slc []), .d (.slc []), dT (Dcs.at sg i).t] [] = some (.ret (dI (TypR (Wo.wd ⟨sg.take i, [], []⟩) [] (Dcs.at sg i).t)), h1) := c1
      have c2 : (lim C).call 42 [.d (.slc (encDs (sg.take i))), .d (.slc []), .d (.slc []), dT (Dcs.at sg i).t] [] = some (.ret (dI (KindR (Wo.wd ⟨sg.take i, [], []⟩) [] (Dcs.at sg i).t)), h2) := c2
      rw [encDs_take] at c1 c2
      have hle : i ≤ sg.length := by omega
      unfold sigB at h
      generalize TypR (Wo.wd ⟨sg.take i, [], []⟩) [] (Dcs.at sg i).t = e1 at c1 h
      generalize KindR (Wo.wd ⟨sg.take i, [], []⟩) [] (Dcs.at sg i).t = e2 at c2 h
      by_cases he1 : e1 = 0
      · subst he1
        have h00 : ((0 : Int) != 0) = false := rfl
        simp -implicitDefEqProofs (disch := decide +kernel) only [cf, cs, bodyOf, Try.f44, Option.getD_some, go_sem, ↓reduceIte, Nat.reduceSub, Nat.reduceAdd, Nat.reduceMul, Nat.reduceBEq, Nat.reduceLT, Nat.reduceLeDiff, Nat.reduceEqDiff, reduceCtorEq, Int.reduceToNat, Int.reduceLE, Int.reduceLT, Int.reduceBEq, Int.reduceBNe, mCall, gd_S1, lt_true hi, dat_get hi, Nat.zero_le, hle, encDs_all, c1, h00, cells_encD, (enc_eq (Dcs.at sg i).t).symm, wrap_succ (n := i) (by omega)]
      · have he1' : (e1 != 0) = true := by simpa using he1
        have he2 : e2 = 0 := by
          rw [Bool.or_eq_true, beq_iff_eq, beq_iff_eq] at h
          exact h.resolve_left he1
        subst he2
        have h00 : ((0 : Int) != 0) = false := rfl
        simp -implicitDefEqProofs (disch := decide +kernel) only [cf, cs, bodyOf, Try.f44, Option.getD_some, go_sem, ↓reduceIte, Nat.reduceSub, Nat.reduceAdd, Nat.reduceMul, Nat.reduceBEq, Nat.reduceLT, Nat.reduceLeDiff, Nat.reduceEqDiff, reduceCtorEq, Int.reduceToNat, Int.reduceLE, Int.reduceLT, Int.reduceBEq, Int.reduceBNe, mCall, gd_S1, lt_true hi, dat_get hi, Nat.zero_le, hle, encDs_all, c1, c2, he1', h00, cells_encD, (enc_eq (Dcs.at sg i).t).symm, wrap_succ (n := i) (by omega)]
    · have hin := sig_in hw (Nat.le_of_lt hi) hp
      have zt := hw.sz _ (dat_mem hi)
      obtain ⟨h1, c1⟩ := cType_spec hin (Dcs.at sg i).t zt
      obtain ⟨h2, c2⟩ := cKind_spec hin (Dcs.at sg i).t zt
      have c1 : (lim C).call 40 [.d (.slc (encDs (sg.take i))), .d (.slc []), .d (.slc []), dT (Dcs.at sg i).t] [] = some (.ret (dI (TypR (Wo.wd ⟨sg.take i, [], []⟩) [] (Dcs.at sg i).t)), h1) := c1
      have c2 : (lim C).call 42 [.d (.slc (encDs (sg.take i))), .d (.slc []), .d (.slc []), dT (Dcs.at sg i).t] [] = some (.ret (dI (KindR (Wo.wd ⟨sg.take i, [], []⟩) [] (Dcs.at sg i).t)), h2) := c2
      rw [encDs_take] at c1 c2
      have hle : i ≤ sg.length := by omega
      unfold sigB at h
      generalize TypR (Wo.wd ⟨sg.take i, [], []⟩) [] (Dcs.at sg i).t = e1 at c1 h
      generalize KindR (Wo.wd ⟨sg.take i, [], []⟩) [] (Dcs.at sg i).t = e2 at c2 h
      rw [Bool.or_eq_false_iff, beq_eq_false_iff_ne, beq_eq_false_iff_ne] at h
      have he1' : (e1 != 0) = true := by simpa using h.1
      have he2' : (e2 != 0) = true := by simpa using h.2
      simp -implicitDefEqProofs (disch := decide +kernel) only [cf, cs, bodyOf, Try.f44, Option.getD_some, go_sem, ↓reduceIte, Nat.reduceSub, Nat.reduceAdd, Nat.reduceMul, Nat.reduceBEq, Nat.reduceLT, Nat.reduceLeDiff, Nat.reduceEqDiff, reduceCtorEq, Int.reduceToNat, Int.reduceLE, Int.reduceLT, Int.reduceBEq, Int.reduceBNe, mCall, gd_S1, gd_R, lt_true hi, dat_get hi, Nat.zero_le, hle, encDs_all, c1, c2, he1', he2', cells_encD, (enc_eq (Dcs.at sg i).t).symm]
    · simp -implicitDefEqProofs (disch := decide +kernel) only [cf, cs, bodyOf, Try.f44, Option.getD_some, go_sem, ↓reduceIte, Nat.reduceSub, Nat.reduceAdd, Nat.reduceMul, Nat.reduceBEq, Nat.reduceLT, Nat.reduceLeDiff, Nat.reduceEqDiff, reduceCtorEq, Int.reduceToNat, Int.reduceLE, Int.reduceLT, Int.reduceBEq, Int.reduceBNe, mCall, gd_S1, lt_false (Nat.le_refl sg.length)]
  unfold goodB
  rw [ev_fn 44 Try.f44 _ _ _ rfl Try.func44 rfl Try.ntmps44 rfl]
  cases hs : allB sg.length (sigB sg)
  · rw [hs] at hloop1
    simp -implicitDefEqProofs (disch := decide +kernel) only [go_sem, ↓reduceIte, Nat.reduceSub, Nat.reduceAdd, Nat.reduceMul, Nat.reduceBEq, Nat.reduceLT, Nat.reduceLeDiff, Nat.reduceEqDiff, reduceCtorEq, Int.reduceToNat, Int.reduceLE, Int.reduceLT, Int.reduceBEq, Int.reduceBNe, mCall]
    rw [loop_at hloop1 ?hb ?hs]
    case hb => rfl
    case hs => rfl
    simp -implicitDefEqProofs (disch := decide +kernel) only [go_sem, ↓reduceIte, Nat.reduceSub, Nat.reduceAdd, Nat.reduceMul, Nat.reduceBEq, Nat.reduceLT, Nat.reduceLeDiff, Nat.reduceEqDiff, reduceCtorEq, Int.reduceToNat, Int.reduceLE, Int.reduceLT, Int.reduceBEq, Int.reduceBNe, mCall, gd_R]
  · rw [hs] at hloop1
    have hsa := (allB_iff _ _).1 hs
    have hloop2 : (lim C).code 44 (.loop (cf (cf (cs (cf (cs (cs (bodyOf Try.f44)))))))) (gd_S2 sg cx 0) = some (if allB cx.length (ctxB sg cx) then (.exit 2, mk 51 [(0, dDs sg), (1, dL cx), (6, dI cx.length), (38, dB false)] [] [] []) else (.ret, gd_R)) := by
      refine loop_all2 (gd_S2 sg cx) cx.length _ (fun i hi hp h => ?_) (fun i hi hp h => ?_) (fun _ => ?_) (by simp) (by simp)
      · have hin := ctx_in hw hsa (Nat.le_of_lt hi) hp
        have zt := hw.cz _ (getD_mem (a := cx) hi)
        obtain ⟨h1, c1⟩ := cType_spec hin (cx.getD i default) zt
        have c1 : (lim C).call 40 [dDs sg, .d (.slc []), .d (.slc (encs (cx.take i))), dT (cx.getD i default)] [] = some (.ret (dI (TypR (Wo.wd ⟨sg, [], []⟩) (cx.take i) (cx.getD i default))), h1) := c1
        rw [encs_take] at c1
        have hle : i ≤ cx.length := by omega
        unfold ctxB at h
        rw [beq_iff_eq] at h
        rw [h] at c1
        have h00 : ((0 : Int) != 0) = false := rfl
        simp -implicitDefEqProofs (disch := decide +kernel) only [cf, cs, bodyOf, Try.f44, Option.getD_some, go_sem, ↓reduceIte, Nat.reduceSub, Nat.reduceAdd, Nat.reduceMul, Nat.reduceBEq, Nat.reduceLT, Nat.reduceLeDiff, Nat.reduceEqDiff, reduceCtorEq, Int.reduceToNat, Int.reduceLE, Int.reduceLT, Int.reduceBEq, Int.reduceBNe, mCall, gd_S2, lt_true hi, getD_get hi, Nat.zero_le, hle, encs_all, c1, h00, cells_enc, cel3, (enc_eq (cx.getD i default)).symm, wrap_succ (n := i) (by omega)]
      · have hin := ctx_in hw hsa (Nat.le_of_lt hi) hp
        have zt := hw.cz _ (getD_mem (a := cx) hi)
        obtain ⟨h1, c1⟩ := cType_spec hin (cx.getD i default) zt
        have c1 : (lim C).call 40 [dDs sg, .d (.slc []), .d (.slc (encs (cx.take i))), dT (cx.getD i default)] [] = some (.ret (dI (TypR (Wo.wd ⟨sg, [], []⟩) (cx.take i) (cx.getD i default))), h1) := c1
        rw [encs_take] at c1
        have hle : i ≤ cx.length := by omega
        unfold ctxB at h
        rw [beq_eq_false_iff_ne] at h
        have he1' : (TypR (Wo.wd ⟨sg, [], []⟩) (cx.take i) (cx.getD i default) != 0) = true := by simpa using h
        simp -implicitDefEqProofs (disch := decide +kernel) only [cf, cs, bodyOf, Try.f44, Option.getD_some, go_sem, ↓reduceIte, Nat.reduceSub, Nat.reduceAdd, Nat.reduceMul, Nat.reduceBEq, Nat.reduceLT, Nat.reduceLeDiff, Nat.reduceEqDiff, reduceCtorEq, Int.reduceToNat, Int.reduceLE, Int.reduceLT, Int.reduceBEq, Int.reduceBNe, mCall, gd_S2, gd_R, lt_true hi, getD_get hi, Nat.zero_le, hle, encs_all, c1, he1', cells_enc, cel3, (enc_eq (cx.getD i default)).symm]
      · simp -implicitDefEqProofs (disch := decide +kernel) only [cf, cs, bodyOf, Try.f44, Option.getD_some, go_sem, ↓reduceIte, Nat.reduceSub, Nat.reduceAdd, Nat.reduceMul, Nat.reduceBEq, Nat.reduceLT, Nat.reduceLeDiff, Nat.reduceEqDiff, reduceCtorEq, Int.reduceToNat, Int.reduceLE, Int.reduceLT, Int.reduceBEq, Int.reduceBNe, mCall, gd_S2, lt_false (Nat.le_refl cx.length)]
    simp -implicitDefEqProofs (disch := decide +kernel) only [go_sem, ↓reduceIte, Nat.reduceSub, Nat.reduceAdd, Nat.reduceMul, Nat.reduceBEq, Nat.reduceLT, Nat.reduceLeDiff, Nat.reduceEqDiff, reduceCtorEq, Int.reduceToNat, Int.reduceLE, Int.reduceLT, Int.reduceBEq, Int.reduceBNe, mCall]
    rw [loop_at hloop1 ?hb ?hs]
    case hb => rfl
    case hs => rfl
    cases hc : allB cx.length (ctxB sg cx)
    · rw [hc] at hloop2
      simp -implicitDefEqProofs (disch := decide +kernel) only [go_sem, ↓reduceIte, Nat.reduceSub, Nat.reduceAdd, Nat.reduceMul, Nat.reduceBEq, Nat.reduceLT, Nat.reduceLeDiff, Nat.reduceEqDiff, reduceCtorEq, Int.reduceToNat, Int.reduceLE, Int.reduceLT, Int.reduceBEq, Int.reduceBNe, mCall]
      rw [loop_at hloop2 ?hb ?hs]
      case hb => rfl
      case hs => rfl
      simp -implicitDefEqProofs (disch := decide +kernel) only [go_sem, ↓reduceIte, Nat.reduceSub, Nat.reduceAdd, Nat.reduceMul, Nat.reduceBEq, Nat.reduceLT, Nat.reduceLeDiff, Nat.reduceEqDiff, reduceCtorEq, Int.reduceToNat, Int.reduceLE, Int.reduceLT, Int.reduceBEq, Int.reduceBNe, mCall, gd_R]
    · rw [hc] at hloop2
      simp -implicitDefEqProofs (disch := decide +kernel) only [go_sem, ↓reduceIte, Nat.reduceSub, Nat.reduceAdd, Nat.reduceMul, Nat.reduceBEq, Nat.reduceLT, Nat.reduceLeDiff, Nat.reduceEqDiff, reduceCtorEq, Int.reduceToNat, Int.reduceLE, Int.reduceLT, Int.reduceBEq, Int.reduceBNe, mCall]
      rw [loop_at hloop2 ?hb ?hs]
      case hb => rfl
      case hs => rfl
      simp -implicitDefEqProofs (disch := decide +kernel) only [go_sem, ↓reduceIte, Nat.reduceSub, Nat.reduceAdd, Nat.reduceMul, Nat.reduceBEq, Nat.reduceLT, Nat.reduceLeDiff, Nat.reduceEqDiff, reduceCtorEq, Int.reduceToNat, Int.reduceLE, Int.reduceLT, Int.reduceBEq, Int.reduceBNe, mCall]
end Go.Proofs.Ytmemmdfjlhamfaa
/- Law of layer 10: CheckFront. -/
set_option linter.unusedSimpArgs false
set_option linter.unusedVariables false
set_option maxRecDepth 100000
namespace Go.Proofs.Ytmemmdfjlhamfaa
open Go.Proofs
theorem appG_first (ys : List Dv) (sz : Nat) (locs : List (Option (List AV))) (heap : List HO) (tk : List (Option Nat)) (hr : ys.length ≤ room) (hw : (ys.all fun x => x.width == sz) = true) (hg : (ys.isEmpty && !(sz == 3)) = false := by simp) :
    mApp (.clip []) ys sz { locs := locs, heap := heap, toks := tk } = some (.v (.own tk.length ys), { locs := locs, heap := heap, toks := tk ++ [some ys.length] }) := by
  simp [mApp, appOwn, hg, hr]
  simpa using hw
theorem app_more1 (xs ys : List Dv) (sz : Nat) (k : Option Nat) (hg : (xs.isEmpty && !(sz == 3)) = false) (locs : List (Option (List AV))) (heap : List HO) (hr : xs.length + ys.length ≤ room) (hx : (xs.all fun x => x.width == sz) = true) (hw : (ys.all fun x => x.width == sz) = true) :
    mApp (.own 1 xs) ys sz { locs := locs, heap := heap, toks := [k, some xs.length] } = some (.v (.own 1 (xs ++ ys)), { locs := locs, heap := heap, toks := [k, some (xs.length + ys.length)] }) := by
  simp only [mApp, appOwn, hg]
  simp only [hr, hx, hw]
  simp
theorem good_closed {sg : List Dc} {cx cx' : List Tm} (h : goodB sg cx = true) : Closed (Wo.wd ⟨sg, [], cx'⟩) := by
  unfold goodB at h
  rw [Bool.and_eq_true, allB_iff] at h
  have key : ∀ x ∈ (Wo.wd ⟨sg, [], cx'⟩).sig, mayB x = true ∧ scopedB x 0 0 = true := fun x hx => by
    simp only [Wo.wd, List.mem_map] at hx
    obtain ⟨d, hd, rfl⟩ := hx
    obtain ⟨j, hj, rfl⟩ := mem_takeD (Nat.le_refl sg.length) (by rw [List.take_length]; exact hd)
    exact sigB_closed (h.1 j hj)
  exact ⟨fun x hx => (key x hx).1, fun x hx => (key x hx).2, rfl⟩
theorem Ext.self (w : Wd) : Ext w w := ⟨Nat.le_refl _, fun _ _ => rfl, Nat.le_refl _, fun _ _ => rfl⟩
theorem front_plain {sg : List Dc} {cx fr : List Tm} {m a : Tm} (hg : goodB sg [] = true) (hl : fr.length + cx.length ≤ 900) (hf : ∀ x ∈ fr, mayB x = true) (h : TermR (Wo.wd ⟨sg, [], cx⟩) cx m a = 0) :
    TermR (Wo.wd ⟨sg, [], cx⟩) (fr ++ cx) m a = 0 ∧ ∀ b, mayB b = true → TermR (Wo.wd ⟨sg, [], cx⟩) (cx ++ [b]) (upT m 1 0) (upT a 1 0) = 0 := by
  obtain ⟨h1, h2⟩ := TermR_ok h
  have hm := mayW_of h1 m (by simp)
  have ha := mayW_of h1 a (by simp)
  have hu1 : mayB (upT m 1 0) = true := up_may hm (by decide) 0
  have hu2 : mayB (upT a 1 0) = true := up_may ha (by decide) 0
  have hcx : ∀ x ∈ cx, mayB x = true := by
    unfold mayW at h1
    simp only [Bool.and_eq_true] at h1
    exact maysB_iff.1 h1.1.1.2
  refine ⟨?_, fun b hb => ?_⟩
  · unfold TermR
    have hmw : mayW (Wo.wd ⟨sg, [], cx⟩) (fr ++ cx) [m, a] = true := by
      unfold mayW at h1 ⊢
      simp only [Bool.and_eq_true, Bool.not_eq_true', decide_eq_false_iff_not] at h1 ⊢
      exact ⟨⟨⟨⟨by simp; omega, h1.1.1.1.2⟩, by rw [maysB_append, maysB_iff.2 hf, h1.1.1.2]; rfl⟩, h1.1.2⟩, h1.2⟩
    rw [hmw, if_pos rfl]
    exact term_ext (Ext.self _) m a cx (fr ++ cx) (may_parts hm).1 (front_app fr cx) (.inr rfl) h2
  · unfold TermR
    rw [mayW_more (by omega) hb, mayW_list (l := [upT m 1 0, upT a 1 0]) (l' := [m, a]) (by simp [hu1, hu2]) (by simp [hm, ha]), h1, if_pos rfl]
    exact term_up (good_closed hg) m a cx (cx ++ [b]) 0 hm ha hcx (WkC.new cx b) h2
def fro_S (sg : List Dc) (cx fr : List Tm) (m a : Tm) (i : Nat) : St := mk 102 [(0, dDs sg), (1, dL cx), (2, dL fr), (8, .lref 8 0), (9, .lref 9 0), (17, dI i)] [(8, cel3 m), (9, cel3 a)] [] []
set_option maxHeartbeats 8000000 in
theorem checkFront_holds (sg : List Dc) (wsg : ∀ t ∈ sg, Wf t.t) (hsg : dsum sg + 1 ≤ 1048576) (cx : List Tm) (wcx : ∀ t ∈ cx, Wf t) (hcx : (cx.map Tm.size).sum + 1 ≤ 1048576) (fr : List Tm) (wfr : ∀ t ∈ fr, Wf t) (hfr : (fr.map Tm.size).sum + 1 ≤ 1048576)
    (m : Tm) (wm : Wf m) (hm : m.size ≤ 1048576) (a : Tm) (wa : Wf a) (ha : a.size ≤ 1048576) : ∃ h, (lim C).call 15 [dDs sg, dL cx, dL fr, dT m, dT a] [] = some (.ret (dB true), h) := by
  have hr : room = 1099511627776 := rfl
  have hA := awake10_spec
  have hw := wsz_of (ms := []) hsg (by simp [msum]) hcx
  have hwf := wsz_of (sg := []) (ms := []) (by simp [dsum]) (by simp [msum]) hfr
  have hw0 := wsz_of (ms := []) (cx := []) hsg (by simp [msum]) (by simp)
  have hF := fewW_spec ⟨sg, [], cx⟩ hw
  have hF : (lim C).call 37 [dDs sg, .d (.slc []), dL cx] [] = _ := hF
  have hF2 := fewW_spec ⟨[], [], fr⟩ hwf
  have hF2 : (lim C).call 37 [.d (.slc []), .d (.slc []), dL fr] [] = _ := hF2
  have hG := good_spec sg [] hw0
  have hG : (lim C).call 44 [dDs sg, .d (.slc [])] [] = _ := hG
  have zm := size_room hm
  have za := size_room ha
  have hp := light_spec m 500 80 zm
  have hq := light_spec a 500 80 za
  have hem := (enc_eq m).symm
  have hea := (enc_eq a).symm
  refine ⟨[], ?_⟩
  rw [ev_fn 15 Try.f15 _ _ _ rfl Try.func15 rfl Try.ntmps15 rfl]
  cases k1 : fewW ⟨sg, [], cx⟩
  · simp -implicitDefEqProofs (disch := decide +kernel) only [go_sem, ↓reduceIte, Nat.reduceSub, Nat.reduceAdd, Nat.reduceMul, Nat.reduceBEq, Nat.reduceLT, Nat.reduceLeDiff, Nat.reduceEqDiff, reduceCtorEq, Int.reduceToNat, Int.reduceLE, Int.reduceLT, Int.reduceBEq, Int.reduceBNe, mCall, hA, hF, hF2, hG, hp, hq, cells_enc, cel3, hem, hea, k1]
  · skip
    cases k2 : fewW ⟨[], [], fr⟩
    · simp -implicitDefEqProofs (disch := decide +kernel) only [go_sem, ↓reduceIte, Nat.reduceSub, Nat.reduceAdd, Nat.reduceMul, Nat.reduceBEq, Nat.reduceLT, Nat.reduceLeDiff, Nat.reduceEqDiff, reduceCtorEq, Int.reduceToNat, Int.reduceLE, Int.reduceLT, Int.reduceBEq, Int.reduceBNe, mCall, hA, hF, hF2, hG, hp, hq, cells_enc, cel3, hem, hea, k1, k2]
    · skip
      cases k3 : lightB m 500 80
      · simp -implicitDefEqProofs (disch := decide +kernel) only [go_sem, ↓reduceIte, Nat.reduceSub, Nat.reduceAdd, Nat.reduceMul, Nat.reduceBEq, Nat.reduceLT, Nat.reduceLeDiff, Nat.reduceEqDiff, reduceCtorEq, Int.reduceToNat, Int.reduceLE, Int.reduceLT, Int.reduceBEq, Int.reduceBNe, mCall, hA, hF, hF2, hG, hp, hq, cells_enc, cel3, hem, hea, k1, k2, k3]
      · skip
        cases k4 : lightB a 500 80
        · simp -implicitDefEqProofs (disch := decide +kernel) only [go_sem, ↓reduceIte, Nat.reduceSub, Nat.reduceAdd, Nat.reduceMul, Nat.reduceBEq, Nat.reduceLT, Nat.reduceLeDiff, Nat.reduceEqDiff, reduceCtorEq, Int.reduceToNat, Int.reduceLE, Int.reduceLT, Int.reduceBEq, Int.reduceBNe, mCall, hA, hF, hF2, hG, hp, hq, cells_enc, cel3, hem, hea, k1, k2, k3, k4]
        · skip
          cases k5 : goodB sg []
          · simp -implicitDefEqProofs (disch := decide +kernel) only [go_sem, ↓reduceIte, Nat.reduceSub, Nat.reduceAdd, Nat.reduceMul, Nat.reduceBEq, Nat.reduceLT, Nat.reduceLeDiff, Nat.reduceEqDiff, reduceCtorEq, Int.reduceToNat, Int.reduceLE, Int.reduceLT, Int.reduceBEq, Int.reduceBNe, mCall, hA, hF, hF2, hG, hp, hq, cells_enc, cel3, hem, hea, k1, k2, k3, k4, k5]
          · skip
            have hin := few_in hw k1
            have hinf := few_in hwf k2
            obtain ⟨_, _, hcl, _⟩ := fewW_parts k1
            obtain ⟨_, _, hfl, _⟩ := fewW_parts k2
            have hcl : cx.length ≤ 60 := hcl
            have hfl : fr.length ≤ 60 := hfl
            have va := light_vle k4
            have vm := light_vle k3
            obtain ⟨h1, c1⟩ := cTerm_spec hin m a zm za va
            have c1 : (lim C).call 38 [dDs sg, .d (.slc []), dL cx, dT m, dT a] [] = some (.ret (dI (TermR (Wo.wd ⟨sg, [], cx⟩) cx m a)), h1) := c1
            by_cases h0 : TermR (Wo.wd ⟨sg, [], cx⟩) cx m a = 0
            · rw [h0] at c1
              have h00 : ((0 : Int) != 0) = false := rfl
              have hloop : (lim C).code 15 (.loop (cf (cf (cs (cf (cs (cs (cs (cs (cs (cs (cs (cs (bodyOf Try.f15)))))))))))))) (fro_S sg cx fr m a 0) = some (if allB fr.length (fun i => mayB (fr.getD i default)) then (.exit 0, mk 102 [(0, dDs sg), (1, dL cx), (2, dL fr), (8, .lref 8 0), (9, .lref 9 0), (17, dI fr.length), (65, dB false)] [(8, cel3 m), (9, cel3 a)] [] []) else (.ret, mk 102 [(10, dB true)] [] [] [])) := by
                refine loop_all (fro_S sg cx fr m a) fr.length _ (fun i hi h => ?_) (fun i hi h => ?_) ?_ (by simp) (by simp)
                · have hc := tMay_spec (fr.getD i default) (hwf.cz _ (getD_mem (a := fr) hi))
                  rw [h] at hc
                  simp -implicitDefEqProofs (disch := decide +kernel) only [cf, cs, bodyOf, Try.f15, Option.getD_some, go_sem, ↓reduceIte, Nat.reduceSub, Nat.reduceAdd, Nat.reduceMul, Nat.reduceBEq, Nat.reduceLT, Nat.reduceLeDiff, Nat.reduceEqDiff, reduceCtorEq, Int.reduceToNat, Int.reduceLE, Int.reduceLT, Int.reduceBEq, Int.reduceBNe, mCall, fro_S, lt_true hi, getD_get hi, hc, cells_enc, cel3, (enc_eq (fr.getD i default)).symm, wrap_succ (n := i) (by omega)]
                · have hc := tMay_spec (fr.getD i default) (hwf.cz _ (getD_mem (a := fr) hi))
                  rw [h] at hc
                  simp -implicitDefEqProofs (disch := decide +kernel) only [cf, cs, bodyOf, Try.f15, Option.getD_some, go_sem, ↓reduceIte, Nat.reduceSub, Nat.reduceAdd, Nat.reduceMul, Nat.reduceBEq, Nat.reduceLT, Nat.reduceLeDiff, Nat.reduceEqDiff, reduceCtorEq, Int.reduceToNat, Int.reduceLE, Int.reduceLT, Int.reduceBEq, Int.reduceBNe, mCall, fro_S, lt_true hi, getD_get hi, hc, cells_enc, cel3, (enc_eq (fr.getD i default)).symm]
                · simp -implicitDefEqProofs (disch := decide +kernel) only [cf, cs, bodyOf, Try.f15, Option.getD_some, go_sem, ↓reduceIte, Nat.reduceSub, Nat.reduceAdd, Nat.reduceMul, Nat.reduceBEq, Nat.reduceLT, Nat.reduceLeDiff, Nat.reduceEqDiff, reduceCtorEq, Int.reduceToNat, Int.reduceLE, Int.reduceLT, Int.reduceBEq, Int.reduceBNe, mCall, fro_S, lt_false (Nat.le_refl fr.length)]
              cases hall : allB fr.length (fun i => mayB (fr.getD i default))
              · rw [hall] at hloop
                simp -implicitDefEqProofs (disch := decide +kernel) only [go_sem, ↓reduceIte, Nat.reduceSub, Nat.reduceAdd, Nat.reduceMul, Nat.reduceBEq, Nat.reduceLT, Nat.reduceLeDiff, Nat.reduceEqDiff, reduceCtorEq, Int.reduceToNat, Int.reduceLE, Int.reduceLT, Int.reduceBEq, Int.reduceBNe, mCall, hA, hF, hF2, hG, hp, hq, cells_enc, cel3, hem, hea, k1, k2, k3, k4, k5, c1, h00]
                rw [loop_at hloop ?hb ?hs]
                case hb => rfl
                case hs => rfl
                simp -implicitDefEqProofs (disch := decide +kernel) only [go_sem, ↓reduceIte, Nat.reduceSub, Nat.reduceAdd, Nat.reduceMul, Nat.reduceBEq, Nat.reduceLT, Nat.reduceLeDiff, Nat.reduceEqDiff, reduceCtorEq, Int.reduceToNat, Int.reduceLE, Int.reduceLT, Int.reduceBEq, Int.reduceBNe, mCall]
              · rw [hall] at hloop
                have hfm : ∀ x ∈ fr, mayB x = true := maysB_iff.1 hall
                obtain ⟨p1, p2⟩ := front_plain k5 (show fr.length + cx.length ≤ 900 by omega) hfm h0
                have hin2 := hin.cons (c := fr ++ cx) (fun x hx => by
                  rcases List.mem_append.1 hx with hx | hx
                  · exact ⟨hwf.cz x hx, hinf.ctx x hx⟩
                  · exact ⟨hw.cz x hx, hin.ctx x hx⟩) (by simp; omega)
                obtain ⟨h2, c2⟩ := cTerm_spec hin2 m a zm za va
                have c2 : (lim C).call 38 [dDs sg, .d (.slc []), .d (.slc (encs fr ++ encs cx)), dT m, dT a] [] = some (.ret (dI (TermR (Wo.wd ⟨sg, [], cx⟩) (fr ++ cx) m a)), h2) := by rw [← encs_append]; exact c2
                rw [p1] at c2
                have ha1 := fun locs heap => app_first (encs fr) 3 locs heap (by rw [encs_length]; omega) (encs_all _)
                have ha2 := fun locs heap => app_more (encs fr) (encs cx) 3 (by simp) locs heap (by rw [encs_length, encs_length]; omega) (encs_all _) (encs_all _)
                simp only [encs_length] at ha1 ha2
                cases hfe : ((fr.length : Int) == 0)
                · have hf0 : 0 < fr.length := by
                    rcases Nat.eq_zero_or_pos fr.length with h | h
                    · rw [h] at hfe; cases hfe
                    · exact h
                  have hm0 := hfm _ (getD_mem (a := fr) (i := 0) hf0)
                  have hg0 := getD_get (a := fr) hf0
                  have p2 := p2 _ hm0
                  have v0 := hinf.ctx _ (getD_mem (a := fr) (i := 0) hf0)
                  generalize fr.getD 0 default = b at hm0 hg0 p2 v0
                  obtain ⟨e1, _⟩ := TermR_ok h0
                  have mm := mayW_of e1 m (by simp)
                  have ma := mayW_of e1 a (by simp)
                  have hin3 : WIn (lowK + 1) ⟨sg, [], cx ++ [b]⟩ := by
                    have htv : topV = 1125899906842624 := rfl
                    refine ⟨⟨by simp; omega, fun x hx => ?_, hw.sl, hw.sz, by show 0 < room; decide, by simp⟩, by decide, by rw [htv]; decide, fun x hx => ?_, fun d hd => vle_mono (by decide) (hin.sig d hd), by simp⟩
                    · rcases List.mem_append.1 hx with hx | hx
                      · exact hw.cz x hx
                      · obtain rfl : x = b := by simpa using hx
                        exact may_room hm0
                    · rcases List.mem_append.1 hx with hx | hx
                      · exact vle_mono (by decide) (hin.ctx x hx)
                      · obtain rfl : x = b := by simpa using hx
                        exact vle_mono (by decide) v0
                  obtain ⟨h3, c3⟩ := cTerm_spec hin3 (upT m 1 0) (upT a 1 0) (may_room (up_may mm (by decide) 0)) (may_room (up_may ma (by decide) 0)) (vle_up va (by decide) 0)
                  have c3 : (lim C).call 38 [dDs sg, .d (.slc []), .d (.slc (encs cx ++ [enc b])), dT (upT m 1 0), dT (upT a 1 0)] [] = some (.ret (dI (TermR (Wo.wd ⟨sg, [], cx⟩) (cx ++ [b]) (upT m 1 0) (upT a 1 0))), h3) := by
                    have : encs cx ++ [enc b] = encs (cx ++ [b]) := by rw [encs_append]; rfl
                    rw [this]; exact c3
                  rw [p2] at c3
                  have hrm : renB m 1 0 = true := by simp [renB, mm]
                  have hra : renB a 1 0 = true := by simp [renB, ma]
                  obtain ⟨u1, s1⟩ := sup_spec m zm (vle_mono (by decide) vm) 1 0
                  obtain ⟨u2, s2⟩ := sup_spec a za (vle_mono (by decide) va) 1 0
                  rw [hrm, if_pos rfl] at s1
                  rw [hra, if_pos rfl] at s2
                  have hb1 := fun locs heap => appG_first (encs cx) 3 locs heap [some (fr.length + cx.length)] (by rw [encs_length]; omega) (encs_all _)
                  have hb2 := fun locs heap => app_first (encs cx) 3 locs heap (by rw [encs_length]; omega) (encs_all _)
                  have hb3 := fun locs heap => app_more1 (encs cx) [enc b] 3 (some (fr.length + cx.length)) (by simp) locs heap (by rw [encs_length]; simp; omega) (encs_all _) (by simp [enc_width])
                  simp only [encs_length] at hb1 hb2 hb3
                  have h01 : ((0 : Int) == 0) = true := rfl
                  simp -implicitDefEqProofs (disch := decide +kernel) only [go_sem, ↓reduceIte, Nat.reduceSub, Nat.reduceAdd, Nat.reduceMul, Nat.reduceBEq, Nat.reduceLT, Nat.reduceLeDiff, Nat.reduceEqDiff, reduceCtorEq, Int.reduceToNat, Int.reduceLE, Int.reduceLT, Int.reduceBEq, Int.reduceBNe, mCall, hA, hF, hF2, hG, hp, hq, cells_enc, cel3, hem, hea, k1, k2, k3, k4, k5, c1, h00]
                  rw [loop_at hloop ?hb ?hs]
                  case hb => rfl
                  case hs => rfl
                  simp -implicitDefEqProofs (disch := decide +kernel) only [go_sem, ↓reduceIte, Nat.reduceSub, Nat.reduceAdd, Nat.reduceMul, Nat.reduceBEq, Nat.reduceLT, Nat.reduceLeDiff, Nat.reduceEqDiff, reduceCtorEq, Int.reduceToNat, Int.reduceLE, Int.reduceLT, Int.reduceBEq, Int.reduceBNe, mCall, cells_enc, cel3, hem, hea, ha1, ha2, c2, h00, hfe, hg0, hb1, hb2, hb3, s1, s2, c3, h01, (enc_eq b).symm]
                · simp -implicitDefEqProofs (disch := decide +kernel) only [go_sem, ↓reduceIte, Nat.reduceSub, Nat.reduceAdd, Nat.reduceMul, Nat.reduceBEq, Nat.reduceLT, Nat.reduceLeDiff, Nat.reduceEqDiff, reduceCtorEq, Int.reduceToNat, Int.reduceLE, Int.reduceLT, Int.reduceBEq, Int.reduceBNe, mCall, hA, hF, hF2, hG, hp, hq, cells_enc, cel3, hem, hea, k1, k2, k3, k4, k5, c1, h00]
                  rw [loop_at hloop ?hb ?hs]
                  case hb => rfl
                  case hs => rfl
                  simp -implicitDefEqProofs (disch := decide +kernel) only [go_sem, ↓reduceIte, Nat.reduceSub, Nat.reduceAdd, Nat.reduceMul, Nat.reduceBEq, Nat.reduceLT, Nat.reduceLeDiff, Nat.reduceEqDiff, reduceCtorEq, Int.reduceToNat, Int.reduceLE, Int.reduceLT, Int.reduceBEq, Int.reduceBNe, mCall, cells_enc, cel3, hem, hea, ha1, ha2, c2, h00, hfe]
            · have h0' : (TermR (Wo.wd ⟨sg, [], cx⟩) cx m a != 0) = true := by simpa using h0
              simp -implicitDefEqProofs (disch := decide +kernel) only [go_sem, ↓reduceIte, Nat.reduceSub, Nat.reduceAdd, Nat.reduceMul, Nat.reduceBEq, Nat.reduceLT, Nat.reduceLeDiff, Nat.reduceEqDiff, reduceCtorEq, Int.reduceToNat, Int.reduceLE, Int.reduceLT, Int.reduceBEq, Int.reduceBNe, mCall, hA, hF, hF2, hG, hp, hq, cells_enc, cel3, hem, hea, k1, k2, k3, k4, k5, c1, h0']
end Go.Proofs.Ytmemmdfjlhamfaa
/- Types as functions that are applied: what has which, whatever is left to reduce in it. -/
set_option linter.unusedVariables false
set_option linter.unusedSimpArgs false
namespace Go.Proofs.Ytmemmdfjlhamfaa
open E
/-- Two that come to the same. -/
def J (a b : E) : Prop := ∃ c, PS a c ∧ PS b c
theorem J.rfl {a : E} : J a a := ⟨a, .refl a, .refl a⟩
theorem J.symm {a b : E} (h : J a b) : J b a := ⟨h.choose, h.choose_spec.2, h.choose_spec.1⟩
theorem J.of {a b : E} (h : PS a b) : J a b := ⟨b, h, .refl b⟩
theorem J.trans {a b c : E} (h : J a b) (k : J b c) : J a c := by
  obtain ⟨x, h1, h2⟩ := h
  obtain ⟨y, k1, k2⟩ := k
  obtain ⟨z, z1, z2⟩ := conf h2 k1
  exact ⟨z, h1.trans z1, k2.trans z2⟩
theorem J.sub {a b : E} (h : J a b) (σ : Nat → E) : J (E.sub σ a) (E.sub σ b) := by
  obtain ⟨x, h1, h2⟩ := h
  exact ⟨_, h1.sub1 σ, h2.sub1 σ⟩
theorem J.ren {a b : E} (h : J a b) (ρ : Nat → Nat) : J (E.ren ρ a) (E.ren ρ b) := by
  obtain ⟨x, h1, h2⟩ := h
  exact ⟨_, h1.ren ρ, h2.ren ρ⟩
theorem J.subs {σ τ : Nat → E} (t : E) (h : ∀ i, J (σ i) (τ i)) : J (E.sub σ t) (E.sub τ t) := by
  refine ⟨E.sub (fun i => (h i).choose) t, PS.subs t fun i => (h i).choose_spec.1, PS.subs t fun i => (h i).choose_spec.2⟩
theorem J.one {a b : E} (h : J a b) (t : E) : J (E.sub (E.one a) t) (E.sub (E.one b) t) := by
  refine J.subs t fun i => ?_
  cases i with
  | zero => exact h
  | succ i => exact J.rfl
def piE (A B : E) : E := apps (con 1 0) [A, lam B]
theorem sub_pi (σ : Nat → E) (A B : E) : E.sub σ (piE A B) = piE (E.sub σ A) (E.sub (ups σ) B) := rfl
theorem ren_pi (ρ : Nat → Nat) (A B : E) : E.ren ρ (piE A B) = piE (E.ren ρ A) (E.ren (upr ρ) B) := rfl
theorem all2_head {l l1 : List E} (h1 : All2 P l l1) : ∀ {l2 : List E}, All2 PS l1 l2 → All2 PS l l2 := by
  induction h1 with
  | nil => intro l2 h2; cases h2; exact .nil
  | cons q _ ih => intro l2 h2; cases h2 with
    | cons q2 r2 => exact .cons (.head q q2) (ih r2)
theorem PS_apps {h x y : E} (hr : rigid h) (hp : PS x y) : ∀ l, x = apps h l → ∃ l', y = apps h l' ∧ All2 PS l l' := by
  induction hp with
  | refl a => exact fun l e => ⟨l, e, all2_refl l⟩
  | @head a b c p _ ih =>
    intro l e
    subst e
    obtain ⟨l1, rfl, h1⟩ := P_apps hr _ l _root_.rfl _ p
    obtain ⟨l2, rfl, h2⟩ := ih l1 _root_.rfl
    refine ⟨l2, _root_.rfl, ?_⟩
    exact all2_head h1 h2
theorem PS_lam {b y : E} (hp : PS (lam b) y) : ∃ b', y = lam b' ∧ PS b b' := by
  generalize he : lam b = x at hp
  induction hp generalizing b with
  | refl a => exact ⟨b, he.symm, .refl b⟩
  | head p _ ih =>
    subst he
    cases p with
    | lam p =>
      obtain ⟨b', e, h⟩ := ih _root_.rfl
      exact ⟨b', e, .head p h⟩
theorem PS_pi {A B x : E} (hp : PS (piE A B) x) : ∃ A' B', x = piE A' B' ∧ PS A A' ∧ PS B B' := by
  obtain ⟨l', rfl, h⟩ := PS_apps (show rigid (con 1 0) from trivial) hp [A, lam B] _root_.rfl
  cases h with
  | cons q r => cases r with
    | cons q2 r2 =>
      cases r2
      obtain ⟨B', rfl, h2⟩ := PS_lam q2
      exact ⟨_, B', _root_.rfl, q, h2⟩
theorem pi_inj {A B A' B' : E} (h : piE A B = piE A' B') : A = A' ∧ B = B' := by
  unfold piE apps at h
  simp only [List.foldl] at h
  injection h with h1 h2
  injection h1 with h3 h4
  injection h2 with h5
  exact ⟨h4, h5⟩
theorem J_pi {A B A' B' : E} (h : J (piE A B) (piE A' B')) : J A A' ∧ J B B' := by
  obtain ⟨x, h1, h2⟩ := h
  obtain ⟨A1, B1, rfl, a1, b1⟩ := PS_pi h1
  obtain ⟨A2, B2, e, a2, b2⟩ := PS_pi h2
  obtain ⟨rfl, rfl⟩ := pi_inj e
  exact ⟨⟨_, a1, a2⟩, ⟨_, b1, b2⟩⟩
/-- What is the same as one that comes to a Pi comes to one. -/
theorem J_to_pi {T T' A B : E} (h : J T T') (k : PS T (piE A B)) : ∃ A' B', PS T' (piE A' B') ∧ J A A' ∧ J B B' := by
  obtain ⟨x, h1, h2⟩ := h
  obtain ⟨y, y1, y2⟩ := conf k h1
  obtain ⟨A', B', rfl, a1, b1⟩ := PS_pi y1
  exact ⟨A', B', h2.trans y2, .of a1, .of b1⟩
def IsFam (T : E) : Prop := ∃ h l, PS T (apps (con 2 h) l)
theorem IsFam.conv {T T' : E} (h : IsFam T) (k : J T T') : IsFam T' := by
  obtain ⟨c, l, h1⟩ := h
  obtain ⟨x, k1, k2⟩ := k
  obtain ⟨y, y1, y2⟩ := conf h1 k1
  obtain ⟨l', rfl, _⟩ := PS_apps (show rigid (con 2 c) from trivial) y1 l _root_.rfl
  exact ⟨c, l', k2.trans y2⟩
theorem IsFam.sub {T : E} (h : IsFam T) (σ : Nat → E) : IsFam (E.sub σ T) := by
  obtain ⟨c, l, h1⟩ := h
  have := h1.sub1 σ
  rw [sub_apps] at this
  exact ⟨c, _, this⟩
theorem ren_var_sub : ∀ (t : E) (ρ : Nat → Nat), E.ren ρ t = E.sub (fun i => var (ρ i)) t
  | var i, _ => _root_.rfl
  | con _ _, _ => _root_.rfl
  | lam b, ρ => by
    simp only [E.ren, E.sub, ren_var_sub b]
    congr 2
    funext i
    cases i <;> rfl
  | app f a, ρ => by simp only [E.ren, E.sub, ren_var_sub f, ren_var_sub a]
theorem IsFam.ren {T : E} (h : IsFam T) (ρ : Nat → Nat) : IsFam (E.ren ρ T) := by rw [ren_var_sub]; exact h.sub _
theorem fam_not_pi {T A B : E} (h : IsFam T) (k : PS T (piE A B)) : False := by
  obtain ⟨c, l, h1⟩ := h
  obtain ⟨y, y1, y2⟩ := conf h1 k
  obtain ⟨l', rfl, _⟩ := PS_apps (show rigid (con 2 c) from trivial) y1 l _root_.rfl
  obtain ⟨A', B', e, _, _⟩ := PS_pi y2
  have := (apps_inj (show rigid (con 2 c) from trivial) (show rigid (con 1 0) from trivial) _ _ _ _root_.rfl e).1
  injection this with h1 h2
  exact absurd h1 (by decide)
/-! ### terms as such -/
theorem em_pi {t : Tm} (hn : nodesB t = true) (hk : t.kind = 1) : em t = piE (em (t.arg 0)) (em (t.arg 1)) := by
  have hl := pi_len hn hk
  have h0 : t.head = 0 := by
    have := node_here hn
    unfold nodeOk at this
    simp [hk] at this
    exact this.1
  rw [em_app (by omega)]
  have h1 : hd t = con 1 0 := by unfold hd; rw [if_neg (by omega), hk, h0]
  have h2 : ems t = [em (t.arg 0), lam (em (t.arg 1))] := by
    unfold ems
    rw [hl]
    simp only [List.range_succ, List.range_zero, List.nil_append, List.map_append, List.map_cons, List.map_nil, List.cons_append, pi_bnd0 hn hk, pi_bnd1 hn hk]
    rfl
  rw [h1, h2]; rfl
theorem em_kind {a : Tm} (hn : nodesB a = true) {k h : Int} {l : List E} (hk : k ≠ 4) (he : em a = apps (con k h) l) : a.kind = k ∧ a.head = h ∧ ems a = l := by
  by_cases h3 : a.kind = 3
  · have hl := lam_len hn h3
    rw [em_lam h3 (by omega)] at he
    exact absurd he.symm (apps_no_lam (show rigid (con k h) from trivial) _ _)
  · rw [em_app h3] at he
    obtain ⟨e1, e2⟩ := apps_inj (hd_rigid a) (show rigid (con k h) from trivial) _ _ _ _root_.rfl he
    unfold hd at e1
    by_cases h4 : a.kind = 4
    · rw [if_pos h4] at e1; cases e1
    · rw [if_neg h4] at e1
      injection e1 with e3 e4
      exact ⟨e3, e4, e2⟩
theorem J_em {a : Tm} (hn : nodesB a = true) {T : E} (h : J T (em a)) : PS T (em a) := by
  obtain ⟨x, h1, h2⟩ := h
  rw [em_stays hn h2] at h1
  exact h1
theorem em_to_pi {a : Tm} (hn : nodesB a = true) {T A B : E} (h : J T (em a)) (k : PS T (piE A B)) : a.kind = 1 ∧ J A (em (a.arg 0)) ∧ J B (em (a.arg 1)) := by
  obtain ⟨A', B', h1, h2, h3⟩ := J_to_pi h k
  have h4 := em_stays hn h1
  obtain ⟨k1, _, _⟩ := em_kind hn (by decide) h4.symm
  rw [em_pi hn k1] at h4
  obtain ⟨rfl, rfl⟩ := pi_inj h4
  exact ⟨k1, h2, h3⟩
theorem em_to_fam {a : Tm} (hn : nodesB a = true) {T : E} (h : J T (em a)) (k : IsFam T) : a.kind = 2 := by
  obtain ⟨c, l, h1⟩ := k.conv h
  exact (em_kind hn (by decide) (em_stays hn h1).symm).1
theorem em_fam {a : Tm} (hk : a.kind = 2) : IsFam (em a) := by
  rw [em_app (by omega)]
  refine ⟨a.head, ems a, ?_⟩
  have : hd a = con 2 a.head := by unfold hd; rw [if_neg (by omega), hk]
  rw [this]
  exact .refl _
theorem em_same {a b : Tm} (ha : nodesB a = true) (hb : nodesB b = true) (h : J (em a) (em b)) : a = b := by
  have := em_stays ha (J_em ha h.symm |> fun _ => PS.refl (em a))
  obtain ⟨x, h1, h2⟩ := h
  exact em_inj a b ha hb ((em_stays ha h1).symm.trans (em_stays hb h2))
/-! ### typing -/
structure Env where
  con : Nat → Option E
  fam : Nat → Option E
  mts : Nat → Option (List E × E)
abbrev Gam := Nat → Option E
def ext (G : Gam) (A : E) : Gam
  | 0 => some (E.ren Nat.succ A)
  | i + 1 => (G i).map (E.ren Nat.succ)
def mS (l : List Tm) (i : Nat) : Nat → E := fun v => if v < i then em (l.getD (i - 1 - v) default) else con 0 0
mutual
inductive Typ (X : Env) : Gam → Tm → E → Prop where
  | lam {G : Gam} {m : Tm} {T A B : E} : m.kind = 3 → PS T (piE A B) → Typ X (ext G A) (m.arg 0) B → Typ X G m T
  | var {G : Gam} {m : Tm} {T T0 T1 : E} : m.kind = 4 → G m.head.toNat = some T0 → Spn X G m.args T0 T1 → J T1 T → IsFam T → Typ X G m T
  | con {G : Gam} {m : Tm} {T T0 T1 : E} : m.kind = 5 → X.con m.head.toNat = some T0 → Spn X G m.args T0 T1 → J T1 T → IsFam T → Typ X G m T
  | mt {G : Gam} {m : Tm} {T C : E} {D : List E} : m.kind = 6 → X.mts m.head.toNat = some (D, C) → D.length = m.args.length →
      (∀ i, i < m.args.length → Typ X G (m.arg i) (E.sub (mS m.args i) (D.getD i (E.con 0 0)))) → J (E.sub (mS m.args m.args.length) C) T → IsFam T → Typ X G m T
inductive Spn (X : Env) : Gam → List Tm → E → E → Prop where
  | nil {G : Gam} {T : E} : Spn X G [] T T
  | cons {G : Gam} {a : Tm} {l : List Tm} {T T1 A B : E} : PS T (piE A B) → Typ X G a A → Spn X G l (E.sub (E.one (em a)) B) T1 → Spn X G (a :: l) T T1
end
def CtxJ (G G' : Gam) : Prop := ∀ i A, G i = some A → ∃ A', G' i = some A' ∧ J A A'
theorem CtxJ.self (G : Gam) : CtxJ G G := fun i A h => ⟨A, h, J.rfl⟩
theorem CtxJ.ext {G G' : Gam} (h : CtxJ G G') {A A' : E} (k : J A A') : CtxJ (ext G A) (Go.Proofs.Ytmemmdfjlhamfaa.ext G' A') := by
  intro i B hB
  cases i with
  | zero =>
    simp only [Go.Proofs.Ytmemmdfjlhamfaa.ext, Option.some.injEq] at hB ⊢
    subst hB
    exact ⟨_, _root_.rfl, k.ren _⟩
  | succ i =>
    simp only [Go.Proofs.Ytmemmdfjlhamfaa.ext] at hB ⊢
    obtain ⟨C, hC, rfl⟩ := Option.map_eq_some_iff.1 hB
    obtain ⟨C', e, j⟩ := h i C hC
    exact ⟨_, by rw [e]; rfl, j.ren _⟩
theorem spn_conv {X : Env} {G G' : Gam} : ∀ (l : List Tm), (∀ x ∈ l, ∀ T T', J T T' → Typ X G x T → Typ X G' x T') → ∀ T T' T1, J T T' → Spn X G l T T1 → ∃ T1', Spn X G' l T' T1' ∧ J T1 T1'
  | [], _, T, T', T1, hj, h => by cases h; exact ⟨T', .nil, hj⟩
  | a :: l, ih, T, T', T1, hj, h => by
    cases h with
    | cons p t s =>
      obtain ⟨A', B', p', jA, jB⟩ := J_to_pi hj p
      obtain ⟨T1', s', j⟩ := spn_conv l (fun x hx => ih x (by simp [hx])) _ (E.sub (E.one (em a)) B') T1 (jB.sub _) s
      exact ⟨T1', .cons p' (ih a (by simp) _ _ jA t) s', j⟩
theorem typ_conv {X : Env} : ∀ m : Tm, nodesB m = true → ∀ (G G' : Gam) (T T' : E), CtxJ G G' → J T T' → Typ X G m T → Typ X G' m T' := by
  refine Tm.ind fun m ih hn G G' T T' hg hj h => ?_
  have hmem : ∀ x ∈ m.args, nodesB x = true := fun x hx => by
    obtain ⟨i, hi, rfl⟩ := List.mem_iff_getElem.1 hx
    rw [arg_eq hi]; exact node_args hn i hi
  have hsp := fun T T' T1 => spn_conv (X := X) (G := G) (G' := G') m.args (fun x hx T T' j t => ih x hx (hmem x hx) G G' T T' hg j t) T T' T1
  cases h with
  | lam k p t =>
    have hl := lam_len hn k
    obtain ⟨A', B', p', jA, jB⟩ := J_to_pi hj p
    exact .lam k p' (ih _ (arg_mem (by omega)) (node_args hn 0 (by omega)) _ _ _ _ (hg.ext jA) jB t)
  | var k e s j f =>
    obtain ⟨T0', e', j0⟩ := hg _ _ e
    obtain ⟨T1', s', j1⟩ := hsp _ _ _ j0 s
    exact .var k e' s' ((j1.symm.trans j).trans hj) (f.conv hj)
  | con k e s j f =>
    obtain ⟨T1', s', j1⟩ := hsp _ _ _ J.rfl s
    exact .con k e s' ((j1.symm.trans j).trans hj) (f.conv hj)
  | mt k e hl ht j f =>
    exact .mt k e hl (fun i hi => ih _ (arg_mem hi) (node_args hn i hi) _ _ _ _ hg J.rfl (ht i hi)) (j.trans hj) (f.conv hj)
theorem typ_to {X : Env} {m : Tm} (hn : nodesB m = true) {G : Gam} {T T' : E} (h : Typ X G m T) (hj : J T T') : Typ X G m T' := typ_conv m hn G G T T' (CtxJ.self G) hj h
/-- Declarations have no variables. -/
structure EnvOk (X : Env) : Prop where
  con : ∀ h T, X.con h = some T → ∀ σ, E.sub σ T = T
  fam : ∀ h T, X.fam h = some T → ∀ σ, E.sub σ T = T
theorem EnvOk.conr {X : Env} (hX : EnvOk X) {h : Nat} {T : E} (e : X.con h = some T) (ρ : Nat → Nat) : E.ren ρ T = T := by rw [ren_var_sub]; exact hX.con h T e _
theorem EnvOk.famr {X : Env} (hX : EnvOk X) {h : Nat} {T : E} (e : X.fam h = some T) (ρ : Nat → Nat) : E.ren ρ T = T := by rw [ren_var_sub]; exact hX.fam h T e _
/-! ### up by one -/
def WkG (G G' : Gam) (k : Nat) : Prop := ∀ i A, G i = some A → G' (upn k i) = some (E.ren (upn k) A)
theorem WkG.ext {G G' : Gam} {k : Nat} (h : WkG G G' k) (A : E) : WkG (ext G A) (Go.Proofs.Ytmemmdfjlhamfaa.ext G' (E.ren (upn k) A)) (k + 1) := by
  have hc : ∀ B : E, E.ren (upn (k + 1)) (E.ren Nat.succ B) = E.ren Nat.succ (E.ren (upn k) B) := fun B => by
    rw [ren_ren, ren_ren]; rfl
  intro i B hB
  cases i with
  | zero =>
    simp only [Go.Proofs.Ytmemmdfjlhamfaa.ext, Option.some.injEq] at hB
    subst hB
    show some (E.ren Nat.succ (E.ren (upn k) A)) = _
    rw [hc]
  | succ i =>
    simp only [Go.Proofs.Ytmemmdfjlhamfaa.ext] at hB
    obtain ⟨C, hC, rfl⟩ := Option.map_eq_some_iff.1 hB
    show (G' (upn k i)).map (E.ren Nat.succ) = _
    rw [h i C hC, hc]; rfl
theorem mS_up (l : List Tm) (hl : ∀ x ∈ l, nodesB x = true) (k i : Nat) (hi : i ≤ l.length) (C : E) : E.ren (upn k) (E.sub (mS l i) C) = E.sub (mS (l.map fun x => upT x 1 k) i) C := by
  rw [ren_sub]
  congr 1
  funext v
  unfold mS
  by_cases hv : v < i
  · rw [if_pos hv, if_pos hv, getD_map (by omega)]
    have hm : l.getD (i - 1 - v) default ∈ l := by
      rw [List.getD_eq_getElem?_getD, List.getElem?_eq_getElem (by omega)]
      exact List.getElem_mem _
    exact (em_up _ (hl _ hm) k).symm
  · rw [if_neg hv, if_neg hv]; rfl
theorem spn_wk {X : Env} {G G' : Gam} {k : Nat} : ∀ (l : List Tm), (∀ x ∈ l, nodesB x = true ∧ ∀ T, Typ X G x T → Typ X G' (upT x 1 k) (E.ren (upn k) T)) → ∀ T T1, Spn X G l T T1 → Spn X G' (l.map fun x => upT x 1 k) (E.ren (upn k) T) (E.ren (upn k) T1)
  | [], _, T, T1, h => by cases h; exact .nil
  | a :: l, ih, T, T1, h => by
    obtain ⟨hn, ha⟩ := ih a (by simp)
    cases h with
    | @cons _ _ _ _ _ A B p t s =>
      have hs := spn_wk l (fun x hx => ih x (by simp [hx])) _ _ s
      have hp := p.ren (upn k)
      rw [ren_pi] at hp
      rw [ren_one] at hs
      have hem : em (upT a 1 k) = E.ren (upn k) (em a) := em_up a hn k
      refine .cons hp (ha _ t) ?_
      rw [hem]
      exact hs
theorem up_args {m : Tm} (h1 : m.kind ≠ 1) (h3 : m.kind ≠ 3) (b k : Int) : (upT m b k).args = m.args.map fun x => upT x b k := by
  unfold upT
  rw [mapT_args]
  refine List.ext_getElem (by simp) fun i h1' h2' => ?_
  have hi : i < m.args.length := by simpa using h2'
  simp only [List.getElem_map, List.getElem_range, bnd_zero h1 h3, Int.natCast_zero, Int.add_zero, arg_eq hi]
theorem typ_wk {X : Env} (hX : EnvOk X) : ∀ m : Tm, nodesB m = true → ∀ (G G' : Gam) (k : Nat) (T : E), WkG G G' k → Typ X G m T → Typ X G' (upT m 1 k) (E.ren (upn k) T) := by
  refine Tm.ind fun m ih hn G G' k T hg h => ?_
  have hmem : ∀ x ∈ m.args, nodesB x = true := fun x hx => by
    obtain ⟨i, hi, rfl⟩ := List.mem_iff_getElem.1 hx
    rw [arg_eq hi]; exact node_args hn i hi
  have hsp := spn_wk (X := X) (G := G) (G' := G') (k := k) m.args fun x hx => ⟨hmem x hx, fun T t => ih x hx (hmem x hx) G G' k T hg t⟩
  have hkd : (upT m 1 k).kind = m.kind := mapT_kind _ m k
  have h0 := node_head (node_here hn)
  cases h with
  | @lam _ _ _ A B k3 p t =>
    have hl := lam_len hn k3
    have hp := p.ren (upn k)
    rw [ren_pi] at hp
    refine .lam (hkd.trans k3) hp ?_
    have := ih _ (arg_mem (by omega)) (node_args hn 0 (by omega)) _ _ (k + 1) _ (hg.ext A) t
    have harg : (upT m 1 k).arg 0 = upT (m.arg 0) 1 ((k + 1 : Nat) : Int) := by
      unfold upT
      rw [mapT_arg _ _ (by omega), lam_bnd hn k3]; rfl
    rw [harg]
    exact this
  | var k4 e s j f =>
    have hhd : (upT m 1 k).head.toNat = upn k m.head.toNat := by
      unfold upT
      rw [mapT_head, k4, upn_get]
      simp only [beq_self_eq_true, if_true, gUp]
      split <;> split <;> omega
    refine .var (hkd.trans k4) (by rw [hhd]; exact hg _ _ e) ?_ (j.ren _) (f.ren _)
    rw [up_args (by omega) (by omega)]
    exact hsp _ _ s
  | con k5 e s j f =>
    have hhd : (upT m 1 k).head = m.head := by
      unfold upT
      rw [mapT_head, k5]; rfl
    refine .con (hkd.trans k5) (by rw [hhd]; exact e) ?_ (j.ren _) (f.ren _)
    rw [up_args (by omega) (by omega)]
    have := hsp _ _ s
    rw [hX.conr e] at this
    exact this
  | @mt _ _ _ C D k6 e hl ht j f =>
    have hhd : (upT m 1 k).head = m.head := by
      unfold upT
      rw [mapT_head, k6]; rfl
    have hlen : (upT m 1 k).args.length = m.args.length := mapT_len _ m k
    have ha := up_args (m := m) (by omega) (by omega) 1 k
    refine .mt (hkd.trans k6) (by rw [hhd]; exact e) (hl.trans hlen.symm) (fun i hi => ?_) ?_ (f.ren _)
    · rw [hlen] at hi
      have := ih _ (arg_mem hi) (node_args hn i hi) _ _ k _ hg (ht i hi)
      rw [mS_up _ hmem k i (by omega)] at this
      have harg : (upT m 1 k).arg i = upT (m.arg i) 1 (k : Int) := by
        unfold upT
        rw [mapT_arg _ _ hi, bnd_zero (by omega) (by omega), Int.natCast_zero, Int.add_zero]
      rw [harg, ha]
      exact this
    · rw [hlen, ha, ← mS_up _ hmem k _ (Nat.le_refl _)]
      exact j.ren _
end Go.Proofs.Ytmemmdfjlhamfaa
/- Types as functions that are applied: substitution keeps what has which; it ends only where it is too great. -/
set_option linter.unusedVariables false
set_option linter.unusedSimpArgs false
namespace Go.Proofs.Ytmemmdfjlhamfaa
open E
/-- What the entries of a context are mapped to has their types. -/
def TySub (X : Env) (G' : Gam) (s : Sb) (G : Gam) : Prop := ∀ (i : Nat) T, G i = some T →
  (∃ (j : Nat) (T' : E), ofS s i = .mk 4 j [] ∧ G' j = some T' ∧ J T' (E.sub (sg s) T)) ∨ Typ X G' (ofS s i) (E.sub (sg s) T)
theorem wkG_new (G : Gam) (A : E) : WkG G (ext G A) 0 := by
  intro i B hB
  show (G i).map (E.ren Nat.succ) = _
  rw [hB]; rfl
theorem TySub.under {X : Env} (hX : EnvOk X) {G G' : Gam} {s : Sb} (hs : NodesS s) (h : TySub X G' s G) (A : E) : TySub X (ext G' (E.sub (sg s) A)) (underS s) (ext G A) := by
  have hc : ∀ B : E, E.sub (sg (underS s)) (E.ren Nat.succ B) = E.ren Nat.succ (E.sub (sg s) B) := fun B => by
    rw [sg_under hs, sub_ren, ren_sub]; rfl
  intro i T hT
  cases i with
  | zero =>
    simp only [ext, Option.some.injEq] at hT
    subst hT
    refine .inl ⟨0, _, of_under0 s, rfl, ?_⟩
    rw [hc]; exact J.rfl
  | succ i =>
    simp only [ext] at hT
    obtain ⟨C, hC, rfl⟩ := Option.map_eq_some_iff.1 hT
    have ho : ofS (underS s) ((i + 1 : Nat) : Int) = upT (ofS s i) 1 0 := by
      rw [show ((i + 1 : Nat) : Int) = (i : Int) + 1 by omega]
      exact of_under s (by omega) hs.2
    rcases h i C hC with ⟨j, T', h1, h2, h3⟩ | h1
    · refine .inl ⟨j + 1, E.ren Nat.succ T', ?_, ?_, ?_⟩
      · rw [ho, h1, up_mk_heads rfl]
        simp only [List.map_nil, beq_self_eq_true, if_true]
        congr 1
      · show (G' j).map _ = _
        rw [h2]; rfl
      · rw [hc]; exact h3.ren _
    · refine .inr ?_
      rw [ho, hc]
      exact typ_wk hX _ (hs.of (by omega)) _ _ 0 _ (wkG_new G' _) h1
theorem TySub.one {X : Env} {G : Gam} {a : Tm} {A : E} (h : Typ X G a A) : TySub X G ⟨[a], 0⟩ (ext G A) := by
  intro i T hT
  rw [sg_one]
  cases i with
  | zero =>
    simp only [ext, Option.some.injEq] at hT
    subst hT
    refine .inr ?_
    rw [sub_ren]
    have : E.sub (fun i => E.one (em a) (Nat.succ i)) A = A := sub_var A
    rw [this]
    exact h
  | succ i =>
    simp only [ext] at hT
    obtain ⟨C, hC, rfl⟩ := Option.map_eq_some_iff.1 hT
    refine .inl ⟨i, C, ?_, hC, ?_⟩
    · unfold ofS
      rw [if_neg (by simp; omega)]
      congr 1
      simp
    · rw [sub_ren]
      have : E.sub (fun i => E.one (em a) (Nat.succ i)) C = C := sub_var C
      rw [this]; exact J.rfl
/-- Two lists, thing by thing. -/
inductive L2 (Q : Tm → Tm → Prop) : List Tm → List Tm → Prop where
  | nil : L2 Q [] []
  | cons {a b : Tm} {l l' : List Tm} : Q a b → L2 Q l l' → L2 Q (a :: l) (b :: l')
theorem L2.of {Q : Tm → Tm → Prop} : ∀ (l l' : List Tm), l.length = l'.length → (∀ i, i < l.length → Q (l.getD i default) (l'.getD i default)) → L2 Q l l'
  | [], [], _, _ => .nil
  | [], _ :: _, h, _ => by simp at h
  | _ :: _, [], h, _ => by simp at h
  | a :: l, b :: l', h, q => .cons (q 0 (by simp)) (L2.of l l' (by simpa using h) fun i hi => q (i + 1) (by simp; omega))
theorem seq_typed {g : Nat → Nat → R Tm} {Q : Nat → Tm → Prop} {n : Nat} : ∀ c : Nat, (∀ i, i < c → ∀ m, (∃ k, g i m = .er 4 k) ∨ ∃ x k, g i m = .ok x k ∧ Q i x) →
    (∃ k, seqF g n c = .er 4 k) ∨ ∃ xs k, seqF g n c = .ok xs k ∧ xs.length = c ∧ ∀ i, i < c → Q i (xs.getD i default)
  | 0, _ => .inr ⟨[], n, rfl, rfl, fun i hi => by omega⟩
  | c + 1, h => by
    simp only [seqF]
    rcases seq_typed (n := n) c (fun i hi => h i (by omega)) with ⟨k, e⟩ | ⟨xs, k, e, hl, hq⟩
    · rw [e]; exact .inl ⟨k, rfl⟩
    · rw [e, R.bind_ok]
      rcases h c (by omega) k with ⟨k', e'⟩ | ⟨x, k', e', hx⟩
      · rw [e']; exact .inl ⟨k', rfl⟩
      · rw [e', R.bind_ok]
        refine .inr ⟨xs ++ [x], k', rfl, by simp [hl], fun i hi => ?_⟩
        rcases Nat.lt_or_ge i c with h1 | h1
        · rw [getD_append_l (by omega)]; exact hq i h1
        · obtain rfl : i = c := by omega
          rw [List.getD_eq_getElem?_getD, List.getElem?_append_right (by omega), hl]
          simpa using hx
/-- What an Arg is mapped to. -/
def Goes1 (X : Env) (G G' : Gam) (σ : Nat → E) (a x : Tm) : Prop := nodesB x = true ∧ PS (E.sub σ (em a)) (em x) ∧ ∀ A, Typ X G a A → Typ X G' x (E.sub σ A)
theorem spn_sub {X : Env} {G G' : Gam} {σ : Nat → E} {l l' : List Tm} (h : L2 (Goes1 X G G' σ) l l') : ∀ {T T' T1 : E}, J T' (E.sub σ T) → Spn X G l T T1 → ∃ T1', Spn X G' l' T' T1' ∧ J T1' (E.sub σ T1) := by
  induction h with
  | nil => intro T T' T1 hj hs; cases hs; exact ⟨T', .nil, hj⟩
  | @cons a x l l' q _ ih =>
    intro T T' T1 hj hs
    obtain ⟨hx, hp, ht⟩ := q
    cases hs with
    | @cons _ _ _ _ _ A B p t s =>
      have hp2 := p.sub1 σ
      rw [sub_pi] at hp2
      obtain ⟨A', B', p', jA, jB⟩ := J_to_pi hj.symm hp2
      have hty := typ_to hx (ht _ t) jA
      have j2 : J (E.sub (E.one (em x)) B') (E.sub σ (E.sub (E.one (em a)) B)) := by
        rw [sub_one]
        exact (jB.symm.sub _).trans (J.one (J.of hp).symm _)
      obtain ⟨T1', s', j'⟩ := ih j2 s
      exact ⟨T1', .cons p' hty s', j'⟩
abbrev Keeps (X : Env) (A : Tm → Sb → Nat → R Tm) : Prop := ∀ (m : Tm) (s : Sb) (n : Nat) (G G' : Gam) (T : E), nodesB m = true → NodesS s → Typ X G m T → TySub X G' s G → (∃ k, A m s n = .er 4 k) ∨ ∃ x k, A m s n = .ok x k ∧ Typ X G' x (E.sub (sg s) T)
theorem spn_keeps {X : Env} {A : Tm → Sb → Nat → R Tm} (hA : Keeps X A) (hG : Goes A) {G : Gam} : ∀ (l : List Tm) (u : Tm) (n : Nat) (U U1 V : E), nodesB u = true → (∀ x ∈ l, nodesB x = true) → Typ X G u U → Spn X G l U U1 → J U1 V →
    (∃ k, spnA A u l n = .er 4 k) ∨ ∃ r k, spnA A u l n = .ok r k ∧ Typ X G r V
  | [], u, n, U, U1, V, hu, _, ht, hs, hj => by cases hs; exact .inr ⟨u, n, rfl, typ_to hu ht hj⟩
  | a :: rest, u, n, U, U1, V, hu, hl, ht, hs, hj => by
    have ha := hl a (by simp)
    cases hs with
    | @cons _ _ _ _ _ A1 B1 p ta s =>
      cases ht with
      | @lam _ _ _ A2 B2 k3 p2 tb =>
        simp only [spnA]
        rw [if_pos k3]
        by_cases hm : mayB a = true
        · rw [if_pos hm]
          have hl1 := lam_len hu k3
          have hn0 := node_args hu 0 (by omega)
          obtain ⟨x, y1, y2⟩ := conf p p2
          have hjj := J_pi (J.trans (J.of y1) (J.of y2).symm)
          have hsn : NodesS ⟨[a], 0⟩ := ⟨by simpa using ha, by simp⟩
          rcases hA (u.arg 0) ⟨[a], 0⟩ n _ _ _ hn0 hsn tb (TySub.one (typ_to ha ta hjj.1)) with ⟨k, e⟩ | ⟨v, k, e, tv⟩
          · rw [e]; exact .inl ⟨k, rfl⟩
          · rw [e, R.bind_ok]
            have hv := (hG _ _ _ v k hn0 hsn e).1
            rw [sg_one] at tv
            exact spn_keeps hA hG rest v k _ U1 V hv (fun x hx => hl x (by simp [hx])) (typ_to hv tv (hjj.2.symm.sub _)) s hj
        · rw [if_neg hm]; exact .inl ⟨n, rfl⟩
      | var _ _ _ _ f => exact (fam_not_pi f p).elim
      | con _ _ _ _ f => exact (fam_not_pi f p).elim
      | mt _ _ _ _ _ f => exact (fam_not_pi f p).elim
theorem mem_nodes {m : Tm} (hn : nodesB m = true) : ∀ x ∈ m.args, nodesB x = true := fun x hx => by
  obtain ⟨i, hi, rfl⟩ := List.mem_iff_getElem.1 hx
  rw [arg_eq hi]; exact node_args hn i hi
theorem mk_arg {k h : Int} {l : List Tm} (i : Nat) : (Tm.mk k h l).arg i = l.getD i default := rfl
theorem mS_sub {σ : Nat → E} {l l' : List Tm} (h : ∀ i, i < l.length → PS (E.sub σ (em (l.getD i default))) (em (l'.getD i default))) {i : Nat} (hi : i ≤ l.length) (C : E) : J (E.sub σ (E.sub (mS l i) C)) (E.sub (mS l' i) C) := by
  rw [sub_sub]
  refine J.subs C fun v => ?_
  unfold mS
  by_cases hv : v < i
  · rw [if_pos hv, if_pos hv]; exact .of (h _ (by omega))
  · rw [if_neg hv, if_neg hv]; exact J.rfl
theorem ap_keeps {X : Env} (hX : EnvOk X) : ∀ f : Nat, Keeps X (ap f)
  | 0 => fun m s n G G' T _ _ _ _ => .inl ⟨_, rfl⟩
  | f + 1 => fun m s n G G' T hm hs ht hS => by
    have ih := ap_keeps hX f
    rw [ap_succ]
    by_cases h1 : n + 1 > 40000
    · rw [if_pos h1]; exact .inl ⟨_, rfl⟩
    rw [if_neg h1]
    by_cases k3 : m.kind = 3
    · cases ht with
      | var k => omega
      | con k => omega
      | mt k => omega
      | @lam _ _ _ A B _ p t =>
        have hl := lam_len hm k3
        have hb := lam_bnd hm k3
        have hbel : below s m 0 = underS s := by unfold below; rw [if_pos hb]
        rcases seq_typed (g := fun i m' => ap f (m.arg i) (below s m i) m') (n := n + 1) (Q := fun i x => Typ X (ext G' (E.sub (sg s) A)) x (E.sub (ups (sg s)) B)) m.args.length (fun i hi m' => by
          obtain rfl : i = 0 := by omega
          rw [hbel]
          have := ih (m.arg 0) (underS s) m' _ _ _ (node_args hm 0 hi) (by have := hs.below m 0; rwa [hbel] at this) t (hS.under hX hs A)
          rwa [sg_under hs] at this) with ⟨k, e⟩ | ⟨xs, k, e, hxl, hq⟩
        · rw [e]; exact .inl ⟨k, rfl⟩
        · rw [e, R.bind_ok, if_neg (by omega)]
          refine .inr ⟨_, k, rfl, ?_⟩
          have hp := p.sub1 (sg s)
          rw [sub_pi] at hp
          exact .lam k3 hp (hq 0 (by omega))
    · have hbel : ∀ i, below s m i = below s m i := fun _ => rfl
      have hmk : m.kind = 4 ∨ m.kind = 5 ∨ m.kind = 6 := by
        cases ht with
        | var k => exact .inl k
        | con k => exact .inr (.inl k)
        | mt k => exact .inr (.inr k)
        | lam k => exact absurd k k3
      have hb0 : ∀ i, below s m i = s := fun i => by unfold below; rw [bnd_zero (by omega) k3, if_neg (by decide)]
      have harg : ∀ i, i < m.args.length → ∃ A, Typ X G (m.arg i) A := by
        have key : ∀ (l : List Tm) (T0 T1 : E), Spn X G l T0 T1 → ∀ i, i < l.length → ∃ A, Typ X G (l.getD i default) A := by
          intro l
          induction l with
          | nil => intro _ _ _ i hi; simp at hi
          | cons a l ihl =>
            intro T0 T1 hsp i hi
            cases hsp with
            | cons p t s' =>
              cases i with
              | zero => exact ⟨_, t⟩
              | succ i => exact ihl _ _ s' i (by simpa using hi)
        cases ht with
        | var _ _ sp => exact fun i hi => key _ _ _ sp i hi
        | con _ _ sp => exact fun i hi => key _ _ _ sp i hi
        | mt _ _ _ ha => exact fun i hi => ⟨_, ha i hi⟩
        | lam k => exact absurd k k3
      rcases seq_typed (g := fun i m' => ap f (m.arg i) (below s m i) m') (n := n + 1) (Q := fun i x => Goes1 X G G' (sg s) (m.arg i) x) m.args.length (fun i hi m' => by
        rw [hb0]
        obtain ⟨A, hA⟩ := harg i hi
        rcases ih (m.arg i) s m' _ _ _ (node_args hm i hi) hs hA hS with ⟨k, e⟩ | ⟨x, k, e, tx⟩
        · exact .inl ⟨k, e⟩
        · obtain ⟨g1, g2⟩ := ap_goes f _ _ _ x k (node_args hm i hi) hs e
          refine .inr ⟨x, k, e, g1, g2, fun A' hA' => ?_⟩
          rcases ih (m.arg i) s m' _ _ _ (node_args hm i hi) hs hA' hS with ⟨k', e'⟩ | ⟨x', k', e', tx'⟩
          · rw [e] at e'; cases e'
          · rw [e] at e'; cases e'; exact tx') with ⟨k, e⟩ | ⟨xs, k, e, hxl, hq⟩
      · rw [e]; exact .inl ⟨k, rfl⟩
      rw [e, R.bind_ok]
      have hL2 : L2 (Goes1 X G G' (sg s)) m.args xs := L2.of _ _ hxl.symm fun i hi => hq i hi
      have hxn : ∀ x ∈ xs, nodesB x = true := getD_all fun i hi => (hq i (by omega)).1
      have h0 := node_head (node_here hm)
      cases ht with
      | lam k => exact absurd k k3
      | @var _ _ _ T0 T1 k4 e0 sp j fm =>
        rw [if_pos k4]
        have hint : ((m.head.toNat : Nat) : Int) = m.head := Int.toNat_of_nonneg h0
        have hof : ofS s m.head = ofS s ((m.head.toNat : Nat) : Int) := by rw [hint]
        rcases hS _ _ e0 with ⟨jv, T', h2, h3, h4⟩ | h2
        · rw [hof, h2, spn_var]
          obtain ⟨T1', s', j'⟩ := spn_sub hL2 h4 sp
          exact .inr ⟨_, k, rfl, .var rfl (by rw [mk_head, Int.toNat_natCast]; exact h3) s' (j'.trans (j.sub _)) (fm.sub _)⟩
        · rw [hof]
          obtain ⟨T1', s', j'⟩ := spn_sub hL2 J.rfl sp
          exact spn_keeps ih (ap_goes f) xs _ k _ T1' _ (hs.of (by omega)) hxn h2 s' (j'.trans (j.sub _))
      | con k5 e0 sp j fm =>
        rw [if_neg (by omega)]
        obtain ⟨T1', s', j'⟩ := spn_sub hL2 (J.rfl) sp
        rw [hX.con _ _ e0] at s'
        exact .inr ⟨_, k, rfl, .con k5 e0 s' (j'.trans (j.sub _)) (fm.sub _)⟩
      | @mt _ _ _ C D k6 e0 hdl hd j fm =>
        rw [if_neg (by omega)]
        have hps : ∀ i, i < m.args.length → PS (E.sub (sg s) (em (m.args.getD i default))) (em (xs.getD i default)) := fun i hi => (hq i hi).2.1
        refine .inr ⟨_, k, rfl, .mt k6 e0 (by rw [mk_args, hxl]; exact hdl) (fun i hi => ?_) ?_ (fm.sub _)⟩
        · rw [mk_args, hxl] at hi
          obtain ⟨q1, q2, q3⟩ := hq i hi
          exact typ_to q1 (q3 _ (hd i hi)) (mS_sub hps (by omega) _)
        · rw [mk_args, hxl]
          exact (mS_sub hps (Nat.le_refl _) C).symm.trans (j.sub _)
/-! ### types -/
inductive Kd (X : Env) : Gam → Tm → Prop where
  | sort {G : Gam} {A : Tm} : A.kind = 0 → Kd X G A
  | pi {G : Gam} {A : Tm} : A.kind = 1 → Kd X G (A.arg 0) → Kd X (ext G (em (A.arg 0))) (A.arg 1) → Kd X G A
  | fam {G : Gam} {A : Tm} {K K1 : E} : A.kind = 2 → X.fam A.head.toNat = some K → Spn X G A.args K K1 → Kd X G A
theorem kd_conv {X : Env} : ∀ A : Tm, nodesB A = true → ∀ (G G' : Gam), CtxJ G G' → Kd X G A → Kd X G' A := by
  refine Tm.ind fun A ih hn G G' hg h => ?_
  cases h with
  | sort k => exact .sort k
  | pi k h0 h1 =>
    have hl := pi_len hn k
    exact .pi k (ih _ (arg_mem (by omega)) (node_args hn 0 (by omega)) _ _ hg h0) (ih _ (arg_mem (by omega)) (node_args hn 1 (by omega)) _ _ (hg.ext J.rfl) h1)
  | fam k e s =>
    obtain ⟨T1', s', _⟩ := spn_conv (X := X) (G := G) (G' := G') A.args (fun x hx T T' j t => typ_conv x (mem_nodes hn x hx) G G' T T' hg j t) _ _ _ J.rfl s
    exact .fam k e s'
theorem kd_wk {X : Env} (hX : EnvOk X) : ∀ A : Tm, nodesB A = true → ∀ (G G' : Gam) (k : Nat), WkG G G' k → Kd X G A → Kd X G' (upT A 1 k) := by
  refine Tm.ind fun A ih hn G G' k hg h => ?_
  have hkd : (upT A 1 k).kind = A.kind := mapT_kind _ A k
  cases h with
  | sort k0 => exact .sort (hkd.trans k0)
  | pi k1 h0 h1 =>
    have hl := pi_len hn k1
    have x0 : (upT A 1 k).arg 0 = upT (A.arg 0) 1 k := by
      unfold upT
      rw [mapT_arg _ _ (by omega), pi_bnd0 hn k1, Int.natCast_zero, Int.add_zero]
    have x1 : (upT A 1 k).arg 1 = upT (A.arg 1) 1 ((k + 1 : Nat) : Int) := by
      unfold upT
      rw [mapT_arg _ _ (by omega), pi_bnd1 hn k1]; rfl
    refine .pi (hkd.trans k1) (by rw [x0]; exact ih _ (arg_mem (by omega)) (node_args hn 0 (by omega)) _ _ k hg h0) ?_
    rw [x0, x1]
    have he : em (upT (A.arg 0) 1 k) = E.ren (upn k) (em (A.arg 0)) := em_up _ (node_args hn 0 (by omega)) k
    rw [he]
    exact ih _ (arg_mem (by omega)) (node_args hn 1 (by omega)) _ _ (k + 1) (hg.ext _) h1
  | fam k2 e s =>
    have hhd : (upT A 1 k).head = A.head := by
      unfold upT
      rw [mapT_head, k2]; rfl
    have hs := spn_wk (X := X) (G := G) (G' := G') (k := k) A.args (fun x hx => ⟨mem_nodes hn x hx, fun T t => typ_wk hX x (mem_nodes hn x hx) G G' k T hg t⟩) _ _ s
    rw [hX.famr e] at hs
    have ha := up_args (m := A) (by omega) (by omega) 1 (k : Int)
    rw [← ha] at hs
    exact .fam (hkd.trans k2) (by rw [hhd]; exact e) hs
theorem kd_keeps {X : Env} (hX : EnvOk X) : ∀ (f : Nat) (A : Tm) (s : Sb) (n : Nat) (G G' : Gam), nodesB A = true → NodesS s → Kd X G A → TySub X G' s G → (∃ k, ap f A s n = .er 4 k) ∨ ∃ x k, ap f A s n = .ok x k ∧ Kd X G' x
  | 0, A, s, n, G, G', _, _, _, _ => .inl ⟨_, rfl⟩
  | f + 1, A, s, n, G, G', hn, hs, hk, hS => by
    rw [ap_succ]
    by_cases h1 : n + 1 > 40000
    · rw [if_pos h1]; exact .inl ⟨_, rfl⟩
    rw [if_neg h1]
    cases hk with
    | sort k0 =>
      have hl : A.args.length = 0 := by
        have := node_here hn
        unfold nodeOk at this
        simp [k0] at this
        rw [this.2]; rfl
      rw [hl]
      simp only [seqF, R.bind_ok]
      rw [if_neg (by omega)]
      exact .inr ⟨_, _, rfl, .sort k0⟩
    | pi k1 h0 h1' =>
      have hl := pi_len hn k1
      have b0 : below s A 0 = s := by unfold below; rw [pi_bnd0 hn k1, if_neg (by decide)]
      have b1 : below s A 1 = underS s := by unfold below; rw [pi_bnd1 hn k1, if_pos rfl]
      have hn0 := node_args hn 0 (by omega)
      have hn1 := node_args hn 1 (by omega)
      rcases seq_typed (g := fun i m' => ap f (A.arg i) (below s A i) m') (n := n + 1) (Q := fun i x => nodesB x = true ∧ (i = 0 → Kd X G' x ∧ PS (E.sub (sg s) (em (A.arg 0))) (em x)) ∧ (i = 1 → Kd X (ext G' (E.sub (sg s) (em (A.arg 0)))) x)) A.args.length (fun i hi m' => by
        rw [hl] at hi
        rcases (show i = 0 ∨ i = 1 by omega) with rfl | rfl
        · rw [b0]
          rcases kd_keeps hX f (A.arg 0) s m' _ _ hn0 hs h0 hS with ⟨k, e⟩ | ⟨x, k, e, kx⟩
          · exact .inl ⟨k, e⟩
          · obtain ⟨g1, g2⟩ := ap_goes f _ _ _ x k hn0 hs e
            exact .inr ⟨x, k, e, g1, fun _ => ⟨kx, g2⟩, fun h => by omega⟩
        · rw [b1]
          have hsu : NodesS (underS s) := by have := hs.below A 1; rwa [b1] at this
          rcases kd_keeps hX f (A.arg 1) (underS s) m' _ _ hn1 hsu h1' (hS.under hX hs _) with ⟨k, e⟩ | ⟨x, k, e, kx⟩
          · exact .inl ⟨k, e⟩
          · exact .inr ⟨x, k, e, (ap_goes f _ _ _ x k hn1 hsu e).1, fun h => by omega, fun _ => kx⟩) with ⟨k, e⟩ | ⟨xs, k, e, hxl, hq⟩
      · rw [e]; exact .inl ⟨k, rfl⟩
      rw [e, R.bind_ok, if_neg (by omega)]
      have q0 := (hq 0 (by omega)).2.1 rfl
      have q1 := hq 1 (by omega)
      refine .inr ⟨_, k, rfl, .pi k1 q0.1 ?_⟩
      exact kd_conv _ q1.1 _ _ ((CtxJ.self G').ext (J.of q0.2)) (q1.2.2 rfl)
    | @fam _ _ K K1 k2 e0 sp =>
      have hb0 : ∀ i, below s A i = s := fun i => by unfold below; rw [bnd_zero (by omega) (by omega), if_neg (by decide)]
      have key : ∀ (l : List Tm) (T0 T1 : E), Spn X G l T0 T1 → ∀ i, i < l.length → ∃ B, Typ X G (l.getD i default) B := by
        intro l
        induction l with
        | nil => intro _ _ _ i hi; simp at hi
        | cons a l ihl =>
          intro T0 T1 hsp i hi
          cases hsp with
          | cons p t s' =>
            cases i with
            | zero => exact ⟨_, t⟩
            | succ i => exact ihl _ _ s' i (by simpa using hi)
      rcases seq_typed (g := fun i m' => ap f (A.arg i) (below s A i) m') (n := n + 1) (Q := fun i x => Goes1 X G G' (sg s) (A.arg i) x) A.args.length (fun i hi m' => by
        rw [hb0]
        obtain ⟨B, hB⟩ := key _ _ _ sp i hi
        have hB : Typ X G (A.arg i) B := hB
        rcases ap_keeps hX f (A.arg i) s m' _ _ _ (node_args hn i hi) hs hB hS with ⟨k, e⟩ | ⟨x, k, e, tx⟩
        · exact .inl ⟨k, e⟩
        · obtain ⟨g1, g2⟩ := ap_goes f _ _ _ x k (node_args hn i hi) hs e
          refine .inr ⟨x, k, e, g1, g2, fun A' hA' => ?_⟩
          rcases ap_keeps hX f (A.arg i) s m' _ _ _ (node_args hn i hi) hs hA' hS with ⟨k', e'⟩ | ⟨x', k', e', tx'⟩
          · rw [e] at e'; cases e'
          · rw [e] at e'; cases e'; exact tx') with ⟨k, e⟩ | ⟨xs, k, e, hxl, hq⟩
      · rw [e]; exact .inl ⟨k, rfl⟩
      rw [e, R.bind_ok, if_neg (by omega)]
      have hL2 : L2 (Goes1 X G G' (sg s)) A.args xs := L2.of _ _ hxl.symm fun i hi => hq i hi
      obtain ⟨T1', s', j'⟩ := spn_sub hL2 J.rfl sp
      rw [hX.fam _ _ e0] at s'
      exact .inr ⟨_, k, rfl, .fam k2 e0 s'⟩
end Go.Proofs.Ytmemmdfjlhamfaa
/- What the check tells, and what has which whatever is left to reduce: the one out of the other, without metas. -/
set_option linter.unusedVariables false
set_option linter.unusedSimpArgs false
namespace Go.Proofs.Ytmemmdfjlhamfaa
open E
/-- The entries' types, as they are read. -/
def ctxE (c : List Tm) : Gam := fun i => if i < c.length then some (em (varW c i).1) else none
theorem varW_nodes {c : List Tm} (hc : ∀ x ∈ c, nodesB x = true) {i : Int} (h0 : 0 ≤ i) (hi : i < c.length) : nodesB (varW c i).1 = true := by
  rw [varW_lt hi]
  refine up_nodes (hc _ ?_) (by omega) 0
  rw [List.getD_eq_getElem?_getD, List.getElem?_eq_getElem (by omega)]
  exact List.getElem_mem _
theorem ctxE_ext {c : List Tm} (hc : ∀ x ∈ c, nodesB x = true) {a : Tm} (ha : nodesB a = true) : ctxE (c ++ [a]) = ext (ctxE c) (em a) := by
  funext i
  cases i with
  | zero =>
    show (if 0 < (c ++ [a]).length then some (em (varW (c ++ [a]) ((0 : Nat) : Int)).1) else none) = some (E.ren Nat.succ (em a))
    rw [if_pos (by simp), show ((0 : Nat) : Int) = 0 from rfl, varW_zero]
    exact congrArg some (em_up a ha 0)
  | succ i =>
    show (if i + 1 < (c ++ [a]).length then some (em (varW (c ++ [a]) ((i + 1 : Nat) : Int)).1) else none) = (if i < c.length then some (em (varW c i).1) else none).map (E.ren Nat.succ)
    by_cases hi : i < c.length
    · rw [if_pos (by simp; omega), if_pos hi, show ((i + 1 : Nat) : Int) = (i : Int) + 1 by omega, varW_succ c a (by omega) (by omega)]
      exact congrArg some (em_up _ (varW_nodes hc (by omega) (by omega)) 0)
    · rw [if_neg (by simp; omega), if_neg hi]; rfl
/-- The types of declarations, as they are read. -/
def envE (w : Wd) : Env where
  con h := if h < w.sig.length ∧ kindAt w.sig h = false then some (em (w.sig.getD h default)) else none
  fam h := if h < w.sig.length ∧ kindAt w.sig h = true then some (em (w.sig.getD h default)) else none
  mts _ := none
theorem sub_scoped : ∀ (t : Tm), nodesB t = true → ∀ (n : Nat) (M : Int), scopedB t n M = true → ∀ σ : Nat → E, (∀ i, i < n → σ i = var i) → E.sub σ (em t) = em t := by
  refine Tm.ind fun t ih hn n M hs σ hσ => ?_
  rw [scoped_iff] at hs
  have h0 := node_head (node_here hn)
  by_cases h3 : t.kind = 3
  · have hl := lam_len hn h3
    rw [em_lam h3 (by omega)]
    simp only [E.sub]
    congr 1
    have := hs.2.2 0 (by omega)
    rw [lam_bnd hn h3] at this
    refine ih _ (arg_mem (by omega)) (node_args hn 0 (by omega)) (n + 1) M (by simpa using this) _ fun i hi => ?_
    cases i with
    | zero => rfl
    | succ i => simp only [ups]; rw [hσ i (by omega)]; rfl
  · rw [em_app h3, sub_apps]
    congr 1
    · unfold hd
      by_cases h4 : t.kind = 4
      · rw [if_pos h4]
        have := hs.1 h4
        exact hσ _ (by omega)
      · rw [if_neg h4]; rfl
    · unfold ems
      rw [List.map_map]
      refine List.map_congr_left fun i hi => ?_
      have hi : i < t.args.length := by simpa using hi
      have hsi := hs.2.2 i hi
      simp only [Function.comp_apply]
      unfold wrap
      have hbl := bnd_le t i
      by_cases hb : bnd t i = 1
      · rw [if_pos hb]
        simp only [E.sub]
        congr 1
        rw [hb] at hsi
        refine ih _ (arg_mem hi) (node_args hn i hi) (n + 1) M (by simpa using hsi) _ fun j hj => ?_
        cases j with
        | zero => rfl
        | succ j => simp only [ups]; rw [hσ j (by omega)]; rfl
      · rw [if_neg hb]
        rw [show bnd t i = 0 by omega, Int.natCast_zero, Int.add_zero] at hsi
        exact ih _ (arg_mem hi) (node_args hn i hi) n M hsi _ hσ
theorem closed_mem {w : Wd} (hw : Closed w) {h : Nat} (hh : h < w.sig.length) : mayB (w.sig.getD h default) = true ∧ scopedB (w.sig.getD h default) 0 0 = true := by
  have : w.sig.getD h default ∈ w.sig := by
    rw [List.getD_eq_getElem?_getD, List.getElem?_eq_getElem hh]
    exact List.getElem_mem _
  exact ⟨hw.may _ this, hw.scp _ this⟩
theorem envE_ok {w : Wd} (hw : Closed w) : EnvOk (envE w) := by
  refine ⟨fun h T e σ => ?_, fun h T e σ => ?_⟩
  all_goals
    simp only [envE] at e
    split at e
    · rename_i hh
      cases e
      obtain ⟨h1, h2⟩ := closed_mem hw hh.1
      exact sub_scoped _ (may_parts h1).1 0 0 h2 σ fun i hi => by omega
    · cases e
theorem smay_one {x : Tm} (h : mayB x = true) : smayB ⟨[x], 0⟩ = true := by
  unfold smayB
  rw [maysB_iff.2 (by simpa using h)]
  simp
/-- What Apply comes to is what is left of it. -/
theorem applyR_goes {t a : Tm} (ht : mayB t = true) (ha : mayB a = true) (h : (applyR t ⟨[a], 0⟩).2 = 0) : PS (E.sub (E.one (em a)) (em t)) (em (applyR t ⟨[a], 0⟩).1) := by
  unfold applyR at h ⊢
  rw [ht, smay_one ha, Bool.and_self, if_pos rfl] at h ⊢
  cases hx : ap 40000 t ⟨[a], 0⟩ 0 with
  | er e m =>
    rw [hx] at h
    have := ap_err _ _ _ _ _ _ hx
    simp only [outD] at h
    omega
  | ok u m =>
    rw [hx] at h
    simp only [outD] at h ⊢
    by_cases hm : mayB u = true
    · rw [if_pos hm]
      have := (ap_goes 40000 _ _ _ u m (may_parts ht).1 ⟨by simpa using (may_parts ha).1, by simp⟩ hx).2
      rwa [sg_one] at this
    · rw [if_neg hm] at h; cases h
theorem drop_arg {m : Tm} {i : Nat} (hi : i < m.args.length) : m.args.drop i = m.arg i :: m.args.drop (i + 1) := by
  rw [List.drop_eq_getElem_cons hi, arg_eq hi]
/-- A spine that was gone through. -/
theorem spW_spn {X : Env} {G : Gam} {m : Tm} (hm : mayB m = true) {T : Nat → Tm → Int} (hT : ∀ i, i < m.args.length → ∀ x A, mayB x = true → T i x = 0 → J A (em x) → Typ X G (m.arg i) A) : ∀ (k i : Nat) (t : Tm) (T0 : E), i + k = m.args.length → mayB t = true → J T0 (em t) → (spW T m.arg k i t).2 = 0 →
    ∃ T1, Spn X G (m.args.drop i) T0 T1 ∧ J T1 (em (spW T m.arg k i t).1)
  | 0, i, t, T0, hi, _, hj, _ => by
    rw [List.drop_eq_nil_of_le (by omega)]
    exact ⟨T0, .nil, hj⟩
  | k + 1, i, t, T0, hi, ht, hj, h => by
    obtain ⟨e1, e2, e3, e4⟩ := spW_ok h
    have hlt : i < m.args.length := by omega
    have hn := (may_parts ht).1
    have hl := pi_len hn e1
    have ha := may_sub (arg_mem hlt) hm
    rw [em_pi hn e1] at hj
    obtain ⟨A', B', p', jA, jB⟩ := J_to_pi hj.symm (.refl _)
    have m0 := may_sub (arg_mem (t := t) (i := 0) (by omega)) ht
    have m1 := may_sub (arg_mem (t := t) (i := 1) (by omega)) ht
    have hta := hT i hlt _ A' m0 e2 jA.symm
    have hap : PS (E.sub (E.one (em (m.arg i))) (em (t.arg 1))) (em (applyR (t.arg 1) ⟨[m.arg i], 0⟩).1) := applyR_goes m1 ha e3
    obtain ⟨T1, s', j'⟩ := spW_spn hm hT k (i + 1) _ (E.sub (E.one (em (m.arg i))) B') (by omega) (applyR_may _ _) ((jB.symm.sub _).trans (J.of hap)) (by rw [← e4]; exact h)
    rw [drop_arg hlt, e4]
    exact ⟨T1, .cons p' hta s', j'⟩
/-- What the check finds in order is so. -/
theorem term_typ {w : Wd} (hw : Closed w) : ∀ (m a : Tm) (c : List Tm) (A : E), mayB m = true → mayB a = true → (∀ x ∈ c, mayB x = true) → termW w m a c = 0 → J A (em a) → Typ (envE w) (ctxE c) m A := by
  refine Tm.ind fun m ih a c A hm ha hc h hj => ?_
  have hn := (may_parts hm).1
  have hna := (may_parts ha).1
  have hcn : ∀ x ∈ c, nodesB x = true := fun x hx => (may_parts (hc x hx)).1
  by_cases h3 : m.kind = 3
  · have hl := lam_len hn h3
    rw [term_lam h3] at h
    by_cases ha1 : a.kind = 1
    · have hl2 := pi_len hna ha1
      rw [if_pos ha1, argW_lt (by omega)] at h
      have ma0 := may_sub (arg_mem (t := a) (i := 0) (by omega)) ha
      have ma1 := may_sub (arg_mem (t := a) (i := 1) (by omega)) ha
      have := ih _ (arg_mem (by omega)) (a.arg 1) (c ++ [a.arg 0]) (em (a.arg 1)) (may_sub (arg_mem (by omega)) hm) ma1 (fun x hx => by
        rcases List.mem_append.1 hx with hx | hx
        · exact hc x hx
        · obtain rfl : x = a.arg 0 := by simpa using hx
          exact ma0) h J.rfl
      rw [ctxE_ext hcn (may_parts ma0).1] at this
      have ht : Typ (envE w) (ctxE c) m (em a) := .lam h3 (by rw [em_pi hna ha1]; exact .refl _) this
      exact typ_to hn ht hj.symm
    · rw [if_neg ha1] at h; cases h
  · obtain ⟨ha2, e⟩ := term_ok h3 h
    have e0 : (cmW w c (fun i x => argW w m i x c) m).2 = 0 := by rw [e]
    have h0 := node_head (node_here hn)
    have hfam : IsFam A := (em_fam ha2).conv hj.symm
    have hT : ∀ i, i < m.args.length → ∀ x B, mayB x = true → argW w m i x c = 0 → J B (em x) → Typ (envE w) (ctxE c) (m.arg i) B := fun i hi x B hx hax hb => by
      rw [argW_lt hi] at hax
      exact ih _ (arg_mem hi) x c B (may_sub (arg_mem hi) hm) hx hc hax hb
    rcases cm_kind e0 with k4 | k5 | k6
    · rw [cm_var k4] at e e0
      obtain ⟨q1, q2⟩ := spD_ok e0
      obtain ⟨v1, v2⟩ := varW_ok q1
      rw [q2] at e e0
      have hmv : mayB (varW c m.head).1 = true := by
        rw [v2]
        refine up_may (hc _ ?_) (by omega) 0
        rw [List.getD_eq_getElem?_getD, List.getElem?_eq_getElem (by omega)]
        exact List.getElem_mem _
      obtain ⟨T1, s, j⟩ := spW_spn hm hT m.args.length 0 _ _ (by omega) hmv J.rfl e0
      rw [List.drop_zero] at s
      rw [e] at j
      have hg : ctxE c m.head.toNat = some (em (varW c m.head).1) := by
        unfold ctxE
        rw [if_pos (by omega), Int.toNat_of_nonneg h0]
      exact .var k4 hg s (j.trans hj.symm) hfam
    · rw [cm_const k5] at e e0
      obtain ⟨q1, q2⟩ := spD_ok e0
      obtain ⟨v1, v2, v3⟩ := declW_ok q1
      rw [q2] at e e0
      have hcm := closed_mem hw (h := m.head.toNat) (by omega)
      have hd1 : (declW w m.head false).1 = w.sig.getD m.head.toNat default := by rw [v3]
      rw [hd1] at e e0
      obtain ⟨T1, s, j⟩ := spW_spn hm hT m.args.length 0 _ _ (by omega) hcm.1 J.rfl e0
      rw [List.drop_zero] at s
      rw [e] at j
      have hg : (envE w).con m.head.toNat = some (em (w.sig.getD m.head.toNat default)) := if_pos ⟨by omega, v2⟩
      exact .con k5 hg s (j.trans hj.symm) hfam
    · rw [cm_meta k6] at e0
      have := (metaW_ok e0).1
      rw [hw.metas] at this
      simp at this; omega
theorem typ_kd {w : Wd} (hw : Closed w) : ∀ (a : Tm) (c : List Tm), mayB a = true → (∀ x ∈ c, mayB x = true) → typW w a c = 0 → Kd (envE w) (ctxE c) a := by
  refine Tm.ind fun a ih c ha hc h => ?_
  have hn := (may_parts ha).1
  have hcn : ∀ x ∈ c, nodesB x = true := fun x hx => (may_parts (hc x hx)).1
  by_cases h1 : a.kind = 1
  · have hl := pi_len hn h1
    rw [typW_pi w h1 (by omega)] at h
    by_cases e : typW w (a.arg 0) c ≠ 0
    · rw [if_pos e] at h; exact absurd h e
    rw [if_neg e] at h
    have ma0 := may_sub (arg_mem (t := a) (i := 0) (by omega)) ha
    have k1 := ih _ (arg_mem (by omega)) (c ++ [a.arg 0]) (may_sub (arg_mem (by omega)) ha) (fun x hx => by
        rcases List.mem_append.1 hx with hx | hx
        · exact hc x hx
        · obtain rfl : x = a.arg 0 := by simpa using hx
          exact ma0) h
    rw [ctxE_ext hcn (may_parts ma0).1] at k1
    exact .pi h1 (ih _ (arg_mem (by omega)) c ma0 hc (Classical.not_not.1 e)) k1
  · by_cases h2 : a.kind = 2
    · rw [typW_fam w h2] at h
      obtain ⟨e1, e2, e3⟩ := famW_ok h
      obtain ⟨v1, v2, v3⟩ := declW_ok e1
      have h0 := node_head (node_here hn)
      have hcm := closed_mem hw (h := a.head.toNat) (by omega)
      have hd1 : (declW w a.head true).1 = w.sig.getD a.head.toNat default := by rw [v3]
      rw [hd1] at e2
      obtain ⟨T1, s, j⟩ := spW_spn (X := envE w) (G := ctxE c) ha (fun i hi x B hx hax hb => by
        simp only [argW_lt hi] at hax
        exact term_typ hw _ x c B (may_sub (arg_mem hi) ha) hx hc hax hb) a.args.length 0 _ _ (by omega) hcm.1 J.rfl e2
      rw [List.drop_zero] at s
      have hg : (envE w).fam a.head.toNat = some (em (w.sig.getD a.head.toNat default)) := if_pos ⟨by omega, v2⟩
      exact .fam h2 hg s
    · rw [typW_no w h1 h2] at h; cases h
theorem kind_kd {w : Wd} (hw : Closed w) : ∀ (a : Tm) (c : List Tm), mayB a = true → (∀ x ∈ c, mayB x = true) → kindW w a c = 0 → Kd (envE w) (ctxE c) a := by
  refine Tm.ind fun a ih c ha hc h => ?_
  have hn := (may_parts ha).1
  have hcn : ∀ x ∈ c, nodesB x = true := fun x hx => (may_parts (hc x hx)).1
  by_cases h0 : a.kind = 0
  · exact .sort h0
  by_cases h1 : a.kind = 1
  · have hl := pi_len hn h1
    rw [kindW_pi w h1 (by omega)] at h
    by_cases e : typW w (a.arg 0) c ≠ 0
    · rw [if_pos e] at h; exact absurd h e
    rw [if_neg e] at h
    have ma0 := may_sub (arg_mem (t := a) (i := 0) (by omega)) ha
    have k1 := ih _ (arg_mem (by omega)) (c ++ [a.arg 0]) (may_sub (arg_mem (by omega)) ha) (fun x hx => by
        rcases List.mem_append.1 hx with hx | hx
        · exact hc x hx
        · obtain rfl : x = a.arg 0 := by simpa using hx
          exact ma0) h
    rw [ctxE_ext hcn (may_parts ma0).1] at k1
    exact .pi h1 (typ_kd hw _ c ma0 hc (Classical.not_not.1 e)) k1
  · rw [kindW_no w h0 h1] at h; cases h
end Go.Proofs.Ytmemmdfjlhamfaa
/- With a term of its type for the last variable a term has what its type is then, if nothing is too great. -/
set_option linter.unusedVariables false
set_option linter.unusedSimpArgs false
namespace Go.Proofs.Ytmemmdfjlhamfaa
open E
/-- A context in order. -/
structure CG (w : Wd) (c : List Tm) : Prop where
  may : ∀ x ∈ c, mayB x = true
  kd : ∀ i : Nat, i < c.length → Kd (envE w) (ctxE c) (varW c i).1
theorem CG.nodes {w : Wd} {c : List Tm} (h : CG w c) : ∀ x ∈ c, nodesB x = true := fun x hx => (may_parts (h.may x hx)).1
theorem CG.nil (w : Wd) : CG w [] := ⟨fun x hx => (by simp at hx), fun i hi => (by simp at hi)⟩
theorem CG.more {w : Wd} (hw : Closed w) {c : List Tm} (h : CG w c) {a : Tm} (ha : mayB a = true) (k : Kd (envE w) (ctxE c) a) : CG w (c ++ [a]) := by
  have hX := envE_ok hw
  have hna := (may_parts ha).1
  refine ⟨fun x hx => ?_, fun i hi => ?_⟩
  · rcases List.mem_append.1 hx with hx | hx
    · exact h.may x hx
    · obtain rfl : x = a := by simpa using hx
      exact ha
  · rw [ctxE_ext h.nodes hna]
    simp at hi
    cases i with
    | zero =>
      rw [show ((0 : Nat) : Int) = 0 from rfl, varW_zero]
      exact kd_wk hX a hna _ _ 0 (wkG_new _ _) k
    | succ i =>
      rw [show ((i + 1 : Nat) : Int) = (i : Int) + 1 by omega, varW_succ c a (by omega) (by omega)]
      exact kd_wk hX _ (varW_nodes h.nodes (by omega) (by omega)) _ _ 0 (wkG_new _ _) (h.kd i (by omega))
theorem applyR_kd {X : Env} (hX : EnvOk X) {G : Gam} {t a : Tm} {A : E} (ht : mayB t = true) (ha : mayB a = true) (hk : Kd X (ext G A) t) (hta : Typ X G a A) : (applyR t ⟨[a], 0⟩).2 = 4 ∨ (applyR t ⟨[a], 0⟩).2 = 0 ∧ Kd X G (applyR t ⟨[a], 0⟩).1 := by
  unfold applyR
  rw [ht, smay_one ha, Bool.and_self, if_pos rfl]
  rcases kd_keeps hX 40000 t ⟨[a], 0⟩ 0 _ _ (may_parts ht).1 ⟨by simpa using (may_parts ha).1, by simp⟩ hk (TySub.one hta) with ⟨k, e⟩ | ⟨u, k, e, ku⟩
  · rw [e]; exact .inl rfl
  · rw [e]
    simp only [outD]
    by_cases hm : mayB u = true
    · rw [if_pos hm]; exact .inr ⟨rfl, ku⟩
    · rw [if_neg hm]; exact .inl rfl
theorem applyR_typ {X : Env} (hX : EnvOk X) {G : Gam} {t a : Tm} {A T : E} (ht : mayB t = true) (ha : mayB a = true) (hk : Typ X (ext G A) t T) (hta : Typ X G a A) : (applyR t ⟨[a], 0⟩).2 = 4 ∨ (applyR t ⟨[a], 0⟩).2 = 0 ∧ Typ X G (applyR t ⟨[a], 0⟩).1 (E.sub (E.one (em a)) T) := by
  unfold applyR
  rw [ht, smay_one ha, Bool.and_self, if_pos rfl]
  rcases ap_keeps hX 40000 t ⟨[a], 0⟩ 0 _ _ _ (may_parts ht).1 ⟨by simpa using (may_parts ha).1, by simp⟩ hk (TySub.one hta) with ⟨k, e⟩ | ⟨u, k, e, ku⟩
  · rw [e]; exact .inl rfl
  · rw [e]
    simp only [outD]
    rw [sg_one] at ku
    by_cases hm : mayB u = true
    · rw [if_pos hm]; exact .inr ⟨rfl, ku⟩
    · rw [if_neg hm]; exact .inl rfl
theorem spn_spW {X : Env} (hX : EnvOk X) {G : Gam} {m : Tm} (hm : mayB m = true) {T : Nat → Tm → Int} (hT : ∀ i, i < m.args.length → ∀ x A, mayB x = true → Kd X G x → Typ X G (m.arg i) A → J A (em x) → T i x = 0 ∨ T i x = 4) : ∀ (k i : Nat) (t : Tm) (T0 T1 : E), i + k = m.args.length → mayB t = true → Kd X G t → J T0 (em t) → Spn X G (m.args.drop i) T0 T1 →
    (spW T m.arg k i t).2 = 4 ∨ (spW T m.arg k i t).2 = 0 ∧ J T1 (em (spW T m.arg k i t).1)
  | 0, i, t, T0, T1, hi, _, _, hj, hs => by
    rw [List.drop_eq_nil_of_le (by omega)] at hs
    cases hs
    exact .inr ⟨rfl, hj⟩
  | k + 1, i, t, T0, T1, hi, ht, hk, hj, hs => by
    have hlt : i < m.args.length := by omega
    have hn := (may_parts ht).1
    have ha := may_sub (arg_mem hlt) hm
    rw [drop_arg hlt] at hs
    cases hs with
    | cons p ta s =>
      obtain ⟨k1, jA, jB⟩ := em_to_pi hn hj p
      have hl := pi_len hn k1
      have m0 := may_sub (arg_mem (t := t) (i := 0) (by omega)) ht
      have m1 := may_sub (arg_mem (t := t) (i := 1) (by omega)) ht
      have hkk : Kd X G (t.arg 0) ∧ Kd X (ext G (em (t.arg 0))) (t.arg 1) := by
        cases hk with
        | sort k0 => omega
        | pi _ h0 h1 => exact ⟨h0, h1⟩
        | fam k2 => omega
      have hta := typ_to (may_parts ha).1 ta jA
      simp only [spW]
      rw [if_neg (by simpa using k1)]
      rcases hT i hlt _ _ m0 hkk.1 ta jA with e | e
      · rw [if_neg (by simpa using e)]
        rcases applyR_kd hX m1 ha hkk.2 hta with e2 | ⟨e2, ku⟩
        · rw [if_pos (by rw [e2]; decide), e2]; exact .inl rfl
        · rw [if_neg (by simpa using e2)]
          have hap := applyR_goes m1 ha e2
          exact spn_spW hX hm hT k (i + 1) _ _ T1 (by omega) (applyR_may _ _) ku ((jB.sub _).trans (J.of hap)) s
      · rw [if_pos (by rw [e]; decide), e]; exact .inl rfl
theorem cm_end {w : Wd} {m a : Tm} {c : List Tm} {T1 T : E} {r : Tm × Int} (h3 : m.kind ≠ 3) (ha2 : a.kind = 2) (ha : mayB a = true) (hr : cmW w c (fun i x => argW w m i x c) m = r) (hrm : mayB r.1 = true) (hj : J T (em a)) (j : J T1 T) (h : r.2 = 4 ∨ r.2 = 0 ∧ J T1 (em r.1)) : termW w m a c = 0 ∨ termW w m a c = 4 := by
  rw [termW_eq]
  unfold termB
  rw [if_neg h3, if_neg (by simpa using ha2), hr]
  rcases h with e | ⟨e, j1⟩
  · rw [if_pos (by rw [e]; decide), e]; exact .inr rfl
  · rw [if_neg (by simpa using e)]
    have := em_same (may_parts hrm).1 (may_parts ha).1 (j1.symm.trans (j.trans hj))
    rw [this, sameB_refl]
    exact .inl rfl
/-- What is so the check finds in order, if nothing is too great. -/
theorem typ_term {w : Wd} (hw : Closed w) (hsk : ∀ h, h < w.sig.length → ∀ G, Kd (envE w) G (w.sig.getD h default)) : ∀ (m a : Tm) (c : List Tm) (T : E), mayB m = true → mayB a = true → CG w c → Kd (envE w) (ctxE c) a → Typ (envE w) (ctxE c) m T → J T (em a) → termW w m a c = 0 ∨ termW w m a c = 4 := by
  refine Tm.ind fun m ih a c T hm ha hc hk ht hj => ?_
  have hX := envE_ok hw
  have hn := (may_parts hm).1
  have hna := (may_parts ha).1
  have h0 := node_head (node_here hn)
  have hT : ∀ i, i < m.args.length → ∀ x A, mayB x = true → Kd (envE w) (ctxE c) x → Typ (envE w) (ctxE c) (m.arg i) A → J A (em x) → argW w m i x c = 0 ∨ argW w m i x c = 4 := fun i hi x A hx hkx hta hjx => by
    rw [argW_lt hi]
    exact ih _ (arg_mem hi) x c A (may_sub (arg_mem hi) hm) hx hc hkx hta hjx
  cases ht with
  | lam k3 p t =>
    obtain ⟨k1, jA, jB⟩ := em_to_pi hna hj p
    have hl := lam_len hn k3
    have hl2 := pi_len hna k1
    have ma0 := may_sub (arg_mem (t := a) (i := 0) (by omega)) ha
    have ma1 := may_sub (arg_mem (t := a) (i := 1) (by omega)) ha
    have hkk : Kd (envE w) (ctxE c) (a.arg 0) ∧ Kd (envE w) (ext (ctxE c) (em (a.arg 0))) (a.arg 1) := by
      cases hk with
      | sort k0 => omega
      | pi _ h0 h1 => exact ⟨h0, h1⟩
      | fam k2 => omega
    rw [term_lam k3, if_pos k1, argW_lt (by omega)]
    have he := ctxE_ext hc.nodes (may_parts ma0).1
    refine ih _ (arg_mem (by omega)) _ _ _ (may_sub (arg_mem (by omega)) hm) ma1 (hc.more hw ma0 hkk.1) (by rw [he]; exact hkk.2) ?_ jB
    rw [he]
    exact typ_conv _ (node_args hn 0 (by omega)) _ _ _ _ ((CtxJ.self _).ext jA) J.rfl t
  | var k4 e s j f =>
    have ha2 := em_to_fam hna hj f
    unfold ctxE at e
    split at e
    case isFalse => cases e
    rename_i hlt
    cases e
    rw [Int.toNat_of_nonneg h0] at s
    have hl : m.head < c.length := by omega
    have hv : varW c m.head = ((varW c m.head).1, 0) := by rw [varW_lt hl]
    have hmv : mayB (varW c m.head).1 = true := by
      rw [varW_lt hl]
      refine up_may (hc.may _ ?_) (by omega) 0
      rw [List.getD_eq_getElem?_getD, List.getElem?_eq_getElem (by omega)]
      exact List.getElem_mem _
    have hkv := hc.kd m.head.toNat hlt
    rw [Int.toNat_of_nonneg h0] at hkv
    refine cm_end (by omega) ha2 ha (by rw [cm_var k4, spD_go (by rw [hv])]) (spW_may _ _ _ hmv) hj j ?_
    exact spn_spW hX hm hT m.args.length 0 _ _ _ (by omega) hmv hkv J.rfl (by rw [List.drop_zero]; exact s)
  | con k5 e s j f =>
    have ha2 := em_to_fam hna hj f
    simp only [envE] at e
    split at e
    case isFalse => cases e
    rename_i hlt
    cases e
    have hd := declW_go (w := w) (h := m.head) (kind := false) (by omega) hlt.2
    have hcm := closed_mem hw hlt.1
    refine cm_end (by omega) ha2 ha (by rw [cm_const k5, spD_go (by rw [hd]), hd]) (spW_may _ _ _ hcm.1) hj j ?_
    exact spn_spW hX hm hT m.args.length 0 _ _ _ (by omega) hcm.1 (hsk _ hlt.1 _) J.rfl (by rw [List.drop_zero]; exact s)
  | mt k6 e => simp [envE] at e
end Go.Proofs.Ytmemmdfjlhamfaa
/- Law of layer 10: CheckSubst. -/
set_option linter.unusedSimpArgs false
set_option linter.unusedVariables false
set_option maxRecDepth 100000
namespace Go.Proofs.Ytmemmdfjlhamfaa
open Go.Proofs
theorem ext_take (sg : List Dc) (i : Nat) : Ext (Wo.wd ⟨sg.take i, [], []⟩) (Wo.wd ⟨sg, [], []⟩) := by
  refine ⟨by simp [Wo.wd]; omega, fun j hj => ?_, by simp [Wo.wd], fun j hj => by simp [Wo.wd] at hj⟩
  simp only [Wo.wd, List.length_map, List.length_take] at hj
  simp only [Wo.wd]
  rw [getD_sig (by omega), getD_sig (by simp; omega)]
  congr 1
  simp only [Dcs.at, List.getD_eq_getElem?_getD]
  rw [List.getElem?_take, if_pos (by omega)]
theorem sig_kd {sg : List Dc} {cx : List Tm} (h : goodB sg cx = true) : ∀ k, k < (Wo.wd ⟨sg, [], []⟩).sig.length → ∀ G, Kd (envE (Wo.wd ⟨sg, [], []⟩)) G ((Wo.wd ⟨sg, [], []⟩).sig.getD k default) := by
  intro k hk G
  have hcl : Closed (Wo.wd ⟨sg, [], []⟩) := good_closed (cx' := []) h
  have hlt : k < sg.length := by simpa [Wo.wd] using hk
  have hs := (allB_iff _ _).1 ((Bool.and_eq_true _ _ ▸ h : _ ∧ _).1) k hlt
  have hgd : (Wo.wd ⟨sg, [], []⟩).sig.getD k default = (Dcs.at sg k).t := getD_sig hlt
  have hm := (sigB_closed hs).1
  rw [hgd]
  have hk0 : Kd (envE (Wo.wd ⟨sg, [], []⟩)) (ctxE []) (Dcs.at sg k).t := by
    unfold sigB at hs
    rw [Bool.or_eq_true, beq_iff_eq, beq_iff_eq] at hs
    rcases hs with hs | hs
    · exact typ_kd hcl _ [] hm (by simp) (typ_ext (ext_take sg k) _ [] [] (may_parts hm).1 (Front.self []) (.inl rfl) (TypR_ok hs).2)
    · exact kind_kd hcl _ [] hm (by simp) (kind_ext (ext_take sg k) _ [] [] (may_parts hm).1 (Front.self []) (.inl rfl) (KindR_ok hs).2)
  refine kd_conv _ (may_parts hm).1 _ _ (fun i A hA => ?_) hk0
  simp [ctxE] at hA
theorem take_succD {cx : List Tm} {i : Nat} (hi : i < cx.length) : cx.take (i + 1) = cx.take i ++ [cx.getD i default] := by
  rw [List.take_add_one, List.getElem?_eq_getElem hi, List.getD_eq_getElem?_getD, List.getElem?_eq_getElem hi]
  rfl
theorem ctx_cg {sg : List Dc} {cx : List Tm} (h : goodB sg cx = true) : ∀ i, i ≤ cx.length → CG (Wo.wd ⟨sg, [], []⟩) (cx.take i)
  | 0, _ => by rw [List.take_zero]; exact CG.nil _
  | i + 1, hi => by
    have hcl : Closed (Wo.wd ⟨sg, [], []⟩) := good_closed (cx' := []) h
    have ih := ctx_cg h i (by omega)
    have hb := (allB_iff _ _).1 ((Bool.and_eq_true _ _ ▸ h : _ ∧ _).2) i (by omega)
    unfold ctxB at hb
    rw [beq_iff_eq] at hb
    obtain ⟨h1, h2⟩ := TypR_ok hb
    have hm := mayW_of h1 _ (List.mem_singleton.2 rfl)
    rw [take_succD (by omega)]
    exact ih.more hcl hm (typ_kd hcl _ _ hm ih.may h2)
theorem subst_plain {sg : List Dc} {cx : List Tm} {m a n : Tm} {k : Nat} (h : goodB sg cx = true) (hk : cx.length = k + 1) (h1 : TypR (Wo.wd ⟨sg, [], []⟩) cx a = 0) (h2 : TermR (Wo.wd ⟨sg, [], []⟩) cx m a = 0) (h3 : TermR (Wo.wd ⟨sg, [], []⟩) (cx.take k) n (cx.getD k default) = 0) :
    ((applyR m ⟨[n], 0⟩).2 = 4 ∨ (applyR m ⟨[n], 0⟩).2 = 0) ∧ ((applyR a ⟨[n], 0⟩).2 = 4 ∨ (applyR a ⟨[n], 0⟩).2 = 0) ∧
    ((applyR m ⟨[n], 0⟩).2 = 0 → (applyR a ⟨[n], 0⟩).2 = 0 → TermR (Wo.wd ⟨sg, [], []⟩) (cx.take k) (applyR m ⟨[n], 0⟩).1 (applyR a ⟨[n], 0⟩).1 = 0 ∨ TermR (Wo.wd ⟨sg, [], []⟩) (cx.take k) (applyR m ⟨[n], 0⟩).1 (applyR a ⟨[n], 0⟩).1 = 4 ∨ TermR (Wo.wd ⟨sg, [], []⟩) (cx.take k) (applyR m ⟨[n], 0⟩).1 (applyR a ⟨[n], 0⟩).1 = 1) := by
  have hcl : Closed (Wo.wd ⟨sg, [], []⟩) := good_closed (cx' := []) h
  have hX := envE_ok hcl
  obtain ⟨p1, q1⟩ := TypR_ok h1
  obtain ⟨p2, q2⟩ := TermR_ok h2
  obtain ⟨p3, q3⟩ := TermR_ok h3
  have mm := mayW_of p2 m (by simp)
  have ma := mayW_of p2 a (by simp)
  have mn := mayW_of p3 n (by simp)
  have mB := mayW_of p3 (cx.getD k default) (List.mem_cons_of_mem _ (List.mem_singleton.2 rfl))
  have hcg := ctx_cg h k (by omega)
  have hall := ctx_cg h cx.length (Nat.le_refl _)
  rw [List.take_length] at hall
  have hcx : cx = cx.take k ++ [cx.getD k default] := by
    rw [← take_succD (by omega), ← hk, List.take_length]
  have hE : ctxE cx = Go.Proofs.Ytmemmdfjlhamfaa.ext (ctxE (cx.take k)) (em (cx.getD k default)) := by
    conv => lhs; rw [hcx]
    exact ctxE_ext hcg.nodes (may_parts mB).1
  have tm := term_typ hcl m a cx (em a) mm ma hall.may q2 J.rfl
  have ta := typ_kd hcl a cx ma hall.may q1
  have tn := term_typ hcl n (cx.getD k default) (cx.take k) (em (cx.getD k default)) mn mB hcg.may q3 J.rfl
  rw [hE] at tm ta
  have r1 := applyR_typ hX mm mn tm tn
  have r2 := applyR_kd hX ma mn ta tn
  refine ⟨r1.imp id (fun e => e.1), r2.imp id (fun e => e.1), fun e1 e2 => ?_⟩
  have r1 := (r1.resolve_left (by rw [e1]; decide)).2
  have r2 := (r2.resolve_left (by rw [e2]; decide)).2
  have hj := applyR_goes ma mn e2
  unfold TermR
  cases hmw : mayW (Wo.wd ⟨sg, [], []⟩) (cx.take k) [(applyR m ⟨[n], 0⟩).1, (applyR a ⟨[n], 0⟩).1]
  · exact .inr (.inr rfl)
  · rw [if_pos rfl]
    rcases typ_term hcl (sig_kd h) _ _ (cx.take k) _ (applyR_may m _) (applyR_may a _) hcg r2 r1 (J.of hj) with e | e
    · exact .inl e
    · exact .inr (.inl e)
set_option maxHeartbeats 16000000 in
theorem checkSubst_holds (sg : List Dc) (wsg : ∀ t ∈ sg, Wf t.t) (hsg : dsum sg + 1 ≤ 1048576) (cx : List Tm) (wcx : ∀ t ∈ cx, Wf t) (hcx : (cx.map Tm.size).sum + 1 ≤ 1048576)
    (m : Tm) (wm : Wf m) (hm : m.size ≤ 1048576) (a : Tm) (wa : Wf a) (ha : a.size ≤ 1048576) (n : Tm) (wn : Wf n) (hn : n.size ≤ 1048576) : ∃ h, (lim C).call 16 [dDs sg, dL cx, dT m, dT a, dT n] [] = some (.ret (dB true), h) := by
  have hr : room = 1099511627776 := rfl
  have htv : topV = 1125899906842624 := rfl
  have hA := awake10_spec
  have hw := wsz_of (ms := []) hsg (by simp [msum]) hcx
  have hF := fewW_spec ⟨sg, [], cx⟩ hw
  have hF : (lim C).call 37 [dDs sg, .d (.slc []), dL cx] [] = _ := hF
  have hG := good_spec sg cx hw
  have zm := size_room hm
  have za := size_room ha
  have zn := size_room hn
  have hp := light_spec m 300 40 zm
  have hq := light_spec a 300 40 za
  have hs := light_spec n 300 40 zn
  have hem := (enc_eq m).symm
  have hea := (enc_eq a).symm
  have hen := (enc_eq n).symm
  refine ⟨[], ?_⟩
  rw [ev_fn 16 Try.f16 _ _ _ rfl Try.func16 rfl Try.ntmps16 rfl]
  cases k1 : fewW ⟨sg, [], cx⟩
  · simp -implicitDefEqProofs (disch := decide +kernel) only [go_sem, ↓reduceIte, Nat.reduceSub, Nat.reduceAdd, Nat.reduceMul, Nat.reduceBEq, Nat.reduceLT, Nat.reduceLeDiff, Nat.reduceEqDiff, reduceCtorEq, Int.reduceToNat, Int.reduceLE, Int.reduceLT, Int.reduceBEq, Int.reduceBNe, mCall, hA, hF, hp, hq, hs, cells_enc, cel3, hem, hea, hen, k1]
  · skip
    cases k2 : lightB m 300 40
    · simp -implicitDefEqProofs (disch := decide +kernel) only [go_sem, ↓reduceIte, Nat.reduceSub, Nat.reduceAdd, Nat.reduceMul, Nat.reduceBEq, Nat.reduceLT, Nat.reduceLeDiff, Nat.reduceEqDiff, reduceCtorEq, Int.reduceToNat, Int.reduceLE, Int.reduceLT, Int.reduceBEq, Int.reduceBNe, mCall, hA, hF, hp, hq, hs, cells_enc, cel3, hem, hea, hen, k1, k2]
    · skip
      cases k3 : lightB a 300 40
      · simp -implicitDefEqProofs (disch := decide +kernel) only [go_sem, ↓reduceIte, Nat.reduceSub, Nat.reduceAdd, Nat.reduceMul, Nat.reduceBEq, Nat.reduceLT, Nat.reduceLeDiff, Nat.reduceEqDiff, reduceCtorEq, Int.reduceToNat, Int.reduceLE, Int.reduceLT, Int.reduceBEq, Int.reduceBNe, mCall, hA, hF, hp, hq, hs, cells_enc, cel3, hem, hea, hen, k1, k2, k3]
      · skip
        cases k4 : lightB n 300 40
        · simp -implicitDefEqProofs (disch := decide +kernel) only [go_sem, ↓reduceIte, Nat.reduceSub, Nat.reduceAdd, Nat.reduceMul, Nat.reduceBEq, Nat.reduceLT, Nat.reduceLeDiff, Nat.reduceEqDiff, reduceCtorEq, Int.reduceToNat, Int.reduceLE, Int.reduceLT, Int.reduceBEq, Int.reduceBNe, mCall, hA, hF, hp, hq, hs, cells_enc, cel3, hem, hea, hen, k1, k2, k3, k4]
        · skip
          cases k5 : ((cx.length : Int) == 0)
          rotate_left
          · simp -implicitDefEqProofs (disch := decide +kernel) only [go_sem, ↓reduceIte, Nat.reduceSub, Nat.reduceAdd, Nat.reduceMul, Nat.reduceBEq, Nat.reduceLT, Nat.reduceLeDiff, Nat.reduceEqDiff, reduceCtorEq, Int.reduceToNat, Int.reduceLE, Int.reduceLT, Int.reduceBEq, Int.reduceBNe, mCall, hA, hF, hp, hq, hs, cells_enc, cel3, hem, hea, hen, k1, k2, k3, k4, k5]
          have hin := few_in hw k1
          obtain ⟨_, _, hcl, _⟩ := fewW_parts k1
          have hcl : cx.length ≤ 60 := hcl
          have va := light_vle k3
          have vm := light_vle k2
          have vn := light_vle k4
          have hpos : 0 < cx.length := by
            rcases Nat.eq_zero_or_pos cx.length with h | h
            · rw [h] at k5; cases k5
            · exact h
          obtain ⟨k, hk⟩ : ∃ k, cx.length = k + 1 := ⟨cx.length - 1, by omega⟩
          have hw1 : IntKind.wrap .i64 ((cx.length : Int) - 1) = (k : Int) := by rw [wrap_ok (by omega) (by omega)]; omega
          have hle : k ≤ cx.length := by omega
          have hgk := getD_get (a := cx) (i := k) (by omega)
          have hwd : Wo.wd ⟨sg, [], cx⟩ = Wo.wd ⟨sg, [], []⟩ := rfl
          obtain ⟨h1, c1⟩ := cType_spec hin a za
          have c1 : (lim C).call 40 [dDs sg, .d (.slc []), dL cx, dT a] [] = some (.ret (dI (TypR (Wo.wd ⟨sg, [], []⟩) cx a)), h1) := c1
          obtain ⟨h2, c2⟩ := cTerm_spec hin m a zm za va
          have c2 : (lim C).call 38 [dDs sg, .d (.slc []), dL cx, dT m, dT a] [] = some (.ret (dI (TermR (Wo.wd ⟨sg, [], []⟩) cx m a)), h2) := c2
          have hin2 := hin.cons (c := cx.take k) (fun x hx => ⟨hw.cz x (List.mem_of_mem_take hx), hin.ctx x (List.mem_of_mem_take hx)⟩) (by simp; omega)
          have hBm := getD_mem (a := cx) (i := k) (by omega)
          obtain ⟨h3, c3⟩ := cTerm_spec hin2 n (cx.getD k default) zn (hw.cz _ hBm) (hin.ctx _ hBm)
          have c3 : (lim C).call 38 [dDs sg, .d (.slc []), .d (.slc (encs (cx.take k))), dT n, dT (cx.getD k default)] [] = some (.ret (dI (TermR (Wo.wd ⟨sg, [], []⟩) (cx.take k) n (cx.getD k default))), h3) := c3
          rw [encs_take] at c3
          obtain ⟨h4, a1⟩ := sapply_spec m ⟨[n], 0⟩ zm (by simpa using zn) (by simp; omega) (vle_mono (by rw [htv]; decide) vm) (by simpa using vle_mono (by rw [htv]; decide) vn)
          obtain ⟨h5, a2⟩ := sapply_spec a ⟨[n], 0⟩ za (by simpa using zn) (by simp; omega) (vle_mono (by rw [htv]; decide) va) (by simpa using vle_mono (by rw [htv]; decide) vn)
          have hsb : Dv.agg [.slc [enc n], .int .i64 0] = encS ⟨[n], 0⟩ := rfl
          cases k6 : goodB sg cx
          · rw [k6] at hG
            simp -implicitDefEqProofs (disch := decide +kernel) only [go_sem, ↓reduceIte, Nat.reduceSub, Nat.reduceAdd, Nat.reduceMul, Nat.reduceBEq, Nat.reduceLT, Nat.reduceLeDiff, Nat.reduceEqDiff, reduceCtorEq, Int.reduceToNat, Int.reduceLE, Int.reduceLT, Int.reduceBEq, Int.reduceBNe, mCall, hA, hF, hG, hp, hq, hs, cells_enc, cel3, hem, hea, hen, k1, k2, k3, k4, k5, hw1]
          · rw [k6] at hG
            by_cases e1 : TypR (Wo.wd ⟨sg, [], []⟩) cx a = 0
            case neg =>
              have e1' : (TypR (Wo.wd ⟨sg, [], []⟩) cx a != 0) = true := by simpa using e1
              simp -implicitDefEqProofs (disch := decide +kernel) only [go_sem, ↓reduceIte, Nat.reduceSub, Nat.reduceAdd, Nat.reduceMul, Nat.reduceBEq, Nat.reduceLT, Nat.reduceLeDiff, Nat.reduceEqDiff, reduceCtorEq, Int.reduceToNat, Int.reduceLE, Int.reduceLT, Int.reduceBEq, Int.reduceBNe, mCall, hA, hF, hG, hp, hq, hs, cells_enc, cel3, hem, hea, hen, k1, k2, k3, k4, k5, hw1, c1, e1']
            by_cases e2 : TermR (Wo.wd ⟨sg, [], []⟩) cx m a = 0
            case neg =>
              have e2' : (TermR (Wo.wd ⟨sg, [], []⟩) cx m a != 0) = true := by simpa using e2
              have h00 : ((0 : Int) != 0) = false := rfl
              rw [e1] at c1
              simp -implicitDefEqProofs (disch := decide +kernel) only [go_sem, ↓reduceIte, Nat.reduceSub, Nat.reduceAdd, Nat.reduceMul, Nat.reduceBEq, Nat.reduceLT, Nat.reduceLeDiff, Nat.reduceEqDiff, reduceCtorEq, Int.reduceToNat, Int.reduceLE, Int.reduceLT, Int.reduceBEq, Int.reduceBNe, mCall, hA, hF, hG, hp, hq, hs, cells_enc, cel3, hem, hea, hen, k1, k2, k3, k4, k5, hw1, c1, c2, h00, e2']
            have h00 : ((0 : Int) != 0) = false := rfl
            by_cases e3 : TermR (Wo.wd ⟨sg, [], []⟩) (cx.take k) n (cx.getD k default) = 0
            case neg =>
              have e3' : (TermR (Wo.wd ⟨sg, [], []⟩) (cx.take k) n (cx.getD k default) != 0) = true := by simpa using e3
              rw [e1] at c1
              rw [e2] at c2
              simp -implicitDefEqProofs (disch := decide +kernel) only [go_sem, ↓reduceIte, Nat.reduceSub, Nat.reduceAdd, Nat.reduceMul, Nat.reduceBEq, Nat.reduceLT, Nat.reduceLeDiff, Nat.reduceEqDiff, reduceCtorEq, Int.reduceToNat, Int.reduceLE, Int.reduceLT, Int.reduceBEq, Int.reduceBNe, mCall, hA, hF, hG, hp, hq, hs, cells_enc, cel3, hem, hea, hen, k1, k2, k3, k4, k5, hw1, c1, c2, c3, h00, e3', Nat.zero_le, hle, encs_all, hgk, (enc_eq (cx.getD k default)).symm]
            obtain ⟨r1, r2, r3⟩ := subst_plain k6 hk e1 e2 e3
            have vx := applyR_vle (K := lowK) (by decide) vm (s := ⟨[n], 0⟩) (by simpa using vn)
            have vb := applyR_vle (K := lowK) (by decide) va (s := ⟨[n], 0⟩) (by simpa using vn)
            have mx := applyR_may m ⟨[n], 0⟩
            have mb := applyR_may a ⟨[n], 0⟩
            rw [e1] at c1
            rw [e2] at c2
            rw [e3] at c3
            generalize applyR m ⟨[n], 0⟩ = x at a1 r1 r3 vx mx
            generalize applyR a ⟨[n], 0⟩ = b at a2 r2 r3 vb mb
            obtain ⟨x, ex⟩ := x
            obtain ⟨b, eb⟩ := b
            have h04 : ((4 : Int) != 0) = true := rfl
            have h44 : ((4 : Int) == 4) = true := rfl
            have hexx := (enc_eq x).symm
            have hebb := (enc_eq b).symm
            simp only at r1 r2 r3 a1 a2 vx vb mx mb
            rcases r1 with rfl | rfl
            · simp -implicitDefEqProofs (disch := decide +kernel) only [go_sem, ↓reduceIte, Nat.reduceSub, Nat.reduceAdd, Nat.reduceMul, Nat.reduceBEq, Nat.reduceLT, Nat.reduceLeDiff, Nat.reduceEqDiff, reduceCtorEq, Int.reduceToNat, Int.reduceLE, Int.reduceLT, Int.reduceBEq, Int.reduceBNe, mCall, hA, hF, hG, hp, hq, hs, cells_enc, cel3, hem, hea, hen, k1, k2, k3, k4, k5, hw1, c1, c2, c3, h00, Nat.zero_le, hle, encs_all, hgk, (enc_eq (cx.getD k default)).symm, hsb, a1, a2, hexx, hebb, h04, h44]
            · rcases r2 with rfl | rfl
              · have h40 : ((0 : Int) == 4) = false := rfl
                simp -implicitDefEqProofs (disch := decide +kernel) only [go_sem, ↓reduceIte, Nat.reduceSub, Nat.reduceAdd, Nat.reduceMul, Nat.reduceBEq, Nat.reduceLT, Nat.reduceLeDiff, Nat.reduceEqDiff, reduceCtorEq, Int.reduceToNat, Int.reduceLE, Int.reduceLT, Int.reduceBEq, Int.reduceBNe, mCall, hA, hF, hG, hp, hq, hs, cells_enc, cel3, hem, hea, hen, k1, k2, k3, k4, k5, hw1, c1, c2, c3, h00, Nat.zero_le, hle, encs_all, hgk, (enc_eq (cx.getD k default)).symm, hsb, a1, a2, hexx, hebb, h04, h44, h40]
              · have r3 := r3 rfl rfl
                have hin3 : WIn (lowK + 2000000) ⟨sg, [], cx.take k⟩ := by
                  refine ⟨hin2.sz, by decide, by rw [htv]; decide, fun y hy => vle_mono (by decide) (hin2.ctx y hy), fun y hy => vle_mono (by decide) (hin2.sig y hy), by simp⟩
                obtain ⟨h6, c6⟩ := cTerm_spec hin3 x b (may_room mx) (may_room mb) vb
                have c6 : (lim C).call 38 [dDs sg, .d (.slc []), .d (.slc (encs (cx.take k))), dT x, dT b] [] = some (.ret (dI (TermR (Wo.wd ⟨sg, [], []⟩) (cx.take k) x b)), h6) := c6
                rw [encs_take] at c6
                generalize TermR (Wo.wd ⟨sg, [], []⟩) (cx.take k) x b = g at c6 r3
                have h01 : ((0 : Int) == 0) = true := rfl
                have h40 : ((4 : Int) == 0) = false := rfl
                have h10 : ((1 : Int) == 0) = false := rfl
                have h14 : ((1 : Int) == 4) = false := rfl
                have h11 : ((1 : Int) == 1) = true := rfl
                rcases r3 with rfl | rfl | rfl
                · simp -implicitDefEqProofs (disch := decide +kernel) only [go_sem, ↓reduceIte, Nat.reduceSub, Nat.reduceAdd, Nat.reduceMul, Nat.reduceBEq, Nat.reduceLT, Nat.reduceLeDiff, Nat.reduceEqDiff, reduceCtorEq, Int.reduceToNat, Int.reduceLE, Int.reduceLT, Int.reduceBEq, Int.reduceBNe, mCall, hA, hF, hG, hp, hq, hs, cells_enc, cel3, hem, hea, hen, k1, k2, k3, k4, k5, hw1, c1, c2, c3, h00, Nat.zero_le, hle, encs_all, hgk, (enc_eq (cx.getD k default)).symm, hsb, a1, a2, hexx, hebb, c6, h01]
                · simp -implicitDefEqProofs (disch := decide +kernel) only [go_sem, ↓reduceIte, Nat.reduceSub, Nat.reduceAdd, Nat.reduceMul, Nat.reduceBEq, Nat.reduceLT, Nat.reduceLeDiff, Nat.reduceEqDiff, reduceCtorEq, Int.reduceToNat, Int.reduceLE, Int.reduceLT, Int.reduceBEq, Int.reduceBNe, mCall, hA, hF, hG, hp, hq, hs, cells_enc, cel3, hem, hea, hen, k1, k2, k3, k4, k5, hw1, c1, c2, c3, h00, Nat.zero_le, hle, encs_all, hgk, (enc_eq (cx.getD k default)).symm, hsb, a1, a2, hexx, hebb, c6, h40, h44]
                · simp -implicitDefEqProofs (disch := decide +kernel) only [go_sem, ↓reduceIte, Nat.reduceSub, Nat.reduceAdd, Nat.reduceMul, Nat.reduceBEq, Nat.reduceLT, Nat.reduceLeDiff, Nat.reduceEqDiff, reduceCtorEq, Int.reduceToNat, Int.reduceLE, Int.reduceLT, Int.reduceBEq, Int.reduceBNe, mCall, hA, hF, hG, hp, hq, hs, cells_enc, cel3, hem, hea, hen, k1, k2, k3, k4, k5, hw1, c1, c2, c3, h00, Nat.zero_le, hle, encs_all, hgk, (enc_eq (cx.getD k default)).symm, hsb, a1, a2, hexx, hebb, c6, h10, h14, h11]
end Go.Proofs.Ytmemmdfjlhamfaa
