/- Terms as functions that are applied: what two ways of going on come to is the same. -/
import Derived.Test.YtojahppjdimdbaaP6
set_option linter.unusedVariables false
set_option linter.unusedSimpArgs false
namespace Go.Proofs.Ytojahppjdimdbaa
/-- Terms in which what is applied may be anything. -/
inductive E where
  | var (i : Nat)
  | con (k h : Int)
  | lam (b : E)
  | app (f a : E)
namespace E
def upr (ρ : Nat → Nat) : Nat → Nat
  | 0 => 0
  | i + 1 => ρ i + 1
def ren (ρ : Nat → Nat) : E → E
  | var i => var (ρ i)
  | con k h => con k h
  | lam b => lam (ren (upr ρ) b)
  | app f a => app (ren ρ f) (ren ρ a)
def ups (σ : Nat → E) : Nat → E
  | 0 => var 0
  | i + 1 => ren Nat.succ (σ i)
def sub (σ : Nat → E) : E → E
  | var i => σ i
  | con k h => con k h
  | lam b => lam (sub (ups σ) b)
  | app f a => app (sub σ f) (sub σ a)
def scons (a : E) (σ : Nat → E) : Nat → E
  | 0 => a
  | i + 1 => σ i
theorem upr_comp (ρ ρ' : Nat → Nat) : (fun i => upr ρ' (upr ρ i)) = upr fun i => ρ' (ρ i) := by funext i; cases i <;> rfl
theorem ren_ren : ∀ (t : E) (ρ ρ' : Nat → Nat), ren ρ' (ren ρ t) = ren (fun i => ρ' (ρ i)) t
  | var i, _, _ => rfl
  | con _ _, _, _ => rfl
  | lam b, ρ, ρ' => by simp only [ren, ren_ren b, upr_comp]
  | app f a, ρ, ρ' => by simp only [ren, ren_ren f, ren_ren a]
theorem ups_upr (σ : Nat → E) (ρ : Nat → Nat) : (fun i => ups σ (upr ρ i)) = ups fun i => σ (ρ i) := by funext i; cases i <;> rfl
theorem sub_ren : ∀ (t : E) (ρ : Nat → Nat) (σ : Nat → E), sub σ (ren ρ t) = sub (fun i => σ (ρ i)) t
  | var i, _, _ => rfl
  | con _ _, _, _ => rfl
  | lam b, ρ, σ => by simp only [ren, sub, sub_ren b, ups_upr]
  | app f a, ρ, σ => by simp only [ren, sub, sub_ren f, sub_ren a]
theorem ren_ups (σ : Nat → E) (ρ : Nat → Nat) : (fun i => ren (upr ρ) (ups σ i)) = ups fun i => ren ρ (σ i) := by
  funext i
  cases i with
  | zero => rfl
  | succ i => simp only [ups, ren_ren]; rfl
theorem ren_sub : ∀ (t : E) (σ : Nat → E) (ρ : Nat → Nat), ren ρ (sub σ t) = sub (fun i => ren ρ (σ i)) t
  | var i, _, _ => rfl
  | con _ _, _, _ => rfl
  | lam b, σ, ρ => by simp only [ren, sub, ren_sub b, ren_ups]
  | app f a, σ, ρ => by simp only [ren, sub, ren_sub f, ren_sub a]
theorem sub_ups (σ τ : Nat → E) : (fun i => sub (ups τ) (ups σ i)) = ups fun i => sub τ (σ i) := by
  funext i
  cases i with
  | zero => rfl
  | succ i => simp only [ups, sub_ren, ren_sub]
theorem sub_sub : ∀ (t : E) (σ τ : Nat → E), sub τ (sub σ t) = sub (fun i => sub τ (σ i)) t
  | var i, _, _ => rfl
  | con _ _, _, _ => rfl
  | lam b, σ, τ => by simp only [sub, sub_sub b, sub_ups]
  | app f a, σ, τ => by simp only [sub, sub_sub f, sub_sub a]
theorem ups_var : ups var = var := by funext i; cases i <;> rfl
theorem sub_var : ∀ t : E, sub var t = t
  | var i => rfl
  | con _ _ => rfl
  | lam b => by simp only [sub, ups_var, sub_var b]
  | app f a => by simp only [sub, sub_var f, sub_var a]
/-- A term for the variable 0. -/
def one (a : E) : Nat → E := scons a var
theorem sub_one (σ : Nat → E) (b a : E) : sub σ (sub (one a) b) = sub (one (sub σ a)) (sub (ups σ) b) := by
  rw [sub_sub, sub_sub]
  congr 1
  funext i
  cases i with
  | zero => rfl
  | succ i =>
    simp only [one, scons, ups, sub, sub_ren]
    exact (sub_var _).symm
theorem ren_one (ρ : Nat → Nat) (b a : E) : ren ρ (sub (one a) b) = sub (one (ren ρ a)) (ren (upr ρ) b) := by
  rw [ren_sub, sub_ren]
  congr 1
  funext i
  cases i <;> rfl
/-! ### steps side by side -/
inductive P : E → E → Prop where
  | var (i : Nat) : P (var i) (var i)
  | con (k h : Int) : P (con k h) (con k h)
  | lam {b b' : E} : P b b' → P (lam b) (lam b')
  | app {f f' a a' : E} : P f f' → P a a' → P (app f a) (app f' a')
  | beta {b b' a a' : E} : P b b' → P a a' → P (app (lam b) a) (sub (one a') b')
theorem P.refl : ∀ t : E, P t t
  | E.var i => .var i
  | E.con k h => .con k h
  | E.lam b => .lam (P.refl b)
  | E.app f a => .app (P.refl f) (P.refl a)
theorem P.ren {t t' : E} (h : P t t') : ∀ ρ, P (ren ρ t) (ren ρ t') := by
  induction h with
  | var i => exact fun ρ => .var _
  | con k h => exact fun ρ => .con _ _
  | lam _ ih => exact fun ρ => .lam (ih _)
  | app _ _ ih1 ih2 => exact fun ρ => .app (ih1 _) (ih2 _)
  | beta _ _ ih1 ih2 =>
    intro ρ
    rw [ren_one]
    exact .beta (ih1 _) (ih2 _)
theorem P.sub {t t' : E} (h : P t t') : ∀ {σ σ' : Nat → E}, (∀ i, P (σ i) (σ' i)) → P (sub σ t) (sub σ' t') := by
  have hup : ∀ {σ σ' : Nat → E}, (∀ i, P (σ i) (σ' i)) → ∀ i, P (ups σ i) (ups σ' i) := fun {σ σ'} hs i => by
    cases i with
    | zero => exact .var 0
    | succ i => exact (hs i).ren _
  induction h with
  | var i => exact fun hs => hs i
  | con k h => exact fun _ => .con _ _
  | lam _ ih => exact fun hs => .lam (ih (hup hs))
  | app _ _ ih1 ih2 => exact fun hs => .app (ih1 hs) (ih2 hs)
  | beta _ _ ih1 ih2 =>
    intro σ σ' hs
    rw [sub_one]
    exact .beta (ih1 (hup hs)) (ih2 hs)
/-- All that can be done at once. -/
def cd : E → E
  | var i => var i
  | con k h => con k h
  | lam b => lam (cd b)
  | app (lam b) a => sub (one (cd a)) (cd b)
  | app (var i) a => app (var i) (cd a)
  | app (con k h) a => app (con k h) (cd a)
  | app (app f b) a => app (cd (app f b)) (cd a)
theorem P.tri {t t' : E} (h : P t t') : P t' (cd t) := by
  have hone : ∀ {a a' : E}, P a a' → ∀ i, P (one a i) (one a' i) := fun {a a'} ha i => by
    cases i with
    | zero => exact ha
    | succ i => exact .var i
  induction h with
  | var i => exact .var i
  | con k h => exact .con k h
  | lam _ ih => exact .lam ih
  | @app f f' a a' hf ha ih1 ih2 =>
    cases f with
    | var i => exact .app ih1 ih2
    | con k h => exact .app ih1 ih2
    | app g b => exact .app ih1 ih2
    | lam b =>
      cases hf with
      | @lam _ b' hb =>
        cases ih1 with
        | lam ih1 => exact .beta ih1 ih2
  | beta _ _ ih1 ih2 => exact P.sub ih1 (hone ih2)
inductive PS : E → E → Prop where
  | refl (a : E) : PS a a
  | head {a b c : E} : P a b → PS b c → PS a c
theorem PS.trans {a b c : E} (h : PS a b) (k : PS b c) : PS a c := by
  induction h with
  | refl => exact k
  | head p _ ih => exact .head p (ih k)
theorem PS.one {a b : E} (h : P a b) : PS a b := .head h (.refl b)
theorem strip {a c : E} (k : PS a c) : ∀ {b : E}, P a b → ∃ d, PS b d ∧ P c d := by
  induction k with
  | refl a => exact fun {b} h => ⟨b, .refl b, h⟩
  | @head a a1 c p _ ih =>
    intro b h
    obtain ⟨d, h1, h2⟩ := ih p.tri
    exact ⟨d, .head h.tri h1, h2⟩
theorem conf {a b : E} (h : PS a b) : ∀ {c : E}, PS a c → ∃ d, PS b d ∧ PS c d := by
  induction h with
  | refl a => exact fun {c} k => ⟨c, k, .refl c⟩
  | head p _ ih =>
    intro c k
    obtain ⟨d1, h1, h2⟩ := strip k p
    obtain ⟨d, h3, h4⟩ := ih h1
    exact ⟨d, h3, .head h2 h4⟩
theorem PS.lam {b b' : E} (h : PS b b') : PS (lam b) (lam b') := by
  induction h with
  | refl a => exact .refl _
  | head p _ ih => exact .head (.lam p) ih
theorem PS.app {f f' a a' : E} (h : PS f f') (k : PS a a') : PS (app f a) (app f' a') := by
  have h1 : PS (E.app f a) (E.app f' a) := by
    induction h with
    | refl => exact .refl _
    | head p _ ih => exact .head (.app p (.refl _)) ih
  have h2 : PS (E.app f' a) (E.app f' a') := by
    clear h1
    induction k with
    | refl => exact .refl _
    | head p _ ih => exact .head (.app (.refl _) p) ih
  exact h1.trans h2
theorem PS.sub1 {t t' : E} (h : PS t t') (σ : Nat → E) : PS (sub σ t) (sub σ t') := by
  induction h with
  | refl => exact .refl _
  | head p _ ih => exact .head (P.sub p fun i => .refl _) ih
theorem PS.ren {t t' : E} (h : PS t t') (ρ : Nat → Nat) : PS (ren ρ t) (ren ρ t') := by
  induction h with
  | refl => exact .refl _
  | head p _ ih => exact .head (p.ren ρ) ih
theorem PS.subs : ∀ (t : E) {σ σ' : Nat → E}, (∀ i, PS (σ i) (σ' i)) → PS (sub σ t) (sub σ' t)
  | E.var i, _, _, h => h i
  | E.con _ _, _, _, _ => .refl _
  | E.lam b, σ, σ', h => PS.lam (PS.subs b fun i => by
      cases i with
      | zero => exact .refl _
      | succ i => exact (h i).ren _)
  | E.app f a, σ, σ', h => PS.app (PS.subs f h) (PS.subs a h)
/-! ### one applied to many -/
def apps (f : E) (l : List E) : E := l.foldl E.app f
theorem apps_nil (f : E) : apps f [] = f := rfl
theorem apps_cons (f a : E) (l : List E) : apps f (a :: l) = apps (E.app f a) l := rfl
theorem apps_append (f : E) (l l' : List E) : apps f (l ++ l') = apps (apps f l) l' := by simp [apps]
theorem apps_snoc (f a : E) (l : List E) : apps f (l ++ [a]) = E.app (apps f l) a := by simp [apps]
theorem sub_apps (σ : Nat → E) : ∀ (l : List E) (f : E), sub σ (apps f l) = apps (sub σ f) (l.map (sub σ))
  | [], f => rfl
  | a :: l, f => by rw [apps_cons, sub_apps σ l]; rfl
theorem ren_apps (ρ : Nat → Nat) : ∀ (l : List E) (f : E), ren ρ (apps f l) = apps (ren ρ f) (l.map (ren ρ))
  | [], f => rfl
  | a :: l, f => by rw [apps_cons, ren_apps ρ l]; rfl
inductive All2 (Q : E → E → Prop) : List E → List E → Prop where
  | nil : All2 Q [] []
  | cons {a b : E} {l l' : List E} : Q a b → All2 Q l l' → All2 Q (a :: l) (b :: l')
theorem PS.apps {f f' : E} {l l' : List E} (h : PS f f') (k : All2 PS l l') : PS (E.apps f l) (E.apps f' l') := by
  induction k generalizing f f' with
  | nil => exact h
  | cons q _ ih => exact ih (PS.app h q)
/-- What is no function. -/
def rigid : E → Prop
  | var _ => True
  | con _ _ => True
  | _ => False
theorem apps_rigid {h : E} (hr : rigid h) : ∀ l : List E, (∃ f a, apps h l = E.app f a) ∨ l = [] := by
  intro l
  rcases List.eq_nil_or_concat l with rfl | ⟨l, a, rfl⟩
  · exact .inr rfl
  · exact .inl ⟨_, _, by rw [List.concat_eq_append, apps_snoc]⟩
theorem apps_no_lam {h : E} (hr : rigid h) (l : List E) (b : E) : apps h l ≠ E.lam b := by
  rcases apps_rigid hr l with ⟨f, a, e⟩ | rfl
  · rw [e]; intro h; cases h
  · rw [apps_nil]; intro e; rw [e] at hr; exact hr
theorem P_apps {h : E} (hr : rigid h) : ∀ (n : Nat) (l : List E), l.length = n → ∀ x, P (apps h l) x → ∃ l', x = apps h l' ∧ All2 P l l'
  | 0, l, hn, x, hp => by
    obtain rfl := List.eq_nil_of_length_eq_zero hn
    rw [apps_nil] at hp
    cases h with
    | var i => cases hp; exact ⟨[], rfl, .nil⟩
    | con k h => cases hp; exact ⟨[], rfl, .nil⟩
    | lam b => exact hr.elim
    | app f a => exact hr.elim
  | n + 1, l, hn, x, hp => by
    rcases List.eq_nil_or_concat l with rfl | ⟨l, a, rfl⟩
    · cases hn
    rw [List.concat_eq_append] at hn hp ⊢
    rw [apps_snoc] at hp
    generalize hg : apps h l = g at hp
    have hsn : ∀ {l l' : List E} {a a' : E}, All2 P l l' → P a a' → All2 P (l ++ [a]) (l' ++ [a']) := by
      intro l l' a a' h1 h2
      induction h1 with
      | nil => exact .cons h2 .nil
      | cons q _ ih => exact .cons q ih
    cases hp with
    | app p1 p2 =>
      subst hg
      obtain ⟨l', rfl, h2⟩ := P_apps hr n l (by simpa using hn) _ p1
      exact ⟨l' ++ [_], by rw [apps_snoc], hsn h2 p2⟩
    | beta p1 p2 => exact absurd hg (apps_no_lam hr l _)
theorem apps_inj {h h' : E} (hr : rigid h) (hr' : rigid h') : ∀ (n : Nat) (l l' : List E), l.length = n → apps h l = apps h' l' → h = h' ∧ l = l'
  | 0, l, l', hn, he => by
    obtain rfl := List.eq_nil_of_length_eq_zero hn
    rcases List.eq_nil_or_concat l' with rfl | ⟨l', a, rfl⟩
    · exact ⟨he, rfl⟩
    · rw [List.concat_eq_append, apps_snoc, apps_nil] at he
      rw [he] at hr; exact hr.elim
  | n + 1, l, l', hn, he => by
    rcases List.eq_nil_or_concat l with rfl | ⟨l, a, rfl⟩
    · cases hn
    rcases List.eq_nil_or_concat l' with rfl | ⟨l', a', rfl⟩
    · rw [List.concat_eq_append, apps_snoc, apps_nil] at he
      rw [← he] at hr'; exact hr'.elim
    · rw [List.concat_eq_append, List.concat_eq_append, apps_snoc, apps_snoc] at he
      injection he with h1 h2
      obtain ⟨rfl, rfl⟩ := apps_inj hr hr' n l l' (by simpa using hn) h1
      rw [h2]; exact ⟨rfl, rfl⟩
end E
end Go.Proofs.Ytojahppjdimdbaa
