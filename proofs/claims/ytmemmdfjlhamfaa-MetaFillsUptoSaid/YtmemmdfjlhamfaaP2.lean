/- What walks over a term come to. -/
import Derived.Test.YtmemmdfjlhamfaaP1
namespace Go.Proofs.Ytmemmdfjlhamfaa
def bindsB (t : Tm) : Bool := t.kind == 1 || t.kind == 3
def runL {α S R : Type} (step : S → α → Except R S) : List α → S → Except R S
  | [], s => .ok s
  | x :: xs, s => match step s x with
    | .ok s' => runL step xs s'
    | .error r => .error r
theorem runL_append {α S R : Type} (step : S → α → Except R S) : ∀ (a b : List α) (s : S), runL step (a ++ b) s = match runL step a s with
    | .ok s' => runL step b s'
    | .error r => .error r
  | [], b, s => rfl
  | x :: a, b, s => by
    simp only [List.cons_append, runL]
    cases step s x with
    | ok s' => exact runL_append step a b s'
    | error r => rfl
def preF (go : Tm → Int → List (Int × Tm)) (t : Tm) (n : Int) : Nat → Nat → List (Int × Tm)
  | 0, _ => []
  | k + 1, i => go (t.arg i) (n + bnd t i) ++ preF go t n k (i + 1)
/-- All nodes of a term, with how many nodes bind around each. -/
def pre : Tm → Int → List (Int × Tm)
  | .mk k h l, n => (n, .mk k h l) :: (List.range l.length).flatMap fun i => if hi : i < l.length then pre l[i] (n + bnd (.mk k h l) i) else []
decreasing_by
  have := List.sizeOf_lt_of_mem (List.getElem_mem hi)
  simp only [Tm.mk.sizeOf_spec]
  omega
theorem preF_flat (t : Tm) (n : Int) : ∀ k i, preF pre t n k i = (List.range' i k).flatMap fun j => pre (t.arg j) (n + bnd t j)
  | 0, i => rfl
  | k + 1, i => by simp only [preF, preF_flat t n k, List.range'_succ, List.flatMap_cons]
theorem flatMap_congr' {α β : Type} {l : List α} {f g : α → List β} (h : ∀ x ∈ l, f x = g x) : l.flatMap f = l.flatMap g := by
  induction l with
  | nil => rfl
  | cons a l ih => rw [List.flatMap_cons, List.flatMap_cons, h a (by simp), ih fun x hx => h x (by simp [hx])]
theorem pre_eq (t : Tm) (n : Int) : pre t n = (n, t) :: preF pre t n t.args.length 0 := by
  obtain ⟨k, h, l⟩ := t
  rw [pre, preF_flat]
  congr 1
  rw [List.range_eq_range']
  refine flatMap_congr' fun i hi => ?_
  have hi' : i < l.length := by simp at hi; exact hi
  have := arg_eq (t := .mk k h l) hi'
  simp only [Tm.args] at this
  simp [hi', this]
theorem preF_len (t : Tm) (n : Int) (h : ∀ x ∈ t.args, ∀ m, (pre x m).length = x.size) : ∀ k i, i + k = t.args.length → (preF pre t n k i).length = ((t.args.drop i).map Tm.size).sum
  | 0, i, e => by rw [List.drop_eq_nil_of_le (by omega)]; rfl
  | k + 1, i, e => by
    have hi : i < t.args.length := by omega
    rw [preF, List.length_append, preF_len t n h k (i + 1) (by omega), h _ (arg_mem hi), List.drop_eq_getElem_cons hi, arg_eq hi]
    simp
theorem pre_len : ∀ (t : Tm) (n : Int), (pre t n).length = t.size := by
  refine Tm.ind fun t ih n => ?_
  rw [pre_eq, List.length_cons, preF_len t n (fun x hx m => ih x hx m) _ _ (by omega), size_eq]
  simp; omega
theorem pre_sub {t : Tm} {n : Int} {i : Nat} (hi : i < t.args.length) {p : Int × Tm} (hp : p ∈ pre (t.arg i) (n + bnd t i)) : p ∈ pre t n := by
  rw [pre_eq, preF_flat]
  refine List.mem_cons_of_mem _ (List.mem_flatMap.2 ⟨i, ?_, hp⟩)
  simpa using hi
theorem pre_ind {P : Int × Tm → Prop} {t : Tm} {n : Int} (h0 : P (n, t)) (h : ∀ i, i < t.args.length → ∀ p ∈ pre (t.arg i) (n + bnd t i), P p) : ∀ p ∈ pre t n, P p := by
  rw [pre_eq, preF_flat]
  intro p hp
  rcases List.mem_cons.1 hp with rfl | hp
  · exact h0
  · obtain ⟨i, hi, hp⟩ := List.mem_flatMap.1 hp
    exact h i (by simpa using hi) p hp
theorem pre_size : ∀ (t : Tm) (n : Int), ∀ p ∈ pre t n, p.2.size ≤ t.size := by
  refine Tm.ind fun t ih n => pre_ind (Nat.le_refl _) fun i hi p hp => ?_
  have := ih _ (arg_mem hi) _ p hp
  have := size_arg (arg_mem hi)
  omega
theorem pre_around : ∀ (t : Tm) (n : Int), ∀ p ∈ pre t n, n ≤ p.1 ∧ p.1 ≤ n + t.size := by
  refine Tm.ind fun t ih n => pre_ind (by constructor <;> simp only <;> omega) fun i hi p hp => ?_
  have h1 := ih _ (arg_mem hi) _ p hp
  have h2 := size_arg (arg_mem hi)
  have h3 := bnd_le t i
  constructor <;> omega
end Go.Proofs.Ytmemmdfjlhamfaa
