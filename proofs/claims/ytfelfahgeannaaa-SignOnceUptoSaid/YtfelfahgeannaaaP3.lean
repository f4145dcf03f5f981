/- What types ask for: in plain words. -/
import Derived.Test.YtfelfahgeannaaaP2
namespace Go.Proofs.Ytfelfahgeannaaa
def isPi (t : Tm) : Bool := t.kind == 1 && t.args.length == 2
def pisOf : Tm → List (Tm × Tm)
  | .mk k _ l => if h : k = 1 ∧ l.length = 2 then (l[0], l[1]) :: pisOf l[1] else []
decreasing_by
  have := List.sizeOf_lt_of_mem (List.getElem_mem (l := l) (n := 1) (by omega))
  simp only [Tm.mk.sizeOf_spec]
  omega
def lastOf : Tm → Tm
  | .mk k hd l => if h : k = 1 ∧ l.length = 2 then lastOf l[1] else .mk k hd l
decreasing_by
  have := List.sizeOf_lt_of_mem (List.getElem_mem (l := l) (n := 1) (by omega))
  simp only [Tm.mk.sizeOf_spec]
  omega
theorem isPi_iff {t : Tm} : isPi t = true ↔ t.kind = 1 ∧ t.args.length = 2 := by simp [isPi]
theorem pisOf_pi {t : Tm} (h : isPi t = true) : pisOf t = (t.arg 0, t.arg 1) :: pisOf (t.arg 1) := by
  have h' := isPi_iff.1 h
  have e0 := arg_eq (t := t) (i := 0) (by omega)
  have e1 := arg_eq (t := t) (i := 1) (by omega)
  obtain ⟨k, hd, l⟩ := t
  rw [pisOf, dif_pos (show k = 1 ∧ l.length = 2 from h')]
  simp only [Tm.args] at e0 e1
  rw [e0, e1]
theorem pisOf_no {t : Tm} (h : isPi t = false) : pisOf t = [] := by
  have h' : ¬ (t.kind = 1 ∧ t.args.length = 2) := fun e => by rw [isPi_iff.2 e] at h; cases h
  obtain ⟨k, hd, l⟩ := t
  rw [pisOf, dif_neg (show ¬ (k = 1 ∧ l.length = 2) from h')]
theorem lastOf_pi {t : Tm} (h : isPi t = true) : lastOf t = lastOf (t.arg 1) := by
  have h' := isPi_iff.1 h
  have e1 := arg_eq (t := t) (i := 1) (by omega)
  obtain ⟨k, hd, l⟩ := t
  rw [lastOf, dif_pos (show k = 1 ∧ l.length = 2 from h')]
  simp only [Tm.args] at e1
  rw [e1]
theorem lastOf_no {t : Tm} (h : isPi t = false) : lastOf t = t := by
  have h' : ¬ (t.kind = 1 ∧ t.args.length = 2) := fun e => by rw [isPi_iff.2 e] at h; cases h
  obtain ⟨k, hd, l⟩ := t
  rw [lastOf, dif_neg (show ¬ (k = 1 ∧ l.length = 2) from h')]
theorem pi_arg0 {t : Tm} (h : isPi t = true) : t.args[0]? = some (t.arg 0) := arg_get (by have := isPi_iff.1 h; omega)
theorem pi_arg1 {t : Tm} (h : isPi t = true) : t.args[1]? = some (t.arg 1) := arg_get (by have := isPi_iff.1 h; omega)
theorem pi_mem0 {t : Tm} (h : isPi t = true) : t.arg 0 ∈ t.args := arg_mem (by have := isPi_iff.1 h; omega)
theorem pi_mem1 {t : Tm} (h : isPi t = true) : t.arg 1 ∈ t.args := arg_mem (by have := isPi_iff.1 h; omega)
theorem pis_ind {P : Tm → Prop} (h0 : ∀ t, isPi t = false → P t) (h1 : ∀ t, isPi t = true → P (t.arg 1) → P t) : ∀ t, P t := by
  refine Tm.ind fun t ih => ?_
  cases h : isPi t
  · exact h0 t h
  · exact h1 t h (ih _ (pi_mem1 h))
theorem last_size (t : Tm) : (lastOf t).size ≤ t.size := by
  induction t using pis_ind with
  | h0 t h => rw [lastOf_no h]; exact Nat.le_refl _
  | h1 t h ih => rw [lastOf_pi h]; have := size_arg (pi_mem1 h); omega
theorem pis_size (t : Tm) : ∀ p ∈ pisOf t, p.1.size < t.size ∧ p.2.size < t.size := by
  induction t using pis_ind with
  | h0 t h => rw [pisOf_no h]; simp
  | h1 t h ih =>
    rw [pisOf_pi h]
    intro p hp
    have a0 := size_arg (pi_mem0 h)
    have a1 := size_arg (pi_mem1 h)
    rcases List.mem_cons.1 hp with rfl | hp
    · exact ⟨a0, a1⟩
    · have := ih p hp; omega
theorem pis_len (t : Tm) : (pisOf t).length < t.size := by
  induction t using pis_ind with
  | h0 t h => rw [pisOf_no h]; exact size_pos t
  | h1 t h ih => rw [pisOf_pi h, List.length_cons]; have := size_arg (pi_mem1 h); omega
end Go.Proofs.Ytfelfahgeannaaa
