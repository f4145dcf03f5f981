/- What the functions of layer 1 come to: in plain words. -/
import Derived.Test.YtmemmdfjlhamfaaG1
namespace Go.Proofs.Ytmemmdfjlhamfaa
def bnd (t : Tm) (i : Nat) : Nat := if (t.kind = 1 ∨ t.kind = 3) ∧ i + 1 = t.args.length then 1 else 0
theorem bnd_le (t : Tm) (i : Nat) : bnd t i ≤ 1 := by unfold bnd; split <;> omega
def lowB : Tm → Bool
  | .mk _ h l => decide (h ≤ 1099511627776) && allB l.length fun i => if hi : i < l.length then lowB l[i] else true
decreasing_by
  have := List.sizeOf_lt_of_mem (List.getElem_mem hi)
  simp only [Tm.mk.sizeOf_spec]
  omega
theorem lowB_eq (t : Tm) : lowB t = (decide (t.head ≤ 1099511627776) && allB t.args.length fun i => lowB (t.arg i)) := by
  obtain ⟨k, h, l⟩ := t
  rw [lowB]
  congr 1
  refine allB_congr fun i hi => ?_
  have := arg_eq (t := .mk k h l) hi
  simp only [Tm.args] at this
  simp [hi, this]
def nodeOk (t : Tm) : Bool :=
  if t.kind = 0 then t.head == 0 && t.args.length == 0
  else if t.kind = 1 then t.head == 0 && t.args.length == 2
  else if t.kind = 3 then t.head == 0 && t.args.length == 1
  else decide (0 ≤ t.kind) && decide (t.kind < 7) && decide (0 ≤ t.head)
def nodesB : Tm → Bool
  | .mk k h l => nodeOk (.mk k h l) && allB l.length fun i => if hi : i < l.length then nodesB l[i] else true
decreasing_by
  have := List.sizeOf_lt_of_mem (List.getElem_mem hi)
  simp only [Tm.mk.sizeOf_spec]
  omega
theorem nodesB_eq (t : Tm) : nodesB t = (nodeOk t && allB t.args.length fun i => nodesB (t.arg i)) := by
  obtain ⟨k, h, l⟩ := t
  rw [nodesB]
  congr 1
  refine allB_congr fun i hi => ?_
  have := arg_eq (t := .mk k h l) hi
  simp only [Tm.args] at this
  simp [hi, this]
def scopedB : Tm → Int → Int → Bool
  | .mk k h l, v, m => !(k == 4 && decide (h ≥ v) || k == 6 && decide (h ≥ m)) && allB l.length fun i => if hi : i < l.length then scopedB l[i] (v + bnd (.mk k h l) i) m else true
decreasing_by
  have := List.sizeOf_lt_of_mem (List.getElem_mem hi)
  simp only [Tm.mk.sizeOf_spec]
  omega
theorem scopedB_eq (t : Tm) (v m : Int) : scopedB t v m = (!(t.kind == 4 && decide (t.head ≥ v) || t.kind == 6 && decide (t.head ≥ m)) && allB t.args.length fun i => scopedB (t.arg i) (v + bnd t i) m) := by
  obtain ⟨k, h, l⟩ := t
  rw [scopedB]
  congr 1
  refine allB_congr fun i hi => ?_
  have := arg_eq (t := .mk k h l) hi
  simp only [Tm.args] at this
  simp [hi, this]
def sameB : Tm → Tm → Bool
  | .mk k h l, u => k == u.kind && h == u.head && l.length == u.args.length && allB l.length fun i => if hi : i < l.length then sameB l[i] (u.arg i) else true
decreasing_by
  have := List.sizeOf_lt_of_mem (List.getElem_mem hi)
  simp only [Tm.mk.sizeOf_spec]
  omega
theorem sameB_eq (t u : Tm) : sameB t u = (t.kind == u.kind && t.head == u.head && t.args.length == u.args.length && allB t.args.length fun i => sameB (t.arg i) (u.arg i)) := by
  obtain ⟨k, h, l⟩ := t
  rw [sameB]
  congr 1
  refine allB_congr fun i hi => ?_
  have := arg_eq (t := .mk k h l) hi
  simp only [Tm.args] at this
  simp [hi, this]
theorem sameB_refl : ∀ t : Tm, sameB t t = true := by
  refine Tm.ind fun t ih => ?_
  rw [sameB_eq]
  simp only [beq_self_eq_true, Bool.true_and, allB_iff]
  exact fun i hi => ih _ (arg_mem hi)
theorem sameB_comm : ∀ t u : Tm, sameB t u = sameB u t := by
  refine Tm.ind fun t ih u => ?_
  rw [sameB_eq, sameB_eq u t]
  by_cases h : t.args.length = u.args.length
  · rw [← h]
    rw [allB_congr (q := fun i => sameB (u.arg i) (t.arg i)) fun i hi => ih _ (arg_mem hi) _]
    rw [Bool.beq_comm (a := t.kind), Bool.beq_comm (a := t.head)]
  · have h1 : (t.args.length == u.args.length) = false := by simpa using h
    have h2 : (u.args.length == t.args.length) = false := by simpa using Ne.symm h
    simp [h1, h2]
def mayB (t : Tm) : Bool := nodesB t && decide (t.size ≤ 4000) && decide (t.depth ≤ 60)
def lightB (t : Tm) (s d : Int) : Bool := lowB t && decide ((t.size : Int) ≤ s) && decide ((t.depth : Int) ≤ d)
end Go.Proofs.Ytmemmdfjlhamfaa
