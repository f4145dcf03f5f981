/- Metas that become something: in plain words. -/
import Derived.Test.YtmemmdfjlhamfaaP6
set_option linter.unusedVariables false
set_option linter.unusedSimpArgs false
namespace Go.Proofs.Ytmemmdfjlhamfaa
def zT' : Tm := .mk 0 0 []
/-- The first thing that went wrong. -/
def firstE (F : Nat → Tm × Int) : Nat → Int
  | 0 => 0
  | k + 1 => if (F 0).2 = 0 then firstE (fun i => F (i + 1)) k else (F 0).2
theorem firstE_zero : ∀ (k : Nat) (F : Nat → Tm × Int), firstE F k = 0 ↔ ∀ i, i < k → (F i).2 = 0
  | 0, F => by simp [firstE]
  | k + 1, F => by
    simp only [firstE]
    by_cases h : (F 0).2 = 0
    · rw [if_pos h, firstE_zero k]
      constructor
      · intro hk i hi
        cases i with
        | zero => exact h
        | succ i => exact hk i (by omega)
      · exact fun hk i hi => hk (i + 1) (by omega)
    · rw [if_neg h]
      exact ⟨fun e => absurd e h, fun hk => hk 0 (by omega)⟩
theorem firstE_at : ∀ (k : Nat) (F : Nat → Tm × Int), firstE F k ≠ 0 → ∃ j, j < k ∧ (F j).2 = firstE F k ∧ ∀ i, i < j → (F i).2 = 0
  | 0, F, h => absurd rfl h
  | k + 1, F, h => by
    simp only [firstE] at h ⊢
    by_cases h0 : (F 0).2 = 0
    · rw [if_pos h0] at h ⊢
      obtain ⟨j, h1, h2, h3⟩ := firstE_at k _ h
      refine ⟨j + 1, by omega, h2, fun i hi => ?_⟩
      cases i with
      | zero => exact h0
      | succ i => exact h3 i (by omega)
    · rw [if_neg h0]
      exact ⟨0, by omega, rfl, fun i hi => by omega⟩
theorem firstE_congr {k : Nat} {F G : Nat → Tm × Int} (h : ∀ i, i < k → F i = G i) : firstE F k = firstE G k := by
  induction k generalizing F G with
  | zero => rfl
  | succ k ih =>
    simp only [firstE, h 0 (by omega)]
    rw [ih fun i hi => h (i + 1) (by omega)]
/-- A node whose Args are filled: what it becomes. -/
def fillN (A : Tm → Sb → Tm × Int) (mayL : List Tm → Bool) (th : List Tm) (k h : Int) (args : List Tm) (n : Int) : Tm × Int :=
  if k ≠ 6 then (.mk k h args, 0) else if h ≥ th.length then (zT', 2) else if mayL args then A (th.getD h.toNat default) ⟨args, n⟩ else (zT', 4)
def fillT (A : Tm → Sb → Tm × Int) (mayL : List Tm → Bool) (th : List Tm) : Tm → Int → Tm × Int
  | .mk k h l, n =>
    let F : Nat → Tm × Int := fun i => if hi : i < l.length then fillT A mayL th l[i] (n + bnd (.mk k h l) i) else default
    if firstE F l.length = 0 then fillN A mayL th k h ((List.range l.length).map fun i => (F i).1) n else (zT', firstE F l.length)
decreasing_by
  have := List.sizeOf_lt_of_mem (List.getElem_mem hi)
  simp only [Tm.mk.sizeOf_spec]
  omega
section
variable {A : Tm → Sb → Tm × Int} {mayL : List Tm → Bool} {th : List Tm}
def fillF (A : Tm → Sb → Tm × Int) (mayL : List Tm → Bool) (th : List Tm) (t : Tm) (n : Int) (i : Nat) : Tm × Int := fillT A mayL th (t.arg i) (n + bnd t i)
theorem fillT_eq (t : Tm) (n : Int) : fillT A mayL th t n = if firstE (fillF A mayL th t n) t.args.length = 0 then fillN A mayL th t.kind t.head ((List.range t.args.length).map fun i => (fillF A mayL th t n i).1) n else (zT', firstE (fillF A mayL th t n) t.args.length) := by
  obtain ⟨k, h, l⟩ := t
  rw [fillT]
  have hF : ∀ i, i < l.length → (if hi : i < l.length then fillT A mayL th l[i] (n + bnd (.mk k h l) i) else default) = fillF A mayL th (.mk k h l) n i := fun i hi => by
    have := arg_eq (t := .mk k h l) hi
    simp only [Tm.args] at this
    rw [dif_pos hi, this]; rfl
  have h1 := firstE_congr hF
  have h2 : ((List.range l.length).map fun i => (if hi : i < l.length then fillT A mayL th l[i] (n + bnd (.mk k h l) i) else default).1) = (List.range l.length).map fun i => (fillF A mayL th (.mk k h l) n i).1 :=
    List.map_congr_left fun i hi => by rw [hF i (by simpa using hi)]
  by_cases hz : firstE (fillF A mayL th (.mk k h l) n) l.length = 0
  · exact ((if_pos (h1.trans hz)).trans (by rw [h2]; rfl)).trans (if_pos (c := firstE (fillF A mayL th (.mk k h l) n) (Tm.mk k h l).args.length = 0) hz).symm
  · exact ((if_neg (fun e => hz (h1.symm.trans e))).trans (by rw [h1]; rfl)).trans (if_neg (c := firstE (fillF A mayL th (.mk k h l) n) (Tm.mk k h l).args.length = 0) hz).symm
/-- What has no metas is as it was. -/
def metasB : Tm → Bool
  | .mk k h l => k == 6 || !(allB l.length fun i => if hi : i < l.length then !metasB l[i] else true)
decreasing_by
  have := List.sizeOf_lt_of_mem (List.getElem_mem hi)
  simp only [Tm.mk.sizeOf_spec]
  omega
theorem metasB_eq (t : Tm) : metasB t = (t.kind == 6 || !(allB t.args.length fun i => !metasB (t.arg i))) := by
  obtain ⟨k, h, l⟩ := t
  rw [metasB]
  congr 2
  refine allB_congr fun i hi => ?_
  have := arg_eq (t := .mk k h l) hi
  simp only [Tm.args] at this
  simp [hi, this]
theorem metasB_no {t : Tm} : metasB t = false ↔ t.kind ≠ 6 ∧ ∀ i, i < t.args.length → metasB (t.arg i) = false := by
  rw [metasB_eq, Bool.or_eq_false_iff, Bool.not_eq_false', allB_iff]
  simp
theorem args_range (t : Tm) : ((List.range t.args.length).map fun i => t.arg i) = t.args := by
  refine List.ext_getElem (by simp) fun i h1 h2 => ?_
  simp [arg_eq h2]
theorem fill_none : ∀ (t : Tm) (n : Int), metasB t = false → fillT A mayL th t n = (t, 0) := by
  refine Tm.ind fun t ih n hm => ?_
  rw [metasB_no] at hm
  have hF : ∀ i, i < t.args.length → fillF A mayL th t n i = (t.arg i, 0) := fun i hi => ih _ (arg_mem hi) _ (hm.2 i hi)
  have h0 : firstE (fillF A mayL th t n) t.args.length = 0 := (firstE_zero _ _).2 fun i hi => by rw [hF i hi]
  have hargs : ((List.range t.args.length).map fun i => (fillF A mayL th t n i).1) = t.args := by
    rw [← args_range t]
    simp only [List.length_map, List.length_range]
    refine List.map_congr_left fun i hi => ?_
    have hi : i < t.args.length := by simpa using hi
    rw [hF i hi]
  rw [fillT_eq, if_pos h0, hargs]
  unfold fillN
  rw [if_pos hm.1, mk_self]
/-- Without any terms for them a meta is nothing. -/
theorem fill_nil : ∀ (t : Tm) (n : Int), nodesB t = true → (fillT A mayL [] t n).2 = if metasB t then 2 else 0 := by
  refine Tm.ind fun t ih n hn => ?_
  cases hm : metasB t
  · rw [fill_none t n hm]; rfl
  · rw [fillT_eq]
    by_cases h0 : firstE (fillF A mayL [] t n) t.args.length = 0
    · rw [if_pos h0]
      have hall : ∀ i, i < t.args.length → metasB (t.arg i) = false := fun i hi => by
        have h1 := (firstE_zero _ _).1 h0 i hi
        have h2 := ih _ (arg_mem hi) (n + bnd t i) (node_args hn i hi)
        unfold fillF at h1
        rw [h1] at h2
        cases hb : metasB (t.arg i)
        · rfl
        · rw [hb] at h2; simp at h2
      have hk : t.kind = 6 := by
        by_cases hk : t.kind = 6
        · exact hk
        · have := metasB_no.2 ⟨hk, hall⟩
          rw [this] at hm; cases hm
      unfold fillN
      rw [if_neg (by simpa using hk), if_pos (by simpa using node_head (node_here hn))]
      rfl
    · rw [if_neg h0]
      obtain ⟨j, hj, h1, _⟩ := firstE_at _ _ h0
      have h2 := ih _ (arg_mem hj) (n + bnd t j) (node_args hn j hj)
      have h1 : (fillT A mayL [] (t.arg j) (n + bnd t j)).2 = _ := h1
      rw [h1] at h2
      simp only [if_true]
      rw [h2]
      split
      · rfl
      · rename_i hb
        rw [if_neg hb] at h2
        exact absurd h2 h0
end
end Go.Proofs.Ytmemmdfjlhamfaa
