/- Laws of layer 3: SubstUnder, SubstUp, SubstWeakens. -/
import Derived.Test.YtmemmdfjlhamfaaF26
set_option linter.unusedSimpArgs false
set_option linter.unusedVariables false
set_option maxRecDepth 100000
namespace Go.Proofs.Ytmemmdfjlhamfaa
open Go.Proofs
theorem encS_mk (l : List Tm) (n : Int) : Dv.agg [.slc (encs l), .int .i64 n] = encS ⟨l, n⟩ := rfl
theorem cells_mkS (l : List Tm) (n : Int) : AV.cells (.d (encS ⟨l, n⟩)) = [dL l, dI n] := rfl
theorem smay_of {l : List Tm} {n : Int} (h1 : l.length ≤ 200) (h2 : 0 ≤ n) (h3 : n ≤ 1048576) (h4 : ∀ x ∈ l, mayB x = true) : smayB ⟨l, n⟩ = true := by
  unfold smayB
  have := maysB_iff.2 h4
  simp [this, h2, h3]
  omega
theorem smay_under {s : Sb} (h : smayB s = true) (hl : s.L.length + 1 ≤ 200) (hs : s.sh + 1 ≤ 1048576) : smayB (underS s) = true := by
  obtain ⟨h1, h2, h3, h4⟩ := smay_parts h
  refine smay_of (by simp; omega) (by omega) (by omega) fun x hx => ?_
  simp only [List.mem_append, List.mem_map, List.mem_singleton] at hx
  rcases hx with ⟨y, hy, rfl⟩ | rfl
  · exact up_may (h4 y hy) (by omega) 0
  · exact may_var0
theorem vle_under {s : Sb} {c d : Int} (h : ∀ x ∈ s.L, vleB c x = true) (hc : 0 ≤ c) (hd : c + 1 ≤ d) : ∀ x ∈ (underS s).L, vleB d x = true := by
  intro x hx
  simp only [underS, List.mem_append, List.mem_map, List.mem_singleton] at hx
  rcases hx with ⟨y, hy, rfl⟩ | rfl
  · exact vle_mono hd (vle_up (h y hy) (by omega) 0)
  · exact vle_var (by omega)
theorem ofS_may {s : Sb} (h : smayB s = true) {i : Int} (h0 : 0 ≤ i) : mayB (ofS s i) = true := by
  obtain ⟨h1, h2, h3, h4⟩ := smay_parts h
  unfold ofS
  split
  · exact h4 _ (getD_mem (by omega))
  · exact leaf_var (by omega)
theorem apply_var {s : Sb} (h : smayB s = true) {i : Int} (h0 : 0 ≤ i) : applyR (.mk 4 i []) s = (ofS s i, 0) := by
  unfold applyR
  rw [leaf_var h0, h, Bool.and_self, if_pos rfl, show (40000 : Nat) = 39999 + 1 from rfl, ap_leaf _ _ _ _ _ (by decide), if_pos rfl]
  simp only [outD, ofS_may h h0, if_true]
theorem light_size {t : Tm} {s d : Int} (h : lightB t s d = true) : (t.size : Int) ≤ s ∧ (t.depth : Int) ≤ d := by
  unfold lightB at h
  simp only [Bool.and_eq_true, decide_eq_true_eq] at h
  exact ⟨h.1.2, h.2⟩
theorem lists_room {l : List Tm} (hs : (l.map Tm.size).sum + 1 ≤ 1048576) : l.length < room ∧ ∀ x ∈ l, x.size < room := by
  have hr : room = 1099511627776 := rfl
  have := len_sum l
  refine ⟨by omega, fun x hx => ?_⟩
  have := sum_mem (List.mem_map_of_mem (f := Tm.size) hx)
  omega
def und_L (l : List Tm) (n i : Int) (k : Nat) : St := mk 102 [(0, dL l), (1, dI n), (2, dI i), (9, dI k)] [] [] []
end Go.Proofs.Ytmemmdfjlhamfaa
