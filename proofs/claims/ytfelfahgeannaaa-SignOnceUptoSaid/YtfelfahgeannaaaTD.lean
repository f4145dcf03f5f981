/- Arguments of a law: declarations, as they are read. -/
import Derived.Test.YtfelfahgeannaaaT0
import Derived.Test.YtfelfahgeannaaaF14
set_option linter.unusedVariables false
set_option linter.unusedSimpArgs false
namespace Go.Proofs.Ytfelfahgeannaaa
open Go.Proofs Go.ChangeShapes
def dsum (l : List Dc) : Nat := (l.map fun d => d.t.size).sum + l.length
theorem dsum_len {l : List Dc} : l.length ≤ dsum l := by unfold dsum; omega
theorem dsum_mem {l : List Dc} {d : Dc} (h : d ∈ l) : d.t.size ≤ dsum l := by
  unfold dsum
  have := sum_mem (List.mem_map_of_mem (f := fun d : Dc => d.t.size) h)
  omega
section
variable {H : Type} {enc' : TypeId × Value → H} {W : World} {held : Bool}
theorem decl_read {fuel : Nat} {cs : List Value} {x : DataW H × List MemPlace} (h : DataW.trod enc' Try.prog W 0 (fun _ => true) held fuel 39 cs = some x) : ∃ d : Dc, dv x.1 = encD d ∧ Wf d.t ∧ d.t.size + 1 ≤ Rows.uptoBulk x.1 := by
  obtain ⟨xs, n, hn, rfl, hl, hxl, hg⟩ := DataW.trod_struct Try.underlying39 h
  obtain ⟨a, b, rfl⟩ : ∃ a b, xs = [a, b] := by
    match xs, hxl with
    | [a, b], _ => exact ⟨a, b, rfl⟩
  have h0 := hg 0 _ rfl
  have h1 := hg 1 _ rfl
  simp only [List.getElem?_cons_zero, List.getElem?_cons_succ] at h0 h1
  obtain ⟨s, _, rfl, _⟩ := DataW.trod_string Try.underlying9 h0
  obtain ⟨t, t1, t2, t3⟩ := tm_read _ _ _ h1
  refine ⟨⟨s, t⟩, ?_, t2, ?_⟩
  · simp only [List.map_cons, List.map_nil, dv, dcs, t1, Dv.cells, enc_cells, List.cons_append, List.nil_append, List.append_nil, encD]
    rw [enc_eq]
  · simp only [List.map_cons, List.map_nil, Rows.uptoBulk, Rows.uptoBulkAll]
    omega
theorem decl_arg {v : Value} {d : DataW H} {ps : List MemPlace} (h : DataW.Trod enc' Try.prog W 0 (fun _ => true) held 39 v d ps) : ∃ t : Dc, dv d = encD t ∧ Wf t.t ∧ t.t.size + 1 ≤ Rows.uptoBulk d := by
  obtain ⟨fuel, h⟩ := h
  exact decl_read h
theorem decls_arg {v : Value} {d : DataW H} {ps : List MemPlace} (h : DataW.Trod enc' Try.prog W 0 (fun _ => true) held 25 v d ps) : ∃ l : List Dc, dv d = .slc (encDs l) ∧ (∀ t ∈ l, Wf t.t) ∧ dsum l + 1 ≤ Rows.uptoBulk d := by
  obtain ⟨fuel, h⟩ := h
  rcases DataW.trod_slice Try.underlying25 h with ⟨_, hx⟩ | ⟨a, len, cap, elems, rest, n, hn, _, hx, _, hlc, _, hel, hget, _, _⟩
  · obtain rfl : d = .nil := congrArg Prod.fst hx
    exact ⟨[], rfl, by simp, by simp [Rows.uptoBulk, dsum]⟩
  · obtain rfl : d = _ := congrArg Prod.fst hx
    obtain ⟨l, h1, h2⟩ := list_of (P := fun (y : DataW H × List MemPlace) (t : Dc) => dv y.1 = encD t ∧ Wf t.t ∧ t.t.size + 1 ≤ Rows.uptoBulk y.1) elems fun y hy => by
      obtain ⟨i, hi⟩ := List.mem_iff_getElem?.1 hy
      have hlt := (List.getElem?_eq_some_iff.1 hi).1
      have := hget i (by omega)
      rw [hi] at this
      obtain ⟨cs, _, hx⟩ := Option.bind_eq_some_iff.1 this
      exact decl_read hx
    have key : ∀ (es : List (DataW H × List MemPlace)) (l : List Dc), l.length = es.length → (∀ (i : Nat) y t, es[i]? = some y → l[i]? = some t → dv y.1 = encD t ∧ Wf t.t ∧ t.t.size + 1 ≤ Rows.uptoBulk y.1) →
        dvs (es.map (·.1)) = encDs l ∧ (∀ t ∈ l, Wf t.t) ∧ dsum l ≤ Rows.uptoBulkAll (es.map (·.1)) := by
      intro es
      induction es with
      | nil =>
        intro l hl _
        obtain rfl : l = [] := List.eq_nil_of_length_eq_zero (by simpa using hl)
        exact ⟨rfl, by simp, by simp [dsum]⟩
      | cons y es ih =>
        intro l hl hp
        cases l with
        | nil => simp at hl
        | cons t l =>
          obtain ⟨k1, k2, k3⟩ := hp 0 y t rfl rfl
          obtain ⟨j1, j2, j3⟩ := ih l (by simpa using hl) fun i a b ha hb => hp (i + 1) a b (by simpa using ha) (by simpa using hb)
          refine ⟨?_, fun x hx => ?_, ?_⟩
          · simp only [List.map_cons, dvs, k1, j1]; rfl
          · rcases List.mem_cons.1 hx with rfl | hx
            · exact k2
            · exact j2 x hx
          · unfold dsum at j3 ⊢
            simp only [List.map_cons, List.sum_cons, Rows.uptoBulkAll, List.length_cons]
            omega
    obtain ⟨k1, k2, k3⟩ := key elems l h1 h2
    refine ⟨l, by simp only [dv, k1], k2, ?_⟩
    simp only [Rows.uptoBulk]
    omega
end
end Go.Proofs.Ytfelfahgeannaaa
