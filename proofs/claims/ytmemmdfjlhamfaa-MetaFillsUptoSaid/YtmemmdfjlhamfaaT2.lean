/- Arguments of a law: lists of numbers, as they are read. -/
import Derived.Test.YtmemmdfjlhamfaaT0
set_option linter.unusedVariables false
set_option linter.unusedSimpArgs false
namespace Go.Proofs.Ytmemmdfjlhamfaa
open Go.Proofs Go.ChangeShapes
def encI (n : Int) : Dv := .int .i64 n
def encIs (l : List Int) : List Dv := l.map encI
section
variable {H : Type} {enc' : TypeId × Value → H} {W : World} {held : Bool}
theorem ints_arg {v : Value} {d : DataW H} {ps : List MemPlace} (h : DataW.Trod enc' Try.prog W 0 (fun _ => true) held 33 v d ps) : ∃ l : List Int, dv d = .slc (encIs l) ∧ (∀ n ∈ l, in64 n) ∧ l.length + 1 ≤ Rows.uptoBulk d := by
  obtain ⟨fuel, h⟩ := h
  rcases DataW.trod_slice Try.underlying33 h with ⟨_, hx⟩ | ⟨a, len, cap, elems, rest, n, hn, _, hx, _, hlc, _, hel, hget, _, _⟩
  · obtain rfl : d = .nil := congrArg Prod.fst hx
    exact ⟨[], rfl, by simp, by simp [Rows.uptoBulk]⟩
  · obtain rfl : d = _ := congrArg Prod.fst hx
    obtain ⟨l, h1, h2⟩ := list_of (P := fun (y : DataW H × List MemPlace) (t : Int) => y.1 = .lit (.int .i64 t) ∧ in64 t) elems fun y hy => by
      obtain ⟨i, hi⟩ := List.mem_iff_getElem?.1 hy
      have hlt := (List.getElem?_eq_some_iff.1 hi).1
      have := hget i (by omega)
      rw [hi] at this
      obtain ⟨cs, _, hx⟩ := Option.bind_eq_some_iff.1 this
      obtain ⟨t, _, k2, k3⟩ := int_read hx
      exact ⟨t, k3, k2⟩
    have key : ∀ (es : List (DataW H × List MemPlace)) (l : List Int), l.length = es.length → (∀ (i : Nat) y t, es[i]? = some y → l[i]? = some t → y.1 = .lit (.int .i64 t) ∧ in64 t) →
        dvs (es.map (·.1)) = encIs l ∧ (∀ t ∈ l, in64 t) ∧ l.length ≤ Rows.uptoBulkAll (es.map (·.1)) := by
      intro es
      induction es with
      | nil =>
        intro l hl _
        obtain rfl : l = [] := List.eq_nil_of_length_eq_zero (by simpa using hl)
        exact ⟨rfl, by simp, by simp⟩
      | cons y es ih =>
        intro l hl hp
        cases l with
        | nil => simp at hl
        | cons t l =>
          obtain ⟨k1, k2⟩ := hp 0 y t rfl rfl
          obtain ⟨j1, j2, j3⟩ := ih l (by simpa using hl) fun i a b ha hb => hp (i + 1) a b (by simpa using ha) (by simpa using hb)
          refine ⟨?_, fun x hx => ?_, ?_⟩
          · simp only [List.map_cons, dvs, k1, j1]; rfl
          · rcases List.mem_cons.1 hx with rfl | hx
            · exact k2
            · exact j2 x hx
          · simp only [List.map_cons, Rows.uptoBulkAll, List.length_cons, k1, Rows.uptoBulk]
            omega
    obtain ⟨k1, k2, k3⟩ := key elems l h1 h2
    refine ⟨l, by simp only [dv, k1], k2, ?_⟩
    simp only [Rows.uptoBulk]
    omega
end
end Go.Proofs.Ytmemmdfjlhamfaa
