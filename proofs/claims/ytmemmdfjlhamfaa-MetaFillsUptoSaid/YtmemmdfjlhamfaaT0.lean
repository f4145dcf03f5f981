/- Arguments of a law: terms, as they are read. -/
import Derived.Test.YtmemmdfjlhamfaaKE
import Derived.Test.YtmemmdfjlhamfaaP2
import Derived.Test.YtmemmdfjlhamfaaRows
set_option linter.unusedVariables false
set_option linter.unusedSimpArgs false
namespace Go.Proofs.Ytmemmdfjlhamfaa
open Go.Proofs Go.ChangeShapes
def in64 (n : Int) : Prop := -9223372036854775808 ≤ n ∧ n ≤ 9223372036854775807
inductive Wf : Tm → Prop where
  | mk {t : Tm} : in64 t.kind → in64 t.head → (∀ x ∈ t.args, Wf x) → Wf t
theorem Wf.args {t : Tm} (h : Wf t) : ∀ x ∈ t.args, Wf x := by cases h; assumption
theorem Wf.kind {t : Tm} (h : Wf t) : in64 t.kind := by cases h; assumption
theorem Wf.head {t : Tm} (h : Wf t) : in64 t.head := by cases h; assumption
theorem Wf.pre {t : Tm} (h : Wf t) : ∀ (n : Int), ∀ q ∈ pre t n, Wf q.2 := by
  induction h with
  | mk h1 h2 h3 ih =>
    intro n
    refine pre_ind (.mk h1 h2 h3) fun i hi p hp => ih _ (arg_mem hi) _ p hp
theorem int_wf {n : Int} (h : (Lit.int .i64 n).wf = true) : in64 n := by
  simpa [Lit.wf, IntKind.min, IntKind.max, IntKind.signed, IntKind.bits, in64] using h
section
variable {H : Type} {enc' : TypeId × Value → H} {W : World} {held : Bool}
theorem list_of {α β : Type} {P : α → β → Prop} : ∀ l : List α, (∀ x ∈ l, ∃ y, P x y) → ∃ r : List β, r.length = l.length ∧ ∀ (i : Nat) (x : α) (y : β), l[i]? = some x → r[i]? = some y → P x y
  | [], _ => ⟨[], rfl, fun i x y h => by simp at h⟩
  | x :: l, h => by
    obtain ⟨y, hy⟩ := h x (by simp)
    obtain ⟨r, h1, h2⟩ := list_of l fun z hz => h z (by simp [hz])
    refine ⟨y :: r, by simp [h1], fun i a b ha hb => ?_⟩
    cases i with
    | zero => simp at ha hb; subst ha hb; exact hy
    | succ i => exact h2 i a b (by simpa using ha) (by simpa using hb)
theorem int_read {fuel : Nat} {cs : List Value} {x : DataW H × List MemPlace} (h : DataW.trod enc' Try.prog W 0 (fun _ => true) held fuel 3 cs = some x) : ∃ n, dv x.1 = .int .i64 n ∧ in64 n ∧ x.1 = .lit (.int .i64 n) := by
  obtain ⟨n, _, rfl, hw⟩ := DataW.trod_int Try.underlying3 h
  exact ⟨n, rfl, int_wf hw, rfl⟩
theorem tms_read {fuel : Nat} (ih : ∀ m, m < fuel → ∀ (cs : List Value) (x : DataW H × List MemPlace), DataW.trod enc' Try.prog W 0 (fun _ => true) held m 24 cs = some x → ∃ t : Tm, dv x.1 = enc t ∧ Wf t ∧ t.size ≤ Rows.uptoBulk x.1)
    {cs : List Value} {x : DataW H × List MemPlace} (h : DataW.trod enc' Try.prog W 0 (fun _ => true) held fuel 22 cs = some x) : ∃ l : List Tm, dv x.1 = .slc (encs l) ∧ (∀ t ∈ l, Wf t) ∧ (l.map Tm.size).sum + 1 ≤ Rows.uptoBulk x.1 := by
  rcases DataW.trod_slice Try.underlying22 h with ⟨rfl, rfl⟩ | ⟨a, len, cap, elems, rest, n, hn, rfl, rfl, _, hlc, _, hel, hget, _, _⟩
  · exact ⟨[], rfl, by simp, by simp [Rows.uptoBulk]⟩
  · obtain ⟨l, h1, h2⟩ := list_of (P := fun (y : DataW H × List MemPlace) (t : Tm) => dv y.1 = enc t ∧ Wf t ∧ t.size ≤ Rows.uptoBulk y.1) elems fun y hy => by
      obtain ⟨i, hi⟩ := List.mem_iff_getElem?.1 hy
      have hlt := (List.getElem?_eq_some_iff.1 hi).1
      have := hget i (by omega)
      rw [hi] at this
      obtain ⟨cs, _, hx⟩ := Option.bind_eq_some_iff.1 this
      exact ih n (by omega) cs y hx
    have key : ∀ (es : List (DataW H × List MemPlace)) (l : List Tm), l.length = es.length → (∀ (i : Nat) y t, es[i]? = some y → l[i]? = some t → dv y.1 = enc t ∧ Wf t ∧ t.size ≤ Rows.uptoBulk y.1) →
        dvs (es.map (·.1)) = encs l ∧ (∀ t ∈ l, Wf t) ∧ (l.map Tm.size).sum ≤ Rows.uptoBulkAll (es.map (·.1)) := by
      intro es
      induction es with
      | nil =>
        intro l hl _
        obtain rfl : l = [] := List.eq_nil_of_length_eq_zero (by simpa using hl)
        exact ⟨rfl, by simp, by simp⟩
      | cons y es ih =>
        intro l hl hp
        cases l with
        | nil => simp at hl
        | cons t l =>
          obtain ⟨k1, k2, k3⟩ := hp 0 y t rfl rfl
          obtain ⟨j1, j2, j3⟩ := ih l (by simpa using hl) fun i a b ha hb => hp (i + 1) a b (by simpa using ha) (by simpa using hb)
          refine ⟨?_, fun x hx => ?_, ?_⟩
          · simp only [List.map_cons, dvs, k1, j1]; rfl
          · rcases List.mem_cons.1 hx with rfl | hx
            · exact k2
            · exact j2 x hx
          · simp only [List.map_cons, List.sum_cons, Rows.uptoBulkAll]
            omega
    obtain ⟨k1, k2, k3⟩ := key elems l h1 h2
    refine ⟨l, by simp only [dv, k1], k2, ?_⟩
    simp only [Rows.uptoBulk]
    omega
theorem tm_read : ∀ (fuel : Nat) (cs : List Value) (x : DataW H × List MemPlace), DataW.trod enc' Try.prog W 0 (fun _ => true) held fuel 24 cs = some x → ∃ t : Tm, dv x.1 = enc t ∧ Wf t ∧ t.size ≤ Rows.uptoBulk x.1 := by
  intro fuel
  induction fuel using Nat.strongRecOn with
  | ind fuel ih =>
    intro cs x h
    obtain ⟨xs, n, hn, rfl, hl, hxl, hg⟩ := DataW.trod_struct Try.underlying24 h
    obtain ⟨a, b, c, rfl⟩ : ∃ a b c, xs = [a, b, c] := by
      match xs, hxl with
      | [a, b, c], _ => exact ⟨a, b, c, rfl⟩
    have h0 := hg 0 _ rfl
    have h1 := hg 1 _ rfl
    have h2 := hg 2 _ rfl
    simp only [List.getElem?_cons_zero, List.getElem?_cons_succ] at h0 h1 h2
    obtain ⟨k, k1, k2, k3⟩ := int_read h0
    obtain ⟨d, d1, d2, d3⟩ := int_read h1
    obtain ⟨l, l1, l2, l3⟩ := tms_read (fuel := n) (fun m hm => ih m (by omega)) h2
    refine ⟨.mk k d l, ?_, .mk k2 d2 l2, ?_⟩
    · rw [enc_mk]
      simp only [List.map_cons, List.map_nil, dv, dcs, k1, d1, l1, Dv.cells, List.cons_append, List.nil_append]
    · rw [size_eq]
      simp only [List.map_cons, List.map_nil, Rows.uptoBulk, Rows.uptoBulkAll, Tm.args]
      omega
theorem tm_arg {v : Value} {d : DataW H} {ps : List MemPlace} (h : DataW.Trod enc' Try.prog W 0 (fun _ => true) held 24 v d ps) : ∃ t : Tm, dv d = enc t ∧ Wf t ∧ t.size ≤ Rows.uptoBulk d := by
  obtain ⟨fuel, h⟩ := h
  exact tm_read fuel _ _ h
theorem tms_arg {v : Value} {d : DataW H} {ps : List MemPlace} (h : DataW.Trod enc' Try.prog W 0 (fun _ => true) held 22 v d ps) : ∃ l : List Tm, dv d = .slc (encs l) ∧ (∀ t ∈ l, Wf t) ∧ (l.map Tm.size).sum + 1 ≤ Rows.uptoBulk d := by
  obtain ⟨fuel, h⟩ := h
  exact tms_read (fun m _ => tm_read m) h
theorem int_arg {v : Value} {d : DataW H} {ps : List MemPlace} (h : DataW.Trod enc' Try.prog W 0 (fun _ => true) held 3 v d ps) : ∃ n, dv d = .int .i64 n ∧ in64 n := by
  obtain ⟨fuel, h⟩ := h
  obtain ⟨n, h1, h2, _⟩ := int_read h
  exact ⟨n, h1, h2⟩
end
theorem own_knob : ownKnob Try.prog.godebug = none := by kernel_rfl
theorem small_bulk {H : Type} {l : List (DataW H)} (hk : Rows.uptoSmall H l = true) : Rows.uptoBulkAll l ≤ 1048576 := of_decide_eq_true hk
end Go.Proofs.Ytmemmdfjlhamfaa
