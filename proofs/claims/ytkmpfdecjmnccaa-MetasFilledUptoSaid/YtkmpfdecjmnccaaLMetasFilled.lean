/- What has a type over metas has, filled with terms for these, over others, what its type is then. (For every input of bulk at most 2^20.) -/
import Derived.Test.YtkmpfdecjmnccaaB7
import Derived.JoinedCond
import Derived.ProofKit
set_option linter.unusedVariables false
set_option linter.unusedSimpArgs false
set_option maxRecDepth 100000
namespace Go.Proofs.Ytkmpfdecjmnccaa.metasFilled
open Go.Proofs Go.Proofs.Ytkmpfdecjmnccaa Go.ChangeShapes Go.WideShapes Go.ChangeAt Go.RowKit
def S : List Nat := [22, 61, 9, 26, 24, 3, 23, 46, 4]
theorem plain : plainT C.P S = true := by kernel_rfl
theorem contract (H : Type) (enc' : TypeId × Value → H) (W : World) (base : Nat) (args : Array Value) (ds gs : List (DataW H)) (before : List MemPlace)
    (hval : ∀ (j : Nat) t v, Try.f3.params[j]? = some t → args[j]? = some v → Value.okWide Try.prog W .any base t v)
    (hW : DataW.Whole enc' Try.prog Try.f3.params.toList Rows.metasFilledSpec.vars false W args.toList ds gs before) (hk : Rows.uptoSmall H (ds ++ gs) = true) :
    Calls Try.prog 3 args W fun e W' => ∃ v, e = .returned v ∧ Rows.metasFilledSpec.post enc' Try.prog Try.f3 false true false false W args v W' := by
  have hr : room = 1099511627776 := rfl
  have hb := small_bulk hk
  have hW' := hW
  obtain ⟨p, q, h1, hV, rfl, _, _⟩ := hW'
  rw [Try.params3] at h1
  obtain ⟨v1, vs1, d1, ds1, p1, q1, hargs, rfl, rfl, r1, h2⟩ := trodAll_cons h1
  obtain ⟨v2, vs2, d2, ds2, p2, q2, rfl, rfl, rfl, r2, h3⟩ := trodAll_cons h2
  obtain ⟨v3, vs3, d3, ds3, p3, q3, rfl, rfl, rfl, r3, h4⟩ := trodAll_cons h3
  obtain ⟨v4, vs4, d4, ds4, p4, q4, rfl, rfl, rfl, r4, h5⟩ := trodAll_cons h4
  obtain ⟨v5, vs5, d5, ds5, p5, q5, rfl, rfl, rfl, r5, h6⟩ := trodAll_cons h5
  obtain ⟨v6, vs6, d6, ds6, p6, q6, rfl, rfl, rfl, r6, h7⟩ := trodAll_cons h6
  obtain ⟨v7, vs7, d7, ds7, p7, q7, rfl, rfl, rfl, r7, h8⟩ := trodAll_cons h7
  obtain ⟨rfl, rfl, rfl⟩ := trodAll_nil h8
  obtain ⟨rfl, rfl⟩ := trodVars_none hV
  obtain ⟨t1, e1, w1, s1⟩ := decls_arg r1
  obtain ⟨t2, e2, w2, s2⟩ := metas_arg r2
  obtain ⟨t3, e3, w3, s3⟩ := metas_arg r3
  obtain ⟨t4, e4, w4, s4⟩ := tms_arg r4
  obtain ⟨t5, e5, w5, s5⟩ := tms_arg r5
  obtain ⟨t6, e6, w6, s6⟩ := tm_arg r6
  obtain ⟨t7, e7, w7, s7⟩ := tm_arg r7
  simp only [List.append_nil, List.cons_append, List.nil_append, Rows.uptoBulkAll] at hb
  obtain ⟨hp, hl⟩ := metasFilled_holds t1 w1 (by omega) t2 w2 (by omega) t3 w3 (by omega) t4 w4 (by omega) t5 w5 (by omega) t6 w6 (by omega) t7 w7 (by omega)
  refine law_calls fine plain (by rw [Try.params3]; decide) rfl (bt := 4) rfl Try.underlying4 hval hW rfl (heap' := hp) ?_
  simp only [List.map_cons, List.map_nil, e1, e2, e3, e4, e5, e6, e7]
  exact hl
theorem lifted (os : Os) (started : os.Started) (H : Type) (enc : TypeId × Value → H) (F : Stop.Interp) :
    ReturnsInHanded {} Try.checked os 3 .any ((Rows.OpenSpec.upto Rows.metasFilledSpec).pre6 enc Try.prog Try.f3 Rows.metasFilledUptoRow.domain false) (((Rows.OpenSpec.upto Rows.metasFilledSpec).at F).post enc Try.prog Try.f3 false true false false) := by
  refine returnsInHanded_of_cond (C := Try.checked) (s := Rows.OpenSpec.upto Rows.metasFilledSpec) (k := Rows.uptoSmall) rfl own_knob started (by kernel_rfl) Try.func3
    (OpenSpec.witness (enc := enc) (C := Try.checked) (s := Rows.OpenSpec.upto Rows.metasFilledSpec) (k := Rows.uptoSmall) rfl false ⟨#[], #[.slice none 0 0, .slice none 0 0, .slice none 0 0, .slice none 0 0, .slice none 0 0, .agg #[.int .i64 0, .int .i64 0, .slice none 0 0], .agg #[.int .i64 0, .int .i64 0, .slice none 0 0]], []⟩ 8 (by kernel_rfl) (by kernel_rfl) (by kernel_rfl)
      (x := ([.nil, .nil, .nil, .nil, .nil, .agg [.lit (.int .i64 0), .lit (.int .i64 0), .nil], .agg [.lit (.int .i64 0), .lit (.int .i64 0), .nil]], [], [])) (by kernel_rfl) rfl (by kernel_rfl)) ?_
  intro W base args ds gs before hval hW _ hk _
  exact contract H enc W base args ds gs before hval hW hk
theorem holds : Rows.MetasFilledUptoSaid :=
  OpenClaim.holds_of_cond 3 Try.f3 rfl rfl rfl rfl rfl rfl rfl ⟨rfl, rfl, rfl, rfl, rfl⟩ rfl rfl rfl rfl rfl (by kernel_rfl) Try.func3 (by kernel_rfl)
    (of_decide_eq_true (by kernel_rfl)) (by unfold Func.isWrapper; first | (rw [if_pos (by decide +kernel)]; kernel_rfl) | (rw [if_neg (by decide +kernel)]; exact ⟨rfl, rfl⟩))
    (fun os started H enc _ F => lifted os started H enc F)
end Go.Proofs.Ytkmpfdecjmnccaa.metasFilled
