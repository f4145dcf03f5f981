/- Terms that are not as many as the metas are refused; a Param with entries, and a meta of a function's type, too. (For every input of bulk at most 2^20.) -/
import Derived.Test.YtkmpfdecjmnccaaGreatB6
import Derived.JoinedCond
import Derived.ProofKit
set_option linter.unusedVariables false
set_option linter.unusedSimpArgs false
set_option maxRecDepth 100000
namespace Go.Proofs.YtkmpfdecjmnccaaGreat.metasCount
open Go.Proofs Go.Proofs.YtkmpfdecjmnccaaGreat Go.ChangeShapes Go.WideShapes Go.ChangeAt Go.RowKit
def S : List Nat := [22, 64, 9, 26, 24, 3, 23, 32, 4]
theorem plain : plainT C.P S = true := by kernel_rfl
theorem contract (H : Type) (enc' : TypeId × Value → H) (W : World) (base : Nat) (args : Array Value) (ds gs : List (DataW H)) (before : List MemPlace)
    (hval : ∀ (j : Nat) t v, Tryz.f3.params[j]? = some t → args[j]? = some v → Value.okWide Tryz.prog W .any base t v)
    (hW : DataW.Whole enc' Tryz.prog Tryz.f3.params.toList Rows.metasCountSpec.vars false W args.toList ds gs before) (hk : Rows.uptoSmall H (ds ++ gs) = true) :
    Calls Tryz.prog 3 args W fun e W' => ∃ v, e = .returned v ∧ Rows.metasCountSpec.post enc' Tryz.prog Tryz.f3 false true false false W args v W' := by
  have hr : room = 1099511627776 := rfl
  have hb := small_bulk hk
  have hW' := hW
  obtain ⟨p, q, h1, hV, rfl, _, _⟩ := hW'
  rw [Tryz.params3] at h1
  obtain ⟨v1, vs1, d1, ds1, p1, q1, hargs, rfl, rfl, r1, h2⟩ := trodAll_cons h1
  obtain ⟨v2, vs2, d2, ds2, p2, q2, rfl, rfl, rfl, r2, h3⟩ := trodAll_cons h2
  obtain ⟨v3, vs3, d3, ds3, p3, q3, rfl, rfl, rfl, r3, h4⟩ := trodAll_cons h3
  obtain ⟨v4, vs4, d4, ds4, p4, q4, rfl, rfl, rfl, r4, h5⟩ := trodAll_cons h4
  obtain ⟨rfl, rfl, rfl⟩ := trodAll_nil h5
  obtain ⟨rfl, rfl⟩ := trodVars_none hV
  obtain ⟨t1, e1, w1, s1⟩ := decls_arg r1
  obtain ⟨t2, e2, w2, s2⟩ := metas_arg r2
  obtain ⟨t3, e3, w3, s3⟩ := tms_arg r3
  obtain ⟨t4, e4, w4, s4⟩ := tm_arg r4
  simp only [List.append_nil, List.cons_append, List.nil_append, Rows.uptoBulkAll] at hb
  obtain ⟨hp, hl⟩ := metasCount_holds t1 w1 (by omega) t2 w2 (by omega) t3 w3 (by omega) t4 w4 (by omega)
  refine law_calls fine plain (by rw [Tryz.params3]; decide) rfl (bt := 4) rfl Tryz.underlying4 hval hW rfl (heap' := hp) ?_
  simp only [List.map_cons, List.map_nil, e1, e2, e3, e4]
  exact hl
theorem lifted (os : Os) (started : os.Started) (H : Type) (enc : TypeId × Value → H) (F : Stop.Interp) :
    ReturnsInHanded {} Tryz.checked os 3 .any ((Rows.OpenSpec.upto Rows.metasCountSpec).pre6 enc Tryz.prog Tryz.f3 Rows.metasCountUptoRow.domain false) (((Rows.OpenSpec.upto Rows.metasCountSpec).at F).post enc Tryz.prog Tryz.f3 false true false false) := by
  refine returnsInHanded_of_cond (C := Tryz.checked) (s := Rows.OpenSpec.upto Rows.metasCountSpec) (k := Rows.uptoSmall) rfl own_knob started (by kernel_rfl) Tryz.func3
    (OpenSpec.witness (enc := enc) (C := Tryz.checked) (s := Rows.OpenSpec.upto Rows.metasCountSpec) (k := Rows.uptoSmall) rfl false ⟨#[], #[.slice none 0 0, .slice none 0 0, .slice none 0 0, .agg #[.int .i64 0, .int .i64 0, .slice none 0 0]], []⟩ 8 (by kernel_rfl) (by kernel_rfl) (by kernel_rfl)
      (x := ([.nil, .nil, .nil, .agg [.lit (.int .i64 0), .lit (.int .i64 0), .nil]], [], [])) (by kernel_rfl) rfl (by kernel_rfl)) ?_
  intro W base args ds gs before hval hW _ hk _
  exact contract H enc W base args ds gs before hval hW hk
theorem holds : Rows.MetasCountUptoSaid :=
  OpenClaim.holds_of_cond 3 Tryz.f3 rfl rfl rfl rfl rfl rfl rfl ⟨rfl, rfl, rfl, rfl, rfl⟩ rfl rfl rfl rfl rfl (by kernel_rfl) Tryz.func3 (by kernel_rfl)
    (of_decide_eq_true (by kernel_rfl)) (by unfold Func.isWrapper; first | (rw [if_pos (by decide +kernel)]; kernel_rfl) | (rw [if_neg (by decide +kernel)]; exact ⟨rfl, rfl⟩))
    (fun os started H enc _ F => lifted os started H enc F)
end Go.Proofs.YtkmpfdecjmnccaaGreat.metasCount
