/- What is wrong with any metas, and with any terms for these, is what the document says. (For every input of bulk at most 2^20.) -/
import Derived.Test.YtkmpfdecjmnccaaGreatB6
import Derived.JoinedCond
import Derived.ProofKit
set_option linter.unusedVariables false
set_option linter.unusedSimpArgs false
set_option maxRecDepth 100000
namespace Go.Proofs.YtkmpfdecjmnccaaGreat.metasTell
open Go.Proofs Go.Proofs.YtkmpfdecjmnccaaGreat Go.ChangeShapes Go.WideShapes Go.ChangeAt Go.RowKit
def S : List Nat := [22, 64, 9, 26, 24, 3, 23, 32, 4]
theorem plain : plainT C.P S = true := by kernel_rfl
theorem contract (H : Type) (enc' : TypeId × Value → H) (W : World) (base : Nat) (args : Array Value) (ds gs : List (DataW H)) (before : List MemPlace)
    (hval : ∀ (j : Nat) t v, Tryz.f4.params[j]? = some t → args[j]? = some v → Value.okWide Tryz.prog W .any base t v)
    (hW : DataW.Whole enc' Tryz.prog Tryz.f4.params.toList Rows.metasTellSpec.vars false W args.toList ds gs before) (hk : Rows.uptoSmall H (ds ++ gs) = true) :
    Calls Tryz.prog 4 args W fun e W' => ∃ v, e = .returned v ∧ Rows.metasTellSpec.post enc' Tryz.prog Tryz.f4 false true false false W args v W' := by
  have hr : room = 1099511627776 := rfl
  have hb := small_bulk hk
  have hW' := hW
  obtain ⟨p, q, h1, hV, rfl, _, _⟩ := hW'
  rw [Tryz.params4] at h1
  obtain ⟨v1, vs1, d1, ds1, p1, q1, hargs, rfl, rfl, r1, h2⟩ := trodAll_cons h1
  obtain ⟨v2, vs2, d2, ds2, p2, q2, rfl, rfl, rfl, r2, h3⟩ := trodAll_cons h2
  obtain ⟨v3, vs3, d3, ds3, p3, q3, rfl, rfl, rfl, r3, h4⟩ := trodAll_cons h3
  obtain ⟨v4, vs4, d4, ds4, p4, q4, rfl, rfl, rfl, r4, h5⟩ := trodAll_cons h4
  obtain ⟨v5, vs5, d5, ds5, p5, q5, rfl, rfl, rfl, r5, h6⟩ := trodAll_cons h5
  obtain ⟨rfl, rfl, rfl⟩ := trodAll_nil h6
  obtain ⟨rfl, rfl⟩ := trodVars_none hV
  obtain ⟨t1, e1, w1, s1⟩ := decls_arg r1
  obtain ⟨t2, e2, w2, s2⟩ := metas_arg r2
  obtain ⟨t3, e3, w3, s3⟩ := tms_arg r3
  obtain ⟨t4, e4, w4, s4⟩ := metas_arg r4
  obtain ⟨t5, e5, w5, s5⟩ := tms_arg r5
  simp only [List.append_nil, List.cons_append, List.nil_append, Rows.uptoBulkAll] at hb
  obtain ⟨hp, hl⟩ := metasTell_holds t1 w1 (by omega) t2 w2 (by omega) t3 w3 (by omega) t4 w4 (by omega) t5 w5 (by omega)
  refine law_calls fine plain (by rw [Tryz.params4]; decide) rfl (bt := 4) rfl Tryz.underlying4 hval hW rfl (heap' := hp) ?_
  simp only [List.map_cons, List.map_nil, e1, e2, e3, e4, e5]
  exact hl
theorem lifted (os : Os) (started : os.Started) (H : Type) (enc : TypeId × Value → H) (F : Stop.Interp) :
    ReturnsInHanded {} Tryz.checked os 4 .any ((Rows.OpenSpec.upto Rows.metasTellSpec).pre6 enc Tryz.prog Tryz.f4 Rows.metasTellUptoRow.domain false) (((Rows.OpenSpec.upto Rows.metasTellSpec).at F).post enc Tryz.prog Tryz.f4 false true false false) := by
  refine returnsInHanded_of_cond (C := Tryz.checked) (s := Rows.OpenSpec.upto Rows.metasTellSpec) (k := Rows.uptoSmall) rfl own_knob started (by kernel_rfl) Tryz.func4
    (OpenSpec.witness (enc := enc) (C := Tryz.checked) (s := Rows.OpenSpec.upto Rows.metasTellSpec) (k := Rows.uptoSmall) rfl false ⟨#[], #[.slice none 0 0, .slice none 0 0, .slice none 0 0, .slice none 0 0, .slice none 0 0], []⟩ 8 (by kernel_rfl) (by kernel_rfl) (by kernel_rfl)
      (x := ([.nil, .nil, .nil, .nil, .nil], [], [])) (by kernel_rfl) rfl (by kernel_rfl)) ?_
  intro W base args ds gs before hval hW _ hk _
  exact contract H enc W base args ds gs before hval hW hk
theorem holds : Rows.MetasTellUptoSaid :=
  OpenClaim.holds_of_cond 4 Tryz.f4 rfl rfl rfl rfl rfl rfl rfl ⟨rfl, rfl, rfl, rfl, rfl⟩ rfl rfl rfl rfl rfl (by kernel_rfl) Tryz.func4 (by kernel_rfl)
    (of_decide_eq_true (by kernel_rfl)) (by unfold Func.isWrapper; first | (rw [if_pos (by decide +kernel)]; kernel_rfl) | (rw [if_neg (by decide +kernel)]; exact ⟨rfl, rfl⟩))
    (fun os started H enc _ F => lifted os started H enc F)
end Go.Proofs.YtkmpfdecjmnccaaGreat.metasTell
