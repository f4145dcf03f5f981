/- Terms for metas, which have metas of their own, filled with others, are as both at once, for what has no nodes to reduce there. (For every input of bulk at most 2^20.) -/
import Derived.Test.YtobocgjdlchemaaB3
import Derived.JoinedCond
import Derived.ProofKit
set_option linter.unusedVariables false
set_option linter.unusedSimpArgs false
set_option maxRecDepth 100000
namespace Go.Proofs.Ytobocgjdlchemaa.metaTwice
open Go.Proofs Go.Proofs.Ytobocgjdlchemaa Go.ChangeShapes Go.WideShapes Go.ChangeAt Go.RowKit
def S : List Nat := [24, 22, 3]
theorem plain : plainT C.P S = true := by kernel_rfl
theorem contract (H : Type) (enc' : TypeId × Value → H) (W : World) (base : Nat) (args : Array Value) (ds gs : List (DataW H)) (before : List MemPlace)
    (hval : ∀ (j : Nat) t v, Try.f5.params[j]? = some t → args[j]? = some v → Value.okWide Try.prog W .any base t v)
    (hW : DataW.Whole enc' Try.prog Try.f5.params.toList Rows.metaTwiceSpec.vars false W args.toList ds gs before) (hk : Rows.uptoSmall H (ds ++ gs) = true) :
    Calls Try.prog 5 args W fun e W' => ∃ v, e = .returned v ∧ Rows.metaTwiceSpec.post enc' Try.prog Try.f5 false true false false W args v W' := by
  have hr : room = 1099511627776 := rfl
  have hb := small_bulk hk
  have hW' := hW
  obtain ⟨p, q, h1, hV, rfl, _, _⟩ := hW'
  rw [Try.params5] at h1
  obtain ⟨v1, vs1, d1, ds1, p1, q1, hargs, rfl, rfl, r1, h2⟩ := trodAll_cons h1
  obtain ⟨v2, vs2, d2, ds2, p2, q2, rfl, rfl, rfl, r2, h3⟩ := trodAll_cons h2
  obtain ⟨v3, vs3, d3, ds3, p3, q3, rfl, rfl, rfl, r3, h4⟩ := trodAll_cons h3
  obtain ⟨rfl, rfl, rfl⟩ := trodAll_nil h4
  obtain ⟨rfl, rfl⟩ := trodVars_none hV
  obtain ⟨t1, e1, w1, s1⟩ := tm_arg r1
  obtain ⟨t2, e2, w2, s2⟩ := tms_arg r2
  obtain ⟨t3, e3, w3, s3⟩ := tms_arg r3
  simp only [List.append_nil, List.cons_append, List.nil_append, Rows.uptoBulkAll] at hb
  obtain ⟨hp, hl⟩ := metaTwice_holds t1 w1 (by omega) t2 w2 (by omega) t3 w3 (by omega)
  refine law_calls fine plain (by rw [Try.params5]; decide) rfl (bt := 4) rfl Try.underlying4 hval hW rfl (heap' := hp) ?_
  simp only [List.map_cons, List.map_nil, e1, e2, e3]
  exact hl
theorem lifted (os : Os) (started : os.Started) (H : Type) (enc : TypeId × Value → H) (F : Stop.Interp) :
    ReturnsInHanded {} Try.checked os 5 .any ((Rows.OpenSpec.upto Rows.metaTwiceSpec).pre6 enc Try.prog Try.f5 Rows.metaTwiceUptoRow.domain false) (((Rows.OpenSpec.upto Rows.metaTwiceSpec).at F).post enc Try.prog Try.f5 false true false false) := by
  refine returnsInHanded_of_cond (C := Try.checked) (s := Rows.OpenSpec.upto Rows.metaTwiceSpec) (k := Rows.uptoSmall) rfl own_knob started (by kernel_rfl) Try.func5
    (OpenSpec.witness (enc := enc) (C := Try.checked) (s := Rows.OpenSpec.upto Rows.metaTwiceSpec) (k := Rows.uptoSmall) rfl false ⟨#[], #[.agg #[.int .i64 0, .int .i64 0, .slice none 0 0], .slice none 0 0, .slice none 0 0], []⟩ 8 (by kernel_rfl) (by kernel_rfl) (by kernel_rfl)
      (x := ([.agg [.lit (.int .i64 0), .lit (.int .i64 0), .nil], .nil, .nil], [], [])) (by kernel_rfl) rfl (by kernel_rfl)) ?_
  intro W base args ds gs before hval hW _ hk _
  exact contract H enc W base args ds gs before hval hW hk
theorem holds : Rows.MetaTwiceUptoSaid :=
  OpenClaim.holds_of_cond 5 Try.f5 rfl rfl rfl rfl rfl rfl rfl ⟨rfl, rfl, rfl, rfl, rfl⟩ rfl rfl rfl rfl rfl (by kernel_rfl) Try.func5 (by kernel_rfl)
    (of_decide_eq_true (by kernel_rfl)) (by unfold Func.isWrapper; first | (rw [if_pos (by decide +kernel)]; kernel_rfl) | (rw [if_neg (by decide +kernel)]; exact ⟨rfl, rfl⟩))
    (fun os started H enc _ F => lifted os started H enc F)
end Go.Proofs.Ytobocgjdlchemaa.metaTwice
