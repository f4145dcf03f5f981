/- What is up may be changed without what it was being. (For every input of bulk at most 2^20.) -/
import Derived.Test.YtmmhpmfgcenngaaC2
import Derived.JoinedCond
import Derived.ProofKit
set_option linter.unusedVariables false
set_option linter.unusedSimpArgs false
set_option maxRecDepth 100000
namespace Go.Proofs.Ytmmhpmfgcenngaa.shiftOwn
open Go.Proofs Go.Proofs.Ytmmhpmfgcenngaa Go.ChangeShapes Go.WideShapes Go.ChangeAt Go.RowKit
def S : List Nat := [24, 22, 3]
theorem plain : plainT C.P S = true := by kernel_rfl
theorem contract (H : Type) (enc' : TypeId × Value → H) (W : World) (base : Nat) (args : Array Value) (ds gs : List (DataW H)) (before : List MemPlace)
    (hval : ∀ (j : Nat) t v, Try.f4.params[j]? = some t → args[j]? = some v → Value.okWide Try.prog W .any base t v)
    (hW : DataW.Whole enc' Try.prog Try.f4.params.toList Rows.shiftOwnSpec.vars false W args.toList ds gs before) (hk : Rows.uptoSmall H (ds ++ gs) = true) :
    Calls Try.prog 4 args W fun e W' => ∃ v, e = .returned v ∧ Rows.shiftOwnSpec.post enc' Try.prog Try.f4 false true false false W args v W' := by
  letI : N0 := ⟨W.heap.size⟩
  have hr : room = 1099511627776 := rfl
  have hb := small_bulk hk
  have hW' := hW
  obtain ⟨p, q, h1, hV, rfl, _, _⟩ := hW'
  rw [Try.params4] at h1
  obtain ⟨v1, vs1, d1, ds1, p1, q1, hargs, rfl, rfl, r1, h2⟩ := trodAll_cons h1
  obtain ⟨v2, vs2, d2, ds2, p2, q2, rfl, rfl, rfl, r2, h3⟩ := trodAll_cons h2
  obtain ⟨rfl, rfl, rfl⟩ := trodAll_nil h3
  obtain ⟨rfl, rfl⟩ := trodVars_none hV
  obtain ⟨t1, e1, w1, s1⟩ := tm_arg r1
  obtain ⟨t2, e2, w2⟩ := int_arg r2
  simp only [List.append_nil, List.cons_append, List.nil_append, Rows.uptoBulkAll] at hb
  have hargs' : args = #[v1, v2] := by rw [← Array.toArray_toList (xs := args), hargs]
  subst hargs'
  have hv1 := read_rep (M := fun _ _ => False) (fun _ _ h => h) plain (by decide) r1 (hval 0 _ _ (by rw [Try.params4]; rfl) rfl)
  have hv2 := read_rep (M := fun _ _ => False) (fun _ _ h => h) plain (by decide) r2 (hval 1 _ _ (by rw [Try.params4]; rfl) rfl)
  rw [e1] at hv1
  rw [e2] at hv2
  refine law_done plain (by rw [Try.params4]; decide) rfl (bt := 4) rfl Try.underlying4 hW rfl ?_
  exact shiftOwn_calls rfl w1 (by omega) hv1 hv2
theorem lifted (os : Os) (started : os.Started) (H : Type) (enc : TypeId × Value → H) (F : Stop.Interp) :
    ReturnsInHanded {} Try.checked os 4 .any ((Rows.OpenSpec.upto Rows.shiftOwnSpec).pre6 enc Try.prog Try.f4 Rows.shiftOwnUptoRow.domain false) (((Rows.OpenSpec.upto Rows.shiftOwnSpec).at F).post enc Try.prog Try.f4 false true false false) := by
  refine returnsInHanded_of_cond (C := Try.checked) (s := Rows.OpenSpec.upto Rows.shiftOwnSpec) (k := Rows.uptoSmall) rfl own_knob started (by kernel_rfl) Try.func4
    (OpenSpec.witness (enc := enc) (C := Try.checked) (s := Rows.OpenSpec.upto Rows.shiftOwnSpec) (k := Rows.uptoSmall) rfl false ⟨#[], #[.agg #[.int .i64 0, .int .i64 0, .slice none 0 0], .int .i64 0], []⟩ 8 (by kernel_rfl) (by kernel_rfl) (by kernel_rfl)
      (x := ([.agg [.lit (.int .i64 0), .lit (.int .i64 0), .nil], .lit (.int .i64 0)], [], [])) (by kernel_rfl) rfl (by kernel_rfl)) ?_
  intro W base args ds gs before hval hW _ hk _
  exact contract H enc W base args ds gs before hval hW hk
theorem holds : Rows.ShiftOwnUptoSaid :=
  OpenClaim.holds_of_cond 4 Try.f4 rfl rfl rfl rfl rfl rfl rfl ⟨rfl, rfl, rfl, rfl, rfl⟩ rfl rfl rfl rfl rfl (by kernel_rfl) Try.func4 (by kernel_rfl)
    (of_decide_eq_true (by kernel_rfl)) (by unfold Func.isWrapper; first | (rw [if_pos (by decide +kernel)]; kernel_rfl) | (rw [if_neg (by decide +kernel)]; exact ⟨rfl, rfl⟩))
    (fun os started H enc _ F => lifted os started H enc F)
end Go.Proofs.Ytmmhpmfgcenngaa.shiftOwn
