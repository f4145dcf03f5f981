/- The package subst: its small functions. -/
import Derived.Test.YtobocgjdlchemaaB1
import Derived.Test.YtobocgjdlchemaaKE
import Derived.Test.YtobocgjdlchemaaRows
set_option linter.unusedSimpArgs false
set_option linter.unusedVariables false
set_option maxRecDepth 100000
namespace Go.Proofs.Ytobocgjdlchemaa
open Go.Proofs
theorem ev_ext {f : Nat} {x : Orc → List AV → List HO → Option (CR × List HO)} (h : C.ext f = some x) (args : List AV) (heap : List HO) : (lim C).call f args heap = x (lim C) args heap := by
  rw [lim_call C (inferInstance : ExtC C).out]
  unfold callA
  rw [h]
def encS (s : Sb) : Dv := .agg [.slc (encs s.L), .int .i64 s.sh]
abbrev dS (s : Sb) : AV := .d (encS s)
def cel2 (s : Sb) : List AV := [dL s.L, dI s.sh]
theorem encS_eq (s : Sb) : encS s = .agg [.slc (encs s.L), .int .i64 s.sh] := rfl
theorem cells_encS (s : Sb) : AV.cells (.d (encS s)) = cel2 s := rfl
theorem fail_spec (e : Int) (h : List HO) : (lim C).call 53 [dI e] h = some (.pan (.iface 36 (.int .i64 e)), h) := by
  rw [ev_fn 53 Try.f53 _ _ _ rfl Try.func53 rfl Try.ntmps53 rfl]
  simp -implicitDefEqProofs (disch := decide +kernel) only [go_sem, ↓reduceIte, Nat.reduceSub, Nat.reduceAdd, Nat.reduceMul, Nat.reduceBEq, Nat.reduceLT, Nat.reduceLeDiff, Nat.reduceEqDiff, reduceCtorEq, Int.reduceToNat, Int.reduceLE, Int.reduceLT, Int.reduceBEq, Int.reduceBNe, mCall]
theorem of_spec (s : Sb) (i : Int) (h0 : 0 ≤ i) (hi : i ≤ 4503599627370496) (hl : s.L.length < room) (hs : 0 ≤ s.sh ∧ s.sh ≤ 4503599627370496) (hz : ∀ x ∈ s.L, x.size < room) :
    (lim C).call 56 [dS s, dI i] [] = some (.ret (dT (ofS s i)), []) := by
  have hr : room = 1099511627776 := rfl
  rw [ev_fn 56 Try.f56 _ _ _ rfl Try.func56 rfl Try.ntmps56 rfl]
  cases hlt : decide (i < (s.L.length : Int))
  · have hlt' : ¬ i < (s.L.length : Int) := by simpa using hlt
    have hw1 : IntKind.wrap .i64 (i - (s.L.length : Int)) = i - (s.L.length : Int) := wrap_ok (by omega) (by omega)
    have hw2 : IntKind.wrap .i64 (i - (s.L.length : Int) + s.sh) = i - (s.L.length : Int) + s.sh := wrap_ok (by omega) (by omega)
    have he : Dv.agg [.int .i64 4, .int .i64 (i - (s.L.length : Int) + s.sh), .slc []] = enc (ofS s i) := by
      unfold ofS; rw [if_neg hlt', enc_mk]; rfl
    simp -implicitDefEqProofs (disch := decide +kernel) only [go_sem, ↓reduceIte, Nat.reduceSub, Nat.reduceAdd, Nat.reduceMul, Nat.reduceBEq, Nat.reduceLT, Nat.reduceLeDiff, Nat.reduceEqDiff, reduceCtorEq, Int.reduceToNat, Int.reduceLE, Int.reduceLT, Int.reduceBEq, Int.reduceBNe, mCall, encS_eq, hlt, hw1, hw2, he]
  · have hlt' : i < (s.L.length : Int) := by simpa using hlt
    have hw1 : IntKind.wrap .i64 ((s.L.length : Int) - 1) = (s.L.length : Int) - 1 := wrap_ok (by omega) (by omega)
    have hw2 : IntKind.wrap .i64 ((s.L.length : Int) - 1 - i) = (s.L.length : Int) - 1 - i := wrap_ok (by omega) (by omega)
    have hge : 0 ≤ (s.L.length : Int) - 1 - i := by omega
    have hnat : ((s.L.length : Int) - 1 - i).toNat = s.L.length - 1 - i.toNat := by omega
    have hget : s.L[s.L.length - 1 - i.toNat]? = some (ofS s i) := by
      unfold ofS
      rw [if_pos hlt', List.getD_eq_getElem?_getD, List.getElem?_eq_getElem (by omega)]
      rfl
    have hmem : ofS s i ∈ s.L := List.mem_of_getElem? hget
    simp -implicitDefEqProofs (disch := decide +kernel) only [go_sem, ↓reduceIte, Nat.reduceSub, Nat.reduceAdd, Nat.reduceMul, Nat.reduceBEq, Nat.reduceLT, Nat.reduceLeDiff, Nat.reduceEqDiff, reduceCtorEq, Int.reduceToNat, Int.reduceLE, Int.reduceLT, Int.reduceBEq, Int.reduceBNe, mCall, encS_eq, hlt, hw1, hw2, hge, hnat, hget, own_spec _ (hz _ hmem)]
/-- One below what binds. -/
def und_F (s : Sb) (j : Nat) : Tm := upT (s.L.getD j default) 1 0
def und_S (s : Sb) (i : Nat) : St := mk 32 [(2, .lref 2 0), (3, .lref 3 0), (11, dL s.L), (12, dI s.L.length), (13, dI i)] [(2, [.clip [], dI 0]), (3, [acc 0 (encs (outs (und_F s) i)), dI (s.sh + 1)])] [] (accT i)
theorem und_step {s : Sb} (hm : ∀ x ∈ s.L, mayB x = true ∧ vlowB x = true) (hl : s.L.length < room) {i : Nat} (hi : i < s.L.length) :
    (lim C).code 54 (cf (.loop (cf (cf (cs (cf (cs (cs (bodyOf Try.f54))))))))) (und_S s i) = some (.nor, und_S s (i + 1)) := by
  have hr : room = 1099511627776 := rfl
  have hmem : s.L.getD i default ∈ s.L := by rw [List.getD_eq_getElem?_getD, List.getElem?_eq_getElem hi]; exact List.getElem_mem _
  obtain ⟨m1, m2⟩ := hm _ hmem
  have hsz := (may_parts m1).2.1
  obtain ⟨h, hc⟩ := sup_spec (s.L.getD i default) (by omega) m2 1 0
  rw [show renB (s.L.getD i default) 1 0 = true by unfold renB; rw [m1]; rfl, if_pos rfl] at hc
  have hln : (encs (outs (und_F s) i)).length = i := by simp [encs, outs]
  have hap := fun locs heap => mApp_acc (encs (outs (und_F s) i)) (enc (und_F s i)) 3 locs heap (by rw [hln]; omega) (encs_all _) (enc_width _)
  have hsn : encs (outs (und_F s) i) ++ [enc (und_F s i)] = encs (outs (und_F s) (i + 1)) := by unfold outs; rw [List.range_succ, List.map_append, encs_append]; rfl
  rw [hln, hsn] at hap
  have hc' : (lim C).call 13 [dT (s.L.getD i default), dI 1, dI 0] [] = some (.ret (dT (und_F s i)), h) := hc
  simp -implicitDefEqProofs (disch := decide +kernel) only [cf, cs, bodyOf, Try.f54, Option.getD_some, go_sem, ↓reduceIte, Nat.reduceSub, Nat.reduceAdd, Nat.reduceMul, Nat.reduceBEq, Nat.reduceLT, Nat.reduceLeDiff, Nat.reduceEqDiff, reduceCtorEq, Int.reduceToNat, Int.reduceLE, Int.reduceLT, Int.reduceBEq, Int.reduceBNe, mCall, und_S, cel2, acc_keep, lt_true hi, getD_get hi, hc', hap, wrap_succ (n := i) (by omega)]
theorem und_out (s : Sb) : encs (outs (und_F s) s.L.length) ++ [enc var0] = encs (underS s).L := by
  have : outs (und_F s) s.L.length = s.L.map fun x => upT x 1 0 := by
    unfold outs und_F
    refine List.ext_getElem (by simp) fun i h1 h2 => ?_
    simp at h1
    simp [List.getD_eq_getElem?_getD, h1]
  rw [this]
  simp [underS, encs_append, encs]
theorem under_spec (s : Sb) (hm : ∀ x ∈ s.L, mayB x = true ∧ vlowB x = true) (hl : s.L.length < room) (hs : 0 ≤ s.sh ∧ s.sh ≤ 4503599627370496) :
    (lim C).call 54 [dS s] [] = some (.ret (dS (underS s)), []) := by
  have hr : room = 1099511627776 := rfl
  have hw : IntKind.wrap .i64 (s.sh + 1) = s.sh + 1 := wrap_ok (by omega) (by omega)
  have hloop : (lim C).code 54 (.loop (cf (cf (cs (cf (cs (cs (bodyOf Try.f54)))))))) (und_S s 0) = some (.exit 0, mk 32 [(2, .lref 2 0), (3, .lref 3 0), (11, dL s.L), (12, dI s.L.length), (13, dI s.L.length), (14, dB false)] [(2, [.clip [], dI 0]), (3, [acc 0 (encs (outs (und_F s) s.L.length)), dI (s.sh + 1)])] [] (accT s.L.length)) := by
    refine loop_run (und_S s) s.L.length (fun i hi => und_step hm hl hi) ?_ (by simp)
    simp -implicitDefEqProofs (disch := decide +kernel) only [cf, cs, bodyOf, Try.f54, Option.getD_some, go_sem, ↓reduceIte, Nat.reduceSub, Nat.reduceAdd, Nat.reduceMul, Nat.reduceBEq, Nat.reduceLT, Nat.reduceLeDiff, Nat.reduceEqDiff, reduceCtorEq, Int.reduceToNat, Int.reduceLE, Int.reduceLT, Int.reduceBEq, Int.reduceBNe, mCall, und_S, cel2, lt_false (Nat.le_refl s.L.length)]
  have hln : (encs (outs (und_F s) s.L.length)).length = s.L.length := by simp [encs, outs]
  have hap := fun locs heap => mApp_acc (encs (outs (und_F s) s.L.length)) (enc var0) 3 locs heap (by rw [hln]; omega) (encs_all _) (enc_width _)
  rw [hln, und_out] at hap
  have hv : Dv.agg [.int .i64 4, .int .i64 0, .slc []] = enc var0 := by unfold var0; rw [enc_mk]; rfl
  have he : Dv.agg [.slc (encs (underS s).L), .int .i64 (s.sh + 1)] = encS (underS s) := rfl
  rw [ev_fn 54 Try.f54 _ _ _ rfl Try.func54 rfl Try.ntmps54 rfl]
  simp -implicitDefEqProofs (disch := decide +kernel) only [go_sem, ↓reduceIte, Nat.reduceSub, Nat.reduceAdd, Nat.reduceMul, Nat.reduceBEq, Nat.reduceLT, Nat.reduceLeDiff, Nat.reduceEqDiff, reduceCtorEq, Int.reduceToNat, Int.reduceLE, Int.reduceLT, Int.reduceBEq, Int.reduceBNe, mCall, encS_eq, hw]
  rw [loop_at hloop ?hb ?hs]
  case hb => rfl
  case hs => rfl
  simp -implicitDefEqProofs (disch := decide +kernel) only [go_sem, ↓reduceIte, Nat.reduceSub, Nat.reduceAdd, Nat.reduceMul, Nat.reduceBEq, Nat.reduceLT, Nat.reduceLeDiff, Nat.reduceEqDiff, reduceCtorEq, Int.reduceToNat, Int.reduceLE, Int.reduceLT, Int.reduceBEq, Int.reduceBNe, mCall, cel2, cells_encS, acc_keep, acc_drop, hap, hv, he, (encS_eq (underS s)).symm]

/-! ### is each of a list so? -/
def maysB (l : List Tm) : Bool := allB l.length fun i => mayB (l.getD i default)
theorem maysB_iff {l : List Tm} : maysB l = true ↔ ∀ x ∈ l, mayB x = true := by
  unfold maysB
  rw [allB_iff]
  constructor
  · intro h x hx
    obtain ⟨i, hi, rfl⟩ := List.mem_iff_getElem.1 hx
    have := h i hi
    rwa [List.getD_eq_getElem?_getD, List.getElem?_eq_getElem hi] at this
  · intro h i hi
    refine h _ ?_
    rw [List.getD_eq_getElem?_getD, List.getElem?_eq_getElem hi]; exact List.getElem_mem _
def ix_S (l : List Tm) (g : Nat) (i : Nat) : St := mk 19 [(0, dL l), (1, .fn g [] []), (7, dI l.length), (8, dI i)] [] [] []
theorem index_spec {g : Nat} (hg : C.thr.contains g = false) {l : List Tm} (hl : l.length < room) (hp : ∀ x ∈ l, ∃ h, (lim C).call g [dT x] [] = some (.ret (dB (!mayB x)), h)) :
    ∃ i : Int, (lim C).call 43 [dL l, .fn g [] []] [] = some (.ret (dI i), []) ∧ decide (i ≥ 0) = !maysB l := by
  have hr : room = 1099511627776 := rfl
  simp only [C_thr, List.contains_cons, List.contains_nil, Bool.or_false] at hg
  have hget : ∀ i, i < l.length → ∃ h, (lim C).call g [dT (l.getD i default)] [] = some (.ret (dB (!mayB (l.getD i default))), h) := fun i hi => hp _ (by
    rw [List.getD_eq_getElem?_getD, List.getElem?_eq_getElem hi]; exact List.getElem_mem _)
  have hstep : ∀ i, i < l.length → mayB (l.getD i default) = true → (lim C).code 43 (cf (.loop (cf (cf (cs (cf (cs (bodyOf Try.f43)))))))) (ix_S l g i) = some (.nor, ix_S l g (i + 1)) := fun i hi hm => by
    obtain ⟨h, hc⟩ := hget i hi
    rw [hm] at hc
    simp -implicitDefEqProofs (disch := decide +kernel) only [cf, cs, bodyOf, Try.f43, Option.getD_some, go_sem, ↓reduceIte, Nat.reduceSub, Nat.reduceAdd, Nat.reduceMul, Nat.reduceBEq, Nat.reduceLT, Nat.reduceLeDiff, Nat.reduceEqDiff, reduceCtorEq, Int.reduceToNat, Int.reduceLE, Int.reduceLT, Int.reduceBEq, Int.reduceBNe, mCall, ix_S, hg, lt_true hi, getD_get hi, hc, wrap_succ (n := i) (by omega)]
  cases hall : maysB l
  · obtain ⟨j, hj, hpj, hb⟩ := allB_first _ _ hall
    refine ⟨j, ?_, by simp⟩
    obtain ⟨h, hc⟩ := hget j hj
    rw [hpj] at hc
    have hloop : (lim C).code 43 (.loop (cf (cf (cs (cf (cs (bodyOf Try.f43))))))) (ix_S l g 0) = some (.ret, mk 19 [(4, dI j)] [] [] []) := by
      refine loop_run (ix_S l g) j (fun i hi => hstep i (by omega) (hb i hi)) ?_ (by simp)
      simp -implicitDefEqProofs (disch := decide +kernel) only [cf, cs, bodyOf, Try.f43, Option.getD_some, go_sem, ↓reduceIte, Nat.reduceSub, Nat.reduceAdd, Nat.reduceMul, Nat.reduceBEq, Nat.reduceLT, Nat.reduceLeDiff, Nat.reduceEqDiff, reduceCtorEq, Int.reduceToNat, Int.reduceLE, Int.reduceLT, Int.reduceBEq, Int.reduceBNe, mCall, ix_S, hg, lt_true hj, getD_get hj, hc]
    rw [ev_fn 43 Try.f43 _ _ _ rfl Try.func43 rfl Try.ntmps43 rfl]
    simp -implicitDefEqProofs (disch := decide +kernel) only [go_sem, ↓reduceIte, Nat.reduceSub, Nat.reduceAdd, Nat.reduceMul, Nat.reduceBEq, Nat.reduceLT, Nat.reduceLeDiff, Nat.reduceEqDiff, reduceCtorEq, Int.reduceToNat, Int.reduceLE, Int.reduceLT, Int.reduceBEq, Int.reduceBNe, mCall]
    rw [loop_at hloop ?hb ?hs]
    case hb => rfl
    case hs => rfl
    simp -implicitDefEqProofs (disch := decide +kernel) only [go_sem, ↓reduceIte, Nat.reduceSub, Nat.reduceAdd, Nat.reduceMul, Nat.reduceBEq, Nat.reduceLT, Nat.reduceLeDiff, Nat.reduceEqDiff, reduceCtorEq, Int.reduceToNat, Int.reduceLE, Int.reduceLT, Int.reduceBEq, Int.reduceBNe, mCall]
  · refine ⟨-1, ?_, by simp⟩
    have hloop : (lim C).code 43 (.loop (cf (cf (cs (cf (cs (bodyOf Try.f43))))))) (ix_S l g 0) = some (.exit 0, mk 19 [(0, dL l), (1, .fn g [] []), (7, dI l.length), (8, dI l.length), (9, dB false)] [] [] []) := by
      refine loop_run (ix_S l g) l.length (fun i hi => hstep i hi ((allB_iff _ _).1 hall i hi)) ?_ (by simp)
      simp -implicitDefEqProofs (disch := decide +kernel) only [cf, cs, bodyOf, Try.f43, Option.getD_some, go_sem, ↓reduceIte, Nat.reduceSub, Nat.reduceAdd, Nat.reduceMul, Nat.reduceBEq, Nat.reduceLT, Nat.reduceLeDiff, Nat.reduceEqDiff, reduceCtorEq, Int.reduceToNat, Int.reduceLE, Int.reduceLT, Int.reduceBEq, Int.reduceBNe, mCall, ix_S, lt_false (Nat.le_refl l.length)]
    rw [ev_fn 43 Try.f43 _ _ _ rfl Try.func43 rfl Try.ntmps43 rfl]
    simp -implicitDefEqProofs (disch := decide +kernel) only [go_sem, ↓reduceIte, Nat.reduceSub, Nat.reduceAdd, Nat.reduceMul, Nat.reduceBEq, Nat.reduceLT, Nat.reduceLeDiff, Nat.reduceEqDiff, reduceCtorEq, Int.reduceToNat, Int.reduceLE, Int.reduceLT, Int.reduceBEq, Int.reduceBNe, mCall]
    rw [loop_at hloop ?hb ?hs]
    case hb => rfl
    case hs => rfl
    simp -implicitDefEqProofs (disch := decide +kernel) only [go_sem, ↓reduceIte, Nat.reduceSub, Nat.reduceAdd, Nat.reduceMul, Nat.reduceBEq, Nat.reduceLT, Nat.reduceLeDiff, Nat.reduceEqDiff, reduceCtorEq, Int.reduceToNat, Int.reduceLE, Int.reduceLT, Int.reduceBEq, Int.reduceBNe, mCall]
theorem contains_spec {g : Nat} (hg : C.thr.contains g = false) {l : List Tm} (hl : l.length < room) (hp : ∀ x ∈ l, ∃ h, (lim C).call g [dT x] [] = some (.ret (dB (!mayB x)), h)) :
    (lim C).call 34 [dL l, .fn g [] []] [] = retB (!maysB l) := by
  obtain ⟨i, h1, h2⟩ := index_spec hg hl hp
  rw [ev_fn 34 Try.f34 _ _ _ rfl Try.func34 rfl Try.ntmps34 rfl]
  simp -implicitDefEqProofs (disch := decide +kernel) only [go_sem, ↓reduceIte, Nat.reduceSub, Nat.reduceAdd, Nat.reduceMul, Nat.reduceBEq, Nat.reduceLT, Nat.reduceLeDiff, Nat.reduceEqDiff, reduceCtorEq, Int.reduceToNat, Int.reduceLE, Int.reduceLT, Int.reduceBEq, Int.reduceBNe, mCall, h1, h2]
theorem odd1_spec (t : Tm) (hs : t.size < room) : (lim C).call 51 [dT t] [] = retB (!mayB t) := by
  rw [ev_fn 51 Try.f51 _ _ _ rfl Try.func51 rfl Try.ntmps51 rfl]
  simp -implicitDefEqProofs (disch := decide +kernel) only [go_sem, ↓reduceIte, Nat.reduceSub, Nat.reduceAdd, Nat.reduceMul, Nat.reduceBEq, Nat.reduceLT, Nat.reduceLeDiff, Nat.reduceEqDiff, reduceCtorEq, Int.reduceToNat, Int.reduceLE, Int.reduceLT, Int.reduceBEq, Int.reduceBNe, mCall, tMay_spec t hs]
/-- May a substitution be? -/
def smayB (s : Sb) : Bool := decide ((s.L.length : Int) ≤ 200) && decide (s.sh ≥ 0) && decide (s.sh ≤ 1048576) && maysB s.L
theorem smayS_spec (s : Sb) (hl : s.L.length < room) (hz : ∀ x ∈ s.L, x.size < room) : (lim C).call 47 [dS s] [] = retB (smayB s) := by
  have hc := contains_spec (g := 51) (by decide +kernel) hl (fun x hx => ⟨_, odd1_spec x (hz x hx)⟩)
  unfold smayB
  rw [ev_fn 47 Try.f47 _ _ _ rfl Try.func47 rfl Try.ntmps47 rfl]
  cases h1 : decide ((s.L.length : Int) ≤ 200)
  · simp -implicitDefEqProofs (disch := decide +kernel) only [go_sem, ↓reduceIte, Nat.reduceSub, Nat.reduceAdd, Nat.reduceMul, Nat.reduceBEq, Nat.reduceLT, Nat.reduceLeDiff, Nat.reduceEqDiff, reduceCtorEq, Int.reduceToNat, Int.reduceLE, Int.reduceLT, Int.reduceBEq, Int.reduceBNe, mCall, encS_eq, hc, h1]
  · skip
    cases h2 : decide (s.sh ≥ 0)
    · simp -implicitDefEqProofs (disch := decide +kernel) only [go_sem, ↓reduceIte, Nat.reduceSub, Nat.reduceAdd, Nat.reduceMul, Nat.reduceBEq, Nat.reduceLT, Nat.reduceLeDiff, Nat.reduceEqDiff, reduceCtorEq, Int.reduceToNat, Int.reduceLE, Int.reduceLT, Int.reduceBEq, Int.reduceBNe, mCall, encS_eq, hc, h1, h2]
    · skip
      cases h3 : decide (s.sh ≤ 1048576)
      · simp -implicitDefEqProofs (disch := decide +kernel) only [go_sem, ↓reduceIte, Nat.reduceSub, Nat.reduceAdd, Nat.reduceMul, Nat.reduceBEq, Nat.reduceLT, Nat.reduceLeDiff, Nat.reduceEqDiff, reduceCtorEq, Int.reduceToNat, Int.reduceLE, Int.reduceLT, Int.reduceBEq, Int.reduceBNe, mCall, encS_eq, hc, h1, h2, h3]
      · skip
        cases h4 : maysB s.L
        · rw [h4] at hc
          simp -implicitDefEqProofs (disch := decide +kernel) only [go_sem, ↓reduceIte, Nat.reduceSub, Nat.reduceAdd, Nat.reduceMul, Nat.reduceBEq, Nat.reduceLT, Nat.reduceLeDiff, Nat.reduceEqDiff, reduceCtorEq, Int.reduceToNat, Int.reduceLE, Int.reduceLT, Int.reduceBEq, Int.reduceBNe, mCall, encS_eq, h1, h2, h3, h4, hc]
        · rw [h4] at hc
          simp -implicitDefEqProofs (disch := decide +kernel) only [go_sem, ↓reduceIte, Nat.reduceSub, Nat.reduceAdd, Nat.reduceMul, Nat.reduceBEq, Nat.reduceLT, Nat.reduceLeDiff, Nat.reduceEqDiff, reduceCtorEq, Int.reduceToNat, Int.reduceLE, Int.reduceLT, Int.reduceBEq, Int.reduceBNe, mCall, encS_eq, h1, h2, h3, h4, hc]

/-! ### two slices, one behind the other -/
def cc_sum (a b : List Tm) : Nat → Nat
  | 0 => 0
  | 1 => a.length
  | _ => a.length + b.length
def cc_acc (a b : List Tm) : Nat → List Tm
  | 0 => []
  | 1 => a
  | _ => a ++ b
abbrev cc_X (a b : List Tm) : AV := .d (.slc [.slc (encs a), .slc (encs b)])
def cc_S1 (a b : List Tm) (i : Nat) : St := mk 36 [(0, cc_X a b), (3, dI (cc_sum a b i)), (9, cc_X a b), (10, dI 2), (11, dI i)] [] [] []
def cc_S2 (a b : List Tm) (i : Nat) : St := mk 36 [(6, .own 0 (encs (cc_acc a b i))), (25, cc_X a b), (26, dI 2), (27, dI i)] [] [] [some (cc_acc a b i).length]
theorem cc_step1 {a b : List Tm} (hl : a.length + b.length < room) {i : Nat} (hi : i < 2) : (lim C).code CC (cf (.loop (cf (cf (cs (cf (cs (cs (bodyOf Try.f57))))))))) (cc_S1 a b i) = some (.nor, cc_S1 a b (i + 1)) := by
  have hr : room = 1099511627776 := rfl
  have hw1 : IntKind.wrap .i64 (a.length : Int) = (a.length : Int) := wrap_ok (by omega) (by omega)
  have hw2 : IntKind.wrap .i64 ((a.length : Int) + (b.length : Int)) = ((a.length + b.length : Nat) : Int) := by rw [wrap_ok (by omega) (by omega)]; omega
  have hn1 : decide ((a.length : Int) < 0) = false := by simp
  have hn2 : decide (((a.length + b.length : Nat) : Int) < 0) = false := by simp; omega
  have h01 : IntKind.wrap .i64 (0 + 1) = 1 := rfl
  have h12 : IntKind.wrap .i64 (1 + 1) = 2 := rfl
  have h1' : IntKind.wrap .i64 1 = 1 := rfl
  have n2 : ((2 : Nat) : Int) = 2 := rfl
  have l01 : decide ((0 : Int) < 2) = true := rfl
  have l12 : decide ((1 : Int) < 2) = true := rfl
  match i, hi with
  | 0, _ => simp -implicitDefEqProofs (disch := decide +kernel) only [cf, cs, bodyOf, Try.f57, Option.getD_some, go_sem, ↓reduceIte, Nat.reduceSub, Nat.reduceAdd, Nat.reduceMul, Nat.reduceBEq, Nat.reduceLT, Nat.reduceLeDiff, Nat.reduceEqDiff, reduceCtorEq, Int.reduceToNat, Int.reduceLE, Int.reduceLT, Int.reduceBEq, Int.reduceBNe, mCall, cc_S1, cc_sum, Int.natCast_zero, Int.natCast_one, Int.zero_add, width_slc, dcells_slc, List.head?_cons, encs_length, hw1, hn1, h01, h1', n2, l01]
  | 1, _ => simp -implicitDefEqProofs (disch := decide +kernel) only [cf, cs, bodyOf, Try.f57, Option.getD_some, go_sem, ↓reduceIte, Nat.reduceSub, Nat.reduceAdd, Nat.reduceMul, Nat.reduceBEq, Nat.reduceLT, Nat.reduceLeDiff, Nat.reduceEqDiff, reduceCtorEq, Int.reduceToNat, Int.reduceLE, Int.reduceLT, Int.reduceBEq, Int.reduceBNe, mCall, cc_S1, cc_sum, Int.natCast_zero, Int.natCast_one, width_slc, dcells_slc, List.head?_cons, encs_length, hw2, hn2, h12, h1', n2, l12]
theorem contX_nor (O : Orc) (c : Code) (σ : St) : contX O c (.nor, σ) = O.code CC c σ := rfl
theorem growK_nor (σ : St) : growK (.nor, σ) = growV σ (σ.tmps.getD 3 .undef) := rfl
theorem growV_i (σ : St) (n : Int) : growV σ (.d (.int .i64 n)) = if 0 ≤ n ∧ n ≤ 1099511627776 ∧ 24 < σ.tmps.length then
      some (.nor, { tmps := clrT [3, 9, 10, 11, 12, 23, 24] (((σ.tmps.set 23 .undef).set 24 .undef).set 6 (.own σ.mem.toks.length [])), mem := { σ.mem with locs := clrM [3, 9, 10, 11, 12, 23, 24] σ.mem.locs, toks := σ.mem.toks ++ [some 0] } }) else none := rfl
theorem cc_len (a b : List Tm) (i : Nat) : (encs (cc_acc a b i)).length = (cc_acc a b i).length := encs_length _
theorem cc_step2 {a b : List Tm} (hl : a.length + b.length < room) {i : Nat} (hi : i < 2) : (lim C).code CC (cf (.loop (cf (cf (cs (cf (cs (cs (cs (cs (bodyOf Try.f57))))))))))) (cc_S2 a b i) = some (.nor, cc_S2 a b (i + 1)) := by
  have hr : room = 1099511627776 := rfl
  have h01 : IntKind.wrap .i64 (0 + 1) = 1 := rfl
  have h12 : IntKind.wrap .i64 (1 + 1) = 2 := rfl
  have h1' : IntKind.wrap .i64 1 = 1 := rfl
  have n2 : ((2 : Nat) : Int) = 2 := rfl
  have l01 : decide ((0 : Int) < 2) = true := rfl
  have l12 : decide ((1 : Int) < 2) = true := rfl
  match i, hi with
  | 0, _ =>
    have ha := fun locs heap => app_more (encs ([] : List Tm)) (encs a) 3 (by simp) locs heap (by simp [encs_length]; omega) (encs_all _) (encs_all _)
    simp only [← encs_append, List.nil_append, encs_length, List.length_nil, Nat.zero_add] at ha
    simp -implicitDefEqProofs (disch := decide +kernel) only [cf, cs, bodyOf, Try.f57, Option.getD_some, go_sem, ↓reduceIte, Nat.reduceSub, Nat.reduceAdd, Nat.reduceMul, Nat.reduceBEq, Nat.reduceLT, Nat.reduceLeDiff, Nat.reduceEqDiff, reduceCtorEq, Int.reduceToNat, Int.reduceLE, Int.reduceLT, Int.reduceBEq, Int.reduceBNe, mCall, cc_S2, cc_acc, Int.natCast_zero, Int.natCast_one, width_slc, dcells_slc, List.head?_cons, ha, h01, h1', n2, l01]
  | 1, _ =>
    have ha := fun locs heap => app_more (encs a) (encs b) 3 (by simp) locs heap (by simp [encs_length]; omega) (encs_all _) (encs_all _)
    simp only [← encs_append, encs_length] at ha
    simp -implicitDefEqProofs (disch := decide +kernel) only [cf, cs, bodyOf, Try.f57, Option.getD_some, go_sem, ↓reduceIte, Nat.reduceSub, Nat.reduceAdd, Nat.reduceMul, Nat.reduceBEq, Nat.reduceLT, Nat.reduceLeDiff, Nat.reduceEqDiff, reduceCtorEq, Int.reduceToNat, Int.reduceLE, Int.reduceLT, Int.reduceBEq, Int.reduceBNe, mCall, cc_S2, cc_acc, Int.natCast_zero, Int.natCast_one, width_slc, dcells_slc, List.head?_cons, ha, h12, h1', n2, l12, List.length_append]
theorem concat_spec (a b : List Tm) (hl : a.length + b.length < room) : (lim C).call CC [cc_X a b] [] = some (.ret (dL (a ++ b)), []) := by
  have hr : room = 1099511627776 := rfl
  have l22 : decide ((2 : Int) < 2) = false := rfl
  have n2 : ((2 : Nat) : Int) = 2 := rfl
  have hloop1 : (lim C).code CC (.loop (cf (cf (cs (cf (cs (cs (bodyOf Try.f57)))))))) (cc_S1 a b 0) = some (.exit 0, mk 36 [(0, cc_X a b), (3, dI (a.length + b.length : Nat)), (9, cc_X a b), (10, dI 2), (11, dI 2), (12, dB false)] [] [] []) := by
    refine loop_run (cc_S1 a b) 2 (fun i hi => cc_step1 hl hi) ?_ (by simp)
    simp -implicitDefEqProofs (disch := decide +kernel) only [cf, cs, bodyOf, Try.f57, Option.getD_some, go_sem, ↓reduceIte, Nat.reduceSub, Nat.reduceAdd, Nat.reduceMul, Nat.reduceBEq, Nat.reduceLT, Nat.reduceLeDiff, Nat.reduceEqDiff, reduceCtorEq, Int.reduceToNat, Int.reduceLE, Int.reduceLT, Int.reduceBEq, Int.reduceBNe, mCall, cc_S1, cc_sum, l22, n2]
  have hloop2 : (lim C).code CC (.loop (cf (cf (cs (cf (cs (cs (cs (cs (bodyOf Try.f57)))))))))) (cc_S2 a b 0) = some (.exit 2, mk 36 [(6, .own 0 (encs (a ++ b))), (25, cc_X a b), (26, dI 2), (27, dI 2), (28, dB false)] [] [] [some (a ++ b).length]) := by
    refine loop_run (cc_S2 a b) 2 (fun i hi => cc_step2 hl hi) ?_ (by simp)
    simp -implicitDefEqProofs (disch := decide +kernel) only [cf, cs, bodyOf, Try.f57, Option.getD_some, go_sem, ↓reduceIte, Nat.reduceSub, Nat.reduceAdd, Nat.reduceMul, Nat.reduceBEq, Nat.reduceLT, Nat.reduceLeDiff, Nat.reduceEqDiff, reduceCtorEq, Int.reduceToNat, Int.reduceLE, Int.reduceLT, Int.reduceBEq, Int.reduceBNe, mCall, cc_S2, cc_acc, l22, n2]
  rw [ev_ext (f := CC) (x := concatX) rfl]
  unfold concatX
  rw [entry_mk Try.f57 _ _ Try.ntmps57 rfl]
  have hb : 0 ≤ ((a.length + b.length : Nat) : Int) ∧ ((a.length + b.length : Nat) : Int) ≤ 1099511627776 ∧ 24 < 36 := by omega
  simp -implicitDefEqProofs (disch := decide +kernel) only [cf, cs, bodyOf, Try.f57, Option.getD_some, go_sem, ↓reduceIte, Nat.reduceSub, Nat.reduceAdd, Nat.reduceMul, Nat.reduceBEq, Nat.reduceLT, Nat.reduceLeDiff, Nat.reduceEqDiff, reduceCtorEq, Int.reduceToNat, Int.reduceLE, Int.reduceLT, Int.reduceBEq, Int.reduceBNe, mCall, contX_nor, growK_nor, growV_i]
  rw [loop_at hloop1 ?hb ?hs]
  case hb => rfl
  case hs => rfl
  simp -implicitDefEqProofs (disch := decide +kernel) only [cf, cs, bodyOf, Try.f57, Option.getD_some, go_sem, ↓reduceIte, Nat.reduceSub, Nat.reduceAdd, Nat.reduceMul, Nat.reduceBEq, Nat.reduceLT, Nat.reduceLeDiff, Nat.reduceEqDiff, reduceCtorEq, Int.reduceToNat, Int.reduceLE, Int.reduceLT, Int.reduceBEq, Int.reduceBNe, mCall, contX_nor, growK_nor, growV_i, hb, n2]
  rw [loop_at hloop2 ?hb ?hs]
  case hb => rfl
  case hs => rfl
  simp -implicitDefEqProofs (disch := decide +kernel) only [cf, cs, bodyOf, Try.f57, Option.getD_some, go_sem, ↓reduceIte, Nat.reduceSub, Nat.reduceAdd, Nat.reduceMul, Nat.reduceBEq, Nat.reduceLT, Nat.reduceLeDiff, Nat.reduceEqDiff, reduceCtorEq, Int.reduceToNat, Int.reduceLE, Int.reduceLT, Int.reduceBEq, Int.reduceBNe, mCall, contX_nor]
end Go.Proofs.Ytobocgjdlchemaa
/- subst: apply and spine, gone through. -/
set_option linter.unusedSimpArgs false
set_option linter.unusedVariables false
set_option maxRecDepth 100000
namespace Go.Proofs.Ytobocgjdlchemaa
open Go.Proofs
abbrev errV (e : Nat) : AV := .iface 36 (.int .i64 (e : Int))
def outR (h : List HO) : R Tm → Option (CR × List HO)
  | .ok u m => some (.ret (dT u), h ++ [.var 0 [dI m]])
  | .er e m => some (.pan (errV e), h ++ [.var 0 [dI m]])
def ap_S (t : Tm) (s : Sb) (h : List HO) (xs : List Tm) (m : Nat) (i : Nat) : St :=
  mk 78 [(0, .href h.length 0), (4, .lref 4 0), (5, .lref 5 0), (6, .lref 6 0), (7, .lref 7 0), (30, dL t.args), (31, dI t.args.length), (32, dI i)]
    [(4, cel3 t), (5, cel2 s), (6, zc3), (7, [dI t.kind, dI t.head, acc 0 (encs xs)])] (h ++ [.var 0 [dI m]]) (accT xs.length)
theorem ap_step {t : Tm} {s : Sb} {h : List HO} {xs : List Tm} {m m' i : Nat} {x : Tm} (hi : i < t.args.length) (hxl : xs.length = i) (hs : t.size < room) (hm : ∀ x ∈ s.L, mayB x = true ∧ vlowB x = true) (hl : s.L.length < room) (hsh : 0 ≤ s.sh ∧ s.sh ≤ 4503599627370496)
    (hrec : (lim C).call 50 [.href h.length 0, dT (t.arg i), dS (below s t i)] (h ++ [.var 0 [dI m]]) = some (.ret (dT x), h ++ [.var 0 [dI m']])) :
    (lim C).code 50 (cf (.loop (cf (cf (cs (cf (cs (cs (cs (bodyOf Try.f50)))))))))) (ap_S t s h xs m i) = some (.nor, ap_S t s h (xs ++ [x]) m' (i + 1)) := by
  have hr : room = 1099511627776 := rfl
  have hl' := len_size t
  have hap := fun locs heap => mApp_acc (encs xs) (enc x) 3 locs heap (by rw [encs_length]; omega) (encs_all _) (enc_width _)
  have hsn : encs xs ++ [enc x] = encs (xs ++ [x]) := by rw [encs_append]; rfl
  rw [encs_length, hsn] at hap
  have hxs : (xs ++ [x]).length = xs.length + 1 := by simp
  have hw1 : IntKind.wrap .i64 ((t.args.length : Int) - 1) = (t.args.length : Int) - 1 := wrap_ok (by omega) (by omega)
  have hu := under_spec s hm hl hsh
  unfold below at hrec
  cases k1 : (t.kind == 1)
  · cases k3 : (t.kind == 3)
    · have hb : bindsB t = false := by simp [bindsB, k1, k3]
      rw [bindsB_no hb, if_neg (by decide)] at hrec
      simp -implicitDefEqProofs (disch := decide +kernel) only [cf, cs, bodyOf, Try.f50, Option.getD_some, go_sem, ↓reduceIte, Nat.reduceSub, Nat.reduceAdd, Nat.reduceMul, Nat.reduceBEq, Nat.reduceLT, Nat.reduceLeDiff, Nat.reduceEqDiff, reduceCtorEq, Int.reduceToNat, Int.reduceLE, Int.reduceLT, Int.reduceBEq, Int.reduceBNe, mCall, ap_S, cel3, cells_enc, cells_encS, cel2, zc3, acc_keep, acc_drop, (encS_eq s).symm, (encS_eq (underS s)).symm, lt_true hi, arg_get hi, getApp0, setApp0, hrec, hap, hxs, wrap_succ (n := i) (by omega), k1, k3]
    · have hb : bindsB t = true := by simp [bindsB, k1, k3]
      cases he : ((i : Int) == (t.args.length : Int) - 1)
      · rw [bindsB_not he, if_neg (by decide)] at hrec
        simp -implicitDefEqProofs (disch := decide +kernel) only [cf, cs, bodyOf, Try.f50, Option.getD_some, go_sem, ↓reduceIte, Nat.reduceSub, Nat.reduceAdd, Nat.reduceMul, Nat.reduceBEq, Nat.reduceLT, Nat.reduceLeDiff, Nat.reduceEqDiff, reduceCtorEq, Int.reduceToNat, Int.reduceLE, Int.reduceLT, Int.reduceBEq, Int.reduceBNe, mCall, ap_S, cel3, cells_enc, cells_encS, cel2, zc3, acc_keep, acc_drop, (encS_eq s).symm, (encS_eq (underS s)).symm, lt_true hi, arg_get hi, getApp0, setApp0, hrec, hap, hxs, wrap_succ (n := i) (by omega), k1, k3, hw1, he]
      · rw [bindsB_bnd hb he, if_pos rfl] at hrec
        simp -implicitDefEqProofs (disch := decide +kernel) only [cf, cs, bodyOf, Try.f50, Option.getD_some, go_sem, ↓reduceIte, Nat.reduceSub, Nat.reduceAdd, Nat.reduceMul, Nat.reduceBEq, Nat.reduceLT, Nat.reduceLeDiff, Nat.reduceEqDiff, reduceCtorEq, Int.reduceToNat, Int.reduceLE, Int.reduceLT, Int.reduceBEq, Int.reduceBNe, mCall, ap_S, cel3, cells_enc, cells_encS, cel2, zc3, acc_keep, acc_drop, (encS_eq s).symm, (encS_eq (underS s)).symm, lt_true hi, arg_get hi, getApp0, setApp0, hrec, hap, hxs, wrap_succ (n := i) (by omega), k1, k3, hw1, he, hu]
  · have hb : bindsB t = true := by simp [bindsB, k1]
    cases he : ((i : Int) == (t.args.length : Int) - 1)
    · rw [bindsB_not he, if_neg (by decide)] at hrec
      simp -implicitDefEqProofs (disch := decide +kernel) only [cf, cs, bodyOf, Try.f50, Option.getD_some, go_sem, ↓reduceIte, Nat.reduceSub, Nat.reduceAdd, Nat.reduceMul, Nat.reduceBEq, Nat.reduceLT, Nat.reduceLeDiff, Nat.reduceEqDiff, reduceCtorEq, Int.reduceToNat, Int.reduceLE, Int.reduceLT, Int.reduceBEq, Int.reduceBNe, mCall, ap_S, cel3, cells_enc, cells_encS, cel2, zc3, acc_keep, acc_drop, (encS_eq s).symm, (encS_eq (underS s)).symm, lt_true hi, arg_get hi, getApp0, setApp0, hrec, hap, hxs, wrap_succ (n := i) (by omega), k1, hw1, he]
    · rw [bindsB_bnd hb he, if_pos rfl] at hrec
      simp -implicitDefEqProofs (disch := decide +kernel) only [cf, cs, bodyOf, Try.f50, Option.getD_some, go_sem, ↓reduceIte, Nat.reduceSub, Nat.reduceAdd, Nat.reduceMul, Nat.reduceBEq, Nat.reduceLT, Nat.reduceLeDiff, Nat.reduceEqDiff, reduceCtorEq, Int.reduceToNat, Int.reduceLE, Int.reduceLT, Int.reduceBEq, Int.reduceBNe, mCall, ap_S, cel3, cells_enc, cells_encS, cel2, zc3, acc_keep, acc_drop, (encS_eq s).symm, (encS_eq (underS s)).symm, lt_true hi, arg_get hi, getApp0, setApp0, hrec, hap, hxs, wrap_succ (n := i) (by omega), k1, hw1, he, hu]
theorem clrT_nil : ∀ ps : List Nat, clrT ps [] = []
  | [] => rfl
  | p :: ps => by rw [clrT]; exact clrT_nil ps
noncomputable def ap_E (t : Tm) (s : Sb) (h : List HO) (xs : List Tm) (m : Nat) : St :=
  { tmps := [], mem := { locs := ll 78 [(4, cel3 t), (5, cel2 s), (6, zc3), (7, [dI t.kind, dI t.head, acc 0 (encs xs)])], heap := h ++ [.var 0 [dI m]], toks := accT xs.length } }
theorem ap_stop {t : Tm} {s : Sb} {h : List HO} {xs : List Tm} {m m' i e : Nat} (hi : i < t.args.length) (hxl : xs.length = i) (hs : t.size < room) (hm : ∀ x ∈ s.L, mayB x = true ∧ vlowB x = true) (hl : s.L.length < room) (hsh : 0 ≤ s.sh ∧ s.sh ≤ 4503599627370496)
    (hrec : (lim C).call 50 [.href h.length 0, dT (t.arg i), dS (below s t i)] (h ++ [.var 0 [dI m]]) = some (.pan (errV e), h ++ [.var 0 [dI m']])) :
    (lim C).code 50 (cf (.loop (cf (cf (cs (cf (cs (cs (cs (bodyOf Try.f50)))))))))) (ap_S t s h xs m i) = some (.pan (errV e), ap_E t s h xs m') := by
  have hr : room = 1099511627776 := rfl
  have hl' := len_size t
  have hw1 : IntKind.wrap .i64 ((t.args.length : Int) - 1) = (t.args.length : Int) - 1 := wrap_ok (by omega) (by omega)
  have hu := under_spec s hm hl hsh
  unfold below at hrec
  cases k1 : (t.kind == 1)
  · cases k3 : (t.kind == 3)
    · have hb : bindsB t = false := by simp [bindsB, k1, k3]
      rw [bindsB_no hb, if_neg (by decide)] at hrec
      simp -implicitDefEqProofs (disch := decide +kernel) only [cf, cs, bodyOf, Try.f50, Option.getD_some, go_sem, ↓reduceIte, Nat.reduceSub, Nat.reduceAdd, Nat.reduceMul, Nat.reduceBEq, Nat.reduceLT, Nat.reduceLeDiff, Nat.reduceEqDiff, reduceCtorEq, Int.reduceToNat, Int.reduceLE, Int.reduceLT, Int.reduceBEq, Int.reduceBNe, mCall, ap_S, ap_E, clrT_nil, cel3, cells_enc, cells_encS, cel2, zc3, acc_keep, acc_drop, (encS_eq s).symm, (encS_eq (underS s)).symm, lt_true hi, arg_get hi, getApp0, setApp0, hrec, k1, k3]
    · have hb : bindsB t = true := by simp [bindsB, k1, k3]
      cases he : ((i : Int) == (t.args.length : Int) - 1)
      · rw [bindsB_not he, if_neg (by decide)] at hrec
        simp -implicitDefEqProofs (disch := decide +kernel) only [cf, cs, bodyOf, Try.f50, Option.getD_some, go_sem, ↓reduceIte, Nat.reduceSub, Nat.reduceAdd, Nat.reduceMul, Nat.reduceBEq, Nat.reduceLT, Nat.reduceLeDiff, Nat.reduceEqDiff, reduceCtorEq, Int.reduceToNat, Int.reduceLE, Int.reduceLT, Int.reduceBEq, Int.reduceBNe, mCall, ap_S, ap_E, clrT_nil, cel3, cells_enc, cells_encS, cel2, zc3, acc_keep, acc_drop, (encS_eq s).symm, (encS_eq (underS s)).symm, lt_true hi, arg_get hi, getApp0, setApp0, hrec, k1, k3, hw1, he]
      · rw [bindsB_bnd hb he, if_pos rfl] at hrec
        simp -implicitDefEqProofs (disch := decide +kernel) only [cf, cs, bodyOf, Try.f50, Option.getD_some, go_sem, ↓reduceIte, Nat.reduceSub, Nat.reduceAdd, Nat.reduceMul, Nat.reduceBEq, Nat.reduceLT, Nat.reduceLeDiff, Nat.reduceEqDiff, reduceCtorEq, Int.reduceToNat, Int.reduceLE, Int.reduceLT, Int.reduceBEq, Int.reduceBNe, mCall, ap_S, ap_E, clrT_nil, cel3, cells_enc, cells_encS, cel2, zc3, acc_keep, acc_drop, (encS_eq s).symm, (encS_eq (underS s)).symm, lt_true hi, arg_get hi, getApp0, setApp0, hrec, k1, k3, hw1, he, hu]
  · have hb : bindsB t = true := by simp [bindsB, k1]
    cases he : ((i : Int) == (t.args.length : Int) - 1)
    · rw [bindsB_not he, if_neg (by decide)] at hrec
      simp -implicitDefEqProofs (disch := decide +kernel) only [cf, cs, bodyOf, Try.f50, Option.getD_some, go_sem, ↓reduceIte, Nat.reduceSub, Nat.reduceAdd, Nat.reduceMul, Nat.reduceBEq, Nat.reduceLT, Nat.reduceLeDiff, Nat.reduceEqDiff, reduceCtorEq, Int.reduceToNat, Int.reduceLE, Int.reduceLT, Int.reduceBEq, Int.reduceBNe, mCall, ap_S, ap_E, clrT_nil, cel3, cells_enc, cells_encS, cel2, zc3, acc_keep, acc_drop, (encS_eq s).symm, (encS_eq (underS s)).symm, lt_true hi, arg_get hi, getApp0, setApp0, hrec, k1, hw1, he]
    · rw [bindsB_bnd hb he, if_pos rfl] at hrec
      simp -implicitDefEqProofs (disch := decide +kernel) only [cf, cs, bodyOf, Try.f50, Option.getD_some, go_sem, ↓reduceIte, Nat.reduceSub, Nat.reduceAdd, Nat.reduceMul, Nat.reduceBEq, Nat.reduceLT, Nat.reduceLeDiff, Nat.reduceEqDiff, reduceCtorEq, Int.reduceToNat, Int.reduceLE, Int.reduceLT, Int.reduceBEq, Int.reduceBNe, mCall, ap_S, ap_E, clrT_nil, cel3, cells_enc, cells_encS, cel2, zc3, acc_keep, acc_drop, (encS_eq s).symm, (encS_eq (underS s)).symm, lt_true hi, arg_get hi, getApp0, setApp0, hrec, k1, hw1, he, hu]

/-! ### spine -/
theorem spn_nil (u : Tm) (l : List Tm) (hl : l = []) (n : Nat) (h : List HO) : (lim C).call 55 [.href h.length 0, dT u, dL l] (h ++ [.var 0 [dI n]]) = some (.ret (dT u), h ++ [.var 0 [dI n]]) := by
  have h0 : ((l.length : Int) == 0) = true := by rw [hl]; rfl
  have he : Dv.agg [.int .i64 u.kind, .int .i64 u.head, .slc (encs u.args)] = enc u := (enc_eq u).symm
  rw [ev_fn 55 Try.f55 _ _ _ rfl Try.func55 rfl Try.ntmps55 rfl]
  simp -implicitDefEqProofs (disch := decide +kernel) only [go_sem, ↓reduceIte, Nat.reduceSub, Nat.reduceAdd, Nat.reduceMul, Nat.reduceBEq, Nat.reduceLT, Nat.reduceLeDiff, Nat.reduceEqDiff, reduceCtorEq, Int.reduceToNat, Int.reduceLE, Int.reduceLT, Int.reduceBEq, Int.reduceBNe, mCall, cells_enc, cel3, h0, he]
theorem spn_lam {u v r a : Tm} {l rest : List Tm} {n m : Nat} {h h' : List HO} (hk : (u.kind == 3) = true) (hu : 0 < u.args.length) (hm : mayB a = true) (hsz : a.size < room) (hl : l = a :: rest) (hlen : l.length < room)
    (hrec : (lim C).call 50 [.href h.length 0, dT (u.arg 0), dS ⟨[a], 0⟩] (h ++ [.var 0 [dI n]]) = some (.ret (dT v), h ++ [.var 0 [dI m]]))
    (hsp : (lim C).call 55 [.href h.length 0, dT v, dL rest] (h ++ [.var 0 [dI m]]) = some (.ret (dT r), h')) : (lim C).call 55 [.href h.length 0, dT u, dL l] (h ++ [.var 0 [dI n]]) = some (.ret (dT r), h') := by
  have hr : room = 1099511627776 := rfl
  have h0 : ((l.length : Int) == 0) = false := by rw [hl]; simp; omega
  have ha : l[0]? = some a := by rw [hl]; rfl
  have hma := tMay_spec a hsz
  rw [hm] at hma
  have h1 : (encs l).take 1 = [enc a] := by rw [hl]; rfl
  have h2 : (encs l).drop 1 = encs rest := by rw [hl]; rfl
  have hle : 1 ≤ l.length := by rw [hl]; simp
  have h3 : (encs l).take l.length = encs l := by rw [← encs_length, List.take_length]
  have hsb : Dv.agg [.slc [enc a], .int .i64 0] = encS ⟨[a], 0⟩ := rfl
  rw [ev_fn 55 Try.f55 _ _ _ rfl Try.func55 rfl Try.ntmps55 rfl]
  simp -implicitDefEqProofs (disch := decide +kernel) only [go_sem, ↓reduceIte, Nat.reduceSub, Nat.reduceAdd, Nat.reduceMul, Nat.reduceBEq, Nat.reduceLT, Nat.reduceLeDiff, Nat.reduceEqDiff, reduceCtorEq, Int.reduceToNat, Int.reduceLE, Int.reduceLT, Int.reduceBEq, Int.reduceBNe, mCall, cells_enc, cel3, h0, hk, ha, arg_get hu, hma, h1, h2, h3, hle, encs_all, encs_length, hsb, hrec, hsp, (enc_eq r).symm]
theorem spn_lam2 {u v a : Tm} {e : Nat} {l rest : List Tm} {n m : Nat} {h h' : List HO} (hk : (u.kind == 3) = true) (hu : 0 < u.args.length) (hm : mayB a = true) (hsz : a.size < room) (hl : l = a :: rest) (hlen : l.length < room)
    (hrec : (lim C).call 50 [.href h.length 0, dT (u.arg 0), dS ⟨[a], 0⟩] (h ++ [.var 0 [dI n]]) = some (.ret (dT v), h ++ [.var 0 [dI m]]))
    (hsp : (lim C).call 55 [.href h.length 0, dT v, dL rest] (h ++ [.var 0 [dI m]]) = some (.pan (errV e), h')) : (lim C).call 55 [.href h.length 0, dT u, dL l] (h ++ [.var 0 [dI n]]) = some (.pan (errV e), h') := by
  have hr : room = 1099511627776 := rfl
  have h0 : ((l.length : Int) == 0) = false := by rw [hl]; simp; omega
  have ha : l[0]? = some a := by rw [hl]; rfl
  have hma := tMay_spec a hsz
  rw [hm] at hma
  have h1 : (encs l).take 1 = [enc a] := by rw [hl]; rfl
  have h2 : (encs l).drop 1 = encs rest := by rw [hl]; rfl
  have hle : 1 ≤ l.length := by rw [hl]; simp
  have h3 : (encs l).take l.length = encs l := by rw [← encs_length, List.take_length]
  have hsb : Dv.agg [.slc [enc a], .int .i64 0] = encS ⟨[a], 0⟩ := rfl
  rw [ev_fn 55 Try.f55 _ _ _ rfl Try.func55 rfl Try.ntmps55 rfl]
  simp -implicitDefEqProofs (disch := decide +kernel) only [go_sem, ↓reduceIte, Nat.reduceSub, Nat.reduceAdd, Nat.reduceMul, Nat.reduceBEq, Nat.reduceLT, Nat.reduceLeDiff, Nat.reduceEqDiff, reduceCtorEq, Int.reduceToNat, Int.reduceLE, Int.reduceLT, Int.reduceBEq, Int.reduceBNe, mCall, cells_enc, cel3, h0, hk, ha, arg_get hu, hma, h1, h2, h3, hle, encs_all, encs_length, hsb, hrec, hsp]
theorem spn_lam1 {u a : Tm} {e : Nat} {l rest : List Tm} {n m : Nat} {h h' : List HO} (hk : (u.kind == 3) = true) (hu : 0 < u.args.length) (hm : mayB a = true) (hsz : a.size < room) (hl : l = a :: rest) (hlen : l.length < room)
    (hrec : (lim C).call 50 [.href h.length 0, dT (u.arg 0), dS ⟨[a], 0⟩] (h ++ [.var 0 [dI n]]) = some (.pan (errV e), h')) : (lim C).call 55 [.href h.length 0, dT u, dL l] (h ++ [.var 0 [dI n]]) = some (.pan (errV e), h') := by
  have hr : room = 1099511627776 := rfl
  have h0 : ((l.length : Int) == 0) = false := by rw [hl]; simp; omega
  have ha : l[0]? = some a := by rw [hl]; rfl
  have hma := tMay_spec a hsz
  rw [hm] at hma
  have h1 : (encs l).take 1 = [enc a] := by rw [hl]; rfl
  have h2 : (encs l).drop 1 = encs rest := by rw [hl]; rfl
  have hle : 1 ≤ l.length := by rw [hl]; simp
  have h3 : (encs l).take l.length = encs l := by rw [← encs_length, List.take_length]
  have hsb : Dv.agg [.slc [enc a], .int .i64 0] = encS ⟨[a], 0⟩ := rfl
  rw [ev_fn 55 Try.f55 _ _ _ rfl Try.func55 rfl Try.ntmps55 rfl]
  simp -implicitDefEqProofs (disch := decide +kernel) only [go_sem, ↓reduceIte, Nat.reduceSub, Nat.reduceAdd, Nat.reduceMul, Nat.reduceBEq, Nat.reduceLT, Nat.reduceLeDiff, Nat.reduceEqDiff, reduceCtorEq, Int.reduceToNat, Int.reduceLE, Int.reduceLT, Int.reduceBEq, Int.reduceBNe, mCall, cells_enc, cel3, h0, hk, ha, arg_get hu, hma, h1, h2, h3, hle, encs_all, encs_length, hsb, hrec]
theorem spn_big {u a : Tm} {l rest : List Tm} {n : Nat} {h : List HO} (hk : (u.kind == 3) = true) (hm : mayB a = false) (hsz : a.size < room) (hl : l = a :: rest) : (lim C).call 55 [.href h.length 0, dT u, dL l] (h ++ [.var 0 [dI n]]) = some (.pan (errV 4), h ++ [.var 0 [dI n]]) := by
  have hr : room = 1099511627776 := rfl
  have h0 : ((l.length : Int) == 0) = false := by rw [hl]; simp; omega
  have ha : l[0]? = some a := by rw [hl]; rfl
  have hma := tMay_spec a hsz
  rw [hm] at hma
  rw [ev_fn 55 Try.f55 _ _ _ rfl Try.func55 rfl Try.ntmps55 rfl]
  simp -implicitDefEqProofs (disch := decide +kernel) only [go_sem, ↓reduceIte, Nat.reduceSub, Nat.reduceAdd, Nat.reduceMul, Nat.reduceBEq, Nat.reduceLT, Nat.reduceLeDiff, Nat.reduceEqDiff, reduceCtorEq, Int.reduceToNat, Int.reduceLE, Int.reduceLT, Int.reduceBEq, Int.reduceBNe, mCall, cells_enc, cel3, h0, hk, ha, hma, fail_spec]
  rfl
theorem spn_head {u a : Tm} {l rest : List Tm} {n : Nat} {h : List HO} (hk : heads u.kind = true) (hl : l = a :: rest) (hlen : u.args.length + l.length < room) : (lim C).call 55 [.href h.length 0, dT u, dL l] (h ++ [.var 0 [dI n]]) = some (.ret (dT (.mk u.kind u.head (u.args ++ l))), h ++ [.var 0 [dI n]]) := by
  have hr : room = 1099511627776 := rfl
  have h0 : ((l.length : Int) == 0) = false := by rw [hl]; simp; omega
  have hc := concat_spec u.args l hlen
  have he := tm_enc u.kind u.head (u.args ++ l)
  have k3 : (u.kind == 3) = false := by
    simp only [heads, Bool.or_eq_true, beq_iff_eq] at hk
    rcases hk with (hk | hk) | hk <;> rw [hk] <;> rfl
  rw [ev_fn 55 Try.f55 _ _ _ rfl Try.func55 rfl Try.ntmps55 rfl]
  cases k4 : (u.kind == 4)
  · cases k5 : (u.kind == 5)
    · have k2 : (u.kind == 2) = true := by simpa [heads, k4, k5] using hk
      simp -implicitDefEqProofs (disch := decide +kernel) only [go_sem, ↓reduceIte, Nat.reduceSub, Nat.reduceAdd, Nat.reduceMul, Nat.reduceBEq, Nat.reduceLT, Nat.reduceLeDiff, Nat.reduceEqDiff, reduceCtorEq, Int.reduceToNat, Int.reduceLE, Int.reduceLT, Int.reduceBEq, Int.reduceBNe, mCall, cells_enc, cel3, h0, k2, k3, k4, k5, hc, he]
    · simp -implicitDefEqProofs (disch := decide +kernel) only [go_sem, ↓reduceIte, Nat.reduceSub, Nat.reduceAdd, Nat.reduceMul, Nat.reduceBEq, Nat.reduceLT, Nat.reduceLeDiff, Nat.reduceEqDiff, reduceCtorEq, Int.reduceToNat, Int.reduceLE, Int.reduceLT, Int.reduceBEq, Int.reduceBNe, mCall, cells_enc, cel3, h0, k3, k4, k5, hc, he]
  · simp -implicitDefEqProofs (disch := decide +kernel) only [go_sem, ↓reduceIte, Nat.reduceSub, Nat.reduceAdd, Nat.reduceMul, Nat.reduceBEq, Nat.reduceLT, Nat.reduceLeDiff, Nat.reduceEqDiff, reduceCtorEq, Int.reduceToNat, Int.reduceLE, Int.reduceLT, Int.reduceBEq, Int.reduceBNe, mCall, cells_enc, cel3, h0, k3, k4, hc, he]
theorem spn_bad {u a : Tm} {l rest : List Tm} {n : Nat} {h : List HO} (hk : heads u.kind = false) (k3 : (u.kind == 3) = false) (hl : l = a :: rest) : (lim C).call 55 [.href h.length 0, dT u, dL l] (h ++ [.var 0 [dI n]]) = some (.pan (errV 3), h ++ [.var 0 [dI n]]) := by
  have h0 : ((l.length : Int) == 0) = false := by rw [hl]; simp; omega
  simp only [heads, Bool.or_eq_false_iff] at hk
  obtain ⟨⟨k4, k5⟩, k2⟩ := hk
  rw [ev_fn 55 Try.f55 _ _ _ rfl Try.func55 rfl Try.ntmps55 rfl]
  simp -implicitDefEqProofs (disch := decide +kernel) only [go_sem, ↓reduceIte, Nat.reduceSub, Nat.reduceAdd, Nat.reduceMul, Nat.reduceBEq, Nat.reduceLT, Nat.reduceLeDiff, Nat.reduceEqDiff, reduceCtorEq, Int.reduceToNat, Int.reduceLE, Int.reduceLT, Int.reduceBEq, Int.reduceBNe, mCall, cells_enc, cel3, h0, k2, k3, k4, k5, fail_spec]
  rfl
end Go.Proofs.Ytobocgjdlchemaa
/- subst: apply and spine, told whole. -/
set_option linter.unusedSimpArgs false
set_option linter.unusedVariables false
set_option maxRecDepth 100000
namespace Go.Proofs.Ytobocgjdlchemaa
open Go.Proofs
theorem seqF_pre {g : Nat → Nat → R Tm} {n : Nat} : ∀ {k : Nat} {xs : List Tm} {m : Nat}, seqF g n k = .ok xs m → ∀ i, i ≤ k → ∃ ys m1, seqF g n i = .ok ys m1
  | 0, xs, m, h, i, hi => by
    obtain rfl : i = 0 := by omega
    exact ⟨_, _, h⟩
  | k + 1, xs, m, h, i, hi => by
    rcases Nat.lt_or_ge k i with hk | hk
    · obtain rfl : i = k + 1 := by omega
      exact ⟨_, _, h⟩
    · obtain ⟨ys, m1, h1, _⟩ := R.bind_eq h
      exact seqF_pre h1 i hk
theorem seqF_er {g : Nat → Nat → R Tm} {n : Nat} : ∀ {k e m : Nat}, seqF g n k = .er e m → ∃ j xs mj, j < k ∧ seqF g n j = .ok xs mj ∧ g j mj = .er e m
  | 0, e, m, h => by cases h
  | k + 1, e, m, h => by
    cases hk : seqF g n k with
    | er e' m' =>
      simp only [seqF, hk, R.bind_er, R.er.injEq] at h
      obtain ⟨rfl, rfl⟩ := h
      obtain ⟨j, xs, mj, h1, h2, h3⟩ := seqF_er hk
      exact ⟨j, xs, mj, by omega, h2, h3⟩
    | ok xs mk =>
      simp only [seqF, hk, R.bind_ok] at h
      cases hg : g k mk with
      | er e' m' =>
        rw [hg, R.bind_er] at h
        simp only [R.er.injEq] at h
        obtain ⟨rfl, rfl⟩ := h
        exact ⟨k, xs, mk, by omega, hk, hg⟩
      | ok x m' => rw [hg] at h; cases h
theorem seqF_succ {g : Nat → Nat → R Tm} {n k : Nat} {xs : List Tm} {m : Nat} {x : Tm} {m' : Nat} (h1 : seqF g n k = .ok xs m) (h2 : g k m = .ok x m') : seqF g n (k + 1) = .ok (xs ++ [x]) m' := by
  simp only [seqF, h1, h2, R.bind_ok]
/-- What is asked before a term is gone to. -/
structure Pre (f n : Nat) (K D H : Int) (t : Tm) (s : Sb) : Prop where
  fuel : 40000 ≤ n + f
  nodes : nodesB t = true
  vle : vleB K t = true
  k0 : 0 ≤ K
  kh : K ≤ H
  kd : K + D ≤ H
  sd : s.sh - s.L.length ≤ D
  ok : SOk H s
  top : H + 40001 ≤ 4503599627370496 + n
  ts : t.size < room
  sl : s.L.length + 40001 ≤ 1000000000000 + n
  ss : s.sh + 40001 ≤ 4503599627370496 + n
  nb : n ≤ 40000
def Walk (f : Nat) : Prop := ∀ (t : Tm) (s : Sb) (n : Nat) (h : List HO) (K D H : Int), Pre f n K D H t s →
  (lim C).call 50 [.href h.length 0, dT t, dS s] (h ++ [.var 0 [dI n]]) = outR h (ap f t s n)
theorem spn_walk {f : Nat} (hA : Walk f) : ∀ (args : List Tm) (u : Tm) (n : Nat) (h : List HO) (H : Int), 40000 ≤ n + f → n ≤ 40000 → nodesB u = true → vleB H u = true → 0 ≤ H → H + 40001 ≤ 4503599627370496 + n →
    (∀ x ∈ args, nodesB x = true ∧ vleB H x = true) → u.size + (args.map Tm.size).sum + (40000 - n) * 4001 < room →
    (lim C).call 55 [.href h.length 0, dT u, dL args] (h ++ [.var 0 [dI n]]) = outR h (spnA (ap f) u args n)
  | [], u, n, h, H, _, _, _, _, _, _, _, _ => spn_nil u [] rfl n h
  | a :: rest, u, n, h, H, hf, hn, hu, hv, h0, ht, ha, hz => by
    have hr : room = 1099511627776 := rfl
    obtain ⟨a1, a2⟩ := ha a (by simp)
    have hlen := len_sum (a :: rest)
    simp only [List.map_cons, List.sum_cons] at hz hlen
    have hul := len_size u
    have hsza : a.size < room := by omega
    have hlr : (a :: rest).length < room := by omega
    simp only [spnA]
    split
    · rename_i hk
      have hkb : (u.kind == 3) = true := by simpa using hk
      split
      · rename_i hm
        have hul1 : u.args.length = 1 := by
          have hnu := node_here hu
          unfold nodeOk at hnu
          simp [hk] at hnu
          exact hnu.2
        have hu0 : nodesB (u.arg 0) = true := node_args hu 0 (by omega)
        have hv0 : vleB H (u.arg 0) = true := vle_args hv 0 (by omega)
        have hs1 : SOk H ⟨[a], 0⟩ := ⟨by simpa using hm, by simpa using a2, by simp⟩
        have hsz0 := size_arg (arg_mem (t := u) (i := 0) (by omega))
        have hw := hA (u.arg 0) ⟨[a], 0⟩ n h H (-1) H ⟨hf, hu0, hv0, h0, Int.le_refl _, by omega, by simp, hs1, ht, by omega, by simp; omega, by simp; omega, hn⟩
        cases hap : ap f (u.arg 0) ⟨[a], 0⟩ n with
        | er e m =>
          rw [hap] at hw
          rw [R.bind_er]
          exact spn_lam1 (m := m) (h' := h ++ [.var 0 [dI m]]) hkb (by omega) hm (rest := rest) hsza rfl hlr hw
        | ok v m =>
          rw [hap] at hw
          rw [R.bind_ok]
          obtain ⟨_, hft⟩ := ap_fits f (u.arg 0) ⟨[a], 0⟩ n H (-1) H v m hu0 hv0 h0 (Int.le_refl _) (by omega) (by simp) hs1 hap
          have q1 := hft.lt
          have q2 := hft.lim
          have q3 := hft.size
          have q4 : (40000 - n) * 4001 = (m - n) * 4001 + (40000 - m) * 4001 := by rw [← Nat.add_mul]; congr 1; omega
          have ih := spn_walk hA rest v m h (H + ((m - n : Nat) : Int)) (by omega) q2 hft.nodes hft.vle (by omega) (by omega) (fun x hx => ⟨(ha x (by simp [hx])).1, vle_mono (by omega) (ha x (by simp [hx])).2⟩) (by omega)
          cases hsp : spnA (ap f) v rest m with
          | er e m' =>
            rw [hsp] at ih
            exact spn_lam2 hkb (by omega) hm (rest := rest) hsza rfl hlr hw ih
          | ok r m' =>
            rw [hsp] at ih
            exact spn_lam hkb (by omega) hm (rest := rest) hsza rfl hlr hw ih
      · rename_i hm
        exact spn_big hkb (by simpa using hm) hsza rfl
    · rename_i hk
      have hkb : (u.kind == 3) = false := by simpa using hk
      split
      · rename_i hh
        exact spn_head (rest := rest) hh rfl (by omega)
      · rename_i hh
        exact spn_bad (by simpa using hh) hkb rfl

/-! ### apply -/
theorem ap_over {t : Tm} {s : Sb} {n : Nat} {h : List HO} (hn : n + 1 > 40000) (hn2 : n < 9223372036854775807) : (lim C).call 50 [.href h.length 0, dT t, dS s] (h ++ [.var 0 [dI n]]) = some (.pan (errV 4), h ++ [.var 0 [dI (n + 1 : Nat)]]) := by
  have hgt : decide (((n + 1 : Nat) : Int) > 40000) = true := by simp; omega
  rw [ev_fn 50 Try.f50 _ _ _ rfl Try.func50 rfl Try.ntmps50 rfl]
  simp -implicitDefEqProofs (disch := decide +kernel) only [go_sem, ↓reduceIte, Nat.reduceSub, Nat.reduceAdd, Nat.reduceMul, Nat.reduceBEq, Nat.reduceLT, Nat.reduceLeDiff, Nat.reduceEqDiff, reduceCtorEq, Int.reduceToNat, Int.reduceLE, Int.reduceLT, Int.reduceBEq, Int.reduceBNe, mCall, cells_enc, cells_encS, cel3, cel2, getApp0, setApp0, wrap_succ hn2, hgt, fail_spec]
  rfl
def ap_X (t : Tm) (s : Sb) (h : List HO) (xs : List Tm) (m : Nat) : St :=
  mk 78 [(0, .href h.length 0), (4, .lref 4 0), (5, .lref 5 0), (6, .lref 6 0), (7, .lref 7 0), (30, dL t.args), (31, dI t.args.length), (32, dI t.args.length), (33, dB false)]
    [(4, cel3 t), (5, cel2 s), (6, zc3), (7, [dI t.kind, dI t.head, acc 0 (encs xs)])] (h ++ [.var 0 [dI m]]) (accT xs.length)
theorem ap_pan {t : Tm} {s : Sb} {n m e : Nat} {h : List HO} {xs : List Tm} (hn : n + 1 ≤ 40000) (hloop : (lim C).code 50 (.loop (cf (cf (cs (cf (cs (cs (cs (bodyOf Try.f50))))))))) (ap_S t s h [] (n + 1) 0) = some (.pan (errV e), ap_E t s h xs m)) : (lim C).call 50 [.href h.length 0, dT t, dS s] (h ++ [.var 0 [dI n]]) = some (.pan (errV e), h ++ [.var 0 [dI m]]) := by
  have hgt : decide (((n + 1 : Nat) : Int) > 40000) = false := by simp; omega
  rw [ev_fn 50 Try.f50 _ _ _ rfl Try.func50 rfl Try.ntmps50 rfl]
  simp -implicitDefEqProofs (disch := decide +kernel) only [go_sem, ↓reduceIte, Nat.reduceSub, Nat.reduceAdd, Nat.reduceMul, Nat.reduceBEq, Nat.reduceLT, Nat.reduceLeDiff, Nat.reduceEqDiff, reduceCtorEq, Int.reduceToNat, Int.reduceLE, Int.reduceLT, Int.reduceBEq, Int.reduceBNe, mCall, cells_enc, cells_encS, cel3, cel2, getApp0, setApp0, wrap_succ (n := n) (by omega), hgt]
  rw [loop_at hloop ?hb ?hs]
  case hb => rfl
  case hs => rfl
  simp -implicitDefEqProofs (disch := decide +kernel) only [go_sem, ↓reduceIte, Nat.reduceSub, Nat.reduceAdd, Nat.reduceMul, Nat.reduceBEq, Nat.reduceLT, Nat.reduceLeDiff, Nat.reduceEqDiff, reduceCtorEq, Int.reduceToNat, Int.reduceLE, Int.reduceLT, Int.reduceBEq, Int.reduceBNe, mCall, ap_E]
theorem ap_ret {t : Tm} {s : Sb} {n m : Nat} {h : List HO} {xs : List Tm} (hn : n + 1 ≤ 40000) (k4 : (t.kind == 4) = false) (hloop : (lim C).code 50 (.loop (cf (cf (cs (cf (cs (cs (cs (bodyOf Try.f50))))))))) (ap_S t s h [] (n + 1) 0) = some (.exit 0, ap_X t s h xs m)) : (lim C).call 50 [.href h.length 0, dT t, dS s] (h ++ [.var 0 [dI n]]) = some (.ret (dT (.mk t.kind t.head xs)), h ++ [.var 0 [dI m]]) := by
  have k4' : (t.kind != 4) = true := by simp [bne, k4]
  have he := tm_enc t.kind t.head xs
  have hgt : decide (((n + 1 : Nat) : Int) > 40000) = false := by simp; omega
  rw [ev_fn 50 Try.f50 _ _ _ rfl Try.func50 rfl Try.ntmps50 rfl]
  simp -implicitDefEqProofs (disch := decide +kernel) only [go_sem, ↓reduceIte, Nat.reduceSub, Nat.reduceAdd, Nat.reduceMul, Nat.reduceBEq, Nat.reduceLT, Nat.reduceLeDiff, Nat.reduceEqDiff, reduceCtorEq, Int.reduceToNat, Int.reduceLE, Int.reduceLT, Int.reduceBEq, Int.reduceBNe, mCall, cells_enc, cells_encS, cel3, cel2, getApp0, setApp0, wrap_succ (n := n) (by omega), hgt]
  rw [loop_at hloop ?hb ?hs]
  case hb => rfl
  case hs => rfl
  simp -implicitDefEqProofs (disch := decide +kernel) only [go_sem, ↓reduceIte, Nat.reduceSub, Nat.reduceAdd, Nat.reduceMul, Nat.reduceBEq, Nat.reduceLT, Nat.reduceLeDiff, Nat.reduceEqDiff, reduceCtorEq, Int.reduceToNat, Int.reduceLE, Int.reduceLT, Int.reduceBEq, Int.reduceBNe, mCall, ap_X, zc3, cel3, k4', acc_keep, acc_drop, he]
theorem ap_var {t : Tm} {s : Sb} {n m : Nat} {h h' : List HO} {xs : List Tm} {r : Tm} (hn : n + 1 ≤ 40000) (k4 : (t.kind == 4) = true) (hloop : (lim C).code 50 (.loop (cf (cf (cs (cf (cs (cs (cs (bodyOf Try.f50))))))))) (ap_S t s h [] (n + 1) 0) = some (.exit 0, ap_X t s h xs m))
    (hof : (lim C).call 56 [dS s, dI t.head] [] = some (.ret (dT (ofS s t.head)), []))
    (hsp : (lim C).call 55 [.href h.length 0, dT (ofS s t.head), dL xs] (h ++ [.var 0 [dI m]]) = some (.ret (dT r), h')) : (lim C).call 50 [.href h.length 0, dT t, dS s] (h ++ [.var 0 [dI n]]) = some (.ret (dT r), h') := by
  have k4' : (t.kind != 4) = false := by simp [bne, k4]
  have hgt : decide (((n + 1 : Nat) : Int) > 40000) = false := by simp; omega
  rw [ev_fn 50 Try.f50 _ _ _ rfl Try.func50 rfl Try.ntmps50 rfl]
  simp -implicitDefEqProofs (disch := decide +kernel) only [go_sem, ↓reduceIte, Nat.reduceSub, Nat.reduceAdd, Nat.reduceMul, Nat.reduceBEq, Nat.reduceLT, Nat.reduceLeDiff, Nat.reduceEqDiff, reduceCtorEq, Int.reduceToNat, Int.reduceLE, Int.reduceLT, Int.reduceBEq, Int.reduceBNe, mCall, cells_enc, cells_encS, cel3, cel2, getApp0, setApp0, wrap_succ (n := n) (by omega), hgt]
  rw [loop_at hloop ?hb ?hs]
  case hb => rfl
  case hs => rfl
  simp -implicitDefEqProofs (disch := decide +kernel) only [go_sem, ↓reduceIte, Nat.reduceSub, Nat.reduceAdd, Nat.reduceMul, Nat.reduceBEq, Nat.reduceLT, Nat.reduceLeDiff, Nat.reduceEqDiff, reduceCtorEq, Int.reduceToNat, Int.reduceLE, Int.reduceLT, Int.reduceBEq, Int.reduceBNe, mCall, ap_X, zc3, cel3, cel2, (encS_eq s).symm, cells_enc, k4', acc_keep, acc_drop, hof, hsp, (enc_eq r).symm]
theorem ap_var2 {t : Tm} {s : Sb} {n m e : Nat} {h h' : List HO} {xs : List Tm} (hn : n + 1 ≤ 40000) (k4 : (t.kind == 4) = true) (hloop : (lim C).code 50 (.loop (cf (cf (cs (cf (cs (cs (cs (bodyOf Try.f50))))))))) (ap_S t s h [] (n + 1) 0) = some (.exit 0, ap_X t s h xs m))
    (hof : (lim C).call 56 [dS s, dI t.head] [] = some (.ret (dT (ofS s t.head)), []))
    (hsp : (lim C).call 55 [.href h.length 0, dT (ofS s t.head), dL xs] (h ++ [.var 0 [dI m]]) = some (.pan (errV e), h')) : (lim C).call 50 [.href h.length 0, dT t, dS s] (h ++ [.var 0 [dI n]]) = some (.pan (errV e), h') := by
  have k4' : (t.kind != 4) = false := by simp [bne, k4]
  have hgt : decide (((n + 1 : Nat) : Int) > 40000) = false := by simp; omega
  rw [ev_fn 50 Try.f50 _ _ _ rfl Try.func50 rfl Try.ntmps50 rfl]
  simp -implicitDefEqProofs (disch := decide +kernel) only [go_sem, ↓reduceIte, Nat.reduceSub, Nat.reduceAdd, Nat.reduceMul, Nat.reduceBEq, Nat.reduceLT, Nat.reduceLeDiff, Nat.reduceEqDiff, reduceCtorEq, Int.reduceToNat, Int.reduceLE, Int.reduceLT, Int.reduceBEq, Int.reduceBNe, mCall, cells_enc, cells_encS, cel3, cel2, getApp0, setApp0, wrap_succ (n := n) (by omega), hgt]
  rw [loop_at hloop ?hb ?hs]
  case hb => rfl
  case hs => rfl
  simp -implicitDefEqProofs (disch := decide +kernel) only [go_sem, ↓reduceIte, Nat.reduceSub, Nat.reduceAdd, Nat.reduceMul, Nat.reduceBEq, Nat.reduceLT, Nat.reduceLeDiff, Nat.reduceEqDiff, reduceCtorEq, Int.reduceToNat, Int.reduceLE, Int.reduceLT, Int.reduceBEq, Int.reduceBNe, mCall, ap_X, zc3, cel3, cel2, (encS_eq s).symm, cells_enc, k4', acc_keep, acc_drop, hof, hsp]
/-- The loop's state behind so many rounds. -/
def ap_SS (t : Tm) (s : Sb) (h : List HO) (g : Nat → Nat → R Tm) (n i : Nat) : St := match seqF g n i with
  | .ok xs m => ap_S t s h xs m i
  | .er _ _ => ap_S t s h [] n i
theorem ap_walk : ∀ f : Nat, Walk f
  | 0 => fun t s n h K D H p => by
    have h1 := p.fuel
    have h2 := p.nb
    rw [ap_zero]
    exact ap_over (by omega) (by omega)
  | f + 1 => fun t s n h K D H p => by
    have hr : room = 1099511627776 := rfl
    have ih := ap_walk f
    have hfu := p.fuel
    have htop := p.top
    have hsl := p.sl
    have hss := p.ss
    have hts := p.ts
    have hkh := p.kh
    have hkd := p.kd
    have hk0 := p.k0
    have hl' := len_size t
    rw [ap_succ]
    by_cases hn : n + 1 > 40000
    · rw [if_pos hn]
      exact ap_over hn (by have := p.nb; omega)
    rw [if_neg hn]
    have hm : ∀ x ∈ s.L, mayB x = true ∧ vlowB x = true := fun x hx => ⟨p.ok.may x hx, vle_mono (by omega) (p.ok.vle x hx)⟩
    have hsh := p.ok.sh
    -- each round
    have hpre : ∀ i, i < t.args.length → ∀ xs m, seqF (fun i m => ap f (t.arg i) (below s t i) m) (n + 1) i = .ok xs m → n + 1 ≤ m ∧ m ≤ 40000 ∧ Pre f m K D (H + 1) (t.arg i) (below s t i) := by
      intro i hi xs m he
      obtain ⟨q1, q2, _, _⟩ := seq_fits (H := H) t.args.length (fun i hi m x m' hm hx => by
        obtain ⟨b1, b2⟩ := below_ok (t := t) (i := i) p.ok (by omega) p.sd
        exact ap_fits f _ _ m K D (H + 1) x m' (node_args p.nodes i hi) (vle_args p.vle i hi) hk0 (by omega) (by omega) b2 b1 hx) (by omega) i (by omega) xs m he
      obtain ⟨b1, b2⟩ := below_ok (t := t) (i := i) p.ok (by omega) p.sd
      have hsz := size_arg (arg_mem hi)
      refine ⟨q1, q2, by omega, node_args p.nodes i hi, vle_args p.vle i hi, hk0, by omega, by omega, b2, b1, by omega, by omega, ?_, ?_, q2⟩
      · unfold below
        split
        · rw [under_len]; omega
        · omega
      · unfold below
        split
        · simp only [underS]; omega
        · omega
    have hstep : ∀ i, i < t.args.length → (∃ ys m', seqF (fun i m => ap f (t.arg i) (below s t i) m) (n + 1) (i + 1) = .ok ys m') →
        (lim C).code 50 (cf (.loop (cf (cf (cs (cf (cs (cs (cs (bodyOf Try.f50)))))))))) (ap_SS t s h (fun i m => ap f (t.arg i) (below s t i) m) (n + 1) i) = some (.nor, ap_SS t s h (fun i m => ap f (t.arg i) (below s t i) m) (n + 1) (i + 1)) := by
      rintro i hi ⟨ys, m', he⟩
      obtain ⟨xs, m, h1, h2⟩ := R.bind_eq he
      obtain ⟨x, m2, h3, h4⟩ := R.bind_eq h2
      cases h4
      obtain ⟨q1, q2, q3⟩ := hpre i hi xs m h1
      have hrec := ih _ _ m h _ _ _ q3
      have h3' : ap f (t.arg i) (below s t i) m = .ok x m' := h3
      rw [h3'] at hrec
      have hxl := seqF_len _ _ _ _ _ h1
      unfold ap_SS
      rw [h1, he]
      exact ap_step hi hxl hts hm (by omega) ⟨hsh, by omega⟩ hrec
    have hS0 : ap_SS t s h (fun i m => ap f (t.arg i) (below s t i) m) (n + 1) 0 = ap_S t s h [] (n + 1) 0 := rfl
    cases hseq : seqF (fun i m => ap f (t.arg i) (below s t i) m) (n + 1) t.args.length with
    | er e m =>
      rw [R.bind_er]
      obtain ⟨j, xs, mj, hj, h1, h2⟩ := seqF_er hseq
      obtain ⟨q1, q2, q3⟩ := hpre j hj xs mj h1
      have hrec := ih _ _ mj h _ _ _ q3
      have h2' : ap f (t.arg j) (below s t j) mj = .er e m := h2
      rw [h2'] at hrec
      have hxl := seqF_len _ _ _ _ _ h1
      refine ap_pan (xs := xs) (by omega) ?_
      rw [← hS0]
      refine loop_run (ap_SS t s h (fun i m => ap f (t.arg i) (below s t i) m) (n + 1)) j (fun i hi => hstep i (by omega) (seqF_pre h1 (i + 1) (by omega))) ?_ (by simp)
      have : ap_SS t s h (fun i m => ap f (t.arg i) (below s t i) m) (n + 1) j = ap_S t s h xs mj j := by unfold ap_SS; rw [h1]
      rw [this]
      exact ap_stop hj hxl hts hm (by omega) ⟨hsh, by omega⟩ hrec
    | ok xs m =>
      rw [R.bind_ok]
      have hxl := seqF_len _ _ _ _ _ hseq
      have hloop : (lim C).code 50 (.loop (cf (cf (cs (cf (cs (cs (cs (bodyOf Try.f50))))))))) (ap_S t s h [] (n + 1) 0) = some (.exit 0, ap_X t s h xs m) := by
        rw [← hS0]
        refine loop_run (ap_SS t s h (fun i m => ap f (t.arg i) (below s t i) m) (n + 1)) t.args.length (fun i hi => hstep i hi (seqF_pre hseq (i + 1) (by omega))) ?_ (by simp)
        have : ap_SS t s h (fun i m => ap f (t.arg i) (below s t i) m) (n + 1) t.args.length = ap_S t s h xs m t.args.length := by unfold ap_SS; rw [hseq]
        rw [this]
        simp -implicitDefEqProofs (disch := decide +kernel) only [cf, cs, bodyOf, Try.f50, Option.getD_some, go_sem, ↓reduceIte, Nat.reduceSub, Nat.reduceAdd, Nat.reduceMul, Nat.reduceBEq, Nat.reduceLT, Nat.reduceLeDiff, Nat.reduceEqDiff, reduceCtorEq, Int.reduceToNat, Int.reduceLE, Int.reduceLT, Int.reduceBEq, Int.reduceBNe, mCall, ap_S, ap_X, lt_false (Nat.le_refl t.args.length)]
      obtain ⟨q1, q2, q3, q4⟩ := seq_fits (H := H) t.args.length (fun i hi m x m' hm hx => by
        obtain ⟨b1, b2⟩ := below_ok (t := t) (i := i) p.ok (by omega) p.sd
        exact ap_fits f _ _ m K D (H + 1) x m' (node_args p.nodes i hi) (vle_args p.vle i hi) hk0 (by omega) (by omega) b2 b1 hx) (by omega) _ (Nat.le_refl _) xs m hseq
      by_cases hk : t.kind = 4
      · rw [if_pos hk]
        have hkb : (t.kind == 4) = true := by simpa using hk
        have hh0 := node_head (node_here p.nodes)
        have hh1 := vle_here p.vle hk
        obtain ⟨o1, o2, o3⟩ := of_ok p.ok hh0 hh1 p.sd hkd
        have hof := of_spec s t.head hh0 (by omega) (by omega) ⟨hsh, by omega⟩ (fun x hx => by have := (may_parts (p.ok.may x hx)).2.1; omega)
        have q5 : (m - (n + 1)) * 4001 + (40000 - m) * 4001 ≤ 40000 * 4001 := by rw [← Nat.add_mul]; exact Nat.mul_le_mul_right _ (by omega)
        have hsp := spn_walk ih xs (ofS s t.head) m h (H + 1 + ((m - (n + 1) : Nat) : Int)) (by omega) q2 o1 (vle_mono (by omega) o2) (by omega) (by omega) q3 (by omega)
        cases hs : spnA (ap f) (ofS s t.head) xs m with
        | ok r m' => rw [hs] at hsp; exact ap_var (by omega) hkb hloop hof hsp
        | er e m' => rw [hs] at hsp; exact ap_var2 (by omega) hkb hloop hof hsp
      · rw [if_neg hk]
        exact ap_ret (by omega) (by simpa using hk) hloop
end Go.Proofs.Ytobocgjdlchemaa
/- subst: done, Apply, Spine. -/
set_option linter.unusedSimpArgs false
set_option linter.unusedVariables false
set_option maxRecDepth 100000
namespace Go.Proofs.Ytobocgjdlchemaa
open Go.Proofs
theorem done0_eq (x : AV) (a b : HO) : done0 x [a, b] = mk 14 [(0, x), (2, .href 2 0), (3, .href 3 0), (4, .undef)] [] [a, b, .var 0 zTerm, .var 0 [dI 0]] [] := rfl
theorem doneX_eq (O : Orc) (x : AV) (heap : List HO) : doneX O [x] heap = (O.code 48 (cs (cs (bodyOf Try.f48))) (done0 x heap)).bind (doneEnd heap.length) := rfl
theorem doneEnd_ret (n : Nat) (σ : St) : doneEnd n (.ret, σ) = leave Try.prog Try.f48 (.ret, σ) := rfl
theorem doneEnd_pan (n : Nat) (e : Int) (σ : St) : doneEnd n (.pan (.iface 36 (.int .i64 e)), σ) = recK n e σ.mem.heap (σ.tmps.getD 2 .undef) (σ.tmps.getD 3 .undef) (σ.mem.heap[n]?) (σ.mem.heap[n + 1]?) := rfl
theorem recK_s (n : Nat) (e : Int) (h : List HO) (u v : Nat) (a b c d : AV) : recK n e h (.href n 0) (.href (n + 1) 0) (some (.var u [a, b, c])) (some (.var v [d])) = some (.ret (.tup [.d (.agg [.int .i64 0, .int .i64 0, .slc []]), .d (.int .i64 e)]), (h.set n (.var u zTerm)).set (n + 1) (.var v [.d (.int .i64 e)])) := by
  simp [recK]
/-- What done comes to. -/
def outD : R Tm → Tm × Int
  | .ok u m => if mayB u then (u, 0) else (zT, 4)
  | .er e m => (zT, e)
theorem done_ok {g : Nat} {a b : List AV} {u : Tm} {m : Nat} (hs : u.size < room) (hm : mayB u = true)
    (hdo : (lim C).call g [.href 4 0, .href 0 0, .href 1 0] [.var 0 a, .var 0 b, .var 0 zTerm, .var 0 [dI 0], .var 0 [dI 0]] = some (.ret (dT u), [.var 0 a, .var 0 b, .var 0 zTerm, .var 0 [dI 0], .var 0 [dI m]])) :
    (lim C).call 48 [.fn g [] [.href 0 0, .href 1 0]] [.var 0 a, .var 0 b] = some (.ret (.tup [dT u, dI 0]), [.var 0 a, .var 0 b, .var 0 (cel3 u), .var 0 [dI 0], .var 0 [dI m]]) := by
  have hma := tMay_spec u hs
  rw [hm] at hma
  rw [ev_ext (f := 48) (x := doneX) rfl, doneX_eq, done0_eq]
  unfold zTerm at hdo
  simp -implicitDefEqProofs (disch := decide +kernel) only [cf, cs, bodyOf, Try.f48, Option.getD_some, go_sem, ↓reduceIte, Nat.reduceSub, Nat.reduceAdd, Nat.reduceMul, Nat.reduceBEq, Nat.reduceLT, Nat.reduceLeDiff, Nat.reduceEqDiff, reduceCtorEq, Int.reduceToNat, Int.reduceLE, Int.reduceLT, Int.reduceBEq, Int.reduceBNe, mCall, zTerm, cells_enc, cel3, hdo, hma, doneEnd_ret, (enc_eq u).symm]
theorem done_big {g : Nat} {a b : List AV} {u : Tm} {m : Nat} (hs : u.size < room) (hm : mayB u = false)
    (hdo : (lim C).call g [.href 4 0, .href 0 0, .href 1 0] [.var 0 a, .var 0 b, .var 0 zTerm, .var 0 [dI 0], .var 0 [dI 0]] = some (.ret (dT u), [.var 0 a, .var 0 b, .var 0 zTerm, .var 0 [dI 0], .var 0 [dI m]])) :
    (lim C).call 48 [.fn g [] [.href 0 0, .href 1 0]] [.var 0 a, .var 0 b] = some (.ret (.tup [dT zT, dI 4]), [.var 0 a, .var 0 b, .var 0 zTerm, .var 0 [dI 4], .var 0 [dI m]]) := by
  have hma := tMay_spec u hs
  rw [hm] at hma
  rw [ev_ext (f := 48) (x := doneX) rfl, doneX_eq, done0_eq]
  unfold zTerm at hdo
  simp -implicitDefEqProofs (disch := decide +kernel) only [cf, cs, bodyOf, Try.f48, Option.getD_some, go_sem, ↓reduceIte, Nat.reduceSub, Nat.reduceAdd, Nat.reduceMul, Nat.reduceBEq, Nat.reduceLT, Nat.reduceLeDiff, Nat.reduceEqDiff, reduceCtorEq, Int.reduceToNat, Int.reduceLE, Int.reduceLT, Int.reduceBEq, Int.reduceBNe, mCall, zTerm, cells_enc, cel3, hdo, hma, fail_spec, doneEnd_pan, recK_s, zT_enc]
theorem done_er {g : Nat} {a b : List AV} {e m : Nat}
    (hdo : (lim C).call g [.href 4 0, .href 0 0, .href 1 0] [.var 0 a, .var 0 b, .var 0 zTerm, .var 0 [dI 0], .var 0 [dI 0]] = some (.pan (errV e), [.var 0 a, .var 0 b, .var 0 zTerm, .var 0 [dI 0], .var 0 [dI m]])) :
    (lim C).call 48 [.fn g [] [.href 0 0, .href 1 0]] [.var 0 a, .var 0 b] = some (.ret (.tup [dT zT, dI e]), [.var 0 a, .var 0 b, .var 0 zTerm, .var 0 [dI e], .var 0 [dI m]]) := by
  rw [ev_ext (f := 48) (x := doneX) rfl, doneX_eq, done0_eq]
  unfold zTerm at hdo
  simp -implicitDefEqProofs (disch := decide +kernel) only [cf, cs, bodyOf, Try.f48, Option.getD_some, go_sem, ↓reduceIte, Nat.reduceSub, Nat.reduceAdd, Nat.reduceMul, Nat.reduceBEq, Nat.reduceLT, Nat.reduceLeDiff, Nat.reduceEqDiff, reduceCtorEq, Int.reduceToNat, Int.reduceLE, Int.reduceLT, Int.reduceBEq, Int.reduceBNe, mCall, zTerm, cells_enc, cel3, hdo, doneEnd_pan, recK_s, zT_enc]
/-- As done tells it. -/
theorem done_spec {g : Nat} {a b : List AV} {r : R Tm} (hs : ∀ u m, r = .ok u m → u.size < room)
    (hdo : (lim C).call g [.href 4 0, .href 0 0, .href 1 0] [.var 0 a, .var 0 b, .var 0 zTerm, .var 0 [dI 0], .var 0 [dI 0]] = outR [.var 0 a, .var 0 b, .var 0 zTerm, .var 0 [dI 0]] r) :
    ∃ h, (lim C).call 48 [.fn g [] [.href 0 0, .href 1 0]] [.var 0 a, .var 0 b] = some (.ret (.tup [dT (outD r).1, dI (outD r).2]), h) := by
  cases r with
  | ok u m =>
    cases hm : mayB u
    · exact ⟨_, by simp only [outD, hm]; exact done_big (hs u m rfl) hm hdo⟩
    · exact ⟨_, by simp only [outD, hm]; exact done_ok (hs u m rfl) hm hdo⟩
  | er e m => exact ⟨_, done_er hdo⟩
/-- Apply, in plain words. -/
def applyR (t : Tm) (s : Sb) : Tm × Int := if mayB t && smayB s then outD (ap 40000 t s 0) else (zT, 1)
def spineR (t : Tm) (l : List Tm) : Tm × Int := if mayB t && maysB l then outD (spnA (ap 40000) t l 0) else (zT, 1)
theorem ap1_spec {t : Tm} {s : Sb} {r : R Tm}
    (hw : (lim C).call 50 [.href 4 0, dT t, dS s] [.var 0 (cel3 t), .var 0 (cel2 s), .var 0 zTerm, .var 0 [dI 0], .var 0 [dI 0]] = outR [.var 0 (cel3 t), .var 0 (cel2 s), .var 0 zTerm, .var 0 [dI 0]] r) :
    (lim C).call 49 [.href 4 0, .href 0 0, .href 1 0] [.var 0 (cel3 t), .var 0 (cel2 s), .var 0 zTerm, .var 0 [dI 0], .var 0 [dI 0]] = outR [.var 0 (cel3 t), .var 0 (cel2 s), .var 0 zTerm, .var 0 [dI 0]] r := by
  have he := (enc_eq t).symm
  have hes := (encS_eq s).symm
  rw [ev_fn 49 Try.f49 _ _ _ rfl Try.func49 rfl Try.ntmps49 rfl]
  simp only [zTerm, cel3, cel2] at hw ⊢
  cases r with
  | ok u m =>
    simp only [outR] at hw ⊢
    simp -implicitDefEqProofs (disch := decide +kernel) only [go_sem, ↓reduceIte, Nat.reduceSub, Nat.reduceAdd, Nat.reduceMul, Nat.reduceBEq, Nat.reduceLT, Nat.reduceLeDiff, Nat.reduceEqDiff, reduceCtorEq, Int.reduceToNat, Int.reduceLE, Int.reduceLT, Int.reduceBEq, Int.reduceBNe, mCall, he, hes, hw, (enc_eq u).symm, cells_enc, cel3]
  | er e m =>
    simp only [outR] at hw ⊢
    simp -implicitDefEqProofs (disch := decide +kernel) only [go_sem, ↓reduceIte, Nat.reduceSub, Nat.reduceAdd, Nat.reduceMul, Nat.reduceBEq, Nat.reduceLT, Nat.reduceLeDiff, Nat.reduceEqDiff, reduceCtorEq, Int.reduceToNat, Int.reduceLE, Int.reduceLT, Int.reduceBEq, Int.reduceBNe, mCall, he, hes, hw]

theorem smay_parts {s : Sb} (h : smayB s = true) : s.L.length ≤ 200 ∧ 0 ≤ s.sh ∧ s.sh ≤ 1048576 ∧ ∀ x ∈ s.L, mayB x = true := by
  unfold smayB at h
  simp only [Bool.and_eq_true, decide_eq_true_eq] at h
  obtain ⟨⟨⟨h1, h2⟩, h3⟩, h4⟩ := h
  exact ⟨by omega, h2, h3, maysB_iff.1 h4⟩
abbrev topV : Int := 1125899906842624
theorem pre_top {t : Tm} {s : Sb} (ht : mayB t = true) (hs : smayB s = true) (hv : vleB topV t = true) (hvs : ∀ x ∈ s.L, vleB topV x = true) :
    Pre 40000 0 topV (s.sh - s.L.length) (topV + 1048576) t s := by
  have hr : room = 1099511627776 := rfl
  obtain ⟨p1, p2, p3⟩ := may_parts ht
  obtain ⟨q1, q2, q3, q4⟩ := smay_parts hs
  exact ⟨by omega, p1, hv, by decide, by decide, by omega, by omega, ⟨q4, fun x hx => vle_mono (by decide) (hvs x hx), q2⟩, by decide, by omega, by omega, by omega, by omega⟩
theorem ap_size {t : Tm} {s : Sb} {u : Tm} {m : Nat} (ht : mayB t = true) (hs : smayB s = true) (hv : vleB topV t = true) (hvs : ∀ x ∈ s.L, vleB topV x = true) (h : ap 40000 t s 0 = .ok u m) : Fits 0 m (topV + 1048576) 0 u := by
  have p := pre_top ht hs hv hvs
  exact (ap_fits _ _ _ _ _ _ _ _ _ p.nodes p.vle p.k0 p.kh p.kd p.sd p.ok h).2
theorem sapply_spec (t : Tm) (s : Sb) (hz : t.size < room) (hzs : ∀ x ∈ s.L, x.size < room) (hl : s.L.length < room) (hv : vleB topV t = true) (hvs : ∀ x ∈ s.L, vleB topV x = true) :
    ∃ h, (lim C).call 45 [dT t, dS s] [] = some (.ret (.tup [dT (applyR t s).1, dI (applyR t s).2]), h) := by
  have hr : room = 1099511627776 := rfl
  have hm1 := tMay_spec t hz
  have hm2 := smayS_spec s hl hzs
  have he := (enc_eq t).symm
  have hes := (encS_eq s).symm
  unfold applyR
  cases h1 : mayB t
  · rw [h1] at hm1
    refine ⟨[.var 0 (cel3 t), .var 0 (cel2 s)], ?_⟩
    rw [ev_fn 45 Try.f45 _ _ _ rfl Try.func45 rfl Try.ntmps45 rfl]
    simp -implicitDefEqProofs (disch := decide +kernel) only [go_sem, ↓reduceIte, Nat.reduceSub, Nat.reduceAdd, Nat.reduceMul, Nat.reduceBEq, Nat.reduceLT, Nat.reduceLeDiff, Nat.reduceEqDiff, reduceCtorEq, Int.reduceToNat, Int.reduceLE, Int.reduceLT, Int.reduceBEq, Int.reduceBNe, mCall, cells_enc, cells_encS, cel3, cel2, he, hes, hm1, zT_enc]
  · rw [h1] at hm1
    cases h2 : smayB s
    · rw [h2] at hm2
      refine ⟨[.var 0 (cel3 t), .var 0 (cel2 s)], ?_⟩
      rw [ev_fn 45 Try.f45 _ _ _ rfl Try.func45 rfl Try.ntmps45 rfl]
      simp -implicitDefEqProofs (disch := decide +kernel) only [go_sem, ↓reduceIte, Nat.reduceSub, Nat.reduceAdd, Nat.reduceMul, Nat.reduceBEq, Nat.reduceLT, Nat.reduceLeDiff, Nat.reduceEqDiff, reduceCtorEq, Int.reduceToNat, Int.reduceLE, Int.reduceLT, Int.reduceBEq, Int.reduceBNe, mCall, cells_enc, cells_encS, cel3, cel2, he, hes, hm1, hm2, zT_enc]
    · rw [h2] at hm2
      have hw := ap_walk 40000 t s 0 [.var 0 (cel3 t), .var 0 (cel2 s), .var 0 zTerm, .var 0 [dI 0]] _ _ _ (pre_top h1 h2 hv hvs)
      obtain ⟨h, hd⟩ := done_spec (g := 49) (a := cel3 t) (b := cel2 s) (r := ap 40000 t s 0) (fun u m hu => by
        have := (ap_size h1 h2 hv hvs hu)
        have := this.size
        have := ‹Fits 0 m (topV + 1048576) 0 u›.lim
        have q : (m - 0) * 4001 ≤ 40000 * 4001 := Nat.mul_le_mul_right _ (by omega)
        omega) (ap1_spec hw)
      simp only [cel3, cel2] at hd
      refine ⟨h, ?_⟩
      rw [ev_fn 45 Try.f45 _ _ _ rfl Try.func45 rfl Try.ntmps45 rfl]
      simp -implicitDefEqProofs (disch := decide +kernel) only [go_sem, ↓reduceIte, Nat.reduceSub, Nat.reduceAdd, Nat.reduceMul, Nat.reduceBEq, Nat.reduceLT, Nat.reduceLeDiff, Nat.reduceEqDiff, reduceCtorEq, Int.reduceToNat, Int.reduceLE, Int.reduceLT, Int.reduceBEq, Int.reduceBNe, mCall, cells_enc, cells_encS, cel3, cel2, he, hes, hm1, hm2, hd]

end Go.Proofs.Ytobocgjdlchemaa
/- Arguments of a law: terms, as they are read. -/
set_option linter.unusedVariables false
set_option linter.unusedSimpArgs false
namespace Go.Proofs.Ytobocgjdlchemaa
open Go.Proofs Go.ChangeShapes
def in64 (n : Int) : Prop := -9223372036854775808 ≤ n ∧ n ≤ 9223372036854775807
inductive Wf : Tm → Prop where
  | mk {t : Tm} : in64 t.kind → in64 t.head → (∀ x ∈ t.args, Wf x) → Wf t
theorem Wf.args {t : Tm} (h : Wf t) : ∀ x ∈ t.args, Wf x := by cases h; assumption
theorem Wf.kind {t : Tm} (h : Wf t) : in64 t.kind := by cases h; assumption
theorem Wf.head {t : Tm} (h : Wf t) : in64 t.head := by cases h; assumption
theorem Wf.pre {t : Tm} (h : Wf t) : ∀ (n : Int), ∀ q ∈ pre t n, Wf q.2 := by
  induction h with
  | mk h1 h2 h3 ih =>
    intro n
    refine pre_ind (.mk h1 h2 h3) fun i hi p hp => ih _ (arg_mem hi) _ p hp
theorem int_wf {n : Int} (h : (Lit.int .i64 n).wf = true) : in64 n := by
  simpa [Lit.wf, IntKind.min, IntKind.max, IntKind.signed, IntKind.bits, in64] using h
section
variable {H : Type} {enc' : TypeId × Value → H} {W : World} {held : Bool}
theorem list_of {α β : Type} {P : α → β → Prop} : ∀ l : List α, (∀ x ∈ l, ∃ y, P x y) → ∃ r : List β, r.length = l.length ∧ ∀ (i : Nat) (x : α) (y : β), l[i]? = some x → r[i]? = some y → P x y
  | [], _ => ⟨[], rfl, fun i x y h => by simp at h⟩
  | x :: l, h => by
    obtain ⟨y, hy⟩ := h x (by simp)
    obtain ⟨r, h1, h2⟩ := list_of l fun z hz => h z (by simp [hz])
    refine ⟨y :: r, by simp [h1], fun i a b ha hb => ?_⟩
    cases i with
    | zero => simp at ha hb; subst ha hb; exact hy
    | succ i => exact h2 i a b (by simpa using ha) (by simpa using hb)
theorem int_read {fuel : Nat} {cs : List Value} {x : DataW H × List MemPlace} (h : DataW.trod enc' Try.prog W 0 (fun _ => true) held fuel 3 cs = some x) : ∃ n, dv x.1 = .int .i64 n ∧ in64 n ∧ x.1 = .lit (.int .i64 n) := by
  obtain ⟨n, _, rfl, hw⟩ := DataW.trod_int Try.underlying3 h
  exact ⟨n, rfl, int_wf hw, rfl⟩
theorem tms_read {fuel : Nat} (ih : ∀ m, m < fuel → ∀ (cs : List Value) (x : DataW H × List MemPlace), DataW.trod enc' Try.prog W 0 (fun _ => true) held m 24 cs = some x → ∃ t : Tm, dv x.1 = enc t ∧ Wf t ∧ t.size ≤ Rows.uptoBulk x.1)
    {cs : List Value} {x : DataW H × List MemPlace} (h : DataW.trod enc' Try.prog W 0 (fun _ => true) held fuel 22 cs = some x) : ∃ l : List Tm, dv x.1 = .slc (encs l) ∧ (∀ t ∈ l, Wf t) ∧ (l.map Tm.size).sum + 1 ≤ Rows.uptoBulk x.1 := by
  rcases DataW.trod_slice Try.underlying22 h with ⟨rfl, rfl⟩ | ⟨a, len, cap, elems, rest, n, hn, rfl, rfl, _, hlc, _, hel, hget, _, _⟩
  · exact ⟨[], rfl, by simp, by simp [Rows.uptoBulk]⟩
  · obtain ⟨l, h1, h2⟩ := list_of (P := fun (y : DataW H × List MemPlace) (t : Tm) => dv y.1 = enc t ∧ Wf t ∧ t.size ≤ Rows.uptoBulk y.1) elems fun y hy => by
      obtain ⟨i, hi⟩ := List.mem_iff_getElem?.1 hy
      have hlt := (List.getElem?_eq_some_iff.1 hi).1
      have := hget i (by omega)
      rw [hi] at this
      obtain ⟨cs, _, hx⟩ := Option.bind_eq_some_iff.1 this
      exact ih n (by omega) cs y hx
    have key : ∀ (es : List (DataW H × List MemPlace)) (l : List Tm), l.length = es.length → (∀ (i : Nat) y t, es[i]? = some y → l[i]? = some t → dv y.1 = enc t ∧ Wf t ∧ t.size ≤ Rows.uptoBulk y.1) →
        dvs (es.map (·.1)) = encs l ∧ (∀ t ∈ l, Wf t) ∧ (l.map Tm.size).sum ≤ Rows.uptoBulkAll (es.map (·.1)) := by
      intro es
      induction es with
      | nil =>
        intro l hl _
        obtain rfl : l = [] := List.eq_nil_of_length_eq_zero (by simpa using hl)
        exact ⟨rfl, by simp, by simp⟩
      | cons y es ih =>
        intro l hl hp
        cases l with
        | nil => simp at hl
        | cons t l =>
          obtain ⟨k1, k2, k3⟩ := hp 0 y t rfl rfl
          obtain ⟨j1, j2, j3⟩ := ih l (by simpa using hl) fun i a b ha hb => hp (i + 1) a b (by simpa using ha) (by simpa using hb)
          refine ⟨?_, fun x hx => ?_, ?_⟩
          · simp only [List.map_cons, dvs, k1, j1]; rfl
          · rcases List.mem_cons.1 hx with rfl | hx
            · exact k2
            · exact j2 x hx
          · simp only [List.map_cons, List.sum_cons, Rows.uptoBulkAll]
            omega
    obtain ⟨k1, k2, k3⟩ := key elems l h1 h2
    refine ⟨l, by simp only [dv, k1], k2, ?_⟩
    simp only [Rows.uptoBulk]
    omega
theorem tm_read : ∀ (fuel : Nat) (cs : List Value) (x : DataW H × List MemPlace), DataW.trod enc' Try.prog W 0 (fun _ => true) held fuel 24 cs = some x → ∃ t : Tm, dv x.1 = enc t ∧ Wf t ∧ t.size ≤ Rows.uptoBulk x.1 := by
  intro fuel
  induction fuel using Nat.strongRecOn with
  | ind fuel ih =>
    intro cs x h
    obtain ⟨xs, n, hn, rfl, hl, hxl, hg⟩ := DataW.trod_struct Try.underlying24 h
    obtain ⟨a, b, c, rfl⟩ : ∃ a b c, xs = [a, b, c] := by
      match xs, hxl with
      | [a, b, c], _ => exact ⟨a, b, c, rfl⟩
    have h0 := hg 0 _ rfl
    have h1 := hg 1 _ rfl
    have h2 := hg 2 _ rfl
    simp only [List.getElem?_cons_zero, List.getElem?_cons_succ] at h0 h1 h2
    obtain ⟨k, k1, k2, k3⟩ := int_read h0
    obtain ⟨d, d1, d2, d3⟩ := int_read h1
    obtain ⟨l, l1, l2, l3⟩ := tms_read (fuel := n) (fun m hm => ih m (by omega)) h2
    refine ⟨.mk k d l, ?_, .mk k2 d2 l2, ?_⟩
    · rw [enc_mk]
      simp only [List.map_cons, List.map_nil, dv, dcs, k1, d1, l1, Dv.cells, List.cons_append, List.nil_append]
    · rw [size_eq]
      simp only [List.map_cons, List.map_nil, Rows.uptoBulk, Rows.uptoBulkAll, Tm.args]
      omega
theorem tm_arg {v : Value} {d : DataW H} {ps : List MemPlace} (h : DataW.Trod enc' Try.prog W 0 (fun _ => true) held 24 v d ps) : ∃ t : Tm, dv d = enc t ∧ Wf t ∧ t.size ≤ Rows.uptoBulk d := by
  obtain ⟨fuel, h⟩ := h
  exact tm_read fuel _ _ h
theorem tms_arg {v : Value} {d : DataW H} {ps : List MemPlace} (h : DataW.Trod enc' Try.prog W 0 (fun _ => true) held 22 v d ps) : ∃ l : List Tm, dv d = .slc (encs l) ∧ (∀ t ∈ l, Wf t) ∧ (l.map Tm.size).sum + 1 ≤ Rows.uptoBulk d := by
  obtain ⟨fuel, h⟩ := h
  exact tms_read (fun m _ => tm_read m) h
theorem int_arg {v : Value} {d : DataW H} {ps : List MemPlace} (h : DataW.Trod enc' Try.prog W 0 (fun _ => true) held 3 v d ps) : ∃ n, dv d = .int .i64 n ∧ in64 n := by
  obtain ⟨fuel, h⟩ := h
  obtain ⟨n, h1, h2, _⟩ := int_read h
  exact ⟨n, h1, h2⟩
end
theorem own_knob : ownKnob Try.prog.godebug = none := by kernel_rfl
theorem small_bulk {H : Type} {l : List (DataW H)} (hk : Rows.uptoSmall H l = true) : Rows.uptoBulkAll l ≤ 1048576 := of_decide_eq_true hk
end Go.Proofs.Ytobocgjdlchemaa
/- The laws of layer 2. -/
set_option linter.unusedSimpArgs false
set_option linter.unusedVariables false
set_option maxRecDepth 100000
namespace Go.Proofs.Ytobocgjdlchemaa
open Go.Proofs
attribute [go_sem] List.head?_cons
def w1 : Tm := .mk 3 0 [.mk 4 1 []]
def w3 : Tm := .mk 3 0 [.mk 4 3 []]
theorem w1_up0 : upT w1 2 0 = w3 := by simp [w1, w3, upT, mapT, gUp, bnd, Tm.kind, Tm.args, List.range, List.range.loop]
theorem w1_up1 : upT w1 2 1 = w1 := by simp [w1, upT, mapT, gUp, bnd, Tm.kind, Tm.args, List.range, List.range.loop]
theorem w1_dn : dnB w1 1 0 = false := by simp [w1, dnB, canB, pDn, bnd, Tm.kind, Tm.args, allB]
theorem w1_size : w1.size = 2 := by simp [w1, Tm.size]
theorem w1_may : mayB w1 = true := by
  have : w1.depth = 2 := by simp [w1, Tm.depth]
  simp [mayB, w1_size, this]
  simp [w1, nodesB, allB, nodeOk, Tm.kind, Tm.head, Tm.args]
theorem w1_low : vlowB w1 = true := by simp [w1, vlowB, vleB, canB, allB, bnd, Tm.kind, Tm.args]
theorem v_enc (h : Int) : Dv.agg [.int .i64 4, .int .i64 h, .slc []] = enc (.mk 4 h []) := by rw [enc_mk]; rfl
theorem w1_enc : Dv.agg [.int .i64 3, .int .i64 0, .slc [enc (.mk 4 1 [])]] = enc w1 := by simp [w1, enc_mk, encs]
theorem w1_fold : Dv.agg [.int .i64 w1.kind, .int .i64 w1.head, .slc [enc (.mk 4 1 [])]] = enc w1 := w1_enc
theorem awake2_spec : (lim C).call 11 [] [] = retB true := by
  have hr : room = 1099511627776 := rfl
  have hs : w1.size < room := by rw [w1_size]; omega
  obtain ⟨x1, h1⟩ := sup_spec w1 hs w1_low 2 0
  obtain ⟨x2, h2⟩ := sup_spec w1 hs w1_low 2 1
  obtain ⟨x3, h3⟩ := sdn_spec w1 hs w1_low 1 0
  rw [show renB w1 2 0 = true from by simp [renB, w1_may], if_pos rfl, w1_up0] at h1
  rw [show renB w1 2 1 = true from by simp [renB, w1_may], if_pos rfl, w1_up1] at h2
  rw [w1_dn, Bool.and_false] at h3
  simp only [Bool.false_eq_true, if_false] at h3
  have a1 : encs w1.args = [enc (.mk 4 1 [])] := rfl
  have a3 : encs w3.args = [enc (.mk 4 3 [])] := rfl
  have e1 := v_enc 1
  have e0 : (((1 : Nat) : Int) == 1) = true := rfl
  rw [ev_fn 11 Try.f11 _ _ _ rfl Try.func11 rfl Try.ntmps11 rfl]
  simp -implicitDefEqProofs (disch := decide +kernel) only [go_sem, ↓reduceIte, Nat.reduceSub, Nat.reduceAdd, Nat.reduceMul, Nat.reduceBEq, Nat.reduceLT, Nat.reduceLeDiff, Nat.reduceEqDiff, reduceCtorEq, Int.reduceToNat, Int.reduceLE, Int.reduceLT, Int.reduceBEq, Int.reduceBNe, mCall, e0, e1, w1_enc, w1_fold, h1, h2, h3, a1, a3, mk_head, mk_kind, mk_args]
theorem light_low {t : Tm} {s d : Int} (h : lightB t s d = true) : lowB t = true := by
  unfold lightB at h
  simp only [Bool.and_eq_true] at h
  exact h.1.1
theorem calm_of {c : Int} (hc : c ≤ 4503599627370496) : ∀ (t : Tm) (n : Int), 0 ≤ n → n + t.size ≤ 4000000000000000000 → nodesB t = true → hleB c t = true → ∀ q ∈ pre t n, calm q := by
  refine Tm.ind fun t ih n h1 h2 hn hl => pre_ind ?_ fun i hi p hp => ?_
  · have h3 := node_head (node_here hn)
    rw [hleB_iff] at hl
    have h4 := hl.1
    intro hk
    show _ ∧ _
    constructor <;> simp only <;> omega
  · have h3 := size_arg (arg_mem hi)
    have h4 := bnd_le t i
    rw [hleB_iff] at hl
    exact ih _ (arg_mem hi) (n + bnd t i) (by omega) (by omega) (node_args hn i hi) (hl.2 i hi) p hp
theorem ren_of {t : Tm} {b f : Int} (hm : mayB t = true) (h1 : 0 ≤ b) (h2 : b ≤ 1048576) (h3 : 0 ≤ f) (h4 : f ≤ 1048576) : renB t b f = true := by
  simp [renB, hm, h1, h2, h3, h4]
end Go.Proofs.Ytobocgjdlchemaa
/- Layer 3: what its laws begin with. -/
set_option linter.unusedSimpArgs false
set_option linter.unusedVariables false
set_option maxRecDepth 100000
namespace Go.Proofs.Ytobocgjdlchemaa
open Go.Proofs
theorem ap_leaf (f : Nat) (k h : Int) (s : Sb) (n : Nat) (hn : n + 1 ≤ 40000) : ap (f + 1) (.mk k h []) s n = .ok (if k = 4 then ofS s h else .mk k h []) (n + 1) := by
  rw [ap_succ, if_neg (by omega)]
  rw [show seqF (fun i m => ap f ((Tm.mk k h []).arg i) (below s (.mk k h []) i) m) (n + 1) (Tm.mk k h []).args.length = .ok [] (n + 1) from rfl, R.bind_ok]
  by_cases hk : k = 4
  · rw [if_pos (show (Tm.mk k h []).kind = 4 from hk), if_pos hk]; rfl
  · rw [if_neg (show ¬ (Tm.mk k h []).kind = 4 from hk), if_neg hk]; rfl
theorem leaf_may {k h : Int} (hk : heads k = true) (hh : 0 ≤ h) : mayB (.mk k h []) = true := by
  refine may_of (nodes_mk (node_heads hk hh _) (by simp)) ?_ ?_
  · rw [mk_size]; simp
  · rw [depth_eq]; simp [mk_args]
theorem leaf_var {i : Int} (h : 0 ≤ i) : mayB (.mk 4 i []) = true := leaf_may rfl h
/-! ### Same -/
def idL (k : Nat) (i : Nat) : List Tm := (List.range i).map fun (j : Nat) => .mk 4 ((k : Int) - 1 - j) []
def idN (n : Int) : Nat := if n < 0 then 0 else if n > 200 then 200 else n.toNat
def idS (n : Int) : Sb := ⟨idL (idN n) (idN n), idN n⟩
theorem idL_len (k i : Nat) : (idL k i).length = i := by simp [idL]
theorem idN_le (n : Int) : idN n ≤ 200 := by unfold idN; split <;> (try split) <;> omega
def sam_S (k : Nat) (i : Nat) : St := mk 26 [(0, dI k), (2, .lref 2 0), (3, .lref 3 0), (10, dI k), (11, dI i)] [(2, [.clip [], dI 0]), (3, [acc 0 (encs (idL k i)), dI k])] [] (accT i)
def lightsB (l : List Tm) (s d : Int) : Bool := !decide ((l.length : Int) > 60) && allB l.length fun i => lightB (l.getD i default) s d
def lts_S (l : List Tm) (s d : Int) (i : Nat) : St := mk 27 [(0, dL l), (1, dI s), (2, dI d), (7, dI i)] [] [] []

theorem lights_spec (l : List Tm) (s d : Int) (hl : l.length < room) (hz : ∀ x ∈ l, x.size < room) : (lim C).call 16 [dL l, dI s, dI d] [] = retB (lightsB l s d) := by
  have hr : room = 1099511627776 := rfl
  unfold lightsB
  rw [ev_fn 16 Try.f16 _ _ _ rfl Try.func16 rfl Try.ntmps16 rfl]
  cases h1 : decide ((l.length : Int) > 60)
  · have hget : ∀ i, i < l.length → (l.getD i default).size < room := fun i hi => hz _ (getD_mem hi)
    have hloop : (lim C).code 16 (.loop (cf (cf (cs (cf (cs (cs (bodyOf Try.f16)))))))) (lts_S l s d 0) = some (if allB l.length (fun i => lightB (l.getD i default) s d) then (.exit 0, mk 27 [(0, dL l), (1, dI s), (2, dI d), (7, dI l.length), (15, dB false)] [] [] []) else (.ret, mk 27 [(6, dB false)] [] [] [])) := by
      refine loop_all (lts_S l s d) l.length _ (fun i hi hp => ?_) (fun i hi hp => ?_) ?_ (by simp) (by simp)
      · have hc := light_spec (l.getD i default) s d (hget i hi)
        rw [hp] at hc
        simp -implicitDefEqProofs (disch := decide +kernel) only [cf, cs, bodyOf, Try.f16, Option.getD_some, go_sem, ↓reduceIte, Nat.reduceSub, Nat.reduceAdd, Nat.reduceMul, Nat.reduceBEq, Nat.reduceLT, Nat.reduceLeDiff, Nat.reduceEqDiff, reduceCtorEq, Int.reduceToNat, Int.reduceLE, Int.reduceLT, Int.reduceBEq, Int.reduceBNe, mCall, lts_S, lt_true hi, getD_get hi, hc, wrap_succ (n := i) (by omega)]
      · have hc := light_spec (l.getD i default) s d (hget i hi)
        rw [hp] at hc
        simp -implicitDefEqProofs (disch := decide +kernel) only [cf, cs, bodyOf, Try.f16, Option.getD_some, go_sem, ↓reduceIte, Nat.reduceSub, Nat.reduceAdd, Nat.reduceMul, Nat.reduceBEq, Nat.reduceLT, Nat.reduceLeDiff, Nat.reduceEqDiff, reduceCtorEq, Int.reduceToNat, Int.reduceLE, Int.reduceLT, Int.reduceBEq, Int.reduceBNe, mCall, lts_S, lt_true hi, getD_get hi, hc]
      · simp -implicitDefEqProofs (disch := decide +kernel) only [cf, cs, bodyOf, Try.f16, Option.getD_some, go_sem, ↓reduceIte, Nat.reduceSub, Nat.reduceAdd, Nat.reduceMul, Nat.reduceBEq, Nat.reduceLT, Nat.reduceLeDiff, Nat.reduceEqDiff, reduceCtorEq, Int.reduceToNat, Int.reduceLE, Int.reduceLT, Int.reduceBEq, Int.reduceBNe, mCall, lts_S, lt_false (Nat.le_refl l.length)]
    simp -implicitDefEqProofs (disch := decide +kernel) only [go_sem, ↓reduceIte, Nat.reduceSub, Nat.reduceAdd, Nat.reduceMul, Nat.reduceBEq, Nat.reduceLT, Nat.reduceLeDiff, Nat.reduceEqDiff, reduceCtorEq, Int.reduceToNat, Int.reduceLE, Int.reduceLT, Int.reduceBEq, Int.reduceBNe, mCall, h1]
    rw [loop_at hloop ?hb ?hs]
    case hb => rfl
    case hs => rfl
    cases hall : allB l.length fun i => lightB (l.getD i default) s d
    · simp -implicitDefEqProofs (disch := decide +kernel) only [go_sem, ↓reduceIte, Nat.reduceSub, Nat.reduceAdd, Nat.reduceMul, Nat.reduceBEq, Nat.reduceLT, Nat.reduceLeDiff, Nat.reduceEqDiff, reduceCtorEq, Int.reduceToNat, Int.reduceLE, Int.reduceLT, Int.reduceBEq, Int.reduceBNe, mCall, hall]
    · simp -implicitDefEqProofs (disch := decide +kernel) only [go_sem, ↓reduceIte, Nat.reduceSub, Nat.reduceAdd, Nat.reduceMul, Nat.reduceBEq, Nat.reduceLT, Nat.reduceLeDiff, Nat.reduceEqDiff, reduceCtorEq, Int.reduceToNat, Int.reduceLE, Int.reduceLT, Int.reduceBEq, Int.reduceBNe, mCall, hall]
  · simp -implicitDefEqProofs (disch := decide +kernel) only [go_sem, ↓reduceIte, Nat.reduceSub, Nat.reduceAdd, Nat.reduceMul, Nat.reduceBEq, Nat.reduceLT, Nat.reduceLeDiff, Nat.reduceEqDiff, reduceCtorEq, Int.reduceToNat, Int.reduceLE, Int.reduceLT, Int.reduceBEq, Int.reduceBNe, mCall, h1]
theorem lights_parts {l : List Tm} {s d : Int} (h : lightsB l s d = true) : l.length ≤ 60 ∧ ∀ x ∈ l, lightB x s d = true := by
  unfold lightsB at h
  simp only [Bool.and_eq_true, Bool.not_eq_true', decide_eq_false_iff_not] at h
  obtain ⟨h1, h2⟩ := h
  rw [allB_iff] at h2
  exact ⟨by omega, getD_all h2⟩
/-! ### the chapter's example -/
def exX : Tm := .mk 4 0 [.mk 5 1 []]
def exF : Tm := .mk 3 0 [.mk 4 0 []]
theorem exX_may : mayB exX = true := by
  refine may_of (nodes_mk (node_heads rfl (by decide) _) ?_) ?_ ?_
  · intro x hx
    obtain rfl : x = .mk 5 1 [] := by simpa using hx
    exact nodes_mk (node_heads rfl (by decide) _) (by simp)
  · unfold exX; rw [mk_size]; simp [mk_size]
  · unfold exX; rw [depth_eq]; simp [mk_args, depth_eq]
theorem exF_may : mayB exF = true := by
  refine may_of (nodes_mk (by simp [nodeOk, mk_kind, mk_head, mk_args]) ?_) ?_ ?_
  · intro x hx
    obtain rfl : x = .mk 4 0 [] := by simpa using hx
    exact nodes_mk (node_heads rfl (by decide) _) (by simp)
  · unfold exF; rw [mk_size]; simp [mk_size]
  · unfold exF; rw [depth_eq]; simp [mk_args, depth_eq]
theorem ex_apply : applyR exX ⟨[exF], 0⟩ = (.mk 5 1 [], 0) := by
  have hs : smayB ⟨[exF], 0⟩ = true := by simp [smayB, maysB, allB, exF_may]
  unfold applyR
  rw [exX_may, hs, Bool.and_self, if_pos rfl, show (40000 : Nat) = 39999 + 1 from rfl, ap_succ, if_neg (by decide)]
  have h1 : seqF (fun i m => ap 39999 (exX.arg i) (below ⟨[exF], 0⟩ exX i) m) (0 + 1) exX.args.length = .ok [.mk 5 1 []] 2 := by
    show ((seqF (fun i m => ap 39999 (exX.arg i) (below ⟨[exF], 0⟩ exX i) m) (0 + 1) 0).bind fun xs m => (ap 39999 (exX.arg 0) (below ⟨[exF], 0⟩ exX 0) m).bind fun x m' => .ok (xs ++ [x]) m') = _
    rw [show seqF (fun i m => ap 39999 (exX.arg i) (below ⟨[exF], 0⟩ exX i) m) (0 + 1) 0 = .ok [] 1 from rfl, R.bind_ok, show exX.arg 0 = .mk 5 1 [] from rfl, show (39999 : Nat) = 39998 + 1 from rfl, ap_leaf _ _ _ _ _ (by decide)]
    rfl
  rw [h1, R.bind_ok, show exX.kind = 4 from rfl, if_pos rfl, show exX.head = 0 from rfl, show ofS ⟨[exF], 0⟩ 0 = exF from rfl]
  simp only [spnA, show exF.kind = 3 from rfl, if_true, leaf_may (k := 5) (h := 1) rfl (by decide)]
  rw [show exF.arg 0 = .mk 4 0 [] from rfl, show (39999 : Nat) = 39998 + 1 from rfl, ap_leaf _ _ _ _ _ (by decide)]
  simp only [if_true, R.bind_ok, show ofS ⟨[.mk 5 1 []], 0⟩ 0 = .mk 5 1 [] from rfl, outD, leaf_may (k := 5) (h := 1) rfl (by decide)]
theorem exX_vle : vleB topV exX = true := vle_mk (fun _ => by decide) (by
  intro x hx
  obtain rfl : x = .mk 5 1 [] := by simpa using hx
  exact vle_mk (fun h => by omega) (by simp))
theorem exF_vle : vleB topV exF = true := vle_mk (fun h => by omega) (by
  intro x hx
  obtain rfl : x = .mk 4 0 [] := by simpa using hx
  exact vle_mk (fun _ => by decide) (by simp))
theorem fieldS_L (P : Program) (t : Nat) (s : Sb) (h : tag P t = some false) : fieldK P (some (0, 1, t)) (.d (encS s)) = some (.val (dL s.L)) := by
  rw [encS_eq]; simp [fieldK, h]
theorem fieldS_sh (P : Program) (t : Nat) (s : Sb) (h : tag P t = some false) : fieldK P (some (1, 1, t)) (.d (encS s)) = some (.val (dI s.sh)) := by
  rw [encS_eq]; simp [fieldK, h]
end Go.Proofs.Ytobocgjdlchemaa
/- Laws of layer 3: SubstUnder, SubstUp, SubstWeakens. -/
set_option linter.unusedSimpArgs false
set_option linter.unusedVariables false
set_option maxRecDepth 100000
namespace Go.Proofs.Ytobocgjdlchemaa
open Go.Proofs
theorem encS_mk (l : List Tm) (n : Int) : Dv.agg [.slc (encs l), .int .i64 n] = encS ⟨l, n⟩ := rfl
theorem cells_mkS (l : List Tm) (n : Int) : AV.cells (.d (encS ⟨l, n⟩)) = [dL l, dI n] := rfl
theorem smay_of {l : List Tm} {n : Int} (h1 : l.length ≤ 200) (h2 : 0 ≤ n) (h3 : n ≤ 1048576) (h4 : ∀ x ∈ l, mayB x = true) : smayB ⟨l, n⟩ = true := by
  unfold smayB
  have := maysB_iff.2 h4
  simp [this, h2, h3]
  omega
theorem smay_under {s : Sb} (h : smayB s = true) (hl : s.L.length + 1 ≤ 200) (hs : s.sh + 1 ≤ 1048576) : smayB (underS s) = true := by
  obtain ⟨h1, h2, h3, h4⟩ := smay_parts h
  refine smay_of (by simp; omega) (by omega) (by omega) fun x hx => ?_
  simp only [List.mem_append, List.mem_map, List.mem_singleton] at hx
  rcases hx with ⟨y, hy, rfl⟩ | rfl
  · exact up_may (h4 y hy) (by omega) 0
  · exact may_var0
theorem vle_under {s : Sb} {c d : Int} (h : ∀ x ∈ s.L, vleB c x = true) (hc : 0 ≤ c) (hd : c + 1 ≤ d) : ∀ x ∈ (underS s).L, vleB d x = true := by
  intro x hx
  simp only [underS, List.mem_append, List.mem_map, List.mem_singleton] at hx
  rcases hx with ⟨y, hy, rfl⟩ | rfl
  · exact vle_mono hd (vle_up (h y hy) (by omega) 0)
  · exact vle_var (by omega)
theorem ofS_may {s : Sb} (h : smayB s = true) {i : Int} (h0 : 0 ≤ i) : mayB (ofS s i) = true := by
  obtain ⟨h1, h2, h3, h4⟩ := smay_parts h
  unfold ofS
  split
  · exact h4 _ (getD_mem (by omega))
  · exact leaf_var (by omega)
theorem apply_var {s : Sb} (h : smayB s = true) {i : Int} (h0 : 0 ≤ i) : applyR (.mk 4 i []) s = (ofS s i, 0) := by
  unfold applyR
  rw [leaf_var h0, h, Bool.and_self, if_pos rfl, show (40000 : Nat) = 39999 + 1 from rfl, ap_leaf _ _ _ _ _ (by decide), if_pos rfl]
  simp only [outD, ofS_may h h0, if_true]
theorem light_size {t : Tm} {s d : Int} (h : lightB t s d = true) : (t.size : Int) ≤ s ∧ (t.depth : Int) ≤ d := by
  unfold lightB at h
  simp only [Bool.and_eq_true, decide_eq_true_eq] at h
  exact ⟨h.1.2, h.2⟩
theorem lists_room {l : List Tm} (hs : (l.map Tm.size).sum + 1 ≤ 1048576) : l.length < room ∧ ∀ x ∈ l, x.size < room := by
  have hr : room = 1099511627776 := rfl
  have := len_sum l
  refine ⟨by omega, fun x hx => ?_⟩
  have := sum_mem (List.mem_map_of_mem (f := Tm.size) hx)
  omega
def und_L (l : List Tm) (n i : Int) (k : Nat) : St := mk 102 [(0, dL l), (1, dI n), (2, dI i), (9, dI k)] [] [] []
end Go.Proofs.Ytobocgjdlchemaa
/- Laws of layer 3: SubstUp, SubstWeakens. -/
set_option linter.unusedSimpArgs false
set_option linter.unusedVariables false
set_option maxRecDepth 100000
namespace Go.Proofs.Ytobocgjdlchemaa
open Go.Proofs
theorem below_sh (s : Sb) (d : Nat) : (below_n s d).sh = s.sh + d := by
  induction d with
  | zero => simp [below_n]
  | succ d ih => simp only [below_n, underS, ih]; omega
theorem ren_all {s : Sb} (hs : 0 ≤ s.sh) {G : Int → Int → Int} {P : Int → Int → Bool} (h0 : ∀ i, 0 ≤ i → P i 0 = true → ofS s i = .mk 4 (G i 0) []) (hG0 : ∀ d : Nat, G 0 ((d + 1 : Nat) : Int) = 0)
    (hGs : ∀ (i : Int) (d : Nat), 0 ≤ i → P (i + 1) ((d + 1 : Nat) : Int) = true → P i d = true ∧ G (i + 1) ((d + 1 : Nat) : Int) = G i d + 1) (hGn : ∀ (i : Int) (d : Nat), 0 ≤ i → P i d = true → 0 ≤ G i d) :
    ∀ (d : Nat) (i : Int), 0 ≤ i → P i d = true → ofS (below_n s d) i = .mk 4 (G i d) []
  | 0, i, hi, hp => h0 i hi hp
  | d + 1, i, hi, hp => by
    rcases Int.lt_or_le 0 i with h1 | h1
    · obtain ⟨q1, q2⟩ := hGs (i - 1) d (by omega) (by rw [show i - 1 + 1 = i by omega]; exact hp)
      have := of_under (below_n s d) (i := i - 1) (by omega) (by rw [below_sh]; omega)
      rw [show i - 1 + 1 = i by omega] at this q2
      rw [below_n, this, ren_all hs h0 hG0 hGs hGn d (i - 1) (by omega) q1, up_var _ _ (hGn _ _ (by omega) q1), q2]
    · obtain rfl : i = 0 := by omega
      rw [below_n, of_under0, hG0]; rfl
theorem apply_ren {s : Sb} {G : Int → Int → Int} {P : Int → Int → Bool} {t : Tm} (d : Nat) (hH : ∀ (d : Nat) (i : Int), 0 ≤ i → P i d = true → ofS (below_n s d) i = .mk 4 (G i d) []) (ht : mayB t = true) (hS : smayB (below_n s d) = true)
    (hc : canB P t d = true) (hm : mayB (mapT G t d) = true) : applyR t (below_n s d) = (mapT G t d, 0) := by
  obtain ⟨p1, p2, p3⟩ := may_parts ht
  unfold applyR
  rw [ht, hS, Bool.and_self, if_pos rfl, ap_ren hH t p1 40000 d 0 hc (by omega) (by omega)]
  simp only [outD, hm, if_true]
theorem ren_up (b : Int) (hb : 0 ≤ b) : ∀ (d : Nat) (i : Int), 0 ≤ i → (fun _ _ => true : Int → Int → Bool) i d = true → ofS (below_n ⟨[], b⟩ d) i = .mk 4 (gUp b i d) [] := by
  refine ren_all (G := gUp b) (P := fun _ _ => true) hb (fun i hi _ => ?_) (fun d => ?_) (fun i d hi _ => ⟨rfl, ?_⟩) (fun i d hi _ => ?_)
  · unfold ofS gUp
    rw [if_neg (by simp; omega), if_pos (by omega)]
    simp
  · unfold gUp; rw [if_neg (by omega)]
  · unfold gUp; split <;> split <;> omega
  · unfold gUp; split <;> omega
theorem ren_dn (x : Tm) : ∀ (d : Nat) (i : Int), 0 ≤ i → pDn 1 i d = true → ofS (below_n ⟨[x], 0⟩ d) i = .mk 4 (gDn 1 i d) [] := by
  refine ren_all (G := gDn 1) (P := pDn 1) (by simp) (fun i hi hp => ?_) (fun d => ?_) (fun i d hi hp => ⟨?_, ?_⟩) (fun i d hi hp => ?_)
  · simp only [pDn, Bool.or_eq_true, decide_eq_true_eq] at hp
    unfold ofS gDn
    rw [if_neg (by simp; omega), if_neg (by omega)]
    simp
  · unfold gDn; rw [if_pos (by omega)]
  · simp only [pDn, Bool.or_eq_true, decide_eq_true_eq] at hp ⊢; omega
  · simp only [pDn, Bool.or_eq_true, decide_eq_true_eq] at hp
    unfold gDn; split <;> split <;> omega
  · simp only [pDn, Bool.or_eq_true, decide_eq_true_eq] at hp
    unfold gDn; split <;> omega
theorem ofS_id (n : Int) {i : Int} (h : 0 ≤ i) : ofS (idS n) i = .mk 4 i [] := by
  unfold ofS idS
  simp only [idL_len]
  split
  · rename_i hi
    rw [List.getD_eq_getElem?_getD]
    unfold idL
    rw [List.getElem?_map, List.getElem?_range (by omega)]
    simp only [Option.map_some, Option.getD_some]
    congr 1; omega
  · congr 1; omega
theorem ren_id (n : Int) : ∀ (d : Nat) (i : Int), 0 ≤ i → (fun _ _ => true : Int → Int → Bool) i d = true → ofS (below_n (idS n) d) i = .mk 4 ((fun i _ => i : Int → Int → Int) i d) [] := by
  refine ren_all (G := fun i _ => i) (P := fun _ _ => true) (by unfold idS; simp) (fun i hi _ => ofS_id n hi) (fun d => rfl) (fun i d hi _ => ⟨rfl, rfl⟩) (fun i d hi _ => hi)
theorem subst_room {t : Tm} {s : Sb} (ht : t.size < room) (h : smayB s = true) : (∀ x ∈ s.L, x.size < room) ∧ s.L.length < room := by
  have hr : room = 1099511627776 := rfl
  obtain ⟨h1, h2, h3, h4⟩ := smay_parts h
  exact ⟨fun x hx => by have := (may_parts (h4 x hx)).2.1; omega, by omega⟩
end Go.Proofs.Ytobocgjdlchemaa
/- Layer 3: how great answers are, what may go wrong. -/
set_option linter.unusedSimpArgs false
set_option linter.unusedVariables false
set_option maxRecDepth 100000
namespace Go.Proofs.Ytobocgjdlchemaa
open Go.Proofs
theorem calm_vle {c : Int} (hc : c ≤ 4503599627370496) : ∀ (t : Tm) (n : Int), 0 ≤ n → n + t.size ≤ 4000000000000000000 → nodesB t = true → vleB c t = true → ∀ q ∈ pre t n, calm q := by
  refine Tm.ind fun t ih n h1 h2 hn hl => pre_ind ?_ fun i hi p hp => ?_
  · have h3 := node_head (node_here hn)
    intro hk
    have h4 := vle_here hl hk
    constructor <;> simp only <;> omega
  · have h3 := size_arg (arg_mem hi)
    have h4 := bnd_le t i
    exact ih _ (arg_mem hi) (n + bnd t i) (by omega) (by omega) (node_args hn i hi) (vle_args hl i hi) p hp
theorem zT_may : mayB zT = true := by
  refine may_of (nodes_mk (by simp [nodeOk, mk_kind, mk_head, mk_args]) (by simp)) ?_ ?_
  · unfold zT; rw [mk_size]; simp
  · unfold zT; rw [depth_eq]; simp [mk_args]
theorem zT_vle (c : Int) : vleB c zT = true := vle_mk (fun h => by omega) (by simp)
theorem outD_may (r : R Tm) : mayB (outD r).1 = true := by
  cases r with
  | ok u m =>
    simp only [outD]
    split
    · assumption
    · exact zT_may
  | er e m => exact zT_may
theorem applyR_may (t : Tm) (s : Sb) : mayB (applyR t s).1 = true := by
  unfold applyR
  split
  · exact outD_may _
  · exact zT_may
theorem spineR_may (t : Tm) (l : List Tm) : mayB (spineR t l).1 = true := by
  unfold spineR
  split
  · exact outD_may _
  · exact zT_may
theorem outD_vle {r : R Tm} {c : Int} (h : ∀ u m, r = .ok u m → vleB c u = true) : vleB c (outD r).1 = true := by
  cases r with
  | ok u m =>
    simp only [outD]
    split
    · exact h u m rfl
    · exact zT_vle c
  | er e m => exact zT_vle c
theorem applyR_vle {t : Tm} {s : Sb} {K : Int} (h0 : 0 ≤ K) (ht : vleB K t = true) (hs : ∀ x ∈ s.L, vleB K x = true) : vleB (K + 2000000) (applyR t s).1 = true := by
  unfold applyR
  split
  · rename_i h
    simp only [Bool.and_eq_true] at h
    obtain ⟨h1, h2⟩ := h
    obtain ⟨q1, q2, q3, q4⟩ := smay_parts h2
    refine outD_vle fun u m hu => ?_
    have := (ap_fits 40000 t s 0 K (s.sh - s.L.length) (K + 1048576) u m (may_parts h1).1 ht h0 (by omega) (by omega) (Int.le_refl _) ⟨q4, fun x hx => vle_mono (by omega) (hs x hx), q2⟩ hu).2
    have e := this.lim
    exact vle_mono (by omega) this.vle
  · exact zT_vle _
/-- What may go wrong. -/
theorem spn_err {A : Tm → Sb → Nat → R Tm} (hA : ∀ t s n e m, A t s n = .er e m → e = 3 ∨ e = 4) : ∀ (l : List Tm) (u : Tm) (n e m : Nat), spnA A u l n = .er e m → e = 3 ∨ e = 4
  | [], u, n, e, m, h => by cases h
  | a :: rest, u, n, e, m, h => by
    simp only [spnA] at h
    split at h
    · split at h
      · cases hx : A (u.arg 0) ⟨[a], 0⟩ n with
        | ok v m1 => rw [hx] at h; exact spn_err hA rest v m1 e m h
        | er e1 m1 =>
          rw [hx, R.bind_er] at h
          simp only [R.er.injEq] at h
          exact h.1 ▸ hA _ _ _ _ _ hx
      · simp only [R.er.injEq] at h; omega
    · split at h
      · cases h
      · simp only [R.er.injEq] at h; omega
theorem ap_err : ∀ (f : Nat) (t : Tm) (s : Sb) (n e m : Nat), ap f t s n = .er e m → e = 3 ∨ e = 4
  | 0, t, s, n, e, m, h => by
    rw [ap_zero] at h
    simp only [R.er.injEq] at h; omega
  | f + 1, t, s, n, e, m, h => by
    rw [ap_succ] at h
    split at h
    · simp only [R.er.injEq] at h; omega
    · have key : ∀ k e m, seqF (fun i m => ap f (t.arg i) (below s t i) m) (n + 1) k = .er e m → e = 3 ∨ e = 4 := by
        intro k
        induction k with
        | zero => intro e m h; cases h
        | succ k ih =>
          intro e m h
          simp only [seqF] at h
          cases hx : seqF (fun i m => ap f (t.arg i) (below s t i) m) (n + 1) k with
          | er e1 m1 =>
            rw [hx, R.bind_er] at h
            simp only [R.er.injEq] at h
            exact h.1 ▸ ih _ _ hx
          | ok xs m1 =>
            rw [hx, R.bind_ok] at h
            cases hy : ap f (t.arg k) (below s t k) m1 with
            | er e1 m2 =>
              rw [hy, R.bind_er] at h
              simp only [R.er.injEq] at h
              exact h.1 ▸ ap_err f _ _ _ _ _ hy
            | ok x m2 => rw [hy] at h; cases h
      cases hx : seqF (fun i m => ap f (t.arg i) (below s t i) m) (n + 1) t.args.length with
      | er e1 m1 =>
        rw [hx, R.bind_er] at h
        simp only [R.er.injEq] at h
        exact h.1 ▸ key _ _ _ hx
      | ok xs m1 =>
        rw [hx, R.bind_ok] at h
        split at h
        · exact spn_err (fun t s n e m h => ap_err f t s n e m h) _ _ _ _ _ h
        · cases h
end Go.Proofs.Ytobocgjdlchemaa
/- Metas that become something, by what subst.Apply comes to; in plain words. -/
set_option linter.unusedSimpArgs false
set_option linter.unusedVariables false
set_option maxRecDepth 100000
namespace Go.Proofs.Ytobocgjdlchemaa
open Go.Proofs
abbrev fillM (th : List Tm) (t : Tm) (n : Int) : Tm × Int := fillT applyR maysB th t n
def fillOk (t : Tm) (th : List Tm) (n : Int) : Bool := mayB t && !decide (n < 0) && !decide (n > 1000) && !decide ((th.length : Int) > 200) && maysB th
def fillW (r : Tm × Int) : Tm × Int := if r.2 = 0 then (if mayB r.1 then (r.1, 0) else (zT, 4)) else (zT, r.2)
def FillR (t : Tm) (th : List Tm) (n : Int) : Tm × Int := if fillOk t th n then fillW (fillM th t n) else (zT, 1)
def eachR (F : Nat → Tm × Int) (k : Nat) : List Tm × Int := if firstE F k = 0 then (outs (fun i => (F i).1) k, 0) else ([], firstE F k)
def CtxR (l th : List Tm) (n : Int) : List Tm × Int := eachR (fun i => FillR (l.getD i default) th (n + i)) l.length
def AllR (l th : List Tm) (ns : List Int) : List Tm × Int := if ns.length = l.length then eachR (fun i => FillR (l.getD i default) th (ns.getD i 0)) l.length else ([], 1)
theorem fillOk_parts {t : Tm} {th : List Tm} {n : Int} (h : fillOk t th n = true) : mayB t = true ∧ 0 ≤ n ∧ n ≤ 1000 ∧ th.length ≤ 200 ∧ ∀ x ∈ th, mayB x = true := by
  simp only [fillOk, Bool.and_eq_true, Bool.not_eq_true', decide_eq_false_iff_not] at h
  exact ⟨h.1.1.1.1, by have := h.1.1.1.2; omega, by have := h.1.1.2; omega, by have := h.1.2; omega, maysB_iff.1 h.2⟩
theorem fillOk_of {t : Tm} {th : List Tm} {n : Int} (h1 : mayB t = true) (h2 : 0 ≤ n) (h3 : n ≤ 1000) (h4 : th.length ≤ 200) (h5 : ∀ x ∈ th, mayB x = true) : fillOk t th n = true := by
  simp only [fillOk, Bool.and_eq_true, Bool.not_eq_true', decide_eq_false_iff_not]
  exact ⟨⟨⟨⟨h1, by omega⟩, by omega⟩, by omega⟩, maysB_iff.2 h5⟩
theorem fillW_ok {r : Tm × Int} (h : (fillW r).2 = 0) : r.2 = 0 ∧ mayB r.1 = true ∧ fillW r = r := by
  unfold fillW at h ⊢
  by_cases h0 : r.2 = 0
  · rw [if_pos h0] at h ⊢
    by_cases hm : mayB r.1 = true
    · exact ⟨h0, hm, by rw [if_pos hm]; exact Prod.ext rfl h0.symm⟩
    · rw [if_neg hm] at h; cases h
  · rw [if_neg h0] at h; exact absurd h h0
theorem fillR_ok {t : Tm} {th : List Tm} {n : Int} (h : (FillR t th n).2 = 0) : fillOk t th n = true ∧ (fillM th t n).2 = 0 ∧ mayB (fillM th t n).1 = true ∧ FillR t th n = fillM th t n := by
  unfold FillR at h ⊢
  by_cases ho : fillOk t th n = true
  · rw [if_pos ho] at h ⊢
    exact ⟨ho, fillW_ok h⟩
  · rw [if_neg ho] at h; cases h
theorem fillR_may (t : Tm) (th : List Tm) (n : Int) : mayB (FillR t th n).1 = true := by
  unfold FillR fillW
  split
  · split
    · split
      · assumption
      · exact zT_may
    · exact zT_may
  · exact zT_may
theorem fillR_none {t : Tm} {th : List Tm} {n : Int} (h : fillOk t th n = true) (hm : metasB t = false) : FillR t th n = (t, 0) := by
  unfold FillR fillW
  rw [if_pos h, fillM, fill_none t n hm]
  simp [(fillOk_parts h).1]
theorem fillR_nil {t : Tm} {n : Int} (h : fillOk t [] n = true) : (FillR t [] n).2 = if metasB t then 2 else 0 := by
  have hp := fillOk_parts h
  have h0 := fill_nil (A := applyR) (mayL := maysB) t n (may_parts hp.1).1
  cases hm : metasB t
  · rw [fillR_none h hm]; rfl
  · rw [hm] at h0
    simp only [if_true] at h0 ⊢
    unfold FillR fillW
    rw [if_pos h, if_neg (by rw [fillM, h0]; decide), fillM, h0]
theorem eachR_ok {F : Nat → Tm × Int} {k : Nat} (h : (eachR F k).2 = 0) : (∀ i, i < k → (F i).2 = 0) ∧ eachR F k = (outs (fun i => (F i).1) k, 0) := by
  unfold eachR at h ⊢
  by_cases h0 : firstE F k = 0
  · rw [if_pos h0]; exact ⟨(firstE_zero _ _).1 h0, rfl⟩
  · rw [if_neg h0] at h; exact absurd h h0
theorem eachR_not {F : Nat → Tm × Int} {k : Nat} (h : (eachR F k).2 ≠ 0) : (eachR F k).1 = [] := by
  unfold eachR at h ⊢
  by_cases h0 : firstE F k = 0
  · rw [if_pos h0] at h; exact absurd rfl h
  · rw [if_neg h0]
theorem eachR_all {F : Nat → Tm × Int} {k : Nat} (h : ∀ i, i < k → (F i).2 = 0) : eachR F k = (outs (fun i => (F i).1) k, 0) := by
  unfold eachR
  rw [if_pos ((firstE_zero _ _).2 h)]
/-! ### whole -/
theorem outD_err {r : R Tm} (h : (outD r).2 ≠ 0) : (outD r).1 = zT := by
  cases r with
  | ok u m =>
    simp only [outD] at h ⊢
    by_cases hm : mayB u = true
    · rw [if_pos hm] at h; exact absurd rfl h
    · rw [if_neg hm]
  | er e m => rfl
theorem applyR_err {t : Tm} {s : Sb} (h : (applyR t s).2 ≠ 0) : (applyR t s).1 = zT := by
  unfold applyR at h ⊢
  by_cases hc : (mayB t && smayB s) = true
  · rw [if_pos hc] at h ⊢; exact outD_err h
  · rw [if_neg hc]
theorem applyR_wrap (t : Tm) (s : Sb) : fillW (applyR t s) = applyR t s := by
  unfold fillW
  by_cases h : (applyR t s).2 = 0
  · rw [if_pos h, if_pos (applyR_may t s)]; exact Prod.ext rfl h.symm
  · rw [if_neg h]; exact Prod.ext (applyR_err h).symm rfl
def metaT (k : Int) (l : List Tm) : Tm := .mk 6 k l
theorem fill_meta {th : List Tm} {l : List Tm} {k n : Int} (hk : k < th.length) (hl : ∀ x ∈ l, metasB x = false) (hm : ∀ x ∈ l, mayB x = true) : fillM th (metaT k l) n = applyR (th.getD k.toNat default) ⟨l, n⟩ := by
  have hF : ∀ i, i < (metaT k l).args.length → fillF applyR maysB th (metaT k l) n i = ((metaT k l).arg i, 0) := fun i hi => fill_none _ _ (hl _ (arg_mem (t := metaT k l) hi))
  have h0 : firstE (fillF applyR maysB th (metaT k l) n) (metaT k l).args.length = 0 := (firstE_zero _ _).2 fun i hi => by rw [hF i hi]
  have hargs : ((List.range (metaT k l).args.length).map fun i => (fillF applyR maysB th (metaT k l) n i).1) = l := by
    have := args_range (metaT k l)
    refine Eq.trans (List.map_congr_left fun i hi => ?_) this
    rw [hF i (by simpa using hi)]
  rw [fillM, fillT_eq, if_pos h0, hargs]
  unfold fillN
  rw [if_neg (by simp [metaT, Tm.kind]), if_neg (by simp only [metaT, Tm.head]; omega), if_pos (maysB_iff.2 hm)]
  rfl
theorem fillR_meta {x : Tm} {l : List Tm} {n : Int} (hx : mayB x = true) (h0 : 0 ≤ n) (h1 : n ≤ 1000) (hw : mayB (metaT 0 l) = true) (hl : ∀ y ∈ l, metasB y = false) (hm : ∀ y ∈ l, mayB y = true) : FillR (metaT 0 l) [x] n = applyR x ⟨l, n⟩ := by
  unfold FillR
  rw [if_pos (fillOk_of hw h0 h1 (by simp) (by simpa using hx)), fill_meta (by simp) hl hm]
  exact applyR_wrap _ _
/-! ### bare metas -/
/-- No Meta of it has Args. -/
def bareB : Tm → Bool
  | .mk k h l => !(k == 6 && decide (l.length > 0)) && allB l.length fun i => if hi : i < l.length then bareB l[i] else true
decreasing_by
  have := List.sizeOf_lt_of_mem (List.getElem_mem hi)
  simp only [Tm.mk.sizeOf_spec]
  omega
theorem bareB_eq (t : Tm) : bareB t = (!(t.kind == 6 && decide (t.args.length > 0)) && allB t.args.length fun i => bareB (t.arg i)) := by
  obtain ⟨k, h, l⟩ := t
  rw [bareB]
  congr 1
  refine allB_congr fun i hi => ?_
  have := arg_eq (t := .mk k h l) hi
  simp only [Tm.args] at this
  simp [hi, this]
theorem bareB_iff {t : Tm} : bareB t = true ↔ (t.kind = 6 → t.args = []) ∧ ∀ i, i < t.args.length → bareB (t.arg i) = true := by
  rw [bareB_eq, Bool.and_eq_true, allB_iff]
  simp only [Bool.not_eq_true', Bool.and_eq_false_iff, beq_eq_false_iff_ne, decide_eq_false_iff_not, Nat.not_lt, Nat.le_zero, List.length_eq_zero_iff, gt_iff_lt]
  constructor
  · rintro ⟨h1, h2⟩; exact ⟨fun h => h1.resolve_left fun e => e h, h2⟩
  · rintro ⟨h1, h2⟩; exact ⟨Classical.byCases (fun h => .inr (h1 h)) (fun h => .inl h), h2⟩
/-- A bare term whose metas are these. -/
def fb (th : List Tm) : Tm → Int → Tm
  | .mk k h l, n => if k = 6 then (match th[h.toNat]? with
      | some x => upT x n 0
      | none => zT) else .mk k h ((List.range l.length).map fun i => if hi : i < l.length then fb th l[i] (n + bnd (.mk k h l) i) else default)
decreasing_by
  have := List.sizeOf_lt_of_mem (List.getElem_mem hi)
  simp only [Tm.mk.sizeOf_spec]
  omega
theorem fb_meta {th : List Tm} {t : Tm} (h : t.kind = 6) (n : Int) : fb th t n = match th[t.head.toNat]? with
      | some x => upT x n 0
      | none => zT := by
  obtain ⟨k, h, l⟩ := t
  rw [fb]
  exact if_pos h
theorem fb_node {th : List Tm} {t : Tm} (h : t.kind ≠ 6) (n : Int) : fb th t n = .mk t.kind t.head ((List.range t.args.length).map fun i => fb th (t.arg i) (n + bnd t i)) := by
  obtain ⟨k, hd, l⟩ := t
  rw [fb]
  refine (if_neg h).trans ?_
  have : ((List.range l.length).map fun i => if hi : i < l.length then fb th l[i] (n + bnd (.mk k hd l) i) else default) = (List.range l.length).map fun i => fb th ((Tm.mk k hd l).arg i) (n + bnd (.mk k hd l) i) := by
    refine List.map_congr_left fun i hi => ?_
    have hi : i < l.length := by simpa using hi
    have := arg_eq (t := .mk k hd l) hi
    simp only [Tm.args] at this
    rw [dif_pos hi, this]
  rw [this]; rfl
theorem apply_up {x : Tm} (hx : mayB x = true) {n : Int} (h0 : 0 ≤ n) (h1 : n ≤ 1048576) : applyR x ⟨[], n⟩ = (upT x n 0, 0) := by
  have h := apply_ren (s := ⟨[], n⟩) (G := gUp n) (P := fun _ _ => true) (t := x) 0 (ren_up n h0) hx (smay_of (by simp) h0 h1 (by simp)) (canB_true x _) (up_may hx h0 0)
  exact h
theorem fb_kind {th : List Tm} {t : Tm} (h : t.kind ≠ 6) (n : Int) : (fb th t n).kind = t.kind := by rw [fb_node h, mk_kind]
theorem fb_head {th : List Tm} {t : Tm} (h : t.kind ≠ 6) (n : Int) : (fb th t n).head = t.head := by rw [fb_node h, mk_head]
theorem fb_len {th : List Tm} {t : Tm} (h : t.kind ≠ 6) (n : Int) : (fb th t n).args.length = t.args.length := by rw [fb_node h, mk_args]; simp
theorem fb_arg {th : List Tm} {t : Tm} (h : t.kind ≠ 6) (n : Int) {i : Nat} (hi : i < t.args.length) : (fb th t n).arg i = fb th (t.arg i) (n + bnd t i) := by
  have hl : i < (fb th t n).args.length := by rw [fb_len h]; exact hi
  rw [← arg_eq hl]
  simp only [fb_node h, mk_args]
  simp
theorem fb_bnd {th : List Tm} {t : Tm} (h : t.kind ≠ 6) (n : Int) (i : Nat) : bnd (fb th t n) i = bnd t i := by
  unfold bnd
  rw [fb_kind h, fb_len h]
theorem map_shift (g : Int → Int → Int) (d : Int) : ∀ (t : Tm) (n : Int), mapT g t (n + d) = mapT (fun x m => g x (m + d)) t n := by
  refine Tm.ind fun t ih n => ?_
  rw [mapT_eq, mapT_eq]
  congr 1
  refine List.map_congr_left fun i hi => ?_
  have hi : i < t.args.length := by simpa using hi
  rw [← ih _ (arg_mem hi) (n + bnd t i)]
  congr 1; omega
theorem up_base (x : Tm) {n d : Int} (hn : 0 ≤ n) (hd : 0 ≤ d) : upT (upT x d 0) n d = upT x (n + d) 0 := by
  have h := map_shift (gUp n) d (upT x d 0) 0
  rw [Int.zero_add] at h
  rw [upT, h, upT, mapT_map]
  refine mapT_congr (p := fun _ _ => true) (fun y m _ => ?_) x 0 (canB_true x 0)
  unfold gUp
  split <;> split <;> omega
theorem up_zT (n d : Int) : upT zT n d = zT := by rw [upT, mapT_eq]; rfl
theorem fb_zT (th : List Tm) (n : Int) : fb th zT n = zT := by rw [fb_node (by decide)]; rfl
theorem fb_up {th : List Tm} {n : Int} (hn : 0 ≤ n) : ∀ (s : Tm) (d : Int), 0 ≤ d → fb th (upT s n d) (n + d) = upT (fb th s d) n d := by
  refine Tm.ind fun s ih d hd => ?_
  by_cases k6 : s.kind = 6
  · rw [fb_meta (by rw [mapT_kind]; exact k6), fb_meta k6, mapT_head, if_neg (by rw [k6]; decide)]
    cases th[s.head.toNat]? with
    | none => exact (up_zT n d).symm
    | some x => exact (up_base x hn hd).symm
  · have hk : (upT s n d).kind ≠ 6 := by rw [mapT_kind]; exact k6
    refine tm_ext ?_ ?_ ?_ fun i hi => ?_
    · rw [fb_kind hk, mapT_kind, mapT_kind, fb_kind k6]
    · rw [fb_head hk, mapT_head, mapT_head, fb_kind k6, fb_head k6]
    · rw [fb_len hk, mapT_len, mapT_len, fb_len k6]
    · rw [fb_len hk, mapT_len] at hi
      rw [fb_arg hk _ (by rw [mapT_len]; exact hi), mapT_arg _ _ hi, mapT_bnd, mapT_arg _ _ (by rw [fb_len k6]; exact hi), fb_bnd k6, fb_arg k6 _ hi, Int.add_assoc]
      exact ih _ (arg_mem hi) _ (by omega)
theorem fb_fb {th et : List Tm} : ∀ (t : Tm) (n : Int), 0 ≤ n → fb et (fb th t n) n = fb (th.map fun x => fb et x 0) t n := by
  refine Tm.ind fun t ih n hn => ?_
  by_cases k6 : t.kind = 6
  · rw [fb_meta k6, fb_meta k6, List.getElem?_map]
    cases th[t.head.toNat]? with
    | none => exact fb_zT et n
    | some x =>
      have h := fb_up (th := et) hn x 0 (by omega)
      rw [Int.add_zero] at h
      exact h
  · have hk : (fb th t n).kind ≠ 6 := by rw [fb_kind k6]; exact k6
    refine tm_ext ?_ ?_ ?_ fun i hi => ?_
    · rw [fb_kind hk, fb_kind k6, fb_kind k6]
    · rw [fb_head hk, fb_head k6, fb_head k6]
    · rw [fb_len hk, fb_len k6, fb_len k6]
    · rw [fb_len hk, fb_len k6] at hi
      rw [fb_arg hk _ (by rw [fb_len k6]; exact hi), fb_arg k6 _ hi, fb_bnd k6, fb_arg k6 _ hi]
      exact ih _ (arg_mem hi) _ (by omega)
theorem bare_map (g : Int → Int → Int) : ∀ (t : Tm) (n : Int), bareB t = true → bareB (mapT g t n) = true := by
  refine Tm.ind fun t ih n h => ?_
  rw [bareB_iff] at h ⊢
  refine ⟨fun k => ?_, fun i hi => ?_⟩
  · rw [mapT_kind] at k
    exact List.length_eq_zero_iff.1 (by rw [mapT_len, h.1 k]; rfl)
  · rw [mapT_len] at hi
    rw [mapT_arg _ _ hi]
    exact ih _ (arg_mem hi) _ (h.2 i hi)
theorem bare_zT : bareB zT = true := by
  rw [bareB_iff]
  refine ⟨fun h => absurd h (by decide), fun i hi => ?_⟩
  simp [zT, Tm.args] at hi
theorem bare_fb {th : List Tm} (h : ∀ x ∈ th, bareB x = true) : ∀ (t : Tm) (n : Int), bareB (fb th t n) = true := by
  refine Tm.ind fun t ih n => ?_
  by_cases k6 : t.kind = 6
  · rw [fb_meta k6]
    cases hx : th[t.head.toNat]? with
    | none => exact bare_zT
    | some x => exact bare_map _ _ _ (h x (List.mem_of_getElem? hx))
  · rw [bareB_iff]
    refine ⟨fun k => absurd (by rw [fb_kind k6] at k; exact k) k6, fun i hi => ?_⟩
    rw [fb_len k6] at hi
    rw [fb_arg k6 _ hi]
    exact ih _ (arg_mem hi) _
theorem fill_fb {th : List Tm} (hm : ∀ x ∈ th, mayB x = true) : ∀ (t : Tm) (n : Int), bareB t = true → nodesB t = true → 0 ≤ n → n + t.depth ≤ 1048576 → (fillM th t n).2 = 0 → fillM th t n = (fb th t n, 0) := by
  refine Tm.ind fun t ih n hb hn h0 h1 hok => ?_
  rw [bareB_iff] at hb
  rw [fillM, fillT_eq] at hok ⊢
  by_cases he : firstE (fillF applyR maysB th t n) t.args.length = 0
  · rw [if_pos he] at hok ⊢
    have hF : ∀ i, i < t.args.length → fillF applyR maysB th t n i = (fb th (t.arg i) (n + bnd t i), 0) := fun i hi => by
      have := depth_arg (arg_mem hi)
      have := bnd_le t i
      exact ih _ (arg_mem hi) _ (hb.2 i hi) (node_args hn i hi) (by omega) (by omega) ((firstE_zero _ _).1 he i hi)
    unfold fillN at hok ⊢
    by_cases k6 : t.kind = 6
    · rw [if_neg (by simpa using k6)] at hok ⊢
      by_cases hh : t.head ≥ th.length
      · rw [if_pos hh] at hok; cases hok
      · have hl : (List.range t.args.length).map (fun i => (fillF applyR maysB th t n i).1) = [] := by rw [hb.1 k6]; rfl
        rw [if_neg hh, hl, if_pos (maysB_iff.2 (by simp))] at hok ⊢
        have h2 := node_head (node_here hn)
        have hlt : t.head.toNat < th.length := by omega
        have hx : th.getD t.head.toNat default = th[t.head.toNat] := by rw [List.getD_eq_getElem?_getD, List.getElem?_eq_getElem hlt]; rfl
        rw [hx, apply_up (hm _ (List.getElem_mem hlt)) h0 (by omega), fb_meta k6, List.getElem?_eq_getElem hlt]
    · rw [if_pos k6, fb_node k6]
      congr 2
      refine List.map_congr_left fun i hi => ?_
      rw [hF i (by simpa using hi)]
  · rw [if_neg he] at hok; exact absurd hok he
theorem fb_scoped {th : List Tm} {a M : Int} (hm : ∀ x ∈ th, scopedB x a M = true) : ∀ (t : Tm) (n : Int), nodesB t = true → scopedB t (n + a) th.length = true → 0 ≤ n → scopedB (fb th t n) (n + a) M = true := by
  refine Tm.ind fun t ih n hn hs h0 => ?_
  rw [scoped_iff] at hs
  by_cases k6 : t.kind = 6
  · have h2 := node_head (node_here hn)
    have h3 := hs.2.1 k6
    have hlt : t.head.toNat < th.length := by omega
    rw [fb_meta k6, List.getElem?_eq_getElem hlt, Int.add_comm n a]
    exact up_scoped (hm _ (List.getElem_mem hlt)) h0
  · rw [scoped_iff]
    refine ⟨fun k => ?_, fun k => absurd (by rw [fb_kind k6] at k; exact k) k6, fun i hi => ?_⟩
    · rw [fb_kind k6] at k; rw [fb_head k6]; exact hs.1 k
    · rw [fb_len k6] at hi
      rw [fb_bnd k6, fb_arg k6 _ hi, show n + a + (bnd t i : Int) = n + bnd t i + a by omega]
      exact ih _ (arg_mem hi) _ (node_args hn i hi) (by rw [show n + bnd t i + a = n + a + bnd t i by omega]; exact hs.2.2 i hi) (by omega)
theorem fillR_fb {t : Tm} {th : List Tm} {n : Int} (hb : bareB t = true) (h : (FillR t th n).2 = 0) : FillR t th n = (fb th t n, 0) := by
  obtain ⟨h1, h2, h3, h4⟩ := fillR_ok h
  obtain ⟨p1, p2, p3, p4, p5⟩ := fillOk_parts h1
  have hp := may_parts p1
  rw [h4]
  exact fill_fb p5 t n hb hp.1 p2 (by omega) h2
theorem fillR_scoped {t : Tm} {th : List Tm} {n a M : Int} (hb : bareB t = true) (h : (FillR t th n).2 = 0) (hs : scopedB t (n + a) th.length = true) (hm : ∀ x ∈ th, scopedB x a M = true) : scopedB (FillR t th n).1 (n + a) M = true := by
  have hp := fillOk_parts (fillR_ok h).1
  rw [fillR_fb hb h]
  exact fb_scoped hm t n (may_parts hp.1).1 hs hp.2.1
theorem fillR_twice {t : Tm} {th et : List Tm} (ht : bareB t = true) (hth : ∀ x ∈ th, bareB x = true) (h1 : (FillR t th 0).2 = 0) (h2 : (FillR (FillR t th 0).1 et 0).2 = 0) {l : List Tm} (hl : l = th.map fun x => (FillR x et 0).1) (h3 : ∀ x ∈ th, (FillR x et 0).2 = 0) (h4 : (FillR t l 0).2 = 0) :
    (FillR (FillR t th 0).1 et 0).1 = (FillR t l 0).1 := by
  have e1 := fillR_fb ht h1
  rw [e1] at h2 ⊢
  rw [fillR_fb (bare_fb hth t 0) h2, fillR_fb ht h4, hl]
  have e2 : (th.map fun x => (FillR x et 0).1) = th.map fun x => fb et x 0 := List.map_congr_left fun x hx => by rw [fillR_fb (hth x hx) (h3 x hx)]
  rw [e2]
  exact fb_fb t 0 (by omega)
end Go.Proofs.Ytobocgjdlchemaa
/- The package meta. -/
set_option linter.unusedSimpArgs false
set_option linter.unusedVariables false
set_option maxRecDepth 100000
namespace Go.Proofs.Ytobocgjdlchemaa
open Go.Proofs
theorem zT_size : zT.size = 1 := by unfold zT; rw [mk_size]; rfl
/-- What is filled: its variables, and its size. -/
theorem fill_fits {th : List Tm} {K : Int} (h0 : 0 ≤ K) (hth : ∀ x ∈ th, vleB K x = true) : ∀ (t : Tm) (n : Int), nodesB t = true → vleB K t = true → vleB (K + 2000000 * t.depth) (fillM th t n).1 = true ∧ (fillM th t n).1.size ≤ 4000 * t.size := by
  refine Tm.ind fun t ih n hn hv => ?_
  have hts := size_eq t
  rw [fillM, fillT_eq]
  by_cases he : firstE (fillF applyR maysB th t n) t.args.length = 0
  · rw [if_pos he]
    have hA : ∀ x ∈ (List.range t.args.length).map (fun i => (fillF applyR maysB th t n i).1), vleB (K + 2000000 * (t.depth - 1 : Nat)) x = true := fun x hx => by
      simp only [List.mem_map, List.mem_range] at hx
      obtain ⟨i, hi, rfl⟩ := hx
      have hd := depth_arg (arg_mem hi)
      exact vle_mono (by omega) (ih _ (arg_mem hi) (n + bnd t i) (node_args hn i hi) (vle_args hv i hi)).1
    unfold fillN
    by_cases k6 : t.kind = 6
    · rw [if_neg (by simpa using k6)]
      have hd1 : 1 ≤ t.depth := by rw [depth_eq]; omega
      split
      · exact ⟨vle_mono (show (0 : Int) ≤ _ by omega) (zT_vle 0), by show zT.size ≤ _; have := zT_size; omega⟩
      · split
        · have hh := node_head (node_here hn)
          have hlt : t.head.toNat < th.length := by omega
          have hmem : th.getD t.head.toNat default ∈ th := by rw [List.getD_eq_getElem?_getD, List.getElem?_eq_getElem hlt]; exact List.getElem_mem _
          refine ⟨vle_mono (by omega) (applyR_vle (K := K + 2000000 * (t.depth - 1 : Nat)) (by omega) (vle_mono (by omega) (hth _ hmem)) hA), ?_⟩
          have := (may_parts (applyR_may (th.getD t.head.toNat default) ⟨(List.range t.args.length).map fun i => (fillF applyR maysB th t n i).1, n⟩)).2.1
          omega
        · exact ⟨vle_mono (show (0 : Int) ≤ _ by omega) (zT_vle 0), by show zT.size ≤ _; have := zT_size; omega⟩
    · rw [if_pos k6]
      refine ⟨vle_mk (fun k4 => ?_) fun x hx => vle_mono (by omega) (hA x hx), ?_⟩
      · have := vle_here hv k4; omega
      · rw [mk_size, hts]
        have key : ∀ l : List Nat, (∀ i ∈ l, i < t.args.length) → (((l.map fun i => (fillF applyR maysB th t n i).1)).map Tm.size).sum ≤ 4000 * ((l.map fun i => t.arg i).map Tm.size).sum := by
          intro l
          induction l with
          | nil => intro _; simp
          | cons i l ih2 =>
            intro hl
            have h1 := ih2 fun j hj => hl j (by simp [hj])
            have hi := hl i (by simp)
            have h2 : (fillF applyR maysB th t n i).1.size ≤ 4000 * (t.arg i).size := (ih _ (arg_mem hi) (n + bnd t i) (node_args hn i hi) (vle_args hv i hi)).2
            simp only [List.map_cons, List.sum_cons]
            omega
        have := key (List.range t.args.length) fun i hi => by simpa using hi
        rw [args_range] at this
        omega
  · rw [if_neg he]
    exact ⟨vle_mono (show (0 : Int) ≤ _ by omega) (zT_vle 0), by show zT.size ≤ _; have := zT_size; omega⟩
/-- A function that is done to each of a list, or says why not; it leaves the shared variables alone. -/
def DoesE (g : Nat) (caps : List AV) (h : List HO) (l : List Tm) (F : Nat → Tm × Int) : Prop :=
  ∀ i, i < l.length → (∀ j, j < i → (F j).2 = 0) → ∀ (locs : List (Option (List AV))) (toks : List (Option Nat)), mCall C (lim C) g (dI i :: dT (l.getD i default) :: caps) { locs := locs, heap := h, toks := toks } = some (.v (.tup [dT (F i).1, dI (F i).2]), { locs := locs, heap := h, toks := toks })
abbrev fsts (F : Nat → Tm × Int) (i : Nat) : Tm := (F i).1
def meach_S (l : List Tm) (g : Nat) (caps : List AV) (h : List HO) (F : Nat → Tm × Int) (i : Nat) : St := mk 34 [(1, .fn g [] caps), (6, acc 0 (encs (outs (fsts F) i))), (11, dL l), (12, dI l.length), (13, dI i)] [] h (accT i)
theorem meach_step {l : List Tm} {g : Nat} {caps : List AV} {h : List HO} {F : Nat → Tm × Int} (hd : DoesE g caps h l F) (hl : l.length < room) {i : Nat} (hi : i < l.length) (hp : ∀ j, j ≤ i → (F j).2 = 0) :
    (lim C).code 36 (cf (.loop (cf (cf (cs (cf (cs (cs (bodyOf Try.f36))))))))) (meach_S l g caps h F i) = some (.nor, meach_S l g caps h F (i + 1)) := by
  have hr : room = 1099511627776 := rfl
  have hc := hd i hi fun j hj => hp j (by omega)
  rw [hp i (Nat.le_refl i)] at hc
  have hln : (encs (outs (fsts F) i)).length = i := by simp [encs, outs]
  have hap := fun locs heap => mApp_acc (encs (outs (fsts F) i)) (enc (F i).1) 3 locs heap (by rw [hln]; omega) (encs_all _) (enc_width _)
  have hsn : encs (outs (fsts F) i) ++ [enc (F i).1] = encs (outs (fsts F) (i + 1)) := by unfold outs; rw [List.range_succ, List.map_append, encs_append]; rfl
  rw [hln, hsn] at hap
  have hce := cells_enc (F i).1
  have hee := (enc_eq (F i).1).symm
  simp -implicitDefEqProofs (disch := decide +kernel) only [cf, cs, bodyOf, Try.f36, Option.getD_some, go_sem, ↓reduceIte, Nat.reduceSub, Nat.reduceAdd, Nat.reduceMul, Nat.reduceBEq, Nat.reduceLT, Nat.reduceLeDiff, Nat.reduceEqDiff, reduceCtorEq, Int.reduceToNat, Int.reduceLE, Int.reduceLT, Int.reduceBEq, Int.reduceBNe, meach_S, lt_true hi, getD_get hi, hc, hap, hce, cel3, hee, wrap_succ (n := i) (by omega)]
theorem meach_spec {l : List Tm} {g : Nat} {caps : List AV} {h : List HO} {F : Nat → Tm × Int} (hd : DoesE g caps h l F) (hl : l.length < room) (hc1 : okL caps = true) (hc2 : eraseL caps = caps) :
    (lim C).call 36 [dL l, .fn g [] caps] h = some (.ret (.tup [dL (eachR F l.length).1, dI (eachR F l.length).2]), h) := by
  have hr : room = 1099511627776 := rfl
  rw [ev_fn 36 Try.f36 _ _ _ rfl Try.func36 rfl Try.ntmps36 rfl]
  simp -implicitDefEqProofs (disch := decide +kernel) only [go_sem, ↓reduceIte, Nat.reduceSub, Nat.reduceAdd, Nat.reduceMul, Nat.reduceBEq, Nat.reduceLT, Nat.reduceLeDiff, Nat.reduceEqDiff, reduceCtorEq, Int.reduceToNat, Int.reduceLE, Int.reduceLT, Int.reduceBEq, Int.reduceBNe, hc1, hc2]
  by_cases he : firstE F l.length = 0
  · have hz := (firstE_zero _ _).1 he
    have hloop : (lim C).code 36 (.loop (cf (cf (cs (cf (cs (cs (bodyOf Try.f36)))))))) (meach_S l g caps h F 0) = some (.exit 0, mk 34 [(1, .fn g [] caps), (6, acc 0 (encs (outs (fsts F) l.length))), (11, dL l), (12, dI l.length), (13, dI l.length), (14, dB false)] [] h (accT l.length)) := by
      refine loop_run (meach_S l g caps h F) l.length (fun i hi => meach_step hd hl hi fun j hj => hz j (by omega)) ?_ (by simp)
      simp -implicitDefEqProofs (disch := decide +kernel) only [cf, cs, bodyOf, Try.f36, Option.getD_some, go_sem, ↓reduceIte, Nat.reduceSub, Nat.reduceAdd, Nat.reduceMul, Nat.reduceBEq, Nat.reduceLT, Nat.reduceLeDiff, Nat.reduceEqDiff, reduceCtorEq, Int.reduceToNat, Int.reduceLE, Int.reduceLT, Int.reduceBEq, Int.reduceBNe, meach_S, lt_false (Nat.le_refl l.length)]
    rw [loop_at hloop ?hb ?hs]
    case hb => rfl
    case hs => rfl
    have ha : (acc 0 (encs (outs (fsts F) l.length))).erase = .d (.slc (encs (outs (fsts F) l.length))) := by cases encs (outs (fsts F) l.length) <;> rfl
    have hres : eachR F l.length = (outs (fsts F) l.length, 0) := eachR_all hz
    simp -implicitDefEqProofs (disch := decide +kernel) only [go_sem, ↓reduceIte, Nat.reduceSub, Nat.reduceAdd, Nat.reduceMul, Nat.reduceBEq, Nat.reduceLT, Nat.reduceLeDiff, Nat.reduceEqDiff, reduceCtorEq, Int.reduceToNat, Int.reduceLE, Int.reduceLT, Int.reduceBEq, Int.reduceBNe, ha, hres]
  · obtain ⟨j, hj, hp, hb⟩ := firstE_at _ _ he
    have hne : ((F j).2 != 0) = true := by rw [hp]; simpa using he
    have hloop : (lim C).code 36 (.loop (cf (cf (cs (cf (cs (cs (bodyOf Try.f36)))))))) (meach_S l g caps h F 0) = some (.ret, mk 34 [(4, .clip []), (5, dI (F j).2)] [] h (accT j)) := by
      refine loop_run (meach_S l g caps h F) j (fun i hi => meach_step hd hl (by omega) fun k hk => hb k (by omega)) ?_ (by simp)
      have hc := hd j hj hb
      simp -implicitDefEqProofs (disch := decide +kernel) only [cf, cs, bodyOf, Try.f36, Option.getD_some, go_sem, ↓reduceIte, Nat.reduceSub, Nat.reduceAdd, Nat.reduceMul, Nat.reduceBEq, Nat.reduceLT, Nat.reduceLeDiff, Nat.reduceEqDiff, reduceCtorEq, Int.reduceToNat, Int.reduceLE, Int.reduceLT, Int.reduceBEq, Int.reduceBNe, meach_S, lt_true hj, getD_get hj, hc, hne, cells_enc, cel3]
    rw [loop_at hloop ?hb ?hs]
    case hb => rfl
    case hs => rfl
    have hres : eachR F l.length = ([], (F j).2) := by unfold eachR; rw [if_neg he, hp]
    simp -implicitDefEqProofs (disch := decide +kernel) only [go_sem, ↓reduceIte, Nat.reduceSub, Nat.reduceAdd, Nat.reduceMul, Nat.reduceBEq, Nat.reduceLT, Nat.reduceLeDiff, Nat.reduceEqDiff, reduceCtorEq, Int.reduceToNat, Int.reduceLE, Int.reduceLT, Int.reduceBEq, Int.reduceBNe, hres]
    simp [encs]
theorem modd_spec (t : Tm) (hs : t.size < room) : (lim C).call 33 [dT t] [] = retB (!mayB t) := by
  rw [ev_fn 33 Try.f33 _ _ _ rfl Try.func33 rfl Try.ntmps33 rfl]
  simp -implicitDefEqProofs (disch := decide +kernel) only [go_sem, ↓reduceIte, Nat.reduceSub, Nat.reduceAdd, Nat.reduceMul, Nat.reduceBEq, Nat.reduceLT, Nat.reduceLeDiff, Nat.reduceEqDiff, reduceCtorEq, Int.reduceToNat, Int.reduceLE, Int.reduceLT, Int.reduceBEq, Int.reduceBNe, mCall, tMay_spec t hs, cells_enc, cel3, (enc_eq t).symm]
/-- What is shared in fill: the node, the terms for metas, how many entries, whether it binds. -/
def fil_H (t : Tm) (th : List Tm) (n : Int) (b : Bool) : List HO := [.var 0 (cel3 t), .var 0 [dL th], .var 0 [dI n], .var 0 [dB b]]
theorem fil1_spec {t : Tm} {th : List Tm} {n : Int} {i : Nat} {x u : Tm} {e : Int} {h : List HO} (hi : i < t.args.length) (hn : 0 ≤ n ∧ n + t.size < 4000000000000000000) (hs : t.size < room)
    (hrec : (lim C).call 35 [dT x, dL th, dI (n + bnd t i)] [] = some (.ret (.tup [dT u, dI e]), h)) :
    (lim C).call 44 [dI i, dT x, .href 3 0, .href 0 0, .href 1 0, .href 2 0] (fil_H t th n (bindsB t)) = some (.ret (.tup [dT u, dI e]), fil_H t th n (bindsB t)) := by
  have hr : room = 1099511627776 := rfl
  have hl := len_size t
  have hw1 : IntKind.wrap .i64 ((t.args.length : Int) - 1) = (t.args.length : Int) - 1 := wrap_ok (by omega) (by omega)
  have hw2 : IntKind.wrap .i64 (n + 1) = n + 1 := wrap_ok (by omega) (by omega)
  have hex := (enc_eq x).symm
  have heu := (enc_eq u).symm
  rw [ev_fn 44 Try.f44 _ _ _ rfl Try.func44 rfl Try.ntmps44 rfl]
  cases hb : bindsB t
  · rw [bindsB_no hb, Int.natCast_zero, Int.add_zero] at hrec
    simp -implicitDefEqProofs (disch := decide +kernel) only [go_sem, ↓reduceIte, Nat.reduceSub, Nat.reduceAdd, Nat.reduceMul, Nat.reduceBEq, Nat.reduceLT, Nat.reduceLeDiff, Nat.reduceEqDiff, reduceCtorEq, Int.reduceToNat, Int.reduceLE, Int.reduceLT, Int.reduceBEq, Int.reduceBNe, mCall, fil_H, cel3, cells_enc, hex, heu, hrec]
  · cases he : ((i : Int) == (t.args.length : Int) - 1)
    · rw [bindsB_not he, Int.natCast_zero, Int.add_zero] at hrec
      simp -implicitDefEqProofs (disch := decide +kernel) only [go_sem, ↓reduceIte, Nat.reduceSub, Nat.reduceAdd, Nat.reduceMul, Nat.reduceBEq, Nat.reduceLT, Nat.reduceLeDiff, Nat.reduceEqDiff, reduceCtorEq, Int.reduceToNat, Int.reduceLE, Int.reduceLT, Int.reduceBEq, Int.reduceBNe, mCall, fil_H, cel3, cells_enc, hex, heu, hw1, he, hrec]
    · rw [bindsB_bnd hb he] at hrec
      have hrec : _ = _ := hrec
      rw [Int.natCast_one] at hrec
      simp -implicitDefEqProofs (disch := decide +kernel) only [go_sem, ↓reduceIte, Nat.reduceSub, Nat.reduceAdd, Nat.reduceMul, Nat.reduceBEq, Nat.reduceLT, Nat.reduceLeDiff, Nat.reduceEqDiff, reduceCtorEq, Int.reduceToNat, Int.reduceLE, Int.reduceLT, Int.reduceBEq, Int.reduceBNe, mCall, fil_H, cel3, cells_enc, hex, heu, hw1, hw2, he, hrec]
theorem zT'_eq : zT' = zT := rfl
theorem fill_spec {th : List Tm} {K : Int} (h0 : 0 ≤ K) (hth : ∀ x ∈ th, mayB x = true ∧ vleB K x = true) (hlt : th.length < room) : ∀ t : Tm, t.size ≤ 1048576 → nodesB t = true → vleB K t = true → K + 2000000 * t.depth ≤ topV → ∀ n : Int, 0 ≤ n → n + t.size < 4000000000000000000 →
    ∃ h, (lim C).call 35 [dT t, dL th, dI n] [] = some (.ret (.tup [dT (fillM th t n).1, dI (fillM th t n).2]), h) := by
  refine Tm.ind fun t ih hs hn hv hk n h1 h2 => ?_
  have hr : room = 1099511627776 := rfl
  have hl := len_size t
  have hdo : DoesE 44 [.href 3 0, .href 0 0, .href 1 0, .href 2 0] (fil_H t th n (bindsB t)) t.args (fillF applyR maysB th t n) := by
    intro i hi _ locs toks
    have hsz := size_arg (arg_mem hi)
    have hbl := bnd_le t i
    have hd := depth_arg (arg_mem hi)
    obtain ⟨h, hrec⟩ := ih _ (arg_mem hi) (by omega) (node_args hn i hi) (vle_args hv i hi) (by omega) (n + bnd t i) (by omega) (by omega)
    have h1 := fil1_spec hi ⟨by omega, by omega⟩ (by omega) hrec
    have h1 : (lim C).call 44 [dI i, dT (t.arg i), .href 3 0, .href 0 0, .href 1 0, .href 2 0] (fil_H t th n (bindsB t)) = some (.ret (.tup [dT (fillF applyR maysB th t n i).1, dI (fillF applyR maysB th t n i).2]), fil_H t th n (bindsB t)) := h1
    simp only [mCall, callsPure, pureL, AV.pure, okL, AV.okA, C_thr, eraseL, AV.erase, Bool.and_true, Bool.true_and, Bool.and_false, Bool.false_and, Bool.false_eq_true, if_false, if_true, Option.bind_some, heapRes_ret, show t.args.getD i default = t.arg i from rfl, h1]
  have hea := meach_spec hdo (by omega) rfl rfl
  have hfit : ∀ x ∈ outs (fsts (fillF applyR maysB th t n)) t.args.length, x.size < room ∧ vleB topV x = true := fun x hx => by
    simp only [outs, List.mem_map, List.mem_range] at hx
    obtain ⟨i, hi, rfl⟩ := hx
    have hsz := size_arg (arg_mem hi)
    have hd := depth_arg (arg_mem hi)
    have hf := fill_fits h0 (fun x hx => (hth x hx).2) (t.arg i) (n + bnd t i) (node_args hn i hi) (vle_args hv i hi)
    exact ⟨by have := hf.2; show (fillM th (t.arg i) (n + bnd t i)).1.size < room; omega, vle_mono (by omega) hf.1⟩
  have hsz := fun x hx => (hfit x hx).1
  have hvl := fun x hx => (hfit x hx).2
  have hal : (outs (fsts (fillF applyR maysB th t n)) t.args.length).length = t.args.length := by simp [outs]
  have hct := contains_spec (g := 33) (by decide +kernel) (l := outs (fsts (fillF applyR maysB th t n)) t.args.length) (by rw [hal]; omega) (fun x hx => ⟨_, modd_spec x (hsz x hx)⟩)
  have hee := (enc_eq t).symm
  refine ⟨fil_H t th n (bindsB t), ?_⟩
  rw [fillM, fillT_eq]
  rw [show ((List.range t.args.length).map fun i => (fillF applyR maysB th t n i).1) = outs (fsts (fillF applyR maysB th t n)) t.args.length from rfl]
  have hall : eachR (fillF applyR maysB th t n) t.args.length = if firstE (fillF applyR maysB th t n) t.args.length = 0 then (outs (fsts (fillF applyR maysB th t n)) t.args.length, 0) else ([], firstE (fillF applyR maysB th t n) t.args.length) := rfl
  generalize fillF applyR maysB th t n = FF at hea hct hsz hvl hal hall ⊢
  rw [hall] at hea
  generalize outs (fsts FF) t.args.length = ls at hea hct hsz hvl hal hall ⊢
  simp only [fil_H, cel3] at hea
  rw [ev_fn 35 Try.f35 _ _ _ rfl Try.func35 rfl Try.ntmps35 rfl]
  cases k1 : (t.kind == 1)
  · have hb : bindsB t = (t.kind == 3) := by simp [bindsB, k1]
    rw [hb] at hea ⊢
    by_cases he : ¬ firstE FF t.args.length = 0
    · -- what is not filled
      have hne : (firstE FF t.args.length != 0) = true := by simpa using he
      rw [if_neg he]
      rw [if_neg he] at hea
      simp -implicitDefEqProofs (disch := decide +kernel) only [go_sem, ↓reduceIte, Nat.reduceSub, Nat.reduceAdd, Nat.reduceMul, Nat.reduceBEq, Nat.reduceLT, Nat.reduceLeDiff, Nat.reduceEqDiff, reduceCtorEq, Int.reduceToNat, Int.reduceLE, Int.reduceLT, Int.reduceBEq, Int.reduceBNe, mCall, k1, fil_H, cel3, cells_enc, hee, hea, hne, zT_enc, zT'_eq]
    · have he : firstE FF t.args.length = 0 := Classical.not_not.1 he
      rw [if_pos he]
      rw [if_pos he] at hea
      unfold fillN
      cases k6 : (t.kind != 6)
      · have k6' : t.kind = 6 := by simpa using k6
        have hh := node_head (node_here hn)
        rw [if_neg (by simpa using k6')]
        cases hge : decide (t.head ≥ th.length)
        · have hge' : ¬ t.head ≥ th.length := by simpa using hge
          rw [if_neg hge']
          have hlt2 : t.head.toNat < th.length := by omega
          cases hma : maysB ls
          · rw [hma] at hct
            rw [if_neg (by simp)]
            simp -implicitDefEqProofs (disch := decide +kernel) only [go_sem, ↓reduceIte, Nat.reduceSub, Nat.reduceAdd, Nat.reduceMul, Nat.reduceBEq, Nat.reduceLT, Nat.reduceLeDiff, Nat.reduceEqDiff, reduceCtorEq, Int.reduceToNat, Int.reduceLE, Int.reduceLT, Int.reduceBEq, Int.reduceBNe, mCall, k1, fil_H, cel3, cells_enc, hee, hea, k6, hge, hct, zT_enc, zT'_eq]
          · rw [hma] at hct
            rw [if_pos rfl]
            have hmem : th.getD t.head.toNat default ∈ th := by rw [List.getD_eq_getElem?_getD, List.getElem?_eq_getElem hlt2]; exact List.getElem_mem _
            obtain ⟨h', hap⟩ := sapply_spec (th.getD t.head.toNat default) ⟨ls, n⟩ (by have := (may_parts (hth _ hmem).1).2.1; omega) hsz (by rw [hal]; omega) (vle_mono (by omega) (hth _ hmem).2) hvl
            have hes := encS_mk ls n
            have hgt := getD_get hlt2
            have hhn : 0 ≤ t.head := hh
            generalize applyR (th.getD t.head.toNat default) ⟨ls, n⟩ = rr at hap ⊢
            simp -implicitDefEqProofs (disch := decide +kernel) only [go_sem, ↓reduceIte, Nat.reduceSub, Nat.reduceAdd, Nat.reduceMul, Nat.reduceBEq, Nat.reduceLT, Nat.reduceLeDiff, Nat.reduceEqDiff, reduceCtorEq, Int.reduceToNat, Int.reduceLE, Int.reduceLT, Int.reduceBEq, Int.reduceBNe, mCall, k1, fil_H, cel3, cells_enc, hee, hea, k6, hge, hct, hgt, hhn, hes, hap, (enc_eq rr.1).symm]
        · rw [if_pos (by simpa using hge)]
          simp -implicitDefEqProofs (disch := decide +kernel) only [go_sem, ↓reduceIte, Nat.reduceSub, Nat.reduceAdd, Nat.reduceMul, Nat.reduceBEq, Nat.reduceLT, Nat.reduceLeDiff, Nat.reduceEqDiff, reduceCtorEq, Int.reduceToNat, Int.reduceLE, Int.reduceLT, Int.reduceBEq, Int.reduceBNe, mCall, k1, fil_H, cel3, cells_enc, hee, hea, k6, hge, zT_enc, zT'_eq]
      · rw [if_pos (by simpa using k6)]
        simp -implicitDefEqProofs (disch := decide +kernel) only [go_sem, ↓reduceIte, Nat.reduceSub, Nat.reduceAdd, Nat.reduceMul, Nat.reduceBEq, Nat.reduceLT, Nat.reduceLeDiff, Nat.reduceEqDiff, reduceCtorEq, Int.reduceToNat, Int.reduceLE, Int.reduceLT, Int.reduceBEq, Int.reduceBNe, mCall, k1, fil_H, cel3, cells_enc, hee, hea, k6, tm_enc]
        rfl
  · have hb : bindsB t = true := by simp [bindsB, k1]
    rw [hb] at hea ⊢
    by_cases he : ¬ firstE FF t.args.length = 0
    · -- what is not filled
      have hne : (firstE FF t.args.length != 0) = true := by simpa using he
      rw [if_neg he]
      rw [if_neg he] at hea
      simp -implicitDefEqProofs (disch := decide +kernel) only [go_sem, ↓reduceIte, Nat.reduceSub, Nat.reduceAdd, Nat.reduceMul, Nat.reduceBEq, Nat.reduceLT, Nat.reduceLeDiff, Nat.reduceEqDiff, reduceCtorEq, Int.reduceToNat, Int.reduceLE, Int.reduceLT, Int.reduceBEq, Int.reduceBNe, mCall, k1, fil_H, cel3, cells_enc, hee, hea, hne, zT_enc, zT'_eq]
    · have he : firstE FF t.args.length = 0 := Classical.not_not.1 he
      rw [if_pos he]
      rw [if_pos he] at hea
      unfold fillN
      cases k6 : (t.kind != 6)
      · have k6' : t.kind = 6 := by simpa using k6
        have hh := node_head (node_here hn)
        rw [if_neg (by simpa using k6')]
        cases hge : decide (t.head ≥ th.length)
        · have hge' : ¬ t.head ≥ th.length := by simpa using hge
          rw [if_neg hge']
          have hlt2 : t.head.toNat < th.length := by omega
          cases hma : maysB ls
          · rw [hma] at hct
            rw [if_neg (by simp)]
            simp -implicitDefEqProofs (disch := decide +kernel) only [go_sem, ↓reduceIte, Nat.reduceSub, Nat.reduceAdd, Nat.reduceMul, Nat.reduceBEq, Nat.reduceLT, Nat.reduceLeDiff, Nat.reduceEqDiff, reduceCtorEq, Int.reduceToNat, Int.reduceLE, Int.reduceLT, Int.reduceBEq, Int.reduceBNe, mCall, k1, fil_H, cel3, cells_enc, hee, hea, k6, hge, hct, zT_enc, zT'_eq]
          · rw [hma] at hct
            rw [if_pos rfl]
            have hmem : th.getD t.head.toNat default ∈ th := by rw [List.getD_eq_getElem?_getD, List.getElem?_eq_getElem hlt2]; exact List.getElem_mem _
            obtain ⟨h', hap⟩ := sapply_spec (th.getD t.head.toNat default) ⟨ls, n⟩ (by have := (may_parts (hth _ hmem).1).2.1; omega) hsz (by rw [hal]; omega) (vle_mono (by omega) (hth _ hmem).2) hvl
            have hes := encS_mk ls n
            have hgt := getD_get hlt2
            have hhn : 0 ≤ t.head := hh
            generalize applyR (th.getD t.head.toNat default) ⟨ls, n⟩ = rr at hap ⊢
            simp -implicitDefEqProofs (disch := decide +kernel) only [go_sem, ↓reduceIte, Nat.reduceSub, Nat.reduceAdd, Nat.reduceMul, Nat.reduceBEq, Nat.reduceLT, Nat.reduceLeDiff, Nat.reduceEqDiff, reduceCtorEq, Int.reduceToNat, Int.reduceLE, Int.reduceLT, Int.reduceBEq, Int.reduceBNe, mCall, k1, fil_H, cel3, cells_enc, hee, hea, k6, hge, hct, hgt, hhn, hes, hap, (enc_eq rr.1).symm]
        · rw [if_pos (by simpa using hge)]
          simp -implicitDefEqProofs (disch := decide +kernel) only [go_sem, ↓reduceIte, Nat.reduceSub, Nat.reduceAdd, Nat.reduceMul, Nat.reduceBEq, Nat.reduceLT, Nat.reduceLeDiff, Nat.reduceEqDiff, reduceCtorEq, Int.reduceToNat, Int.reduceLE, Int.reduceLT, Int.reduceBEq, Int.reduceBNe, mCall, k1, fil_H, cel3, cells_enc, hee, hea, k6, hge, zT_enc, zT'_eq]
      · rw [if_pos (by simpa using k6)]
        simp -implicitDefEqProofs (disch := decide +kernel) only [go_sem, ↓reduceIte, Nat.reduceSub, Nat.reduceAdd, Nat.reduceMul, Nat.reduceBEq, Nat.reduceLT, Nat.reduceLeDiff, Nat.reduceEqDiff, reduceCtorEq, Int.reduceToNat, Int.reduceLE, Int.reduceLT, Int.reduceBEq, Int.reduceBNe, mCall, k1, fil_H, cel3, cells_enc, hee, hea, k6, tm_enc]
        rfl
end Go.Proofs.Ytobocgjdlchemaa
/- Arguments of a law: lists of numbers, as they are read. -/
set_option linter.unusedVariables false
set_option linter.unusedSimpArgs false
namespace Go.Proofs.Ytobocgjdlchemaa
open Go.Proofs Go.ChangeShapes
def encI (n : Int) : Dv := .int .i64 n
def encIs (l : List Int) : List Dv := l.map encI
section
variable {H : Type} {enc' : TypeId × Value → H} {W : World} {held : Bool}
theorem ints_arg {v : Value} {d : DataW H} {ps : List MemPlace} (h : DataW.Trod enc' Try.prog W 0 (fun _ => true) held 41 v d ps) : ∃ l : List Int, dv d = .slc (encIs l) ∧ (∀ n ∈ l, in64 n) ∧ l.length + 1 ≤ Rows.uptoBulk d := by
  obtain ⟨fuel, h⟩ := h
  rcases DataW.trod_slice Try.underlying41 h with ⟨_, hx⟩ | ⟨a, len, cap, elems, rest, n, hn, _, hx, _, hlc, _, hel, hget, _, _⟩
  · obtain rfl : d = .nil := congrArg Prod.fst hx
    exact ⟨[], rfl, by simp, by simp [Rows.uptoBulk]⟩
  · obtain rfl : d = _ := congrArg Prod.fst hx
    obtain ⟨l, h1, h2⟩ := list_of (P := fun (y : DataW H × List MemPlace) (t : Int) => y.1 = .lit (.int .i64 t) ∧ in64 t) elems fun y hy => by
      obtain ⟨i, hi⟩ := List.mem_iff_getElem?.1 hy
      have hlt := (List.getElem?_eq_some_iff.1 hi).1
      have := hget i (by omega)
      rw [hi] at this
      obtain ⟨cs, _, hx⟩ := Option.bind_eq_some_iff.1 this
      obtain ⟨t, _, k2, k3⟩ := int_read hx
      exact ⟨t, k3, k2⟩
    have key : ∀ (es : List (DataW H × List MemPlace)) (l : List Int), l.length = es.length → (∀ (i : Nat) y t, es[i]? = some y → l[i]? = some t → y.1 = .lit (.int .i64 t) ∧ in64 t) →
        dvs (es.map (·.1)) = encIs l ∧ (∀ t ∈ l, in64 t) ∧ l.length ≤ Rows.uptoBulkAll (es.map (·.1)) := by
      intro es
      induction es with
      | nil =>
        intro l hl _
        obtain rfl : l = [] := List.eq_nil_of_length_eq_zero (by simpa using hl)
        exact ⟨rfl, by simp, by simp⟩
      | cons y es ih =>
        intro l hl hp
        cases l with
        | nil => simp at hl
        | cons t l =>
          obtain ⟨k1, k2⟩ := hp 0 y t rfl rfl
          obtain ⟨j1, j2, j3⟩ := ih l (by simpa using hl) fun i a b ha hb => hp (i + 1) a b (by simpa using ha) (by simpa using hb)
          refine ⟨?_, fun x hx => ?_, ?_⟩
          · simp only [List.map_cons, dvs, k1, j1]; rfl
          · rcases List.mem_cons.1 hx with rfl | hx
            · exact k2
            · exact j2 x hx
          · simp only [List.map_cons, Rows.uptoBulkAll, List.length_cons, k1, Rows.uptoBulk]
            omega
    obtain ⟨k1, k2, k3⟩ := key elems l h1 h2
    refine ⟨l, by simp only [dv, k1], k2, ?_⟩
    simp only [Rows.uptoBulk]
    omega
end
end Go.Proofs.Ytobocgjdlchemaa
/- The package meta: Fill, Ctx, All. -/
set_option linter.unusedSimpArgs false
set_option linter.unusedVariables false
set_option maxRecDepth 100000
namespace Go.Proofs.Ytobocgjdlchemaa
open Go.Proofs
/-- What may be said of the terms for metas. -/
structure ThOk (K : Int) (th : List Tm) : Prop where
  h0 : 0 ≤ K
  top : K + 200000000 ≤ topV
  len : th.length < room
  all : ∀ x ∈ th, x.size < room ∧ vleB K x = true
theorem fill_top {th : List Tm} {K : Int} (h : ThOk K th) {t : Tm} {n : Int} (hs : t.size ≤ 1048576) (hv : vleB K t = true) (ho : fillOk t th n = true) :
    ∃ h, (lim C).call 35 [dT t, dL th, dI n] [] = some (.ret (.tup [dT (fillM th t n).1, dI (fillM th t n).2]), h) := by
  obtain ⟨p1, p2, p3, p4, p5⟩ := fillOk_parts ho
  have hp := may_parts p1
  have := h.top
  exact fill_spec h.h0 (fun x hx => ⟨p5 x hx, (h.all x hx).2⟩) h.len t hs hp.1 hv (by omega) n p2 (by omega)
theorem fillM_size {th : List Tm} {K : Int} (h : ThOk K th) {t : Tm} {n : Int} (hs : t.size ≤ 1048576) (hv : vleB K t = true) (hm : mayB t = true) : (fillM th t n).1.size < room := by
  have hr : room = 1099511627776 := rfl
  have := (fill_fits h.h0 (fun x hx => (h.all x hx).2) t n (may_parts hm).1 hv).2
  omega
theorem mFill_spec {th : List Tm} {K : Int} (h : ThOk K th) (t : Tm) (hs : t.size ≤ 1048576) (hv : vleB K t = true) (n : Int) :
    ∃ h, (lim C).call 18 [dT t, dL th, dI n] [] = some (.ret (.tup [dT (FillR t th n).1, dI (FillR t th n).2]), h) := by
  have hr : room = 1099511627776 := rfl
  have hc := contains_spec (g := 33) (by decide +kernel) (l := th) h.len (fun x hx => ⟨_, modd_spec x (h.all x hx).1⟩)
  have ho := modd_spec t (by omega)
  have hee := (enc_eq t).symm
  have hsz := fun hm => fillM_size h (n := n) hs hv hm
  have htop := fill_top h (n := n) hs hv
  refine ⟨[], ?_⟩
  unfold FillR fillOk
  unfold fillOk at htop
  rw [ev_fn 18 Try.f18 _ _ _ rfl Try.func18 rfl Try.ntmps18 rfl]
  cases h1 : mayB t
  · simp -implicitDefEqProofs (disch := decide +kernel) only [go_sem, ↓reduceIte, Nat.reduceSub, Nat.reduceAdd, Nat.reduceMul, Nat.reduceBEq, Nat.reduceLT, Nat.reduceLeDiff, Nat.reduceEqDiff, reduceCtorEq, Int.reduceToNat, Int.reduceLE, Int.reduceLT, Int.reduceBEq, Int.reduceBNe, mCall, cells_enc, cel3, hee, ho, hc, zT_enc, h1]
  · skip
    cases h2 : decide (n < 0)
    rotate_left
    · simp -implicitDefEqProofs (disch := decide +kernel) only [go_sem, ↓reduceIte, Nat.reduceSub, Nat.reduceAdd, Nat.reduceMul, Nat.reduceBEq, Nat.reduceLT, Nat.reduceLeDiff, Nat.reduceEqDiff, reduceCtorEq, Int.reduceToNat, Int.reduceLE, Int.reduceLT, Int.reduceBEq, Int.reduceBNe, mCall, cells_enc, cel3, hee, ho, hc, zT_enc, h1, h2]
    cases h3 : decide (n > 1000)
    rotate_left
    · simp -implicitDefEqProofs (disch := decide +kernel) only [go_sem, ↓reduceIte, Nat.reduceSub, Nat.reduceAdd, Nat.reduceMul, Nat.reduceBEq, Nat.reduceLT, Nat.reduceLeDiff, Nat.reduceEqDiff, reduceCtorEq, Int.reduceToNat, Int.reduceLE, Int.reduceLT, Int.reduceBEq, Int.reduceBNe, mCall, cells_enc, cel3, hee, ho, hc, zT_enc, h1, h2, h3]
    cases h4 : decide ((th.length : Int) > 200)
    rotate_left
    · simp -implicitDefEqProofs (disch := decide +kernel) only [go_sem, ↓reduceIte, Nat.reduceSub, Nat.reduceAdd, Nat.reduceMul, Nat.reduceBEq, Nat.reduceLT, Nat.reduceLeDiff, Nat.reduceEqDiff, reduceCtorEq, Int.reduceToNat, Int.reduceLE, Int.reduceLT, Int.reduceBEq, Int.reduceBNe, mCall, cells_enc, cel3, hee, ho, hc, zT_enc, h1, h2, h3, h4]
    cases h5 : maysB th
    · simp -implicitDefEqProofs (disch := decide +kernel) only [go_sem, ↓reduceIte, Nat.reduceSub, Nat.reduceAdd, Nat.reduceMul, Nat.reduceBEq, Nat.reduceLT, Nat.reduceLeDiff, Nat.reduceEqDiff, reduceCtorEq, Int.reduceToNat, Int.reduceLE, Int.reduceLT, Int.reduceBEq, Int.reduceBNe, mCall, cells_enc, cel3, hee, ho, hc, zT_enc, h1, h2, h3, h4, h5]
    · skip
      rw [h1, h2, h3, h4, h5] at htop
      obtain ⟨h', hf⟩ := htop rfl
      have hsz := hsz h1
      unfold fillW
      generalize fillM th t n = rr at hf hsz ⊢
      cases h6 : (rr.2 != 0)
      · have h6' : rr.2 = 0 := by simpa using h6
        have ho2 := modd_spec rr.1 hsz
        rw [if_pos h6']
        cases h7 : mayB rr.1
        · rw [h7] at ho2
          simp -implicitDefEqProofs (disch := decide +kernel) only [go_sem, ↓reduceIte, Nat.reduceSub, Nat.reduceAdd, Nat.reduceMul, Nat.reduceBEq, Nat.reduceLT, Nat.reduceLeDiff, Nat.reduceEqDiff, reduceCtorEq, Int.reduceToNat, Int.reduceLE, Int.reduceLT, Int.reduceBEq, Int.reduceBNe, mCall, cells_enc, cel3, hee, ho, hc, h1, h2, h3, h4, h5, hf, h6, ho2, (enc_eq rr.1).symm, zT_enc]
        · rw [h7] at ho2
          simp -implicitDefEqProofs (disch := decide +kernel) only [go_sem, ↓reduceIte, Nat.reduceSub, Nat.reduceAdd, Nat.reduceMul, Nat.reduceBEq, Nat.reduceLT, Nat.reduceLeDiff, Nat.reduceEqDiff, reduceCtorEq, Int.reduceToNat, Int.reduceLE, Int.reduceLT, Int.reduceBEq, Int.reduceBNe, mCall, cells_enc, cel3, hee, ho, hc, h1, h2, h3, h4, h5, hf, h6, ho2, (enc_eq rr.1).symm, zT_enc]
      · have h6' : ¬ rr.2 = 0 := by simpa using h6
        rw [if_neg h6']
        simp -implicitDefEqProofs (disch := decide +kernel) only [go_sem, ↓reduceIte, Nat.reduceSub, Nat.reduceAdd, Nat.reduceMul, Nat.reduceBEq, Nat.reduceLT, Nat.reduceLeDiff, Nat.reduceEqDiff, reduceCtorEq, Int.reduceToNat, Int.reduceLE, Int.reduceLT, Int.reduceBEq, Int.reduceBNe, mCall, cells_enc, cel3, hee, ho, hc, h1, h2, h3, h4, h5, hf, h6, (enc_eq rr.1).symm, zT_enc]
theorem fillR_size (t : Tm) (th : List Tm) (n : Int) : (FillR t th n).1.size ≤ 4000 := (may_parts (fillR_may t th n)).2.1
/-- Terms that may be filled, and what they are filled with. -/
structure LOk (K : Int) (l : List Tm) : Prop where
  len : l.length < 1048576
  all : ∀ x ∈ l, x.size ≤ 1048576 ∧ vleB K x = true
theorem LOk.at {K : Int} {l : List Tm} (h : LOk K l) {i : Nat} (hi : i < l.length) : (l.getD i default).size ≤ 1048576 ∧ vleB K (l.getD i default) = true := h.all _ (getD_mem hi)
theorem ctx_wrap {th l : List Tm} {n : Int} (hn : in64 n) (hl : l.length < 1048576) {i : Nat} (hi : i < l.length) (h : ∀ j, j < i → (FillR (l.getD j default) th (n + j)).2 = 0) : IntKind.wrap .i64 (n + (i : Int)) = n + i := by
  unfold in64 at hn
  rcases Nat.eq_zero_or_pos i with h0 | h0
  · obtain rfl := h0
    exact wrap_ok (by omega) (by omega)
  · have := (fillOk_parts (fillR_ok (h 0 h0)).1).2.2.1
    have : n + ((0 : Nat) : Int) ≤ 1000 := this
    exact wrap_ok (by omega) (by omega)
theorem encIs_get {ns : List Int} {i : Nat} (hi : i < ns.length) : (encIs ns)[i]? = some (.int .i64 (ns.getD i 0)) := by
  unfold encIs
  rw [List.getElem?_map, List.getElem?_eq_getElem hi, List.getD_eq_getElem?_getD, List.getElem?_eq_getElem hi]; rfl
theorem encIs_len (ns : List Int) : (encIs ns).length = ns.length := by simp [encIs]
theorem wid_int (n : Int) : (Dv.int .i64 n).width = 1 := rfl
theorem cel_int (n : Int) : (Dv.int .i64 n).cells = [.int .i64 n] := rfl
theorem all1_spec {th : List Tm} {ns : List Int} {i : Nat} {x u : Tm} {e : Int} {h : List HO} (hi : i < ns.length)
    (hrec : (lim C).call 18 [dT x, dL th, dI (ns.getD i 0)] [] = some (.ret (.tup [dT u, dI e]), h)) :
    (lim C).call 37 [dI i, dT x, .href 0 0, .href 1 0] [.var 0 [dL th], .var 0 [.d (.slc (encIs ns))]] = some (.ret (.tup [dT u, dI e]), [.var 0 [dL th], .var 0 [.d (.slc (encIs ns))]]) := by
  rw [ev_fn 37 Try.f37 _ _ _ rfl Try.func37 rfl Try.ntmps37 rfl]
  simp -implicitDefEqProofs (disch := decide +kernel) only [go_sem, ↓reduceIte, Nat.reduceSub, Nat.reduceAdd, Nat.reduceMul, Nat.reduceBEq, Nat.reduceLT, Nat.reduceLeDiff, Nat.reduceEqDiff, reduceCtorEq, Int.reduceToNat, Int.reduceLE, Int.reduceLT, Int.reduceBEq, Int.reduceBNe, mCall, cells_enc, cel3, (enc_eq x).symm, (enc_eq u).symm, encIs_get hi, encIs_len, wid_int, cel_int, hrec]
theorem mAll_spec {th : List Tm} {K : Int} (h : ThOk K th) (l : List Tm) (hl : LOk K l) (ns : List Int) :
    ∃ h, (lim C).call 19 [dL l, dL th, .d (.slc (encIs ns))] [] = some (.ret (.tup [dL (AllR l th ns).1, dI (AllR l th ns).2]), h) := by
  have hr : room = 1099511627776 := rfl
  have hll := hl.len
  refine ⟨[.var 0 [dL th], .var 0 [.d (.slc (encIs ns))]], ?_⟩
  unfold AllR
  have hln : ((ns.length : Int) != (l.length : Int)) = !decide (ns.length = l.length) := by
    by_cases he : ns.length = l.length
    · simp [he]
    · simp [he]; omega
  by_cases he : ns.length = l.length
  · have hdo : DoesE 37 [.href 0 0, .href 1 0] [.var 0 [dL th], .var 0 [.d (.slc (encIs ns))]] l (fun i => FillR (l.getD i default) th (ns.getD i 0)) := by
      intro i hi _ locs toks
      obtain ⟨h', hrec⟩ := mFill_spec h (l.getD i default) (hl.at hi).1 (hl.at hi).2 (ns.getD i 0)
      have h1 := all1_spec (by omega) hrec
      simp only [mCall, callsPure, pureL, AV.pure, okL, AV.okA, C_thr, eraseL, AV.erase, Bool.and_true, Bool.true_and, Bool.and_false, Bool.false_and, Bool.false_eq_true, if_false, if_true, Option.bind_some, heapRes_ret, h1]
    have hea := meach_spec hdo (by omega) rfl rfl
    have hne : ((ns.length : Int) != (l.length : Int)) = false := by rw [hln]; simp [he]
    rw [if_pos he]
    generalize eachR (fun i => FillR (l.getD i default) th (ns.getD i 0)) l.length = rr at hea ⊢
    rw [ev_fn 19 Try.f19 _ _ _ rfl Try.func19 rfl Try.ntmps19 rfl]
    simp -implicitDefEqProofs (disch := decide +kernel) only [go_sem, ↓reduceIte, Nat.reduceSub, Nat.reduceAdd, Nat.reduceMul, Nat.reduceBEq, Nat.reduceLT, Nat.reduceLeDiff, Nat.reduceEqDiff, reduceCtorEq, Int.reduceToNat, Int.reduceLE, Int.reduceLT, Int.reduceBEq, Int.reduceBNe, mCall, hea, hne, encIs_len]
  · have hne : ((ns.length : Int) != (l.length : Int)) = true := by rw [hln]; simp [he]
    rw [if_neg he]
    rw [ev_fn 19 Try.f19 _ _ _ rfl Try.func19 rfl Try.ntmps19 rfl]
    simp -implicitDefEqProofs (disch := decide +kernel) only [go_sem, ↓reduceIte, Nat.reduceSub, Nat.reduceAdd, Nat.reduceMul, Nat.reduceBEq, Nat.reduceLT, Nat.reduceLeDiff, Nat.reduceEqDiff, reduceCtorEq, Int.reduceToNat, Int.reduceLE, Int.reduceLT, Int.reduceBEq, Int.reduceBNe, mCall, hne, encIs_len]
    rfl
end Go.Proofs.Ytobocgjdlchemaa
/- Laws of layer 4: the example, MetaNone, MetaScopes. -/
set_option linter.unusedSimpArgs false
set_option linter.unusedVariables false
set_option maxRecDepth 100000
namespace Go.Proofs.Ytobocgjdlchemaa
open Go.Proofs
def w4 : Tm := .mk 3 0 [.mk 4 4 []]
def g4 (i d : Int) : Int := if i < d then i else if i = d then d + 3 else i + 4
theorem ex4_apply : applyR w1 ⟨[.mk 4 3 []], 5⟩ = (w4, 0) := by
  have hm : mapT g4 w1 ((0 : Nat) : Int) = w4 := by
    simp [w1, w4, g4, mapT, bnd, Tm.kind, Tm.args, List.range, List.range.loop]
  have h := apply_ren (s := ⟨[.mk 4 3 []], 5⟩) (G := g4) (P := fun _ _ => true) (t := w1) 0
    (ren_all (s := ⟨[.mk 4 3 []], 5⟩) (G := g4) (P := fun _ _ => true) (show (0 : Int) ≤ 5 by omega) (fun i hi _ => by
      unfold ofS g4
      simp only [List.length_cons, List.length_nil]
      split
      · obtain rfl : i = 0 := by omega
        rfl
      · rw [if_neg (by omega), if_neg (by omega)]; congr 1; omega) (fun d => by unfold g4; rw [if_pos (by omega)]) (fun i d hi _ => ⟨rfl, by unfold g4; split <;> split <;> (try split) <;> (try split) <;> omega⟩) (fun i d hi _ => by unfold g4; split <;> (try split) <;> omega))
    w1_may (smay_of (by simp) (by omega) (by omega) (fun x hx => by obtain rfl : x = .mk 4 3 [] := by simpa using hx
                                                                    exact leaf_var (by omega))) (canB_true _ _) (by
      rw [hm]
      refine may_of (nodes_mk (by simp [nodeOk, mk_kind, mk_head, mk_args]) ?_) ?_ ?_
      · intro x hx
        obtain rfl : x = .mk 4 4 [] := by simpa using hx
        exact nodes_mk (node_heads rfl (by decide) _) (by simp)
      · unfold w4; rw [mk_size]; simp [mk_size]
      · unfold w4; rw [depth_eq]; simp [mk_args, depth_eq])
  rw [hm] at h
  exact h
def x4 : Tm := metaT 0 [.mk 4 3 []]
theorem x4_may : mayB x4 = true := by
  refine may_of (nodes_mk (by simp [nodeOk, mk_kind, mk_head, mk_args]) ?_) ?_ ?_
  · intro x hx
    obtain rfl : x = .mk 4 3 [] := by simpa using hx
    exact nodes_mk (node_heads rfl (by decide) _) (by simp)
  · unfold x4 metaT; rw [mk_size]; simp [mk_size]
  · unfold x4 metaT; rw [depth_eq]; simp [mk_args, depth_eq]
theorem metas_leaf {k h : Int} (hk : k ≠ 6) : metasB (.mk k h []) = false := by
  rw [metasB_no]; exact ⟨hk, fun i hi => by simp [mk_args] at hi⟩
theorem x4_fill : FillR x4 [w1] 5 = (w4, 0) := by
  unfold x4
  rw [fillR_meta w1_may (by omega) (by omega) x4_may (fun y hy => by
    obtain rfl : y = .mk 4 3 [] := by simpa using hy
    exact metas_leaf (by omega)) (fun y hy => by
    obtain rfl : y = .mk 4 3 [] := by simpa using hy
    exact leaf_var (by omega))]
  exact ex4_apply
theorem w1_vle (K : Int) (h : 1 ≤ K) : vleB K w1 = true := vle_mk (fun h => by omega) (by
  intro x hx
  obtain rfl : x = .mk 4 1 [] := by simpa using hx
  exact vle_var h)
theorem x4_vle (K : Int) (h : 3 ≤ K) : vleB K x4 = true := vle_mk (fun h => by omega) (by
  intro x hx
  obtain rfl : x = .mk 4 3 [] := by simpa using hx
  exact vle_var h)
theorem awake4_spec : (lim C).call 15 [] [] = retB true := by
  have hr : room = 1099511627776 := rfl
  have hx : enc x4 = .agg [.int .i64 6, .int .i64 0, .slc [.agg [.int .i64 4, .int .i64 3, .slc []]]] := by unfold x4 metaT; rw [enc_mk, encs, List.map_cons, List.map_nil, enc_mk]; rfl
  have hf : enc w1 = .agg [.int .i64 3, .int .i64 0, .slc [.agg [.int .i64 4, .int .i64 1, .slc []]]] := by unfold w1; rw [enc_mk, encs, List.map_cons, List.map_nil, enc_mk]; rfl
  have hw : enc w4 = .agg [.int .i64 3, .int .i64 0, .slc [.agg [.int .i64 4, .int .i64 4, .slc []]]] := by unfold w4; rw [enc_mk, encs, List.map_cons, List.map_nil, enc_mk]; rfl
  obtain ⟨h, ha⟩ := mFill_spec (th := [w1]) (K := 3) ⟨by omega, by decide, by simp; omega, by simp [w1_size, w1_vle]; omega⟩ x4 (by have := (may_parts x4_may).2.1; omega) (x4_vle 3 (by omega)) 5
  rw [x4_fill] at ha
  have ha' : (lim C).call 18 [.d (.agg [.int .i64 6, .int .i64 0, .slc [.agg [.int .i64 4, .int .i64 3, .slc []]]]), .d (.slc [.agg [.int .i64 3, .int .i64 0, .slc [.agg [.int .i64 4, .int .i64 1, .slc []]]]]), .d (.int .i64 5)] [] = some (.ret (.tup [.d (.agg [.int .i64 3, .int .i64 0, .slc [.agg [.int .i64 4, .int .i64 4, .slc []]]]), dI 0]), h) := by
    rw [← hx, ← hf, ← hw]; exact ha
  have h33 : ((1 : Nat) : Int) = 1 := rfl
  rw [ev_fn 15 Try.f15 _ _ _ rfl Try.func15 rfl Try.ntmps15 rfl]
  simp -implicitDefEqProofs (disch := decide +kernel) only [go_sem, ↓reduceIte, Nat.reduceSub, Nat.reduceAdd, Nat.reduceMul, Nat.reduceBEq, Nat.reduceLT, Nat.reduceLeDiff, Nat.reduceEqDiff, reduceCtorEq, Int.reduceToNat, Int.reduceLE, Int.reduceLT, Int.reduceBEq, Int.reduceBNe, mCall, ha', h33]
theorem bare_spec : ∀ t : Tm, t.size < room → (lim C).call 17 [dT t] [] = retB (bareB t) := by
  refine Tm.ind fun t ih hs => ?_
  have hr : room = 1099511627776 := rfl
  have hl := len_size t
  have hloop : (lim C).code 17 (.loop (cf (cf (cs (cf (cs (cs (bodyOf Try.f17)))))))) (mk 29 [(1, .lref 1 0), (3, dI (0 : Nat))] [(1, cel3 t)] [] []) = some (if allB t.args.length (fun k => bareB (t.arg k)) then (.exit 0, mk 29 [(1, .lref 1 0), (3, dI t.args.length), (18, dB false)] [(1, cel3 t)] [] []) else (.ret, mk 29 [(2, dB false)] [] [] [])) := by
    refine loop_all (fun i => mk 29 [(1, .lref 1 0), (3, dI i)] [(1, cel3 t)] [] []) t.args.length _ (fun i hi hp => ?_) (fun i hi hp => ?_) ?_ (by simp) (by simp)
    · have hc := ih _ (arg_mem hi) (by have := size_arg (arg_mem hi); omega)
      rw [hp] at hc
      simp -implicitDefEqProofs (disch := decide +kernel) only [cf, cs, bodyOf, Try.f17, Option.getD_some, go_sem, ↓reduceIte, Nat.reduceSub, Nat.reduceAdd, Nat.reduceMul, Nat.reduceBEq, Nat.reduceLT, Nat.reduceLeDiff, Nat.reduceEqDiff, reduceCtorEq, Int.reduceToNat, Int.reduceLE, Int.reduceLT, Int.reduceBEq, Int.reduceBNe, mCall, cel3, lt_true hi, arg_get hi, hc, wrap_succ (n := i) (by omega)]
    · have hc := ih _ (arg_mem hi) (by have := size_arg (arg_mem hi); omega)
      rw [hp] at hc
      simp -implicitDefEqProofs (disch := decide +kernel) only [cf, cs, bodyOf, Try.f17, Option.getD_some, go_sem, ↓reduceIte, Nat.reduceSub, Nat.reduceAdd, Nat.reduceMul, Nat.reduceBEq, Nat.reduceLT, Nat.reduceLeDiff, Nat.reduceEqDiff, reduceCtorEq, Int.reduceToNat, Int.reduceLE, Int.reduceLT, Int.reduceBEq, Int.reduceBNe, mCall, cel3, lt_true hi, arg_get hi, hc]
    · simp -implicitDefEqProofs (disch := decide +kernel) only [cf, cs, bodyOf, Try.f17, Option.getD_some, go_sem, ↓reduceIte, Nat.reduceSub, Nat.reduceAdd, Nat.reduceMul, Nat.reduceBEq, Nat.reduceLT, Nat.reduceLeDiff, Nat.reduceEqDiff, reduceCtorEq, Int.reduceToNat, Int.reduceLE, Int.reduceLT, Int.reduceBEq, Int.reduceBNe, mCall, cel3, lt_false (Nat.le_refl t.args.length)]
  rw [bareB_eq, show decide (t.args.length > 0) = decide ((t.args.length : Int) > 0) by by_cases h : t.args.length > 0 <;> simp [h] <;> omega]
  rw [ev_fn 17 Try.f17 _ _ _ rfl Try.func17 rfl Try.ntmps17 rfl]
  cases k6 : (t.kind == 6)
  · simp -implicitDefEqProofs (disch := decide +kernel) only [go_sem, ↓reduceIte, Nat.reduceSub, Nat.reduceAdd, Nat.reduceMul, Nat.reduceBEq, Nat.reduceLT, Nat.reduceLeDiff, Nat.reduceEqDiff, reduceCtorEq, Int.reduceToNat, Int.reduceLE, Int.reduceLT, Int.reduceBEq, Int.reduceBNe, mCall, cells_enc, cel3, k6]
    rw [loop_at hloop ?hb ?hs]
    case hb => rfl
    case hs => rfl
    cases hall : allB t.args.length (fun k => bareB (t.arg k))
    · simp -implicitDefEqProofs (disch := decide +kernel) only [go_sem, ↓reduceIte, Nat.reduceSub, Nat.reduceAdd, Nat.reduceMul, Nat.reduceBEq, Nat.reduceLT, Nat.reduceLeDiff, Nat.reduceEqDiff, reduceCtorEq, Int.reduceToNat, Int.reduceLE, Int.reduceLT, Int.reduceBEq, Int.reduceBNe, mCall, hall]
    · simp -implicitDefEqProofs (disch := decide +kernel) only [go_sem, ↓reduceIte, Nat.reduceSub, Nat.reduceAdd, Nat.reduceMul, Nat.reduceBEq, Nat.reduceLT, Nat.reduceLeDiff, Nat.reduceEqDiff, reduceCtorEq, Int.reduceToNat, Int.reduceLE, Int.reduceLT, Int.reduceBEq, Int.reduceBNe, mCall, hall]
  · cases hz : decide ((t.args.length : Int) > 0)
    · simp -implicitDefEqProofs (disch := decide +kernel) only [go_sem, ↓reduceIte, Nat.reduceSub, Nat.reduceAdd, Nat.reduceMul, Nat.reduceBEq, Nat.reduceLT, Nat.reduceLeDiff, Nat.reduceEqDiff, reduceCtorEq, Int.reduceToNat, Int.reduceLE, Int.reduceLT, Int.reduceBEq, Int.reduceBNe, mCall, cells_enc, cel3, k6, hz]
      rw [loop_at hloop ?hb ?hs]
      case hb => rfl
      case hs => rfl
      cases hall : allB t.args.length (fun k => bareB (t.arg k))
      · simp -implicitDefEqProofs (disch := decide +kernel) only [go_sem, ↓reduceIte, Nat.reduceSub, Nat.reduceAdd, Nat.reduceMul, Nat.reduceBEq, Nat.reduceLT, Nat.reduceLeDiff, Nat.reduceEqDiff, reduceCtorEq, Int.reduceToNat, Int.reduceLE, Int.reduceLT, Int.reduceBEq, Int.reduceBNe, mCall, hall]
      · simp -implicitDefEqProofs (disch := decide +kernel) only [go_sem, ↓reduceIte, Nat.reduceSub, Nat.reduceAdd, Nat.reduceMul, Nat.reduceBEq, Nat.reduceLT, Nat.reduceLeDiff, Nat.reduceEqDiff, reduceCtorEq, Int.reduceToNat, Int.reduceLE, Int.reduceLT, Int.reduceBEq, Int.reduceBNe, mCall, hall]
    · simp -implicitDefEqProofs (disch := decide +kernel) only [go_sem, ↓reduceIte, Nat.reduceSub, Nat.reduceAdd, Nat.reduceMul, Nat.reduceBEq, Nat.reduceLT, Nat.reduceLeDiff, Nat.reduceEqDiff, reduceCtorEq, Int.reduceToNat, Int.reduceLE, Int.reduceLT, Int.reduceBEq, Int.reduceBNe, mCall, cells_enc, cel3, k6, hz]
theorem lights_ok {l : List Tm} {s d : Int} (h : lightsB l s d = true) (hz : ∀ x ∈ l, x.size < room) : ThOk 1099511627776 l := by
  have hr : room = 1099511627776 := rfl
  obtain ⟨h1, h2⟩ := lights_parts h
  exact ⟨by decide, by decide, by omega, fun x hx => ⟨hz x hx, vle_low (light_low (h2 x hx))⟩⟩
theorem thOk_nil : ThOk 1099511627776 [] := ⟨by decide, by decide, by decide, by simp⟩
end Go.Proofs.Ytobocgjdlchemaa
/- Laws of layer 4: MetaNone. -/
set_option linter.unusedSimpArgs false
set_option linter.unusedVariables false
set_option maxRecDepth 100000
namespace Go.Proofs.Ytobocgjdlchemaa
open Go.Proofs
theorem fillR_vle {t : Tm} {th : List Tm} {K : Int} (h : ThOk K th) (hv : vleB K t = true) (n : Int) : vleB (K + 200000000) (FillR t th n).1 = true := by
  have h0 := h.h0
  unfold FillR
  by_cases ho : fillOk t th n = true
  · have hp := may_parts (fillOk_parts ho).1
    rw [if_pos ho]
    unfold fillW
    split
    · split
      · exact vle_mono (by omega) (fill_fits h.h0 (fun x hx => (h.all x hx).2) t n hp.1 hv).1
      · exact zT_vle _
    · exact zT_vle _
  · rw [if_neg ho]; exact zT_vle _
end Go.Proofs.Ytobocgjdlchemaa
