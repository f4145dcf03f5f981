/- The package subst: its small functions. -/
import Derived.Test.YtmemmdfjlhamfaaP5
import Derived.Test.YtmemmdfjlhamfaaF18
import Derived.Test.YtmemmdfjlhamfaaF19
set_option linter.unusedSimpArgs false
set_option linter.unusedVariables false
set_option maxRecDepth 100000
namespace Go.Proofs.Ytmemmdfjlhamfaa
open Go.Proofs
theorem ev_ext {f : Nat} {x : Orc → List AV → List HO → Option (CR × List HO)} (h : C.ext f = some x) (args : List AV) (heap : List HO) : (lim C).call f args heap = x (lim C) args heap := by
  rw [lim_call C (inferInstance : ExtC C).out]
  unfold callA
  rw [h]
def encS (s : Sb) : Dv := .agg [.slc (encs s.L), .int .i64 s.sh]
abbrev dS (s : Sb) : AV := .d (encS s)
def cel2 (s : Sb) : List AV := [dL s.L, dI s.sh]
theorem encS_eq (s : Sb) : encS s = .agg [.slc (encs s.L), .int .i64 s.sh] := rfl
theorem cells_encS (s : Sb) : AV.cells (.d (encS s)) = cel2 s := rfl
theorem fail_spec (e : Int) (h : List HO) : (lim C).call 89 [dI e] h = some (.pan (.iface 29 (.int .i64 e)), h) := by
  rw [ev_fn 89 Try.f89 _ _ _ rfl Try.func89 rfl Try.ntmps89 rfl]
  simp -implicitDefEqProofs (disch := decide +kernel) only [go_sem, ↓reduceIte, Nat.reduceSub, Nat.reduceAdd, Nat.reduceMul, Nat.reduceBEq, Nat.reduceLT, Nat.reduceLeDiff, Nat.reduceEqDiff, reduceCtorEq, Int.reduceToNat, Int.reduceLE, Int.reduceLT, Int.reduceBEq, Int.reduceBNe, mCall]
theorem of_spec (s : Sb) (i : Int) (h0 : 0 ≤ i) (hi : i ≤ 4503599627370496) (hl : s.L.length < room) (hs : 0 ≤ s.sh ∧ s.sh ≤ 4503599627370496) (hz : ∀ x ∈ s.L, x.size < room) :
    (lim C).call 92 [dS s, dI i] [] = some (.ret (dT (ofS s i)), []) := by
  have hr : room = 1099511627776 := rfl
  rw [ev_fn 92 Try.f92 _ _ _ rfl Try.func92 rfl Try.ntmps92 rfl]
  cases hlt : decide (i < (s.L.length : Int))
  · have hlt' : ¬ i < (s.L.length : Int) := by simpa using hlt
    have hw1 : IntKind.wrap .i64 (i - (s.L.length : Int)) = i - (s.L.length : Int) := wrap_ok (by omega) (by omega)
    have hw2 : IntKind.wrap .i64 (i - (s.L.length : Int) + s.sh) = i - (s.L.length : Int) + s.sh := wrap_ok (by omega) (by omega)
    have he : Dv.agg [.int .i64 4, .int .i64 (i - (s.L.length : Int) + s.sh), .slc []] = enc (ofS s i) := by
      unfold ofS; rw [if_neg hlt', enc_mk]; rfl
    simp -implicitDefEqProofs (disch := decide +kernel) only [go_sem, ↓reduceIte, Nat.reduceSub, Nat.reduceAdd, Nat.reduceMul, Nat.reduceBEq, Nat.reduceLT, Nat.reduceLeDiff, Nat.reduceEqDiff, reduceCtorEq, Int.reduceToNat, Int.reduceLE, Int.reduceLT, Int.reduceBEq, Int.reduceBNe, mCall, encS_eq, hlt, hw1, hw2, he]
  · have hlt' : i < (s.L.length : Int) := by simpa using hlt
    have hw1 : IntKind.wrap .i64 ((s.L.length : Int) - 1) = (s.L.length : Int) - 1 := wrap_ok (by omega) (by omega)
    have hw2 : IntKind.wrap .i64 ((s.L.length : Int) - 1 - i) = (s.L.length : Int) - 1 - i := wrap_ok (by omega) (by omega)
    have hge : 0 ≤ (s.L.length : Int) - 1 - i := by omega
    have hnat : ((s.L.length : Int) - 1 - i).toNat = s.L.length - 1 - i.toNat := by omega
    have hget : s.L[s.L.length - 1 - i.toNat]? = some (ofS s i) := by
      unfold ofS
      rw [if_pos hlt', List.getD_eq_getElem?_getD, List.getElem?_eq_getElem (by omega)]
      rfl
    have hmem : ofS s i ∈ s.L := List.mem_of_getElem? hget
    simp -implicitDefEqProofs (disch := decide +kernel) only [go_sem, ↓reduceIte, Nat.reduceSub, Nat.reduceAdd, Nat.reduceMul, Nat.reduceBEq, Nat.reduceLT, Nat.reduceLeDiff, Nat.reduceEqDiff, reduceCtorEq, Int.reduceToNat, Int.reduceLE, Int.reduceLT, Int.reduceBEq, Int.reduceBNe, mCall, encS_eq, hlt, hw1, hw2, hge, hnat, hget, own_spec _ (hz _ hmem)]
/-- One below what binds. -/
def und_F (s : Sb) (j : Nat) : Tm := upT (s.L.getD j default) 1 0
def und_S (s : Sb) (i : Nat) : St := mk 32 [(2, .lref 2 0), (3, .lref 3 0), (11, dL s.L), (12, dI s.L.length), (13, dI i)] [(2, [.clip [], dI 0]), (3, [acc 0 (encs (outs (und_F s) i)), dI (s.sh + 1)])] [] (accT i)
theorem und_step {s : Sb} (hm : ∀ x ∈ s.L, mayB x = true ∧ vlowB x = true) (hl : s.L.length < room) {i : Nat} (hi : i < s.L.length) :
    (lim C).code 90 (cf (.loop (cf (cf (cs (cf (cs (cs (bodyOf Try.f90))))))))) (und_S s i) = some (.nor, und_S s (i + 1)) := by
  have hr : room = 1099511627776 := rfl
  have hmem : s.L.getD i default ∈ s.L := by rw [List.getD_eq_getElem?_getD, List.getElem?_eq_getElem hi]; exact List.getElem_mem _
  obtain ⟨m1, m2⟩ := hm _ hmem
  have hsz := (may_parts m1).2.1
  obtain ⟨h, hc⟩ := sup_spec (s.L.getD i default) (by omega) m2 1 0
  rw [show renB (s.L.getD i default) 1 0 = true by unfold renB; rw [m1]; rfl, if_pos rfl] at hc
  have hln : (encs (outs (und_F s) i)).length = i := by simp [encs, outs]
  have hap := fun locs heap => mApp_acc (encs (outs (und_F s) i)) (enc (und_F s i)) 3 locs heap (by rw [hln]; omega) (encs_all _) (enc_width _)
  have hsn : encs (outs (und_F s) i) ++ [enc (und_F s i)] = encs (outs (und_F s) (i + 1)) := by unfold outs; rw [List.range_succ, List.map_append, encs_append]; rfl
  rw [hln, hsn] at hap
  have hc' : (lim C).call 45 [dT (s.L.getD i default), dI 1, dI 0] [] = some (.ret (dT (und_F s i)), h) := hc
  simp -implicitDefEqProofs (disch := decide +kernel) only [cf, cs, bodyOf, Try.f90, Option.getD_some, go_sem, ↓reduceIte, Nat.reduceSub, Nat.reduceAdd, Nat.reduceMul, Nat.reduceBEq, Nat.reduceLT, Nat.reduceLeDiff, Nat.reduceEqDiff, reduceCtorEq, Int.reduceToNat, Int.reduceLE, Int.reduceLT, Int.reduceBEq, Int.reduceBNe, mCall, und_S, cel2, acc_keep, lt_true hi, getD_get hi, hc', hap, wrap_succ (n := i) (by omega)]
theorem und_out (s : Sb) : encs (outs (und_F s) s.L.length) ++ [enc var0] = encs (underS s).L := by
  have : outs (und_F s) s.L.length = s.L.map fun x => upT x 1 0 := by
    unfold outs und_F
    refine List.ext_getElem (by simp) fun i h1 h2 => ?_
    simp at h1
    simp [List.getD_eq_getElem?_getD, h1]
  rw [this]
  simp [underS, encs_append, encs]
theorem under_spec (s : Sb) (hm : ∀ x ∈ s.L, mayB x = true ∧ vlowB x = true) (hl : s.L.length < room) (hs : 0 ≤ s.sh ∧ s.sh ≤ 4503599627370496) :
    (lim C).call 90 [dS s] [] = some (.ret (dS (underS s)), []) := by
  have hr : room = 1099511627776 := rfl
  have hw : IntKind.wrap .i64 (s.sh + 1) = s.sh + 1 := wrap_ok (by omega) (by omega)
  have hloop : (lim C).code 90 (.loop (cf (cf (cs (cf (cs (cs (bodyOf Try.f90)))))))) (und_S s 0) = some (.exit 0, mk 32 [(2, .lref 2 0), (3, .lref 3 0), (11, dL s.L), (12, dI s.L.length), (13, dI s.L.length), (14, dB false)] [(2, [.clip [], dI 0]), (3, [acc 0 (encs (outs (und_F s) s.L.length)), dI (s.sh + 1)])] [] (accT s.L.length)) := by
    refine loop_run (und_S s) s.L.length (fun i hi => und_step hm hl hi) ?_ (by simp)
    simp -implicitDefEqProofs (disch := decide +kernel) only [cf, cs, bodyOf, Try.f90, Option.getD_some, go_sem, ↓reduceIte, Nat.reduceSub, Nat.reduceAdd, Nat.reduceMul, Nat.reduceBEq, Nat.reduceLT, Nat.reduceLeDiff, Nat.reduceEqDiff, reduceCtorEq, Int.reduceToNat, Int.reduceLE, Int.reduceLT, Int.reduceBEq, Int.reduceBNe, mCall, und_S, cel2, lt_false (Nat.le_refl s.L.length)]
  have hln : (encs (outs (und_F s) s.L.length)).length = s.L.length := by simp [encs, outs]
  have hap := fun locs heap => mApp_acc (encs (outs (und_F s) s.L.length)) (enc var0) 3 locs heap (by rw [hln]; omega) (encs_all _) (enc_width _)
  rw [hln, und_out] at hap
  have hv : Dv.agg [.int .i64 4, .int .i64 0, .slc []] = enc var0 := by unfold var0; rw [enc_mk]; rfl
  have he : Dv.agg [.slc (encs (underS s).L), .int .i64 (s.sh + 1)] = encS (underS s) := rfl
  rw [ev_fn 90 Try.f90 _ _ _ rfl Try.func90 rfl Try.ntmps90 rfl]
  simp -implicitDefEqProofs (disch := decide +kernel) only [go_sem, ↓reduceIte, Nat.reduceSub, Nat.reduceAdd, Nat.reduceMul, Nat.reduceBEq, Nat.reduceLT, Nat.reduceLeDiff, Nat.reduceEqDiff, reduceCtorEq, Int.reduceToNat, Int.reduceLE, Int.reduceLT, Int.reduceBEq, Int.reduceBNe, mCall, encS_eq, hw]
  rw [loop_at hloop ?hb ?hs]
  case hb => rfl
  case hs => rfl
  simp -implicitDefEqProofs (disch := decide +kernel) only [go_sem, ↓reduceIte, Nat.reduceSub, Nat.reduceAdd, Nat.reduceMul, Nat.reduceBEq, Nat.reduceLT, Nat.reduceLeDiff, Nat.reduceEqDiff, reduceCtorEq, Int.reduceToNat, Int.reduceLE, Int.reduceLT, Int.reduceBEq, Int.reduceBNe, mCall, cel2, cells_encS, acc_keep, acc_drop, hap, hv, he, (encS_eq (underS s)).symm]

/-! ### is each of a list so? -/
def maysB (l : List Tm) : Bool := allB l.length fun i => mayB (l.getD i default)
theorem maysB_iff {l : List Tm} : maysB l = true ↔ ∀ x ∈ l, mayB x = true := by
  unfold maysB
  rw [allB_iff]
  constructor
  · intro h x hx
    obtain ⟨i, hi, rfl⟩ := List.mem_iff_getElem.1 hx
    have := h i hi
    rwa [List.getD_eq_getElem?_getD, List.getElem?_eq_getElem hi] at this
  · intro h i hi
    refine h _ ?_
    rw [List.getD_eq_getElem?_getD, List.getElem?_eq_getElem hi]; exact List.getElem_mem _
def ix_S (l : List Tm) (g : Nat) (i : Nat) : St := mk 19 [(0, dL l), (1, .fn g [] []), (7, dI l.length), (8, dI i)] [] [] []
theorem index_spec {g : Nat} (hg : C.thr.contains g = false) {l : List Tm} (hl : l.length < room) (hp : ∀ x ∈ l, ∃ h, (lim C).call g [dT x] [] = some (.ret (dB (!mayB x)), h)) :
    ∃ i : Int, (lim C).call 82 [dL l, .fn g [] []] [] = some (.ret (dI i), []) ∧ decide (i ≥ 0) = !maysB l := by
  have hr : room = 1099511627776 := rfl
  simp only [C_thr, List.contains_cons, List.contains_nil, Bool.or_false] at hg
  have hget : ∀ i, i < l.length → ∃ h, (lim C).call g [dT (l.getD i default)] [] = some (.ret (dB (!mayB (l.getD i default))), h) := fun i hi => hp _ (by
    rw [List.getD_eq_getElem?_getD, List.getElem?_eq_getElem hi]; exact List.getElem_mem _)
  have hstep : ∀ i, i < l.length → mayB (l.getD i default) = true → (lim C).code 82 (cf (.loop (cf (cf (cs (cf (cs (bodyOf Try.f82)))))))) (ix_S l g i) = some (.nor, ix_S l g (i + 1)) := fun i hi hm => by
    obtain ⟨h, hc⟩ := hget i hi
    rw [hm] at hc
    simp -implicitDefEqProofs (disch := decide +kernel) only [cf, cs, bodyOf, Try.f82, Option.getD_some, go_sem, ↓reduceIte, Nat.reduceSub, Nat.reduceAdd, Nat.reduceMul, Nat.reduceBEq, Nat.reduceLT, Nat.reduceLeDiff, Nat.reduceEqDiff, reduceCtorEq, Int.reduceToNat, Int.reduceLE, Int.reduceLT, Int.reduceBEq, Int.reduceBNe, mCall, ix_S, hg, lt_true hi, getD_get hi, hc, wrap_succ (n := i) (by omega)]
  cases hall : maysB l
  · obtain ⟨j, hj, hpj, hb⟩ := allB_first _ _ hall
    refine ⟨j, ?_, by simp⟩
    obtain ⟨h, hc⟩ := hget j hj
    rw [hpj] at hc
    have hloop : (lim C).code 82 (.loop (cf (cf (cs (cf (cs (bodyOf Try.f82))))))) (ix_S l g 0) = some (.ret, mk 19 [(4, dI j)] [] [] []) := by
      refine loop_run (ix_S l g) j (fun i hi => hstep i (by omega) (hb i hi)) ?_ (by simp)
      simp -implicitDefEqProofs (disch := decide +kernel) only [cf, cs, bodyOf, Try.f82, Option.getD_some, go_sem, ↓reduceIte, Nat.reduceSub, Nat.reduceAdd, Nat.reduceMul, Nat.reduceBEq, Nat.reduceLT, Nat.reduceLeDiff, Nat.reduceEqDiff, reduceCtorEq, Int.reduceToNat, Int.reduceLE, Int.reduceLT, Int.reduceBEq, Int.reduceBNe, mCall, ix_S, hg, lt_true hj, getD_get hj, hc]
    rw [ev_fn 82 Try.f82 _ _ _ rfl Try.func82 rfl Try.ntmps82 rfl]
    simp -implicitDefEqProofs (disch := decide +kernel) only [go_sem, ↓reduceIte, Nat.reduceSub, Nat.reduceAdd, Nat.reduceMul, Nat.reduceBEq, Nat.reduceLT, Nat.reduceLeDiff, Nat.reduceEqDiff, reduceCtorEq, Int.reduceToNat, Int.reduceLE, Int.reduceLT, Int.reduceBEq, Int.reduceBNe, mCall]
    rw [loop_at hloop ?hb ?hs]
    case hb => rfl
    case hs => rfl
    simp -implicitDefEqProofs (disch := decide +kernel) only [go_sem, ↓reduceIte, Nat.reduceSub, Nat.reduceAdd, Nat.reduceMul, Nat.reduceBEq, Nat.reduceLT, Nat.reduceLeDiff, Nat.reduceEqDiff, reduceCtorEq, Int.reduceToNat, Int.reduceLE, Int.reduceLT, Int.reduceBEq, Int.reduceBNe, mCall]
  · refine ⟨-1, ?_, by simp⟩
    have hloop : (lim C).code 82 (.loop (cf (cf (cs (cf (cs (bodyOf Try.f82))))))) (ix_S l g 0) = some (.exit 0, mk 19 [(0, dL l), (1, .fn g [] []), (7, dI l.length), (8, dI l.length), (9, dB false)] [] [] []) := by
      refine loop_run (ix_S l g) l.length (fun i hi => hstep i hi ((allB_iff _ _).1 hall i hi)) ?_ (by simp)
      simp -implicitDefEqProofs (disch := decide +kernel) only [cf, cs, bodyOf, Try.f82, Option.getD_some, go_sem, ↓reduceIte, Nat.reduceSub, Nat.reduceAdd, Nat.reduceMul, Nat.reduceBEq, Nat.reduceLT, Nat.reduceLeDiff, Nat.reduceEqDiff, reduceCtorEq, Int.reduceToNat, Int.reduceLE, Int.reduceLT, Int.reduceBEq, Int.reduceBNe, mCall, ix_S, lt_false (Nat.le_refl l.length)]
    rw [ev_fn 82 Try.f82 _ _ _ rfl Try.func82 rfl Try.ntmps82 rfl]
    simp -implicitDefEqProofs (disch := decide +kernel) only [go_sem, ↓reduceIte, Nat.reduceSub, Nat.reduceAdd, Nat.reduceMul, Nat.reduceBEq, Nat.reduceLT, Nat.reduceLeDiff, Nat.reduceEqDiff, reduceCtorEq, Int.reduceToNat, Int.reduceLE, Int.reduceLT, Int.reduceBEq, Int.reduceBNe, mCall]
    rw [loop_at hloop ?hb ?hs]
    case hb => rfl
    case hs => rfl
    simp -implicitDefEqProofs (disch := decide +kernel) only [go_sem, ↓reduceIte, Nat.reduceSub, Nat.reduceAdd, Nat.reduceMul, Nat.reduceBEq, Nat.reduceLT, Nat.reduceLeDiff, Nat.reduceEqDiff, reduceCtorEq, Int.reduceToNat, Int.reduceLE, Int.reduceLT, Int.reduceBEq, Int.reduceBNe, mCall]
theorem contains_spec {g : Nat} (hg : C.thr.contains g = false) {l : List Tm} (hl : l.length < room) (hp : ∀ x ∈ l, ∃ h, (lim C).call g [dT x] [] = some (.ret (dB (!mayB x)), h)) :
    (lim C).call 56 [dL l, .fn g [] []] [] = retB (!maysB l) := by
  obtain ⟨i, h1, h2⟩ := index_spec hg hl hp
  rw [ev_fn 56 Try.f56 _ _ _ rfl Try.func56 rfl Try.ntmps56 rfl]
  simp -implicitDefEqProofs (disch := decide +kernel) only [go_sem, ↓reduceIte, Nat.reduceSub, Nat.reduceAdd, Nat.reduceMul, Nat.reduceBEq, Nat.reduceLT, Nat.reduceLeDiff, Nat.reduceEqDiff, reduceCtorEq, Int.reduceToNat, Int.reduceLE, Int.reduceLT, Int.reduceBEq, Int.reduceBNe, mCall, h1, h2]
theorem odd1_spec (t : Tm) (hs : t.size < room) : (lim C).call 87 [dT t] [] = retB (!mayB t) := by
  rw [ev_fn 87 Try.f87 _ _ _ rfl Try.func87 rfl Try.ntmps87 rfl]
  simp -implicitDefEqProofs (disch := decide +kernel) only [go_sem, ↓reduceIte, Nat.reduceSub, Nat.reduceAdd, Nat.reduceMul, Nat.reduceBEq, Nat.reduceLT, Nat.reduceLeDiff, Nat.reduceEqDiff, reduceCtorEq, Int.reduceToNat, Int.reduceLE, Int.reduceLT, Int.reduceBEq, Int.reduceBNe, mCall, tMay_spec t hs]
/-- May a substitution be? -/
def smayB (s : Sb) : Bool := decide ((s.L.length : Int) ≤ 200) && decide (s.sh ≥ 0) && decide (s.sh ≤ 1048576) && maysB s.L
theorem smayS_spec (s : Sb) (hl : s.L.length < room) (hz : ∀ x ∈ s.L, x.size < room) : (lim C).call 63 [dS s] [] = retB (smayB s) := by
  have hc := contains_spec (g := 87) (by decide +kernel) hl (fun x hx => ⟨_, odd1_spec x (hz x hx)⟩)
  unfold smayB
  rw [ev_fn 63 Try.f63 _ _ _ rfl Try.func63 rfl Try.ntmps63 rfl]
  cases h1 : decide ((s.L.length : Int) ≤ 200)
  · simp -implicitDefEqProofs (disch := decide +kernel) only [go_sem, ↓reduceIte, Nat.reduceSub, Nat.reduceAdd, Nat.reduceMul, Nat.reduceBEq, Nat.reduceLT, Nat.reduceLeDiff, Nat.reduceEqDiff, reduceCtorEq, Int.reduceToNat, Int.reduceLE, Int.reduceLT, Int.reduceBEq, Int.reduceBNe, mCall, encS_eq, hc, h1]
  · skip
    cases h2 : decide (s.sh ≥ 0)
    · simp -implicitDefEqProofs (disch := decide +kernel) only [go_sem, ↓reduceIte, Nat.reduceSub, Nat.reduceAdd, Nat.reduceMul, Nat.reduceBEq, Nat.reduceLT, Nat.reduceLeDiff, Nat.reduceEqDiff, reduceCtorEq, Int.reduceToNat, Int.reduceLE, Int.reduceLT, Int.reduceBEq, Int.reduceBNe, mCall, encS_eq, hc, h1, h2]
    · skip
      cases h3 : decide (s.sh ≤ 1048576)
      · simp -implicitDefEqProofs (disch := decide +kernel) only [go_sem, ↓reduceIte, Nat.reduceSub, Nat.reduceAdd, Nat.reduceMul, Nat.reduceBEq, Nat.reduceLT, Nat.reduceLeDiff, Nat.reduceEqDiff, reduceCtorEq, Int.reduceToNat, Int.reduceLE, Int.reduceLT, Int.reduceBEq, Int.reduceBNe, mCall, encS_eq, hc, h1, h2, h3]
      · skip
        cases h4 : maysB s.L
        · rw [h4] at hc
          simp -implicitDefEqProofs (disch := decide +kernel) only [go_sem, ↓reduceIte, Nat.reduceSub, Nat.reduceAdd, Nat.reduceMul, Nat.reduceBEq, Nat.reduceLT, Nat.reduceLeDiff, Nat.reduceEqDiff, reduceCtorEq, Int.reduceToNat, Int.reduceLE, Int.reduceLT, Int.reduceBEq, Int.reduceBNe, mCall, encS_eq, h1, h2, h3, h4, hc]
        · rw [h4] at hc
          simp -implicitDefEqProofs (disch := decide +kernel) only [go_sem, ↓reduceIte, Nat.reduceSub, Nat.reduceAdd, Nat.reduceMul, Nat.reduceBEq, Nat.reduceLT, Nat.reduceLeDiff, Nat.reduceEqDiff, reduceCtorEq, Int.reduceToNat, Int.reduceLE, Int.reduceLT, Int.reduceBEq, Int.reduceBNe, mCall, encS_eq, h1, h2, h3, h4, hc]

/-! ### two slices, one behind the other -/
def cc_sum (a b : List Tm) : Nat → Nat
  | 0 => 0
  | 1 => a.length
  | _ => a.length + b.length
def cc_acc (a b : List Tm) : Nat → List Tm
  | 0 => []
  | 1 => a
  | _ => a ++ b
abbrev cc_X (a b : List Tm) : AV := .d (.slc [.slc (encs a), .slc (encs b)])
def cc_S1 (a b : List Tm) (i : Nat) : St := mk 36 [(0, cc_X a b), (3, dI (cc_sum a b i)), (9, cc_X a b), (10, dI 2), (11, dI i)] [] [] []
def cc_S2 (a b : List Tm) (i : Nat) : St := mk 36 [(6, .own 0 (encs (cc_acc a b i))), (25, cc_X a b), (26, dI 2), (27, dI i)] [] [] [some (cc_acc a b i).length]
theorem cc_step1 {a b : List Tm} (hl : a.length + b.length < room) {i : Nat} (hi : i < 2) : (lim C).code CC (cf (.loop (cf (cf (cs (cf (cs (cs (bodyOf Try.f118))))))))) (cc_S1 a b i) = some (.nor, cc_S1 a b (i + 1)) := by
  have hr : room = 1099511627776 := rfl
  have hw1 : IntKind.wrap .i64 (a.length : Int) = (a.length : Int) := wrap_ok (by omega) (by omega)
  have hw2 : IntKind.wrap .i64 ((a.length : Int) + (b.length : Int)) = ((a.length + b.length : Nat) : Int) := by rw [wrap_ok (by omega) (by omega)]; omega
  have hn1 : decide ((a.length : Int) < 0) = false := by simp
  have hn2 : decide (((a.length + b.length : Nat) : Int) < 0) = false := by simp; omega
  have h01 : IntKind.wrap .i64 (0 + 1) = 1 := rfl
  have h12 : IntKind.wrap .i64 (1 + 1) = 2 := rfl
  have h1' : IntKind.wrap .i64 1 = 1 := rfl
  have n2 : ((2 : Nat) : Int) = 2 := rfl
  have l01 : decide ((0 : Int) < 2) = true := rfl
  have l12 : decide ((1 : Int) < 2) = true := rfl
  match i, hi with
  | 0, _ => simp -implicitDefEqProofs (disch := decide +kernel) only [cf, cs, bodyOf, Try.f118, Option.getD_some, go_sem, ↓reduceIte, Nat.reduceSub, Nat.reduceAdd, Nat.reduceMul, Nat.reduceBEq, Nat.reduceLT, Nat.reduceLeDiff, Nat.reduceEqDiff, reduceCtorEq, Int.reduceToNat, Int.reduceLE, Int.reduceLT, Int.reduceBEq, Int.reduceBNe, mCall, cc_S1, cc_sum, Int.natCast_zero, Int.natCast_one, Int.zero_add, width_slc, dcells_slc, List.head?_cons, encs_length, hw1, hn1, h01, h1', n2, l01]
  | 1, _ => simp -implicitDefEqProofs (disch := decide +kernel) only [cf, cs, bodyOf, Try.f118, Option.getD_some, go_sem, ↓reduceIte, Nat.reduceSub, Nat.reduceAdd, Nat.reduceMul, Nat.reduceBEq, Nat.reduceLT, Nat.reduceLeDiff, Nat.reduceEqDiff, reduceCtorEq, Int.reduceToNat, Int.reduceLE, Int.reduceLT, Int.reduceBEq, Int.reduceBNe, mCall, cc_S1, cc_sum, Int.natCast_zero, Int.natCast_one, width_slc, dcells_slc, List.head?_cons, encs_length, hw2, hn2, h12, h1', n2, l12]
theorem contX_nor (O : Orc) (c : Code) (σ : St) : contX O c (.nor, σ) = O.code CC c σ := rfl
theorem growK_nor (σ : St) : growK (.nor, σ) = growV σ (σ.tmps.getD 3 .undef) := rfl
theorem growV_i (σ : St) (n : Int) : growV σ (.d (.int .i64 n)) = if 0 ≤ n ∧ n ≤ 1099511627776 ∧ 24 < σ.tmps.length then
      some (.nor, { tmps := clrT [3, 9, 10, 11, 12, 23, 24] (((σ.tmps.set 23 .undef).set 24 .undef).set 6 (.own σ.mem.toks.length [])), mem := { σ.mem with locs := clrM [3, 9, 10, 11, 12, 23, 24] σ.mem.locs, toks := σ.mem.toks ++ [some 0] } }) else none := rfl
theorem cc_len (a b : List Tm) (i : Nat) : (encs (cc_acc a b i)).length = (cc_acc a b i).length := encs_length _
theorem cc_step2 {a b : List Tm} (hl : a.length + b.length < room) {i : Nat} (hi : i < 2) : (lim C).code CC (cf (.loop (cf (cf (cs (cf (cs (cs (cs (cs (bodyOf Try.f118))))))))))) (cc_S2 a b i) = some (.nor, cc_S2 a b (i + 1)) := by
  have hr : room = 1099511627776 := rfl
  have h01 : IntKind.wrap .i64 (0 + 1) = 1 := rfl
  have h12 : IntKind.wrap .i64 (1 + 1) = 2 := rfl
  have h1' : IntKind.wrap .i64 1 = 1 := rfl
  have n2 : ((2 : Nat) : Int) = 2 := rfl
  have l01 : decide ((0 : Int) < 2) = true := rfl
  have l12 : decide ((1 : Int) < 2) = true := rfl
  match i, hi with
  | 0, _ =>
    have ha := fun locs heap => app_more (encs ([] : List Tm)) (encs a) 3 (by simp) locs heap (by simp [encs_length]; omega) (encs_all _) (encs_all _)
    simp only [← encs_append, List.nil_append, encs_length, List.length_nil, Nat.zero_add] at ha
    simp -implicitDefEqProofs (disch := decide +kernel) only [cf, cs, bodyOf, Try.f118, Option.getD_some, go_sem, ↓reduceIte, Nat.reduceSub, Nat.reduceAdd, Nat.reduceMul, Nat.reduceBEq, Nat.reduceLT, Nat.reduceLeDiff, Nat.reduceEqDiff, reduceCtorEq, Int.reduceToNat, Int.reduceLE, Int.reduceLT, Int.reduceBEq, Int.reduceBNe, mCall, cc_S2, cc_acc, Int.natCast_zero, Int.natCast_one, width_slc, dcells_slc, List.head?_cons, ha, h01, h1', n2, l01]
  | 1, _ =>
    have ha := fun locs heap => app_more (encs a) (encs b) 3 (by simp) locs heap (by simp [encs_length]; omega) (encs_all _) (encs_all _)
    simp only [← encs_append, encs_length] at ha
    simp -implicitDefEqProofs (disch := decide +kernel) only [cf, cs, bodyOf, Try.f118, Option.getD_some, go_sem, ↓reduceIte, Nat.reduceSub, Nat.reduceAdd, Nat.reduceMul, Nat.reduceBEq, Nat.reduceLT, Nat.reduceLeDiff, Nat.reduceEqDiff, reduceCtorEq, Int.reduceToNat, Int.reduceLE, Int.reduceLT, Int.reduceBEq, Int.reduceBNe, mCall, cc_S2, cc_acc, Int.natCast_zero, Int.natCast_one, width_slc, dcells_slc, List.head?_cons, ha, h12, h1', n2, l12, List.length_append]
theorem concat_spec (a b : List Tm) (hl : a.length + b.length < room) : (lim C).call CC [cc_X a b] [] = some (.ret (dL (a ++ b)), []) := by
  have hr : room = 1099511627776 := rfl
  have l22 : decide ((2 : Int) < 2) = false := rfl
  have n2 : ((2 : Nat) : Int) = 2 := rfl
  have hloop1 : (lim C).code CC (.loop (cf (cf (cs (cf (cs (cs (bodyOf Try.f118)))))))) (cc_S1 a b 0) = some (.exit 0, mk 36 [(0, cc_X a b), (3, dI (a.length + b.length : Nat)), (9, cc_X a b), (10, dI 2), (11, dI 2), (12, dB false)] [] [] []) := by
    refine loop_run (cc_S1 a b) 2 (fun i hi => cc_step1 hl hi) ?_ (by simp)
    simp -implicitDefEqProofs (disch := decide +kernel) only [cf, cs, bodyOf, Try.f118, Option.getD_some, go_sem, ↓reduceIte, Nat.reduceSub, Nat.reduceAdd, Nat.reduceMul, Nat.reduceBEq, Nat.reduceLT, Nat.reduceLeDiff, Nat.reduceEqDiff, reduceCtorEq, Int.reduceToNat, Int.reduceLE, Int.reduceLT, Int.reduceBEq, Int.reduceBNe, mCall, cc_S1, cc_sum, l22, n2]
  have hloop2 : (lim C).code CC (.loop (cf (cf (cs (cf (cs (cs (cs (cs (bodyOf Try.f118)))))))))) (cc_S2 a b 0) = some (.exit 2, mk 36 [(6, .own 0 (encs (a ++ b))), (25, cc_X a b), (26, dI 2), (27, dI 2), (28, dB false)] [] [] [some (a ++ b).length]) := by
    refine loop_run (cc_S2 a b) 2 (fun i hi => cc_step2 hl hi) ?_ (by simp)
    simp -implicitDefEqProofs (disch := decide +kernel) only [cf, cs, bodyOf, Try.f118, Option.getD_some, go_sem, ↓reduceIte, Nat.reduceSub, Nat.reduceAdd, Nat.reduceMul, Nat.reduceBEq, Nat.reduceLT, Nat.reduceLeDiff, Nat.reduceEqDiff, reduceCtorEq, Int.reduceToNat, Int.reduceLE, Int.reduceLT, Int.reduceBEq, Int.reduceBNe, mCall, cc_S2, cc_acc, l22, n2]
  rw [ev_ext (f := CC) (x := concatX) rfl]
  unfold concatX
  rw [entry_mk Try.f118 _ _ Try.ntmps118 rfl]
  have hb : 0 ≤ ((a.length + b.length : Nat) : Int) ∧ ((a.length + b.length : Nat) : Int) ≤ 1099511627776 ∧ 24 < 36 := by omega
  simp -implicitDefEqProofs (disch := decide +kernel) only [cf, cs, bodyOf, Try.f118, Option.getD_some, go_sem, ↓reduceIte, Nat.reduceSub, Nat.reduceAdd, Nat.reduceMul, Nat.reduceBEq, Nat.reduceLT, Nat.reduceLeDiff, Nat.reduceEqDiff, reduceCtorEq, Int.reduceToNat, Int.reduceLE, Int.reduceLT, Int.reduceBEq, Int.reduceBNe, mCall, contX_nor, growK_nor, growV_i]
  rw [loop_at hloop1 ?hb ?hs]
  case hb => rfl
  case hs => rfl
  simp -implicitDefEqProofs (disch := decide +kernel) only [cf, cs, bodyOf, Try.f118, Option.getD_some, go_sem, ↓reduceIte, Nat.reduceSub, Nat.reduceAdd, Nat.reduceMul, Nat.reduceBEq, Nat.reduceLT, Nat.reduceLeDiff, Nat.reduceEqDiff, reduceCtorEq, Int.reduceToNat, Int.reduceLE, Int.reduceLT, Int.reduceBEq, Int.reduceBNe, mCall, contX_nor, growK_nor, growV_i, hb, n2]
  rw [loop_at hloop2 ?hb ?hs]
  case hb => rfl
  case hs => rfl
  simp -implicitDefEqProofs (disch := decide +kernel) only [cf, cs, bodyOf, Try.f118, Option.getD_some, go_sem, ↓reduceIte, Nat.reduceSub, Nat.reduceAdd, Nat.reduceMul, Nat.reduceBEq, Nat.reduceLT, Nat.reduceLeDiff, Nat.reduceEqDiff, reduceCtorEq, Int.reduceToNat, Int.reduceLE, Int.reduceLT, Int.reduceBEq, Int.reduceBNe, mCall, contX_nor]
end Go.Proofs.Ytmemmdfjlhamfaa
