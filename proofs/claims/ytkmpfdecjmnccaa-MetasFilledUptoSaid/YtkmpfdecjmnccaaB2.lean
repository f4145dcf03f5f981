/- The package subst: its small functions. -/
import Derived.Test.YtkmpfdecjmnccaaB1
import Derived.Test.YtkmpfdecjmnccaaKE
import Derived.Test.YtkmpfdecjmnccaaRows
set_option linter.unusedSimpArgs false
set_option linter.unusedVariables false
set_option maxRecDepth 100000
namespace Go.Proofs.Ytkmpfdecjmnccaa
open Go.Proofs
theorem ev_ext {f : Nat} {x : Orc → List AV → List HO → Option (CR × List HO)} (h : C.ext f = some x) (args : List AV) (heap : List HO) : (lim C).call f args heap = x (lim C) args heap := by
  rw [lim_call C (inferInstance : ExtC C).out]
  unfold callA
  rw [h]
def encS (s : Sb) : Dv := .agg [.slc (encs s.L), .int .i64 s.sh]
abbrev dS (s : Sb) : AV := .d (encS s)
def cel2 (s : Sb) : List AV := [dL s.L, dI s.sh]
theorem encS_eq (s : Sb) : encS s = .agg [.slc (encs s.L), .int .i64 s.sh] := rfl
theorem cells_encS (s : Sb) : AV.cells (.d (encS s)) = cel2 s := rfl
theorem fail_spec (e : Int) (h : List HO) : (lim C).call 92 [dI e] h = some (.pan (.iface 32 (.int .i64 e)), h) := by
  rw [ev_fn 92 Try.f92 _ _ _ rfl Try.func92 rfl Try.ntmps92 rfl]
  simp -implicitDefEqProofs (disch := decide +kernel) only [go_sem, ↓reduceIte, Nat.reduceSub, Nat.reduceAdd, Nat.reduceMul, Nat.reduceBEq, Nat.reduceLT, Nat.reduceLeDiff, Nat.reduceEqDiff, reduceCtorEq, Int.reduceToNat, Int.reduceLE, Int.reduceLT, Int.reduceBEq, Int.reduceBNe, mCall]
theorem of_spec (s : Sb) (i : Int) (h0 : 0 ≤ i) (hi : i ≤ 4503599627370496) (hl : s.L.length < room) (hs : 0 ≤ s.sh ∧ s.sh ≤ 4503599627370496) (hz : ∀ x ∈ s.L, x.size < room) :
    (lim C).call 95 [dS s, dI i] [] = some (.ret (dT (ofS s i)), []) := by
  have hr : room = 1099511627776 := rfl
  rw [ev_fn 95 Try.f95 _ _ _ rfl Try.func95 rfl Try.ntmps95 rfl]
  cases hlt : decide (i < (s.L.length : Int))
  · have hlt' : ¬ i < (s.L.length : Int) := by simpa using hlt
    have hw1 : IntKind.wrap .i64 (i - (s.L.length : Int)) = i - (s.L.length : Int) := wrap_ok (by omega) (by omega)
    have hw2 : IntKind.wrap .i64 (i - (s.L.length : Int) + s.sh) = i - (s.L.length : Int) + s.sh := wrap_ok (by omega) (by omega)
    have he : Dv.agg [.int .i64 4, .int .i64 (i - (s.L.length : Int) + s.sh), .slc []] = enc (ofS s i) := by
      unfold ofS; rw [if_neg hlt', enc_mk]; rfl
    simp -implicitDefEqProofs (disch := decide +kernel) only [go_sem, ↓reduceIte, Nat.reduceSub, Nat.reduceAdd, Nat.reduceMul, Nat.reduceBEq, Nat.reduceLT, Nat.reduceLeDiff, Nat.reduceEqDiff, reduceCtorEq, Int.reduceToNat, Int.reduceLE, Int.reduceLT, Int.reduceBEq, Int.reduceBNe, mCall, encS_eq, hlt, hw1, hw2, he]
  · have hlt' : i < (s.L.length : Int) := by simpa using hlt
    have hw1 : IntKind.wrap .i64 ((s.L.length : Int) - 1) = (s.L.length : Int) - 1 := wrap_ok (by omega) (by omega)
    have hw2 : IntKind.wrap .i64 ((s.L.length : Int) - 1 - i) = (s.L.length : Int) - 1 - i := wrap_ok (by omega) (by omega)
    have hge : 0 ≤ (s.L.length : Int) - 1 - i := by omega
    have hnat : ((s.L.length : Int) - 1 - i).toNat = s.L.length - 1 - i.toNat := by omega
    have hget : s.L[s.L.length - 1 - i.toNat]? = some (ofS s i) := by
      unfold ofS
      rw [if_pos hlt', List.getD_eq_getElem?_getD, List.getElem?_eq_getElem (by omega)]
      rfl
    have hmem : ofS s i ∈ s.L := List.mem_of_getElem? hget
    simp -implicitDefEqProofs (disch := decide +kernel) only [go_sem, ↓reduceIte, Nat.reduceSub, Nat.reduceAdd, Nat.reduceMul, Nat.reduceBEq, Nat.reduceLT, Nat.reduceLeDiff, Nat.reduceEqDiff, reduceCtorEq, Int.reduceToNat, Int.reduceLE, Int.reduceLT, Int.reduceBEq, Int.reduceBNe, mCall, encS_eq, hlt, hw1, hw2, hge, hnat, hget, own_spec _ (hz _ hmem)]
def und_F (s : Sb) (j : Nat) : Tm := upT (s.L.getD j default) 1 0
def und_S (s : Sb) (i : Nat) : St := mk 32 [(2, .lref 2 0), (3, .lref 3 0), (11, dL s.L), (12, dI s.L.length), (13, dI i)] [(2, [.clip [], dI 0]), (3, [acc 0 (encs (outs (und_F s) i)), dI (s.sh + 1)])] [] (accT i)
theorem und_step {s : Sb} (hm : ∀ x ∈ s.L, mayB x = true ∧ vlowB x = true) (hl : s.L.length < room) {i : Nat} (hi : i < s.L.length) :
    (lim C).code 93 (cf (.loop (cf (cf (cs (cf (cs (cs (bodyOf Try.f93))))))))) (und_S s i) = some (.nor, und_S s (i + 1)) := by
  have hr : room = 1099511627776 := rfl
  have hmem : s.L.getD i default ∈ s.L := by rw [List.getD_eq_getElem?_getD, List.getElem?_eq_getElem hi]; exact List.getElem_mem _
  obtain ⟨m1, m2⟩ := hm _ hmem
  have hsz := (may_parts m1).2.1
  obtain ⟨h, hc⟩ := sup_spec (s.L.getD i default) (by omega) m2 1 0
  rw [show renB (s.L.getD i default) 1 0 = true by unfold renB; rw [m1]; rfl, if_pos rfl] at hc
  have hln : (encs (outs (und_F s) i)).length = i := by simp [encs, outs]
  have hap := fun locs heap => mApp_acc (encs (outs (und_F s) i)) (enc (und_F s i)) 3 locs heap (by rw [hln]; omega) (encs_all _) (enc_width _)
  have hsn : encs (outs (und_F s) i) ++ [enc (und_F s i)] = encs (outs (und_F s) (i + 1)) := by unfold outs; rw [List.range_succ, List.map_append, encs_append]; rfl
  rw [hln, hsn] at hap
  have hc' : (lim C).call 79 [dT (s.L.getD i default), dI 1, dI 0] [] = some (.ret (dT (und_F s i)), h) := hc
  simp -implicitDefEqProofs (disch := decide +kernel) only [cf, cs, bodyOf, Try.f93, Option.getD_some, go_sem, ↓reduceIte, Nat.reduceSub, Nat.reduceAdd, Nat.reduceMul, Nat.reduceBEq, Nat.reduceLT, Nat.reduceLeDiff, Nat.reduceEqDiff, reduceCtorEq, Int.reduceToNat, Int.reduceLE, Int.reduceLT, Int.reduceBEq, Int.reduceBNe, mCall, und_S, cel2, acc_keep, lt_true hi, getD_get hi, hc', hap, wrap_succ (n := i) (by omega)]
theorem und_out (s : Sb) : encs (outs (und_F s) s.L.length) ++ [enc var0] = encs (underS s).L := by
  have : outs (und_F s) s.L.length = s.L.map fun x => upT x 1 0 := by
    unfold outs und_F
    refine List.ext_getElem (by simp) fun i h1 h2 => ?_
    simp at h1
    simp [List.getD_eq_getElem?_getD, h1]
  rw [this]
  simp [underS, encs_append, encs]
theorem under_spec (s : Sb) (hm : ∀ x ∈ s.L, mayB x = true ∧ vlowB x = true) (hl : s.L.length < room) (hs : 0 ≤ s.sh ∧ s.sh ≤ 4503599627370496) :
    (lim C).call 93 [dS s] [] = some (.ret (dS (underS s)), []) := by
  have hr : room = 1099511627776 := rfl
  have hw : IntKind.wrap .i64 (s.sh + 1) = s.sh + 1 := wrap_ok (by omega) (by omega)
  have hloop : (lim C).code 93 (.loop (cf (cf (cs (cf (cs (cs (bodyOf Try.f93)))))))) (und_S s 0) = some (.exit 0, mk 32 [(2, .lref 2 0), (3, .lref 3 0), (11, dL s.L), (12, dI s.L.length), (13, dI s.L.length), (14, dB false)] [(2, [.clip [], dI 0]), (3, [acc 0 (encs (outs (und_F s) s.L.length)), dI (s.sh + 1)])] [] (accT s.L.length)) := by
    refine loop_run (und_S s) s.L.length (fun i hi => und_step hm hl hi) ?_ (by simp)
    simp -implicitDefEqProofs (disch := decide +kernel) only [cf, cs, bodyOf, Try.f93, Option.getD_some, go_sem, ↓reduceIte, Nat.reduceSub, Nat.reduceAdd, Nat.reduceMul, Nat.reduceBEq, Nat.reduceLT, Nat.reduceLeDiff, Nat.reduceEqDiff, reduceCtorEq, Int.reduceToNat, Int.reduceLE, Int.reduceLT, Int.reduceBEq, Int.reduceBNe, mCall, und_S, cel2, lt_false (Nat.le_refl s.L.length)]
  have hln : (encs (outs (und_F s) s.L.length)).length = s.L.length := by simp [encs, outs]
  have hap := fun locs heap => mApp_acc (encs (outs (und_F s) s.L.length)) (enc var0) 3 locs heap (by rw [hln]; omega) (encs_all _) (enc_width _)
  rw [hln, und_out] at hap
  have hv : Dv.agg [.int .i64 4, .int .i64 0, .slc []] = enc var0 := by unfold var0; rw [enc_mk]; rfl
  have he : Dv.agg [.slc (encs (underS s).L), .int .i64 (s.sh + 1)] = encS (underS s) := rfl
  rw [ev_fn 93 Try.f93 _ _ _ rfl Try.func93 rfl Try.ntmps93 rfl]
  simp -implicitDefEqProofs (disch := decide +kernel) only [go_sem, ↓reduceIte, Nat.reduceSub, Nat.reduceAdd, Nat.reduceMul, Nat.reduceBEq, Nat.reduceLT, Nat.reduceLeDiff, Nat.reduceEqDiff, reduceCtorEq, Int.reduceToNat, Int.reduceLE, Int.reduceLT, Int.reduceBEq, Int.reduceBNe, mCall, encS_eq, hw]
  rw [loop_at hloop ?hb ?hs]
  case hb => rfl
  case hs => rfl
  simp -implicitDefEqProofs (disch := decide +kernel) only [go_sem, ↓reduceIte, Nat.reduceSub, Nat.reduceAdd, Nat.reduceMul, Nat.reduceBEq, Nat.reduceLT, Nat.reduceLeDiff, Nat.reduceEqDiff, reduceCtorEq, Int.reduceToNat, Int.reduceLE, Int.reduceLT, Int.reduceBEq, Int.reduceBNe, mCall, cel2, cells_encS, acc_keep, acc_drop, hap, hv, he, (encS_eq (underS s)).symm]

/-! ### is each of a list so? -/
def maysB (l : List Tm) : Bool := allB l.length fun i => mayB (l.getD i default)
theorem maysB_iff {l : List Tm} : maysB l = true ↔ ∀ x ∈ l, mayB x = true := by
  unfold maysB
  rw [allB_iff]
  constructor
  · intro h x hx
    obtain ⟨i, hi, rfl⟩ := List.mem_iff_getElem.1 hx
    have := h i hi
    rwa [List.getD_eq_getElem?_getD, List.getElem?_eq_getElem hi] at this
  · intro h i hi
    refine h _ ?_
    rw [List.getD_eq_getElem?_getD, List.getElem?_eq_getElem hi]; exact List.getElem_mem _
def ix_S (l : List Tm) (g : Nat) (i : Nat) : St := mk 19 [(0, dL l), (1, .fn g [] []), (7, dI l.length), (8, dI i)] [] [] []
theorem index_spec {g : Nat} (hg : C.thr.contains g = false) {l : List Tm} (hl : l.length < room) (hp : ∀ x ∈ l, ∃ h, (lim C).call g [dT x] [] = some (.ret (dB (!mayB x)), h)) :
    ∃ i : Int, (lim C).call 68 [dL l, .fn g [] []] [] = some (.ret (dI i), []) ∧ decide (i ≥ 0) = !maysB l := by
  have hr : room = 1099511627776 := rfl
  simp only [C_thr, List.contains_cons, List.contains_nil, Bool.or_false] at hg
  have hget : ∀ i, i < l.length → ∃ h, (lim C).call g [dT (l.getD i default)] [] = some (.ret (dB (!mayB (l.getD i default))), h) := fun i hi => hp _ (by
    rw [List.getD_eq_getElem?_getD, List.getElem?_eq_getElem hi]; exact List.getElem_mem _)
  have hstep : ∀ i, i < l.length → mayB (l.getD i default) = true → (lim C).code 68 (cf (.loop (cf (cf (cs (cf (cs (bodyOf Try.f68)))))))) (ix_S l g i) = some (.nor, ix_S l g (i + 1)) := fun i hi hm => by
    obtain ⟨h, hc⟩ := hget i hi
    rw [hm] at hc
    simp -implicitDefEqProofs (disch := decide +kernel) only [cf, cs, bodyOf, Try.f68, Option.getD_some, go_sem, ↓reduceIte, Nat.reduceSub, Nat.reduceAdd, Nat.reduceMul, Nat.reduceBEq, Nat.reduceLT, Nat.reduceLeDiff, Nat.reduceEqDiff, reduceCtorEq, Int.reduceToNat, Int.reduceLE, Int.reduceLT, Int.reduceBEq, Int.reduceBNe, mCall, ix_S, hg, lt_true hi, getD_get hi, hc, wrap_succ (n := i) (by omega)]
  cases hall : maysB l
  · obtain ⟨j, hj, hpj, hb⟩ := allB_first _ _ hall
    refine ⟨j, ?_, by simp⟩
    obtain ⟨h, hc⟩ := hget j hj
    rw [hpj] at hc
    have hloop : (lim C).code 68 (.loop (cf (cf (cs (cf (cs (bodyOf Try.f68))))))) (ix_S l g 0) = some (.ret, mk 19 [(4, dI j)] [] [] []) := by
      refine loop_run (ix_S l g) j (fun i hi => hstep i (by omega) (hb i hi)) ?_ (by simp)
      simp -implicitDefEqProofs (disch := decide +kernel) only [cf, cs, bodyOf, Try.f68, Option.getD_some, go_sem, ↓reduceIte, Nat.reduceSub, Nat.reduceAdd, Nat.reduceMul, Nat.reduceBEq, Nat.reduceLT, Nat.reduceLeDiff, Nat.reduceEqDiff, reduceCtorEq, Int.reduceToNat, Int.reduceLE, Int.reduceLT, Int.reduceBEq, Int.reduceBNe, mCall, ix_S, hg, lt_true hj, getD_get hj, hc]
    rw [ev_fn 68 Try.f68 _ _ _ rfl Try.func68 rfl Try.ntmps68 rfl]
    simp -implicitDefEqProofs (disch := decide +kernel) only [go_sem, ↓reduceIte, Nat.reduceSub, Nat.reduceAdd, Nat.reduceMul, Nat.reduceBEq, Nat.reduceLT, Nat.reduceLeDiff, Nat.reduceEqDiff, reduceCtorEq, Int.reduceToNat, Int.reduceLE, Int.reduceLT, Int.reduceBEq, Int.reduceBNe, mCall]
    rw [loop_at hloop ?hb ?hs]
    case hb => rfl
    case hs => rfl
    simp -implicitDefEqProofs (disch := decide +kernel) only [go_sem, ↓reduceIte, Nat.reduceSub, Nat.reduceAdd, Nat.reduceMul, Nat.reduceBEq, Nat.reduceLT, Nat.reduceLeDiff, Nat.reduceEqDiff, reduceCtorEq, Int.reduceToNat, Int.reduceLE, Int.reduceLT, Int.reduceBEq, Int.reduceBNe, mCall]
  · refine ⟨-1, ?_, by simp⟩
    have hloop : (lim C).code 68 (.loop (cf (cf (cs (cf (cs (bodyOf Try.f68))))))) (ix_S l g 0) = some (.exit 0, mk 19 [(0, dL l), (1, .fn g [] []), (7, dI l.length), (8, dI l.length), (9, dB false)] [] [] []) := by
      refine loop_run (ix_S l g) l.length (fun i hi => hstep i hi ((allB_iff _ _).1 hall i hi)) ?_ (by simp)
      simp -implicitDefEqProofs (disch := decide +kernel) only [cf, cs, bodyOf, Try.f68, Option.getD_some, go_sem, ↓reduceIte, Nat.reduceSub, Nat.reduceAdd, Nat.reduceMul, Nat.reduceBEq, Nat.reduceLT, Nat.reduceLeDiff, Nat.reduceEqDiff, reduceCtorEq, Int.reduceToNat, Int.reduceLE, Int.reduceLT, Int.reduceBEq, Int.reduceBNe, mCall, ix_S, lt_false (Nat.le_refl l.length)]
    rw [ev_fn 68 Try.f68 _ _ _ rfl Try.func68 rfl Try.ntmps68 rfl]
    simp -implicitDefEqProofs (disch := decide +kernel) only [go_sem, ↓reduceIte, Nat.reduceSub, Nat.reduceAdd, Nat.reduceMul, Nat.reduceBEq, Nat.reduceLT, Nat.reduceLeDiff, Nat.reduceEqDiff, reduceCtorEq, Int.reduceToNat, Int.reduceLE, Int.reduceLT, Int.reduceBEq, Int.reduceBNe, mCall]
    rw [loop_at hloop ?hb ?hs]
    case hb => rfl
    case hs => rfl
    simp -implicitDefEqProofs (disch := decide +kernel) only [go_sem, ↓reduceIte, Nat.reduceSub, Nat.reduceAdd, Nat.reduceMul, Nat.reduceBEq, Nat.reduceLT, Nat.reduceLeDiff, Nat.reduceEqDiff, reduceCtorEq, Int.reduceToNat, Int.reduceLE, Int.reduceLT, Int.reduceBEq, Int.reduceBNe, mCall]
theorem contains_spec {g : Nat} (hg : C.thr.contains g = false) {l : List Tm} (hl : l.length < room) (hp : ∀ x ∈ l, ∃ h, (lim C).call g [dT x] [] = some (.ret (dB (!mayB x)), h)) :
    (lim C).call 45 [dL l, .fn g [] []] [] = retB (!maysB l) := by
  obtain ⟨i, h1, h2⟩ := index_spec hg hl hp
  rw [ev_fn 45 Try.f45 _ _ _ rfl Try.func45 rfl Try.ntmps45 rfl]
  simp -implicitDefEqProofs (disch := decide +kernel) only [go_sem, ↓reduceIte, Nat.reduceSub, Nat.reduceAdd, Nat.reduceMul, Nat.reduceBEq, Nat.reduceLT, Nat.reduceLeDiff, Nat.reduceEqDiff, reduceCtorEq, Int.reduceToNat, Int.reduceLE, Int.reduceLT, Int.reduceBEq, Int.reduceBNe, mCall, h1, h2]
theorem odd1_spec (t : Tm) (hs : t.size < room) : (lim C).call 90 [dT t] [] = retB (!mayB t) := by
  rw [ev_fn 90 Try.f90 _ _ _ rfl Try.func90 rfl Try.ntmps90 rfl]
  simp -implicitDefEqProofs (disch := decide +kernel) only [go_sem, ↓reduceIte, Nat.reduceSub, Nat.reduceAdd, Nat.reduceMul, Nat.reduceBEq, Nat.reduceLT, Nat.reduceLeDiff, Nat.reduceEqDiff, reduceCtorEq, Int.reduceToNat, Int.reduceLE, Int.reduceLT, Int.reduceBEq, Int.reduceBNe, mCall, tMay_spec t hs]
def smayB (s : Sb) : Bool := decide ((s.L.length : Int) ≤ 200) && decide (s.sh ≥ 0) && decide (s.sh ≤ 1048576) && maysB s.L
theorem smayS_spec (s : Sb) (hl : s.L.length < room) (hz : ∀ x ∈ s.L, x.size < room) : (lim C).call 80 [dS s] [] = retB (smayB s) := by
  have hc := contains_spec (g := 90) (by decide +kernel) hl (fun x hx => ⟨_, odd1_spec x (hz x hx)⟩)
  unfold smayB
  rw [ev_fn 80 Try.f80 _ _ _ rfl Try.func80 rfl Try.ntmps80 rfl]
  cases h1 : decide ((s.L.length : Int) ≤ 200)
  · simp -implicitDefEqProofs (disch := decide +kernel) only [go_sem, ↓reduceIte, Nat.reduceSub, Nat.reduceAdd, Nat.reduceMul, Nat.reduceBEq, Nat.reduceLT, Nat.reduceLeDiff, Nat.reduceEqDiff, reduceCtorEq, Int.reduceToNat, Int.reduceLE, Int.reduceLT, Int.reduceBEq, Int.reduceBNe, mCall, encS_eq, hc, h1]
  · skip
    cases h2 : decide (s.sh ≥ 0)
    · simp -implicitDefEqProofs (disch := decide +kernel) only [go_sem, ↓reduceIte, Nat.reduceSub, Nat.reduceAdd, Nat.reduceMul, Nat.reduceBEq, Nat.reduceLT, Nat.reduceLeDiff, Nat.reduceEqDiff, reduceCtorEq, Int.reduceToNat, Int.reduceLE, Int.reduceLT, Int.reduceBEq, Int.reduceBNe, mCall, encS_eq, hc, h1, h2]
    · skip
      cases h3 : decide (s.sh ≤ 1048576)
      · simp -implicitDefEqProofs (disch := decide +kernel) only [go_sem, ↓reduceIte, Nat.reduceSub, Nat.reduceAdd, Nat.reduceMul, Nat.reduceBEq, Nat.reduceLT, Nat.reduceLeDiff, Nat.reduceEqDiff, reduceCtorEq, Int.reduceToNat, Int.reduceLE, Int.reduceLT, Int.reduceBEq, Int.reduceBNe, mCall, encS_eq, hc, h1, h2, h3]
      · skip
        cases h4 : maysB s.L
        · rw [h4] at hc
          simp -implicitDefEqProofs (disch := decide +kernel) only [go_sem, ↓reduceIte, Nat.reduceSub, Nat.reduceAdd, Nat.reduceMul, Nat.reduceBEq, Nat.reduceLT, Nat.reduceLeDiff, Nat.reduceEqDiff, reduceCtorEq, Int.reduceToNat, Int.reduceLE, Int.reduceLT, Int.reduceBEq, Int.reduceBNe, mCall, encS_eq, h1, h2, h3, h4, hc]
        · rw [h4] at hc
          simp -implicitDefEqProofs (disch := decide +kernel) only [go_sem, ↓reduceIte, Nat.reduceSub, Nat.reduceAdd, Nat.reduceMul, Nat.reduceBEq, Nat.reduceLT, Nat.reduceLeDiff, Nat.reduceEqDiff, reduceCtorEq, Int.reduceToNat, Int.reduceLE, Int.reduceLT, Int.reduceBEq, Int.reduceBNe, mCall, encS_eq, h1, h2, h3, h4, hc]

/-! ### two slices, one behind the other -/
def cc_sum (a b : List Tm) : Nat → Nat
  | 0 => 0
  | 1 => a.length
  | _ => a.length + b.length
def cc_acc (a b : List Tm) : Nat → List Tm
  | 0 => []
  | 1 => a
  | _ => a ++ b
abbrev cc_X (a b : List Tm) : AV := .d (.slc [.slc (encs a), .slc (encs b)])
def cc_S1 (a b : List Tm) (i : Nat) : St := mk 36 [(0, cc_X a b), (3, dI (cc_sum a b i)), (9, cc_X a b), (10, dI 2), (11, dI i)] [] [] []
def cc_S2 (a b : List Tm) (i : Nat) : St := mk 36 [(6, .own 0 (encs (cc_acc a b i))), (25, cc_X a b), (26, dI 2), (27, dI i)] [] [] [some (cc_acc a b i).length]
theorem cc_step1 {a b : List Tm} (hl : a.length + b.length < room) {i : Nat} (hi : i < 2) : (lim C).code CC (cf (.loop (cf (cf (cs (cf (cs (cs (bodyOf Try.f34))))))))) (cc_S1 a b i) = some (.nor, cc_S1 a b (i + 1)) := by
  have hr : room = 1099511627776 := rfl
  have hw1 : IntKind.wrap .i64 (a.length : Int) = (a.length : Int) := wrap_ok (by omega) (by omega)
  have hw2 : IntKind.wrap .i64 ((a.length : Int) + (b.length : Int)) = ((a.length + b.length : Nat) : Int) := by rw [wrap_ok (by omega) (by omega)]; omega
  have hn1 : decide ((a.length : Int) < 0) = false := by simp
  have hn2 : decide (((a.length + b.length : Nat) : Int) < 0) = false := by simp; omega
  have h01 : IntKind.wrap .i64 (0 + 1) = 1 := rfl
  have h12 : IntKind.wrap .i64 (1 + 1) = 2 := rfl
  have h1' : IntKind.wrap .i64 1 = 1 := rfl
  have n2 : ((2 : Nat) : Int) = 2 := rfl
  have l01 : decide ((0 : Int) < 2) = true := rfl
  have l12 : decide ((1 : Int) < 2) = true := rfl
  match i, hi with
  | 0, _ => simp -implicitDefEqProofs (disch := decide +kernel) only [cf, cs, bodyOf, Try.f34, Option.getD_some, go_sem, ↓reduceIte, Nat.reduceSub, Nat.reduceAdd, Nat.reduceMul, Nat.reduceBEq, Nat.reduceLT, Nat.reduceLeDiff, Nat.reduceEqDiff, reduceCtorEq, Int.reduceToNat, Int.reduceLE, Int.reduceLT, Int.reduceBEq, Int.reduceBNe, mCall, cc_S1, cc_sum, Int.natCast_zero, Int.natCast_one, Int.zero_add, width_slc, dcells_slc, List.head?_cons, encs_length, hw1, hn1, h01, h1', n2, l01]
  | 1, _ => simp -implicitDefEqProofs (disch := decide +kernel) only [cf, cs, bodyOf, Try.f34, Option.getD_some, go_sem, ↓reduceIte, Nat.reduceSub, Nat.reduceAdd, Nat.reduceMul, Nat.reduceBEq, Nat.reduceLT, Nat.reduceLeDiff, Nat.reduceEqDiff, reduceCtorEq, Int.reduceToNat, Int.reduceLE, Int.reduceLT, Int.reduceBEq, Int.reduceBNe, mCall, cc_S1, cc_sum, Int.natCast_zero, Int.natCast_one, width_slc, dcells_slc, List.head?_cons, encs_length, hw2, hn2, h12, h1', n2, l12]
theorem contX_nor (O : Orc) (c : Code) (σ : St) : contX O c (.nor, σ) = O.code CC c σ := rfl
theorem growK_nor (σ : St) : growK (.nor, σ) = growV σ (σ.tmps.getD 3 .undef) := rfl
theorem growV_i (σ : St) (n : Int) : growV σ (.d (.int .i64 n)) = if 0 ≤ n ∧ n ≤ 1099511627776 ∧ 24 < σ.tmps.length then
      some (.nor, { tmps := clrT [3, 9, 10, 11, 12, 23, 24] (((σ.tmps.set 23 .undef).set 24 .undef).set 6 (.own σ.mem.toks.length [])), mem := { σ.mem with locs := clrM [3, 9, 10, 11, 12, 23, 24] σ.mem.locs, toks := σ.mem.toks ++ [some 0] } }) else none := rfl
theorem cc_step2 {a b : List Tm} (hl : a.length + b.length < room) {i : Nat} (hi : i < 2) : (lim C).code CC (cf (.loop (cf (cf (cs (cf (cs (cs (cs (cs (bodyOf Try.f34))))))))))) (cc_S2 a b i) = some (.nor, cc_S2 a b (i + 1)) := by
  have hr : room = 1099511627776 := rfl
  have h01 : IntKind.wrap .i64 (0 + 1) = 1 := rfl
  have h12 : IntKind.wrap .i64 (1 + 1) = 2 := rfl
  have h1' : IntKind.wrap .i64 1 = 1 := rfl
  have n2 : ((2 : Nat) : Int) = 2 := rfl
  have l01 : decide ((0 : Int) < 2) = true := rfl
  have l12 : decide ((1 : Int) < 2) = true := rfl
  match i, hi with
  | 0, _ =>
    have ha := fun locs heap => app_more (encs ([] : List Tm)) (encs a) 3 (by simp) locs heap (by simp [encs_length]; omega) (encs_all _) (encs_all _)
    simp only [← encs_append, List.nil_append, encs_length, List.length_nil, Nat.zero_add] at ha
    simp -implicitDefEqProofs (disch := decide +kernel) only [cf, cs, bodyOf, Try.f34, Option.getD_some, go_sem, ↓reduceIte, Nat.reduceSub, Nat.reduceAdd, Nat.reduceMul, Nat.reduceBEq, Nat.reduceLT, Nat.reduceLeDiff, Nat.reduceEqDiff, reduceCtorEq, Int.reduceToNat, Int.reduceLE, Int.reduceLT, Int.reduceBEq, Int.reduceBNe, mCall, cc_S2, cc_acc, Int.natCast_zero, Int.natCast_one, width_slc, dcells_slc, List.head?_cons, ha, h01, h1', n2, l01]
  | 1, _ =>
    have ha := fun locs heap => app_more (encs a) (encs b) 3 (by simp) locs heap (by simp [encs_length]; omega) (encs_all _) (encs_all _)
    simp only [← encs_append, encs_length] at ha
    simp -implicitDefEqProofs (disch := decide +kernel) only [cf, cs, bodyOf, Try.f34, Option.getD_some, go_sem, ↓reduceIte, Nat.reduceSub, Nat.reduceAdd, Nat.reduceMul, Nat.reduceBEq, Nat.reduceLT, Nat.reduceLeDiff, Nat.reduceEqDiff, reduceCtorEq, Int.reduceToNat, Int.reduceLE, Int.reduceLT, Int.reduceBEq, Int.reduceBNe, mCall, cc_S2, cc_acc, Int.natCast_zero, Int.natCast_one, width_slc, dcells_slc, List.head?_cons, ha, h12, h1', n2, l12, List.length_append]
theorem concat_spec (a b : List Tm) (hl : a.length + b.length < room) : (lim C).call CC [cc_X a b] [] = some (.ret (dL (a ++ b)), []) := by
  have hr : room = 1099511627776 := rfl
  have l22 : decide ((2 : Int) < 2) = false := rfl
  have n2 : ((2 : Nat) : Int) = 2 := rfl
  have hloop1 : (lim C).code CC (.loop (cf (cf (cs (cf (cs (cs (bodyOf Try.f34)))))))) (cc_S1 a b 0) = some (.exit 0, mk 36 [(0, cc_X a b), (3, dI (a.length + b.length : Nat)), (9, cc_X a b), (10, dI 2), (11, dI 2), (12, dB false)] [] [] []) := by
    refine loop_run (cc_S1 a b) 2 (fun i hi => cc_step1 hl hi) ?_ (by simp)
    simp -implicitDefEqProofs (disch := decide +kernel) only [cf, cs, bodyOf, Try.f34, Option.getD_some, go_sem, ↓reduceIte, Nat.reduceSub, Nat.reduceAdd, Nat.reduceMul, Nat.reduceBEq, Nat.reduceLT, Nat.reduceLeDiff, Nat.reduceEqDiff, reduceCtorEq, Int.reduceToNat, Int.reduceLE, Int.reduceLT, Int.reduceBEq, Int.reduceBNe, mCall, cc_S1, cc_sum, l22, n2]
  have hloop2 : (lim C).code CC (.loop (cf (cf (cs (cf (cs (cs (cs (cs (bodyOf Try.f34)))))))))) (cc_S2 a b 0) = some (.exit 2, mk 36 [(6, .own 0 (encs (a ++ b))), (25, cc_X a b), (26, dI 2), (27, dI 2), (28, dB false)] [] [] [some (a ++ b).length]) := by
    refine loop_run (cc_S2 a b) 2 (fun i hi => cc_step2 hl hi) ?_ (by simp)
    simp -implicitDefEqProofs (disch := decide +kernel) only [cf, cs, bodyOf, Try.f34, Option.getD_some, go_sem, ↓reduceIte, Nat.reduceSub, Nat.reduceAdd, Nat.reduceMul, Nat.reduceBEq, Nat.reduceLT, Nat.reduceLeDiff, Nat.reduceEqDiff, reduceCtorEq, Int.reduceToNat, Int.reduceLE, Int.reduceLT, Int.reduceBEq, Int.reduceBNe, mCall, cc_S2, cc_acc, l22, n2]
  rw [ev_ext (f := CC) (x := concatX) rfl]
  unfold concatX
  rw [entry_mk Try.f34 _ _ Try.ntmps34 rfl]
  have hb : 0 ≤ ((a.length + b.length : Nat) : Int) ∧ ((a.length + b.length : Nat) : Int) ≤ 1099511627776 ∧ 24 < 36 := by omega
  simp -implicitDefEqProofs (disch := decide +kernel) only [cf, cs, bodyOf, Try.f34, Option.getD_some, go_sem, ↓reduceIte, Nat.reduceSub, Nat.reduceAdd, Nat.reduceMul, Nat.reduceBEq, Nat.reduceLT, Nat.reduceLeDiff, Nat.reduceEqDiff, reduceCtorEq, Int.reduceToNat, Int.reduceLE, Int.reduceLT, Int.reduceBEq, Int.reduceBNe, mCall, contX_nor, growK_nor, growV_i]
  rw [loop_at hloop1 ?hb ?hs]
  case hb => rfl
  case hs => rfl
  simp -implicitDefEqProofs (disch := decide +kernel) only [cf, cs, bodyOf, Try.f34, Option.getD_some, go_sem, ↓reduceIte, Nat.reduceSub, Nat.reduceAdd, Nat.reduceMul, Nat.reduceBEq, Nat.reduceLT, Nat.reduceLeDiff, Nat.reduceEqDiff, reduceCtorEq, Int.reduceToNat, Int.reduceLE, Int.reduceLT, Int.reduceBEq, Int.reduceBNe, mCall, contX_nor, growK_nor, growV_i, hb, n2]
  rw [loop_at hloop2 ?hb ?hs]
  case hb => rfl
  case hs => rfl
  simp -implicitDefEqProofs (disch := decide +kernel) only [cf, cs, bodyOf, Try.f34, Option.getD_some, go_sem, ↓reduceIte, Nat.reduceSub, Nat.reduceAdd, Nat.reduceMul, Nat.reduceBEq, Nat.reduceLT, Nat.reduceLeDiff, Nat.reduceEqDiff, reduceCtorEq, Int.reduceToNat, Int.reduceLE, Int.reduceLT, Int.reduceBEq, Int.reduceBNe, mCall, contX_nor]
end Go.Proofs.Ytkmpfdecjmnccaa
/- subst: apply and spine, gone through. -/
set_option linter.unusedSimpArgs false
set_option linter.unusedVariables false
set_option maxRecDepth 100000
namespace Go.Proofs.Ytkmpfdecjmnccaa
open Go.Proofs
abbrev errV (e : Nat) : AV := .iface 32 (.int .i64 (e : Int))
def outR (h : List HO) : R Tm → Option (CR × List HO)
  | .ok u m => some (.ret (dT u), h ++ [.var 0 [dI m]])
  | .er e m => some (.pan (errV e), h ++ [.var 0 [dI m]])
def ap_S (t : Tm) (s : Sb) (h : List HO) (xs : List Tm) (m : Nat) (i : Nat) : St :=
  mk 78 [(0, .href h.length 0), (4, .lref 4 0), (5, .lref 5 0), (6, .lref 6 0), (7, .lref 7 0), (30, dL t.args), (31, dI t.args.length), (32, dI i)]
    [(4, cel3 t), (5, cel2 s), (6, zc3), (7, [dI t.kind, dI t.head, acc 0 (encs xs)])] (h ++ [.var 0 [dI m]]) (accT xs.length)
theorem ap_step {t : Tm} {s : Sb} {h : List HO} {xs : List Tm} {m m' i : Nat} {x : Tm} (hi : i < t.args.length) (hxl : xs.length = i) (hs : t.size < room) (hm : ∀ x ∈ s.L, mayB x = true ∧ vlowB x = true) (hl : s.L.length < room) (hsh : 0 ≤ s.sh ∧ s.sh ≤ 4503599627370496)
    (hrec : (lim C).call 83 [.href h.length 0, dT (t.arg i), dS (below s t i)] (h ++ [.var 0 [dI m]]) = some (.ret (dT x), h ++ [.var 0 [dI m']])) :
    (lim C).code 83 (cf (.loop (cf (cf (cs (cf (cs (cs (cs (bodyOf Try.f83)))))))))) (ap_S t s h xs m i) = some (.nor, ap_S t s h (xs ++ [x]) m' (i + 1)) := by
  have hr : room = 1099511627776 := rfl
  have hl' := len_size t
  have hap := fun locs heap => mApp_acc (encs xs) (enc x) 3 locs heap (by rw [encs_length]; omega) (encs_all _) (enc_width _)
  have hsn : encs xs ++ [enc x] = encs (xs ++ [x]) := by rw [encs_append]; rfl
  rw [encs_length, hsn] at hap
  have hxs : (xs ++ [x]).length = xs.length + 1 := by simp
  have hw1 : IntKind.wrap .i64 ((t.args.length : Int) - 1) = (t.args.length : Int) - 1 := wrap_ok (by omega) (by omega)
  have hu := under_spec s hm hl hsh
  unfold below at hrec
  cases k1 : (t.kind == 1)
  · cases k3 : (t.kind == 3)
    · have hb : bindsB t = false := by simp [bindsB, k1, k3]
      rw [bindsB_no hb, if_neg (by decide)] at hrec
      simp -implicitDefEqProofs (disch := decide +kernel) only [cf, cs, bodyOf, Try.f83, Option.getD_some, go_sem, ↓reduceIte, Nat.reduceSub, Nat.reduceAdd, Nat.reduceMul, Nat.reduceBEq, Nat.reduceLT, Nat.reduceLeDiff, Nat.reduceEqDiff, reduceCtorEq, Int.reduceToNat, Int.reduceLE, Int.reduceLT, Int.reduceBEq, Int.reduceBNe, mCall, ap_S, cel3, cells_enc, cells_encS, cel2, zc3, acc_keep, acc_drop, (encS_eq s).symm, (encS_eq (underS s)).symm, lt_true hi, arg_get hi, getApp0, setApp0, hrec, hap, hxs, wrap_succ (n := i) (by omega), k1, k3]
    · have hb : bindsB t = true := by simp [bindsB, k1, k3]
      cases he : ((i : Int) == (t.args.length : Int) - 1)
      · rw [bindsB_not he, if_neg (by decide)] at hrec
        simp -implicitDefEqProofs (disch := decide +kernel) only [cf, cs, bodyOf, Try.f83, Option.getD_some, go_sem, ↓reduceIte, Nat.reduceSub, Nat.reduceAdd, Nat.reduceMul, Nat.reduceBEq, Nat.reduceLT, Nat.reduceLeDiff, Nat.reduceEqDiff, reduceCtorEq, Int.reduceToNat, Int.reduceLE, Int.reduceLT, Int.reduceBEq, Int.reduceBNe, mCall, ap_S, cel3, cells_enc, cells_encS, cel2, zc3, acc_keep, acc_drop, (encS_eq s).symm, (encS_eq (underS s)).symm, lt_true hi, arg_get hi, getApp0, setApp0, hrec, hap, hxs, wrap_succ (n := i) (by omega), k1, k3, hw1, he]
      · rw [bindsB_bnd hb he, if_pos rfl] at hrec
        simp -implicitDefEqProofs (disch := decide +kernel) only [cf, cs, bodyOf, Try.f83, Option.getD_some, go_sem, ↓reduceIte, Nat.reduceSub, Nat.reduceAdd, Nat.reduceMul, Nat.reduceBEq, Nat.reduceLT, Nat.reduceLeDiff, Nat.reduceEqDiff, reduceCtorEq, Int.reduceToNat, Int.reduceLE, Int.reduceLT, Int.reduceBEq, Int.reduceBNe, mCall, ap_S, cel3, cells_enc, cells_encS, cel2, zc3, acc_keep, acc_drop, (encS_eq s).symm, (encS_eq (underS s)).symm, lt_true hi, arg_get hi, getApp0, setApp0, hrec, hap, hxs, wrap_succ (n := i) (by omega), k1, k3, hw1, he, hu]
  · have hb : bindsB t = true := by simp [bindsB, k1]
    cases he : ((i : Int) == (t.args.length : Int) - 1)
    · rw [bindsB_not he, if_neg (by decide)] at hrec
      simp -implicitDefEqProofs (disch := decide +kernel) only [cf, cs, bodyOf, Try.f83, Option.getD_some, go_sem, ↓reduceIte, Nat.reduceSub, Nat.reduceAdd, Nat.reduceMul, Nat.reduceBEq, Nat.reduceLT, Nat.reduceLeDiff, Nat.reduceEqDiff, reduceCtorEq, Int.reduceToNat, Int.reduceLE, Int.reduceLT, Int.reduceBEq, Int.reduceBNe, mCall, ap_S, cel3, cells_enc, cells_encS, cel2, zc3, acc_keep, acc_drop, (encS_eq s).symm, (encS_eq (underS s)).symm, lt_true hi, arg_get hi, getApp0, setApp0, hrec, hap, hxs, wrap_succ (n := i) (by omega), k1, hw1, he]
    · rw [bindsB_bnd hb he, if_pos rfl] at hrec
      simp -implicitDefEqProofs (disch := decide +kernel) only [cf, cs, bodyOf, Try.f83, Option.getD_some, go_sem, ↓reduceIte, Nat.reduceSub, Nat.reduceAdd, Nat.reduceMul, Nat.reduceBEq, Nat.reduceLT, Nat.reduceLeDiff, Nat.reduceEqDiff, reduceCtorEq, Int.reduceToNat, Int.reduceLE, Int.reduceLT, Int.reduceBEq, Int.reduceBNe, mCall, ap_S, cel3, cells_enc, cells_encS, cel2, zc3, acc_keep, acc_drop, (encS_eq s).symm, (encS_eq (underS s)).symm, lt_true hi, arg_get hi, getApp0, setApp0, hrec, hap, hxs, wrap_succ (n := i) (by omega), k1, hw1, he, hu]
theorem clrT_nil : ∀ ps : List Nat, clrT ps [] = []
  | [] => rfl
  | p :: ps => by rw [clrT]; exact clrT_nil ps
noncomputable def ap_E (t : Tm) (s : Sb) (h : List HO) (xs : List Tm) (m : Nat) : St :=
  { tmps := [], mem := { locs := ll 78 [(4, cel3 t), (5, cel2 s), (6, zc3), (7, [dI t.kind, dI t.head, acc 0 (encs xs)])], heap := h ++ [.var 0 [dI m]], toks := accT xs.length } }
theorem ap_stop {t : Tm} {s : Sb} {h : List HO} {xs : List Tm} {m m' i e : Nat} (hi : i < t.args.length) (hxl : xs.length = i) (hs : t.size < room) (hm : ∀ x ∈ s.L, mayB x = true ∧ vlowB x = true) (hl : s.L.length < room) (hsh : 0 ≤ s.sh ∧ s.sh ≤ 4503599627370496)
    (hrec : (lim C).call 83 [.href h.length 0, dT (t.arg i), dS (below s t i)] (h ++ [.var 0 [dI m]]) = some (.pan (errV e), h ++ [.var 0 [dI m']])) :
    (lim C).code 83 (cf (.loop (cf (cf (cs (cf (cs (cs (cs (bodyOf Try.f83)))))))))) (ap_S t s h xs m i) = some (.pan (errV e), ap_E t s h xs m') := by
  have hr : room = 1099511627776 := rfl
  have hl' := len_size t
  have hw1 : IntKind.wrap .i64 ((t.args.length : Int) - 1) = (t.args.length : Int) - 1 := wrap_ok (by omega) (by omega)
  have hu := under_spec s hm hl hsh
  unfold below at hrec
  cases k1 : (t.kind == 1)
  · cases k3 : (t.kind == 3)
    · have hb : bindsB t = false := by simp [bindsB, k1, k3]
      rw [bindsB_no hb, if_neg (by decide)] at hrec
      simp -implicitDefEqProofs (disch := decide +kernel) only [cf, cs, bodyOf, Try.f83, Option.getD_some, go_sem, ↓reduceIte, Nat.reduceSub, Nat.reduceAdd, Nat.reduceMul, Nat.reduceBEq, Nat.reduceLT, Nat.reduceLeDiff, Nat.reduceEqDiff, reduceCtorEq, Int.reduceToNat, Int.reduceLE, Int.reduceLT, Int.reduceBEq, Int.reduceBNe, mCall, ap_S, ap_E, clrT_nil, cel3, cells_enc, cells_encS, cel2, zc3, acc_keep, acc_drop, (encS_eq s).symm, (encS_eq (underS s)).symm, lt_true hi, arg_get hi, getApp0, setApp0, hrec, k1, k3]
    · have hb : bindsB t = true := by simp [bindsB, k1, k3]
      cases he : ((i : Int) == (t.args.length : Int) - 1)
      · rw [bindsB_not he, if_neg (by decide)] at hrec
        simp -implicitDefEqProofs (disch := decide +kernel) only [cf, cs, bodyOf, Try.f83, Option.getD_some, go_sem, ↓reduceIte, Nat.reduceSub, Nat.reduceAdd, Nat.reduceMul, Nat.reduceBEq, Nat.reduceLT, Nat.reduceLeDiff, Nat.reduceEqDiff, reduceCtorEq, Int.reduceToNat, Int.reduceLE, Int.reduceLT, Int.reduceBEq, Int.reduceBNe, mCall, ap_S, ap_E, clrT_nil, cel3, cells_enc, cells_encS, cel2, zc3, acc_keep, acc_drop, (encS_eq s).symm, (encS_eq (underS s)).symm, lt_true hi, arg_get hi, getApp0, setApp0, hrec, k1, k3, hw1, he]
      · rw [bindsB_bnd hb he, if_pos rfl] at hrec
        simp -implicitDefEqProofs (disch := decide +kernel) only [cf, cs, bodyOf, Try.f83, Option.getD_some, go_sem, ↓reduceIte, Nat.reduceSub, Nat.reduceAdd, Nat.reduceMul, Nat.reduceBEq, Nat.reduceLT, Nat.reduceLeDiff, Nat.reduceEqDiff, reduceCtorEq, Int.reduceToNat, Int.reduceLE, Int.reduceLT, Int.reduceBEq, Int.reduceBNe, mCall, ap_S, ap_E, clrT_nil, cel3, cells_enc, cells_encS, cel2, zc3, acc_keep, acc_drop, (encS_eq s).symm, (encS_eq (underS s)).symm, lt_true hi, arg_get hi, getApp0, setApp0, hrec, k1, k3, hw1, he, hu]
  · have hb : bindsB t = true := by simp [bindsB, k1]
    cases he : ((i : Int) == (t.args.length : Int) - 1)
    · rw [bindsB_not he, if_neg (by decide)] at hrec
      simp -implicitDefEqProofs (disch := decide +kernel) only [cf, cs, bodyOf, Try.f83, Option.getD_some, go_sem, ↓reduceIte, Nat.reduceSub, Nat.reduceAdd, Nat.reduceMul, Nat.reduceBEq, Nat.reduceLT, Nat.reduceLeDiff, Nat.reduceEqDiff, reduceCtorEq, Int.reduceToNat, Int.reduceLE, Int.reduceLT, Int.reduceBEq, Int.reduceBNe, mCall, ap_S, ap_E, clrT_nil, cel3, cells_enc, cells_encS, cel2, zc3, acc_keep, acc_drop, (encS_eq s).symm, (encS_eq (underS s)).symm, lt_true hi, arg_get hi, getApp0, setApp0, hrec, k1, hw1, he]
    · rw [bindsB_bnd hb he, if_pos rfl] at hrec
      simp -implicitDefEqProofs (disch := decide +kernel) only [cf, cs, bodyOf, Try.f83, Option.getD_some, go_sem, ↓reduceIte, Nat.reduceSub, Nat.reduceAdd, Nat.reduceMul, Nat.reduceBEq, Nat.reduceLT, Nat.reduceLeDiff, Nat.reduceEqDiff, reduceCtorEq, Int.reduceToNat, Int.reduceLE, Int.reduceLT, Int.reduceBEq, Int.reduceBNe, mCall, ap_S, ap_E, clrT_nil, cel3, cells_enc, cells_encS, cel2, zc3, acc_keep, acc_drop, (encS_eq s).symm, (encS_eq (underS s)).symm, lt_true hi, arg_get hi, getApp0, setApp0, hrec, k1, hw1, he, hu]

/-! ### spine -/
theorem spn_nil (u : Tm) (l : List Tm) (hl : l = []) (n : Nat) (h : List HO) : (lim C).call 94 [.href h.length 0, dT u, dL l] (h ++ [.var 0 [dI n]]) = some (.ret (dT u), h ++ [.var 0 [dI n]]) := by
  have h0 : ((l.length : Int) == 0) = true := by rw [hl]; rfl
  have he : Dv.agg [.int .i64 u.kind, .int .i64 u.head, .slc (encs u.args)] = enc u := (enc_eq u).symm
  rw [ev_fn 94 Try.f94 _ _ _ rfl Try.func94 rfl Try.ntmps94 rfl]
  simp -implicitDefEqProofs (disch := decide +kernel) only [go_sem, ↓reduceIte, Nat.reduceSub, Nat.reduceAdd, Nat.reduceMul, Nat.reduceBEq, Nat.reduceLT, Nat.reduceLeDiff, Nat.reduceEqDiff, reduceCtorEq, Int.reduceToNat, Int.reduceLE, Int.reduceLT, Int.reduceBEq, Int.reduceBNe, mCall, cells_enc, cel3, h0, he]
theorem spn_lam {u v r a : Tm} {l rest : List Tm} {n m : Nat} {h h' : List HO} (hk : (u.kind == 3) = true) (hu : 0 < u.args.length) (hm : mayB a = true) (hsz : a.size < room) (hl : l = a :: rest) (hlen : l.length < room)
    (hrec : (lim C).call 83 [.href h.length 0, dT (u.arg 0), dS ⟨[a], 0⟩] (h ++ [.var 0 [dI n]]) = some (.ret (dT v), h ++ [.var 0 [dI m]]))
    (hsp : (lim C).call 94 [.href h.length 0, dT v, dL rest] (h ++ [.var 0 [dI m]]) = some (.ret (dT r), h')) : (lim C).call 94 [.href h.length 0, dT u, dL l] (h ++ [.var 0 [dI n]]) = some (.ret (dT r), h') := by
  have hr : room = 1099511627776 := rfl
  have h0 : ((l.length : Int) == 0) = false := by rw [hl]; simp; omega
  have ha : l[0]? = some a := by rw [hl]; rfl
  have hma := tMay_spec a hsz
  rw [hm] at hma
  have h1 : (encs l).take 1 = [enc a] := by rw [hl]; rfl
  have h2 : (encs l).drop 1 = encs rest := by rw [hl]; rfl
  have hle : 1 ≤ l.length := by rw [hl]; simp
  have h3 : (encs l).take l.length = encs l := by rw [← encs_length, List.take_length]
  have hsb : Dv.agg [.slc [enc a], .int .i64 0] = encS ⟨[a], 0⟩ := rfl
  rw [ev_fn 94 Try.f94 _ _ _ rfl Try.func94 rfl Try.ntmps94 rfl]
  simp -implicitDefEqProofs (disch := decide +kernel) only [go_sem, ↓reduceIte, Nat.reduceSub, Nat.reduceAdd, Nat.reduceMul, Nat.reduceBEq, Nat.reduceLT, Nat.reduceLeDiff, Nat.reduceEqDiff, reduceCtorEq, Int.reduceToNat, Int.reduceLE, Int.reduceLT, Int.reduceBEq, Int.reduceBNe, mCall, cells_enc, cel3, h0, hk, ha, arg_get hu, hma, h1, h2, h3, hle, encs_all, encs_length, hsb, hrec, hsp, (enc_eq r).symm]
theorem spn_lam2 {u v a : Tm} {e : Nat} {l rest : List Tm} {n m : Nat} {h h' : List HO} (hk : (u.kind == 3) = true) (hu : 0 < u.args.length) (hm : mayB a = true) (hsz : a.size < room) (hl : l = a :: rest) (hlen : l.length < room)
    (hrec : (lim C).call 83 [.href h.length 0, dT (u.arg 0), dS ⟨[a], 0⟩] (h ++ [.var 0 [dI n]]) = some (.ret (dT v), h ++ [.var 0 [dI m]]))
    (hsp : (lim C).call 94 [.href h.length 0, dT v, dL rest] (h ++ [.var 0 [dI m]]) = some (.pan (errV e), h')) : (lim C).call 94 [.href h.length 0, dT u, dL l] (h ++ [.var 0 [dI n]]) = some (.pan (errV e), h') := by
  have hr : room = 1099511627776 := rfl
  have h0 : ((l.length : Int) == 0) = false := by rw [hl]; simp; omega
  have ha : l[0]? = some a := by rw [hl]; rfl
  have hma := tMay_spec a hsz
  rw [hm] at hma
  have h1 : (encs l).take 1 = [enc a] := by rw [hl]; rfl
  have h2 : (encs l).drop 1 = encs rest := by rw [hl]; rfl
  have hle : 1 ≤ l.length := by rw [hl]; simp
  have h3 : (encs l).take l.length = encs l := by rw [← encs_length, List.take_length]
  have hsb : Dv.agg [.slc [enc a], .int .i64 0] = encS ⟨[a], 0⟩ := rfl
  rw [ev_fn 94 Try.f94 _ _ _ rfl Try.func94 rfl Try.ntmps94 rfl]
  simp -implicitDefEqProofs (disch := decide +kernel) only [go_sem, ↓reduceIte, Nat.reduceSub, Nat.reduceAdd, Nat.reduceMul, Nat.reduceBEq, Nat.reduceLT, Nat.reduceLeDiff, Nat.reduceEqDiff, reduceCtorEq, Int.reduceToNat, Int.reduceLE, Int.reduceLT, Int.reduceBEq, Int.reduceBNe, mCall, cells_enc, cel3, h0, hk, ha, arg_get hu, hma, h1, h2, h3, hle, encs_all, encs_length, hsb, hrec, hsp]
theorem spn_lam1 {u a : Tm} {e : Nat} {l rest : List Tm} {n m : Nat} {h h' : List HO} (hk : (u.kind == 3) = true) (hu : 0 < u.args.length) (hm : mayB a = true) (hsz : a.size < room) (hl : l = a :: rest) (hlen : l.length < room)
    (hrec : (lim C).call 83 [.href h.length 0, dT (u.arg 0), dS ⟨[a], 0⟩] (h ++ [.var 0 [dI n]]) = some (.pan (errV e), h')) : (lim C).call 94 [.href h.length 0, dT u, dL l] (h ++ [.var 0 [dI n]]) = some (.pan (errV e), h') := by
  have hr : room = 1099511627776 := rfl
  have h0 : ((l.length : Int) == 0) = false := by rw [hl]; simp; omega
  have ha : l[0]? = some a := by rw [hl]; rfl
  have hma := tMay_spec a hsz
  rw [hm] at hma
  have h1 : (encs l).take 1 = [enc a] := by rw [hl]; rfl
  have h2 : (encs l).drop 1 = encs rest := by rw [hl]; rfl
  have hle : 1 ≤ l.length := by rw [hl]; simp
  have h3 : (encs l).take l.length = encs l := by rw [← encs_length, List.take_length]
  have hsb : Dv.agg [.slc [enc a], .int .i64 0] = encS ⟨[a], 0⟩ := rfl
  rw [ev_fn 94 Try.f94 _ _ _ rfl Try.func94 rfl Try.ntmps94 rfl]
  simp -implicitDefEqProofs (disch := decide +kernel) only [go_sem, ↓reduceIte, Nat.reduceSub, Nat.reduceAdd, Nat.reduceMul, Nat.reduceBEq, Nat.reduceLT, Nat.reduceLeDiff, Nat.reduceEqDiff, reduceCtorEq, Int.reduceToNat, Int.reduceLE, Int.reduceLT, Int.reduceBEq, Int.reduceBNe, mCall, cells_enc, cel3, h0, hk, ha, arg_get hu, hma, h1, h2, h3, hle, encs_all, encs_length, hsb, hrec]
theorem spn_big {u a : Tm} {l rest : List Tm} {n : Nat} {h : List HO} (hk : (u.kind == 3) = true) (hm : mayB a = false) (hsz : a.size < room) (hl : l = a :: rest) : (lim C).call 94 [.href h.length 0, dT u, dL l] (h ++ [.var 0 [dI n]]) = some (.pan (errV 4), h ++ [.var 0 [dI n]]) := by
  have hr : room = 1099511627776 := rfl
  have h0 : ((l.length : Int) == 0) = false := by rw [hl]; simp; omega
  have ha : l[0]? = some a := by rw [hl]; rfl
  have hma := tMay_spec a hsz
  rw [hm] at hma
  rw [ev_fn 94 Try.f94 _ _ _ rfl Try.func94 rfl Try.ntmps94 rfl]
  simp -implicitDefEqProofs (disch := decide +kernel) only [go_sem, ↓reduceIte, Nat.reduceSub, Nat.reduceAdd, Nat.reduceMul, Nat.reduceBEq, Nat.reduceLT, Nat.reduceLeDiff, Nat.reduceEqDiff, reduceCtorEq, Int.reduceToNat, Int.reduceLE, Int.reduceLT, Int.reduceBEq, Int.reduceBNe, mCall, cells_enc, cel3, h0, hk, ha, hma, fail_spec]
  rfl
theorem spn_head {u a : Tm} {l rest : List Tm} {n : Nat} {h : List HO} (hk : heads u.kind = true) (hl : l = a :: rest) (hlen : u.args.length + l.length < room) : (lim C).call 94 [.href h.length 0, dT u, dL l] (h ++ [.var 0 [dI n]]) = some (.ret (dT (.mk u.kind u.head (u.args ++ l))), h ++ [.var 0 [dI n]]) := by
  have hr : room = 1099511627776 := rfl
  have h0 : ((l.length : Int) == 0) = false := by rw [hl]; simp; omega
  have hc := concat_spec u.args l hlen
  have he := tm_enc u.kind u.head (u.args ++ l)
  have k3 : (u.kind == 3) = false := by
    simp only [heads, Bool.or_eq_true, beq_iff_eq] at hk
    rcases hk with (hk | hk) | hk <;> rw [hk] <;> rfl
  rw [ev_fn 94 Try.f94 _ _ _ rfl Try.func94 rfl Try.ntmps94 rfl]
  cases k4 : (u.kind == 4)
  · cases k5 : (u.kind == 5)
    · have k2 : (u.kind == 2) = true := by simpa [heads, k4, k5] using hk
      simp -implicitDefEqProofs (disch := decide +kernel) only [go_sem, ↓reduceIte, Nat.reduceSub, Nat.reduceAdd, Nat.reduceMul, Nat.reduceBEq, Nat.reduceLT, Nat.reduceLeDiff, Nat.reduceEqDiff, reduceCtorEq, Int.reduceToNat, Int.reduceLE, Int.reduceLT, Int.reduceBEq, Int.reduceBNe, mCall, cells_enc, cel3, h0, k2, k3, k4, k5, hc, he]
    · simp -implicitDefEqProofs (disch := decide +kernel) only [go_sem, ↓reduceIte, Nat.reduceSub, Nat.reduceAdd, Nat.reduceMul, Nat.reduceBEq, Nat.reduceLT, Nat.reduceLeDiff, Nat.reduceEqDiff, reduceCtorEq, Int.reduceToNat, Int.reduceLE, Int.reduceLT, Int.reduceBEq, Int.reduceBNe, mCall, cells_enc, cel3, h0, k3, k4, k5, hc, he]
  · simp -implicitDefEqProofs (disch := decide +kernel) only [go_sem, ↓reduceIte, Nat.reduceSub, Nat.reduceAdd, Nat.reduceMul, Nat.reduceBEq, Nat.reduceLT, Nat.reduceLeDiff, Nat.reduceEqDiff, reduceCtorEq, Int.reduceToNat, Int.reduceLE, Int.reduceLT, Int.reduceBEq, Int.reduceBNe, mCall, cells_enc, cel3, h0, k3, k4, hc, he]
theorem spn_bad {u a : Tm} {l rest : List Tm} {n : Nat} {h : List HO} (hk : heads u.kind = false) (k3 : (u.kind == 3) = false) (hl : l = a :: rest) : (lim C).call 94 [.href h.length 0, dT u, dL l] (h ++ [.var 0 [dI n]]) = some (.pan (errV 3), h ++ [.var 0 [dI n]]) := by
  have h0 : ((l.length : Int) == 0) = false := by rw [hl]; simp; omega
  simp only [heads, Bool.or_eq_false_iff] at hk
  obtain ⟨⟨k4, k5⟩, k2⟩ := hk
  rw [ev_fn 94 Try.f94 _ _ _ rfl Try.func94 rfl Try.ntmps94 rfl]
  simp -implicitDefEqProofs (disch := decide +kernel) only [go_sem, ↓reduceIte, Nat.reduceSub, Nat.reduceAdd, Nat.reduceMul, Nat.reduceBEq, Nat.reduceLT, Nat.reduceLeDiff, Nat.reduceEqDiff, reduceCtorEq, Int.reduceToNat, Int.reduceLE, Int.reduceLT, Int.reduceBEq, Int.reduceBNe, mCall, cells_enc, cel3, h0, k2, k3, k4, k5, fail_spec]
  rfl
end Go.Proofs.Ytkmpfdecjmnccaa
/- subst: apply and spine, told whole. -/
set_option linter.unusedSimpArgs false
set_option linter.unusedVariables false
set_option maxRecDepth 100000
namespace Go.Proofs.Ytkmpfdecjmnccaa
open Go.Proofs
theorem seqF_pre {g : Nat → Nat → R Tm} {n : Nat} : ∀ {k : Nat} {xs : List Tm} {m : Nat}, seqF g n k = .ok xs m → ∀ i, i ≤ k → ∃ ys m1, seqF g n i = .ok ys m1
  | 0, xs, m, h, i, hi => by
    obtain rfl : i = 0 := by omega
    exact ⟨_, _, h⟩
  | k + 1, xs, m, h, i, hi => by
    rcases Nat.lt_or_ge k i with hk | hk
    · obtain rfl : i = k + 1 := by omega
      exact ⟨_, _, h⟩
    · obtain ⟨ys, m1, h1, _⟩ := R.bind_eq h
      exact seqF_pre h1 i hk
theorem seqF_er {g : Nat → Nat → R Tm} {n : Nat} : ∀ {k e m : Nat}, seqF g n k = .er e m → ∃ j xs mj, j < k ∧ seqF g n j = .ok xs mj ∧ g j mj = .er e m
  | 0, e, m, h => by cases h
  | k + 1, e, m, h => by
    cases hk : seqF g n k with
    | er e' m' =>
      simp only [seqF, hk, R.bind_er, R.er.injEq] at h
      obtain ⟨rfl, rfl⟩ := h
      obtain ⟨j, xs, mj, h1, h2, h3⟩ := seqF_er hk
      exact ⟨j, xs, mj, by omega, h2, h3⟩
    | ok xs mk =>
      simp only [seqF, hk, R.bind_ok] at h
      cases hg : g k mk with
      | er e' m' =>
        rw [hg, R.bind_er] at h
        simp only [R.er.injEq] at h
        obtain ⟨rfl, rfl⟩ := h
        exact ⟨k, xs, mk, by omega, hk, hg⟩
      | ok x m' => rw [hg] at h; cases h
structure Pre (f n : Nat) (K D H : Int) (t : Tm) (s : Sb) : Prop where
  fuel : 40000 ≤ n + f
  nodes : nodesB t = true
  vle : vleB K t = true
  k0 : 0 ≤ K
  kh : K ≤ H
  kd : K + D ≤ H
  sd : s.sh - s.L.length ≤ D
  ok : SOk H s
  top : H + 40001 ≤ 4503599627370496 + n
  ts : t.size < room
  sl : s.L.length + 40001 ≤ 1000000000000 + n
  ss : s.sh + 40001 ≤ 4503599627370496 + n
  nb : n ≤ 40000
def Walk (f : Nat) : Prop := ∀ (t : Tm) (s : Sb) (n : Nat) (h : List HO) (K D H : Int), Pre f n K D H t s →
  (lim C).call 83 [.href h.length 0, dT t, dS s] (h ++ [.var 0 [dI n]]) = outR h (ap f t s n)
theorem spn_walk {f : Nat} (hA : Walk f) : ∀ (args : List Tm) (u : Tm) (n : Nat) (h : List HO) (H : Int), 40000 ≤ n + f → n ≤ 40000 → nodesB u = true → vleB H u = true → 0 ≤ H → H + 40001 ≤ 4503599627370496 + n →
    (∀ x ∈ args, nodesB x = true ∧ vleB H x = true) → u.size + (args.map Tm.size).sum + (40000 - n) * 4001 < room →
    (lim C).call 94 [.href h.length 0, dT u, dL args] (h ++ [.var 0 [dI n]]) = outR h (spnA (ap f) u args n)
  | [], u, n, h, H, _, _, _, _, _, _, _, _ => spn_nil u [] rfl n h
  | a :: rest, u, n, h, H, hf, hn, hu, hv, h0, ht, ha, hz => by
    have hr : room = 1099511627776 := rfl
    obtain ⟨a1, a2⟩ := ha a (by simp)
    have hlen := len_sum (a :: rest)
    simp only [List.map_cons, List.sum_cons] at hz hlen
    have hul := len_size u
    have hsza : a.size < room := by omega
    have hlr : (a :: rest).length < room := by omega
    simp only [spnA]
    split
    · rename_i hk
      have hkb : (u.kind == 3) = true := by simpa using hk
      split
      · rename_i hm
        have hul1 : u.args.length = 1 := by
          have hnu := node_here hu
          unfold nodeOk at hnu
          simp [hk] at hnu
          exact hnu.2
        have hu0 : nodesB (u.arg 0) = true := node_args hu 0 (by omega)
        have hv0 : vleB H (u.arg 0) = true := vle_args hv 0 (by omega)
        have hs1 : SOk H ⟨[a], 0⟩ := ⟨by simpa using hm, by simpa using a2, by simp⟩
        have hsz0 := size_arg (arg_mem (t := u) (i := 0) (by omega))
        have hw := hA (u.arg 0) ⟨[a], 0⟩ n h H (-1) H ⟨hf, hu0, hv0, h0, Int.le_refl _, by omega, by simp, hs1, ht, by omega, by simp; omega, by simp; omega, hn⟩
        cases hap : ap f (u.arg 0) ⟨[a], 0⟩ n with
        | er e m =>
          rw [hap] at hw
          rw [R.bind_er]
          exact spn_lam1 (m := m) (h' := h ++ [.var 0 [dI m]]) hkb (by omega) hm (rest := rest) hsza rfl hlr hw
        | ok v m =>
          rw [hap] at hw
          rw [R.bind_ok]
          obtain ⟨_, hft⟩ := ap_fits f (u.arg 0) ⟨[a], 0⟩ n H (-1) H v m hu0 hv0 h0 (Int.le_refl _) (by omega) (by simp) hs1 hap
          have q1 := hft.lt
          have q2 := hft.lim
          have q3 := hft.size
          have q4 : (40000 - n) * 4001 = (m - n) * 4001 + (40000 - m) * 4001 := by rw [← Nat.add_mul]; congr 1; omega
          have ih := spn_walk hA rest v m h (H + ((m - n : Nat) : Int)) (by omega) q2 hft.nodes hft.vle (by omega) (by omega) (fun x hx => ⟨(ha x (by simp [hx])).1, vle_mono (by omega) (ha x (by simp [hx])).2⟩) (by omega)
          cases hsp : spnA (ap f) v rest m with
          | er e m' =>
            rw [hsp] at ih
            exact spn_lam2 hkb (by omega) hm (rest := rest) hsza rfl hlr hw ih
          | ok r m' =>
            rw [hsp] at ih
            exact spn_lam hkb (by omega) hm (rest := rest) hsza rfl hlr hw ih
      · rename_i hm
        exact spn_big hkb (by simpa using hm) hsza rfl
    · rename_i hk
      have hkb : (u.kind == 3) = false := by simpa using hk
      split
      · rename_i hh
        exact spn_head (rest := rest) hh rfl (by omega)
      · rename_i hh
        exact spn_bad (by simpa using hh) hkb rfl

/-! ### apply -/
theorem ap_over {t : Tm} {s : Sb} {n : Nat} {h : List HO} (hn : n + 1 > 40000) (hn2 : n < 9223372036854775807) : (lim C).call 83 [.href h.length 0, dT t, dS s] (h ++ [.var 0 [dI n]]) = some (.pan (errV 4), h ++ [.var 0 [dI (n + 1 : Nat)]]) := by
  have hgt : decide (((n + 1 : Nat) : Int) > 40000) = true := by simp; omega
  rw [ev_fn 83 Try.f83 _ _ _ rfl Try.func83 rfl Try.ntmps83 rfl]
  simp -implicitDefEqProofs (disch := decide +kernel) only [go_sem, ↓reduceIte, Nat.reduceSub, Nat.reduceAdd, Nat.reduceMul, Nat.reduceBEq, Nat.reduceLT, Nat.reduceLeDiff, Nat.reduceEqDiff, reduceCtorEq, Int.reduceToNat, Int.reduceLE, Int.reduceLT, Int.reduceBEq, Int.reduceBNe, mCall, cells_enc, cells_encS, cel3, cel2, getApp0, setApp0, wrap_succ hn2, hgt, fail_spec]
  rfl
def ap_X (t : Tm) (s : Sb) (h : List HO) (xs : List Tm) (m : Nat) : St :=
  mk 78 [(0, .href h.length 0), (4, .lref 4 0), (5, .lref 5 0), (6, .lref 6 0), (7, .lref 7 0), (30, dL t.args), (31, dI t.args.length), (32, dI t.args.length), (33, dB false)]
    [(4, cel3 t), (5, cel2 s), (6, zc3), (7, [dI t.kind, dI t.head, acc 0 (encs xs)])] (h ++ [.var 0 [dI m]]) (accT xs.length)
theorem ap_pan {t : Tm} {s : Sb} {n m e : Nat} {h : List HO} {xs : List Tm} (hn : n + 1 ≤ 40000) (hloop : (lim C).code 83 (.loop (cf (cf (cs (cf (cs (cs (cs (bodyOf Try.f83))))))))) (ap_S t s h [] (n + 1) 0) = some (.pan (errV e), ap_E t s h xs m)) : (lim C).call 83 [.href h.length 0, dT t, dS s] (h ++ [.var 0 [dI n]]) = some (.pan (errV e), h ++ [.var 0 [dI m]]) := by
  have hgt : decide (((n + 1 : Nat) : Int) > 40000) = false := by simp; omega
  rw [ev_fn 83 Try.f83 _ _ _ rfl Try.func83 rfl Try.ntmps83 rfl]
  simp -implicitDefEqProofs (disch := decide +kernel) only [go_sem, ↓reduceIte, Nat.reduceSub, Nat.reduceAdd, Nat.reduceMul, Nat.reduceBEq, Nat.reduceLT, Nat.reduceLeDiff, Nat.reduceEqDiff, reduceCtorEq, Int.reduceToNat, Int.reduceLE, Int.reduceLT, Int.reduceBEq, Int.reduceBNe, mCall, cells_enc, cells_encS, cel3, cel2, getApp0, setApp0, wrap_succ (n := n) (by omega), hgt]
  rw [loop_at hloop ?hb ?hs]
  case hb => rfl
  case hs => rfl
  simp -implicitDefEqProofs (disch := decide +kernel) only [go_sem, ↓reduceIte, Nat.reduceSub, Nat.reduceAdd, Nat.reduceMul, Nat.reduceBEq, Nat.reduceLT, Nat.reduceLeDiff, Nat.reduceEqDiff, reduceCtorEq, Int.reduceToNat, Int.reduceLE, Int.reduceLT, Int.reduceBEq, Int.reduceBNe, mCall, ap_E]
theorem ap_ret {t : Tm} {s : Sb} {n m : Nat} {h : List HO} {xs : List Tm} (hn : n + 1 ≤ 40000) (k4 : (t.kind == 4) = false) (hloop : (lim C).code 83 (.loop (cf (cf (cs (cf (cs (cs (cs (bodyOf Try.f83))))))))) (ap_S t s h [] (n + 1) 0) = some (.exit 0, ap_X t s h xs m)) : (lim C).call 83 [.href h.length 0, dT t, dS s] (h ++ [.var 0 [dI n]]) = some (.ret (dT (.mk t.kind t.head xs)), h ++ [.var 0 [dI m]]) := by
  have k4' : (t.kind != 4) = true := by simp [bne, k4]
  have he := tm_enc t.kind t.head xs
  have hgt : decide (((n + 1 : Nat) : Int) > 40000) = false := by simp; omega
  rw [ev_fn 83 Try.f83 _ _ _ rfl Try.func83 rfl Try.ntmps83 rfl]
  simp -implicitDefEqProofs (disch := decide +kernel) only [go_sem, ↓reduceIte, Nat.reduceSub, Nat.reduceAdd, Nat.reduceMul, Nat.reduceBEq, Nat.reduceLT, Nat.reduceLeDiff, Nat.reduceEqDiff, reduceCtorEq, Int.reduceToNat, Int.reduceLE, Int.reduceLT, Int.reduceBEq, Int.reduceBNe, mCall, cells_enc, cells_encS, cel3, cel2, getApp0, setApp0, wrap_succ (n := n) (by omega), hgt]
  rw [loop_at hloop ?hb ?hs]
  case hb => rfl
  case hs => rfl
  simp -implicitDefEqProofs (disch := decide +kernel) only [go_sem, ↓reduceIte, Nat.reduceSub, Nat.reduceAdd, Nat.reduceMul, Nat.reduceBEq, Nat.reduceLT, Nat.reduceLeDiff, Nat.reduceEqDiff, reduceCtorEq, Int.reduceToNat, Int.reduceLE, Int.reduceLT, Int.reduceBEq, Int.reduceBNe, mCall, ap_X, zc3, cel3, k4', acc_keep, acc_drop, he]
theorem ap_var {t : Tm} {s : Sb} {n m : Nat} {h h' : List HO} {xs : List Tm} {r : Tm} (hn : n + 1 ≤ 40000) (k4 : (t.kind == 4) = true) (hloop : (lim C).code 83 (.loop (cf (cf (cs (cf (cs (cs (cs (bodyOf Try.f83))))))))) (ap_S t s h [] (n + 1) 0) = some (.exit 0, ap_X t s h xs m))
    (hof : (lim C).call 95 [dS s, dI t.head] [] = some (.ret (dT (ofS s t.head)), []))
    (hsp : (lim C).call 94 [.href h.length 0, dT (ofS s t.head), dL xs] (h ++ [.var 0 [dI m]]) = some (.ret (dT r), h')) : (lim C).call 83 [.href h.length 0, dT t, dS s] (h ++ [.var 0 [dI n]]) = some (.ret (dT r), h') := by
  have k4' : (t.kind != 4) = false := by simp [bne, k4]
  have hgt : decide (((n + 1 : Nat) : Int) > 40000) = false := by simp; omega
  rw [ev_fn 83 Try.f83 _ _ _ rfl Try.func83 rfl Try.ntmps83 rfl]
  simp -implicitDefEqProofs (disch := decide +kernel) only [go_sem, ↓reduceIte, Nat.reduceSub, Nat.reduceAdd, Nat.reduceMul, Nat.reduceBEq, Nat.reduceLT, Nat.reduceLeDiff, Nat.reduceEqDiff, reduceCtorEq, Int.reduceToNat, Int.reduceLE, Int.reduceLT, Int.reduceBEq, Int.reduceBNe, mCall, cells_enc, cells_encS, cel3, cel2, getApp0, setApp0, wrap_succ (n := n) (by omega), hgt]
  rw [loop_at hloop ?hb ?hs]
  case hb => rfl
  case hs => rfl
  simp -implicitDefEqProofs (disch := decide +kernel) only [go_sem, ↓reduceIte, Nat.reduceSub, Nat.reduceAdd, Nat.reduceMul, Nat.reduceBEq, Nat.reduceLT, Nat.reduceLeDiff, Nat.reduceEqDiff, reduceCtorEq, Int.reduceToNat, Int.reduceLE, Int.reduceLT, Int.reduceBEq, Int.reduceBNe, mCall, ap_X, zc3, cel3, cel2, (encS_eq s).symm, cells_enc, k4', acc_keep, acc_drop, hof, hsp, (enc_eq r).symm]
theorem ap_var2 {t : Tm} {s : Sb} {n m e : Nat} {h h' : List HO} {xs : List Tm} (hn : n + 1 ≤ 40000) (k4 : (t.kind == 4) = true) (hloop : (lim C).code 83 (.loop (cf (cf (cs (cf (cs (cs (cs (bodyOf Try.f83))))))))) (ap_S t s h [] (n + 1) 0) = some (.exit 0, ap_X t s h xs m))
    (hof : (lim C).call 95 [dS s, dI t.head] [] = some (.ret (dT (ofS s t.head)), []))
    (hsp : (lim C).call 94 [.href h.length 0, dT (ofS s t.head), dL xs] (h ++ [.var 0 [dI m]]) = some (.pan (errV e), h')) : (lim C).call 83 [.href h.length 0, dT t, dS s] (h ++ [.var 0 [dI n]]) = some (.pan (errV e), h') := by
  have k4' : (t.kind != 4) = false := by simp [bne, k4]
  have hgt : decide (((n + 1 : Nat) : Int) > 40000) = false := by simp; omega
  rw [ev_fn 83 Try.f83 _ _ _ rfl Try.func83 rfl Try.ntmps83 rfl]
  simp -implicitDefEqProofs (disch := decide +kernel) only [go_sem, ↓reduceIte, Nat.reduceSub, Nat.reduceAdd, Nat.reduceMul, Nat.reduceBEq, Nat.reduceLT, Nat.reduceLeDiff, Nat.reduceEqDiff, reduceCtorEq, Int.reduceToNat, Int.reduceLE, Int.reduceLT, Int.reduceBEq, Int.reduceBNe, mCall, cells_enc, cells_encS, cel3, cel2, getApp0, setApp0, wrap_succ (n := n) (by omega), hgt]
  rw [loop_at hloop ?hb ?hs]
  case hb => rfl
  case hs => rfl
  simp -implicitDefEqProofs (disch := decide +kernel) only [go_sem, ↓reduceIte, Nat.reduceSub, Nat.reduceAdd, Nat.reduceMul, Nat.reduceBEq, Nat.reduceLT, Nat.reduceLeDiff, Nat.reduceEqDiff, reduceCtorEq, Int.reduceToNat, Int.reduceLE, Int.reduceLT, Int.reduceBEq, Int.reduceBNe, mCall, ap_X, zc3, cel3, cel2, (encS_eq s).symm, cells_enc, k4', acc_keep, acc_drop, hof, hsp]
def ap_SS (t : Tm) (s : Sb) (h : List HO) (g : Nat → Nat → R Tm) (n i : Nat) : St := match seqF g n i with
  | .ok xs m => ap_S t s h xs m i
  | .er _ _ => ap_S t s h [] n i
theorem ap_walk : ∀ f : Nat, Walk f
  | 0 => fun t s n h K D H p => by
    have h1 := p.fuel
    have h2 := p.nb
    rw [ap_zero]
    exact ap_over (by omega) (by omega)
  | f + 1 => fun t s n h K D H p => by
    have hr : room = 1099511627776 := rfl
    have ih := ap_walk f
    have hfu := p.fuel
    have htop := p.top
    have hsl := p.sl
    have hss := p.ss
    have hts := p.ts
    have hkh := p.kh
    have hkd := p.kd
    have hk0 := p.k0
    have hl' := len_size t
    rw [ap_succ]
    by_cases hn : n + 1 > 40000
    · rw [if_pos hn]
      exact ap_over hn (by have := p.nb; omega)
    rw [if_neg hn]
    have hm : ∀ x ∈ s.L, mayB x = true ∧ vlowB x = true := fun x hx => ⟨p.ok.may x hx, vle_mono (by omega) (p.ok.vle x hx)⟩
    have hsh := p.ok.sh
    -- each round
    have hpre : ∀ i, i < t.args.length → ∀ xs m, seqF (fun i m => ap f (t.arg i) (below s t i) m) (n + 1) i = .ok xs m → n + 1 ≤ m ∧ m ≤ 40000 ∧ Pre f m K D (H + 1) (t.arg i) (below s t i) := by
      intro i hi xs m he
      obtain ⟨q1, q2, _, _⟩ := seq_fits (H := H) t.args.length (fun i hi m x m' hm hx => by
        obtain ⟨b1, b2⟩ := below_ok (t := t) (i := i) p.ok (by omega) p.sd
        exact ap_fits f _ _ m K D (H + 1) x m' (node_args p.nodes i hi) (vle_args p.vle i hi) hk0 (by omega) (by omega) b2 b1 hx) (by omega) i (by omega) xs m he
      obtain ⟨b1, b2⟩ := below_ok (t := t) (i := i) p.ok (by omega) p.sd
      have hsz := size_arg (arg_mem hi)
      refine ⟨q1, q2, by omega, node_args p.nodes i hi, vle_args p.vle i hi, hk0, by omega, by omega, b2, b1, by omega, by omega, ?_, ?_, q2⟩
      · unfold below
        split
        · rw [under_len]; omega
        · omega
      · unfold below
        split
        · simp only [underS]; omega
        · omega
    have hstep : ∀ i, i < t.args.length → (∃ ys m', seqF (fun i m => ap f (t.arg i) (below s t i) m) (n + 1) (i + 1) = .ok ys m') →
        (lim C).code 83 (cf (.loop (cf (cf (cs (cf (cs (cs (cs (bodyOf Try.f83)))))))))) (ap_SS t s h (fun i m => ap f (t.arg i) (below s t i) m) (n + 1) i) = some (.nor, ap_SS t s h (fun i m => ap f (t.arg i) (below s t i) m) (n + 1) (i + 1)) := by
      rintro i hi ⟨ys, m', he⟩
      obtain ⟨xs, m, h1, h2⟩ := R.bind_eq he
      obtain ⟨x, m2, h3, h4⟩ := R.bind_eq h2
      cases h4
      obtain ⟨q1, q2, q3⟩ := hpre i hi xs m h1
      have hrec := ih _ _ m h _ _ _ q3
      have h3' : ap f (t.arg i) (below s t i) m = .ok x m' := h3
      rw [h3'] at hrec
      have hxl := seqF_len _ _ _ _ _ h1
      unfold ap_SS
      rw [h1, he]
      exact ap_step hi hxl hts hm (by omega) ⟨hsh, by omega⟩ hrec
    have hS0 : ap_SS t s h (fun i m => ap f (t.arg i) (below s t i) m) (n + 1) 0 = ap_S t s h [] (n + 1) 0 := rfl
    cases hseq : seqF (fun i m => ap f (t.arg i) (below s t i) m) (n + 1) t.args.length with
    | er e m =>
      rw [R.bind_er]
      obtain ⟨j, xs, mj, hj, h1, h2⟩ := seqF_er hseq
      obtain ⟨q1, q2, q3⟩ := hpre j hj xs mj h1
      have hrec := ih _ _ mj h _ _ _ q3
      have h2' : ap f (t.arg j) (below s t j) mj = .er e m := h2
      rw [h2'] at hrec
      have hxl := seqF_len _ _ _ _ _ h1
      refine ap_pan (xs := xs) (by omega) ?_
      rw [← hS0]
      refine loop_run (ap_SS t s h (fun i m => ap f (t.arg i) (below s t i) m) (n + 1)) j (fun i hi => hstep i (by omega) (seqF_pre h1 (i + 1) (by omega))) ?_ (by simp)
      have : ap_SS t s h (fun i m => ap f (t.arg i) (below s t i) m) (n + 1) j = ap_S t s h xs mj j := by unfold ap_SS; rw [h1]
      rw [this]
      exact ap_stop hj hxl hts hm (by omega) ⟨hsh, by omega⟩ hrec
    | ok xs m =>
      rw [R.bind_ok]
      have hxl := seqF_len _ _ _ _ _ hseq
      have hloop : (lim C).code 83 (.loop (cf (cf (cs (cf (cs (cs (cs (bodyOf Try.f83))))))))) (ap_S t s h [] (n + 1) 0) = some (.exit 0, ap_X t s h xs m) := by
        rw [← hS0]
        refine loop_run (ap_SS t s h (fun i m => ap f (t.arg i) (below s t i) m) (n + 1)) t.args.length (fun i hi => hstep i hi (seqF_pre hseq (i + 1) (by omega))) ?_ (by simp)
        have : ap_SS t s h (fun i m => ap f (t.arg i) (below s t i) m) (n + 1) t.args.length = ap_S t s h xs m t.args.length := by unfold ap_SS; rw [hseq]
        rw [this]
        simp -implicitDefEqProofs (disch := decide +kernel) only [cf, cs, bodyOf, Try.f83, Option.getD_some, go_sem, ↓reduceIte, Nat.reduceSub, Nat.reduceAdd, Nat.reduceMul, Nat.reduceBEq, Nat.reduceLT, Nat.reduceLeDiff, Nat.reduceEqDiff, reduceCtorEq, Int.reduceToNat, Int.reduceLE, Int.reduceLT, Int.reduceBEq, Int.reduceBNe, mCall, ap_S, ap_X, lt_false (Nat.le_refl t.args.length)]
      obtain ⟨q1, q2, q3, q4⟩ := seq_fits (H := H) t.args.length (fun i hi m x m' hm hx => by
        obtain ⟨b1, b2⟩ := below_ok (t := t) (i := i) p.ok (by omega) p.sd
        exact ap_fits f _ _ m K D (H + 1) x m' (node_args p.nodes i hi) (vle_args p.vle i hi) hk0 (by omega) (by omega) b2 b1 hx) (by omega) _ (Nat.le_refl _) xs m hseq
      by_cases hk : t.kind = 4
      · rw [if_pos hk]
        have hkb : (t.kind == 4) = true := by simpa using hk
        have hh0 := node_head (node_here p.nodes)
        have hh1 := vle_here p.vle hk
        obtain ⟨o1, o2, o3⟩ := of_ok p.ok hh0 hh1 p.sd hkd
        have hof := of_spec s t.head hh0 (by omega) (by omega) ⟨hsh, by omega⟩ (fun x hx => by have := (may_parts (p.ok.may x hx)).2.1; omega)
        have q5 : (m - (n + 1)) * 4001 + (40000 - m) * 4001 ≤ 40000 * 4001 := by rw [← Nat.add_mul]; exact Nat.mul_le_mul_right _ (by omega)
        have hsp := spn_walk ih xs (ofS s t.head) m h (H + 1 + ((m - (n + 1) : Nat) : Int)) (by omega) q2 o1 (vle_mono (by omega) o2) (by omega) (by omega) q3 (by omega)
        cases hs : spnA (ap f) (ofS s t.head) xs m with
        | ok r m' => rw [hs] at hsp; exact ap_var (by omega) hkb hloop hof hsp
        | er e m' => rw [hs] at hsp; exact ap_var2 (by omega) hkb hloop hof hsp
      · rw [if_neg hk]
        exact ap_ret (by omega) (by simpa using hk) hloop
end Go.Proofs.Ytkmpfdecjmnccaa
/- subst: done, Apply, Spine. -/
set_option linter.unusedSimpArgs false
set_option linter.unusedVariables false
set_option maxRecDepth 100000
namespace Go.Proofs.Ytkmpfdecjmnccaa
open Go.Proofs
theorem done0_eq (x : AV) (a b : HO) : done0 x [a, b] = mk 14 [(0, x), (2, .href 2 0), (3, .href 3 0), (4, .undef)] [] [a, b, .var 0 zTerm, .var 0 [dI 0]] [] := rfl
theorem doneX_eq (O : Orc) (x : AV) (heap : List HO) : doneX O [x] heap = (O.code 81 (cs (cs (bodyOf Try.f81))) (done0 x heap)).bind (doneEnd heap.length) := rfl
theorem doneEnd_ret (n : Nat) (σ : St) : doneEnd n (.ret, σ) = leave Try.prog Try.f81 (.ret, σ) := rfl
theorem doneEnd_pan (n : Nat) (e : Int) (σ : St) : doneEnd n (.pan (.iface 32 (.int .i64 e)), σ) = recK n e σ.mem.heap (σ.tmps.getD 2 .undef) (σ.tmps.getD 3 .undef) (σ.mem.heap[n]?) (σ.mem.heap[n + 1]?) := rfl
theorem recK_s (n : Nat) (e : Int) (h : List HO) (u v : Nat) (a b c d : AV) : recK n e h (.href n 0) (.href (n + 1) 0) (some (.var u [a, b, c])) (some (.var v [d])) = some (.ret (.tup [.d (.agg [.int .i64 0, .int .i64 0, .slc []]), .d (.int .i64 e)]), (h.set n (.var u zTerm)).set (n + 1) (.var v [.d (.int .i64 e)])) := by
  simp [recK]
def outD : R Tm → Tm × Int
  | .ok u m => if mayB u then (u, 0) else (zT, 4)
  | .er e m => (zT, e)
theorem done_ok {g : Nat} {a b : List AV} {u : Tm} {m : Nat} (hs : u.size < room) (hm : mayB u = true)
    (hdo : (lim C).call g [.href 4 0, .href 0 0, .href 1 0] [.var 0 a, .var 0 b, .var 0 zTerm, .var 0 [dI 0], .var 0 [dI 0]] = some (.ret (dT u), [.var 0 a, .var 0 b, .var 0 zTerm, .var 0 [dI 0], .var 0 [dI m]])) :
    (lim C).call 81 [.fn g [] [.href 0 0, .href 1 0]] [.var 0 a, .var 0 b] = some (.ret (.tup [dT u, dI 0]), [.var 0 a, .var 0 b, .var 0 (cel3 u), .var 0 [dI 0], .var 0 [dI m]]) := by
  have hma := tMay_spec u hs
  rw [hm] at hma
  rw [ev_ext (f := 81) (x := doneX) rfl, doneX_eq, done0_eq]
  unfold zTerm at hdo
  simp -implicitDefEqProofs (disch := decide +kernel) only [cf, cs, bodyOf, Try.f81, Option.getD_some, go_sem, ↓reduceIte, Nat.reduceSub, Nat.reduceAdd, Nat.reduceMul, Nat.reduceBEq, Nat.reduceLT, Nat.reduceLeDiff, Nat.reduceEqDiff, reduceCtorEq, Int.reduceToNat, Int.reduceLE, Int.reduceLT, Int.reduceBEq, Int.reduceBNe, mCall, zTerm, cells_enc, cel3, hdo, hma, doneEnd_ret, (enc_eq u).symm]
theorem done_big {g : Nat} {a b : List AV} {u : Tm} {m : Nat} (hs : u.size < room) (hm : mayB u = false)
    (hdo : (lim C).call g [.href 4 0, .href 0 0, .href 1 0] [.var 0 a, .var 0 b, .var 0 zTerm, .var 0 [dI 0], .var 0 [dI 0]] = some (.ret (dT u), [.var 0 a, .var 0 b, .var 0 zTerm, .var 0 [dI 0], .var 0 [dI m]])) :
    (lim C).call 81 [.fn g [] [.href 0 0, .href 1 0]] [.var 0 a, .var 0 b] = some (.ret (.tup [dT zT, dI 4]), [.var 0 a, .var 0 b, .var 0 zTerm, .var 0 [dI 4], .var 0 [dI m]]) := by
  have hma := tMay_spec u hs
  rw [hm] at hma
  rw [ev_ext (f := 81) (x := doneX) rfl, doneX_eq, done0_eq]
  unfold zTerm at hdo
  simp -implicitDefEqProofs (disch := decide +kernel) only [cf, cs, bodyOf, Try.f81, Option.getD_some, go_sem, ↓reduceIte, Nat.reduceSub, Nat.reduceAdd, Nat.reduceMul, Nat.reduceBEq, Nat.reduceLT, Nat.reduceLeDiff, Nat.reduceEqDiff, reduceCtorEq, Int.reduceToNat, Int.reduceLE, Int.reduceLT, Int.reduceBEq, Int.reduceBNe, mCall, zTerm, cells_enc, cel3, hdo, hma, fail_spec, doneEnd_pan, recK_s, zT_enc]
theorem done_er {g : Nat} {a b : List AV} {e m : Nat}
    (hdo : (lim C).call g [.href 4 0, .href 0 0, .href 1 0] [.var 0 a, .var 0 b, .var 0 zTerm, .var 0 [dI 0], .var 0 [dI 0]] = some (.pan (errV e), [.var 0 a, .var 0 b, .var 0 zTerm, .var 0 [dI 0], .var 0 [dI m]])) :
    (lim C).call 81 [.fn g [] [.href 0 0, .href 1 0]] [.var 0 a, .var 0 b] = some (.ret (.tup [dT zT, dI e]), [.var 0 a, .var 0 b, .var 0 zTerm, .var 0 [dI e], .var 0 [dI m]]) := by
  rw [ev_ext (f := 81) (x := doneX) rfl, doneX_eq, done0_eq]
  unfold zTerm at hdo
  simp -implicitDefEqProofs (disch := decide +kernel) only [cf, cs, bodyOf, Try.f81, Option.getD_some, go_sem, ↓reduceIte, Nat.reduceSub, Nat.reduceAdd, Nat.reduceMul, Nat.reduceBEq, Nat.reduceLT, Nat.reduceLeDiff, Nat.reduceEqDiff, reduceCtorEq, Int.reduceToNat, Int.reduceLE, Int.reduceLT, Int.reduceBEq, Int.reduceBNe, mCall, zTerm, cells_enc, cel3, hdo, doneEnd_pan, recK_s, zT_enc]
theorem done_spec {g : Nat} {a b : List AV} {r : R Tm} (hs : ∀ u m, r = .ok u m → u.size < room)
    (hdo : (lim C).call g [.href 4 0, .href 0 0, .href 1 0] [.var 0 a, .var 0 b, .var 0 zTerm, .var 0 [dI 0], .var 0 [dI 0]] = outR [.var 0 a, .var 0 b, .var 0 zTerm, .var 0 [dI 0]] r) :
    ∃ h, (lim C).call 81 [.fn g [] [.href 0 0, .href 1 0]] [.var 0 a, .var 0 b] = some (.ret (.tup [dT (outD r).1, dI (outD r).2]), h) := by
  cases r with
  | ok u m =>
    cases hm : mayB u
    · exact ⟨_, by simp only [outD, hm]; exact done_big (hs u m rfl) hm hdo⟩
    · exact ⟨_, by simp only [outD, hm]; exact done_ok (hs u m rfl) hm hdo⟩
  | er e m => exact ⟨_, done_er hdo⟩
def applyR (t : Tm) (s : Sb) : Tm × Int := if mayB t && smayB s then outD (ap 40000 t s 0) else (zT, 1)
theorem ap1_spec {t : Tm} {s : Sb} {r : R Tm}
    (hw : (lim C).call 83 [.href 4 0, dT t, dS s] [.var 0 (cel3 t), .var 0 (cel2 s), .var 0 zTerm, .var 0 [dI 0], .var 0 [dI 0]] = outR [.var 0 (cel3 t), .var 0 (cel2 s), .var 0 zTerm, .var 0 [dI 0]] r) :
    (lim C).call 82 [.href 4 0, .href 0 0, .href 1 0] [.var 0 (cel3 t), .var 0 (cel2 s), .var 0 zTerm, .var 0 [dI 0], .var 0 [dI 0]] = outR [.var 0 (cel3 t), .var 0 (cel2 s), .var 0 zTerm, .var 0 [dI 0]] r := by
  have he := (enc_eq t).symm
  have hes := (encS_eq s).symm
  rw [ev_fn 82 Try.f82 _ _ _ rfl Try.func82 rfl Try.ntmps82 rfl]
  simp only [zTerm, cel3, cel2] at hw ⊢
  cases r with
  | ok u m =>
    simp only [outR] at hw ⊢
    simp -implicitDefEqProofs (disch := decide +kernel) only [go_sem, ↓reduceIte, Nat.reduceSub, Nat.reduceAdd, Nat.reduceMul, Nat.reduceBEq, Nat.reduceLT, Nat.reduceLeDiff, Nat.reduceEqDiff, reduceCtorEq, Int.reduceToNat, Int.reduceLE, Int.reduceLT, Int.reduceBEq, Int.reduceBNe, mCall, he, hes, hw, (enc_eq u).symm, cells_enc, cel3]
  | er e m =>
    simp only [outR] at hw ⊢
    simp -implicitDefEqProofs (disch := decide +kernel) only [go_sem, ↓reduceIte, Nat.reduceSub, Nat.reduceAdd, Nat.reduceMul, Nat.reduceBEq, Nat.reduceLT, Nat.reduceLeDiff, Nat.reduceEqDiff, reduceCtorEq, Int.reduceToNat, Int.reduceLE, Int.reduceLT, Int.reduceBEq, Int.reduceBNe, mCall, he, hes, hw]

theorem smay_parts {s : Sb} (h : smayB s = true) : s.L.length ≤ 200 ∧ 0 ≤ s.sh ∧ s.sh ≤ 1048576 ∧ ∀ x ∈ s.L, mayB x = true := by
  unfold smayB at h
  simp only [Bool.and_eq_true, decide_eq_true_eq] at h
  obtain ⟨⟨⟨h1, h2⟩, h3⟩, h4⟩ := h
  exact ⟨by omega, h2, h3, maysB_iff.1 h4⟩
abbrev topV : Int := 1125899906842624
theorem pre_top {t : Tm} {s : Sb} (ht : mayB t = true) (hs : smayB s = true) (hv : vleB topV t = true) (hvs : ∀ x ∈ s.L, vleB topV x = true) :
    Pre 40000 0 topV (s.sh - s.L.length) (topV + 1048576) t s := by
  have hr : room = 1099511627776 := rfl
  obtain ⟨p1, p2, p3⟩ := may_parts ht
  obtain ⟨q1, q2, q3, q4⟩ := smay_parts hs
  exact ⟨by omega, p1, hv, by decide, by decide, by omega, by omega, ⟨q4, fun x hx => vle_mono (by decide) (hvs x hx), q2⟩, by decide, by omega, by omega, by omega, by omega⟩
theorem ap_size {t : Tm} {s : Sb} {u : Tm} {m : Nat} (ht : mayB t = true) (hs : smayB s = true) (hv : vleB topV t = true) (hvs : ∀ x ∈ s.L, vleB topV x = true) (h : ap 40000 t s 0 = .ok u m) : Fits 0 m (topV + 1048576) 0 u := by
  have p := pre_top ht hs hv hvs
  exact (ap_fits _ _ _ _ _ _ _ _ _ p.nodes p.vle p.k0 p.kh p.kd p.sd p.ok h).2
theorem sapply_spec (t : Tm) (s : Sb) (hz : t.size < room) (hzs : ∀ x ∈ s.L, x.size < room) (hl : s.L.length < room) (hv : vleB topV t = true) (hvs : ∀ x ∈ s.L, vleB topV x = true) :
    ∃ h, (lim C).call 70 [dT t, dS s] [] = some (.ret (.tup [dT (applyR t s).1, dI (applyR t s).2]), h) := by
  have hr : room = 1099511627776 := rfl
  have hm1 := tMay_spec t hz
  have hm2 := smayS_spec s hl hzs
  have he := (enc_eq t).symm
  have hes := (encS_eq s).symm
  unfold applyR
  cases h1 : mayB t
  · rw [h1] at hm1
    refine ⟨[.var 0 (cel3 t), .var 0 (cel2 s)], ?_⟩
    rw [ev_fn 70 Try.f70 _ _ _ rfl Try.func70 rfl Try.ntmps70 rfl]
    simp -implicitDefEqProofs (disch := decide +kernel) only [go_sem, ↓reduceIte, Nat.reduceSub, Nat.reduceAdd, Nat.reduceMul, Nat.reduceBEq, Nat.reduceLT, Nat.reduceLeDiff, Nat.reduceEqDiff, reduceCtorEq, Int.reduceToNat, Int.reduceLE, Int.reduceLT, Int.reduceBEq, Int.reduceBNe, mCall, cells_enc, cells_encS, cel3, cel2, he, hes, hm1, zT_enc]
  · rw [h1] at hm1
    cases h2 : smayB s
    · rw [h2] at hm2
      refine ⟨[.var 0 (cel3 t), .var 0 (cel2 s)], ?_⟩
      rw [ev_fn 70 Try.f70 _ _ _ rfl Try.func70 rfl Try.ntmps70 rfl]
      simp -implicitDefEqProofs (disch := decide +kernel) only [go_sem, ↓reduceIte, Nat.reduceSub, Nat.reduceAdd, Nat.reduceMul, Nat.reduceBEq, Nat.reduceLT, Nat.reduceLeDiff, Nat.reduceEqDiff, reduceCtorEq, Int.reduceToNat, Int.reduceLE, Int.reduceLT, Int.reduceBEq, Int.reduceBNe, mCall, cells_enc, cells_encS, cel3, cel2, he, hes, hm1, hm2, zT_enc]
    · rw [h2] at hm2
      have hw := ap_walk 40000 t s 0 [.var 0 (cel3 t), .var 0 (cel2 s), .var 0 zTerm, .var 0 [dI 0]] _ _ _ (pre_top h1 h2 hv hvs)
      obtain ⟨h, hd⟩ := done_spec (g := 82) (a := cel3 t) (b := cel2 s) (r := ap 40000 t s 0) (fun u m hu => by
        have := (ap_size h1 h2 hv hvs hu)
        have := this.size
        have := ‹Fits 0 m (topV + 1048576) 0 u›.lim
        have q : (m - 0) * 4001 ≤ 40000 * 4001 := Nat.mul_le_mul_right _ (by omega)
        omega) (ap1_spec hw)
      simp only [cel3, cel2] at hd
      refine ⟨h, ?_⟩
      rw [ev_fn 70 Try.f70 _ _ _ rfl Try.func70 rfl Try.ntmps70 rfl]
      simp -implicitDefEqProofs (disch := decide +kernel) only [go_sem, ↓reduceIte, Nat.reduceSub, Nat.reduceAdd, Nat.reduceMul, Nat.reduceBEq, Nat.reduceLT, Nat.reduceLeDiff, Nat.reduceEqDiff, reduceCtorEq, Int.reduceToNat, Int.reduceLE, Int.reduceLT, Int.reduceBEq, Int.reduceBNe, mCall, cells_enc, cells_encS, cel3, cel2, he, hes, hm1, hm2, hd]

end Go.Proofs.Ytkmpfdecjmnccaa
/- Substitutions: laws in plain words. -/
set_option linter.unusedVariables false
set_option linter.unusedSimpArgs false
namespace Go.Proofs.Ytkmpfdecjmnccaa
theorem getD_map {l : List Tm} {g : Tm → Tm} {i : Nat} (h : i < l.length) : (l.map g).getD i default = g (l.getD i default) := by
  rw [List.getD_eq_getElem?_getD, List.getD_eq_getElem?_getD, List.getElem?_map, List.getElem?_eq_getElem h]; rfl
theorem getD_append_l {l l' : List Tm} {i : Nat} (h : i < l.length) : (l ++ l').getD i default = l.getD i default := by
  rw [List.getD_eq_getElem?_getD, List.getD_eq_getElem?_getD, List.getElem?_append_left h]
theorem of_under0 (s : Sb) : ofS (underS s) 0 = var0 := by
  unfold ofS
  rw [under_len, if_pos (by omega), show s.L.length + 1 - 1 - (0 : Int).toNat = s.L.length by omega]
  simp only [underS]
  rw [List.getD_eq_getElem?_getD, List.getElem?_append_right (by simp)]
  simp
theorem up_var (j n : Int) (h : j ≥ n) : upT (.mk 4 j []) 1 n = .mk 4 (j + 1) [] := by
  unfold upT
  rw [mapT_eq]
  simp [mk_kind, mk_head, mk_args, gUp, h]
theorem of_under (s : Sb) {i : Int} (h : 0 ≤ i) (hs : 0 ≤ s.sh) : ofS (underS s) (i + 1) = upT (ofS s i) 1 0 := by
  unfold ofS
  rw [under_len]
  by_cases hi : i < s.L.length
  · rw [if_pos (by omega), if_pos hi, show s.L.length + 1 - 1 - (i + 1).toNat = s.L.length - 1 - i.toNat by omega]
    simp only [underS]
    rw [getD_append_l (by simp; omega), getD_map (by omega)]
  · rw [if_neg (by omega), if_neg hi, up_var _ _ (by omega)]
    simp only [underS]
    congr 1; omega
/-! ### where variables become variables -/
theorem spn_var (A : Tm → Sb → Nat → R Tm) (j : Int) (l : List Tm) (n : Nat) : spnA A (.mk 4 j []) l n = .ok (.mk 4 j l) n := by
  cases l with
  | nil => rfl
  | cons a l => simp [spnA, mk_kind, mk_head, mk_args, heads]
/-! ### scopes -/
theorem var_scoped {j v M : Int} (h : j < v) : scopedB (.mk 4 j []) v M = true := by
  rw [scoped_iff]
  exact ⟨fun _ => h, fun hk => by simp [mk_kind] at hk, fun i hi => by simp [mk_args] at hi⟩
theorem mk_scoped {k h : Int} {l : List Tm} {v M : Int} (h1 : k = 4 → h < v) (h2 : k = 6 → h < M) (h3 : ∀ i, i < l.length → scopedB (l.getD i default) (v + bnd (.mk k h l) i) M = true) : scopedB (.mk k h l) v M = true := by
  rw [scoped_iff]
  exact ⟨h1, h2, h3⟩
theorem bnd_mk (t : Tm) {xs : List Tm} (h : xs.length = t.args.length) (i : Nat) : bnd (.mk t.kind t.head xs) i = bnd t i := by
  unfold bnd
  rw [mk_kind, mk_args, h]
theorem bnd_none {k h : Int} {l : List Tm} (hk : heads k = true) (i : Nat) : bnd (.mk k h l) i = 0 := by
  unfold bnd
  rw [mk_kind, if_neg]
  rintro ⟨h1, _⟩
  simp only [heads, Bool.or_eq_true, beq_iff_eq] at hk
  omega
theorem bnd_none' {t : Tm} (hk : heads t.kind = true) (i : Nat) : bnd t i = 0 := by
  rw [← mk_self t]; exact bnd_none hk i
theorem lam_len {u : Tm} (h : nodesB u = true) (hk : u.kind = 3) : u.args.length = 1 := by
  have hnu := node_here h
  unfold nodeOk at hnu
  simp [hk] at hnu
  exact hnu.2
theorem lam_bnd {u : Tm} (h : nodesB u = true) (hk : u.kind = 3) : bnd u 0 = 1 := by
  unfold bnd
  rw [if_pos ⟨.inr hk, by rw [lam_len h hk]⟩]
def Maps (s : Sb) (v w M : Int) : Prop := ∀ i : Int, 0 ≤ i → i < v → scopedB (ofS s i) w M = true
theorem Maps.under {s : Sb} {v w M : Int} (h : Maps s v w M) (hs : 0 ≤ s.sh) (hw : 0 ≤ w) : Maps (underS s) (v + 1) (w + 1) M := by
  intro i h0 hi
  rcases Int.lt_or_le 0 i with h1 | h1
  · have := of_under s (i := i - 1) (by omega) hs
    rw [show i - 1 + 1 = i by omega] at this
    rw [this]
    exact up_scoped (h (i - 1) (by omega) (by omega)) (by omega)
  · obtain rfl : i = 0 := by omega
    rw [of_under0]
    exact var_scoped (by omega)
theorem Maps.one {a : Tm} {w M : Int} (h : scopedB a w M = true) : Maps ⟨[a], 0⟩ (w + 1) w M := by
  intro i h0 hi
  unfold ofS
  split
  · rename_i hl
    simp at hl
    obtain rfl : i = 0 := by omega
    exact h
  · rename_i hl
    simp at hl
    exact var_scoped (by simp; omega)
theorem below_maps {s : Sb} {t : Tm} {i : Nat} {v w M : Int} (h : Maps s v w M) (hs : 0 ≤ s.sh) (hw : 0 ≤ w) : Maps (below s t i) (v + bnd t i) (w + bnd t i) M ∧ 0 ≤ (below s t i).sh := by
  unfold below
  have := bnd_le t i
  split
  · rename_i h1
    rw [h1]
    exact ⟨h.under hs hw, by simp only [underS]; omega⟩
  · rename_i h1
    rw [show bnd t i = 0 by omega]
    simpa using ⟨h, hs⟩
theorem up_nodes {t : Tm} (h : nodesB t = true) {b : Int} (hb : 0 ≤ b) (n : Int) : nodesB (upT t b n) = true := by
  have key : ∀ (t : Tm) (n : Int), nodesB t = true → canB (fun x _ => decide (0 ≤ x)) t n = true := by
    refine Tm.ind fun t ih n hn => ?_
    rw [canB_iff]
    exact ⟨fun _ => by simpa using node_head (node_here hn), fun i hi => ih _ (arg_mem hi) _ (node_args hn i hi)⟩
  refine nodesB_map (fun x m hx => ?_) t n (key t n h) h
  have := of_decide_eq_true hx
  unfold gUp
  split <;> omega
def NodesS (s : Sb) : Prop := (∀ x ∈ s.L, nodesB x = true) ∧ 0 ≤ s.sh
theorem nodes_var0 : nodesB var0 = true := (may_parts may_var0).1
theorem NodesS.below {s : Sb} (h : NodesS s) (t : Tm) (i : Nat) : NodesS (below s t i) := by
  unfold Go.Proofs.Ytkmpfdecjmnccaa.below
  split
  · refine ⟨fun x hx => ?_, by have := h.2; simp only [underS]; omega⟩
    simp only [underS, List.mem_append, List.mem_map, List.mem_singleton] at hx
    rcases hx with ⟨y, hy, rfl⟩ | rfl
    · exact up_nodes (h.1 y hy) (by omega) 0
    · exact nodes_var0
  · exact h
theorem NodesS.of {s : Sb} (h : NodesS s) {i : Int} (h0 : 0 ≤ i) : nodesB (ofS s i) = true := by
  unfold ofS
  split
  · refine h.1 _ ?_
    rw [List.getD_eq_getElem?_getD, List.getElem?_eq_getElem (by omega)]
    exact List.getElem_mem _
  · refine nodes_mk ?_ (by simp)
    have := h.2
    have h5 : 0 ≤ i - s.L.length + s.sh := by omega
    simp only [nodeOk, mk_kind, mk_args, mk_head]
    simp [h5]
abbrev Scopes (A : Tm → Sb → Nat → R Tm) (M : Int) : Prop := ∀ (t : Tm) (s : Sb) (n : Nat) (v w : Int) (u : Tm) (m : Nat), nodesB t = true → scopedB t v M = true → NodesS s → Maps s v w M → 0 ≤ w → A t s n = .ok u m → nodesB u = true ∧ scopedB u w M = true
theorem spn_scoped {A : Tm → Sb → Nat → R Tm} {M : Int} (hA : Scopes A M) :
    ∀ (args : List Tm) (u : Tm) (n : Nat) (w : Int) (r : Tm) (m : Nat), nodesB u = true → scopedB u w M = true → 0 ≤ w → (∀ x ∈ args, nodesB x = true ∧ scopedB x w M = true) → spnA A u args n = .ok r m → nodesB r = true ∧ scopedB r w M = true
  | [], u, n, w, r, m, hu, hs, h0, ha, h => by cases h; exact ⟨hu, hs⟩
  | a :: rest, u, n, w, r, m, hu, hs, h0, ha, h => by
    simp only [spnA] at h
    obtain ⟨a1, a2⟩ := ha a (by simp)
    split at h
    · rename_i hk
      split at h
      case isFalse => cases h
      rename_i hm
      obtain ⟨v, n1, h1, h2⟩ := R.bind_eq h
      have hl := lam_len hu hk
      have hs' := (scoped_iff.1 hs).2.2 0 (by omega)
      rw [lam_bnd hu hk] at hs'
      obtain ⟨hn, hb⟩ := hA _ _ _ (w + 1) w v n1 (node_args hu 0 (by omega)) hs' ⟨by simpa using a1, by simp⟩ (Maps.one a2) h0 h1
      exact spn_scoped hA rest v n1 w r m hn hb h0 (fun x hx => ha x (by simp [hx])) h2
    · split at h
      case isFalse => cases h
      rename_i hk hh
      cases h
      rw [scoped_iff] at hs
      refine ⟨nodes_mk (node_heads hh (node_head (node_here hu)) _) fun x hx => ?_, mk_scoped hs.1 hs.2.1 fun i hi => ?_⟩
      · rcases List.mem_append.1 hx with hx | hx
        · obtain ⟨i, hi, rfl⟩ := List.mem_iff_getElem.1 hx
          rw [arg_eq hi]; exact node_args hu i hi
        · exact (ha x hx).1
      rw [bnd_none hh]
      rcases Nat.lt_or_ge i u.args.length with hl | hl
      · rw [getD_append_l hl]
        have := hs.2.2 i hl
        rwa [bnd_none' hh] at this
      · have hx : (u.args ++ a :: rest).getD i default ∈ a :: rest := by
          rw [List.getD_eq_getElem?_getD, List.getElem?_append_right hl, List.getElem?_eq_getElem (by simp at hi ⊢; omega)]
          exact List.getElem_mem _
        have := (ha _ hx).2
        simpa using this
theorem seq_all {g : Nat → Nat → R Tm} {n : Nat} {Q : Nat → Tm → Prop} : ∀ (k : Nat), (∀ i, i < k → ∀ m x m', g i m = .ok x m' → Q i x) → ∀ (xs : List Tm) (m : Nat), seqF g n k = .ok xs m → ∀ i, i < k → Q i (xs.getD i default)
  | 0, _, xs, m, h, i, hi => by omega
  | k + 1, hq, xs, m, h, i, hi => by
    obtain ⟨ys, m1, h1, h2⟩ := R.bind_eq h
    obtain ⟨x, m2, h3, h4⟩ := R.bind_eq h2
    cases h4
    have hl := seqF_len _ _ _ _ _ h1
    rcases Nat.lt_or_ge i k with hk | hk
    · rw [getD_append_l (by omega)]
      exact seq_all k (fun i hi => hq i (by omega)) ys m1 h1 i hk
    · obtain rfl : i = k := by omega
      rw [List.getD_eq_getElem?_getD, List.getElem?_append_right (by omega), hl]
      simp
      exact hq i (by omega) _ _ _ h3
theorem getD_all {l : List Tm} {Q : Tm → Prop} (h : ∀ i, i < l.length → Q (l.getD i default)) : ∀ x ∈ l, Q x := by
  intro x hx
  obtain ⟨i, hi, rfl⟩ := List.mem_iff_getElem.1 hx
  have := h i hi
  rwa [List.getD_eq_getElem?_getD, List.getElem?_eq_getElem hi] at this
theorem ap_scoped {M : Int} : ∀ f : Nat, Scopes (ap f) M
  | 0 => fun t s n v w u m hn hs hS hM hw h => by cases h
  | f + 1 => fun t s n v w u m hn hs hS hM hw h => by
    have ih := ap_scoped (M := M) f
    rw [ap_succ] at h
    split at h
    · cases h
    obtain ⟨xs, m1, e1, e2⟩ := R.bind_eq h
    have hs' := scoped_iff.1 hs
    have hxl := seqF_len _ _ _ _ _ e1
    have hall := seq_all (Q := fun i x => nodesB x = true ∧ scopedB x (w + bnd t i) M = true) t.args.length (fun i hi m x m' hx => by
      obtain ⟨b1, b2⟩ := below_maps (t := t) (i := i) hM hS.2 hw
      exact ih _ _ m (v + bnd t i) (w + bnd t i) x m' (node_args hn i hi) (hs'.2.2 i hi) (hS.below t i) b1 (by omega) hx) xs m1 e1
    split at e2
    · rename_i hk
      refine spn_scoped ih xs (ofS s t.head) m1 w u m (hS.of (node_head (node_here hn))) (hM _ (node_head (node_here hn)) (hs'.1 hk)) hw (getD_all fun i hi => ?_) e2
      have := hall i (by omega)
      rw [bnd_none' (by simp [heads, hk])] at this
      simpa using this
    · rename_i hk
      cases e2
      refine ⟨nodes_mk (node_same (node_here hn) hxl) (getD_all fun i hi => (hall i (by omega)).1), mk_scoped (fun h => absurd h hk) hs'.2.1 fun i hi => ?_⟩
      rw [bnd_mk t hxl]
      exact (hall i (by omega)).2
/-! ### with less done ahead -/
end Go.Proofs.Ytkmpfdecjmnccaa
/- Arguments of a law: terms, as they are read. -/
set_option linter.unusedVariables false
set_option linter.unusedSimpArgs false
namespace Go.Proofs.Ytkmpfdecjmnccaa
open Go.Proofs Go.ChangeShapes
def in64 (n : Int) : Prop := -9223372036854775808 ≤ n ∧ n ≤ 9223372036854775807
inductive Wf : Tm → Prop where
  | mk {t : Tm} : in64 t.kind → in64 t.head → (∀ x ∈ t.args, Wf x) → Wf t
theorem Wf.args {t : Tm} (h : Wf t) : ∀ x ∈ t.args, Wf x := by cases h; assumption
theorem Wf.kind {t : Tm} (h : Wf t) : in64 t.kind := by cases h; assumption
theorem Wf.head {t : Tm} (h : Wf t) : in64 t.head := by cases h; assumption
theorem Wf.pre {t : Tm} (h : Wf t) : ∀ (n : Int), ∀ q ∈ pre t n, Wf q.2 := by
  induction h with
  | mk h1 h2 h3 ih =>
    intro n
    refine pre_ind (.mk h1 h2 h3) fun i hi p hp => ih _ (arg_mem hi) _ p hp
theorem int_wf {n : Int} (h : (Lit.int .i64 n).wf = true) : in64 n := by
  simpa [Lit.wf, IntKind.min, IntKind.max, IntKind.signed, IntKind.bits, in64] using h
section
variable {H : Type} {enc' : TypeId × Value → H} {W : World} {held : Bool}
theorem list_of {α β : Type} {P : α → β → Prop} : ∀ l : List α, (∀ x ∈ l, ∃ y, P x y) → ∃ r : List β, r.length = l.length ∧ ∀ (i : Nat) (x : α) (y : β), l[i]? = some x → r[i]? = some y → P x y
  | [], _ => ⟨[], rfl, fun i x y h => by simp at h⟩
  | x :: l, h => by
    obtain ⟨y, hy⟩ := h x (by simp)
    obtain ⟨r, h1, h2⟩ := list_of l fun z hz => h z (by simp [hz])
    refine ⟨y :: r, by simp [h1], fun i a b ha hb => ?_⟩
    cases i with
    | zero => simp at ha hb; subst ha hb; exact hy
    | succ i => exact h2 i a b (by simpa using ha) (by simpa using hb)
theorem int_read {fuel : Nat} {cs : List Value} {x : DataW H × List MemPlace} (h : DataW.trod enc' Try.prog W 0 (fun _ => true) held fuel 3 cs = some x) : ∃ n, dv x.1 = .int .i64 n ∧ in64 n ∧ x.1 = .lit (.int .i64 n) := by
  obtain ⟨n, _, rfl, hw⟩ := DataW.trod_int Try.underlying3 h
  exact ⟨n, rfl, int_wf hw, rfl⟩
theorem tms_read {fuel : Nat} (ih : ∀ m, m < fuel → ∀ (cs : List Value) (x : DataW H × List MemPlace), DataW.trod enc' Try.prog W 0 (fun _ => true) held m 26 cs = some x → ∃ t : Tm, dv x.1 = enc t ∧ Wf t ∧ t.size ≤ Rows.uptoBulk x.1)
    {cs : List Value} {x : DataW H × List MemPlace} (h : DataW.trod enc' Try.prog W 0 (fun _ => true) held fuel 24 cs = some x) : ∃ l : List Tm, dv x.1 = .slc (encs l) ∧ (∀ t ∈ l, Wf t) ∧ (l.map Tm.size).sum + 1 ≤ Rows.uptoBulk x.1 := by
  rcases DataW.trod_slice Try.underlying24 h with ⟨rfl, rfl⟩ | ⟨a, len, cap, elems, rest, n, hn, rfl, rfl, _, hlc, _, hel, hget, _, _⟩
  · exact ⟨[], rfl, by simp, by simp [Rows.uptoBulk]⟩
  · obtain ⟨l, h1, h2⟩ := list_of (P := fun (y : DataW H × List MemPlace) (t : Tm) => dv y.1 = enc t ∧ Wf t ∧ t.size ≤ Rows.uptoBulk y.1) elems fun y hy => by
      obtain ⟨i, hi⟩ := List.mem_iff_getElem?.1 hy
      have hlt := (List.getElem?_eq_some_iff.1 hi).1
      have := hget i (by omega)
      rw [hi] at this
      obtain ⟨cs, _, hx⟩ := Option.bind_eq_some_iff.1 this
      exact ih n (by omega) cs y hx
    have key : ∀ (es : List (DataW H × List MemPlace)) (l : List Tm), l.length = es.length → (∀ (i : Nat) y t, es[i]? = some y → l[i]? = some t → dv y.1 = enc t ∧ Wf t ∧ t.size ≤ Rows.uptoBulk y.1) →
        dvs (es.map (·.1)) = encs l ∧ (∀ t ∈ l, Wf t) ∧ (l.map Tm.size).sum ≤ Rows.uptoBulkAll (es.map (·.1)) := by
      intro es
      induction es with
      | nil =>
        intro l hl _
        obtain rfl : l = [] := List.eq_nil_of_length_eq_zero (by simpa using hl)
        exact ⟨rfl, by simp, by simp⟩
      | cons y es ih =>
        intro l hl hp
        cases l with
        | nil => simp at hl
        | cons t l =>
          obtain ⟨k1, k2, k3⟩ := hp 0 y t rfl rfl
          obtain ⟨j1, j2, j3⟩ := ih l (by simpa using hl) fun i a b ha hb => hp (i + 1) a b (by simpa using ha) (by simpa using hb)
          refine ⟨?_, fun x hx => ?_, ?_⟩
          · simp only [List.map_cons, dvs, k1, j1]; rfl
          · rcases List.mem_cons.1 hx with rfl | hx
            · exact k2
            · exact j2 x hx
          · simp only [List.map_cons, List.sum_cons, Rows.uptoBulkAll]
            omega
    obtain ⟨k1, k2, k3⟩ := key elems l h1 h2
    refine ⟨l, by simp only [dv, k1], k2, ?_⟩
    simp only [Rows.uptoBulk]
    omega
theorem tm_read : ∀ (fuel : Nat) (cs : List Value) (x : DataW H × List MemPlace), DataW.trod enc' Try.prog W 0 (fun _ => true) held fuel 26 cs = some x → ∃ t : Tm, dv x.1 = enc t ∧ Wf t ∧ t.size ≤ Rows.uptoBulk x.1 := by
  intro fuel
  induction fuel using Nat.strongRecOn with
  | ind fuel ih =>
    intro cs x h
    obtain ⟨xs, n, hn, rfl, hl, hxl, hg⟩ := DataW.trod_struct Try.underlying26 h
    obtain ⟨a, b, c, rfl⟩ : ∃ a b c, xs = [a, b, c] := by
      match xs, hxl with
      | [a, b, c], _ => exact ⟨a, b, c, rfl⟩
    have h0 := hg 0 _ rfl
    have h1 := hg 1 _ rfl
    have h2 := hg 2 _ rfl
    simp only [List.getElem?_cons_zero, List.getElem?_cons_succ] at h0 h1 h2
    obtain ⟨k, k1, k2, k3⟩ := int_read h0
    obtain ⟨d, d1, d2, d3⟩ := int_read h1
    obtain ⟨l, l1, l2, l3⟩ := tms_read (fuel := n) (fun m hm => ih m (by omega)) h2
    refine ⟨.mk k d l, ?_, .mk k2 d2 l2, ?_⟩
    · rw [enc_mk]
      simp only [List.map_cons, List.map_nil, dv, dcs, k1, d1, l1, Dv.cells, List.cons_append, List.nil_append]
    · rw [size_eq]
      simp only [List.map_cons, List.map_nil, Rows.uptoBulk, Rows.uptoBulkAll, Tm.args]
      omega
theorem tm_arg {v : Value} {d : DataW H} {ps : List MemPlace} (h : DataW.Trod enc' Try.prog W 0 (fun _ => true) held 26 v d ps) : ∃ t : Tm, dv d = enc t ∧ Wf t ∧ t.size ≤ Rows.uptoBulk d := by
  obtain ⟨fuel, h⟩ := h
  exact tm_read fuel _ _ h
theorem tms_arg {v : Value} {d : DataW H} {ps : List MemPlace} (h : DataW.Trod enc' Try.prog W 0 (fun _ => true) held 24 v d ps) : ∃ l : List Tm, dv d = .slc (encs l) ∧ (∀ t ∈ l, Wf t) ∧ (l.map Tm.size).sum + 1 ≤ Rows.uptoBulk d := by
  obtain ⟨fuel, h⟩ := h
  exact tms_read (fun m _ => tm_read m) h
end
theorem own_knob : ownKnob Try.prog.godebug = none := by kernel_rfl
theorem small_bulk {H : Type} {l : List (DataW H)} (hk : Rows.uptoSmall H l = true) : Rows.uptoBulkAll l ≤ 1048576 := of_decide_eq_true hk
end Go.Proofs.Ytkmpfdecjmnccaa
/- The laws of layer 2. -/
set_option linter.unusedSimpArgs false
set_option linter.unusedVariables false
set_option maxRecDepth 100000
namespace Go.Proofs.Ytkmpfdecjmnccaa
open Go.Proofs
attribute [go_sem] List.head?_cons
def w1 : Tm := .mk 3 0 [.mk 4 1 []]
def w3 : Tm := .mk 3 0 [.mk 4 3 []]
end Go.Proofs.Ytkmpfdecjmnccaa
/- Layer 3: what its laws begin with. -/
set_option linter.unusedSimpArgs false
set_option linter.unusedVariables false
set_option maxRecDepth 100000
namespace Go.Proofs.Ytkmpfdecjmnccaa
open Go.Proofs
theorem ap_leaf (f : Nat) (k h : Int) (s : Sb) (n : Nat) (hn : n + 1 ≤ 40000) : ap (f + 1) (.mk k h []) s n = .ok (if k = 4 then ofS s h else .mk k h []) (n + 1) := by
  rw [ap_succ, if_neg (by omega)]
  rw [show seqF (fun i m => ap f ((Tm.mk k h []).arg i) (below s (.mk k h []) i) m) (n + 1) (Tm.mk k h []).args.length = .ok [] (n + 1) from rfl, R.bind_ok]
  by_cases hk : k = 4
  · rw [if_pos (show (Tm.mk k h []).kind = 4 from hk), if_pos hk]; rfl
  · rw [if_neg (show ¬ (Tm.mk k h []).kind = 4 from hk), if_neg hk]; rfl
theorem leaf_may {k h : Int} (hk : heads k = true) (hh : 0 ≤ h) : mayB (.mk k h []) = true := by
  refine may_of (nodes_mk (node_heads hk hh _) (by simp)) ?_ ?_
  · rw [mk_size]; simp
  · rw [depth_eq]; simp [mk_args]
/-! ### Same -/
def idL (k : Nat) (i : Nat) : List Tm := (List.range i).map fun (j : Nat) => .mk 4 ((k : Int) - 1 - j) []
/-! ### Lights -/
def lightsB (l : List Tm) (s d : Int) : Bool := !decide ((l.length : Int) > 60) && allB l.length fun i => lightB (l.getD i default) s d
def lts_S (l : List Tm) (s d : Int) (i : Nat) : St := mk 27 [(0, dL l), (1, dI s), (2, dI d), (7, dI i)] [] [] []

theorem lights_spec (l : List Tm) (s d : Int) (hl : l.length < room) (hz : ∀ x ∈ l, x.size < room) : (lim C).call 10 [dL l, dI s, dI d] [] = retB (lightsB l s d) := by
  have hr : room = 1099511627776 := rfl
  unfold lightsB
  rw [ev_fn 10 Try.f10 _ _ _ rfl Try.func10 rfl Try.ntmps10 rfl]
  cases h1 : decide ((l.length : Int) > 60)
  · have hget : ∀ i, i < l.length → (l.getD i default).size < room := fun i hi => hz _ (getD_mem hi)
    have hloop : (lim C).code 10 (.loop (cf (cf (cs (cf (cs (cs (bodyOf Try.f10)))))))) (lts_S l s d 0) = some (if allB l.length (fun i => lightB (l.getD i default) s d) then (.exit 0, mk 27 [(0, dL l), (1, dI s), (2, dI d), (7, dI l.length), (15, dB false)] [] [] []) else (.ret, mk 27 [(6, dB false)] [] [] [])) := by
      refine loop_all (lts_S l s d) l.length _ (fun i hi hp => ?_) (fun i hi hp => ?_) ?_ (by simp) (by simp)
      · have hc := light_spec (l.getD i default) s d (hget i hi)
        rw [hp] at hc
        simp -implicitDefEqProofs (disch := decide +kernel) only [cf, cs, bodyOf, Try.f10, Option.getD_some, go_sem, ↓reduceIte, Nat.reduceSub, Nat.reduceAdd, Nat.reduceMul, Nat.reduceBEq, Nat.reduceLT, Nat.reduceLeDiff, Nat.reduceEqDiff, reduceCtorEq, Int.reduceToNat, Int.reduceLE, Int.reduceLT, Int.reduceBEq, Int.reduceBNe, mCall, lts_S, lt_true hi, getD_get hi, hc, wrap_succ (n := i) (by omega)]
      · have hc := light_spec (l.getD i default) s d (hget i hi)
        rw [hp] at hc
        simp -implicitDefEqProofs (disch := decide +kernel) only [cf, cs, bodyOf, Try.f10, Option.getD_some, go_sem, ↓reduceIte, Nat.reduceSub, Nat.reduceAdd, Nat.reduceMul, Nat.reduceBEq, Nat.reduceLT, Nat.reduceLeDiff, Nat.reduceEqDiff, reduceCtorEq, Int.reduceToNat, Int.reduceLE, Int.reduceLT, Int.reduceBEq, Int.reduceBNe, mCall, lts_S, lt_true hi, getD_get hi, hc]
      · simp -implicitDefEqProofs (disch := decide +kernel) only [cf, cs, bodyOf, Try.f10, Option.getD_some, go_sem, ↓reduceIte, Nat.reduceSub, Nat.reduceAdd, Nat.reduceMul, Nat.reduceBEq, Nat.reduceLT, Nat.reduceLeDiff, Nat.reduceEqDiff, reduceCtorEq, Int.reduceToNat, Int.reduceLE, Int.reduceLT, Int.reduceBEq, Int.reduceBNe, mCall, lts_S, lt_false (Nat.le_refl l.length)]
    simp -implicitDefEqProofs (disch := decide +kernel) only [go_sem, ↓reduceIte, Nat.reduceSub, Nat.reduceAdd, Nat.reduceMul, Nat.reduceBEq, Nat.reduceLT, Nat.reduceLeDiff, Nat.reduceEqDiff, reduceCtorEq, Int.reduceToNat, Int.reduceLE, Int.reduceLT, Int.reduceBEq, Int.reduceBNe, mCall, h1]
    rw [loop_at hloop ?hb ?hs]
    case hb => rfl
    case hs => rfl
    cases hall : allB l.length fun i => lightB (l.getD i default) s d
    · simp -implicitDefEqProofs (disch := decide +kernel) only [go_sem, ↓reduceIte, Nat.reduceSub, Nat.reduceAdd, Nat.reduceMul, Nat.reduceBEq, Nat.reduceLT, Nat.reduceLeDiff, Nat.reduceEqDiff, reduceCtorEq, Int.reduceToNat, Int.reduceLE, Int.reduceLT, Int.reduceBEq, Int.reduceBNe, mCall, hall]
    · simp -implicitDefEqProofs (disch := decide +kernel) only [go_sem, ↓reduceIte, Nat.reduceSub, Nat.reduceAdd, Nat.reduceMul, Nat.reduceBEq, Nat.reduceLT, Nat.reduceLeDiff, Nat.reduceEqDiff, reduceCtorEq, Int.reduceToNat, Int.reduceLE, Int.reduceLT, Int.reduceBEq, Int.reduceBNe, mCall, hall]
  · simp -implicitDefEqProofs (disch := decide +kernel) only [go_sem, ↓reduceIte, Nat.reduceSub, Nat.reduceAdd, Nat.reduceMul, Nat.reduceBEq, Nat.reduceLT, Nat.reduceLeDiff, Nat.reduceEqDiff, reduceCtorEq, Int.reduceToNat, Int.reduceLE, Int.reduceLT, Int.reduceBEq, Int.reduceBNe, mCall, h1]
theorem lights_parts {l : List Tm} {s d : Int} (h : lightsB l s d = true) : l.length ≤ 60 ∧ ∀ x ∈ l, lightB x s d = true := by
  unfold lightsB at h
  simp only [Bool.and_eq_true, Bool.not_eq_true', decide_eq_false_iff_not] at h
  obtain ⟨h1, h2⟩ := h
  rw [allB_iff] at h2
  exact ⟨by omega, getD_all h2⟩
/-! ### the chapter's example -/
end Go.Proofs.Ytkmpfdecjmnccaa
/- Laws of layer 3: SubstUnder, SubstUp, SubstWeakens. -/
set_option linter.unusedSimpArgs false
set_option linter.unusedVariables false
set_option maxRecDepth 100000
namespace Go.Proofs.Ytkmpfdecjmnccaa
open Go.Proofs
theorem encS_mk (l : List Tm) (n : Int) : Dv.agg [.slc (encs l), .int .i64 n] = encS ⟨l, n⟩ := rfl
theorem smay_of {l : List Tm} {n : Int} (h1 : l.length ≤ 200) (h2 : 0 ≤ n) (h3 : n ≤ 1048576) (h4 : ∀ x ∈ l, mayB x = true) : smayB ⟨l, n⟩ = true := by
  unfold smayB
  have := maysB_iff.2 h4
  simp [this, h2, h3]
  omega
theorem light_size {t : Tm} {s d : Int} (h : lightB t s d = true) : (t.size : Int) ≤ s ∧ (t.depth : Int) ≤ d := by
  unfold lightB at h
  simp only [Bool.and_eq_true, decide_eq_true_eq] at h
  exact ⟨h.1.2, h.2⟩
theorem lists_room {l : List Tm} (hs : (l.map Tm.size).sum + 1 ≤ 1048576) : l.length < room ∧ ∀ x ∈ l, x.size < room := by
  have hr : room = 1099511627776 := rfl
  have := len_sum l
  refine ⟨by omega, fun x hx => ?_⟩
  have := sum_mem (List.mem_map_of_mem (f := Tm.size) hx)
  omega
end Go.Proofs.Ytkmpfdecjmnccaa
/- Laws of layer 3: SubstUp, SubstWeakens. -/
set_option linter.unusedSimpArgs false
set_option linter.unusedVariables false
set_option maxRecDepth 100000
namespace Go.Proofs.Ytkmpfdecjmnccaa
open Go.Proofs
end Go.Proofs.Ytkmpfdecjmnccaa
/- Layer 3: how great answers are, what may go wrong. -/
set_option linter.unusedSimpArgs false
set_option linter.unusedVariables false
set_option maxRecDepth 100000
namespace Go.Proofs.Ytkmpfdecjmnccaa
open Go.Proofs
theorem zT_may : mayB zT = true := by
  refine may_of (nodes_mk (by simp [nodeOk, mk_kind, mk_head, mk_args]) (by simp)) ?_ ?_
  · unfold zT; rw [mk_size]; simp
  · unfold zT; rw [depth_eq]; simp [mk_args]
theorem zT_vle (c : Int) : vleB c zT = true := vle_mk (fun h => by omega) (by simp)
theorem outD_may (r : R Tm) : mayB (outD r).1 = true := by
  cases r with
  | ok u m =>
    simp only [outD]
    split
    · assumption
    · exact zT_may
  | er e m => exact zT_may
theorem applyR_may (t : Tm) (s : Sb) : mayB (applyR t s).1 = true := by
  unfold applyR
  split
  · exact outD_may _
  · exact zT_may
theorem outD_vle {r : R Tm} {c : Int} (h : ∀ u m, r = .ok u m → vleB c u = true) : vleB c (outD r).1 = true := by
  cases r with
  | ok u m =>
    simp only [outD]
    split
    · exact h u m rfl
    · exact zT_vle c
  | er e m => exact zT_vle c
theorem applyR_vle {t : Tm} {s : Sb} {K : Int} (h0 : 0 ≤ K) (ht : vleB K t = true) (hs : ∀ x ∈ s.L, vleB K x = true) : vleB (K + 2000000) (applyR t s).1 = true := by
  unfold applyR
  split
  · rename_i h
    simp only [Bool.and_eq_true] at h
    obtain ⟨h1, h2⟩ := h
    obtain ⟨q1, q2, q3, q4⟩ := smay_parts h2
    refine outD_vle fun u m hu => ?_
    have := (ap_fits 40000 t s 0 K (s.sh - s.L.length) (K + 1048576) u m (may_parts h1).1 ht h0 (by omega) (by omega) (Int.le_refl _) ⟨q4, fun x hx => vle_mono (by omega) (hs x hx), q2⟩ hu).2
    have e := this.lim
    exact vle_mono (by omega) this.vle
  · exact zT_vle _
theorem spn_err {A : Tm → Sb → Nat → R Tm} (hA : ∀ t s n e m, A t s n = .er e m → e = 3 ∨ e = 4) : ∀ (l : List Tm) (u : Tm) (n e m : Nat), spnA A u l n = .er e m → e = 3 ∨ e = 4
  | [], u, n, e, m, h => by cases h
  | a :: rest, u, n, e, m, h => by
    simp only [spnA] at h
    split at h
    · split at h
      · cases hx : A (u.arg 0) ⟨[a], 0⟩ n with
        | ok v m1 => rw [hx] at h; exact spn_err hA rest v m1 e m h
        | er e1 m1 =>
          rw [hx, R.bind_er] at h
          simp only [R.er.injEq] at h
          exact h.1 ▸ hA _ _ _ _ _ hx
      · simp only [R.er.injEq] at h; omega
    · split at h
      · cases h
      · simp only [R.er.injEq] at h; omega
theorem ap_err : ∀ (f : Nat) (t : Tm) (s : Sb) (n e m : Nat), ap f t s n = .er e m → e = 3 ∨ e = 4
  | 0, t, s, n, e, m, h => by
    rw [ap_zero] at h
    simp only [R.er.injEq] at h; omega
  | f + 1, t, s, n, e, m, h => by
    rw [ap_succ] at h
    split at h
    · simp only [R.er.injEq] at h; omega
    · have key : ∀ k e m, seqF (fun i m => ap f (t.arg i) (below s t i) m) (n + 1) k = .er e m → e = 3 ∨ e = 4 := by
        intro k
        induction k with
        | zero => intro e m h; cases h
        | succ k ih =>
          intro e m h
          simp only [seqF] at h
          cases hx : seqF (fun i m => ap f (t.arg i) (below s t i) m) (n + 1) k with
          | er e1 m1 =>
            rw [hx, R.bind_er] at h
            simp only [R.er.injEq] at h
            exact h.1 ▸ ih _ _ hx
          | ok xs m1 =>
            rw [hx, R.bind_ok] at h
            cases hy : ap f (t.arg k) (below s t k) m1 with
            | er e1 m2 =>
              rw [hy, R.bind_er] at h
              simp only [R.er.injEq] at h
              exact h.1 ▸ ap_err f _ _ _ _ _ hy
            | ok x m2 => rw [hy] at h; cases h
      cases hx : seqF (fun i m => ap f (t.arg i) (below s t i) m) (n + 1) t.args.length with
      | er e1 m1 =>
        rw [hx, R.bind_er] at h
        simp only [R.er.injEq] at h
        exact h.1 ▸ key _ _ _ hx
      | ok xs m1 =>
        rw [hx, R.bind_ok] at h
        split at h
        · exact spn_err (fun t s n e m h => ap_err f t s n e m h) _ _ _ _ _ h
        · cases h
end Go.Proofs.Ytkmpfdecjmnccaa
/- What has which type: in plain words. -/
set_option linter.unusedVariables false
set_option linter.unusedSimpArgs false
namespace Go.Proofs.Ytkmpfdecjmnccaa
structure Md where
  ctx : List Tm
  t : Tm
  param : Bool
  deriving Inhabited
structure Wd where
  sig : List Tm
  metas : List Md
def isKind (t : Tm) : Bool := (lastOf t).kind == 0
def kindAt (l : List Tm) (i : Nat) : Bool := isKind (l.getD i default)
def spW (T : Nat → Tm → Int) (arg : Nat → Tm) : Nat → Nat → Tm → Tm × Int
  | 0, _, t => (t, 0)
  | k + 1, i, t => if t.kind ≠ 1 then (zT, 3) else if T i (t.arg 0) ≠ 0 then (zT, T i (t.arg 0)) else
      if (applyR (t.arg 1) ⟨[arg i], 0⟩).2 ≠ 0 then (zT, (applyR (t.arg 1) ⟨[arg i], 0⟩).2) else spW T arg k (i + 1) (applyR (t.arg 1) ⟨[arg i], 0⟩).1
def mtW (T : Nat → Tm → Int) (D : List Tm) (l : List Tm) (n : Int) : Nat → Nat → Int
  | 0, _ => 0
  | k + 1, i => if (applyR (D.getD i default) ⟨l.take i, n⟩).2 ≠ 0 then (applyR (D.getD i default) ⟨l.take i, n⟩).2 else
      if T i (applyR (D.getD i default) ⟨l.take i, n⟩).1 ≠ 0 then T i (applyR (D.getD i default) ⟨l.take i, n⟩).1 else mtW T D l n k (i + 1)
def declW (w : Wd) (h : Int) (kind : Bool) : Tm × Int :=
  if h ≥ w.sig.length then (zT, 2) else if kindAt w.sig h.toNat ≠ kind then (zT, 2) else (w.sig.getD h.toNat default, 0)
def metaW (w : Wd) (n : Int) (T : Nat → Tm → Int) (m : Tm) : Tm × Int :=
  if m.head ≥ w.metas.length then (zT, 2) else
  if (w.metas.getD m.head.toNat default).ctx.length ≠ m.args.length then (zT, 3) else
  if mtW T (w.metas.getD m.head.toNat default).ctx m.args n m.args.length 0 ≠ 0 then (zT, mtW T (w.metas.getD m.head.toNat default).ctx m.args n m.args.length 0) else
  applyR (w.metas.getD m.head.toNat default).t ⟨m.args, n⟩
def spD (T : Nat → Tm → Int) (m : Tm) (r : Tm × Int) : Tm × Int := if r.2 ≠ 0 then (zT, r.2) else spW T m.arg m.args.length 0 r.1
def varW (ctx : List Tm) (h : Int) : Tm × Int := if h ≥ ctx.length then (zT, 2) else (upT (ctx.getD (ctx.length - 1 - h.toNat) default) (h + 1) 0, 0)
def cmW (w : Wd) (ctx : List Tm) (T : Nat → Tm → Int) (m : Tm) : Tm × Int :=
  if m.kind = 4 then spD T m (varW ctx m.head)
  else if m.kind = 5 then spD T m (declW w m.head false)
  else if m.kind = 6 then metaW w ctx.length T m
  else (zT, 3)
def termB (w : Wd) (m a : Tm) (ctx : List Tm) (T : Nat → Tm → List Tm → Int) : Int :=
  if m.kind = 3 then (if a.kind = 1 then T 0 (a.arg 1) (ctx ++ [a.arg 0]) else 3)
  else if a.kind ≠ 2 then 3
  else if (cmW w ctx (fun i x => T i x ctx) m).2 ≠ 0 then (cmW w ctx (fun i x => T i x ctx) m).2
  else if sameB (cmW w ctx (fun i x => T i x ctx) m).1 a then 0 else 3
def termW (w : Wd) : Tm → Tm → List Tm → Int
  | .mk k h l, a, ctx => termB w (.mk k h l) a ctx fun i x c => if hi : i < l.length then termW w l[i] x c else 3
decreasing_by
  have := List.sizeOf_lt_of_mem (List.getElem_mem hi)
  simp only [Tm.mk.sizeOf_spec]
  omega
def argW (w : Wd) (m : Tm) (i : Nat) (x : Tm) (c : List Tm) : Int := if i < m.args.length then termW w (m.arg i) x c else 3
theorem termW_eq (w : Wd) (m a : Tm) (ctx : List Tm) : termW w m a ctx = termB w m a ctx (argW w m) := by
  obtain ⟨k, h, l⟩ := m
  rw [termW]
  congr 1
  funext i x c
  unfold argW
  by_cases hi : i < l.length
  · have := arg_eq (t := .mk k h l) hi
    simp only [Tm.args] at this
    rw [dif_pos hi, this, if_pos (by exact hi)]
  · rw [dif_neg hi, if_neg (by exact hi)]
theorem argW_lt {w : Wd} {m : Tm} {i : Nat} (h : i < m.args.length) (x : Tm) (c : List Tm) : argW w m i x c = termW w (m.arg i) x c := if_pos h
def famW (w : Wd) (ctx : List Tm) (a : Tm) : Int :=
  if (spD (fun i x => argW w a i x ctx) a (declW w a.head true)).2 ≠ 0 then (spD (fun i x => argW w a i x ctx) a (declW w a.head true)).2
  else if (spD (fun i x => argW w a i x ctx) a (declW w a.head true)).1.kind ≠ 0 then 3 else 0
def typW (w : Wd) : Tm → List Tm → Int
  | .mk k h l, ctx => if k = 1 then (if h2 : 1 < l.length then (if typW w l[0] ctx ≠ 0 then typW w l[0] ctx else typW w l[1] (ctx ++ [l[0]])) else 3)
      else if k = 2 then famW w ctx (.mk k h l) else 3
decreasing_by
  all_goals
    have h0 := List.sizeOf_lt_of_mem (List.getElem_mem (l := l) (n := 0) (by omega))
    have h1 := List.sizeOf_lt_of_mem (List.getElem_mem h2)
    simp only [Tm.mk.sizeOf_spec]
    omega
def kindW (w : Wd) : Tm → List Tm → Int
  | .mk k h l, ctx => if k = 0 then 0 else if k = 1 then (if h2 : 1 < l.length then (if typW w l[0] ctx ≠ 0 then typW w l[0] ctx else kindW w l[1] (ctx ++ [l[0]])) else 3) else 3
decreasing_by
  have h1 := List.sizeOf_lt_of_mem (List.getElem_mem h2)
  simp only [Tm.mk.sizeOf_spec]
  omega
theorem arg01 {t : Tm} (h : 1 < t.args.length) : t.args[0] = t.arg 0 ∧ t.args[1] = t.arg 1 := ⟨arg_eq (by omega), arg_eq h⟩
theorem typW_pi (w : Wd) {t : Tm} (hk : t.kind = 1) (hl : 1 < t.args.length) (ctx : List Tm) : typW w t ctx = if typW w (t.arg 0) ctx ≠ 0 then typW w (t.arg 0) ctx else typW w (t.arg 1) (ctx ++ [t.arg 0]) := by
  have e := arg01 hl
  obtain ⟨k, h, l⟩ := t
  have hk : k = 1 := hk
  have hl : 1 < l.length := hl
  simp only [Tm.args] at e
  rw [typW, if_pos hk, dif_pos hl, e.1, e.2]
theorem typW_fam (w : Wd) {t : Tm} (hk : t.kind = 2) (ctx : List Tm) : typW w t ctx = famW w ctx t := by
  obtain ⟨k, h, l⟩ := t
  have hk : k = 2 := hk
  rw [typW, if_neg (by omega), if_pos hk]
theorem typW_no (w : Wd) {t : Tm} (h1 : t.kind ≠ 1) (h2 : t.kind ≠ 2) (ctx : List Tm) : typW w t ctx = 3 := by
  obtain ⟨k, h, l⟩ := t
  have h1 : k ≠ 1 := h1
  have h2 : k ≠ 2 := h2
  rw [typW, if_neg h1, if_neg h2]
theorem kindW_pi (w : Wd) {t : Tm} (hk : t.kind = 1) (hl : 1 < t.args.length) (ctx : List Tm) : kindW w t ctx = if typW w (t.arg 0) ctx ≠ 0 then typW w (t.arg 0) ctx else kindW w (t.arg 1) (ctx ++ [t.arg 0]) := by
  have e := arg01 hl
  obtain ⟨k, h, l⟩ := t
  have hk : k = 1 := hk
  have hl : 1 < l.length := hl
  simp only [Tm.args] at e
  rw [kindW, if_neg (by omega), if_pos hk, dif_pos hl, e.1, e.2]
theorem kindW_sort (w : Wd) {t : Tm} (hk : t.kind = 0) (ctx : List Tm) : kindW w t ctx = 0 := by
  obtain ⟨k, h, l⟩ := t
  rw [kindW, if_pos (by exact hk)]
theorem kindW_no (w : Wd) {t : Tm} (h0 : t.kind ≠ 0) (h1 : t.kind ≠ 1) (ctx : List Tm) : kindW w t ctx = 3 := by
  obtain ⟨k, h, l⟩ := t
  have h0 : k ≠ 0 := h0
  have h1 : k ≠ 1 := h1
  rw [kindW, if_neg h0, if_neg h1]
def mdMay (d : Md) : Bool := maysB d.ctx && mayB d.t
def mayW (w : Wd) (ctx : List Tm) (l : List Tm) : Bool := !decide ((ctx.length : Int) > 1000) && maysB l && maysB ctx && maysB w.sig && allB w.metas.length (fun i => mdMay (w.metas.getD i default))
def TermR (w : Wd) (ctx : List Tm) (m a : Tm) : Int := if mayW w ctx [m, a] then termW w m a ctx else 1
def TypR (w : Wd) (ctx : List Tm) (a : Tm) : Int := if mayW w ctx [a] then typW w a ctx else 1
def KindR (w : Wd) (ctx : List Tm) (a : Tm) : Int := if mayW w ctx [a] then kindW w a ctx else 1
end Go.Proofs.Ytkmpfdecjmnccaa
/- What has which type: laws in plain words. -/
set_option linter.unusedVariables false
set_option linter.unusedSimpArgs false
namespace Go.Proofs.Ytkmpfdecjmnccaa
theorem same_eq : ∀ t u : Tm, sameB t u = true → t = u := by
  refine Tm.ind fun t ih u h => ?_
  rw [sameB_eq] at h
  simp only [Bool.and_eq_true, beq_iff_eq, allB_iff] at h
  obtain ⟨⟨⟨h1, h2⟩, h3⟩, h4⟩ := h
  exact tm_ext h1 h2 h3 fun i hi => ih _ (arg_mem hi) _ (h4 i hi)
theorem bnd_zero {t : Tm} (h1 : t.kind ≠ 1) (h3 : t.kind ≠ 3) (i : Nat) : bnd t i = 0 := by
  unfold bnd
  rw [if_neg]
  rintro ⟨h, _⟩
  omega
theorem spW_ok {T : Nat → Tm → Int} {arg : Nat → Tm} {k i : Nat} {t : Tm} (h : (spW T arg (k + 1) i t).2 = 0) :
    t.kind = 1 ∧ T i (t.arg 0) = 0 ∧ (applyR (t.arg 1) ⟨[arg i], 0⟩).2 = 0 ∧ spW T arg (k + 1) i t = spW T arg k (i + 1) (applyR (t.arg 1) ⟨[arg i], 0⟩).1 := by
  simp only [spW] at h ⊢
  by_cases h1 : t.kind ≠ 1
  · rw [if_pos h1] at h; cases h
  rw [if_neg h1] at h ⊢
  by_cases h2 : T i (t.arg 0) ≠ 0
  · rw [if_pos h2] at h; exact absurd h h2
  rw [if_neg h2] at h ⊢
  by_cases h3 : (applyR (t.arg 1) ⟨[arg i], 0⟩).2 ≠ 0
  · rw [if_pos h3] at h; exact absurd h h3
  rw [if_neg h3] at h ⊢
  exact ⟨Classical.not_not.1 h1, Classical.not_not.1 h2, Classical.not_not.1 h3, rfl⟩
theorem spW_go {T : Nat → Tm → Int} {arg : Nat → Tm} {k i : Nat} {t : Tm} (h1 : t.kind = 1) (h2 : T i (t.arg 0) = 0) (h3 : (applyR (t.arg 1) ⟨[arg i], 0⟩).2 = 0) :
    spW T arg (k + 1) i t = spW T arg k (i + 1) (applyR (t.arg 1) ⟨[arg i], 0⟩).1 := by
  simp only [spW]
  rw [if_neg (by simpa using h1), if_neg (by simpa using h2), if_neg (by simpa using h3)]
theorem mtW_ok {T : Nat → Tm → Int} {D l : List Tm} {n : Int} {k i : Nat} (h : mtW T D l n (k + 1) i = 0) :
    (applyR (D.getD i default) ⟨l.take i, n⟩).2 = 0 ∧ T i (applyR (D.getD i default) ⟨l.take i, n⟩).1 = 0 ∧ mtW T D l n k (i + 1) = 0 := by
  simp only [mtW] at h
  by_cases h1 : (applyR (D.getD i default) ⟨l.take i, n⟩).2 ≠ 0
  · rw [if_pos h1] at h; exact absurd h h1
  rw [if_neg h1] at h
  by_cases h2 : T i (applyR (D.getD i default) ⟨l.take i, n⟩).1 ≠ 0
  · rw [if_pos h2] at h; exact absurd h h2
  rw [if_neg h2] at h
  exact ⟨Classical.not_not.1 h1, Classical.not_not.1 h2, h⟩
theorem mtW_go {T : Nat → Tm → Int} {D l : List Tm} {n : Int} {k i : Nat} (h1 : (applyR (D.getD i default) ⟨l.take i, n⟩).2 = 0) (h2 : T i (applyR (D.getD i default) ⟨l.take i, n⟩).1 = 0) :
    mtW T D l n (k + 1) i = mtW T D l n k (i + 1) := by
  simp only [mtW]
  rw [if_neg (by simpa using h1), if_neg (by simpa using h2)]
theorem spW_err {T : Nat → Tm → Int} {arg : Nat → Tm} : ∀ (k i : Nat) (t : Tm), (spW T arg k i t).2 ≠ 0 → (spW T arg k i t).1 = zT
  | 0, i, t, h => absurd rfl h
  | k + 1, i, t, h => by
    simp only [spW] at h ⊢
    by_cases h1 : t.kind ≠ 1
    · rw [if_pos h1]
    rw [if_neg h1] at h ⊢
    by_cases h2 : T i (t.arg 0) ≠ 0
    · rw [if_pos h2]
    rw [if_neg h2] at h ⊢
    by_cases h3 : (applyR (t.arg 1) ⟨[arg i], 0⟩).2 ≠ 0
    · rw [if_pos h3]
    rw [if_neg h3] at h ⊢
    exact spW_err k (i + 1) _ h
theorem spW_may {T : Nat → Tm → Int} {arg : Nat → Tm} : ∀ (k i : Nat) (t : Tm), mayB t = true → mayB (spW T arg k i t).1 = true
  | 0, i, t, h => h
  | k + 1, i, t, h => by
    simp only [spW]
    by_cases h1 : t.kind ≠ 1
    · rw [if_pos h1]; exact zT_may
    rw [if_neg h1]
    by_cases h2 : T i (t.arg 0) ≠ 0
    · rw [if_pos h2]; exact zT_may
    rw [if_neg h2]
    by_cases h3 : (applyR (t.arg 1) ⟨[arg i], 0⟩).2 ≠ 0
    · rw [if_pos h3]; exact zT_may
    rw [if_neg h3]
    exact spW_may k (i + 1) _ (applyR_may _ _)
theorem spD_may {T : Nat → Tm → Int} {m : Tm} {r : Tm × Int} (h : r.2 = 0 → mayB r.1 = true) : mayB (spD T m r).1 = true := by
  unfold spD
  by_cases h1 : r.2 ≠ 0
  · rw [if_pos h1]; exact zT_may
  rw [if_neg h1]
  exact spW_may _ _ _ (h (Classical.not_not.1 h1))
theorem metaW_may {w : Wd} {n : Int} {T : Nat → Tm → Int} {m : Tm} : mayB (metaW w n T m).1 = true := by
  unfold metaW
  split
  · exact zT_may
  split
  · exact zT_may
  split
  · exact zT_may
  · exact applyR_may _ _
theorem spD_ok {T : Nat → Tm → Int} {m : Tm} {r : Tm × Int} (h : (spD T m r).2 = 0) : r.2 = 0 ∧ spD T m r = spW T m.arg m.args.length 0 r.1 := by
  unfold spD at h ⊢
  by_cases h1 : r.2 ≠ 0
  · rw [if_pos h1] at h; exact absurd h h1
  rw [if_neg h1]
  exact ⟨Classical.not_not.1 h1, rfl⟩
theorem spD_go {T : Nat → Tm → Int} {m : Tm} {r : Tm × Int} (h : r.2 = 0) : spD T m r = spW T m.arg m.args.length 0 r.1 := by
  unfold spD
  rw [if_neg (by simpa using h)]
theorem varW_ok {ctx : List Tm} {h : Int} (e : (varW ctx h).2 = 0) : h < ctx.length ∧ varW ctx h = (upT (ctx.getD (ctx.length - 1 - h.toNat) default) (h + 1) 0, 0) := by
  unfold varW at e ⊢
  by_cases h1 : h ≥ ctx.length
  · rw [if_pos h1] at e; cases e
  rw [if_neg h1]
  exact ⟨by omega, rfl⟩
theorem declW_ok {w : Wd} {h : Int} {kind : Bool} (e : (declW w h kind).2 = 0) : h < w.sig.length ∧ kindAt w.sig h.toNat = kind ∧ declW w h kind = (w.sig.getD h.toNat default, 0) := by
  unfold declW at e ⊢
  by_cases h1 : h ≥ w.sig.length
  · rw [if_pos h1] at e; cases e
  rw [if_neg h1] at e ⊢
  by_cases h2 : kindAt w.sig h.toNat ≠ kind
  · rw [if_pos h2] at e; cases e
  rw [if_neg h2]
  exact ⟨by omega, Classical.not_not.1 h2, rfl⟩
theorem declW_go {w : Wd} {h : Int} {kind : Bool} (h1 : h < w.sig.length) (h2 : kindAt w.sig h.toNat = kind) : declW w h kind = (w.sig.getD h.toNat default, 0) := by
  unfold declW
  rw [if_neg (by omega), if_neg (by simpa using h2)]
theorem metaW_ok {w : Wd} {n : Int} {T : Nat → Tm → Int} {m : Tm} (e : (metaW w n T m).2 = 0) :
    m.head < w.metas.length ∧ (w.metas.getD m.head.toNat default).ctx.length = m.args.length ∧ mtW T (w.metas.getD m.head.toNat default).ctx m.args n m.args.length 0 = 0 ∧
    metaW w n T m = applyR (w.metas.getD m.head.toNat default).t ⟨m.args, n⟩ := by
  unfold metaW at e ⊢
  by_cases h1 : m.head ≥ w.metas.length
  · rw [if_pos h1] at e; cases e
  rw [if_neg h1] at e ⊢
  by_cases h2 : (w.metas.getD m.head.toNat default).ctx.length ≠ m.args.length
  · rw [if_pos h2] at e; cases e
  rw [if_neg h2] at e ⊢
  by_cases h3 : mtW T (w.metas.getD m.head.toNat default).ctx m.args n m.args.length 0 ≠ 0
  · rw [if_pos h3] at e; exact absurd e h3
  rw [if_neg h3]
  exact ⟨by omega, Classical.not_not.1 h2, Classical.not_not.1 h3, rfl⟩
theorem metaW_go {w : Wd} {n : Int} {T : Nat → Tm → Int} {m : Tm} (h1 : m.head < w.metas.length) (h2 : (w.metas.getD m.head.toNat default).ctx.length = m.args.length)
    (h3 : mtW T (w.metas.getD m.head.toNat default).ctx m.args n m.args.length 0 = 0) : metaW w n T m = applyR (w.metas.getD m.head.toNat default).t ⟨m.args, n⟩ := by
  unfold metaW
  rw [if_neg (by omega), if_neg (by simpa using h2), if_neg (by simpa using h3)]
theorem term_lam {w : Wd} {m a : Tm} {ctx : List Tm} (hk : m.kind = 3) : termW w m a ctx = if a.kind = 1 then argW w m 0 (a.arg 1) (ctx ++ [a.arg 0]) else 3 := by
  rw [termW_eq]
  unfold termB
  rw [if_pos hk]
theorem term_ok {w : Wd} {m a : Tm} {ctx : List Tm} (hk : m.kind ≠ 3) (h : termW w m a ctx = 0) : a.kind = 2 ∧ cmW w ctx (fun i x => argW w m i x ctx) m = (a, 0) := by
  rw [termW_eq] at h
  unfold termB at h
  rw [if_neg hk] at h
  by_cases h1 : a.kind ≠ 2
  · rw [if_pos h1] at h; cases h
  rw [if_neg h1] at h
  by_cases h2 : (cmW w ctx (fun i x => argW w m i x ctx) m).2 ≠ 0
  · rw [if_pos h2] at h; exact absurd h h2
  rw [if_neg h2] at h
  by_cases h3 : sameB (cmW w ctx (fun i x => argW w m i x ctx) m).1 a = true
  · exact ⟨Classical.not_not.1 h1, Prod.ext (same_eq _ _ h3) (Classical.not_not.1 h2)⟩
  · rw [if_neg h3] at h; cases h
theorem term_go {w : Wd} {m a : Tm} {ctx : List Tm} (hk : m.kind ≠ 3) (h1 : a.kind = 2) (h : cmW w ctx (fun i x => argW w m i x ctx) m = (a, 0)) : termW w m a ctx = 0 := by
  rw [termW_eq]
  unfold termB
  rw [if_neg hk, if_neg (by simpa using h1), h]
  simp [sameB_refl]
theorem cm_kind {w : Wd} {ctx : List Tm} {T : Nat → Tm → Int} {m : Tm} (h : (cmW w ctx T m).2 = 0) : m.kind = 4 ∨ m.kind = 5 ∨ m.kind = 6 := by
  unfold cmW at h
  split at h
  · exact .inl ‹_›
  split at h
  · exact .inr (.inl ‹_›)
  split at h
  · exact .inr (.inr ‹_›)
  · cases h
theorem cm_var {w : Wd} {ctx : List Tm} {T : Nat → Tm → Int} {m : Tm} (h : m.kind = 4) : cmW w ctx T m = spD T m (varW ctx m.head) := if_pos h
theorem cm_const {w : Wd} {ctx : List Tm} {T : Nat → Tm → Int} {m : Tm} (h : m.kind = 5) : cmW w ctx T m = spD T m (declW w m.head false) := by
  unfold cmW
  rw [if_neg (by omega), if_pos h]
theorem cm_meta {w : Wd} {ctx : List Tm} {T : Nat → Tm → Int} {m : Tm} (h : m.kind = 6) : cmW w ctx T m = metaW w ctx.length T m := by
  unfold cmW
  rw [if_neg (by omega), if_neg (by omega), if_pos h]
theorem spW_all {T : Nat → Tm → Int} {arg : Nat → Tm} : ∀ (k i : Nat) (t : Tm), (spW T arg k i t).2 = 0 → ∀ j, i ≤ j → j < i + k → ∃ x, T j x = 0
  | 0, i, t, h, j, h1, h2 => by omega
  | k + 1, i, t, h, j, h1, h2 => by
    obtain ⟨_, e2, _, e4⟩ := spW_ok h
    rcases Nat.eq_or_lt_of_le h1 with rfl | h1
    · exact ⟨_, e2⟩
    · exact spW_all k (i + 1) _ (by rw [← e4]; exact h) j h1 (by omega)
theorem mtW_all {T : Nat → Tm → Int} {D l : List Tm} {n : Int} : ∀ (k i : Nat), mtW T D l n k i = 0 → ∀ j, i ≤ j → j < i + k → ∃ x, T j x = 0
  | 0, i, h, j, h1, h2 => by omega
  | k + 1, i, h, j, h1, h2 => by
    obtain ⟨_, e2, e3⟩ := mtW_ok h
    rcases Nat.eq_or_lt_of_le h1 with rfl | h1
    · exact ⟨_, e2⟩
    · exact mtW_all k (i + 1) e3 j h1 (by omega)
theorem cm_args {w : Wd} {ctx : List Tm} {T : Nat → Tm → Int} {m : Tm} (h : (cmW w ctx T m).2 = 0) : ∀ i, i < m.args.length → ∃ x, T i x = 0 := by
  intro i hi
  rcases cm_kind h with hk | hk | hk
  · rw [cm_var hk] at h
    obtain ⟨_, e⟩ := spD_ok h
    rw [e] at h
    exact spW_all _ 0 _ h i (Nat.zero_le i) (by omega)
  · rw [cm_const hk] at h
    obtain ⟨_, e⟩ := spD_ok h
    rw [e] at h
    exact spW_all _ 0 _ h i (Nat.zero_le i) (by omega)
  · rw [cm_meta hk] at h
    obtain ⟨_, _, e, _⟩ := metaW_ok h
    exact mtW_all _ 0 e i (Nat.zero_le i) (by omega)
theorem term_scoped (w : Wd) : ∀ (m a : Tm) (ctx : List Tm), nodesB m = true → termW w m a ctx = 0 → scopedB m ctx.length w.metas.length = true := by
  refine Tm.ind fun m ih a ctx hn h => ?_
  rw [scoped_iff]
  by_cases hk : m.kind = 3
  · have hl := lam_len hn hk
    rw [term_lam hk] at h
    by_cases ha : a.kind = 1
    · rw [if_pos ha, argW_lt (by omega)] at h
      refine ⟨fun e => by omega, fun e => by omega, fun i hi => ?_⟩
      obtain rfl : i = 0 := by omega
      have := ih _ (arg_mem hi) _ _ (node_args hn 0 hi) h
      rw [lam_bnd hn hk]
      simpa using this
    · rw [if_neg ha] at h; cases h
  · obtain ⟨_, e⟩ := term_ok hk h
    have e0 : (cmW w ctx (fun i x => argW w m i x ctx) m).2 = 0 := by rw [e]
    have hck := cm_kind e0
    refine ⟨fun e4 => ?_, fun e6 => ?_, fun i hi => ?_⟩
    · rw [cm_var e4] at e0
      exact (varW_ok (spD_ok e0).1).1
    · rw [cm_meta e6] at e0
      exact (metaW_ok e0).1
    · obtain ⟨x, hx⟩ := cm_args e0 i hi
      rw [argW_lt hi] at hx
      rw [bnd_zero (by omega) hk, Int.natCast_zero, Int.add_zero]
      exact ih _ (arg_mem hi) _ _ (node_args hn i hi) hx
theorem pi_len {t : Tm} (h : nodesB t = true) (hk : t.kind = 1) : t.args.length = 2 := by
  have hnu := node_here h
  unfold nodeOk at hnu
  simp [hk] at hnu
  exact hnu.2
theorem pi_bnd0 {t : Tm} (h : nodesB t = true) (hk : t.kind = 1) : bnd t 0 = 0 := by
  unfold bnd
  rw [if_neg]
  rw [pi_len h hk]
  omega
theorem pi_bnd1 {t : Tm} (h : nodesB t = true) (hk : t.kind = 1) : bnd t 1 = 1 := by
  unfold bnd
  rw [if_pos ⟨.inl hk, by rw [pi_len h hk]⟩]
theorem famW_ok {w : Wd} {ctx : List Tm} {a : Tm} (h : famW w ctx a = 0) : (declW w a.head true).2 = 0 ∧ (spW (fun i x => argW w a i x ctx) a.arg a.args.length 0 (declW w a.head true).1).2 = 0 ∧
    (spW (fun i x => argW w a i x ctx) a.arg a.args.length 0 (declW w a.head true).1).1.kind = 0 := by
  unfold famW at h
  by_cases h1 : (spD (fun i x => argW w a i x ctx) a (declW w a.head true)).2 ≠ 0
  · rw [if_pos h1] at h; exact absurd h h1
  rw [if_neg h1] at h
  have h1 := Classical.not_not.1 h1
  obtain ⟨e1, e2⟩ := spD_ok h1
  rw [e2] at h h1
  by_cases h2 : (spW (fun i x => argW w a i x ctx) a.arg a.args.length 0 (declW w a.head true).1).1.kind ≠ 0
  · rw [if_pos h2] at h; cases h
  exact ⟨e1, h1, Classical.not_not.1 h2⟩
theorem famW_go {w : Wd} {ctx : List Tm} {a : Tm} (h1 : (declW w a.head true).2 = 0) (h2 : (spW (fun i x => argW w a i x ctx) a.arg a.args.length 0 (declW w a.head true).1).2 = 0)
    (h3 : (spW (fun i x => argW w a i x ctx) a.arg a.args.length 0 (declW w a.head true).1).1.kind = 0) : famW w ctx a = 0 := by
  unfold famW
  rw [spD_go h1, if_neg (by simpa using h2), if_neg (by simpa using h3)]
theorem typ_scoped (w : Wd) : ∀ (a : Tm) (ctx : List Tm), nodesB a = true → typW w a ctx = 0 → scopedB a ctx.length w.metas.length = true := by
  refine Tm.ind fun a ih ctx hn h => ?_
  rw [scoped_iff]
  by_cases h1 : a.kind = 1
  · have hl := pi_len hn h1
    rw [typW_pi w h1 (by omega)] at h
    by_cases e : typW w (a.arg 0) ctx ≠ 0
    · rw [if_pos e] at h; exact absurd h e
    rw [if_neg e] at h
    refine ⟨fun e => by omega, fun e => by omega, fun i hi => ?_⟩
    have hi2 : i = 0 ∨ i = 1 := by omega
    rcases hi2 with rfl | rfl
    · rw [pi_bnd0 hn h1, Int.natCast_zero, Int.add_zero]
      exact ih _ (arg_mem hi) _ (node_args hn 0 hi) (Classical.not_not.1 e)
    · rw [pi_bnd1 hn h1]
      have := ih _ (arg_mem hi) _ (node_args hn 1 hi) h
      simpa using this
  · by_cases h2 : a.kind = 2
    · rw [typW_fam w h2] at h
      obtain ⟨_, e, _⟩ := famW_ok h
      refine ⟨fun e => by omega, fun e => by omega, fun i hi => ?_⟩
      obtain ⟨x, hx⟩ := spW_all _ 0 _ e i (Nat.zero_le i) (by omega)
      rw [argW_lt hi] at hx
      rw [bnd_zero h1 (by omega), Int.natCast_zero, Int.add_zero]
      exact term_scoped w _ _ _ (node_args hn i hi) hx
    · rw [typW_no w h1 h2] at h; cases h
theorem kind_scoped (w : Wd) : ∀ (a : Tm) (ctx : List Tm), nodesB a = true → kindW w a ctx = 0 → scopedB a ctx.length w.metas.length = true := by
  refine Tm.ind fun a ih ctx hn h => ?_
  rw [scoped_iff]
  by_cases h0 : a.kind = 0
  · have hno := node_here hn
    unfold nodeOk at hno
    simp [h0] at hno
    exact ⟨fun e => by omega, fun e => by omega, fun i hi => by rw [hno.2] at hi; simp at hi⟩
  by_cases h1 : a.kind = 1
  · have hl := pi_len hn h1
    rw [kindW_pi w h1 (by omega)] at h
    by_cases e : typW w (a.arg 0) ctx ≠ 0
    · rw [if_pos e] at h; exact absurd h e
    rw [if_neg e] at h
    refine ⟨fun e => by omega, fun e => by omega, fun i hi => ?_⟩
    have hi2 : i = 0 ∨ i = 1 := by omega
    rcases hi2 with rfl | rfl
    · rw [pi_bnd0 hn h1, Int.natCast_zero, Int.add_zero]
      exact typ_scoped w _ _ (node_args hn 0 hi) (Classical.not_not.1 e)
    · rw [pi_bnd1 hn h1]
      have := ih _ (arg_mem hi) _ (node_args hn 1 hi) h
      simpa using this
  · rw [kindW_no w h0 h1] at h; cases h
/-! ### more of a world -/
structure Ext (w w' : Wd) : Prop where
  len : w.sig.length ≤ w'.sig.length
  sig : ∀ i, i < w.sig.length → w'.sig.getD i default = w.sig.getD i default
  mlen : w.metas.length ≤ w'.metas.length
  metas : ∀ i, i < w.metas.length → w'.metas.getD i default = w.metas.getD i default
theorem spW_same {T T' : Nat → Tm → Int} {arg : Nat → Tm} : ∀ (k i : Nat) (t : Tm), (∀ j x, i ≤ j → j < i + k → T j x = 0 → T' j x = 0) → (spW T arg k i t).2 = 0 → spW T' arg k i t = spW T arg k i t
  | 0, i, t, _, h => rfl
  | k + 1, i, t, hT, h => by
    obtain ⟨e1, e2, e3, e4⟩ := spW_ok h
    rw [spW_go e1 (hT i _ (Nat.le_refl i) (by omega) e2) e3, e4]
    exact spW_same k (i + 1) _ (fun j x h1 h2 => hT j x (by omega) (by omega)) (by rw [← e4]; exact h)
theorem mtW_same {T T' : Nat → Tm → Int} {D l : List Tm} {n n' : Int} : ∀ (k i : Nat), (∀ j x, i ≤ j → j < i + k → T j x = 0 → T' j x = 0) → (∀ j, i ≤ j → j < i + k → applyR (D.getD j default) ⟨l.take j, n'⟩ = applyR (D.getD j default) ⟨l.take j, n⟩) → mtW T D l n k i = 0 → mtW T' D l n' k i = 0
  | 0, i, _, _, h => rfl
  | k + 1, i, hT, hA, h => by
    obtain ⟨e1, e2, e3⟩ := mtW_ok h
    have ha := hA i (Nat.le_refl i) (by omega)
    rw [mtW_go (by rw [ha]; exact e1) (by rw [ha]; exact hT i _ (Nat.le_refl i) (by omega) e2)]
    exact mtW_same k (i + 1) (fun j x h1 h2 => hT j x (by omega) (by omega)) (fun j h1 h2 => hA j (by omega) (by omega)) e3
theorem declW_ext {w w' : Wd} (hx : Ext w w') {h : Int} (h0 : 0 ≤ h) {kind : Bool} (e : (declW w h kind).2 = 0) : declW w' h kind = declW w h kind := by
  obtain ⟨e1, e2, e3⟩ := declW_ok e
  have hs := hx.sig h.toNat (by omega)
  have hl := hx.len
  rw [e3, ← hs]
  exact declW_go (by omega) (by unfold kindAt; rw [hs]; exact e2)
def Front (c c' : List Tm) : Prop := c.length ≤ c'.length ∧ ∀ h : Int, 0 ≤ h → h < c.length → varW c' h = varW c h
theorem Front.self (c : List Tm) : Front c c := ⟨Nat.le_refl _, fun _ _ _ => rfl⟩
theorem varW_lt {c : List Tm} {h : Int} (hl : h < c.length) : varW c h = (upT (c.getD (c.length - 1 - h.toNat) default) (h + 1) 0, 0) := by
  unfold varW
  rw [if_neg (by omega)]
theorem Front.more {c c' : List Tm} (hf : Front c c') (a : Tm) : Front (c ++ [a]) (c' ++ [a]) := by
  refine ⟨by have := hf.1; simp; exact this, fun h h0 hl => ?_⟩
  simp at hl
  have h1 := hf.1
  rw [varW_lt (by simp; omega), varW_lt (by simp; omega)]
  rcases Int.lt_or_le 0 h with hp | hp
  · have := hf.2 (h - 1) (by omega) (by omega)
    rw [varW_lt (by omega), varW_lt (by omega)] at this
    have e1 : (c' ++ [a]).getD ((c' ++ [a]).length - 1 - h.toNat) default = c'.getD (c'.length - 1 - (h - 1).toNat) default := by
      rw [getD_append_l (by simp; omega)]
      congr 1
      simp; omega
    have e2 : (c ++ [a]).getD ((c ++ [a]).length - 1 - h.toNat) default = c.getD (c.length - 1 - (h - 1).toNat) default := by
      rw [getD_append_l (by simp; omega)]
      congr 1
      simp; omega
    rw [e1, e2]
    have h2 := congrArg Prod.fst this
    simp only at h2
    rw [show h - 1 + 1 = h by omega] at h2
    rw [← up_up _ (b := h) h0 1 0, ← up_up _ (b := h) h0 1 0, h2]
  · obtain rfl : h = 0 := by omega
    have e1 : (c' ++ [a]).getD ((c' ++ [a]).length - 1 - (0 : Int).toNat) default = a := by
      rw [List.getD_eq_getElem?_getD]; simp
    have e2 : (c ++ [a]).getD ((c ++ [a]).length - 1 - (0 : Int).toNat) default = a := by
      rw [List.getD_eq_getElem?_getD]; simp
    rw [e1, e2]
theorem term_ext {w w' : Wd} (hx : Ext w w') : ∀ (m a : Tm) (c c' : List Tm), nodesB m = true → Front c c' → (c' = c ∨ w.metas = []) → termW w m a c = 0 → termW w' m a c' = 0 := by
  refine Tm.ind fun m ih a c c' hn hf hc h => ?_
  by_cases hk : m.kind = 3
  · have hl := lam_len hn hk
    rw [term_lam hk] at h ⊢
    by_cases ha : a.kind = 1
    · rw [if_pos ha, argW_lt (by omega)] at h ⊢
      exact ih _ (arg_mem (by omega)) _ _ _ (node_args hn 0 (by omega)) (hf.more _) (hc.imp (fun e => by rw [e]) id) h
    · rw [if_neg ha] at h; cases h
  · obtain ⟨ha, e⟩ := term_ok hk h
    refine term_go hk ha ?_
    have e0 : (cmW w c (fun i x => argW w m i x c) m).2 = 0 := by rw [e]
    have hT : ∀ i x, i < m.args.length → argW w m i x c = 0 → argW w' m i x c' = 0 := fun i x hi hx => by
      rw [argW_lt hi] at hx ⊢
      exact ih _ (arg_mem hi) _ _ _ (node_args hn i hi) hf hc hx
    have h0 := node_head (node_here hn)
    rcases cm_kind e0 with k4 | k5 | k6
    · rw [cm_var k4] at e e0 ⊢
      obtain ⟨q1, q2⟩ := spD_ok e0
      have hv := hf.2 m.head h0 (varW_ok q1).1
      rw [q2] at e e0
      rw [spD_go (by rw [hv]; exact q1), hv, spW_same _ 0 _ (fun j x _ hj => hT j x (by omega)) e0]
      exact e
    · rw [cm_const k5] at e e0 ⊢
      obtain ⟨q1, q2⟩ := spD_ok e0
      have hv := declW_ext hx h0 q1
      rw [q2] at e e0
      rw [spD_go (by rw [hv]; exact q1), hv, spW_same _ 0 _ (fun j x _ hj => hT j x (by omega)) e0]
      exact e
    · rw [cm_meta k6] at e e0 ⊢
      obtain ⟨q1, q2, q3, q4⟩ := metaW_ok e0
      rcases hc with rfl | hc
      · have hm := hx.metas m.head.toNat (by omega)
        have hl := hx.mlen
        rw [metaW_go (by omega) (by rw [hm]; exact q2) (by rw [hm]; exact mtW_same _ 0 (fun j x _ hj => hT j x (by omega)) (fun _ _ _ => rfl) q3), hm, ← q4]
        exact e
      · rw [hc] at q1; simp at q1; omega
theorem typ_ext {w w' : Wd} (hx : Ext w w') : ∀ (a : Tm) (c c' : List Tm), nodesB a = true → Front c c' → (c' = c ∨ w.metas = []) → typW w a c = 0 → typW w' a c' = 0 := by
  refine Tm.ind fun a ih c c' hn hf hc h => ?_
  by_cases h1 : a.kind = 1
  · have hl := pi_len hn h1
    rw [typW_pi _ h1 (by omega)] at h ⊢
    by_cases e : typW w (a.arg 0) c ≠ 0
    · rw [if_pos e] at h; exact absurd h e
    rw [if_neg e] at h
    rw [if_neg (by simpa using ih _ (arg_mem (by omega)) c c' (node_args hn 0 (by omega)) hf hc (Classical.not_not.1 e))]
    exact ih _ (arg_mem (by omega)) _ _ (node_args hn 1 (by omega)) (hf.more _) (hc.imp (fun e => by rw [e]) id) h
  · by_cases h2 : a.kind = 2
    · rw [typW_fam _ h2] at h ⊢
      obtain ⟨e1, e2, e3⟩ := famW_ok h
      have hv := declW_ext hx (node_head (node_here hn)) e1
      have hs := spW_same _ 0 _ (T' := fun i x => argW w' a i x c') (fun j x _ hj hx2 => by
        have hj : j < a.args.length := by omega
        simp only [argW_lt hj] at hx2 ⊢
        exact term_ext hx _ _ _ _ (node_args hn j hj) hf hc hx2) e2
      refine famW_go (by rw [hv]; exact e1) ?_ ?_
      · rw [hv, hs]; exact e2
      · rw [hv, hs]; exact e3
    · rw [typW_no w h1 h2] at h; cases h
theorem kind_ext {w w' : Wd} (hx : Ext w w') : ∀ (a : Tm) (c c' : List Tm), nodesB a = true → Front c c' → (c' = c ∨ w.metas = []) → kindW w a c = 0 → kindW w' a c' = 0 := by
  refine Tm.ind fun a ih c c' hn hf hc h => ?_
  by_cases h0 : a.kind = 0
  · exact kindW_sort w' h0 c'
  by_cases h1 : a.kind = 1
  · have hl := pi_len hn h1
    rw [kindW_pi _ h1 (by omega)] at h ⊢
    by_cases e : typW w (a.arg 0) c ≠ 0
    · rw [if_pos e] at h; exact absurd h e
    rw [if_neg e] at h
    rw [if_neg (by simpa using typ_ext hx _ c c' (node_args hn 0 (by omega)) hf hc (Classical.not_not.1 e))]
    exact ih _ (arg_mem (by omega)) _ _ (node_args hn 1 (by omega)) (hf.more _) (hc.imp (fun e => by rw [e]) id) h
  · rw [kindW_no w h0 h1] at h; cases h
end Go.Proofs.Ytkmpfdecjmnccaa
/- Metas and worlds as data; what a list's function finds. -/
set_option linter.unusedSimpArgs false
set_option linter.unusedVariables false
set_option maxRecDepth 100000
namespace Go.Proofs.Ytkmpfdecjmnccaa
open Go.Proofs
theorem raw_flat : AV.flat (.raw .nilFunc) = true := rfl
theorem raw_cells : AV.cells (.raw .nilFunc) = [.raw .nilFunc] := rfl
theorem raw_kept : AV.kept (.raw .nilFunc) = .raw .nilFunc := rfl
theorem raw_keptH : AV.keptH (.raw .nilFunc) = .raw .nilFunc := rfl
theorem raw_clr : AV.clr (.raw .nilFunc) = .raw .nilFunc := rfl
theorem raw_inv (ps : List Nat) : AV.inv ps (.raw .nilFunc) = .raw .nilFunc := rfl
attribute [go_sem] raw_flat raw_cells raw_kept raw_keptH raw_clr raw_inv
def encM (d : Md) : Dv := .agg [.slc (encs d.ctx), .int .i64 d.t.kind, .int .i64 d.t.head, .slc (encs d.t.args), .bool d.param]
def encMs (l : List Md) : List Dv := l.map encM
abbrev dM (d : Md) : AV := .d (encM d)
abbrev dMs (l : List Md) : AV := .d (.slc (encMs l))
theorem encMs_length (l : List Md) : (encMs l).length = l.length := by simp [encMs]
theorem encMs_get (l : List Md) (i : Nat) : (encMs l)[i]? = (l[i]?).map encM := by simp [encMs]
theorem encMs_take (a : List Md) (n : Nat) : encMs (a.take n) = (encMs a).take n := by simp [encMs]
theorem encDs_take (a : List Dc) (n : Nat) : encDs (a.take n) = (encDs a).take n := by simp [encDs]
theorem encM_width (d : Md) : (encM d).width = 5 := rfl
theorem encMs_all (l : List Md) : ((encMs l).all fun x => x.width == 5) = true := by simp [encMs, encM_width]
theorem encM_cells (d : Md) : (encM d).cells = [.slc (encs d.ctx), .int .i64 d.t.kind, .int .i64 d.t.head, .slc (encs d.t.args), .bool d.param] := rfl
theorem encM_fold (d : Md) : Dv.agg [.slc (encs d.ctx), .int .i64 d.t.kind, .int .i64 d.t.head, .slc (encs d.t.args), .bool d.param] = encM d := rfl
theorem cells_encM (d : Md) : AV.cells (.d (encM d)) = [.d (.slc (encs d.ctx)), .d (.int .i64 d.t.kind), .d (.int .i64 d.t.head), .d (.slc (encs d.t.args)), .d (.bool d.param)] := rfl
attribute [go_sem] encMs_length encMs_get encM_width encM_cells encM_fold cells_encM
def cel5 (d : Md) : List AV := [dL d.ctx, dI d.t.kind, dI d.t.head, dL d.t.args, dB d.param]
theorem mget_get {l : List Md} {i : Nat} (h : i < l.length) : l[i]? = some (l.getD i default) := by simp [List.getD, List.getElem?_eq_getElem h]
theorem mget_mem {l : List Md} {i : Nat} (h : i < l.length) : l.getD i default ∈ l := List.mem_of_getElem? (mget_get h)
structure Wo where
  sig : List Dc
  metas : List Md
  ctx : List Tm
def Wo.wd (w : Wo) : Wd := ⟨w.sig.map Dc.t, w.metas⟩
def encW (w : Wo) : Dv := .agg [.slc (encDs w.sig), .slc (encMs w.metas), .slc (encs w.ctx)]
abbrev dW (w : Wo) : AV := .d (encW w)
def celW (w : Wo) : List AV := [dDs w.sig, dMs w.metas, dL w.ctx]
theorem cells_encW (w : Wo) : AV.cells (.d (encW w)) = celW w := rfl
theorem encW_cells (w : Wo) : (encW w).cells = [.slc (encDs w.sig), .slc (encMs w.metas), .slc (encs w.ctx)] := rfl
theorem encW_width (w : Wo) : (encW w).width = 3 := rfl
theorem encW_fold (a : List Dc) (b : List Md) (c : List Tm) : Dv.agg [.slc (encDs a), .slc (encMs b), .slc (encs c)] = encW ⟨a, b, c⟩ := rfl
attribute [go_sem] encW_cells encW_width encW_fold
theorem mApp_clip (xs : List Dv) (y : Dv) (sz : Nat) (locs : List (Option (List AV))) (heap : List HO) (hr : xs.length < room) (hx : (xs.all fun x => x.width == sz) = true) (hy : y.width = sz) :
    mApp (.clip xs) [y] sz { locs := locs, heap := heap, toks := [] } = some (.v (.own 0 (xs ++ [y])), { locs := locs, heap := heap, toks := [some (xs.length + 1)] }) := by
  have : xs.length + 1 ≤ room := hr
  simp only [mApp, appOwn, List.length_nil, List.nil_append, List.length_cons]
  simp [this, hy]
  simpa using hx
def AsksE (g : Nat) (caps : List AV) (h : List HO) (X : List Dv) (p : Nat → Bool) : Prop :=
  ∀ i x, X[i]? = some x → ∀ (locs : List (Option (List AV))) (toks : List (Option Nat)), mCall C (lim C) g (.d x :: caps) { locs := locs, heap := h, toks := toks } = some (.v (dB (!p i)), { locs := locs, heap := h, toks := toks })
def itD_S (l : List Dc) (g : Nat) (caps : List AV) (h : List HO) (i : Nat) : St := mk 19 [(0, .d (.slc (encDs l))), (1, .fn g [] caps), (7, dI l.length), (8, dI i)] [] h []
theorem itD_spec {g : Nat} {caps : List AV} {h : List HO} {l : List Dc} {p : Nat → Bool} (hd : AsksE g caps h (encDs l) p) (hl : l.length < room) (hc1 : okL caps = true) (hc2 : eraseL caps = caps) :
    ∃ i : Int, (lim C).call 77 [.d (.slc (encDs l)), .fn g [] caps] h = some (.ret (dI i), h) ∧ decide (i ≥ 0) = !allB l.length p := by
  have hr : room = 1099511627776 := rfl
  have hstep : ∀ i, i < l.length → p i = true → (lim C).code 77 (cf (.loop (cf (cf (cs (cf (cs (bodyOf Try.f77)))))))) (itD_S l g caps h i) = some (.nor, itD_S l g caps h (i + 1)) := fun i hi hm => by
    have hc := hd i _ (by rw [encDs_get, dat_get hi]; rfl)
    rw [hm] at hc
    simp -implicitDefEqProofs (disch := decide +kernel) only [cf, cs, bodyOf, Try.f77, Option.getD_some, go_sem, ↓reduceIte, Nat.reduceSub, Nat.reduceAdd, Nat.reduceMul, Nat.reduceBEq, Nat.reduceLT, Nat.reduceLeDiff, Nat.reduceEqDiff, reduceCtorEq, Int.reduceToNat, Int.reduceLE, Int.reduceLT, Int.reduceBEq, Int.reduceBNe, itD_S, lt_true hi, dat_get hi, hc, cells_encD, wrap_succ (n := i) (by omega)]
  cases hall : allB l.length p
  · obtain ⟨j, hj, hpj, hb⟩ := allB_first _ _ hall
    refine ⟨j, ?_, by simp⟩
    have hc := hd j _ (by rw [encDs_get, dat_get hj]; rfl)
    rw [hpj] at hc
    have hloop : (lim C).code 77 (.loop (cf (cf (cs (cf (cs (bodyOf Try.f77))))))) (itD_S l g caps h 0) = some (.ret, mk 19 [(4, dI j)] [] h []) := by
      refine loop_run (itD_S l g caps h) j (fun i hi => hstep i (by omega) (hb i hi)) ?_ (by simp)
      simp -implicitDefEqProofs (disch := decide +kernel) only [cf, cs, bodyOf, Try.f77, Option.getD_some, go_sem, ↓reduceIte, Nat.reduceSub, Nat.reduceAdd, Nat.reduceMul, Nat.reduceBEq, Nat.reduceLT, Nat.reduceLeDiff, Nat.reduceEqDiff, reduceCtorEq, Int.reduceToNat, Int.reduceLE, Int.reduceLT, Int.reduceBEq, Int.reduceBNe, itD_S, lt_true hj, dat_get hj, hc, cells_encD]
    rw [ev_fn 77 Try.f77 _ _ _ rfl Try.func77 rfl Try.ntmps77 rfl]
    simp -implicitDefEqProofs (disch := decide +kernel) only [go_sem, ↓reduceIte, Nat.reduceSub, Nat.reduceAdd, Nat.reduceMul, Nat.reduceBEq, Nat.reduceLT, Nat.reduceLeDiff, Nat.reduceEqDiff, reduceCtorEq, Int.reduceToNat, Int.reduceLE, Int.reduceLT, Int.reduceBEq, Int.reduceBNe, hc1, hc2]
    rw [loop_at hloop ?hb ?hs]
    case hb => rfl
    case hs => rfl
    simp -implicitDefEqProofs (disch := decide +kernel) only [go_sem, ↓reduceIte, Nat.reduceSub, Nat.reduceAdd, Nat.reduceMul, Nat.reduceBEq, Nat.reduceLT, Nat.reduceLeDiff, Nat.reduceEqDiff, reduceCtorEq, Int.reduceToNat, Int.reduceLE, Int.reduceLT, Int.reduceBEq, Int.reduceBNe]
  · refine ⟨-1, ?_, by simp⟩
    have hloop : (lim C).code 77 (.loop (cf (cf (cs (cf (cs (bodyOf Try.f77))))))) (itD_S l g caps h 0) = some (.exit 0, mk 19 [(0, .d (.slc (encDs l))), (1, .fn g [] caps), (7, dI l.length), (8, dI l.length), (9, dB false)] [] h []) := by
      refine loop_run (itD_S l g caps h) l.length (fun i hi => hstep i hi ((allB_iff _ _).1 hall i hi)) ?_ (by simp)
      simp -implicitDefEqProofs (disch := decide +kernel) only [cf, cs, bodyOf, Try.f77, Option.getD_some, go_sem, ↓reduceIte, Nat.reduceSub, Nat.reduceAdd, Nat.reduceMul, Nat.reduceBEq, Nat.reduceLT, Nat.reduceLeDiff, Nat.reduceEqDiff, reduceCtorEq, Int.reduceToNat, Int.reduceLE, Int.reduceLT, Int.reduceBEq, Int.reduceBNe, itD_S, lt_false (Nat.le_refl l.length)]
    rw [ev_fn 77 Try.f77 _ _ _ rfl Try.func77 rfl Try.ntmps77 rfl]
    simp -implicitDefEqProofs (disch := decide +kernel) only [go_sem, ↓reduceIte, Nat.reduceSub, Nat.reduceAdd, Nat.reduceMul, Nat.reduceBEq, Nat.reduceLT, Nat.reduceLeDiff, Nat.reduceEqDiff, reduceCtorEq, Int.reduceToNat, Int.reduceLE, Int.reduceLT, Int.reduceBEq, Int.reduceBNe, hc1, hc2]
    rw [loop_at hloop ?hb ?hs]
    case hb => rfl
    case hs => rfl
    simp -implicitDefEqProofs (disch := decide +kernel) only [go_sem, ↓reduceIte, Nat.reduceSub, Nat.reduceAdd, Nat.reduceMul, Nat.reduceBEq, Nat.reduceLT, Nat.reduceLeDiff, Nat.reduceEqDiff, reduceCtorEq, Int.reduceToNat, Int.reduceLE, Int.reduceLT, Int.reduceBEq, Int.reduceBNe]
theorem ctD_spec {g : Nat} {caps : List AV} {h : List HO} {l : List Dc} {p : Nat → Bool} (hd : AsksE g caps h (encDs l) p) (hl : l.length < room) (hc1 : okL caps = true) (hc2 : eraseL caps = caps) (hc3 : pureL caps = false) :
    (lim C).call 55 [.d (.slc (encDs l)), .fn g [] caps] h = some (.ret (dB (!allB l.length p)), h) := by
  obtain ⟨i, h1, h2⟩ := itD_spec hd hl hc1 hc2
  rw [ev_fn 55 Try.f55 _ _ _ rfl Try.func55 rfl Try.ntmps55 rfl]
  simp -implicitDefEqProofs (disch := decide +kernel) only [go_sem, ↓reduceIte, Nat.reduceSub, Nat.reduceAdd, Nat.reduceMul, Nat.reduceBEq, Nat.reduceLT, Nat.reduceLeDiff, Nat.reduceEqDiff, reduceCtorEq, Int.reduceToNat, Int.reduceLE, Int.reduceLT, Int.reduceBEq, Int.reduceBNe, mCall, hc1, hc2, hc3, h1, h2]
def itM_S (l : List Md) (g : Nat) (caps : List AV) (h : List HO) (i : Nat) : St := mk 19 [(0, .d (.slc (encMs l))), (1, .fn g [] caps), (7, dI l.length), (8, dI i)] [] h []
theorem itM_spec {g : Nat} {caps : List AV} {h : List HO} {l : List Md} {p : Nat → Bool} (hd : AsksE g caps h (encMs l) p) (hl : l.length < room) (hc1 : okL caps = true) (hc2 : eraseL caps = caps) :
    ∃ i : Int, (lim C).call 78 [.d (.slc (encMs l)), .fn g [] caps] h = some (.ret (dI i), h) ∧ decide (i ≥ 0) = !allB l.length p := by
  have hr : room = 1099511627776 := rfl
  have hstep : ∀ i, i < l.length → p i = true → (lim C).code 78 (cf (.loop (cf (cf (cs (cf (cs (bodyOf Try.f78)))))))) (itM_S l g caps h i) = some (.nor, itM_S l g caps h (i + 1)) := fun i hi hm => by
    have hc := hd i _ (by rw [encMs_get, mget_get hi]; rfl)
    rw [hm] at hc
    simp -implicitDefEqProofs (disch := decide +kernel) only [cf, cs, bodyOf, Try.f78, Option.getD_some, go_sem, ↓reduceIte, Nat.reduceSub, Nat.reduceAdd, Nat.reduceMul, Nat.reduceBEq, Nat.reduceLT, Nat.reduceLeDiff, Nat.reduceEqDiff, reduceCtorEq, Int.reduceToNat, Int.reduceLE, Int.reduceLT, Int.reduceBEq, Int.reduceBNe, itM_S, lt_true hi, mget_get hi, hc, cells_encM, wrap_succ (n := i) (by omega)]
  cases hall : allB l.length p
  · obtain ⟨j, hj, hpj, hb⟩ := allB_first _ _ hall
    refine ⟨j, ?_, by simp⟩
    have hc := hd j _ (by rw [encMs_get, mget_get hj]; rfl)
    rw [hpj] at hc
    have hloop : (lim C).code 78 (.loop (cf (cf (cs (cf (cs (bodyOf Try.f78))))))) (itM_S l g caps h 0) = some (.ret, mk 19 [(4, dI j)] [] h []) := by
      refine loop_run (itM_S l g caps h) j (fun i hi => hstep i (by omega) (hb i hi)) ?_ (by simp)
      simp -implicitDefEqProofs (disch := decide +kernel) only [cf, cs, bodyOf, Try.f78, Option.getD_some, go_sem, ↓reduceIte, Nat.reduceSub, Nat.reduceAdd, Nat.reduceMul, Nat.reduceBEq, Nat.reduceLT, Nat.reduceLeDiff, Nat.reduceEqDiff, reduceCtorEq, Int.reduceToNat, Int.reduceLE, Int.reduceLT, Int.reduceBEq, Int.reduceBNe, itM_S, lt_true hj, mget_get hj, hc, cells_encM]
    rw [ev_fn 78 Try.f78 _ _ _ rfl Try.func78 rfl Try.ntmps78 rfl]
    simp -implicitDefEqProofs (disch := decide +kernel) only [go_sem, ↓reduceIte, Nat.reduceSub, Nat.reduceAdd, Nat.reduceMul, Nat.reduceBEq, Nat.reduceLT, Nat.reduceLeDiff, Nat.reduceEqDiff, reduceCtorEq, Int.reduceToNat, Int.reduceLE, Int.reduceLT, Int.reduceBEq, Int.reduceBNe, hc1, hc2]
    rw [loop_at hloop ?hb ?hs]
    case hb => rfl
    case hs => rfl
    simp -implicitDefEqProofs (disch := decide +kernel) only [go_sem, ↓reduceIte, Nat.reduceSub, Nat.reduceAdd, Nat.reduceMul, Nat.reduceBEq, Nat.reduceLT, Nat.reduceLeDiff, Nat.reduceEqDiff, reduceCtorEq, Int.reduceToNat, Int.reduceLE, Int.reduceLT, Int.reduceBEq, Int.reduceBNe]
  · refine ⟨-1, ?_, by simp⟩
    have hloop : (lim C).code 78 (.loop (cf (cf (cs (cf (cs (bodyOf Try.f78))))))) (itM_S l g caps h 0) = some (.exit 0, mk 19 [(0, .d (.slc (encMs l))), (1, .fn g [] caps), (7, dI l.length), (8, dI l.length), (9, dB false)] [] h []) := by
      refine loop_run (itM_S l g caps h) l.length (fun i hi => hstep i hi ((allB_iff _ _).1 hall i hi)) ?_ (by simp)
      simp -implicitDefEqProofs (disch := decide +kernel) only [cf, cs, bodyOf, Try.f78, Option.getD_some, go_sem, ↓reduceIte, Nat.reduceSub, Nat.reduceAdd, Nat.reduceMul, Nat.reduceBEq, Nat.reduceLT, Nat.reduceLeDiff, Nat.reduceEqDiff, reduceCtorEq, Int.reduceToNat, Int.reduceLE, Int.reduceLT, Int.reduceBEq, Int.reduceBNe, itM_S, lt_false (Nat.le_refl l.length)]
    rw [ev_fn 78 Try.f78 _ _ _ rfl Try.func78 rfl Try.ntmps78 rfl]
    simp -implicitDefEqProofs (disch := decide +kernel) only [go_sem, ↓reduceIte, Nat.reduceSub, Nat.reduceAdd, Nat.reduceMul, Nat.reduceBEq, Nat.reduceLT, Nat.reduceLeDiff, Nat.reduceEqDiff, reduceCtorEq, Int.reduceToNat, Int.reduceLE, Int.reduceLT, Int.reduceBEq, Int.reduceBNe, hc1, hc2]
    rw [loop_at hloop ?hb ?hs]
    case hb => rfl
    case hs => rfl
    simp -implicitDefEqProofs (disch := decide +kernel) only [go_sem, ↓reduceIte, Nat.reduceSub, Nat.reduceAdd, Nat.reduceMul, Nat.reduceBEq, Nat.reduceLT, Nat.reduceLeDiff, Nat.reduceEqDiff, reduceCtorEq, Int.reduceToNat, Int.reduceLE, Int.reduceLT, Int.reduceBEq, Int.reduceBNe]
theorem ctM_spec {g : Nat} {caps : List AV} {h : List HO} {l : List Md} {p : Nat → Bool} (hd : AsksE g caps h (encMs l) p) (hl : l.length < room) (hc1 : okL caps = true) (hc2 : eraseL caps = caps) (hc3 : pureL caps = false) :
    (lim C).call 57 [.d (.slc (encMs l)), .fn g [] caps] h = some (.ret (dB (!allB l.length p)), h) := by
  obtain ⟨i, h1, h2⟩ := itM_spec hd hl hc1 hc2
  rw [ev_fn 57 Try.f57 _ _ _ rfl Try.func57 rfl Try.ntmps57 rfl]
  simp -implicitDefEqProofs (disch := decide +kernel) only [go_sem, ↓reduceIte, Nat.reduceSub, Nat.reduceAdd, Nat.reduceMul, Nat.reduceBEq, Nat.reduceLT, Nat.reduceLeDiff, Nat.reduceEqDiff, reduceCtorEq, Int.reduceToNat, Int.reduceLE, Int.reduceLT, Int.reduceBEq, Int.reduceBNe, mCall, hc1, hc2, hc3, h1, h2]
end Go.Proofs.Ytkmpfdecjmnccaa
