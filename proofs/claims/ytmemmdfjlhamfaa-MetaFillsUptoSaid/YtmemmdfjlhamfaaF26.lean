/- Layer 3: what its laws begin with. -/
import Derived.Test.YtmemmdfjlhamfaaF25
import Derived.Test.YtmemmdfjlhamfaaP6
import Derived.Test.YtmemmdfjlhamfaaF20
set_option linter.unusedSimpArgs false
set_option linter.unusedVariables false
set_option maxRecDepth 100000
namespace Go.Proofs.Ytmemmdfjlhamfaa
open Go.Proofs
theorem ap_leaf (f : Nat) (k h : Int) (s : Sb) (n : Nat) (hn : n + 1 ≤ 40000) : ap (f + 1) (.mk k h []) s n = .ok (if k = 4 then ofS s h else .mk k h []) (n + 1) := by
  rw [ap_succ, if_neg (by omega)]
  rw [show seqF (fun i m => ap f ((Tm.mk k h []).arg i) (below s (.mk k h []) i) m) (n + 1) (Tm.mk k h []).args.length = .ok [] (n + 1) from rfl, R.bind_ok]
  by_cases hk : k = 4
  · rw [if_pos (show (Tm.mk k h []).kind = 4 from hk), if_pos hk]; rfl
  · rw [if_neg (show ¬ (Tm.mk k h []).kind = 4 from hk), if_neg hk]; rfl
theorem leaf_may {k h : Int} (hk : heads k = true) (hh : 0 ≤ h) : mayB (.mk k h []) = true := by
  refine may_of (nodes_mk (node_heads hk hh _) (by simp)) ?_ ?_
  · rw [mk_size]; simp
  · rw [depth_eq]; simp [mk_args]
theorem leaf_var {i : Int} (h : 0 ≤ i) : mayB (.mk 4 i []) = true := leaf_may rfl h
/-! ### Same -/
def idL (k : Nat) (i : Nat) : List Tm := (List.range i).map fun (j : Nat) => .mk 4 ((k : Int) - 1 - j) []
def idN (n : Int) : Nat := if n < 0 then 0 else if n > 200 then 200 else n.toNat
def idS (n : Int) : Sb := ⟨idL (idN n) (idN n), idN n⟩
theorem idL_len (k i : Nat) : (idL k i).length = i := by simp [idL]
theorem idN_le (n : Int) : idN n ≤ 200 := by unfold idN; split <;> (try split) <;> omega
def sam_S (k : Nat) (i : Nat) : St := mk 26 [(0, dI k), (2, .lref 2 0), (3, .lref 3 0), (10, dI k), (11, dI i)] [(2, [.clip [], dI 0]), (3, [acc 0 (encs (idL k i)), dI k])] [] (accT i)
theorem same_spec (n : Int) : (lim C).call 34 [dI n] [] = some (.ret (dS (idS n)), []) := by
  have hr : room = 1099511627776 := rfl
  have hk := idN_le n
  obtain ⟨m, hm⟩ : ∃ m : Int, m = if 0 > n then 0 else n := ⟨_, rfl⟩
  have hmax : (if (0 : Int) > n then (0 : Int) else n) = m := hm.symm
  have hmin : (if (200 : Int) < m then (200 : Int) else m) = (idN n : Int) := by
    rw [hm]; unfold idN; split <;> split <;> (try split) <;> omega
  have hstep : ∀ i, i < idN n → (lim C).code 34 (cf (.loop (cf (cf (cs (cf (cs (cs (cs (bodyOf Try.f34)))))))))) (sam_S (idN n) i) = some (.nor, sam_S (idN n) (i + 1)) := fun i hi => by
    have hln : (encs (idL (idN n) i)).length = i := by rw [encs_length, idL_len]
    have hw1 : IntKind.wrap .i64 ((idN n : Int) - 1) = (idN n : Int) - 1 := wrap_ok (by omega) (by omega)
    have hw2 : IntKind.wrap .i64 ((idN n : Int) - 1 - i) = (idN n : Int) - 1 - i := wrap_ok (by omega) (by omega)
    have hv : Dv.agg [.int .i64 4, .int .i64 ((idN n : Int) - 1 - i), .slc []] = enc (.mk 4 ((idN n : Int) - 1 - i) []) := by rw [enc_mk]; rfl
    have hap := fun locs heap => mApp_acc (encs (idL (idN n) i)) (enc (.mk 4 ((idN n : Int) - 1 - i) [])) 3 locs heap (by rw [hln]; omega) (encs_all _) (enc_width _)
    have hsn : encs (idL (idN n) i) ++ [enc (.mk 4 ((idN n : Int) - 1 - i) [])] = encs (idL (idN n) (i + 1)) := by unfold idL; rw [List.range_succ, List.map_append, encs_append]; rfl
    rw [hln, hsn] at hap
    simp -implicitDefEqProofs (disch := decide +kernel) only [cf, cs, bodyOf, Try.f34, Option.getD_some, go_sem, ↓reduceIte, Nat.reduceSub, Nat.reduceAdd, Nat.reduceMul, Nat.reduceBEq, Nat.reduceLT, Nat.reduceLeDiff, Nat.reduceEqDiff, reduceCtorEq, Int.reduceToNat, Int.reduceLE, Int.reduceLT, Int.reduceBEq, Int.reduceBNe, mCall, sam_S, acc_keep, lt_true hi, hw1, hw2, hv, hap, wrap_succ (n := i) (by omega)]
  have hloop : (lim C).code 34 (.loop (cf (cf (cs (cf (cs (cs (cs (bodyOf Try.f34))))))))) (sam_S (idN n) 0) = some (.exit 0, mk 26 [(0, dI (idN n)), (2, .lref 2 0), (3, .lref 3 0), (10, dI (idN n)), (11, dI (idN n)), (12, dB false)] [(2, [.clip [], dI 0]), (3, [acc 0 (encs (idL (idN n) (idN n))), dI (idN n)])] [] (accT (idN n))) := by
    refine loop_run (sam_S (idN n)) (idN n) hstep ?_ (by simp)
    simp -implicitDefEqProofs (disch := decide +kernel) only [cf, cs, bodyOf, Try.f34, Option.getD_some, go_sem, ↓reduceIte, Nat.reduceSub, Nat.reduceAdd, Nat.reduceMul, Nat.reduceBEq, Nat.reduceLT, Nat.reduceLeDiff, Nat.reduceEqDiff, reduceCtorEq, Int.reduceToNat, Int.reduceLE, Int.reduceLT, Int.reduceBEq, Int.reduceBNe, mCall, sam_S, lt_false (Nat.le_refl (idN n))]
  have he : Dv.agg [.slc (encs (idL (idN n) (idN n))), .int .i64 (idN n)] = encS (idS n) := rfl
  rw [ev_fn 34 Try.f34 _ _ _ rfl Try.func34 rfl Try.ntmps34 rfl]
  simp -implicitDefEqProofs (disch := decide +kernel) only [go_sem, ↓reduceIte, Nat.reduceSub, Nat.reduceAdd, Nat.reduceMul, Nat.reduceBEq, Nat.reduceLT, Nat.reduceLeDiff, Nat.reduceEqDiff, reduceCtorEq, Int.reduceToNat, Int.reduceLE, Int.reduceLT, Int.reduceBEq, Int.reduceBNe, mCall, hmax, hmin]
  rw [loop_at hloop ?hb ?hs]
  case hb => rfl
  case hs => rfl
  simp -implicitDefEqProofs (disch := decide +kernel) only [go_sem, ↓reduceIte, Nat.reduceSub, Nat.reduceAdd, Nat.reduceMul, Nat.reduceBEq, Nat.reduceLT, Nat.reduceLeDiff, Nat.reduceEqDiff, reduceCtorEq, Int.reduceToNat, Int.reduceLE, Int.reduceLT, Int.reduceBEq, Int.reduceBNe, mCall, acc_keep, acc_drop, he, cells_encS, cel2, (encS_eq (idS n)).symm]
/-! ### Lights -/
def lightsB (l : List Tm) (s d : Int) : Bool := !decide ((l.length : Int) > 60) && allB l.length fun i => lightB (l.getD i default) s d
def lts_S (l : List Tm) (s d : Int) (i : Nat) : St := mk 27 [(0, dL l), (1, dI s), (2, dI d), (7, dI i)] [] [] []

theorem lights_spec (l : List Tm) (s d : Int) (hl : l.length < room) (hz : ∀ x ∈ l, x.size < room) : (lim C).call 20 [dL l, dI s, dI d] [] = retB (lightsB l s d) := by
  have hr : room = 1099511627776 := rfl
  unfold lightsB
  rw [ev_fn 20 Try.f20 _ _ _ rfl Try.func20 rfl Try.ntmps20 rfl]
  cases h1 : decide ((l.length : Int) > 60)
  · have hget : ∀ i, i < l.length → (l.getD i default).size < room := fun i hi => hz _ (getD_mem hi)
    have hloop : (lim C).code 20 (.loop (cf (cf (cs (cf (cs (cs (bodyOf Try.f20)))))))) (lts_S l s d 0) = some (if allB l.length (fun i => lightB (l.getD i default) s d) then (.exit 0, mk 27 [(0, dL l), (1, dI s), (2, dI d), (7, dI l.length), (15, dB false)] [] [] []) else (.ret, mk 27 [(6, dB false)] [] [] [])) := by
      refine loop_all (lts_S l s d) l.length _ (fun i hi hp => ?_) (fun i hi hp => ?_) ?_ (by simp) (by simp)
      · have hc := light_spec (l.getD i default) s d (hget i hi)
        rw [hp] at hc
        simp -implicitDefEqProofs (disch := decide +kernel) only [cf, cs, bodyOf, Try.f20, Option.getD_some, go_sem, ↓reduceIte, Nat.reduceSub, Nat.reduceAdd, Nat.reduceMul, Nat.reduceBEq, Nat.reduceLT, Nat.reduceLeDiff, Nat.reduceEqDiff, reduceCtorEq, Int.reduceToNat, Int.reduceLE, Int.reduceLT, Int.reduceBEq, Int.reduceBNe, mCall, lts_S, lt_true hi, getD_get hi, hc, wrap_succ (n := i) (by omega)]
      · have hc := light_spec (l.getD i default) s d (hget i hi)
        rw [hp] at hc
        simp -implicitDefEqProofs (disch := decide +kernel) only [cf, cs, bodyOf, Try.f20, Option.getD_some, go_sem, ↓reduceIte, Nat.reduceSub, Nat.reduceAdd, Nat.reduceMul, Nat.reduceBEq, Nat.reduceLT, Nat.reduceLeDiff, Nat.reduceEqDiff, reduceCtorEq, Int.reduceToNat, Int.reduceLE, Int.reduceLT, Int.reduceBEq, Int.reduceBNe, mCall, lts_S, lt_true hi, getD_get hi, hc]
      · simp -implicitDefEqProofs (disch := decide +kernel) only [cf, cs, bodyOf, Try.f20, Option.getD_some, go_sem, ↓reduceIte, Nat.reduceSub, Nat.reduceAdd, Nat.reduceMul, Nat.reduceBEq, Nat.reduceLT, Nat.reduceLeDiff, Nat.reduceEqDiff, reduceCtorEq, Int.reduceToNat, Int.reduceLE, Int.reduceLT, Int.reduceBEq, Int.reduceBNe, mCall, lts_S, lt_false (Nat.le_refl l.length)]
    simp -implicitDefEqProofs (disch := decide +kernel) only [go_sem, ↓reduceIte, Nat.reduceSub, Nat.reduceAdd, Nat.reduceMul, Nat.reduceBEq, Nat.reduceLT, Nat.reduceLeDiff, Nat.reduceEqDiff, reduceCtorEq, Int.reduceToNat, Int.reduceLE, Int.reduceLT, Int.reduceBEq, Int.reduceBNe, mCall, h1]
    rw [loop_at hloop ?hb ?hs]
    case hb => rfl
    case hs => rfl
    cases hall : allB l.length fun i => lightB (l.getD i default) s d
    · simp -implicitDefEqProofs (disch := decide +kernel) only [go_sem, ↓reduceIte, Nat.reduceSub, Nat.reduceAdd, Nat.reduceMul, Nat.reduceBEq, Nat.reduceLT, Nat.reduceLeDiff, Nat.reduceEqDiff, reduceCtorEq, Int.reduceToNat, Int.reduceLE, Int.reduceLT, Int.reduceBEq, Int.reduceBNe, mCall, hall]
    · simp -implicitDefEqProofs (disch := decide +kernel) only [go_sem, ↓reduceIte, Nat.reduceSub, Nat.reduceAdd, Nat.reduceMul, Nat.reduceBEq, Nat.reduceLT, Nat.reduceLeDiff, Nat.reduceEqDiff, reduceCtorEq, Int.reduceToNat, Int.reduceLE, Int.reduceLT, Int.reduceBEq, Int.reduceBNe, mCall, hall]
  · simp -implicitDefEqProofs (disch := decide +kernel) only [go_sem, ↓reduceIte, Nat.reduceSub, Nat.reduceAdd, Nat.reduceMul, Nat.reduceBEq, Nat.reduceLT, Nat.reduceLeDiff, Nat.reduceEqDiff, reduceCtorEq, Int.reduceToNat, Int.reduceLE, Int.reduceLT, Int.reduceBEq, Int.reduceBNe, mCall, h1]
theorem lights_parts {l : List Tm} {s d : Int} (h : lightsB l s d = true) : l.length ≤ 60 ∧ ∀ x ∈ l, lightB x s d = true := by
  unfold lightsB at h
  simp only [Bool.and_eq_true, Bool.not_eq_true', decide_eq_false_iff_not] at h
  obtain ⟨h1, h2⟩ := h
  rw [allB_iff] at h2
  exact ⟨by omega, getD_all h2⟩
/-! ### the chapter's example -/
def exX : Tm := .mk 4 0 [.mk 5 1 []]
def exF : Tm := .mk 3 0 [.mk 4 0 []]
theorem exX_may : mayB exX = true := by
  refine may_of (nodes_mk (node_heads rfl (by decide) _) ?_) ?_ ?_
  · intro x hx
    obtain rfl : x = .mk 5 1 [] := by simpa using hx
    exact nodes_mk (node_heads rfl (by decide) _) (by simp)
  · unfold exX; rw [mk_size]; simp [mk_size]
  · unfold exX; rw [depth_eq]; simp [mk_args, depth_eq]
theorem exF_may : mayB exF = true := by
  refine may_of (nodes_mk (by simp [nodeOk, mk_kind, mk_head, mk_args]) ?_) ?_ ?_
  · intro x hx
    obtain rfl : x = .mk 4 0 [] := by simpa using hx
    exact nodes_mk (node_heads rfl (by decide) _) (by simp)
  · unfold exF; rw [mk_size]; simp [mk_size]
  · unfold exF; rw [depth_eq]; simp [mk_args, depth_eq]
theorem ex_apply : applyR exX ⟨[exF], 0⟩ = (.mk 5 1 [], 0) := by
  have hs : smayB ⟨[exF], 0⟩ = true := by simp [smayB, maysB, allB, exF_may]
  unfold applyR
  rw [exX_may, hs, Bool.and_self, if_pos rfl, show (40000 : Nat) = 39999 + 1 from rfl, ap_succ, if_neg (by decide)]
  have h1 : seqF (fun i m => ap 39999 (exX.arg i) (below ⟨[exF], 0⟩ exX i) m) (0 + 1) exX.args.length = .ok [.mk 5 1 []] 2 := by
    show ((seqF (fun i m => ap 39999 (exX.arg i) (below ⟨[exF], 0⟩ exX i) m) (0 + 1) 0).bind fun xs m => (ap 39999 (exX.arg 0) (below ⟨[exF], 0⟩ exX 0) m).bind fun x m' => .ok (xs ++ [x]) m') = _
    rw [show seqF (fun i m => ap 39999 (exX.arg i) (below ⟨[exF], 0⟩ exX i) m) (0 + 1) 0 = .ok [] 1 from rfl, R.bind_ok, show exX.arg 0 = .mk 5 1 [] from rfl, show (39999 : Nat) = 39998 + 1 from rfl, ap_leaf _ _ _ _ _ (by decide)]
    rfl
  rw [h1, R.bind_ok, show exX.kind = 4 from rfl, if_pos rfl, show exX.head = 0 from rfl, show ofS ⟨[exF], 0⟩ 0 = exF from rfl]
  simp only [spnA, show exF.kind = 3 from rfl, if_true, leaf_may (k := 5) (h := 1) rfl (by decide)]
  rw [show exF.arg 0 = .mk 4 0 [] from rfl, show (39999 : Nat) = 39998 + 1 from rfl, ap_leaf _ _ _ _ _ (by decide)]
  simp only [if_true, R.bind_ok, show ofS ⟨[.mk 5 1 []], 0⟩ 0 = .mk 5 1 [] from rfl, outD, leaf_may (k := 5) (h := 1) rfl (by decide)]
theorem exX_vle : vleB topV exX = true := vle_mk (fun _ => by decide) (by
  intro x hx
  obtain rfl : x = .mk 5 1 [] := by simpa using hx
  exact vle_mk (fun h => by omega) (by simp))
theorem exF_vle : vleB topV exF = true := vle_mk (fun h => by omega) (by
  intro x hx
  obtain rfl : x = .mk 4 0 [] := by simpa using hx
  exact vle_mk (fun _ => by decide) (by simp))
theorem fieldS_L (P : Program) (t : Nat) (s : Sb) (h : tag P t = some false) : fieldK P (some (0, 1, t)) (.d (encS s)) = some (.val (dL s.L)) := by
  rw [encS_eq]; simp [fieldK, h]
theorem fieldS_sh (P : Program) (t : Nat) (s : Sb) (h : tag P t = some false) : fieldK P (some (1, 1, t)) (.d (encS s)) = some (.val (dI s.sh)) := by
  rw [encS_eq]; simp [fieldK, h]
end Go.Proofs.Ytmemmdfjlhamfaa
