/- The laws of layer 9: awake, SignPis, SignTells, SignMore. -/
import Derived.Test.YtfelfahgeannaaaF14
import Derived.Test.YtfelfahgeannaaaF10
import Derived.Test.YtfelfahgeannaaaTD
set_option linter.unusedSimpArgs false
set_option linter.unusedVariables false
set_option maxRecDepth 100000
namespace Go.Proofs.Ytfelfahgeannaaa
open Go.Proofs
attribute [go_sem] List.head?_cons
def g0 : Tm := .mk 2 0 []
def g1 : Tm := .mk 2 1 []
def g3 : Tm := .mk 2 3 []
def q1 : Tm := .mk 1 0 [g1, g3]
def q0 : Tm := .mk 1 0 [g0, q1]
theorem g_enc (h : Int) : Dv.agg [.int .i64 2, .int .i64 h, .slc []] = enc (.mk 2 h []) := by rw [enc_mk]; rfl
theorem q1_enc : Dv.agg [.int .i64 1, .int .i64 0, .slc [enc g1, enc g3]] = enc q1 := by simp [q1, enc_mk, encs]
theorem q0_enc : Dv.agg [.int .i64 1, .int .i64 0, .slc [enc g0, enc q1]] = enc q0 := by simp [q0, enc_mk, encs]
theorem q_asks : asks q0 = [g0, g1] := by simp [asks, q0, q1, pisOf, g0, g1, g3]
theorem q_last : lastOf q0 = g3 := by simp [q0, q1, lastOf, g3]
theorem q_family : familyOf q0 = 3 := by simp [familyOf, q_last]; rfl
theorem z_last : lastOf zeroT = zeroT := by simp [zeroT, lastOf]
theorem awake9_spec : (lim C).call 14 [] [] = retB true := by
  have hr : room = 1099511627776 := rfl
  have hs : q0.size < room := by simp [q0, q1, g0, g1, g3, Tm.size, room]
  obtain ⟨h, h1⟩ := split_spec q0 hs
  rw [q_asks, q_last] at h1
  have h2 := sfamily_spec q0
  have h3 := skind_spec q0
  have h4 := skind_spec zeroT
  rw [q_family] at h2
  rw [q_last, show (g3.kind == 0) = false from rfl] at h3
  rw [z_last, show (zeroT.kind == 0) = true from rfl] at h4
  have e1 : (g1.head == 1) = true := rfl
  have e3 : (g3.head == 3) = true := rfl
  have k0 := g_enc 0
  have k1 := g_enc 1
  have k3 := g_enc 3
  rw [show Tm.mk 2 0 [] = g0 from rfl] at k0
  rw [show Tm.mk 2 1 [] = g1 from rfl] at k1
  rw [show Tm.mk 2 3 [] = g3 from rfl] at k3
  rw [ev_fn 14 Try.f14 _ _ _ rfl Try.func14 rfl Try.ntmps14 rfl]
  simp -implicitDefEqProofs (disch := decide +kernel) only [go_sem, ↓reduceIte, Nat.reduceSub, Nat.reduceAdd, Nat.reduceMul, Nat.reduceBEq, Nat.reduceLT, Nat.reduceLeDiff, Nat.reduceEqDiff, reduceCtorEq, Int.reduceToNat, Int.reduceLE, Int.reduceLT, Int.reduceBEq, Int.reduceBNe, mCall, zeroT_enc, k0, k1, k3, q1_enc, q0_enc, h1, h2, h3, h4, e1, e3, show ((((2 : Nat) : Int)) == 2) = true from rfl]
theorem pis_sum (t : Tm) : t.size = (lastOf t).size + (asks t).length + ((asks t).map Tm.size).sum := by
  unfold asks
  induction t using pis_ind with
  | h0 t h => rw [pisOf_no h, lastOf_no h]; simp
  | h1 t h ih =>
    rw [pisOf_pi h, lastOf_pi h]
    have h' := isPi_iff.1 h
    have hs : t.size = 1 + (t.arg 0).size + (t.arg 1).size := by
      rw [size_eq]
      have e0 := arg_eq (t := t) (i := 0) (by omega)
      have e1 := arg_eq (t := t) (i := 1) (by omega)
      have : t.args = [t.arg 0, t.arg 1] := by
        match ha : t.args, h'.2 with
        | [a, b], _ =>
          have e0 := arg_get (t := t) (i := 0) (by omega)
          have e1 := arg_get (t := t) (i := 1) (by omega)
          rw [ha] at e0 e1
          simp at e0 e1
          rw [e0, e1]
      rw [this]; simp; omega
    simp only [List.map_cons, List.length_cons, List.sum_cons]
    omega
theorem last_no (t : Tm) : isPi (lastOf t) = false := by
  induction t using pis_ind with
  | h0 t h => rw [lastOf_no h]; exact h
  | h1 t h ih => rw [lastOf_pi h]; exact ih
def spis_N (t : Tm) (i : Nat) : Nat := (lastOf t).size + (asks t).length + (((asks t).take i).map Tm.size).sum
theorem spis_succ {t : Tm} {i : Nat} (h : i < (asks t).length) : spis_N t (i + 1) = spis_N t i + ((asks t).getD i default).size := by
  unfold spis_N
  rw [List.take_add_one, getD_get h]; simp; omega
theorem spis_le (t : Tm) (i : Nat) : spis_N t i ≤ t.size := by
  rw [pis_sum t, spis_N]
  have : ((asks t).map Tm.size).sum = (((asks t).take i).map Tm.size).sum + (((asks t).drop i).map Tm.size).sum := by
    rw [← List.sum_append, ← List.map_append, List.take_append_drop]
  omega
def spis_S (t : Tm) (i : Nat) : St := mk 57 [(1, .lref 1 0), (5, dL (asks t)), (6, .lref 6 0), (7, dI (spis_N t i)), (8, dI i)] [(1, cel3 t), (6, cel3 (lastOf t))] [] []
theorem spis_loop {b : Code} {σ : St} {t : Tm} (hb : b = cf (cf (cs (cf (cs (cs (cs (cs (cs (cs (bodyOf Try.f10))))))))))) (hσ : σ = spis_S t 0) (hs : t.size < room) :
    (lim C).code 10 (.loop b) σ = some (.exit 0, mk 57 [(1, .lref 1 0), (5, dL (asks t)), (6, .lref 6 0), (7, dI t.size), (8, dI (asks t).length), (32, dB false)] [(1, cel3 t), (6, cel3 (lastOf t))] [] []) := by
  subst hb hσ
  have hr : room = 1099511627776 := rfl
  have hal := asks_len t
  refine loop_run (spis_S t) (asks t).length ?_ ?_ (by simp)
  · intro i hi
    have h1 := spis_succ hi
    have h2 := spis_le t (i + 1)
    have h3 := asks_size (getD_mem hi)
    have hw : IntKind.wrap .i64 ((spis_N t i : Int) + (((asks t).getD i default).size : Int)) = (spis_N t (i + 1) : Int) := by rw [wrap_ok (by omega) (by omega)]; omega
    simp -implicitDefEqProofs (disch := decide +kernel) only [cf, cs, bodyOf, Try.f10, Option.getD_some, go_sem, ↓reduceIte, Nat.reduceSub, Nat.reduceAdd, Nat.reduceMul, Nat.reduceBEq, Nat.reduceLT, Nat.reduceLeDiff, Nat.reduceEqDiff, reduceCtorEq, Int.reduceToNat, Int.reduceLE, Int.reduceLT, Int.reduceBEq, Int.reduceBNe, mCall, spis_S, lt_true hi, getD_get hi, tsize_spec ((asks t).getD i default) (by omega), hw, wrap_succ (n := i) (by omega)]
  · have he : spis_N t (asks t).length = t.size := by rw [spis_N, List.take_length, ← pis_sum]
    simp -implicitDefEqProofs (disch := decide +kernel) only [cf, cs, bodyOf, Try.f10, Option.getD_some, go_sem, ↓reduceIte, Nat.reduceSub, Nat.reduceAdd, Nat.reduceMul, Nat.reduceBEq, Nat.reduceLT, Nat.reduceLeDiff, Nat.reduceEqDiff, reduceCtorEq, Int.reduceToNat, Int.reduceLE, Int.reduceLT, Int.reduceBEq, Int.reduceBNe, mCall, spis_S, lt_false (Nat.le_refl (asks t).length), he]
theorem signPis_holds (t : Tm) (w : Wf t) (hs : t.size < room) : ∃ h, (lim C).call 10 [dT t] [] = some (.ret (dB true), h) := by
  have hr : room = 1099511627776 := rfl
  have hal := asks_len t
  have hla := last_size t
  obtain ⟨h, hsp⟩ := split_spec t hs
  refine ⟨[], ?_⟩
  rw [ev_fn 10 Try.f10 _ _ _ rfl Try.func10 rfl Try.ntmps10 rfl]
  cases h1 : lightB t 1000 80
  · simp -implicitDefEqProofs (disch := decide +kernel) only [go_sem, ↓reduceIte, Nat.reduceSub, Nat.reduceAdd, Nat.reduceMul, Nat.reduceBEq, Nat.reduceLT, Nat.reduceLeDiff, Nat.reduceEqDiff, reduceCtorEq, Int.reduceToNat, Int.reduceLE, Int.reduceLT, Int.reduceBEq, Int.reduceBNe, mCall, awake9_spec, light_spec t _ _ hs, h1]
  · skip
    have hsum := pis_sum t
    have hw : IntKind.wrap .i64 (((lastOf t).size : Int) + ((asks t).length : Int)) = (spis_N t 0 : Int) := by rw [wrap_ok (by omega) (by omega)]; simp [spis_N]
    simp -implicitDefEqProofs (disch := decide +kernel) only [go_sem, ↓reduceIte, Nat.reduceSub, Nat.reduceAdd, Nat.reduceMul, Nat.reduceBEq, Nat.reduceLT, Nat.reduceLeDiff, Nat.reduceEqDiff, reduceCtorEq, Int.reduceToNat, Int.reduceLE, Int.reduceLT, Int.reduceBEq, Int.reduceBNe, mCall, awake9_spec, light_spec t _ _ hs, h1, hsp, tsize_spec (lastOf t) (by omega), hw]
    rw [spis_loop (t := t) ?hb ?hs hs]
    case hb => rfl
    case hs => rfl
    have hno := last_no t
    cases k1 : ((lastOf t).kind != 1)
    · have k2 : (((lastOf t).args.length : Int) != 2) = true := by
        simp at k1
        simp [isPi, k1] at hno
        exact bne_iff_ne.2 (by omega)
      simp -implicitDefEqProofs (disch := decide +kernel) only [go_sem, ↓reduceIte, Nat.reduceSub, Nat.reduceAdd, Nat.reduceMul, Nat.reduceBEq, Nat.reduceLT, Nat.reduceLeDiff, Nat.reduceEqDiff, reduceCtorEq, Int.reduceToNat, Int.reduceLE, Int.reduceLT, Int.reduceBEq, Int.reduceBNe, mCall, tsize_spec t hs, k1, k2]
    · simp -implicitDefEqProofs (disch := decide +kernel) only [go_sem, ↓reduceIte, Nat.reduceSub, Nat.reduceAdd, Nat.reduceMul, Nat.reduceBEq, Nat.reduceLT, Nat.reduceLeDiff, Nat.reduceEqDiff, reduceCtorEq, Int.reduceToNat, Int.reduceLE, Int.reduceLT, Int.reduceBEq, Int.reduceBNe, mCall, tsize_spec t hs, k1]
def stells_S (t : Tm) (l : List Nat) (kb : Bool) (i : Nat) : St := mk 97 [(3, .lref 3 0), (14, dB true), (15, dB true), (16, dB kb), (17, .d (.slc (ints l))), (18, .d (.slc (ints l))), (19, dI i)] [(3, cel3 t)] [] []
theorem stells_loop {b : Code} {σ : St} {t : Tm} {l : List Nat} {kb : Bool} (hb : b = cf (cf (cs (cf (cs (cs (cs (cs (cs (cs (cs (cs (cs (cs (cs (cs (cs (bodyOf Try.f3)))))))))))))))))) (hσ : σ = stells_S t l kb 0) (hl : l.length < room) :
    (lim C).code 3 (.loop b) σ = some (.exit 0, mk 97 [(3, .lref 3 0), (14, dB true), (15, dB true), (16, dB kb), (17, .d (.slc (ints l))), (18, .d (.slc (ints l))), (19, dI l.length), (68, dB false)] [(3, cel3 t)] [] []) := by
  subst hb hσ
  have hr : room = 1099511627776 := rfl
  refine loop_run (stells_S t l kb) l.length ?_ ?_ (by simp)
  · intro i hi
    have hli : l[i]? = some l[i] := List.getElem?_eq_getElem hi
    have e : ((l[i] : Int) != (l[i] : Int)) = false := by simp
    simp -implicitDefEqProofs (disch := decide +kernel) only [cf, cs, bodyOf, Try.f3, Option.getD_some, go_sem, ↓reduceIte, Nat.reduceSub, Nat.reduceAdd, Nat.reduceMul, Nat.reduceBEq, Nat.reduceLT, Nat.reduceLeDiff, Nat.reduceEqDiff, reduceCtorEq, Int.reduceToNat, Int.reduceLE, Int.reduceLT, Int.reduceBEq, Int.reduceBNe, mCall, stells_S, lt_true hi, hli, e, wrap_succ (n := i) (by omega)]
  · simp -implicitDefEqProofs (disch := decide +kernel) only [cf, cs, bodyOf, Try.f3, Option.getD_some, go_sem, ↓reduceIte, Nat.reduceSub, Nat.reduceAdd, Nat.reduceMul, Nat.reduceBEq, Nat.reduceLT, Nat.reduceLeDiff, Nat.reduceEqDiff, reduceCtorEq, Int.reduceToNat, Int.reduceLE, Int.reduceLT, Int.reduceBEq, Int.reduceBNe, mCall, stells_S, lt_false (Nat.le_refl l.length)]
theorem dsum_room {sig : List Dc} (hz : dsum sig < room) : sig.length < room ∧ ∀ d ∈ sig, d.t.size < room := by
  have := dsum_len (l := sig)
  refine ⟨by omega, fun d hd => ?_⟩
  have := dsum_mem hd
  omega
theorem signTells_holds (t : Tm) (w : Wf t) (hs : t.size < room) (sig : List Dc) (wd : ∀ d ∈ sig, Wf d.t) (hz : dsum sig < room) (f : Int) (jf : in64 f) : ∃ h, (lim C).call 3 [dT t, dDs sig, dI f] [] = some (.ret (dB true), h) := by
  have hr : room = 1099511627776 := rfl
  obtain ⟨hsl, hsd⟩ := dsum_room hz
  have hal := asks_len t
  have hla := last_size t
  have hcl := consts_le sig f sig.length
  obtain ⟨h, hsp⟩ := split_spec t hs
  refine ⟨[], ?_⟩
  rw [ev_fn 3 Try.f3 _ _ _ rfl Try.func3 rfl Try.ntmps3 rfl]
  cases h1 : lightB t 1000 80
  · simp -implicitDefEqProofs (disch := decide +kernel) only [go_sem, ↓reduceIte, Nat.reduceSub, Nat.reduceAdd, Nat.reduceMul, Nat.reduceBEq, Nat.reduceLT, Nat.reduceLeDiff, Nat.reduceEqDiff, reduceCtorEq, Int.reduceToNat, Int.reduceLE, Int.reduceLT, Int.reduceBEq, Int.reduceBNe, mCall, awake9_spec, light_spec t _ _ hs, few_spec sig hsl hsd, h1]
  · skip
    cases h2 : fewB sig
    · simp -implicitDefEqProofs (disch := decide +kernel) only [go_sem, ↓reduceIte, Nat.reduceSub, Nat.reduceAdd, Nat.reduceMul, Nat.reduceBEq, Nat.reduceLT, Nat.reduceLeDiff, Nat.reduceEqDiff, reduceCtorEq, Int.reduceToNat, Int.reduceLE, Int.reduceLT, Int.reduceBEq, Int.reduceBNe, mCall, awake9_spec, light_spec t _ _ hs, few_spec sig hsl hsd, h1, h2]
    · skip
      have e1 := rlist_spec (asks t) (asks t) (by omega) (fun x hx => by have := asks_size hx; omega)
      rw [sameL_refl] at e1
      have e2 := rsame_spec (lastOf t) (by omega) (lastOf t)
      rw [sameB_refl] at e2
      have e3 : (((consts sig f sig.length).length : Int) != ((consts sig f sig.length).length : Int)) = false := by simp
      simp -implicitDefEqProofs (disch := decide +kernel) only [go_sem, ↓reduceIte, Nat.reduceSub, Nat.reduceAdd, Nat.reduceMul, Nat.reduceBEq, Nat.reduceLT, Nat.reduceLeDiff, Nat.reduceEqDiff, reduceCtorEq, Int.reduceToNat, Int.reduceLE, Int.reduceLT, Int.reduceBEq, Int.reduceBNe, mCall, awake9_spec, light_spec t _ _ hs, few_spec sig hsl hsd, h1, h2, hsp, rsplit_spec t hs, e1, e2, rkind_spec t hs, sconst_spec sig f hsl, rconst_spec sig f hsl hsd, e3]
      rw [stells_loop (t := t) (l := consts sig f sig.length) (kb := (lastOf t).kind == 0) ?hb ?hs (by omega)]
      case hb => rfl
      case hs => rfl
      simp -implicitDefEqProofs (disch := decide +kernel) only [go_sem, ↓reduceIte, Nat.reduceSub, Nat.reduceAdd, Nat.reduceMul, Nat.reduceBEq, Nat.reduceLT, Nat.reduceLeDiff, Nat.reduceEqDiff, reduceCtorEq, Int.reduceToNat, Int.reduceLE, Int.reduceLT, Int.reduceBEq, Int.reduceBNe, mCall, skind_spec t, sfamily_spec t, rfamily_spec t hs, tbool_4]
end Go.Proofs.Ytfelfahgeannaaa
