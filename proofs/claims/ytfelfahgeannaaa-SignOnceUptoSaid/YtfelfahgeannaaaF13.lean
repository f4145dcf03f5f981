/- The package sign: Split. -/
import Derived.Test.YtfelfahgeannaaaF12
set_option linter.unusedSimpArgs false
set_option linter.unusedVariables false
set_option maxRecDepth 100000
namespace Go.Proofs.Ytfelfahgeannaaa
open Go.Proofs
theorem acc_erase (t : Nat) (xs : List Dv) : (acc t xs).erase = .d (.slc xs) := by cases xs <;> rfl
def slotL : List Dv → AV
  | [] => .clip []
  | x :: xs => .hown (x :: xs)
theorem slotL_nil : slotL (encs []) = .clip [] := rfl
theorem slotL_one (a : Tm) : slotL (encs [a]) = .hown [enc a] := rfl
theorem slotL_ne {l : List Tm} (h : l ≠ []) : slotL (encs l) = .hown (encs l) := by
  cases l with
  | nil => exact absurd rfl h
  | cons x xs => rfl
theorem slotL_snoc (l : List Tm) (a : Tm) : slotL (encs (l ++ [a])) = .hown (encs (l ++ [a])) := slotL_ne (by simp)
noncomputable def split_L : LoopA := { fn := 17, tmps := tl 22 [(2, .d (.slc [])), (3, .undef), (4, .href 0 0), (5, .href 1 0), (10, .fn 48 [] [.href 2 0])], params := [11, 12], assign := cf (cf (cs (cf (cs (cs (cs (bodyOf Try.f17))))))), body := cs (cf (cs (cf (cs (cs (cs (bodyOf Try.f17))))))) }
noncomputable def split_H (u : Tm) (s : List Tm × Tm) : List HO := [.var s.1.length [slotL (encs s.1)], .var 0 (cel3 s.2), .var 0 (cel3 u), .loop .ready none split_L]
theorem app_claim (v : Nat) (xs : List Dv) (y : Dv) (sz : Nat) (locs : List (Option (List AV))) (hp : List HO) (hr : xs.length < room) (hx : (xs.all fun x => x.width == sz) = true) (hy : y.width = sz) :
    mApp (.hc 0 v xs) [y] sz { locs := locs, heap := .var v [.hown xs] :: hp, toks := [] } = some (.v (.own 0 (xs ++ [y])), { locs := locs, heap := .var v [.d (.slc xs)] :: hp, toks := [some (xs.length + 1)] }) := by
  have : xs.length + 1 ≤ room := hr
  simp only [mApp, appOwn]
  simp [this, hy]
  simpa using hx
theorem split_pis : Pis 3 2 split_H (fun s p => (s.1 ++ [p.1], p.2)) (fun s p => s.1.length < room ∧ p.1.size < room) where
  get := fun u s => rfl
  set := fun u u' s => rfl
  call := fun u s a b locs toks hok => by
    obtain ⟨l, r⟩ := s
    obtain ⟨ho1, ho2⟩ := hok
    simp only at ho1 ho2
    by_cases hl : l = []
    · subst hl
      have ha := fun locs heap => app_first [enc a] 3 locs heap (by simp [room]) (by simp [enc_width])
      simp -implicitDefEqProofs (disch := decide +kernel) only [cf, cs, bodyOf, Try.f17, Option.getD_some, go_sem, ↓reduceIte, Nat.reduceSub, Nat.reduceAdd, Nat.reduceMul, Nat.reduceBEq, Nat.reduceLT, Nat.reduceLeDiff, Nat.reduceEqDiff, reduceCtorEq, Int.reduceToNat, Int.reduceLE, Int.reduceLT, Int.reduceBEq, Int.reduceBNe, mCall, split_H, split_L, mYld_K, slotL_nil, slotL_one, ha, own_spec a ho2]
    · have ha := fun locs hp => app_claim l.length (encs l) (enc a) 3 locs hp (by rw [encs_length]; exact ho1) (encs_all _) (enc_width _)
      have hz : encs l ++ [enc a] = encs (l ++ [a]) := by rw [encs_append]; rfl
      simp only [encs_length, hz] at ha
      simp -implicitDefEqProofs (disch := decide +kernel) only [cf, cs, bodyOf, Try.f17, Option.getD_some, go_sem, ↓reduceIte, Nat.reduceSub, Nat.reduceAdd, Nat.reduceMul, Nat.reduceBEq, Nat.reduceLT, Nat.reduceLeDiff, Nat.reduceEqDiff, reduceCtorEq, Int.reduceToNat, Int.reduceLE, Int.reduceLT, Int.reduceBEq, Int.reduceBNe, mCall, split_H, split_L, mYld_K, slotL_ne hl, slotL_snoc, ha, own_spec a ho2, List.length_append]
def asks (t : Tm) : List Tm := (pisOf t).map (·.1)
theorem split_fold (t : Tm) : ∀ l0 : List Tm, (pisOf t).foldl (fun (s : List Tm × Tm) p => (s.1 ++ [p.1], p.2)) (l0, t) = (l0 ++ asks t, lastOf t) := by
  unfold asks
  induction t using pis_ind with
  | h0 t h => intro l0; rw [pisOf_no h, lastOf_no h]; simp
  | h1 t h ih => intro l0; rw [pisOf_pi h, lastOf_pi h, List.foldl_cons, ih]; simp
theorem split_ok : ∀ (ps : List (Tm × Tm)) (s : List Tm × Tm), (∀ p ∈ ps, p.1.size < room) → s.1.length + ps.length ≤ room → okAll (fun (s : List Tm × Tm) p => (s.1 ++ [p.1], p.2)) (fun s p => s.1.length < room ∧ p.1.size < room) s ps
  | [], s, _, _ => trivial
  | p :: ps, s, h1, h2 => by
    simp only [List.length_cons] at h2
    exact ⟨⟨by omega, h1 p (by simp)⟩, split_ok ps _ (fun q hq => h1 q (by simp [hq])) (by simp; omega)⟩
theorem asks_len (t : Tm) : (asks t).length < t.size := by unfold asks; rw [List.length_map]; exact pis_len t
theorem asks_size {t x : Tm} (h : x ∈ asks t) : x.size < t.size := by
  unfold asks at h
  obtain ⟨p, hp, rfl⟩ := List.mem_map.1 h
  exact (pis_size t p hp).1
theorem split_spec (t : Tm) (hs : t.size < room) : ∃ h, (lim C).call 17 [dT t] [] = some (.ret (.tup [dL (asks t), dT (lastOf t)]), h) := by
  have hpl := pis_len t
  have h1 := pis1_spec split_pis t ([], t) (split_ok _ _ (fun p hp => by have := pis_size t p hp; omega) (by simp; omega))
  rw [split_fold, List.nil_append] at h1
  have hlast := last_size t
  refine ⟨[.var (asks t).length [slotL (encs (asks t))], .var 0 (cel3 (lastOf t)), .var 0 (cel3 (lastOf t)), .dead], ?_⟩
  rw [ev_fn 17 Try.f17 _ _ _ rfl Try.func17 rfl Try.ntmps17 rfl]
  simp -implicitDefEqProofs (disch := decide +kernel) only [go_sem, ↓reduceIte, Nat.reduceSub, Nat.reduceAdd, Nat.reduceMul, Nat.reduceBEq, Nat.reduceLT, Nat.reduceLeDiff, Nat.reduceEqDiff, reduceCtorEq, Int.reduceToNat, Int.reduceLE, Int.reduceLT, Int.reduceBEq, Int.reduceBNe, mCall, pis_spec]
  rw [call_at h1 ?hh]
  case hh => rfl
  by_cases hl : asks t = []
  · rw [hl]
    simp -implicitDefEqProofs (disch := decide +kernel) only [go_sem, ↓reduceIte, Nat.reduceSub, Nat.reduceAdd, Nat.reduceMul, Nat.reduceBEq, Nat.reduceLT, Nat.reduceLeDiff, Nat.reduceEqDiff, reduceCtorEq, Int.reduceToNat, Int.reduceLE, Int.reduceLT, Int.reduceBEq, Int.reduceBNe, mCall, split_H, slotL_nil, own_spec (lastOf t) (by omega)]
    simp [encs]
  · simp -implicitDefEqProofs (disch := decide +kernel) only [go_sem, ↓reduceIte, Nat.reduceSub, Nat.reduceAdd, Nat.reduceMul, Nat.reduceBEq, Nat.reduceLT, Nat.reduceLeDiff, Nat.reduceEqDiff, reduceCtorEq, Int.reduceToNat, Int.reduceLE, Int.reduceLT, Int.reduceBEq, Int.reduceBNe, mCall, split_H, slotL_ne hl, own_spec (lastOf t) (by omega)]
def rsplit_S (l : List Tm) (u : Tm) : St := mk 27 [(1, .lref 1 0), (3, .lref 3 0), (4, acc 0 (encs l))] [(1, cel3 u), (3, [dI 0, dI 0, .clip []])] [] (accT l.length)
theorem rsplit_loop (t : Tm) : ∀ l : List Tm, l.length + (pisOf t).length ≤ room → (lim C).code 18 (.loop (cf (cf (cf (cs (cs (bodyOf Try.f18))))))) (rsplit_S l t) =
    some (.exit 0, mk 27 [(1, .lref 1 0), (3, .lref 3 0), (4, acc 0 (encs (l ++ asks t))), (13, dB false)] [(1, cel3 (lastOf t)), (3, [dI 0, dI 0, .clip []])] [] (accT (l ++ asks t).length)) := by
  unfold asks
  induction t using pis_ind with
  | h0 t h =>
    intro l _
    rw [lastOf_no h, pisOf_no h, List.map_nil, List.append_nil, ev_loop]
    cases k1 : (t.kind == 1)
    · simp -implicitDefEqProofs (disch := decide +kernel) only [cf, cs, bodyOf, Try.f18, Option.getD_some, go_sem, ↓reduceIte, Nat.reduceSub, Nat.reduceAdd, Nat.reduceMul, Nat.reduceBEq, Nat.reduceLT, Nat.reduceLeDiff, Nat.reduceEqDiff, reduceCtorEq, Int.reduceToNat, Int.reduceLE, Int.reduceLT, Int.reduceBEq, Int.reduceBNe, mCall, rsplit_S, k1]
    · have e2 : ((t.args.length : Int) == 2) = false := by
        simp [isPi, k1] at h; simp; omega
      simp -implicitDefEqProofs (disch := decide +kernel) only [cf, cs, bodyOf, Try.f18, Option.getD_some, go_sem, ↓reduceIte, Nat.reduceSub, Nat.reduceAdd, Nat.reduceMul, Nat.reduceBEq, Nat.reduceLT, Nat.reduceLeDiff, Nat.reduceEqDiff, reduceCtorEq, Int.reduceToNat, Int.reduceLE, Int.reduceLT, Int.reduceBEq, Int.reduceBNe, mCall, rsplit_S, k1, e2]
  | h1 t h ih =>
    intro l hlen
    rw [pisOf_pi h, List.length_cons] at hlen
    rw [lastOf_pi h, pisOf_pi h, List.map_cons, ev_loop]
    have h' := isPi_iff.1 h
    have k1 : (t.kind == 1) = true := by simp [h'.1]
    have e2 : ((t.args.length : Int) == 2) = true := by simp [h'.2]
    have hi := ih (l ++ [t.arg 0]) (by simp; omega)
    have ha := fun locs heap => mApp_acc (encs l) (enc (t.arg 0)) 3 locs heap (by rw [encs_length]; omega) (encs_all _) (enc_width _)
    have hz : encs l ++ [enc (t.arg 0)] = encs (l ++ [t.arg 0]) := by rw [encs_append]; rfl
    simp only [encs_length, hz] at ha
    rw [List.append_assoc, List.singleton_append] at hi
    have hl1 : (l ++ [t.arg 0]).length = l.length + 1 := by simp
    unfold rsplit_S at hi
    rw [hl1] at hi
    simp -implicitDefEqProofs (disch := decide +kernel) only [cf, cs, bodyOf, Try.f18, Option.getD_some, go_sem, ↓reduceIte, Nat.reduceSub, Nat.reduceAdd, Nat.reduceMul, Nat.reduceBEq, Nat.reduceLT, Nat.reduceLeDiff, Nat.reduceEqDiff, reduceCtorEq, Int.reduceToNat, Int.reduceLE, Int.reduceLT, Int.reduceBEq, Int.reduceBNe, mCall, rsplit_S, k1, e2, pi_arg0 h, pi_arg1 h, ha]
    exact hi
theorem rsplit_spec (t : Tm) (hs : t.size < room) : (lim C).call 18 [dT t] [] = some (.ret (.tup [dL (asks t), dT (lastOf t)]), []) := by
  have hpl := pis_len t
  have h1 := rsplit_loop t [] (by simp; omega)
  rw [List.nil_append] at h1
  rw [ev_fn 18 Try.f18 _ _ _ rfl Try.func18 rfl Try.ntmps18 rfl]
  simp -implicitDefEqProofs (disch := decide +kernel) only [go_sem, ↓reduceIte, Nat.reduceSub, Nat.reduceAdd, Nat.reduceMul, Nat.reduceBEq, Nat.reduceLT, Nat.reduceLeDiff, Nat.reduceEqDiff, reduceCtorEq, Int.reduceToNat, Int.reduceLE, Int.reduceLT, Int.reduceBEq, Int.reduceBNe, mCall]
  rw [loop_at h1 ?hb ?hs]
  case hb => rfl
  case hs => rfl
  have he := acc_erase 0 (encs (asks t))
  simp -implicitDefEqProofs (disch := decide +kernel) only [go_sem, ↓reduceIte, Nat.reduceSub, Nat.reduceAdd, Nat.reduceMul, Nat.reduceBEq, Nat.reduceLT, Nat.reduceLeDiff, Nat.reduceEqDiff, reduceCtorEq, Int.reduceToNat, Int.reduceLE, Int.reduceLT, Int.reduceBEq, Int.reduceBNe, mCall, he]
theorem rkind_spec (t : Tm) (hs : t.size < room) : (lim C).call 21 [dT t] [] = retB ((lastOf t).kind == 0) := by
  rw [ev_fn 21 Try.f21 _ _ _ rfl Try.func21 rfl Try.ntmps21 rfl]
  simp -implicitDefEqProofs (disch := decide +kernel) only [go_sem, ↓reduceIte, Nat.reduceSub, Nat.reduceAdd, Nat.reduceMul, Nat.reduceBEq, Nat.reduceLT, Nat.reduceLeDiff, Nat.reduceEqDiff, reduceCtorEq, Int.reduceToNat, Int.reduceLE, Int.reduceLT, Int.reduceBEq, Int.reduceBNe, mCall, rsplit_spec t hs]
theorem rfamily_spec (t : Tm) (hs : t.size < room) : (lim C).call 26 [dT t] [] = retI (familyOf t) := by
  unfold familyOf
  rw [ev_fn 26 Try.f26 _ _ _ rfl Try.func26 rfl Try.ntmps26 rfl]
  cases h1 : ((lastOf t).kind == 2)
  · simp -implicitDefEqProofs (disch := decide +kernel) only [go_sem, ↓reduceIte, Nat.reduceSub, Nat.reduceAdd, Nat.reduceMul, Nat.reduceBEq, Nat.reduceLT, Nat.reduceLeDiff, Nat.reduceEqDiff, reduceCtorEq, Int.reduceToNat, Int.reduceLE, Int.reduceLT, Int.reduceBEq, Int.reduceBNe, mCall, rsplit_spec t hs, h1]
  · simp -implicitDefEqProofs (disch := decide +kernel) only [go_sem, ↓reduceIte, Nat.reduceSub, Nat.reduceAdd, Nat.reduceMul, Nat.reduceBEq, Nat.reduceLT, Nat.reduceLeDiff, Nat.reduceEqDiff, reduceCtorEq, Int.reduceToNat, Int.reduceLE, Int.reduceLT, Int.reduceBEq, Int.reduceBNe, mCall, rsplit_spec t hs, h1]
end Go.Proofs.Ytfelfahgeannaaa
