/- Layer 3: the reference's Spine; law SubstSpines. -/
import Derived.Test.YtmemmdfjlhamfaaF35
set_option linter.unusedSimpArgs false
set_option linter.unusedVariables false
set_option maxRecDepth 100000
namespace Go.Proofs.Ytmemmdfjlhamfaa
open Go.Proofs
theorem rdone_ok {u : Tm} {m : Nat} (hs : u.size < room) (hm : mayB u = true) : (lim C).call 117 [.href 0 0, dT u] [.var 0 [dI m, dI 0]] = some (.ret (.tup [dT u, dI 0]), [.var 0 [dI m, dI 0]]) := by
  have hma := may_spec u hs
  rw [hm] at hma
  have h0 : ((0 : Int) == 0) = true := rfl
  have h00 : ((0 : Int) != 0) = false := rfl
  rw [ev_fn 117 Try.f117 _ _ _ rfl Try.func117 rfl Try.ntmps117 rfl]
  simp -implicitDefEqProofs (disch := decide +kernel) only [go_sem, ↓reduceIte, Nat.reduceSub, Nat.reduceAdd, Nat.reduceMul, Nat.reduceBEq, Nat.reduceLT, Nat.reduceLeDiff, Nat.reduceEqDiff, reduceCtorEq, Int.reduceToNat, Int.reduceLE, Int.reduceLT, Int.reduceBEq, Int.reduceBNe, mCall, cells_enc, cel3, (enc_eq u).symm, hma, h0, h00]
theorem rdone_big {u : Tm} {m : Nat} (hs : u.size < room) (hm : mayB u = false) : (lim C).call 117 [.href 0 0, dT u] [.var 0 [dI m, dI 0]] = some (.ret (.tup [dT zT, dI 4]), [.var 0 [dI m, dI 4]]) := by
  have hma := may_spec u hs
  rw [hm] at hma
  have h0 : ((0 : Int) == 0) = true := rfl
  have h40 : ((4 : Int) != 0) = true := rfl
  rw [ev_fn 117 Try.f117 _ _ _ rfl Try.func117 rfl Try.ntmps117 rfl]
  simp -implicitDefEqProofs (disch := decide +kernel) only [go_sem, ↓reduceIte, Nat.reduceSub, Nat.reduceAdd, Nat.reduceMul, Nat.reduceBEq, Nat.reduceLT, Nat.reduceLeDiff, Nat.reduceEqDiff, reduceCtorEq, Int.reduceToNat, Int.reduceLE, Int.reduceLT, Int.reduceBEq, Int.reduceBNe, mCall, cells_enc, cel3, (enc_eq u).symm, hma, h0, h40, zT_enc]
theorem rdone_er {m e : Nat} (he : ((e : Int) != 0) = true) : (lim C).call 117 [.href 0 0, dT zT] [.var 0 [dI m, dI (e : Int)]] = some (.ret (.tup [dT zT, dI (e : Int)]), [.var 0 [dI m, dI (e : Int)]]) := by
  have hr : room = 1099511627776 := rfl
  have hma := may_spec zT (by have := (may_parts zT_may).2.1; omega)
  have h0 : ((e : Int) == 0) = false := by simpa using he
  rw [ev_fn 117 Try.f117 _ _ _ rfl Try.func117 rfl Try.ntmps117 rfl]
  simp -implicitDefEqProofs (disch := decide +kernel) only [go_sem, ↓reduceIte, Nat.reduceSub, Nat.reduceAdd, Nat.reduceMul, Nat.reduceBEq, Nat.reduceLT, Nat.reduceLeDiff, Nat.reduceEqDiff, reduceCtorEq, Int.reduceToNat, Int.reduceLE, Int.reduceLT, Int.reduceBEq, Int.reduceBNe, mCall, cells_enc, cel3, (enc_eq zT).symm, hma, h0, he, zT_enc]
theorem rdone_spec {r : R Tm} (hs : ∀ u m, r = .ok u m → u.size < room) (he : ∀ e m, r = .er e m → e = 3 ∨ e = 4) {x : AV} {hp : List HO} (h : outW [] r = some (.ret x, hp)) :
    ∃ h', (lim C).call 117 [.href 0 0, x] hp = some (.ret (.tup [dT (outD r).1, dI (outD r).2]), h') := by
  cases r with
  | ok u m =>
    cases h
    cases hm : mayB u
    · exact ⟨_, by simp only [outD, hm]; exact rdone_big (hs u m rfl) hm⟩
    · exact ⟨_, by simp only [outD, hm]; exact rdone_ok (hs u m rfl) hm⟩
  | er e m =>
    cases h
    exact ⟨_, rdone_er (err_ne (he e m rfl))⟩
theorem underG_list (l : List Tm) (hz : ∀ x ∈ l, x.size < room) : ∀ x ∈ (underG ⟨l, 3⟩).L, x.size < room := by
  have hr : room = 1099511627776 := rfl
  intro x hx
  simp only [underG, List.mem_append, List.mem_map, List.mem_singleton] at hx
  rcases hx with ⟨y, hy, rfl⟩ | rfl
  · rw [upG_size]; exact hz y hy
  · have := (may_parts may_var0).2.1; omega
theorem outD_size {r : R Tm} : (outD r).1.size ≤ 4000 := (may_parts (outD_may r)).2.1
end Go.Proofs.Ytmemmdfjlhamfaa
