/- Layer 3: the reference's Spine; law SubstSpines. -/
import Derived.Test.YtojahppjdimdbaaF35
set_option linter.unusedSimpArgs false
set_option linter.unusedVariables false
set_option maxRecDepth 100000
namespace Go.Proofs.Ytojahppjdimdbaa
open Go.Proofs
theorem rdone_ok {u : Tm} {m : Nat} (hs : u.size < room) (hm : mayB u = true) : (lim C).call 65 [.href 0 0, dT u] [.var 0 [dI m, dI 0]] = some (.ret (.tup [dT u, dI 0]), [.var 0 [dI m, dI 0]]) := by
  have hma := may_spec u hs
  rw [hm] at hma
  have h0 : ((0 : Int) == 0) = true := rfl
  have h00 : ((0 : Int) != 0) = false := rfl
  rw [ev_fn 65 Try.f65 _ _ _ rfl Try.func65 rfl Try.ntmps65 rfl]
  simp -implicitDefEqProofs (disch := decide +kernel) only [go_sem, ↓reduceIte, Nat.reduceSub, Nat.reduceAdd, Nat.reduceMul, Nat.reduceBEq, Nat.reduceLT, Nat.reduceLeDiff, Nat.reduceEqDiff, reduceCtorEq, Int.reduceToNat, Int.reduceLE, Int.reduceLT, Int.reduceBEq, Int.reduceBNe, mCall, cells_enc, cel3, (enc_eq u).symm, hma, h0, h00]
theorem rdone_big {u : Tm} {m : Nat} (hs : u.size < room) (hm : mayB u = false) : (lim C).call 65 [.href 0 0, dT u] [.var 0 [dI m, dI 0]] = some (.ret (.tup [dT zT, dI 4]), [.var 0 [dI m, dI 4]]) := by
  have hma := may_spec u hs
  rw [hm] at hma
  have h0 : ((0 : Int) == 0) = true := rfl
  have h40 : ((4 : Int) != 0) = true := rfl
  rw [ev_fn 65 Try.f65 _ _ _ rfl Try.func65 rfl Try.ntmps65 rfl]
  simp -implicitDefEqProofs (disch := decide +kernel) only [go_sem, ↓reduceIte, Nat.reduceSub, Nat.reduceAdd, Nat.reduceMul, Nat.reduceBEq, Nat.reduceLT, Nat.reduceLeDiff, Nat.reduceEqDiff, reduceCtorEq, Int.reduceToNat, Int.reduceLE, Int.reduceLT, Int.reduceBEq, Int.reduceBNe, mCall, cells_enc, cel3, (enc_eq u).symm, hma, h0, h40, zT_enc]
theorem rdone_er {m e : Nat} (he : ((e : Int) != 0) = true) : (lim C).call 65 [.href 0 0, dT zT] [.var 0 [dI m, dI (e : Int)]] = some (.ret (.tup [dT zT, dI (e : Int)]), [.var 0 [dI m, dI (e : Int)]]) := by
  have hr : room = 1099511627776 := rfl
  have hma := may_spec zT (by have := (may_parts zT_may).2.1; omega)
  have h0 : ((e : Int) == 0) = false := by simpa using he
  rw [ev_fn 65 Try.f65 _ _ _ rfl Try.func65 rfl Try.ntmps65 rfl]
  simp -implicitDefEqProofs (disch := decide +kernel) only [go_sem, ↓reduceIte, Nat.reduceSub, Nat.reduceAdd, Nat.reduceMul, Nat.reduceBEq, Nat.reduceLT, Nat.reduceLeDiff, Nat.reduceEqDiff, reduceCtorEq, Int.reduceToNat, Int.reduceLE, Int.reduceLT, Int.reduceBEq, Int.reduceBNe, mCall, cells_enc, cel3, (enc_eq zT).symm, hma, h0, he, zT_enc]
theorem rdone_spec {r : R Tm} (hs : ∀ u m, r = .ok u m → u.size < room) (he : ∀ e m, r = .er e m → e = 3 ∨ e = 4) {x : AV} {hp : List HO} (h : outW [] r = some (.ret x, hp)) :
    ∃ h', (lim C).call 65 [.href 0 0, x] hp = some (.ret (.tup [dT (outD r).1, dI (outD r).2]), h') := by
  cases r with
  | ok u m =>
    cases h
    cases hm : mayB u
    · exact ⟨_, by simp only [outD, hm]; exact rdone_big (hs u m rfl) hm⟩
    · exact ⟨_, by simp only [outD, hm]; exact rdone_ok (hs u m rfl) hm⟩
  | er e m =>
    cases h
    exact ⟨_, rdone_er (err_ne (he e m rfl))⟩
def rs_S (t : Tm) (l : List Tm) (i : Nat) : St := mk 46 [(1, dL l), (2, .lref 2 0), (4, .lref 4 0), (7, dI i)] [(2, cel3 t), (4, zc3)] [] []
theorem rspine_spec (t : Tm) (l : List Tm) (hz : t.size + (l.map Tm.size).sum < 1000000000) (hv : vleB topV t = true) (hvs : ∀ x ∈ l, vleB topV x = true) :
    ∃ h, (lim C).call 31 [dT t, dL l] [] = some (.ret (.tup [dT (spineR t l).1, dI (spineR t l).2]), h) := by
  have hr : room = 1099511627776 := rfl
  have hls := len_sum l
  have hzx : ∀ x ∈ l, x.size < room := fun x hx => by have := sum_mem (List.mem_map_of_mem (f := Tm.size) hx); omega
  have hm1 := may_spec t (by omega)
  have he := (enc_eq t).symm
  have hloop : (lim C).code 31 (.loop (cf (cf (cs (cf (cs (cs (cs (bodyOf Try.f31))))))))) (rs_S t l 0) = some (if allB l.length (fun k => mayB (l.getD k default)) then (.exit 0, mk 46 [(1, dL l), (2, .lref 2 0), (4, .lref 4 0), (7, dI l.length), (21, dB false)] [(2, cel3 t), (4, zc3)] [] []) else (.ret, mk 46 [(4, .lref 4 0), (5, dI 1)] [(4, zc3)] [] [])) := by
    refine loop_all (rs_S t l) l.length _ (fun k hk hp => ?_) (fun k hk hp => ?_) ?_ (by simp) (by simp)
    · have hc := may_spec (l.getD k default) (hzx _ (getD_mem hk))
      rw [hp] at hc
      simp -implicitDefEqProofs (disch := decide +kernel) only [cf, cs, bodyOf, Try.f31, Option.getD_some, go_sem, ↓reduceIte, Nat.reduceSub, Nat.reduceAdd, Nat.reduceMul, Nat.reduceBEq, Nat.reduceLT, Nat.reduceLeDiff, Nat.reduceEqDiff, reduceCtorEq, Int.reduceToNat, Int.reduceLE, Int.reduceLT, Int.reduceBEq, Int.reduceBNe, mCall, rs_S, cel3, zc3, lt_true hk, getD_get hk, hc, wrap_succ (n := k) (by omega)]
    · have hc := may_spec (l.getD k default) (hzx _ (getD_mem hk))
      rw [hp] at hc
      simp -implicitDefEqProofs (disch := decide +kernel) only [cf, cs, bodyOf, Try.f31, Option.getD_some, go_sem, ↓reduceIte, Nat.reduceSub, Nat.reduceAdd, Nat.reduceMul, Nat.reduceBEq, Nat.reduceLT, Nat.reduceLeDiff, Nat.reduceEqDiff, reduceCtorEq, Int.reduceToNat, Int.reduceLE, Int.reduceLT, Int.reduceBEq, Int.reduceBNe, mCall, rs_S, cel3, zc3, lt_true hk, getD_get hk, hc]
    · simp -implicitDefEqProofs (disch := decide +kernel) only [cf, cs, bodyOf, Try.f31, Option.getD_some, go_sem, ↓reduceIte, Nat.reduceSub, Nat.reduceAdd, Nat.reduceMul, Nat.reduceBEq, Nat.reduceLT, Nat.reduceLeDiff, Nat.reduceEqDiff, reduceCtorEq, Int.reduceToNat, Int.reduceLE, Int.reduceLT, Int.reduceBEq, Int.reduceBNe, mCall, rs_S, cel3, zc3, lt_false (Nat.le_refl l.length)]
  unfold spineR
  cases h1 : mayB t
  · rw [h1] at hm1
    refine ⟨[], ?_⟩
    rw [ev_fn 31 Try.f31 _ _ _ rfl Try.func31 rfl Try.ntmps31 rfl]
    simp -implicitDefEqProofs (disch := decide +kernel) only [go_sem, ↓reduceIte, Nat.reduceSub, Nat.reduceAdd, Nat.reduceMul, Nat.reduceBEq, Nat.reduceLT, Nat.reduceLeDiff, Nat.reduceEqDiff, reduceCtorEq, Int.reduceToNat, Int.reduceLE, Int.reduceLT, Int.reduceBEq, Int.reduceBNe, mCall, cells_enc, cel3, he, hm1, zT_enc]
  · rw [h1] at hm1
    cases h2 : maysB l
    · have h2' : (allB l.length fun k => mayB (l.getD k default)) = false := h2
      rw [h2', if_neg (by simp)] at hloop
      refine ⟨[], ?_⟩
      rw [ev_fn 31 Try.f31 _ _ _ rfl Try.func31 rfl Try.ntmps31 rfl]
      simp -implicitDefEqProofs (disch := decide +kernel) only [go_sem, ↓reduceIte, Nat.reduceSub, Nat.reduceAdd, Nat.reduceMul, Nat.reduceBEq, Nat.reduceLT, Nat.reduceLeDiff, Nat.reduceEqDiff, reduceCtorEq, Int.reduceToNat, Int.reduceLE, Int.reduceLT, Int.reduceBEq, Int.reduceBNe, mCall, cells_enc, cel3, he, hm1]
      rw [loop_at hloop ?hb ?hs]
      case hb => rfl
      case hs => rfl
      simp -implicitDefEqProofs (disch := decide +kernel) only [go_sem, ↓reduceIte, Nat.reduceSub, Nat.reduceAdd, Nat.reduceMul, Nat.reduceBEq, Nat.reduceLT, Nat.reduceLeDiff, Nat.reduceEqDiff, reduceCtorEq, Int.reduceToNat, Int.reduceLE, Int.reduceLT, Int.reduceBEq, Int.reduceBNe, mCall, zc3, zT_enc]
    · have h2' : (allB l.length fun k => mayB (l.getD k default)) = true := h2
      rw [h2', if_pos rfl] at hloop
      obtain ⟨p1, p2, p3⟩ := may_parts h1
      have hms := maysB_iff.1 h2
      have hw := rspn_walk (rap_walk 40000) l t 0 [] topV (by omega) (by omega) p1 hv (by decide) (by decide) (fun x hx => ⟨(may_parts (hms x hx)).1, hvs x hx⟩) (by omega)
      have hsz : ∀ u m, spnA (ap 40000) t l 0 = .ok u m → u.size < room := fun u m hu => by
        have hf := spn_fits (ap_fits 40000) l t 0 topV u m (by omega) p1 hv (by decide) (fun x hx => ⟨(may_parts (hms x hx)).1, hvs x hx⟩) hu
        have q1 := hf.size
        have q2 := hf.lim
        have q : (m - 0) * 4001 ≤ 40000 * 4001 := Nat.mul_le_mul_right _ (by omega)
        omega
      have her : ∀ e m, spnA (ap 40000) t l 0 = .er e m → e = 3 ∨ e = 4 := fun e m h => spn_err (fun t s n e m h => ap_err 40000 t s n e m h) _ _ _ _ _ h
      obtain ⟨x, hp, hx⟩ : ∃ x : Tm, ∃ hp, outW [] (spnA (ap 40000) t l 0) = some (.ret (dT x), hp) := by
        cases spnA (ap 40000) t l 0 with
        | ok u m => exact ⟨u, _, rfl⟩
        | er e m => exact ⟨zT, _, rfl⟩
      obtain ⟨h', hd⟩ := rdone_spec hsz her hx
      have hw' : (lim C).call 64 [.href 0 0, dT t, dL l] [.var 0 [dI 0, dI 0]] = some (.ret (dT x), hp) := by rw [← hx]; exact hw
      refine ⟨h', ?_⟩
      rw [ev_fn 31 Try.f31 _ _ _ rfl Try.func31 rfl Try.ntmps31 rfl]
      simp -implicitDefEqProofs (disch := decide +kernel) only [go_sem, ↓reduceIte, Nat.reduceSub, Nat.reduceAdd, Nat.reduceMul, Nat.reduceBEq, Nat.reduceLT, Nat.reduceLeDiff, Nat.reduceEqDiff, reduceCtorEq, Int.reduceToNat, Int.reduceLE, Int.reduceLT, Int.reduceBEq, Int.reduceBNe, mCall, cells_enc, cel3, he, hm1]
      rw [loop_at hloop ?hb ?hs]
      case hb => rfl
      case hs => rfl
      generalize outD (spnA (ap 40000) t l 0) = rr at hd ⊢
      simp -implicitDefEqProofs (disch := decide +kernel) only [go_sem, ↓reduceIte, Nat.reduceSub, Nat.reduceAdd, Nat.reduceMul, Nat.reduceBEq, Nat.reduceLT, Nat.reduceLeDiff, Nat.reduceEqDiff, reduceCtorEq, Int.reduceToNat, Int.reduceLE, Int.reduceLT, Int.reduceBEq, Int.reduceBNe, mCall, cells_enc, cel3, zc3, he, hw', hd, (enc_eq x).symm, (enc_eq rr.1).symm]
theorem underG_list (l : List Tm) (hz : ∀ x ∈ l, x.size < room) : ∀ x ∈ (underG ⟨l, 3⟩).L, x.size < room := by
  have hr : room = 1099511627776 := rfl
  intro x hx
  simp only [underG, List.mem_append, List.mem_map, List.mem_singleton] at hx
  rcases hx with ⟨y, hy, rfl⟩ | rfl
  · rw [upG_size]; exact hz y hy
  · have := (may_parts may_var0).2.1; omega
theorem outD_size {r : R Tm} : (outD r).1.size ≤ 4000 := (may_parts (outD_may r)).2.1
set_option maxHeartbeats 1000000 in
theorem substSpines_holds (t : Tm) (w : Wf t) (hs : t.size ≤ 1048576) (l : List Tm) (wl : ∀ t ∈ l, Wf t) (hsl : (l.map Tm.size).sum + 1 ≤ 1048576) (n : Int) (jn : in64 n) :
    ∃ h, (lim C).call 10 [dT t, dL l, dI n] [] = some (.ret (dB true), h) := by
  have hr : room = 1099511627776 := rfl
  have hs' : t.size < room := by omega
  obtain ⟨hlr, hzr⟩ := lists_room hsl
  refine ⟨[], ?_⟩
  rw [ev_fn 10 Try.f10 _ _ _ rfl Try.func10 rfl Try.ntmps10 rfl]
  simp -implicitDefEqProofs (disch := decide +kernel) only [go_sem, ↓reduceIte, Nat.reduceSub, Nat.reduceAdd, Nat.reduceMul, Nat.reduceBEq, Nat.reduceLT, Nat.reduceLeDiff, Nat.reduceEqDiff, reduceCtorEq, Int.reduceToNat, Int.reduceLE, Int.reduceLT, Int.reduceBEq, Int.reduceBNe, mCall, awake3_spec, light_spec t _ _ hs', lights_spec l _ _ hlr hzr, cells_enc, cel3, (enc_eq t).symm]
  cases h1 : lightB t 5000 80
  · simp -implicitDefEqProofs (disch := decide +kernel) only [go_sem, ↓reduceIte, Nat.reduceSub, Nat.reduceAdd, Nat.reduceMul, Nat.reduceBEq, Nat.reduceLT, Nat.reduceLeDiff, Nat.reduceEqDiff, reduceCtorEq, Int.reduceToNat, Int.reduceLE, Int.reduceLT, Int.reduceBEq, Int.reduceBNe, mCall, awake3_spec, light_spec t _ _ hs', lights_spec l _ _ hlr hzr, cells_enc, cel3, (enc_eq t).symm, h1]
  · skip
    simp -implicitDefEqProofs (disch := decide +kernel) only [go_sem, ↓reduceIte, Nat.reduceSub, Nat.reduceAdd, Nat.reduceMul, Nat.reduceBEq, Nat.reduceLT, Nat.reduceLeDiff, Nat.reduceEqDiff, reduceCtorEq, Int.reduceToNat, Int.reduceLE, Int.reduceLT, Int.reduceBEq, Int.reduceBNe, mCall, awake3_spec, light_spec t _ _ hs', lights_spec l _ _ hlr hzr, cells_enc, cel3, (enc_eq t).symm, h1]
    cases h2 : lightsB l 5000 80
    · simp -implicitDefEqProofs (disch := decide +kernel) only [go_sem, ↓reduceIte, Nat.reduceSub, Nat.reduceAdd, Nat.reduceMul, Nat.reduceBEq, Nat.reduceLT, Nat.reduceLeDiff, Nat.reduceEqDiff, reduceCtorEq, Int.reduceToNat, Int.reduceLE, Int.reduceLT, Int.reduceBEq, Int.reduceBNe, mCall, awake3_spec, light_spec t _ _ hs', lights_spec l _ _ hlr hzr, cells_enc, cel3, (enc_eq t).symm, h2]
    · skip
      simp -implicitDefEqProofs (disch := decide +kernel) only [go_sem, ↓reduceIte, Nat.reduceSub, Nat.reduceAdd, Nat.reduceMul, Nat.reduceBEq, Nat.reduceLT, Nat.reduceLeDiff, Nat.reduceEqDiff, reduceCtorEq, Int.reduceToNat, Int.reduceLE, Int.reduceLT, Int.reduceBEq, Int.reduceBNe, mCall, awake3_spec, light_spec t _ _ hs', lights_spec l _ _ hlr hzr, cells_enc, cel3, (enc_eq t).symm, h2]
      obtain ⟨hlen, hli⟩ := lights_parts h2
      have hv := vle_low (light_low h1)
      have hvl : ∀ x ∈ l, vleB 1099511627776 x = true := fun x hx => vle_low (light_low (hli x hx))
      obtain ⟨x1, a1⟩ := sspine_spec t l (by omega) (vle_mono (by decide) hv) (fun x hx => vle_mono (by decide) (hvl x hx))
      obtain ⟨x2, a2⟩ := rspine_spec t l (by omega) (vle_mono (by decide) hv) (fun x hx => vle_mono (by decide) (hvl x hx))
      have hsp : (spineR t l).1.size < room := by have := (may_parts (spineR_may t l)).2.1; omega
      generalize spineR t l = sr at a1 a2 hsp
      have s1 := rsame_spec sr.1 hsp sr.1
      rw [sameB_refl] at s1
      have hu1 := underG_spec ⟨l, 3⟩ (fun x hx => ⟨hzr x hx, vle_mono (by omega) (hvl x hx)⟩) hlr ⟨by simp, by simp⟩
      have hu2 := runder_spec ⟨l, 3⟩ (fun x hx => ⟨hzr x hx, vle_mono (by omega) (hvl x hx)⟩) hlr ⟨by simp, by simp⟩
      have hul : (underG ⟨l, 3⟩).L.length < room := by simp [underG]; omega
      have s2 := rlist_spec (underG ⟨l, 3⟩).L (underG ⟨l, 3⟩).L hul (underG_list l hzr)
      rw [sameL_refl] at s2
      have hi1 := same_spec n
      have hi2 := risame_spec n
      have hidl : (idS n).L.length < room := by have := idN_le n; simp [idS, idL_len]; omega
      have hidz : ∀ x ∈ (idS n).L, x.size < room := fun x hx => by
        unfold idS idL at hx
        simp only [List.mem_map, List.mem_range] at hx
        obtain ⟨j, hj, rfl⟩ := hx
        rw [mk_size]; simp; omega
      have s3 := rlist_spec (idS n).L (idS n).L hidl hidz
      rw [sameL_refl] at s3
      have hes := encS_mk l 3
      generalize hug : underG ⟨l, 3⟩ = ug at hu1 hu2 s2
      generalize hid : idS n = id at hi1 hi2 s3
      have e1 : (sr.2 == sr.2) = true := by simp
      have e2 : (ug.sh == ug.sh) = true := by simp
      have e3 : (id.sh == id.sh) = true := by simp
      simp -implicitDefEqProofs (disch := decide +kernel) only [go_sem, ↓reduceIte, Nat.reduceSub, Nat.reduceAdd, Nat.reduceMul, Nat.reduceBEq, Nat.reduceLT, Nat.reduceLeDiff, Nat.reduceEqDiff, reduceCtorEq, Int.reduceToNat, Int.reduceLE, Int.reduceLT, Int.reduceBEq, Int.reduceBNe, mCall, cells_enc, cells_encS, cel3, cel2, (enc_eq t).symm, (enc_eq sr.1).symm, hes, (encS_eq ug).symm, (encS_eq id).symm, a1, a2, s1, hu1, hu2, s2, hi1, hi2, s3, e1, e2, e3]
end Go.Proofs.Ytojahppjdimdbaa
