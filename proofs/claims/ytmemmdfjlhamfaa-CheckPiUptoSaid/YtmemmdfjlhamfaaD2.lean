/- subst: done, Apply, Spine. -/
import Derived.Test.YtmemmdfjlhamfaaD1
import Derived.Test.YtmemmdfjlhamfaaKE
import Derived.Test.YtmemmdfjlhamfaaRows
set_option linter.unusedSimpArgs false
set_option linter.unusedVariables false
set_option maxRecDepth 100000
namespace Go.Proofs.Ytmemmdfjlhamfaa
open Go.Proofs
theorem done0_eq (x : AV) (a b : HO) : done0 x [a, b] = mk 14 [(0, x), (2, .href 2 0), (3, .href 3 0), (4, .undef)] [] [a, b, .var 0 zTerm, .var 0 [dI 0]] [] := rfl
theorem doneX_eq (O : Orc) (x : AV) (heap : List HO) : doneX O [x] heap = (O.code 64 (cs (cs (bodyOf Try.f64))) (done0 x heap)).bind (doneEnd heap.length) := rfl
theorem doneEnd_ret (n : Nat) (σ : St) : doneEnd n (.ret, σ) = leave Try.prog Try.f64 (.ret, σ) := rfl
theorem doneEnd_pan (n : Nat) (e : Int) (σ : St) : doneEnd n (.pan (.iface 29 (.int .i64 e)), σ) = recK n e σ.mem.heap (σ.tmps.getD 2 .undef) (σ.tmps.getD 3 .undef) (σ.mem.heap[n]?) (σ.mem.heap[n + 1]?) := rfl
theorem recK_s (n : Nat) (e : Int) (h : List HO) (u v : Nat) (a b c d : AV) : recK n e h (.href n 0) (.href (n + 1) 0) (some (.var u [a, b, c])) (some (.var v [d])) = some (.ret (.tup [.d (.agg [.int .i64 0, .int .i64 0, .slc []]), .d (.int .i64 e)]), (h.set n (.var u zTerm)).set (n + 1) (.var v [.d (.int .i64 e)])) := by
  simp [recK]
/-- What done comes to. -/
def outD : R Tm → Tm × Int
  | .ok u m => if mayB u then (u, 0) else (zT, 4)
  | .er e m => (zT, e)
theorem done_ok {g : Nat} {a b : List AV} {u : Tm} {m : Nat} (hs : u.size < room) (hm : mayB u = true)
    (hdo : (lim C).call g [.href 4 0, .href 0 0, .href 1 0] [.var 0 a, .var 0 b, .var 0 zTerm, .var 0 [dI 0], .var 0 [dI 0]] = some (.ret (dT u), [.var 0 a, .var 0 b, .var 0 zTerm, .var 0 [dI 0], .var 0 [dI m]])) :
    (lim C).call 64 [.fn g [] [.href 0 0, .href 1 0]] [.var 0 a, .var 0 b] = some (.ret (.tup [dT u, dI 0]), [.var 0 a, .var 0 b, .var 0 (cel3 u), .var 0 [dI 0], .var 0 [dI m]]) := by
  have hma := tMay_spec u hs
  rw [hm] at hma
  rw [ev_ext (f := 64) (x := doneX) rfl, doneX_eq, done0_eq]
  unfold zTerm at hdo
  simp -implicitDefEqProofs (disch := decide +kernel) only [cf, cs, bodyOf, Try.f64, Option.getD_some, go_sem, ↓reduceIte, Nat.reduceSub, Nat.reduceAdd, Nat.reduceMul, Nat.reduceBEq, Nat.reduceLT, Nat.reduceLeDiff, Nat.reduceEqDiff, reduceCtorEq, Int.reduceToNat, Int.reduceLE, Int.reduceLT, Int.reduceBEq, Int.reduceBNe, mCall, zTerm, cells_enc, cel3, hdo, hma, doneEnd_ret, (enc_eq u).symm]
theorem done_big {g : Nat} {a b : List AV} {u : Tm} {m : Nat} (hs : u.size < room) (hm : mayB u = false)
    (hdo : (lim C).call g [.href 4 0, .href 0 0, .href 1 0] [.var 0 a, .var 0 b, .var 0 zTerm, .var 0 [dI 0], .var 0 [dI 0]] = some (.ret (dT u), [.var 0 a, .var 0 b, .var 0 zTerm, .var 0 [dI 0], .var 0 [dI m]])) :
    (lim C).call 64 [.fn g [] [.href 0 0, .href 1 0]] [.var 0 a, .var 0 b] = some (.ret (.tup [dT zT, dI 4]), [.var 0 a, .var 0 b, .var 0 zTerm, .var 0 [dI 4], .var 0 [dI m]]) := by
  have hma := tMay_spec u hs
  rw [hm] at hma
  rw [ev_ext (f := 64) (x := doneX) rfl, doneX_eq, done0_eq]
  unfold zTerm at hdo
  simp -implicitDefEqProofs (disch := decide +kernel) only [cf, cs, bodyOf, Try.f64, Option.getD_some, go_sem, ↓reduceIte, Nat.reduceSub, Nat.reduceAdd, Nat.reduceMul, Nat.reduceBEq, Nat.reduceLT, Nat.reduceLeDiff, Nat.reduceEqDiff, reduceCtorEq, Int.reduceToNat, Int.reduceLE, Int.reduceLT, Int.reduceBEq, Int.reduceBNe, mCall, zTerm, cells_enc, cel3, hdo, hma, fail_spec, doneEnd_pan, recK_s, zT_enc]
theorem done_er {g : Nat} {a b : List AV} {e m : Nat}
    (hdo : (lim C).call g [.href 4 0, .href 0 0, .href 1 0] [.var 0 a, .var 0 b, .var 0 zTerm, .var 0 [dI 0], .var 0 [dI 0]] = some (.pan (errV e), [.var 0 a, .var 0 b, .var 0 zTerm, .var 0 [dI 0], .var 0 [dI m]])) :
    (lim C).call 64 [.fn g [] [.href 0 0, .href 1 0]] [.var 0 a, .var 0 b] = some (.ret (.tup [dT zT, dI e]), [.var 0 a, .var 0 b, .var 0 zTerm, .var 0 [dI e], .var 0 [dI m]]) := by
  rw [ev_ext (f := 64) (x := doneX) rfl, doneX_eq, done0_eq]
  unfold zTerm at hdo
  simp -implicitDefEqProofs (disch := decide +kernel) only [cf, cs, bodyOf, Try.f64, Option.getD_some, go_sem, ↓reduceIte, Nat.reduceSub, Nat.reduceAdd, Nat.reduceMul, Nat.reduceBEq, Nat.reduceLT, Nat.reduceLeDiff, Nat.reduceEqDiff, reduceCtorEq, Int.reduceToNat, Int.reduceLE, Int.reduceLT, Int.reduceBEq, Int.reduceBNe, mCall, zTerm, cells_enc, cel3, hdo, doneEnd_pan, recK_s, zT_enc]
/-- As done tells it. -/
theorem done_spec {g : Nat} {a b : List AV} {r : R Tm} (hs : ∀ u m, r = .ok u m → u.size < room)
    (hdo : (lim C).call g [.href 4 0, .href 0 0, .href 1 0] [.var 0 a, .var 0 b, .var 0 zTerm, .var 0 [dI 0], .var 0 [dI 0]] = outR [.var 0 a, .var 0 b, .var 0 zTerm, .var 0 [dI 0]] r) :
    ∃ h, (lim C).call 64 [.fn g [] [.href 0 0, .href 1 0]] [.var 0 a, .var 0 b] = some (.ret (.tup [dT (outD r).1, dI (outD r).2]), h) := by
  cases r with
  | ok u m =>
    cases hm : mayB u
    · exact ⟨_, by simp only [outD, hm]; exact done_big (hs u m rfl) hm hdo⟩
    · exact ⟨_, by simp only [outD, hm]; exact done_ok (hs u m rfl) hm hdo⟩
  | er e m => exact ⟨_, done_er hdo⟩
/-- Apply, in plain words. -/
def applyR (t : Tm) (s : Sb) : Tm × Int := if mayB t && smayB s then outD (ap 40000 t s 0) else (zT, 1)
def spineR (t : Tm) (l : List Tm) : Tm × Int := if mayB t && maysB l then outD (spnA (ap 40000) t l 0) else (zT, 1)
theorem ap1_spec {t : Tm} {s : Sb} {r : R Tm}
    (hw : (lim C).call 66 [.href 4 0, dT t, dS s] [.var 0 (cel3 t), .var 0 (cel2 s), .var 0 zTerm, .var 0 [dI 0], .var 0 [dI 0]] = outR [.var 0 (cel3 t), .var 0 (cel2 s), .var 0 zTerm, .var 0 [dI 0]] r) :
    (lim C).call 65 [.href 4 0, .href 0 0, .href 1 0] [.var 0 (cel3 t), .var 0 (cel2 s), .var 0 zTerm, .var 0 [dI 0], .var 0 [dI 0]] = outR [.var 0 (cel3 t), .var 0 (cel2 s), .var 0 zTerm, .var 0 [dI 0]] r := by
  have he := (enc_eq t).symm
  have hes := (encS_eq s).symm
  rw [ev_fn 65 Try.f65 _ _ _ rfl Try.func65 rfl Try.ntmps65 rfl]
  simp only [zTerm, cel3, cel2] at hw ⊢
  cases r with
  | ok u m =>
    simp only [outR] at hw ⊢
    simp -implicitDefEqProofs (disch := decide +kernel) only [go_sem, ↓reduceIte, Nat.reduceSub, Nat.reduceAdd, Nat.reduceMul, Nat.reduceBEq, Nat.reduceLT, Nat.reduceLeDiff, Nat.reduceEqDiff, reduceCtorEq, Int.reduceToNat, Int.reduceLE, Int.reduceLT, Int.reduceBEq, Int.reduceBNe, mCall, he, hes, hw, (enc_eq u).symm, cells_enc, cel3]
  | er e m =>
    simp only [outR] at hw ⊢
    simp -implicitDefEqProofs (disch := decide +kernel) only [go_sem, ↓reduceIte, Nat.reduceSub, Nat.reduceAdd, Nat.reduceMul, Nat.reduceBEq, Nat.reduceLT, Nat.reduceLeDiff, Nat.reduceEqDiff, reduceCtorEq, Int.reduceToNat, Int.reduceLE, Int.reduceLT, Int.reduceBEq, Int.reduceBNe, mCall, he, hes, hw]

theorem smay_parts {s : Sb} (h : smayB s = true) : s.L.length ≤ 200 ∧ 0 ≤ s.sh ∧ s.sh ≤ 1048576 ∧ ∀ x ∈ s.L, mayB x = true := by
  unfold smayB at h
  simp only [Bool.and_eq_true, decide_eq_true_eq] at h
  obtain ⟨⟨⟨h1, h2⟩, h3⟩, h4⟩ := h
  exact ⟨by omega, h2, h3, maysB_iff.1 h4⟩
abbrev topV : Int := 1125899906842624
theorem pre_top {t : Tm} {s : Sb} (ht : mayB t = true) (hs : smayB s = true) (hv : vleB topV t = true) (hvs : ∀ x ∈ s.L, vleB topV x = true) :
    Pre 40000 0 topV (s.sh - s.L.length) (topV + 1048576) t s := by
  have hr : room = 1099511627776 := rfl
  obtain ⟨p1, p2, p3⟩ := may_parts ht
  obtain ⟨q1, q2, q3, q4⟩ := smay_parts hs
  exact ⟨by omega, p1, hv, by decide, by decide, by omega, by omega, ⟨q4, fun x hx => vle_mono (by decide) (hvs x hx), q2⟩, by decide, by omega, by omega, by omega, by omega⟩
theorem ap_size {t : Tm} {s : Sb} {u : Tm} {m : Nat} (ht : mayB t = true) (hs : smayB s = true) (hv : vleB topV t = true) (hvs : ∀ x ∈ s.L, vleB topV x = true) (h : ap 40000 t s 0 = .ok u m) : Fits 0 m (topV + 1048576) 0 u := by
  have p := pre_top ht hs hv hvs
  exact (ap_fits _ _ _ _ _ _ _ _ _ p.nodes p.vle p.k0 p.kh p.kd p.sd p.ok h).2
theorem sapply_spec (t : Tm) (s : Sb) (hz : t.size < room) (hzs : ∀ x ∈ s.L, x.size < room) (hl : s.L.length < room) (hv : vleB topV t = true) (hvs : ∀ x ∈ s.L, vleB topV x = true) :
    ∃ h, (lim C).call 35 [dT t, dS s] [] = some (.ret (.tup [dT (applyR t s).1, dI (applyR t s).2]), h) := by
  have hr : room = 1099511627776 := rfl
  have hm1 := tMay_spec t hz
  have hm2 := smayS_spec s hl hzs
  have he := (enc_eq t).symm
  have hes := (encS_eq s).symm
  unfold applyR
  cases h1 : mayB t
  · rw [h1] at hm1
    refine ⟨[.var 0 (cel3 t), .var 0 (cel2 s)], ?_⟩
    rw [ev_fn 35 Try.f35 _ _ _ rfl Try.func35 rfl Try.ntmps35 rfl]
    simp -implicitDefEqProofs (disch := decide +kernel) only [go_sem, ↓reduceIte, Nat.reduceSub, Nat.reduceAdd, Nat.reduceMul, Nat.reduceBEq, Nat.reduceLT, Nat.reduceLeDiff, Nat.reduceEqDiff, reduceCtorEq, Int.reduceToNat, Int.reduceLE, Int.reduceLT, Int.reduceBEq, Int.reduceBNe, mCall, cells_enc, cells_encS, cel3, cel2, he, hes, hm1, zT_enc]
  · rw [h1] at hm1
    cases h2 : smayB s
    · rw [h2] at hm2
      refine ⟨[.var 0 (cel3 t), .var 0 (cel2 s)], ?_⟩
      rw [ev_fn 35 Try.f35 _ _ _ rfl Try.func35 rfl Try.ntmps35 rfl]
      simp -implicitDefEqProofs (disch := decide +kernel) only [go_sem, ↓reduceIte, Nat.reduceSub, Nat.reduceAdd, Nat.reduceMul, Nat.reduceBEq, Nat.reduceLT, Nat.reduceLeDiff, Nat.reduceEqDiff, reduceCtorEq, Int.reduceToNat, Int.reduceLE, Int.reduceLT, Int.reduceBEq, Int.reduceBNe, mCall, cells_enc, cells_encS, cel3, cel2, he, hes, hm1, hm2, zT_enc]
    · rw [h2] at hm2
      have hw := ap_walk 40000 t s 0 [.var 0 (cel3 t), .var 0 (cel2 s), .var 0 zTerm, .var 0 [dI 0]] _ _ _ (pre_top h1 h2 hv hvs)
      obtain ⟨h, hd⟩ := done_spec (g := 65) (a := cel3 t) (b := cel2 s) (r := ap 40000 t s 0) (fun u m hu => by
        have := (ap_size h1 h2 hv hvs hu)
        have := this.size
        have := ‹Fits 0 m (topV + 1048576) 0 u›.lim
        have q : (m - 0) * 4001 ≤ 40000 * 4001 := Nat.mul_le_mul_right _ (by omega)
        omega) (ap1_spec hw)
      simp only [cel3, cel2] at hd
      refine ⟨h, ?_⟩
      rw [ev_fn 35 Try.f35 _ _ _ rfl Try.func35 rfl Try.ntmps35 rfl]
      simp -implicitDefEqProofs (disch := decide +kernel) only [go_sem, ↓reduceIte, Nat.reduceSub, Nat.reduceAdd, Nat.reduceMul, Nat.reduceBEq, Nat.reduceLT, Nat.reduceLeDiff, Nat.reduceEqDiff, reduceCtorEq, Int.reduceToNat, Int.reduceLE, Int.reduceLT, Int.reduceBEq, Int.reduceBNe, mCall, cells_enc, cells_encS, cel3, cel2, he, hes, hm1, hm2, hd]

end Go.Proofs.Ytmemmdfjlhamfaa
/- Substitutions: laws in plain words. -/
set_option linter.unusedVariables false
set_option linter.unusedSimpArgs false
namespace Go.Proofs.Ytmemmdfjlhamfaa
theorem getD_map {l : List Tm} {g : Tm → Tm} {i : Nat} (h : i < l.length) : (l.map g).getD i default = g (l.getD i default) := by
  rw [List.getD_eq_getElem?_getD, List.getD_eq_getElem?_getD, List.getElem?_map, List.getElem?_eq_getElem h]; rfl
theorem getD_append_l {l l' : List Tm} {i : Nat} (h : i < l.length) : (l ++ l').getD i default = l.getD i default := by
  rw [List.getD_eq_getElem?_getD, List.getD_eq_getElem?_getD, List.getElem?_append_left h]
theorem of_under0 (s : Sb) : ofS (underS s) 0 = var0 := by
  unfold ofS
  rw [under_len, if_pos (by omega), show s.L.length + 1 - 1 - (0 : Int).toNat = s.L.length by omega]
  simp only [underS]
  rw [List.getD_eq_getElem?_getD, List.getElem?_append_right (by simp)]
  simp
theorem up_var (j n : Int) (h : j ≥ n) : upT (.mk 4 j []) 1 n = .mk 4 (j + 1) [] := by
  unfold upT
  rw [mapT_eq]
  simp [mk_kind, mk_head, mk_args, gUp, h]
theorem of_under (s : Sb) {i : Int} (h : 0 ≤ i) (hs : 0 ≤ s.sh) : ofS (underS s) (i + 1) = upT (ofS s i) 1 0 := by
  unfold ofS
  rw [under_len]
  by_cases hi : i < s.L.length
  · rw [if_pos (by omega), if_pos hi, show s.L.length + 1 - 1 - (i + 1).toNat = s.L.length - 1 - i.toNat by omega]
    simp only [underS]
    rw [getD_append_l (by simp; omega), getD_map (by omega)]
  · rw [if_neg (by omega), if_neg hi, up_var _ _ (by omega)]
    simp only [underS]
    congr 1; omega
/-! ### where variables become variables -/
def below_n (s : Sb) : Nat → Sb
  | 0 => s
  | d + 1 => underS (below_n s d)
theorem below_bnd (s : Sb) (d : Nat) (t : Tm) (i : Nat) : below (below_n s d) t i = below_n s (d + bnd t i) := by
  unfold below
  rcases Nat.eq_zero_or_pos (bnd t i) with h | h
  · rw [h, if_neg (by omega)]; rfl
  · have := bnd_le t i
    have h1 : bnd t i = 1 := by omega
    rw [h1, if_pos rfl]; rfl
theorem spn_var (A : Tm → Sb → Nat → R Tm) (j : Int) (l : List Tm) (n : Nat) : spnA A (.mk 4 j []) l n = .ok (.mk 4 j l) n := by
  cases l with
  | nil => rfl
  | cons a l => simp [spnA, mk_kind, mk_head, mk_args, heads]
theorem seqF_ok {g : Nat → Nat → R Tm} {F : Nat → Tm} {c : Nat → Nat} {n : Nat} : ∀ k : Nat, (∀ i, i < k → ∀ m, n ≤ m → m + c i ≤ n + ((List.range k).map c).sum → g i m = .ok (F i) (m + c i)) → seqF g n k = .ok ((List.range k).map F) (n + ((List.range k).map c).sum)
  | 0, h => rfl
  | k + 1, h => by
    have hs : ((List.range (k + 1)).map c).sum = ((List.range k).map c).sum + c k := by rw [List.range_succ, List.map_append, List.sum_append]; simp
    rw [hs] at h ⊢
    simp only [seqF]
    rw [seqF_ok k (fun i hi m h1 h2 => h i (by omega) m h1 (by omega))]
    simp only [R.bind_ok]
    rw [h k (by omega) _ (by omega) (by omega)]
    simp only [R.bind_ok]
    rw [List.range_succ, List.map_append, Nat.add_assoc]
    rfl
theorem ap_ren {s : Sb} {G : Int → Int → Int} {P : Int → Int → Bool} (hH : ∀ (d : Nat) (i : Int), 0 ≤ i → P i d = true → ofS (below_n s d) i = .mk 4 (G i d) []) :
    ∀ t : Tm, nodesB t = true → ∀ (f d n : Nat), canB P t d = true → 40000 ≤ n + f → n + t.size ≤ 40000 → ap f t (below_n s d) n = .ok (mapT G t d) (n + t.size) := by
  refine Tm.ind fun t ih hn f d n hc hf hz => ?_
  have hp := size_pos t
  obtain ⟨f, rfl⟩ : ∃ f', f = f' + 1 := ⟨f - 1, by omega⟩
  rw [ap_succ, if_neg (by omega)]
  rw [canB_iff] at hc
  have hsum : ((List.range t.args.length).map fun i => (t.arg i).size).sum = (t.args.map Tm.size).sum := by
    congr 1
    refine List.ext_getElem (by simp) fun i h1 h2 => ?_
    simp at h1
    simp [arg_eq h1]
  have hse := size_eq t
  rw [seqF_ok (F := fun i => mapT G (t.arg i) ((d : Int) + bnd t i)) (c := fun i => (t.arg i).size) t.args.length (fun i hi m h1 h2 => by
    rw [hsum] at h2
    have hx := ih _ (arg_mem hi) (node_args hn i hi) f (d + bnd t i) m (by have := hc.2 i hi; rwa [show ((d + bnd t i : Nat) : Int) = (d : Int) + bnd t i by omega]) (by omega) (by omega)
    rw [below_bnd]
    rw [hx]
    congr 2), hsum]
  simp only [R.bind_ok]
  have hm := mapT_eq G t (d : Int)
  by_cases hk : t.kind = 4
  · rw [if_pos hk, hH d t.head (node_head (node_here hn)) (hc.1 hk), spn_var, hm, hk, hse]
    simp only [beq_self_eq_true, if_true]
    congr 1; omega
  · rw [if_neg hk, hm, hse]
    have : (t.kind == 4) = false := by simpa using hk
    simp only [this, Bool.false_eq_true, if_false]
    congr 1; omega
/-! ### scopes -/
theorem var_scoped {j v M : Int} (h : j < v) : scopedB (.mk 4 j []) v M = true := by
  rw [scoped_iff]
  exact ⟨fun _ => h, fun hk => by simp [mk_kind] at hk, fun i hi => by simp [mk_args] at hi⟩
theorem mk_scoped {k h : Int} {l : List Tm} {v M : Int} (h1 : k = 4 → h < v) (h2 : k = 6 → h < M) (h3 : ∀ i, i < l.length → scopedB (l.getD i default) (v + bnd (.mk k h l) i) M = true) : scopedB (.mk k h l) v M = true := by
  rw [scoped_iff]
  exact ⟨h1, h2, h3⟩
theorem bnd_mk (t : Tm) {xs : List Tm} (h : xs.length = t.args.length) (i : Nat) : bnd (.mk t.kind t.head xs) i = bnd t i := by
  unfold bnd
  rw [mk_kind, mk_args, h]
theorem bnd_none {k h : Int} {l : List Tm} (hk : heads k = true) (i : Nat) : bnd (.mk k h l) i = 0 := by
  unfold bnd
  rw [mk_kind, if_neg]
  rintro ⟨h1, _⟩
  simp only [heads, Bool.or_eq_true, beq_iff_eq] at hk
  omega
theorem bnd_none' {t : Tm} (hk : heads t.kind = true) (i : Nat) : bnd t i = 0 := by
  rw [← mk_self t]; exact bnd_none hk i
theorem lam_len {u : Tm} (h : nodesB u = true) (hk : u.kind = 3) : u.args.length = 1 := by
  have hnu := node_here h
  unfold nodeOk at hnu
  simp [hk] at hnu
  exact hnu.2
theorem lam_bnd {u : Tm} (h : nodesB u = true) (hk : u.kind = 3) : bnd u 0 = 1 := by
  unfold bnd
  rw [if_pos ⟨.inr hk, by rw [lam_len h hk]⟩]
/-- What is in scope, what it is mapped to. -/
def Maps (s : Sb) (v w M : Int) : Prop := ∀ i : Int, 0 ≤ i → i < v → scopedB (ofS s i) w M = true
theorem Maps.under {s : Sb} {v w M : Int} (h : Maps s v w M) (hs : 0 ≤ s.sh) (hw : 0 ≤ w) : Maps (underS s) (v + 1) (w + 1) M := by
  intro i h0 hi
  rcases Int.lt_or_le 0 i with h1 | h1
  · have := of_under s (i := i - 1) (by omega) hs
    rw [show i - 1 + 1 = i by omega] at this
    rw [this]
    exact up_scoped (h (i - 1) (by omega) (by omega)) (by omega)
  · obtain rfl : i = 0 := by omega
    rw [of_under0]
    exact var_scoped (by omega)
theorem Maps.one {a : Tm} {w M : Int} (h : scopedB a w M = true) : Maps ⟨[a], 0⟩ (w + 1) w M := by
  intro i h0 hi
  unfold ofS
  split
  · rename_i hl
    simp at hl
    obtain rfl : i = 0 := by omega
    exact h
  · rename_i hl
    simp at hl
    exact var_scoped (by simp; omega)
theorem below_maps {s : Sb} {t : Tm} {i : Nat} {v w M : Int} (h : Maps s v w M) (hs : 0 ≤ s.sh) (hw : 0 ≤ w) : Maps (below s t i) (v + bnd t i) (w + bnd t i) M ∧ 0 ≤ (below s t i).sh := by
  unfold below
  have := bnd_le t i
  split
  · rename_i h1
    rw [h1]
    exact ⟨h.under hs hw, by simp only [underS]; omega⟩
  · rename_i h1
    rw [show bnd t i = 0 by omega]
    simpa using ⟨h, hs⟩
theorem up_nodes {t : Tm} (h : nodesB t = true) {b : Int} (hb : 0 ≤ b) (n : Int) : nodesB (upT t b n) = true := by
  have key : ∀ (t : Tm) (n : Int), nodesB t = true → canB (fun x _ => decide (0 ≤ x)) t n = true := by
    refine Tm.ind fun t ih n hn => ?_
    rw [canB_iff]
    exact ⟨fun _ => by simpa using node_head (node_here hn), fun i hi => ih _ (arg_mem hi) _ (node_args hn i hi)⟩
  refine nodesB_map (fun x m hx => ?_) t n (key t n h) h
  have := of_decide_eq_true hx
  unfold gUp
  split <;> omega
def NodesS (s : Sb) : Prop := (∀ x ∈ s.L, nodesB x = true) ∧ 0 ≤ s.sh
theorem nodes_var0 : nodesB var0 = true := (may_parts may_var0).1
theorem NodesS.below {s : Sb} (h : NodesS s) (t : Tm) (i : Nat) : NodesS (below s t i) := by
  unfold Go.Proofs.Ytmemmdfjlhamfaa.below
  split
  · refine ⟨fun x hx => ?_, by have := h.2; simp only [underS]; omega⟩
    simp only [underS, List.mem_append, List.mem_map, List.mem_singleton] at hx
    rcases hx with ⟨y, hy, rfl⟩ | rfl
    · exact up_nodes (h.1 y hy) (by omega) 0
    · exact nodes_var0
  · exact h
theorem NodesS.of {s : Sb} (h : NodesS s) {i : Int} (h0 : 0 ≤ i) : nodesB (ofS s i) = true := by
  unfold ofS
  split
  · refine h.1 _ ?_
    rw [List.getD_eq_getElem?_getD, List.getElem?_eq_getElem (by omega)]
    exact List.getElem_mem _
  · refine nodes_mk ?_ (by simp)
    have := h.2
    have h5 : 0 ≤ i - s.L.length + s.sh := by omega
    simp only [nodeOk, mk_kind, mk_args, mk_head]
    simp [h5]
abbrev Scopes (A : Tm → Sb → Nat → R Tm) (M : Int) : Prop := ∀ (t : Tm) (s : Sb) (n : Nat) (v w : Int) (u : Tm) (m : Nat), nodesB t = true → scopedB t v M = true → NodesS s → Maps s v w M → 0 ≤ w → A t s n = .ok u m → nodesB u = true ∧ scopedB u w M = true
theorem spn_scoped {A : Tm → Sb → Nat → R Tm} {M : Int} (hA : Scopes A M) :
    ∀ (args : List Tm) (u : Tm) (n : Nat) (w : Int) (r : Tm) (m : Nat), nodesB u = true → scopedB u w M = true → 0 ≤ w → (∀ x ∈ args, nodesB x = true ∧ scopedB x w M = true) → spnA A u args n = .ok r m → nodesB r = true ∧ scopedB r w M = true
  | [], u, n, w, r, m, hu, hs, h0, ha, h => by cases h; exact ⟨hu, hs⟩
  | a :: rest, u, n, w, r, m, hu, hs, h0, ha, h => by
    simp only [spnA] at h
    obtain ⟨a1, a2⟩ := ha a (by simp)
    split at h
    · rename_i hk
      split at h
      case isFalse => cases h
      rename_i hm
      obtain ⟨v, n1, h1, h2⟩ := R.bind_eq h
      have hl := lam_len hu hk
      have hs' := (scoped_iff.1 hs).2.2 0 (by omega)
      rw [lam_bnd hu hk] at hs'
      obtain ⟨hn, hb⟩ := hA _ _ _ (w + 1) w v n1 (node_args hu 0 (by omega)) hs' ⟨by simpa using a1, by simp⟩ (Maps.one a2) h0 h1
      exact spn_scoped hA rest v n1 w r m hn hb h0 (fun x hx => ha x (by simp [hx])) h2
    · split at h
      case isFalse => cases h
      rename_i hk hh
      cases h
      rw [scoped_iff] at hs
      refine ⟨nodes_mk (node_heads hh (node_head (node_here hu)) _) fun x hx => ?_, mk_scoped hs.1 hs.2.1 fun i hi => ?_⟩
      · rcases List.mem_append.1 hx with hx | hx
        · obtain ⟨i, hi, rfl⟩ := List.mem_iff_getElem.1 hx
          rw [arg_eq hi]; exact node_args hu i hi
        · exact (ha x hx).1
      rw [bnd_none hh]
      rcases Nat.lt_or_ge i u.args.length with hl | hl
      · rw [getD_append_l hl]
        have := hs.2.2 i hl
        rwa [bnd_none' hh] at this
      · have hx : (u.args ++ a :: rest).getD i default ∈ a :: rest := by
          rw [List.getD_eq_getElem?_getD, List.getElem?_append_right hl, List.getElem?_eq_getElem (by simp at hi ⊢; omega)]
          exact List.getElem_mem _
        have := (ha _ hx).2
        simpa using this
theorem seq_all {g : Nat → Nat → R Tm} {n : Nat} {Q : Nat → Tm → Prop} : ∀ (k : Nat), (∀ i, i < k → ∀ m x m', g i m = .ok x m' → Q i x) → ∀ (xs : List Tm) (m : Nat), seqF g n k = .ok xs m → ∀ i, i < k → Q i (xs.getD i default)
  | 0, _, xs, m, h, i, hi => by omega
  | k + 1, hq, xs, m, h, i, hi => by
    obtain ⟨ys, m1, h1, h2⟩ := R.bind_eq h
    obtain ⟨x, m2, h3, h4⟩ := R.bind_eq h2
    cases h4
    have hl := seqF_len _ _ _ _ _ h1
    rcases Nat.lt_or_ge i k with hk | hk
    · rw [getD_append_l (by omega)]
      exact seq_all k (fun i hi => hq i (by omega)) ys m1 h1 i hk
    · obtain rfl : i = k := by omega
      rw [List.getD_eq_getElem?_getD, List.getElem?_append_right (by omega), hl]
      simp
      exact hq i (by omega) _ _ _ h3
theorem getD_all {l : List Tm} {Q : Tm → Prop} (h : ∀ i, i < l.length → Q (l.getD i default)) : ∀ x ∈ l, Q x := by
  intro x hx
  obtain ⟨i, hi, rfl⟩ := List.mem_iff_getElem.1 hx
  have := h i hi
  rwa [List.getD_eq_getElem?_getD, List.getElem?_eq_getElem hi] at this
theorem ap_scoped {M : Int} : ∀ f : Nat, Scopes (ap f) M
  | 0 => fun t s n v w u m hn hs hS hM hw h => by cases h
  | f + 1 => fun t s n v w u m hn hs hS hM hw h => by
    have ih := ap_scoped (M := M) f
    rw [ap_succ] at h
    split at h
    · cases h
    obtain ⟨xs, m1, e1, e2⟩ := R.bind_eq h
    have hs' := scoped_iff.1 hs
    have hxl := seqF_len _ _ _ _ _ e1
    have hall := seq_all (Q := fun i x => nodesB x = true ∧ scopedB x (w + bnd t i) M = true) t.args.length (fun i hi m x m' hx => by
      obtain ⟨b1, b2⟩ := below_maps (t := t) (i := i) hM hS.2 hw
      exact ih _ _ m (v + bnd t i) (w + bnd t i) x m' (node_args hn i hi) (hs'.2.2 i hi) (hS.below t i) b1 (by omega) hx) xs m1 e1
    split at e2
    · rename_i hk
      refine spn_scoped ih xs (ofS s t.head) m1 w u m (hS.of (node_head (node_here hn))) (hM _ (node_head (node_here hn)) (hs'.1 hk)) hw (getD_all fun i hi => ?_) e2
      have := hall i (by omega)
      rw [bnd_none' (by simp [heads, hk])] at this
      simpa using this
    · rename_i hk
      cases e2
      refine ⟨nodes_mk (node_same (node_here hn) hxl) (getD_all fun i hi => (hall i (by omega)).1), mk_scoped (fun h => absurd h hk) hs'.2.1 fun i hi => ?_⟩
      rw [bnd_mk t hxl]
      exact (hall i (by omega)).2
/-! ### with less done ahead -/
/-- One that began by so many nodes later, and one that did not. -/
def Later (d : Nat) (r r' : R Tm) : Prop := (∃ k, r = .er 4 k) ∨ (∃ u m, r = .ok u (m + d) ∧ r' = .ok u m) ∨ ∃ e m, r = .er e (m + d) ∧ r' = .er e m
def LaterL (d : Nat) (r r' : R (List Tm)) : Prop := (∃ k, r = .er 4 k) ∨ (∃ u m, r = .ok u (m + d) ∧ r' = .ok u m) ∨ ∃ e m, r = .er e (m + d) ∧ r' = .er e m
theorem spn_later {A : Tm → Sb → Nat → R Tm} {d : Nat} (hA : ∀ t s n, Later d (A t s (n + d)) (A t s n)) : ∀ (l : List Tm) (u : Tm) (n : Nat), Later d (spnA A u l (n + d)) (spnA A u l n)
  | [], u, n => .inr (.inl ⟨u, n, rfl, rfl⟩)
  | a :: rest, u, n => by
    simp only [spnA]
    split
    · split
      · rcases hA (u.arg 0) ⟨[a], 0⟩ n with ⟨k, h⟩ | ⟨v, m, h, h'⟩ | ⟨e, m, h, h'⟩
        · rw [h]; exact .inl ⟨k, rfl⟩
        · rw [h, h']; exact spn_later hA rest v m
        · rw [h, h']; exact .inr (.inr ⟨e, m, rfl, rfl⟩)
      · exact .inl ⟨_, rfl⟩
    · split
      · exact .inr (.inl ⟨_, n, rfl, rfl⟩)
      · exact .inr (.inr ⟨3, n, rfl, rfl⟩)
theorem seq_later {g : Nat → Nat → R Tm} {d : Nat} (hg : ∀ i n, Later d (g i (n + d)) (g i n)) (n : Nat) : ∀ k : Nat, LaterL d (seqF g (n + d) k) (seqF g n k)
  | 0 => .inr (.inl ⟨[], n, rfl, rfl⟩)
  | k + 1 => by
    simp only [seqF]
    rcases seq_later hg n k with ⟨k, h⟩ | ⟨v, m, h, h'⟩ | ⟨e, m, h, h'⟩
    · rw [h]; exact .inl ⟨_, rfl⟩
    · rw [h, h', R.bind_ok, R.bind_ok]
      rcases hg k m with ⟨k, h⟩ | ⟨x, m, h, h'⟩ | ⟨e, m, h, h'⟩
      · rw [h]; exact .inl ⟨_, rfl⟩
      · rw [h, h']; exact .inr (.inl ⟨_, m, rfl, rfl⟩)
      · rw [h, h']; exact .inr (.inr ⟨e, m, rfl, rfl⟩)
    · rw [h, h']; exact .inr (.inr ⟨e, m, rfl, rfl⟩)
theorem ap_later (d : Nat) : ∀ (f : Nat) (t : Tm) (s : Sb) (n : Nat), Later d (ap f t s (n + d)) (ap f t s n)
  | 0, t, s, n => .inl ⟨_, rfl⟩
  | f + 1, t, s, n => by
    rw [ap_succ, ap_succ]
    by_cases h1 : n + d + 1 > 40000
    · rw [if_pos h1]; exact .inl ⟨_, rfl⟩
    rw [if_neg h1, if_neg (by omega)]
    have := seq_later (g := fun i m => ap f (t.arg i) (below s t i) m) (d := d) (fun i n => ap_later d f _ _ n) (n + 1) t.args.length
    rw [show n + 1 + d = n + d + 1 by omega] at this
    rcases this with ⟨k, h⟩ | ⟨xs, m, h, h'⟩ | ⟨e, m, h, h'⟩
    · rw [h]; exact .inl ⟨_, rfl⟩
    · rw [h, h', R.bind_ok, R.bind_ok]
      split
      · exact spn_later (fun t s n => ap_later d f t s n) xs _ m
      · exact .inr (.inl ⟨_, m, rfl, rfl⟩)
    · rw [h, h']; exact .inr (.inr ⟨e, m, rfl, rfl⟩)
end Go.Proofs.Ytmemmdfjlhamfaa
/- Arguments of a law: terms, as they are read. -/
set_option linter.unusedVariables false
set_option linter.unusedSimpArgs false
namespace Go.Proofs.Ytmemmdfjlhamfaa
open Go.Proofs Go.ChangeShapes
def in64 (n : Int) : Prop := -9223372036854775808 ≤ n ∧ n ≤ 9223372036854775807
inductive Wf : Tm → Prop where
  | mk {t : Tm} : in64 t.kind → in64 t.head → (∀ x ∈ t.args, Wf x) → Wf t
theorem Wf.args {t : Tm} (h : Wf t) : ∀ x ∈ t.args, Wf x := by cases h; assumption
theorem Wf.kind {t : Tm} (h : Wf t) : in64 t.kind := by cases h; assumption
theorem Wf.head {t : Tm} (h : Wf t) : in64 t.head := by cases h; assumption
theorem Wf.pre {t : Tm} (h : Wf t) : ∀ (n : Int), ∀ q ∈ pre t n, Wf q.2 := by
  induction h with
  | mk h1 h2 h3 ih =>
    intro n
    refine pre_ind (.mk h1 h2 h3) fun i hi p hp => ih _ (arg_mem hi) _ p hp
theorem int_wf {n : Int} (h : (Lit.int .i64 n).wf = true) : in64 n := by
  simpa [Lit.wf, IntKind.min, IntKind.max, IntKind.signed, IntKind.bits, in64] using h
section
variable {H : Type} {enc' : TypeId × Value → H} {W : World} {held : Bool}
theorem list_of {α β : Type} {P : α → β → Prop} : ∀ l : List α, (∀ x ∈ l, ∃ y, P x y) → ∃ r : List β, r.length = l.length ∧ ∀ (i : Nat) (x : α) (y : β), l[i]? = some x → r[i]? = some y → P x y
  | [], _ => ⟨[], rfl, fun i x y h => by simp at h⟩
  | x :: l, h => by
    obtain ⟨y, hy⟩ := h x (by simp)
    obtain ⟨r, h1, h2⟩ := list_of l fun z hz => h z (by simp [hz])
    refine ⟨y :: r, by simp [h1], fun i a b ha hb => ?_⟩
    cases i with
    | zero => simp at ha hb; subst ha hb; exact hy
    | succ i => exact h2 i a b (by simpa using ha) (by simpa using hb)
theorem int_read {fuel : Nat} {cs : List Value} {x : DataW H × List MemPlace} (h : DataW.trod enc' Try.prog W 0 (fun _ => true) held fuel 3 cs = some x) : ∃ n, dv x.1 = .int .i64 n ∧ in64 n ∧ x.1 = .lit (.int .i64 n) := by
  obtain ⟨n, _, rfl, hw⟩ := DataW.trod_int Try.underlying3 h
  exact ⟨n, rfl, int_wf hw, rfl⟩
theorem tms_read {fuel : Nat} (ih : ∀ m, m < fuel → ∀ (cs : List Value) (x : DataW H × List MemPlace), DataW.trod enc' Try.prog W 0 (fun _ => true) held m 24 cs = some x → ∃ t : Tm, dv x.1 = enc t ∧ Wf t ∧ t.size ≤ Rows.uptoBulk x.1)
    {cs : List Value} {x : DataW H × List MemPlace} (h : DataW.trod enc' Try.prog W 0 (fun _ => true) held fuel 22 cs = some x) : ∃ l : List Tm, dv x.1 = .slc (encs l) ∧ (∀ t ∈ l, Wf t) ∧ (l.map Tm.size).sum + 1 ≤ Rows.uptoBulk x.1 := by
  rcases DataW.trod_slice Try.underlying22 h with ⟨rfl, rfl⟩ | ⟨a, len, cap, elems, rest, n, hn, rfl, rfl, _, hlc, _, hel, hget, _, _⟩
  · exact ⟨[], rfl, by simp, by simp [Rows.uptoBulk]⟩
  · obtain ⟨l, h1, h2⟩ := list_of (P := fun (y : DataW H × List MemPlace) (t : Tm) => dv y.1 = enc t ∧ Wf t ∧ t.size ≤ Rows.uptoBulk y.1) elems fun y hy => by
      obtain ⟨i, hi⟩ := List.mem_iff_getElem?.1 hy
      have hlt := (List.getElem?_eq_some_iff.1 hi).1
      have := hget i (by omega)
      rw [hi] at this
      obtain ⟨cs, _, hx⟩ := Option.bind_eq_some_iff.1 this
      exact ih n (by omega) cs y hx
    have key : ∀ (es : List (DataW H × List MemPlace)) (l : List Tm), l.length = es.length → (∀ (i : Nat) y t, es[i]? = some y → l[i]? = some t → dv y.1 = enc t ∧ Wf t ∧ t.size ≤ Rows.uptoBulk y.1) →
        dvs (es.map (·.1)) = encs l ∧ (∀ t ∈ l, Wf t) ∧ (l.map Tm.size).sum ≤ Rows.uptoBulkAll (es.map (·.1)) := by
      intro es
      induction es with
      | nil =>
        intro l hl _
        obtain rfl : l = [] := List.eq_nil_of_length_eq_zero (by simpa using hl)
        exact ⟨rfl, by simp, by simp⟩
      | cons y es ih =>
        intro l hl hp
        cases l with
        | nil => simp at hl
        | cons t l =>
          obtain ⟨k1, k2, k3⟩ := hp 0 y t rfl rfl
          obtain ⟨j1, j2, j3⟩ := ih l (by simpa using hl) fun i a b ha hb => hp (i + 1) a b (by simpa using ha) (by simpa using hb)
          refine ⟨?_, fun x hx => ?_, ?_⟩
          · simp only [List.map_cons, dvs, k1, j1]; rfl
          · rcases List.mem_cons.1 hx with rfl | hx
            · exact k2
            · exact j2 x hx
          · simp only [List.map_cons, List.sum_cons, Rows.uptoBulkAll]
            omega
    obtain ⟨k1, k2, k3⟩ := key elems l h1 h2
    refine ⟨l, by simp only [dv, k1], k2, ?_⟩
    simp only [Rows.uptoBulk]
    omega
theorem tm_read : ∀ (fuel : Nat) (cs : List Value) (x : DataW H × List MemPlace), DataW.trod enc' Try.prog W 0 (fun _ => true) held fuel 24 cs = some x → ∃ t : Tm, dv x.1 = enc t ∧ Wf t ∧ t.size ≤ Rows.uptoBulk x.1 := by
  intro fuel
  induction fuel using Nat.strongRecOn with
  | ind fuel ih =>
    intro cs x h
    obtain ⟨xs, n, hn, rfl, hl, hxl, hg⟩ := DataW.trod_struct Try.underlying24 h
    obtain ⟨a, b, c, rfl⟩ : ∃ a b c, xs = [a, b, c] := by
      match xs, hxl with
      | [a, b, c], _ => exact ⟨a, b, c, rfl⟩
    have h0 := hg 0 _ rfl
    have h1 := hg 1 _ rfl
    have h2 := hg 2 _ rfl
    simp only [List.getElem?_cons_zero, List.getElem?_cons_succ] at h0 h1 h2
    obtain ⟨k, k1, k2, k3⟩ := int_read h0
    obtain ⟨d, d1, d2, d3⟩ := int_read h1
    obtain ⟨l, l1, l2, l3⟩ := tms_read (fuel := n) (fun m hm => ih m (by omega)) h2
    refine ⟨.mk k d l, ?_, .mk k2 d2 l2, ?_⟩
    · rw [enc_mk]
      simp only [List.map_cons, List.map_nil, dv, dcs, k1, d1, l1, Dv.cells, List.cons_append, List.nil_append]
    · rw [size_eq]
      simp only [List.map_cons, List.map_nil, Rows.uptoBulk, Rows.uptoBulkAll, Tm.args]
      omega
theorem tm_arg {v : Value} {d : DataW H} {ps : List MemPlace} (h : DataW.Trod enc' Try.prog W 0 (fun _ => true) held 24 v d ps) : ∃ t : Tm, dv d = enc t ∧ Wf t ∧ t.size ≤ Rows.uptoBulk d := by
  obtain ⟨fuel, h⟩ := h
  exact tm_read fuel _ _ h
theorem tms_arg {v : Value} {d : DataW H} {ps : List MemPlace} (h : DataW.Trod enc' Try.prog W 0 (fun _ => true) held 22 v d ps) : ∃ l : List Tm, dv d = .slc (encs l) ∧ (∀ t ∈ l, Wf t) ∧ (l.map Tm.size).sum + 1 ≤ Rows.uptoBulk d := by
  obtain ⟨fuel, h⟩ := h
  exact tms_read (fun m _ => tm_read m) h
theorem int_arg {v : Value} {d : DataW H} {ps : List MemPlace} (h : DataW.Trod enc' Try.prog W 0 (fun _ => true) held 3 v d ps) : ∃ n, dv d = .int .i64 n ∧ in64 n := by
  obtain ⟨fuel, h⟩ := h
  obtain ⟨n, h1, h2, _⟩ := int_read h
  exact ⟨n, h1, h2⟩
end
theorem own_knob : ownKnob Try.prog.godebug = none := by kernel_rfl
theorem small_bulk {H : Type} {l : List (DataW H)} (hk : Rows.uptoSmall H l = true) : Rows.uptoBulkAll l ≤ 1048576 := of_decide_eq_true hk
end Go.Proofs.Ytmemmdfjlhamfaa
/- The laws of layer 2. -/
set_option linter.unusedSimpArgs false
set_option linter.unusedVariables false
set_option maxRecDepth 100000
namespace Go.Proofs.Ytmemmdfjlhamfaa
open Go.Proofs
attribute [go_sem] List.head?_cons
def w1 : Tm := .mk 3 0 [.mk 4 1 []]
def w3 : Tm := .mk 3 0 [.mk 4 3 []]
theorem w1_up0 : upT w1 2 0 = w3 := by simp [w1, w3, upT, mapT, gUp, bnd, Tm.kind, Tm.args, List.range, List.range.loop]
theorem w1_up1 : upT w1 2 1 = w1 := by simp [w1, upT, mapT, gUp, bnd, Tm.kind, Tm.args, List.range, List.range.loop]
theorem w1_dn : dnB w1 1 0 = false := by simp [w1, dnB, canB, pDn, bnd, Tm.kind, Tm.args, allB]
theorem w1_size : w1.size = 2 := by simp [w1, Tm.size]
theorem w1_may : mayB w1 = true := by
  have : w1.depth = 2 := by simp [w1, Tm.depth]
  simp [mayB, w1_size, this]
  simp [w1, nodesB, allB, nodeOk, Tm.kind, Tm.head, Tm.args]
theorem w1_low : vlowB w1 = true := by simp [w1, vlowB, vleB, canB, allB, bnd, Tm.kind, Tm.args]
theorem v_enc (h : Int) : Dv.agg [.int .i64 4, .int .i64 h, .slc []] = enc (.mk 4 h []) := by rw [enc_mk]; rfl
theorem w1_enc : Dv.agg [.int .i64 3, .int .i64 0, .slc [enc (.mk 4 1 [])]] = enc w1 := by simp [w1, enc_mk, encs]
theorem w1_fold : Dv.agg [.int .i64 w1.kind, .int .i64 w1.head, .slc [enc (.mk 4 1 [])]] = enc w1 := w1_enc
theorem light_low {t : Tm} {s d : Int} (h : lightB t s d = true) : lowB t = true := by
  unfold lightB at h
  simp only [Bool.and_eq_true] at h
  exact h.1.1
theorem calm_of {c : Int} (hc : c ≤ 4503599627370496) : ∀ (t : Tm) (n : Int), 0 ≤ n → n + t.size ≤ 4000000000000000000 → nodesB t = true → hleB c t = true → ∀ q ∈ pre t n, calm q := by
  refine Tm.ind fun t ih n h1 h2 hn hl => pre_ind ?_ fun i hi p hp => ?_
  · have h3 := node_head (node_here hn)
    rw [hleB_iff] at hl
    have h4 := hl.1
    intro hk
    show _ ∧ _
    constructor <;> simp only <;> omega
  · have h3 := size_arg (arg_mem hi)
    have h4 := bnd_le t i
    rw [hleB_iff] at hl
    exact ih _ (arg_mem hi) (n + bnd t i) (by omega) (by omega) (node_args hn i hi) (hl.2 i hi) p hp
theorem ren_of {t : Tm} {b f : Int} (hm : mayB t = true) (h1 : 0 ≤ b) (h2 : b ≤ 1048576) (h3 : 0 ≤ f) (h4 : f ≤ 1048576) : renB t b f = true := by
  simp [renB, hm, h1, h2, h3, h4]
end Go.Proofs.Ytmemmdfjlhamfaa
/- Layer 3: what its laws begin with. -/
set_option linter.unusedSimpArgs false
set_option linter.unusedVariables false
set_option maxRecDepth 100000
namespace Go.Proofs.Ytmemmdfjlhamfaa
open Go.Proofs
theorem ap_leaf (f : Nat) (k h : Int) (s : Sb) (n : Nat) (hn : n + 1 ≤ 40000) : ap (f + 1) (.mk k h []) s n = .ok (if k = 4 then ofS s h else .mk k h []) (n + 1) := by
  rw [ap_succ, if_neg (by omega)]
  rw [show seqF (fun i m => ap f ((Tm.mk k h []).arg i) (below s (.mk k h []) i) m) (n + 1) (Tm.mk k h []).args.length = .ok [] (n + 1) from rfl, R.bind_ok]
  by_cases hk : k = 4
  · rw [if_pos (show (Tm.mk k h []).kind = 4 from hk), if_pos hk]; rfl
  · rw [if_neg (show ¬ (Tm.mk k h []).kind = 4 from hk), if_neg hk]; rfl
theorem leaf_may {k h : Int} (hk : heads k = true) (hh : 0 ≤ h) : mayB (.mk k h []) = true := by
  refine may_of (nodes_mk (node_heads hk hh _) (by simp)) ?_ ?_
  · rw [mk_size]; simp
  · rw [depth_eq]; simp [mk_args]
theorem leaf_var {i : Int} (h : 0 ≤ i) : mayB (.mk 4 i []) = true := leaf_may rfl h
/-! ### Same -/
def idL (k : Nat) (i : Nat) : List Tm := (List.range i).map fun (j : Nat) => .mk 4 ((k : Int) - 1 - j) []
def idN (n : Int) : Nat := if n < 0 then 0 else if n > 200 then 200 else n.toNat
def idS (n : Int) : Sb := ⟨idL (idN n) (idN n), idN n⟩
theorem idL_len (k i : Nat) : (idL k i).length = i := by simp [idL]
theorem idN_le (n : Int) : idN n ≤ 200 := by unfold idN; split <;> (try split) <;> omega
def sam_S (k : Nat) (i : Nat) : St := mk 26 [(0, dI k), (2, .lref 2 0), (3, .lref 3 0), (10, dI k), (11, dI i)] [(2, [.clip [], dI 0]), (3, [acc 0 (encs (idL k i)), dI k])] [] (accT i)
theorem same_spec (n : Int) : (lim C).call 34 [dI n] [] = some (.ret (dS (idS n)), []) := by
  have hr : room = 1099511627776 := rfl
  have hk := idN_le n
  obtain ⟨m, hm⟩ : ∃ m : Int, m = if 0 > n then 0 else n := ⟨_, rfl⟩
  have hmax : (if (0 : Int) > n then (0 : Int) else n) = m := hm.symm
  have hmin : (if (200 : Int) < m then (200 : Int) else m) = (idN n : Int) := by
    rw [hm]; unfold idN; split <;> split <;> (try split) <;> omega
  have hstep : ∀ i, i < idN n → (lim C).code 34 (cf (.loop (cf (cf (cs (cf (cs (cs (cs (bodyOf Try.f34)))))))))) (sam_S (idN n) i) = some (.nor, sam_S (idN n) (i + 1)) := fun i hi => by
    have hln : (encs (idL (idN n) i)).length = i := by rw [encs_length, idL_len]
    have hw1 : IntKind.wrap .i64 ((idN n : Int) - 1) = (idN n : Int) - 1 := wrap_ok (by omega) (by omega)
    have hw2 : IntKind.wrap .i64 ((idN n : Int) - 1 - i) = (idN n : Int) - 1 - i := wrap_ok (by omega) (by omega)
    have hv : Dv.agg [.int .i64 4, .int .i64 ((idN n : Int) - 1 - i), .slc []] = enc (.mk 4 ((idN n : Int) - 1 - i) []) := by rw [enc_mk]; rfl
    have hap := fun locs heap => mApp_acc (encs (idL (idN n) i)) (enc (.mk 4 ((idN n : Int) - 1 - i) [])) 3 locs heap (by rw [hln]; omega) (encs_all _) (enc_width _)
    have hsn : encs (idL (idN n) i) ++ [enc (.mk 4 ((idN n : Int) - 1 - i) [])] = encs (idL (idN n) (i + 1)) := by unfold idL; rw [List.range_succ, List.map_append, encs_append]; rfl
    rw [hln, hsn] at hap
    simp -implicitDefEqProofs (disch := decide +kernel) only [cf, cs, bodyOf, Try.f34, Option.getD_some, go_sem, ↓reduceIte, Nat.reduceSub, Nat.reduceAdd, Nat.reduceMul, Nat.reduceBEq, Nat.reduceLT, Nat.reduceLeDiff, Nat.reduceEqDiff, reduceCtorEq, Int.reduceToNat, Int.reduceLE, Int.reduceLT, Int.reduceBEq, Int.reduceBNe, mCall, sam_S, acc_keep, lt_true hi, hw1, hw2, hv, hap, wrap_succ (n := i) (by omega)]
  have hloop : (lim C).code 34 (.loop (cf (cf (cs (cf (cs (cs (cs (bodyOf Try.f34))))))))) (sam_S (idN n) 0) = some (.exit 0, mk 26 [(0, dI (idN n)), (2, .lref 2 0), (3, .lref 3 0), (10, dI (idN n)), (11, dI (idN n)), (12, dB false)] [(2, [.clip [], dI 0]), (3, [acc 0 (encs (idL (idN n) (idN n))), dI (idN n)])] [] (accT (idN n))) := by
    refine loop_run (sam_S (idN n)) (idN n) hstep ?_ (by simp)
    simp -implicitDefEqProofs (disch := decide +kernel) only [cf, cs, bodyOf, Try.f34, Option.getD_some, go_sem, ↓reduceIte, Nat.reduceSub, Nat.reduceAdd, Nat.reduceMul, Nat.reduceBEq, Nat.reduceLT, Nat.reduceLeDiff, Nat.reduceEqDiff, reduceCtorEq, Int.reduceToNat, Int.reduceLE, Int.reduceLT, Int.reduceBEq, Int.reduceBNe, mCall, sam_S, lt_false (Nat.le_refl (idN n))]
  have he : Dv.agg [.slc (encs (idL (idN n) (idN n))), .int .i64 (idN n)] = encS (idS n) := rfl
  rw [ev_fn 34 Try.f34 _ _ _ rfl Try.func34 rfl Try.ntmps34 rfl]
  simp -implicitDefEqProofs (disch := decide +kernel) only [go_sem, ↓reduceIte, Nat.reduceSub, Nat.reduceAdd, Nat.reduceMul, Nat.reduceBEq, Nat.reduceLT, Nat.reduceLeDiff, Nat.reduceEqDiff, reduceCtorEq, Int.reduceToNat, Int.reduceLE, Int.reduceLT, Int.reduceBEq, Int.reduceBNe, mCall, hmax, hmin]
  rw [loop_at hloop ?hb ?hs]
  case hb => rfl
  case hs => rfl
  simp -implicitDefEqProofs (disch := decide +kernel) only [go_sem, ↓reduceIte, Nat.reduceSub, Nat.reduceAdd, Nat.reduceMul, Nat.reduceBEq, Nat.reduceLT, Nat.reduceLeDiff, Nat.reduceEqDiff, reduceCtorEq, Int.reduceToNat, Int.reduceLE, Int.reduceLT, Int.reduceBEq, Int.reduceBNe, mCall, acc_keep, acc_drop, he, cells_encS, cel2, (encS_eq (idS n)).symm]
/-! ### Lights -/
def lightsB (l : List Tm) (s d : Int) : Bool := !decide ((l.length : Int) > 60) && allB l.length fun i => lightB (l.getD i default) s d
def lts_S (l : List Tm) (s d : Int) (i : Nat) : St := mk 27 [(0, dL l), (1, dI s), (2, dI d), (7, dI i)] [] [] []

theorem lights_spec (l : List Tm) (s d : Int) (hl : l.length < room) (hz : ∀ x ∈ l, x.size < room) : (lim C).call 20 [dL l, dI s, dI d] [] = retB (lightsB l s d) := by
  have hr : room = 1099511627776 := rfl
  unfold lightsB
  rw [ev_fn 20 Try.f20 _ _ _ rfl Try.func20 rfl Try.ntmps20 rfl]
  cases h1 : decide ((l.length : Int) > 60)
  · have hget : ∀ i, i < l.length → (l.getD i default).size < room := fun i hi => hz _ (getD_mem hi)
    have hloop : (lim C).code 20 (.loop (cf (cf (cs (cf (cs (cs (bodyOf Try.f20)))))))) (lts_S l s d 0) = some (if allB l.length (fun i => lightB (l.getD i default) s d) then (.exit 0, mk 27 [(0, dL l), (1, dI s), (2, dI d), (7, dI l.length), (15, dB false)] [] [] []) else (.ret, mk 27 [(6, dB false)] [] [] [])) := by
      refine loop_all (lts_S l s d) l.length _ (fun i hi hp => ?_) (fun i hi hp => ?_) ?_ (by simp) (by simp)
      · have hc := light_spec (l.getD i default) s d (hget i hi)
        rw [hp] at hc
        simp -implicitDefEqProofs (disch := decide +kernel) only [cf, cs, bodyOf, Try.f20, Option.getD_some, go_sem, ↓reduceIte, Nat.reduceSub, Nat.reduceAdd, Nat.reduceMul, Nat.reduceBEq, Nat.reduceLT, Nat.reduceLeDiff, Nat.reduceEqDiff, reduceCtorEq, Int.reduceToNat, Int.reduceLE, Int.reduceLT, Int.reduceBEq, Int.reduceBNe, mCall, lts_S, lt_true hi, getD_get hi, hc, wrap_succ (n := i) (by omega)]
      · have hc := light_spec (l.getD i default) s d (hget i hi)
        rw [hp] at hc
        simp -implicitDefEqProofs (disch := decide +kernel) only [cf, cs, bodyOf, Try.f20, Option.getD_some, go_sem, ↓reduceIte, Nat.reduceSub, Nat.reduceAdd, Nat.reduceMul, Nat.reduceBEq, Nat.reduceLT, Nat.reduceLeDiff, Nat.reduceEqDiff, reduceCtorEq, Int.reduceToNat, Int.reduceLE, Int.reduceLT, Int.reduceBEq, Int.reduceBNe, mCall, lts_S, lt_true hi, getD_get hi, hc]
      · simp -implicitDefEqProofs (disch := decide +kernel) only [cf, cs, bodyOf, Try.f20, Option.getD_some, go_sem, ↓reduceIte, Nat.reduceSub, Nat.reduceAdd, Nat.reduceMul, Nat.reduceBEq, Nat.reduceLT, Nat.reduceLeDiff, Nat.reduceEqDiff, reduceCtorEq, Int.reduceToNat, Int.reduceLE, Int.reduceLT, Int.reduceBEq, Int.reduceBNe, mCall, lts_S, lt_false (Nat.le_refl l.length)]
    simp -implicitDefEqProofs (disch := decide +kernel) only [go_sem, ↓reduceIte, Nat.reduceSub, Nat.reduceAdd, Nat.reduceMul, Nat.reduceBEq, Nat.reduceLT, Nat.reduceLeDiff, Nat.reduceEqDiff, reduceCtorEq, Int.reduceToNat, Int.reduceLE, Int.reduceLT, Int.reduceBEq, Int.reduceBNe, mCall, h1]
    rw [loop_at hloop ?hb ?hs]
    case hb => rfl
    case hs => rfl
    cases hall : allB l.length fun i => lightB (l.getD i default) s d
    · simp -implicitDefEqProofs (disch := decide +kernel) only [go_sem, ↓reduceIte, Nat.reduceSub, Nat.reduceAdd, Nat.reduceMul, Nat.reduceBEq, Nat.reduceLT, Nat.reduceLeDiff, Nat.reduceEqDiff, reduceCtorEq, Int.reduceToNat, Int.reduceLE, Int.reduceLT, Int.reduceBEq, Int.reduceBNe, mCall, hall]
    · simp -implicitDefEqProofs (disch := decide +kernel) only [go_sem, ↓reduceIte, Nat.reduceSub, Nat.reduceAdd, Nat.reduceMul, Nat.reduceBEq, Nat.reduceLT, Nat.reduceLeDiff, Nat.reduceEqDiff, reduceCtorEq, Int.reduceToNat, Int.reduceLE, Int.reduceLT, Int.reduceBEq, Int.reduceBNe, mCall, hall]
  · simp -implicitDefEqProofs (disch := decide +kernel) only [go_sem, ↓reduceIte, Nat.reduceSub, Nat.reduceAdd, Nat.reduceMul, Nat.reduceBEq, Nat.reduceLT, Nat.reduceLeDiff, Nat.reduceEqDiff, reduceCtorEq, Int.reduceToNat, Int.reduceLE, Int.reduceLT, Int.reduceBEq, Int.reduceBNe, mCall, h1]
theorem lights_parts {l : List Tm} {s d : Int} (h : lightsB l s d = true) : l.length ≤ 60 ∧ ∀ x ∈ l, lightB x s d = true := by
  unfold lightsB at h
  simp only [Bool.and_eq_true, Bool.not_eq_true', decide_eq_false_iff_not] at h
  obtain ⟨h1, h2⟩ := h
  rw [allB_iff] at h2
  exact ⟨by omega, getD_all h2⟩
/-! ### the chapter's example -/
def exX : Tm := .mk 4 0 [.mk 5 1 []]
def exF : Tm := .mk 3 0 [.mk 4 0 []]
theorem exX_may : mayB exX = true := by
  refine may_of (nodes_mk (node_heads rfl (by decide) _) ?_) ?_ ?_
  · intro x hx
    obtain rfl : x = .mk 5 1 [] := by simpa using hx
    exact nodes_mk (node_heads rfl (by decide) _) (by simp)
  · unfold exX; rw [mk_size]; simp [mk_size]
  · unfold exX; rw [depth_eq]; simp [mk_args, depth_eq]
theorem exF_may : mayB exF = true := by
  refine may_of (nodes_mk (by simp [nodeOk, mk_kind, mk_head, mk_args]) ?_) ?_ ?_
  · intro x hx
    obtain rfl : x = .mk 4 0 [] := by simpa using hx
    exact nodes_mk (node_heads rfl (by decide) _) (by simp)
  · unfold exF; rw [mk_size]; simp [mk_size]
  · unfold exF; rw [depth_eq]; simp [mk_args, depth_eq]
theorem ex_apply : applyR exX ⟨[exF], 0⟩ = (.mk 5 1 [], 0) := by
  have hs : smayB ⟨[exF], 0⟩ = true := by simp [smayB, maysB, allB, exF_may]
  unfold applyR
  rw [exX_may, hs, Bool.and_self, if_pos rfl, show (40000 : Nat) = 39999 + 1 from rfl, ap_succ, if_neg (by decide)]
  have h1 : seqF (fun i m => ap 39999 (exX.arg i) (below ⟨[exF], 0⟩ exX i) m) (0 + 1) exX.args.length = .ok [.mk 5 1 []] 2 := by
    show ((seqF (fun i m => ap 39999 (exX.arg i) (below ⟨[exF], 0⟩ exX i) m) (0 + 1) 0).bind fun xs m => (ap 39999 (exX.arg 0) (below ⟨[exF], 0⟩ exX 0) m).bind fun x m' => .ok (xs ++ [x]) m') = _
    rw [show seqF (fun i m => ap 39999 (exX.arg i) (below ⟨[exF], 0⟩ exX i) m) (0 + 1) 0 = .ok [] 1 from rfl, R.bind_ok, show exX.arg 0 = .mk 5 1 [] from rfl, show (39999 : Nat) = 39998 + 1 from rfl, ap_leaf _ _ _ _ _ (by decide)]
    rfl
  rw [h1, R.bind_ok, show exX.kind = 4 from rfl, if_pos rfl, show exX.head = 0 from rfl, show ofS ⟨[exF], 0⟩ 0 = exF from rfl]
  simp only [spnA, show exF.kind = 3 from rfl, if_true, leaf_may (k := 5) (h := 1) rfl (by decide)]
  rw [show exF.arg 0 = .mk 4 0 [] from rfl, show (39999 : Nat) = 39998 + 1 from rfl, ap_leaf _ _ _ _ _ (by decide)]
  simp only [if_true, R.bind_ok, show ofS ⟨[.mk 5 1 []], 0⟩ 0 = .mk 5 1 [] from rfl, outD, leaf_may (k := 5) (h := 1) rfl (by decide)]
theorem exX_vle : vleB topV exX = true := vle_mk (fun _ => by decide) (by
  intro x hx
  obtain rfl : x = .mk 5 1 [] := by simpa using hx
  exact vle_mk (fun h => by omega) (by simp))
theorem exF_vle : vleB topV exF = true := vle_mk (fun h => by omega) (by
  intro x hx
  obtain rfl : x = .mk 4 0 [] := by simpa using hx
  exact vle_mk (fun _ => by decide) (by simp))
theorem fieldS_L (P : Program) (t : Nat) (s : Sb) (h : tag P t = some false) : fieldK P (some (0, 1, t)) (.d (encS s)) = some (.val (dL s.L)) := by
  rw [encS_eq]; simp [fieldK, h]
theorem fieldS_sh (P : Program) (t : Nat) (s : Sb) (h : tag P t = some false) : fieldK P (some (1, 1, t)) (.d (encS s)) = some (.val (dI s.sh)) := by
  rw [encS_eq]; simp [fieldK, h]
end Go.Proofs.Ytmemmdfjlhamfaa
/- Laws of layer 3: SubstUnder, SubstUp, SubstWeakens. -/
set_option linter.unusedSimpArgs false
set_option linter.unusedVariables false
set_option maxRecDepth 100000
namespace Go.Proofs.Ytmemmdfjlhamfaa
open Go.Proofs
theorem encS_mk (l : List Tm) (n : Int) : Dv.agg [.slc (encs l), .int .i64 n] = encS ⟨l, n⟩ := rfl
theorem cells_mkS (l : List Tm) (n : Int) : AV.cells (.d (encS ⟨l, n⟩)) = [dL l, dI n] := rfl
theorem smay_of {l : List Tm} {n : Int} (h1 : l.length ≤ 200) (h2 : 0 ≤ n) (h3 : n ≤ 1048576) (h4 : ∀ x ∈ l, mayB x = true) : smayB ⟨l, n⟩ = true := by
  unfold smayB
  have := maysB_iff.2 h4
  simp [this, h2, h3]
  omega
theorem smay_under {s : Sb} (h : smayB s = true) (hl : s.L.length + 1 ≤ 200) (hs : s.sh + 1 ≤ 1048576) : smayB (underS s) = true := by
  obtain ⟨h1, h2, h3, h4⟩ := smay_parts h
  refine smay_of (by simp; omega) (by omega) (by omega) fun x hx => ?_
  simp only [List.mem_append, List.mem_map, List.mem_singleton] at hx
  rcases hx with ⟨y, hy, rfl⟩ | rfl
  · exact up_may (h4 y hy) (by omega) 0
  · exact may_var0
theorem vle_under {s : Sb} {c d : Int} (h : ∀ x ∈ s.L, vleB c x = true) (hc : 0 ≤ c) (hd : c + 1 ≤ d) : ∀ x ∈ (underS s).L, vleB d x = true := by
  intro x hx
  simp only [underS, List.mem_append, List.mem_map, List.mem_singleton] at hx
  rcases hx with ⟨y, hy, rfl⟩ | rfl
  · exact vle_mono hd (vle_up (h y hy) (by omega) 0)
  · exact vle_var (by omega)
theorem ofS_may {s : Sb} (h : smayB s = true) {i : Int} (h0 : 0 ≤ i) : mayB (ofS s i) = true := by
  obtain ⟨h1, h2, h3, h4⟩ := smay_parts h
  unfold ofS
  split
  · exact h4 _ (getD_mem (by omega))
  · exact leaf_var (by omega)
theorem apply_var {s : Sb} (h : smayB s = true) {i : Int} (h0 : 0 ≤ i) : applyR (.mk 4 i []) s = (ofS s i, 0) := by
  unfold applyR
  rw [leaf_var h0, h, Bool.and_self, if_pos rfl, show (40000 : Nat) = 39999 + 1 from rfl, ap_leaf _ _ _ _ _ (by decide), if_pos rfl]
  simp only [outD, ofS_may h h0, if_true]
theorem light_size {t : Tm} {s d : Int} (h : lightB t s d = true) : (t.size : Int) ≤ s ∧ (t.depth : Int) ≤ d := by
  unfold lightB at h
  simp only [Bool.and_eq_true, decide_eq_true_eq] at h
  exact ⟨h.1.2, h.2⟩
theorem lists_room {l : List Tm} (hs : (l.map Tm.size).sum + 1 ≤ 1048576) : l.length < room ∧ ∀ x ∈ l, x.size < room := by
  have hr : room = 1099511627776 := rfl
  have := len_sum l
  refine ⟨by omega, fun x hx => ?_⟩
  have := sum_mem (List.mem_map_of_mem (f := Tm.size) hx)
  omega
def und_L (l : List Tm) (n i : Int) (k : Nat) : St := mk 102 [(0, dL l), (1, dI n), (2, dI i), (9, dI k)] [] [] []
end Go.Proofs.Ytmemmdfjlhamfaa
/- Laws of layer 3: SubstUp, SubstWeakens. -/
set_option linter.unusedSimpArgs false
set_option linter.unusedVariables false
set_option maxRecDepth 100000
namespace Go.Proofs.Ytmemmdfjlhamfaa
open Go.Proofs
theorem below_sh (s : Sb) (d : Nat) : (below_n s d).sh = s.sh + d := by
  induction d with
  | zero => simp [below_n]
  | succ d ih => simp only [below_n, underS, ih]; omega
theorem ren_all {s : Sb} (hs : 0 ≤ s.sh) {G : Int → Int → Int} {P : Int → Int → Bool} (h0 : ∀ i, 0 ≤ i → P i 0 = true → ofS s i = .mk 4 (G i 0) []) (hG0 : ∀ d : Nat, G 0 ((d + 1 : Nat) : Int) = 0)
    (hGs : ∀ (i : Int) (d : Nat), 0 ≤ i → P (i + 1) ((d + 1 : Nat) : Int) = true → P i d = true ∧ G (i + 1) ((d + 1 : Nat) : Int) = G i d + 1) (hGn : ∀ (i : Int) (d : Nat), 0 ≤ i → P i d = true → 0 ≤ G i d) :
    ∀ (d : Nat) (i : Int), 0 ≤ i → P i d = true → ofS (below_n s d) i = .mk 4 (G i d) []
  | 0, i, hi, hp => h0 i hi hp
  | d + 1, i, hi, hp => by
    rcases Int.lt_or_le 0 i with h1 | h1
    · obtain ⟨q1, q2⟩ := hGs (i - 1) d (by omega) (by rw [show i - 1 + 1 = i by omega]; exact hp)
      have := of_under (below_n s d) (i := i - 1) (by omega) (by rw [below_sh]; omega)
      rw [show i - 1 + 1 = i by omega] at this q2
      rw [below_n, this, ren_all hs h0 hG0 hGs hGn d (i - 1) (by omega) q1, up_var _ _ (hGn _ _ (by omega) q1), q2]
    · obtain rfl : i = 0 := by omega
      rw [below_n, of_under0, hG0]; rfl
theorem apply_ren {s : Sb} {G : Int → Int → Int} {P : Int → Int → Bool} {t : Tm} (d : Nat) (hH : ∀ (d : Nat) (i : Int), 0 ≤ i → P i d = true → ofS (below_n s d) i = .mk 4 (G i d) []) (ht : mayB t = true) (hS : smayB (below_n s d) = true)
    (hc : canB P t d = true) (hm : mayB (mapT G t d) = true) : applyR t (below_n s d) = (mapT G t d, 0) := by
  obtain ⟨p1, p2, p3⟩ := may_parts ht
  unfold applyR
  rw [ht, hS, Bool.and_self, if_pos rfl, ap_ren hH t p1 40000 d 0 hc (by omega) (by omega)]
  simp only [outD, hm, if_true]
theorem ren_up (b : Int) (hb : 0 ≤ b) : ∀ (d : Nat) (i : Int), 0 ≤ i → (fun _ _ => true : Int → Int → Bool) i d = true → ofS (below_n ⟨[], b⟩ d) i = .mk 4 (gUp b i d) [] := by
  refine ren_all (G := gUp b) (P := fun _ _ => true) hb (fun i hi _ => ?_) (fun d => ?_) (fun i d hi _ => ⟨rfl, ?_⟩) (fun i d hi _ => ?_)
  · unfold ofS gUp
    rw [if_neg (by simp; omega), if_pos (by omega)]
    simp
  · unfold gUp; rw [if_neg (by omega)]
  · unfold gUp; split <;> split <;> omega
  · unfold gUp; split <;> omega
theorem ren_dn (x : Tm) : ∀ (d : Nat) (i : Int), 0 ≤ i → pDn 1 i d = true → ofS (below_n ⟨[x], 0⟩ d) i = .mk 4 (gDn 1 i d) [] := by
  refine ren_all (G := gDn 1) (P := pDn 1) (by simp) (fun i hi hp => ?_) (fun d => ?_) (fun i d hi hp => ⟨?_, ?_⟩) (fun i d hi hp => ?_)
  · simp only [pDn, Bool.or_eq_true, decide_eq_true_eq] at hp
    unfold ofS gDn
    rw [if_neg (by simp; omega), if_neg (by omega)]
    simp
  · unfold gDn; rw [if_pos (by omega)]
  · simp only [pDn, Bool.or_eq_true, decide_eq_true_eq] at hp ⊢; omega
  · simp only [pDn, Bool.or_eq_true, decide_eq_true_eq] at hp
    unfold gDn; split <;> split <;> omega
  · simp only [pDn, Bool.or_eq_true, decide_eq_true_eq] at hp
    unfold gDn; split <;> omega
theorem ofS_id (n : Int) {i : Int} (h : 0 ≤ i) : ofS (idS n) i = .mk 4 i [] := by
  unfold ofS idS
  simp only [idL_len]
  split
  · rename_i hi
    rw [List.getD_eq_getElem?_getD]
    unfold idL
    rw [List.getElem?_map, List.getElem?_range (by omega)]
    simp only [Option.map_some, Option.getD_some]
    congr 1; omega
  · congr 1; omega
theorem ren_id (n : Int) : ∀ (d : Nat) (i : Int), 0 ≤ i → (fun _ _ => true : Int → Int → Bool) i d = true → ofS (below_n (idS n) d) i = .mk 4 ((fun i _ => i : Int → Int → Int) i d) [] := by
  refine ren_all (G := fun i _ => i) (P := fun _ _ => true) (by unfold idS; simp) (fun i hi _ => ofS_id n hi) (fun d => rfl) (fun i d hi _ => ⟨rfl, rfl⟩) (fun i d hi _ => hi)
theorem subst_room {t : Tm} {s : Sb} (ht : t.size < room) (h : smayB s = true) : (∀ x ∈ s.L, x.size < room) ∧ s.L.length < room := by
  have hr : room = 1099511627776 := rfl
  obtain ⟨h1, h2, h3, h4⟩ := smay_parts h
  exact ⟨fun x hx => by have := (may_parts (h4 x hx)).2.1; omega, by omega⟩
end Go.Proofs.Ytmemmdfjlhamfaa
/- Layer 3: how great answers are, what may go wrong. -/
set_option linter.unusedSimpArgs false
set_option linter.unusedVariables false
set_option maxRecDepth 100000
namespace Go.Proofs.Ytmemmdfjlhamfaa
open Go.Proofs
theorem calm_vle {c : Int} (hc : c ≤ 4503599627370496) : ∀ (t : Tm) (n : Int), 0 ≤ n → n + t.size ≤ 4000000000000000000 → nodesB t = true → vleB c t = true → ∀ q ∈ pre t n, calm q := by
  refine Tm.ind fun t ih n h1 h2 hn hl => pre_ind ?_ fun i hi p hp => ?_
  · have h3 := node_head (node_here hn)
    intro hk
    have h4 := vle_here hl hk
    constructor <;> simp only <;> omega
  · have h3 := size_arg (arg_mem hi)
    have h4 := bnd_le t i
    exact ih _ (arg_mem hi) (n + bnd t i) (by omega) (by omega) (node_args hn i hi) (vle_args hl i hi) p hp
theorem zT_may : mayB zT = true := by
  refine may_of (nodes_mk (by simp [nodeOk, mk_kind, mk_head, mk_args]) (by simp)) ?_ ?_
  · unfold zT; rw [mk_size]; simp
  · unfold zT; rw [depth_eq]; simp [mk_args]
theorem zT_vle (c : Int) : vleB c zT = true := vle_mk (fun h => by omega) (by simp)
theorem outD_may (r : R Tm) : mayB (outD r).1 = true := by
  cases r with
  | ok u m =>
    simp only [outD]
    split
    · assumption
    · exact zT_may
  | er e m => exact zT_may
theorem applyR_may (t : Tm) (s : Sb) : mayB (applyR t s).1 = true := by
  unfold applyR
  split
  · exact outD_may _
  · exact zT_may
theorem spineR_may (t : Tm) (l : List Tm) : mayB (spineR t l).1 = true := by
  unfold spineR
  split
  · exact outD_may _
  · exact zT_may
theorem outD_vle {r : R Tm} {c : Int} (h : ∀ u m, r = .ok u m → vleB c u = true) : vleB c (outD r).1 = true := by
  cases r with
  | ok u m =>
    simp only [outD]
    split
    · exact h u m rfl
    · exact zT_vle c
  | er e m => exact zT_vle c
theorem applyR_vle {t : Tm} {s : Sb} {K : Int} (h0 : 0 ≤ K) (ht : vleB K t = true) (hs : ∀ x ∈ s.L, vleB K x = true) : vleB (K + 2000000) (applyR t s).1 = true := by
  unfold applyR
  split
  · rename_i h
    simp only [Bool.and_eq_true] at h
    obtain ⟨h1, h2⟩ := h
    obtain ⟨q1, q2, q3, q4⟩ := smay_parts h2
    refine outD_vle fun u m hu => ?_
    have := (ap_fits 40000 t s 0 K (s.sh - s.L.length) (K + 1048576) u m (may_parts h1).1 ht h0 (by omega) (by omega) (Int.le_refl _) ⟨q4, fun x hx => vle_mono (by omega) (hs x hx), q2⟩ hu).2
    have e := this.lim
    exact vle_mono (by omega) this.vle
  · exact zT_vle _
/-- What may go wrong. -/
theorem spn_err {A : Tm → Sb → Nat → R Tm} (hA : ∀ t s n e m, A t s n = .er e m → e = 3 ∨ e = 4) : ∀ (l : List Tm) (u : Tm) (n e m : Nat), spnA A u l n = .er e m → e = 3 ∨ e = 4
  | [], u, n, e, m, h => by cases h
  | a :: rest, u, n, e, m, h => by
    simp only [spnA] at h
    split at h
    · split at h
      · cases hx : A (u.arg 0) ⟨[a], 0⟩ n with
        | ok v m1 => rw [hx] at h; exact spn_err hA rest v m1 e m h
        | er e1 m1 =>
          rw [hx, R.bind_er] at h
          simp only [R.er.injEq] at h
          exact h.1 ▸ hA _ _ _ _ _ hx
      · simp only [R.er.injEq] at h; omega
    · split at h
      · cases h
      · simp only [R.er.injEq] at h; omega
theorem ap_err : ∀ (f : Nat) (t : Tm) (s : Sb) (n e m : Nat), ap f t s n = .er e m → e = 3 ∨ e = 4
  | 0, t, s, n, e, m, h => by
    rw [ap_zero] at h
    simp only [R.er.injEq] at h; omega
  | f + 1, t, s, n, e, m, h => by
    rw [ap_succ] at h
    split at h
    · simp only [R.er.injEq] at h; omega
    · have key : ∀ k e m, seqF (fun i m => ap f (t.arg i) (below s t i) m) (n + 1) k = .er e m → e = 3 ∨ e = 4 := by
        intro k
        induction k with
        | zero => intro e m h; cases h
        | succ k ih =>
          intro e m h
          simp only [seqF] at h
          cases hx : seqF (fun i m => ap f (t.arg i) (below s t i) m) (n + 1) k with
          | er e1 m1 =>
            rw [hx, R.bind_er] at h
            simp only [R.er.injEq] at h
            exact h.1 ▸ ih _ _ hx
          | ok xs m1 =>
            rw [hx, R.bind_ok] at h
            cases hy : ap f (t.arg k) (below s t k) m1 with
            | er e1 m2 =>
              rw [hy, R.bind_er] at h
              simp only [R.er.injEq] at h
              exact h.1 ▸ ap_err f _ _ _ _ _ hy
            | ok x m2 => rw [hy] at h; cases h
      cases hx : seqF (fun i m => ap f (t.arg i) (below s t i) m) (n + 1) t.args.length with
      | er e1 m1 =>
        rw [hx, R.bind_er] at h
        simp only [R.er.injEq] at h
        exact h.1 ▸ key _ _ _ hx
      | ok xs m1 =>
        rw [hx, R.bind_ok] at h
        split at h
        · exact spn_err (fun t s n e m h => ap_err f t s n e m h) _ _ _ _ _ h
        · cases h
end Go.Proofs.Ytmemmdfjlhamfaa
/- What has which type: in plain words. -/
set_option linter.unusedVariables false
set_option linter.unusedSimpArgs false
namespace Go.Proofs.Ytmemmdfjlhamfaa
/-- A meta: its context, its type, whether it stands for a variable alone. -/
structure Md where
  ctx : List Tm
  t : Tm
  param : Bool
  deriving Inhabited
/-- The types of declarations, and metas. -/
structure Wd where
  sig : List Tm
  metas : List Md
def isKind (t : Tm) : Bool := (lastOf t).kind == 0
def kindAt (l : List Tm) (i : Nat) : Bool := isKind (l.getD i default)
/-- What a type comes to, applied to so many from the i-th on; T: what is wrong with the i-th at a type. -/
def spW (T : Nat → Tm → Int) (arg : Nat → Tm) : Nat → Nat → Tm → Tm × Int
  | 0, _, t => (t, 0)
  | k + 1, i, t => if t.kind ≠ 1 then (zT, 3) else if T i (t.arg 0) ≠ 0 then (zT, T i (t.arg 0)) else
      if (applyR (t.arg 1) ⟨[arg i], 0⟩).2 ≠ 0 then (zT, (applyR (t.arg 1) ⟨[arg i], 0⟩).2) else spW T arg k (i + 1) (applyR (t.arg 1) ⟨[arg i], 0⟩).1
/-- What is wrong with the things for a meta's entries. -/
def mtW (T : Nat → Tm → Int) (D : List Tm) (l : List Tm) (n : Int) : Nat → Nat → Int
  | 0, _ => 0
  | k + 1, i => if (applyR (D.getD i default) ⟨l.take i, n⟩).2 ≠ 0 then (applyR (D.getD i default) ⟨l.take i, n⟩).2 else
      if T i (applyR (D.getD i default) ⟨l.take i, n⟩).1 ≠ 0 then T i (applyR (D.getD i default) ⟨l.take i, n⟩).1 else mtW T D l n k (i + 1)
def declW (w : Wd) (h : Int) (kind : Bool) : Tm × Int :=
  if h ≥ w.sig.length then (zT, 2) else if kindAt w.sig h.toNat ≠ kind then (zT, 2) else (w.sig.getD h.toNat default, 0)
def metaW (w : Wd) (n : Int) (T : Nat → Tm → Int) (m : Tm) : Tm × Int :=
  if m.head ≥ w.metas.length then (zT, 2) else
  if (w.metas.getD m.head.toNat default).ctx.length ≠ m.args.length then (zT, 3) else
  if mtW T (w.metas.getD m.head.toNat default).ctx m.args n m.args.length 0 ≠ 0 then (zT, mtW T (w.metas.getD m.head.toNat default).ctx m.args n m.args.length 0) else
  applyR (w.metas.getD m.head.toNat default).t ⟨m.args, n⟩
def spD (T : Nat → Tm → Int) (m : Tm) (r : Tm × Int) : Tm × Int := if r.2 ≠ 0 then (zT, r.2) else spW T m.arg m.args.length 0 r.1
def varW (ctx : List Tm) (h : Int) : Tm × Int := if h ≥ ctx.length then (zT, 2) else (upT (ctx.getD (ctx.length - 1 - h.toNat) default) (h + 1) 0, 0)
/-- What a node that is no Lam comes to. -/
def cmW (w : Wd) (ctx : List Tm) (T : Nat → Tm → Int) (m : Tm) : Tm × Int :=
  if m.kind = 4 then spD T m (varW ctx m.head)
  else if m.kind = 5 then spD T m (declW w m.head false)
  else if m.kind = 6 then metaW w ctx.length T m
  else (zT, 3)
def termB (w : Wd) (m a : Tm) (ctx : List Tm) (T : Nat → Tm → List Tm → Int) : Int :=
  if m.kind = 3 then (if a.kind = 1 then T 0 (a.arg 1) (ctx ++ [a.arg 0]) else 3)
  else if a.kind ≠ 2 then 3
  else if (cmW w ctx (fun i x => T i x ctx) m).2 ≠ 0 then (cmW w ctx (fun i x => T i x ctx) m).2
  else if sameB (cmW w ctx (fun i x => T i x ctx) m).1 a then 0 else 3
/-- What is wrong with a term of a type. -/
def termW (w : Wd) : Tm → Tm → List Tm → Int
  | .mk k h l, a, ctx => termB w (.mk k h l) a ctx fun i x c => if hi : i < l.length then termW w l[i] x c else 3
decreasing_by
  have := List.sizeOf_lt_of_mem (List.getElem_mem hi)
  simp only [Tm.mk.sizeOf_spec]
  omega
/-- What is wrong with the i-th Arg of a node. -/
def argW (w : Wd) (m : Tm) (i : Nat) (x : Tm) (c : List Tm) : Int := if i < m.args.length then termW w (m.arg i) x c else 3
theorem termW_eq (w : Wd) (m a : Tm) (ctx : List Tm) : termW w m a ctx = termB w m a ctx (argW w m) := by
  obtain ⟨k, h, l⟩ := m
  rw [termW]
  congr 1
  funext i x c
  unfold argW
  by_cases hi : i < l.length
  · have := arg_eq (t := .mk k h l) hi
    simp only [Tm.args] at this
    rw [dif_pos hi, this, if_pos (by exact hi)]
  · rw [dif_neg hi, if_neg (by exact hi)]
theorem argW_lt {w : Wd} {m : Tm} {i : Nat} (h : i < m.args.length) (x : Tm) (c : List Tm) : argW w m i x c = termW w (m.arg i) x c := if_pos h
def famW (w : Wd) (ctx : List Tm) (a : Tm) : Int :=
  if (spD (fun i x => argW w a i x ctx) a (declW w a.head true)).2 ≠ 0 then (spD (fun i x => argW w a i x ctx) a (declW w a.head true)).2
  else if (spD (fun i x => argW w a i x ctx) a (declW w a.head true)).1.kind ≠ 0 then 3 else 0
/-- What is wrong with a type. -/
def typW (w : Wd) : Tm → List Tm → Int
  | .mk k h l, ctx => if k = 1 then (if h2 : 1 < l.length then (if typW w l[0] ctx ≠ 0 then typW w l[0] ctx else typW w l[1] (ctx ++ [l[0]])) else 3)
      else if k = 2 then famW w ctx (.mk k h l) else 3
decreasing_by
  all_goals
    have h0 := List.sizeOf_lt_of_mem (List.getElem_mem (l := l) (n := 0) (by omega))
    have h1 := List.sizeOf_lt_of_mem (List.getElem_mem h2)
    simp only [Tm.mk.sizeOf_spec]
    omega
/-- What is wrong with a kind. -/
def kindW (w : Wd) : Tm → List Tm → Int
  | .mk k h l, ctx => if k = 0 then 0 else if k = 1 then (if h2 : 1 < l.length then (if typW w l[0] ctx ≠ 0 then typW w l[0] ctx else kindW w l[1] (ctx ++ [l[0]])) else 3) else 3
decreasing_by
  have h1 := List.sizeOf_lt_of_mem (List.getElem_mem h2)
  simp only [Tm.mk.sizeOf_spec]
  omega
theorem arg01 {t : Tm} (h : 1 < t.args.length) : t.args[0] = t.arg 0 ∧ t.args[1] = t.arg 1 := ⟨arg_eq (by omega), arg_eq h⟩
theorem typW_pi (w : Wd) {t : Tm} (hk : t.kind = 1) (hl : 1 < t.args.length) (ctx : List Tm) : typW w t ctx = if typW w (t.arg 0) ctx ≠ 0 then typW w (t.arg 0) ctx else typW w (t.arg 1) (ctx ++ [t.arg 0]) := by
  have e := arg01 hl
  obtain ⟨k, h, l⟩ := t
  have hk : k = 1 := hk
  have hl : 1 < l.length := hl
  simp only [Tm.args] at e
  rw [typW, if_pos hk, dif_pos hl, e.1, e.2]
theorem typW_fam (w : Wd) {t : Tm} (hk : t.kind = 2) (ctx : List Tm) : typW w t ctx = famW w ctx t := by
  obtain ⟨k, h, l⟩ := t
  have hk : k = 2 := hk
  rw [typW, if_neg (by omega), if_pos hk]
theorem typW_no (w : Wd) {t : Tm} (h1 : t.kind ≠ 1) (h2 : t.kind ≠ 2) (ctx : List Tm) : typW w t ctx = 3 := by
  obtain ⟨k, h, l⟩ := t
  have h1 : k ≠ 1 := h1
  have h2 : k ≠ 2 := h2
  rw [typW, if_neg h1, if_neg h2]
theorem kindW_pi (w : Wd) {t : Tm} (hk : t.kind = 1) (hl : 1 < t.args.length) (ctx : List Tm) : kindW w t ctx = if typW w (t.arg 0) ctx ≠ 0 then typW w (t.arg 0) ctx else kindW w (t.arg 1) (ctx ++ [t.arg 0]) := by
  have e := arg01 hl
  obtain ⟨k, h, l⟩ := t
  have hk : k = 1 := hk
  have hl : 1 < l.length := hl
  simp only [Tm.args] at e
  rw [kindW, if_neg (by omega), if_pos hk, dif_pos hl, e.1, e.2]
theorem kindW_sort (w : Wd) {t : Tm} (hk : t.kind = 0) (ctx : List Tm) : kindW w t ctx = 0 := by
  obtain ⟨k, h, l⟩ := t
  rw [kindW, if_pos (by exact hk)]
theorem kindW_no (w : Wd) {t : Tm} (h0 : t.kind ≠ 0) (h1 : t.kind ≠ 1) (ctx : List Tm) : kindW w t ctx = 3 := by
  obtain ⟨k, h, l⟩ := t
  have h0 : k ≠ 0 := h0
  have h1 : k ≠ 1 := h1
  rw [kindW, if_neg h0, if_neg h1]
def mdMay (d : Md) : Bool := maysB d.ctx && mayB d.t
/-- Whether all of a world may be. -/
def mayW (w : Wd) (ctx : List Tm) (l : List Tm) : Bool := !decide ((ctx.length : Int) > 1000) && maysB l && maysB ctx && maysB w.sig && allB w.metas.length (fun i => mdMay (w.metas.getD i default))
def TermR (w : Wd) (ctx : List Tm) (m a : Tm) : Int := if mayW w ctx [m, a] then termW w m a ctx else 1
def TypR (w : Wd) (ctx : List Tm) (a : Tm) : Int := if mayW w ctx [a] then typW w a ctx else 1
def KindR (w : Wd) (ctx : List Tm) (a : Tm) : Int := if mayW w ctx [a] then kindW w a ctx else 1
end Go.Proofs.Ytmemmdfjlhamfaa
/- What has which type: laws in plain words. -/
set_option linter.unusedVariables false
set_option linter.unusedSimpArgs false
namespace Go.Proofs.Ytmemmdfjlhamfaa
theorem same_eq : ∀ t u : Tm, sameB t u = true → t = u := by
  refine Tm.ind fun t ih u h => ?_
  rw [sameB_eq] at h
  simp only [Bool.and_eq_true, beq_iff_eq, allB_iff] at h
  obtain ⟨⟨⟨h1, h2⟩, h3⟩, h4⟩ := h
  exact tm_ext h1 h2 h3 fun i hi => ih _ (arg_mem hi) _ (h4 i hi)
theorem bnd_zero {t : Tm} (h1 : t.kind ≠ 1) (h3 : t.kind ≠ 3) (i : Nat) : bnd t i = 0 := by
  unfold bnd
  rw [if_neg]
  rintro ⟨h, _⟩
  omega
/-- The spine goes on. -/
theorem spW_ok {T : Nat → Tm → Int} {arg : Nat → Tm} {k i : Nat} {t : Tm} (h : (spW T arg (k + 1) i t).2 = 0) :
    t.kind = 1 ∧ T i (t.arg 0) = 0 ∧ (applyR (t.arg 1) ⟨[arg i], 0⟩).2 = 0 ∧ spW T arg (k + 1) i t = spW T arg k (i + 1) (applyR (t.arg 1) ⟨[arg i], 0⟩).1 := by
  simp only [spW] at h ⊢
  by_cases h1 : t.kind ≠ 1
  · rw [if_pos h1] at h; cases h
  rw [if_neg h1] at h ⊢
  by_cases h2 : T i (t.arg 0) ≠ 0
  · rw [if_pos h2] at h; exact absurd h h2
  rw [if_neg h2] at h ⊢
  by_cases h3 : (applyR (t.arg 1) ⟨[arg i], 0⟩).2 ≠ 0
  · rw [if_pos h3] at h; exact absurd h h3
  rw [if_neg h3] at h ⊢
  exact ⟨Classical.not_not.1 h1, Classical.not_not.1 h2, Classical.not_not.1 h3, rfl⟩
theorem spW_go {T : Nat → Tm → Int} {arg : Nat → Tm} {k i : Nat} {t : Tm} (h1 : t.kind = 1) (h2 : T i (t.arg 0) = 0) (h3 : (applyR (t.arg 1) ⟨[arg i], 0⟩).2 = 0) :
    spW T arg (k + 1) i t = spW T arg k (i + 1) (applyR (t.arg 1) ⟨[arg i], 0⟩).1 := by
  simp only [spW]
  rw [if_neg (by simpa using h1), if_neg (by simpa using h2), if_neg (by simpa using h3)]
theorem mtW_ok {T : Nat → Tm → Int} {D l : List Tm} {n : Int} {k i : Nat} (h : mtW T D l n (k + 1) i = 0) :
    (applyR (D.getD i default) ⟨l.take i, n⟩).2 = 0 ∧ T i (applyR (D.getD i default) ⟨l.take i, n⟩).1 = 0 ∧ mtW T D l n k (i + 1) = 0 := by
  simp only [mtW] at h
  by_cases h1 : (applyR (D.getD i default) ⟨l.take i, n⟩).2 ≠ 0
  · rw [if_pos h1] at h; exact absurd h h1
  rw [if_neg h1] at h
  by_cases h2 : T i (applyR (D.getD i default) ⟨l.take i, n⟩).1 ≠ 0
  · rw [if_pos h2] at h; exact absurd h h2
  rw [if_neg h2] at h
  exact ⟨Classical.not_not.1 h1, Classical.not_not.1 h2, h⟩
theorem mtW_go {T : Nat → Tm → Int} {D l : List Tm} {n : Int} {k i : Nat} (h1 : (applyR (D.getD i default) ⟨l.take i, n⟩).2 = 0) (h2 : T i (applyR (D.getD i default) ⟨l.take i, n⟩).1 = 0) :
    mtW T D l n (k + 1) i = mtW T D l n k (i + 1) := by
  simp only [mtW]
  rw [if_neg (by simpa using h1), if_neg (by simpa using h2)]
theorem spW_err {T : Nat → Tm → Int} {arg : Nat → Tm} : ∀ (k i : Nat) (t : Tm), (spW T arg k i t).2 ≠ 0 → (spW T arg k i t).1 = zT
  | 0, i, t, h => absurd rfl h
  | k + 1, i, t, h => by
    simp only [spW] at h ⊢
    by_cases h1 : t.kind ≠ 1
    · rw [if_pos h1]
    rw [if_neg h1] at h ⊢
    by_cases h2 : T i (t.arg 0) ≠ 0
    · rw [if_pos h2]
    rw [if_neg h2] at h ⊢
    by_cases h3 : (applyR (t.arg 1) ⟨[arg i], 0⟩).2 ≠ 0
    · rw [if_pos h3]
    rw [if_neg h3] at h ⊢
    exact spW_err k (i + 1) _ h
theorem spW_may {T : Nat → Tm → Int} {arg : Nat → Tm} : ∀ (k i : Nat) (t : Tm), mayB t = true → mayB (spW T arg k i t).1 = true
  | 0, i, t, h => h
  | k + 1, i, t, h => by
    simp only [spW]
    by_cases h1 : t.kind ≠ 1
    · rw [if_pos h1]; exact zT_may
    rw [if_neg h1]
    by_cases h2 : T i (t.arg 0) ≠ 0
    · rw [if_pos h2]; exact zT_may
    rw [if_neg h2]
    by_cases h3 : (applyR (t.arg 1) ⟨[arg i], 0⟩).2 ≠ 0
    · rw [if_pos h3]; exact zT_may
    rw [if_neg h3]
    exact spW_may k (i + 1) _ (applyR_may _ _)
theorem spD_may {T : Nat → Tm → Int} {m : Tm} {r : Tm × Int} (h : r.2 = 0 → mayB r.1 = true) : mayB (spD T m r).1 = true := by
  unfold spD
  by_cases h1 : r.2 ≠ 0
  · rw [if_pos h1]; exact zT_may
  rw [if_neg h1]
  exact spW_may _ _ _ (h (Classical.not_not.1 h1))
theorem metaW_may {w : Wd} {n : Int} {T : Nat → Tm → Int} {m : Tm} : mayB (metaW w n T m).1 = true := by
  unfold metaW
  split
  · exact zT_may
  split
  · exact zT_may
  split
  · exact zT_may
  · exact applyR_may _ _
theorem spD_ok {T : Nat → Tm → Int} {m : Tm} {r : Tm × Int} (h : (spD T m r).2 = 0) : r.2 = 0 ∧ spD T m r = spW T m.arg m.args.length 0 r.1 := by
  unfold spD at h ⊢
  by_cases h1 : r.2 ≠ 0
  · rw [if_pos h1] at h; exact absurd h h1
  rw [if_neg h1]
  exact ⟨Classical.not_not.1 h1, rfl⟩
theorem spD_go {T : Nat → Tm → Int} {m : Tm} {r : Tm × Int} (h : r.2 = 0) : spD T m r = spW T m.arg m.args.length 0 r.1 := by
  unfold spD
  rw [if_neg (by simpa using h)]
theorem varW_ok {ctx : List Tm} {h : Int} (e : (varW ctx h).2 = 0) : h < ctx.length ∧ varW ctx h = (upT (ctx.getD (ctx.length - 1 - h.toNat) default) (h + 1) 0, 0) := by
  unfold varW at e ⊢
  by_cases h1 : h ≥ ctx.length
  · rw [if_pos h1] at e; cases e
  rw [if_neg h1]
  exact ⟨by omega, rfl⟩
theorem declW_ok {w : Wd} {h : Int} {kind : Bool} (e : (declW w h kind).2 = 0) : h < w.sig.length ∧ kindAt w.sig h.toNat = kind ∧ declW w h kind = (w.sig.getD h.toNat default, 0) := by
  unfold declW at e ⊢
  by_cases h1 : h ≥ w.sig.length
  · rw [if_pos h1] at e; cases e
  rw [if_neg h1] at e ⊢
  by_cases h2 : kindAt w.sig h.toNat ≠ kind
  · rw [if_pos h2] at e; cases e
  rw [if_neg h2]
  exact ⟨by omega, Classical.not_not.1 h2, rfl⟩
theorem declW_go {w : Wd} {h : Int} {kind : Bool} (h1 : h < w.sig.length) (h2 : kindAt w.sig h.toNat = kind) : declW w h kind = (w.sig.getD h.toNat default, 0) := by
  unfold declW
  rw [if_neg (by omega), if_neg (by simpa using h2)]
theorem metaW_ok {w : Wd} {n : Int} {T : Nat → Tm → Int} {m : Tm} (e : (metaW w n T m).2 = 0) :
    m.head < w.metas.length ∧ (w.metas.getD m.head.toNat default).ctx.length = m.args.length ∧ mtW T (w.metas.getD m.head.toNat default).ctx m.args n m.args.length 0 = 0 ∧
    metaW w n T m = applyR (w.metas.getD m.head.toNat default).t ⟨m.args, n⟩ := by
  unfold metaW at e ⊢
  by_cases h1 : m.head ≥ w.metas.length
  · rw [if_pos h1] at e; cases e
  rw [if_neg h1] at e ⊢
  by_cases h2 : (w.metas.getD m.head.toNat default).ctx.length ≠ m.args.length
  · rw [if_pos h2] at e; cases e
  rw [if_neg h2] at e ⊢
  by_cases h3 : mtW T (w.metas.getD m.head.toNat default).ctx m.args n m.args.length 0 ≠ 0
  · rw [if_pos h3] at e; exact absurd e h3
  rw [if_neg h3]
  exact ⟨by omega, Classical.not_not.1 h2, Classical.not_not.1 h3, rfl⟩
theorem metaW_go {w : Wd} {n : Int} {T : Nat → Tm → Int} {m : Tm} (h1 : m.head < w.metas.length) (h2 : (w.metas.getD m.head.toNat default).ctx.length = m.args.length)
    (h3 : mtW T (w.metas.getD m.head.toNat default).ctx m.args n m.args.length 0 = 0) : metaW w n T m = applyR (w.metas.getD m.head.toNat default).t ⟨m.args, n⟩ := by
  unfold metaW
  rw [if_neg (by omega), if_neg (by simpa using h2), if_neg (by simpa using h3)]
/-- What has a type: how. -/
theorem term_lam {w : Wd} {m a : Tm} {ctx : List Tm} (hk : m.kind = 3) : termW w m a ctx = if a.kind = 1 then argW w m 0 (a.arg 1) (ctx ++ [a.arg 0]) else 3 := by
  rw [termW_eq]
  unfold termB
  rw [if_pos hk]
theorem term_ok {w : Wd} {m a : Tm} {ctx : List Tm} (hk : m.kind ≠ 3) (h : termW w m a ctx = 0) : a.kind = 2 ∧ cmW w ctx (fun i x => argW w m i x ctx) m = (a, 0) := by
  rw [termW_eq] at h
  unfold termB at h
  rw [if_neg hk] at h
  by_cases h1 : a.kind ≠ 2
  · rw [if_pos h1] at h; cases h
  rw [if_neg h1] at h
  by_cases h2 : (cmW w ctx (fun i x => argW w m i x ctx) m).2 ≠ 0
  · rw [if_pos h2] at h; exact absurd h h2
  rw [if_neg h2] at h
  by_cases h3 : sameB (cmW w ctx (fun i x => argW w m i x ctx) m).1 a = true
  · exact ⟨Classical.not_not.1 h1, Prod.ext (same_eq _ _ h3) (Classical.not_not.1 h2)⟩
  · rw [if_neg h3] at h; cases h
theorem term_go {w : Wd} {m a : Tm} {ctx : List Tm} (hk : m.kind ≠ 3) (h1 : a.kind = 2) (h : cmW w ctx (fun i x => argW w m i x ctx) m = (a, 0)) : termW w m a ctx = 0 := by
  rw [termW_eq]
  unfold termB
  rw [if_neg hk, if_neg (by simpa using h1), h]
  simp [sameB_refl]
theorem cm_kind {w : Wd} {ctx : List Tm} {T : Nat → Tm → Int} {m : Tm} (h : (cmW w ctx T m).2 = 0) : m.kind = 4 ∨ m.kind = 5 ∨ m.kind = 6 := by
  unfold cmW at h
  split at h
  · exact .inl ‹_›
  split at h
  · exact .inr (.inl ‹_›)
  split at h
  · exact .inr (.inr ‹_›)
  · cases h
theorem cm_var {w : Wd} {ctx : List Tm} {T : Nat → Tm → Int} {m : Tm} (h : m.kind = 4) : cmW w ctx T m = spD T m (varW ctx m.head) := if_pos h
theorem cm_const {w : Wd} {ctx : List Tm} {T : Nat → Tm → Int} {m : Tm} (h : m.kind = 5) : cmW w ctx T m = spD T m (declW w m.head false) := by
  unfold cmW
  rw [if_neg (by omega), if_pos h]
theorem cm_meta {w : Wd} {ctx : List Tm} {T : Nat → Tm → Int} {m : Tm} (h : m.kind = 6) : cmW w ctx T m = metaW w ctx.length T m := by
  unfold cmW
  rw [if_neg (by omega), if_neg (by omega), if_pos h]
theorem spW_all {T : Nat → Tm → Int} {arg : Nat → Tm} : ∀ (k i : Nat) (t : Tm), (spW T arg k i t).2 = 0 → ∀ j, i ≤ j → j < i + k → ∃ x, T j x = 0
  | 0, i, t, h, j, h1, h2 => by omega
  | k + 1, i, t, h, j, h1, h2 => by
    obtain ⟨_, e2, _, e4⟩ := spW_ok h
    rcases Nat.eq_or_lt_of_le h1 with rfl | h1
    · exact ⟨_, e2⟩
    · exact spW_all k (i + 1) _ (by rw [← e4]; exact h) j h1 (by omega)
theorem mtW_all {T : Nat → Tm → Int} {D l : List Tm} {n : Int} : ∀ (k i : Nat), mtW T D l n k i = 0 → ∀ j, i ≤ j → j < i + k → ∃ x, T j x = 0
  | 0, i, h, j, h1, h2 => by omega
  | k + 1, i, h, j, h1, h2 => by
    obtain ⟨_, e2, e3⟩ := mtW_ok h
    rcases Nat.eq_or_lt_of_le h1 with rfl | h1
    · exact ⟨_, e2⟩
    · exact mtW_all k (i + 1) e3 j h1 (by omega)
/-- Each Arg of what has a type has one. -/
theorem cm_args {w : Wd} {ctx : List Tm} {T : Nat → Tm → Int} {m : Tm} (h : (cmW w ctx T m).2 = 0) : ∀ i, i < m.args.length → ∃ x, T i x = 0 := by
  intro i hi
  rcases cm_kind h with hk | hk | hk
  · rw [cm_var hk] at h
    obtain ⟨_, e⟩ := spD_ok h
    rw [e] at h
    exact spW_all _ 0 _ h i (Nat.zero_le i) (by omega)
  · rw [cm_const hk] at h
    obtain ⟨_, e⟩ := spD_ok h
    rw [e] at h
    exact spW_all _ 0 _ h i (Nat.zero_le i) (by omega)
  · rw [cm_meta hk] at h
    obtain ⟨_, _, e, _⟩ := metaW_ok h
    exact mtW_all _ 0 e i (Nat.zero_le i) (by omega)
/-- What has a type is scoped. -/
theorem term_scoped (w : Wd) : ∀ (m a : Tm) (ctx : List Tm), nodesB m = true → termW w m a ctx = 0 → scopedB m ctx.length w.metas.length = true := by
  refine Tm.ind fun m ih a ctx hn h => ?_
  rw [scoped_iff]
  by_cases hk : m.kind = 3
  · have hl := lam_len hn hk
    rw [term_lam hk] at h
    by_cases ha : a.kind = 1
    · rw [if_pos ha, argW_lt (by omega)] at h
      refine ⟨fun e => by omega, fun e => by omega, fun i hi => ?_⟩
      obtain rfl : i = 0 := by omega
      have := ih _ (arg_mem hi) _ _ (node_args hn 0 hi) h
      rw [lam_bnd hn hk]
      simpa using this
    · rw [if_neg ha] at h; cases h
  · obtain ⟨_, e⟩ := term_ok hk h
    have e0 : (cmW w ctx (fun i x => argW w m i x ctx) m).2 = 0 := by rw [e]
    have hck := cm_kind e0
    refine ⟨fun e4 => ?_, fun e6 => ?_, fun i hi => ?_⟩
    · rw [cm_var e4] at e0
      exact (varW_ok (spD_ok e0).1).1
    · rw [cm_meta e6] at e0
      exact (metaW_ok e0).1
    · obtain ⟨x, hx⟩ := cm_args e0 i hi
      rw [argW_lt hi] at hx
      rw [bnd_zero (by omega) hk, Int.natCast_zero, Int.add_zero]
      exact ih _ (arg_mem hi) _ _ (node_args hn i hi) hx
theorem pi_len {t : Tm} (h : nodesB t = true) (hk : t.kind = 1) : t.args.length = 2 := by
  have hnu := node_here h
  unfold nodeOk at hnu
  simp [hk] at hnu
  exact hnu.2
theorem pi_bnd0 {t : Tm} (h : nodesB t = true) (hk : t.kind = 1) : bnd t 0 = 0 := by
  unfold bnd
  rw [if_neg]
  rw [pi_len h hk]
  omega
theorem pi_bnd1 {t : Tm} (h : nodesB t = true) (hk : t.kind = 1) : bnd t 1 = 1 := by
  unfold bnd
  rw [if_pos ⟨.inl hk, by rw [pi_len h hk]⟩]
theorem famW_ok {w : Wd} {ctx : List Tm} {a : Tm} (h : famW w ctx a = 0) : (declW w a.head true).2 = 0 ∧ (spW (fun i x => argW w a i x ctx) a.arg a.args.length 0 (declW w a.head true).1).2 = 0 ∧
    (spW (fun i x => argW w a i x ctx) a.arg a.args.length 0 (declW w a.head true).1).1.kind = 0 := by
  unfold famW at h
  by_cases h1 : (spD (fun i x => argW w a i x ctx) a (declW w a.head true)).2 ≠ 0
  · rw [if_pos h1] at h; exact absurd h h1
  rw [if_neg h1] at h
  have h1 := Classical.not_not.1 h1
  obtain ⟨e1, e2⟩ := spD_ok h1
  rw [e2] at h h1
  by_cases h2 : (spW (fun i x => argW w a i x ctx) a.arg a.args.length 0 (declW w a.head true).1).1.kind ≠ 0
  · rw [if_pos h2] at h; cases h
  exact ⟨e1, h1, Classical.not_not.1 h2⟩
theorem famW_go {w : Wd} {ctx : List Tm} {a : Tm} (h1 : (declW w a.head true).2 = 0) (h2 : (spW (fun i x => argW w a i x ctx) a.arg a.args.length 0 (declW w a.head true).1).2 = 0)
    (h3 : (spW (fun i x => argW w a i x ctx) a.arg a.args.length 0 (declW w a.head true).1).1.kind = 0) : famW w ctx a = 0 := by
  unfold famW
  rw [spD_go h1, if_neg (by simpa using h2), if_neg (by simpa using h3)]
/-- What is a type is scoped, and so is a kind. -/
theorem typ_scoped (w : Wd) : ∀ (a : Tm) (ctx : List Tm), nodesB a = true → typW w a ctx = 0 → scopedB a ctx.length w.metas.length = true := by
  refine Tm.ind fun a ih ctx hn h => ?_
  rw [scoped_iff]
  by_cases h1 : a.kind = 1
  · have hl := pi_len hn h1
    rw [typW_pi w h1 (by omega)] at h
    by_cases e : typW w (a.arg 0) ctx ≠ 0
    · rw [if_pos e] at h; exact absurd h e
    rw [if_neg e] at h
    refine ⟨fun e => by omega, fun e => by omega, fun i hi => ?_⟩
    have hi2 : i = 0 ∨ i = 1 := by omega
    rcases hi2 with rfl | rfl
    · rw [pi_bnd0 hn h1, Int.natCast_zero, Int.add_zero]
      exact ih _ (arg_mem hi) _ (node_args hn 0 hi) (Classical.not_not.1 e)
    · rw [pi_bnd1 hn h1]
      have := ih _ (arg_mem hi) _ (node_args hn 1 hi) h
      simpa using this
  · by_cases h2 : a.kind = 2
    · rw [typW_fam w h2] at h
      obtain ⟨_, e, _⟩ := famW_ok h
      refine ⟨fun e => by omega, fun e => by omega, fun i hi => ?_⟩
      obtain ⟨x, hx⟩ := spW_all _ 0 _ e i (Nat.zero_le i) (by omega)
      rw [argW_lt hi] at hx
      rw [bnd_zero h1 (by omega), Int.natCast_zero, Int.add_zero]
      exact term_scoped w _ _ _ (node_args hn i hi) hx
    · rw [typW_no w h1 h2] at h; cases h
theorem kind_scoped (w : Wd) : ∀ (a : Tm) (ctx : List Tm), nodesB a = true → kindW w a ctx = 0 → scopedB a ctx.length w.metas.length = true := by
  refine Tm.ind fun a ih ctx hn h => ?_
  rw [scoped_iff]
  by_cases h0 : a.kind = 0
  · have hno := node_here hn
    unfold nodeOk at hno
    simp [h0] at hno
    exact ⟨fun e => by omega, fun e => by omega, fun i hi => by rw [hno.2] at hi; simp at hi⟩
  by_cases h1 : a.kind = 1
  · have hl := pi_len hn h1
    rw [kindW_pi w h1 (by omega)] at h
    by_cases e : typW w (a.arg 0) ctx ≠ 0
    · rw [if_pos e] at h; exact absurd h e
    rw [if_neg e] at h
    refine ⟨fun e => by omega, fun e => by omega, fun i hi => ?_⟩
    have hi2 : i = 0 ∨ i = 1 := by omega
    rcases hi2 with rfl | rfl
    · rw [pi_bnd0 hn h1, Int.natCast_zero, Int.add_zero]
      exact typ_scoped w _ _ (node_args hn 0 hi) (Classical.not_not.1 e)
    · rw [pi_bnd1 hn h1]
      have := ih _ (arg_mem hi) _ (node_args hn 1 hi) h
      simpa using this
  · rw [kindW_no w h0 h1] at h; cases h
/-- No type is a kind. -/
theorem typ_kind (w : Wd) : ∀ (a : Tm) (ctx : List Tm), nodesB a = true → typW w a ctx = 0 → kindW w a ctx ≠ 0 := by
  refine Tm.ind fun a ih ctx hn h => ?_
  by_cases h1 : a.kind = 1
  · have hl := pi_len hn h1
    rw [typW_pi w h1 (by omega)] at h
    rw [kindW_pi w h1 (by omega)]
    by_cases e : typW w (a.arg 0) ctx ≠ 0
    · rw [if_pos e] at h; exact absurd h e
    rw [if_neg e] at h ⊢
    exact ih _ (arg_mem (by omega)) _ (node_args hn 1 (by omega)) h
  · by_cases h0 : a.kind = 0
    · rw [typW_no w h1 (by omega)] at h; cases h
    · rw [kindW_no w h0 h1]; decide
/-! ### more of a world -/
/-- A world with more behind. -/
structure Ext (w w' : Wd) : Prop where
  len : w.sig.length ≤ w'.sig.length
  sig : ∀ i, i < w.sig.length → w'.sig.getD i default = w.sig.getD i default
  mlen : w.metas.length ≤ w'.metas.length
  metas : ∀ i, i < w.metas.length → w'.metas.getD i default = w.metas.getD i default
theorem spW_same {T T' : Nat → Tm → Int} {arg : Nat → Tm} : ∀ (k i : Nat) (t : Tm), (∀ j x, i ≤ j → j < i + k → T j x = 0 → T' j x = 0) → (spW T arg k i t).2 = 0 → spW T' arg k i t = spW T arg k i t
  | 0, i, t, _, h => rfl
  | k + 1, i, t, hT, h => by
    obtain ⟨e1, e2, e3, e4⟩ := spW_ok h
    rw [spW_go e1 (hT i _ (Nat.le_refl i) (by omega) e2) e3, e4]
    exact spW_same k (i + 1) _ (fun j x h1 h2 => hT j x (by omega) (by omega)) (by rw [← e4]; exact h)
theorem mtW_same {T T' : Nat → Tm → Int} {D l : List Tm} {n n' : Int} : ∀ (k i : Nat), (∀ j x, i ≤ j → j < i + k → T j x = 0 → T' j x = 0) → (∀ j, i ≤ j → j < i + k → applyR (D.getD j default) ⟨l.take j, n'⟩ = applyR (D.getD j default) ⟨l.take j, n⟩) → mtW T D l n k i = 0 → mtW T' D l n' k i = 0
  | 0, i, _, _, h => rfl
  | k + 1, i, hT, hA, h => by
    obtain ⟨e1, e2, e3⟩ := mtW_ok h
    have ha := hA i (Nat.le_refl i) (by omega)
    rw [mtW_go (by rw [ha]; exact e1) (by rw [ha]; exact hT i _ (Nat.le_refl i) (by omega) e2)]
    exact mtW_same k (i + 1) (fun j x h1 h2 => hT j x (by omega) (by omega)) (fun j h1 h2 => hA j (by omega) (by omega)) e3
theorem declW_ext {w w' : Wd} (hx : Ext w w') {h : Int} (h0 : 0 ≤ h) {kind : Bool} (e : (declW w h kind).2 = 0) : declW w' h kind = declW w h kind := by
  obtain ⟨e1, e2, e3⟩ := declW_ok e
  have hs := hx.sig h.toNat (by omega)
  have hl := hx.len
  rw [e3, ← hs]
  exact declW_go (by omega) (by unfold kindAt; rw [hs]; exact e2)
/-- A context with others in front: each variable has the type that it had. -/
def Front (c c' : List Tm) : Prop := c.length ≤ c'.length ∧ ∀ h : Int, 0 ≤ h → h < c.length → varW c' h = varW c h
theorem Front.self (c : List Tm) : Front c c := ⟨Nat.le_refl _, fun _ _ _ => rfl⟩
theorem varW_lt {c : List Tm} {h : Int} (hl : h < c.length) : varW c h = (upT (c.getD (c.length - 1 - h.toNat) default) (h + 1) 0, 0) := by
  unfold varW
  rw [if_neg (by omega)]
theorem Front.more {c c' : List Tm} (hf : Front c c') (a : Tm) : Front (c ++ [a]) (c' ++ [a]) := by
  refine ⟨by have := hf.1; simp; exact this, fun h h0 hl => ?_⟩
  simp at hl
  have h1 := hf.1
  rw [varW_lt (by simp; omega), varW_lt (by simp; omega)]
  rcases Int.lt_or_le 0 h with hp | hp
  · have := hf.2 (h - 1) (by omega) (by omega)
    rw [varW_lt (by omega), varW_lt (by omega)] at this
    have e1 : (c' ++ [a]).getD ((c' ++ [a]).length - 1 - h.toNat) default = c'.getD (c'.length - 1 - (h - 1).toNat) default := by
      rw [getD_append_l (by simp; omega)]
      congr 1
      simp; omega
    have e2 : (c ++ [a]).getD ((c ++ [a]).length - 1 - h.toNat) default = c.getD (c.length - 1 - (h - 1).toNat) default := by
      rw [getD_append_l (by simp; omega)]
      congr 1
      simp; omega
    rw [e1, e2]
    have h2 := congrArg Prod.fst this
    simp only at h2
    rw [show h - 1 + 1 = h by omega] at h2
    rw [← up_up _ (b := h) h0 1 0, ← up_up _ (b := h) h0 1 0, h2]
  · obtain rfl : h = 0 := by omega
    have e1 : (c' ++ [a]).getD ((c' ++ [a]).length - 1 - (0 : Int).toNat) default = a := by
      rw [List.getD_eq_getElem?_getD]; simp
    have e2 : (c ++ [a]).getD ((c ++ [a]).length - 1 - (0 : Int).toNat) default = a := by
      rw [List.getD_eq_getElem?_getD]; simp
    rw [e1, e2]
theorem front_app (f c : List Tm) : Front c (f ++ c) := by
  refine ⟨by simp, fun h h0 hl => ?_⟩
  rw [varW_lt (by simp; omega), varW_lt hl]
  congr 2
  rw [List.getD_eq_getElem?_getD, List.getD_eq_getElem?_getD, List.getElem?_append_right (by simp; omega)]
  congr 2
  simp; omega
/-- With more declarations, and metas, and more in front where there are no metas: the same. -/
theorem term_ext {w w' : Wd} (hx : Ext w w') : ∀ (m a : Tm) (c c' : List Tm), nodesB m = true → Front c c' → (c' = c ∨ w.metas = []) → termW w m a c = 0 → termW w' m a c' = 0 := by
  refine Tm.ind fun m ih a c c' hn hf hc h => ?_
  by_cases hk : m.kind = 3
  · have hl := lam_len hn hk
    rw [term_lam hk] at h ⊢
    by_cases ha : a.kind = 1
    · rw [if_pos ha, argW_lt (by omega)] at h ⊢
      exact ih _ (arg_mem (by omega)) _ _ _ (node_args hn 0 (by omega)) (hf.more _) (hc.imp (fun e => by rw [e]) id) h
    · rw [if_neg ha] at h; cases h
  · obtain ⟨ha, e⟩ := term_ok hk h
    refine term_go hk ha ?_
    have e0 : (cmW w c (fun i x => argW w m i x c) m).2 = 0 := by rw [e]
    have hT : ∀ i x, i < m.args.length → argW w m i x c = 0 → argW w' m i x c' = 0 := fun i x hi hx => by
      rw [argW_lt hi] at hx ⊢
      exact ih _ (arg_mem hi) _ _ _ (node_args hn i hi) hf hc hx
    have h0 := node_head (node_here hn)
    rcases cm_kind e0 with k4 | k5 | k6
    · rw [cm_var k4] at e e0 ⊢
      obtain ⟨q1, q2⟩ := spD_ok e0
      have hv := hf.2 m.head h0 (varW_ok q1).1
      rw [q2] at e e0
      rw [spD_go (by rw [hv]; exact q1), hv, spW_same _ 0 _ (fun j x _ hj => hT j x (by omega)) e0]
      exact e
    · rw [cm_const k5] at e e0 ⊢
      obtain ⟨q1, q2⟩ := spD_ok e0
      have hv := declW_ext hx h0 q1
      rw [q2] at e e0
      rw [spD_go (by rw [hv]; exact q1), hv, spW_same _ 0 _ (fun j x _ hj => hT j x (by omega)) e0]
      exact e
    · rw [cm_meta k6] at e e0 ⊢
      obtain ⟨q1, q2, q3, q4⟩ := metaW_ok e0
      rcases hc with rfl | hc
      · have hm := hx.metas m.head.toNat (by omega)
        have hl := hx.mlen
        rw [metaW_go (by omega) (by rw [hm]; exact q2) (by rw [hm]; exact mtW_same _ 0 (fun j x _ hj => hT j x (by omega)) (fun _ _ _ => rfl) q3), hm, ← q4]
        exact e
      · rw [hc] at q1; simp at q1; omega
theorem typ_ext {w w' : Wd} (hx : Ext w w') : ∀ (a : Tm) (c c' : List Tm), nodesB a = true → Front c c' → (c' = c ∨ w.metas = []) → typW w a c = 0 → typW w' a c' = 0 := by
  refine Tm.ind fun a ih c c' hn hf hc h => ?_
  by_cases h1 : a.kind = 1
  · have hl := pi_len hn h1
    rw [typW_pi _ h1 (by omega)] at h ⊢
    by_cases e : typW w (a.arg 0) c ≠ 0
    · rw [if_pos e] at h; exact absurd h e
    rw [if_neg e] at h
    rw [if_neg (by simpa using ih _ (arg_mem (by omega)) c c' (node_args hn 0 (by omega)) hf hc (Classical.not_not.1 e))]
    exact ih _ (arg_mem (by omega)) _ _ (node_args hn 1 (by omega)) (hf.more _) (hc.imp (fun e => by rw [e]) id) h
  · by_cases h2 : a.kind = 2
    · rw [typW_fam _ h2] at h ⊢
      obtain ⟨e1, e2, e3⟩ := famW_ok h
      have hv := declW_ext hx (node_head (node_here hn)) e1
      have hs := spW_same _ 0 _ (T' := fun i x => argW w' a i x c') (fun j x _ hj hx2 => by
        have hj : j < a.args.length := by omega
        simp only [argW_lt hj] at hx2 ⊢
        exact term_ext hx _ _ _ _ (node_args hn j hj) hf hc hx2) e2
      refine famW_go (by rw [hv]; exact e1) ?_ ?_
      · rw [hv, hs]; exact e2
      · rw [hv, hs]; exact e3
    · rw [typW_no w h1 h2] at h; cases h
theorem kind_ext {w w' : Wd} (hx : Ext w w') : ∀ (a : Tm) (c c' : List Tm), nodesB a = true → Front c c' → (c' = c ∨ w.metas = []) → kindW w a c = 0 → kindW w' a c' = 0 := by
  refine Tm.ind fun a ih c c' hn hf hc h => ?_
  by_cases h0 : a.kind = 0
  · exact kindW_sort w' h0 c'
  by_cases h1 : a.kind = 1
  · have hl := pi_len hn h1
    rw [kindW_pi _ h1 (by omega)] at h ⊢
    by_cases e : typW w (a.arg 0) c ≠ 0
    · rw [if_pos e] at h; exact absurd h e
    rw [if_neg e] at h
    rw [if_neg (by simpa using typ_ext hx _ c c' (node_args hn 0 (by omega)) hf hc (Classical.not_not.1 e))]
    exact ih _ (arg_mem (by omega)) _ _ (node_args hn 1 (by omega)) (hf.more _) (hc.imp (fun e => by rw [e]) id) h
  · rw [kindW_no w h0 h1] at h; cases h
/-- A type that is a Fam is the only one. -/
theorem term_one {w : Wd} {m a b : Tm} {c : List Tm} (ha : a.kind = 2) (hb : b.kind = 2) (h1 : termW w m a c = 0) (h2 : termW w m b c = 0) : a = b := by
  by_cases hk : m.kind = 3
  · rw [term_lam hk, if_neg (by omega)] at h1; cases h1
  · have e1 := (term_ok hk h1).2
    have e2 := (term_ok hk h2).2
    rw [e1] at e2
    exact congrArg Prod.fst e2
end Go.Proofs.Ytmemmdfjlhamfaa
/- Metas and worlds as data; what a list's function finds. -/
set_option linter.unusedSimpArgs false
set_option linter.unusedVariables false
set_option maxRecDepth 100000
namespace Go.Proofs.Ytmemmdfjlhamfaa
open Go.Proofs
theorem raw_flat : AV.flat (.raw .nilFunc) = true := rfl
theorem raw_cells : AV.cells (.raw .nilFunc) = [.raw .nilFunc] := rfl
theorem raw_kept : AV.kept (.raw .nilFunc) = .raw .nilFunc := rfl
theorem raw_keptH : AV.keptH (.raw .nilFunc) = .raw .nilFunc := rfl
theorem raw_clr : AV.clr (.raw .nilFunc) = .raw .nilFunc := rfl
theorem raw_inv (ps : List Nat) : AV.inv ps (.raw .nilFunc) = .raw .nilFunc := rfl
attribute [go_sem] raw_flat raw_cells raw_kept raw_keptH raw_clr raw_inv
def encM (d : Md) : Dv := .agg [.slc (encs d.ctx), .int .i64 d.t.kind, .int .i64 d.t.head, .slc (encs d.t.args), .bool d.param]
def encMs (l : List Md) : List Dv := l.map encM
abbrev dM (d : Md) : AV := .d (encM d)
abbrev dMs (l : List Md) : AV := .d (.slc (encMs l))
theorem encMs_length (l : List Md) : (encMs l).length = l.length := by simp [encMs]
theorem encMs_get (l : List Md) (i : Nat) : (encMs l)[i]? = (l[i]?).map encM := by simp [encMs]
theorem encMs_append (a b : List Md) : encMs (a ++ b) = encMs a ++ encMs b := by simp [encMs]
theorem encMs_take (a : List Md) (n : Nat) : encMs (a.take n) = (encMs a).take n := by simp [encMs]
theorem encDs_take (a : List Dc) (n : Nat) : encDs (a.take n) = (encDs a).take n := by simp [encDs]
theorem encM_width (d : Md) : (encM d).width = 5 := rfl
theorem encMs_all (l : List Md) : ((encMs l).all fun x => x.width == 5) = true := by simp [encMs, encM_width]
theorem encM_cells (d : Md) : (encM d).cells = [.slc (encs d.ctx), .int .i64 d.t.kind, .int .i64 d.t.head, .slc (encs d.t.args), .bool d.param] := rfl
theorem encM_fold (d : Md) : Dv.agg [.slc (encs d.ctx), .int .i64 d.t.kind, .int .i64 d.t.head, .slc (encs d.t.args), .bool d.param] = encM d := rfl
theorem cells_encM (d : Md) : AV.cells (.d (encM d)) = [.d (.slc (encs d.ctx)), .d (.int .i64 d.t.kind), .d (.int .i64 d.t.head), .d (.slc (encs d.t.args)), .d (.bool d.param)] := rfl
attribute [go_sem] encMs_length encMs_get encM_width encM_cells encM_fold cells_encM
def cel5 (d : Md) : List AV := [dL d.ctx, dI d.t.kind, dI d.t.head, dL d.t.args, dB d.param]
def cel4 (d : Dc) : List AV := [.d (.str d.name), dI d.t.kind, dI d.t.head, dL d.t.args]
theorem mget_get {l : List Md} {i : Nat} (h : i < l.length) : l[i]? = some (l.getD i default) := by simp [List.getD, List.getElem?_eq_getElem h]
theorem mget_mem {l : List Md} {i : Nat} (h : i < l.length) : l.getD i default ∈ l := List.mem_of_getElem? (mget_get h)
/-- A world: declarations, metas, a context. -/
structure Wo where
  sig : List Dc
  metas : List Md
  ctx : List Tm
def Wo.wd (w : Wo) : Wd := ⟨w.sig.map Dc.t, w.metas⟩
def encW (w : Wo) : Dv := .agg [.slc (encDs w.sig), .slc (encMs w.metas), .slc (encs w.ctx)]
abbrev dW (w : Wo) : AV := .d (encW w)
def celW (w : Wo) : List AV := [dDs w.sig, dMs w.metas, dL w.ctx]
theorem encW_eq (w : Wo) : encW w = .agg [.slc (encDs w.sig), .slc (encMs w.metas), .slc (encs w.ctx)] := rfl
theorem cells_encW (w : Wo) : AV.cells (.d (encW w)) = celW w := rfl
theorem encW_cells (w : Wo) : (encW w).cells = [.slc (encDs w.sig), .slc (encMs w.metas), .slc (encs w.ctx)] := rfl
theorem encW_width (w : Wo) : (encW w).width = 3 := rfl
theorem encW_fold (a : List Dc) (b : List Md) (c : List Tm) : Dv.agg [.slc (encDs a), .slc (encMs b), .slc (encs c)] = encW ⟨a, b, c⟩ := rfl
attribute [go_sem] encW_cells encW_width encW_fold
theorem mApp_clip (xs : List Dv) (y : Dv) (sz : Nat) (locs : List (Option (List AV))) (heap : List HO) (hr : xs.length < room) (hx : (xs.all fun x => x.width == sz) = true) (hy : y.width = sz) :
    mApp (.clip xs) [y] sz { locs := locs, heap := heap, toks := [] } = some (.v (.own 0 (xs ++ [y])), { locs := locs, heap := heap, toks := [some (xs.length + 1)] }) := by
  have : xs.length + 1 ≤ room := hr
  simp only [mApp, appOwn, List.length_nil, List.nil_append, List.length_cons]
  simp [this, hy]
  simpa using hx
/-- A function that answers for each of a list, and leaves the shared variables alone. -/
def AsksE (g : Nat) (caps : List AV) (h : List HO) (X : List Dv) (p : Nat → Bool) : Prop :=
  ∀ i x, X[i]? = some x → ∀ (locs : List (Option (List AV))) (toks : List (Option Nat)), mCall C (lim C) g (.d x :: caps) { locs := locs, heap := h, toks := toks } = some (.v (dB (!p i)), { locs := locs, heap := h, toks := toks })
def itT_S (l : List Tm) (g : Nat) (caps : List AV) (h : List HO) (i : Nat) : St := mk 19 [(0, .d (.slc (encs l))), (1, .fn g [] caps), (7, dI l.length), (8, dI i)] [] h []
theorem itT_spec {g : Nat} {caps : List AV} {h : List HO} {l : List Tm} {p : Nat → Bool} (hd : AsksE g caps h (encs l) p) (hl : l.length < room) (hc1 : okL caps = true) (hc2 : eraseL caps = caps) :
    ∃ i : Int, (lim C).call 82 [.d (.slc (encs l)), .fn g [] caps] h = some (.ret (dI i), h) ∧ decide (i ≥ 0) = !allB l.length p := by
  have hr : room = 1099511627776 := rfl
  have hstep : ∀ i, i < l.length → p i = true → (lim C).code 82 (cf (.loop (cf (cf (cs (cf (cs (bodyOf Try.f82)))))))) (itT_S l g caps h i) = some (.nor, itT_S l g caps h (i + 1)) := fun i hi hm => by
    have hc := hd i _ (by rw [encs_get, getD_get hi]; rfl)
    rw [hm] at hc
    simp -implicitDefEqProofs (disch := decide +kernel) only [cf, cs, bodyOf, Try.f82, Option.getD_some, go_sem, ↓reduceIte, Nat.reduceSub, Nat.reduceAdd, Nat.reduceMul, Nat.reduceBEq, Nat.reduceLT, Nat.reduceLeDiff, Nat.reduceEqDiff, reduceCtorEq, Int.reduceToNat, Int.reduceLE, Int.reduceLT, Int.reduceBEq, Int.reduceBNe, itT_S, lt_true hi, getD_get hi, hc, cells_enc, cel3, wrap_succ (n := i) (by omega)]
  cases hall : allB l.length p
  · obtain ⟨j, hj, hpj, hb⟩ := allB_first _ _ hall
    refine ⟨j, ?_, by simp⟩
    have hc := hd j _ (by rw [encs_get, getD_get hj]; rfl)
    rw [hpj] at hc
    have hloop : (lim C).code 82 (.loop (cf (cf (cs (cf (cs (bodyOf Try.f82))))))) (itT_S l g caps h 0) = some (.ret, mk 19 [(4, dI j)] [] h []) := by
      refine loop_run (itT_S l g caps h) j (fun i hi => hstep i (by omega) (hb i hi)) ?_ (by simp)
      simp -implicitDefEqProofs (disch := decide +kernel) only [cf, cs, bodyOf, Try.f82, Option.getD_some, go_sem, ↓reduceIte, Nat.reduceSub, Nat.reduceAdd, Nat.reduceMul, Nat.reduceBEq, Nat.reduceLT, Nat.reduceLeDiff, Nat.reduceEqDiff, reduceCtorEq, Int.reduceToNat, Int.reduceLE, Int.reduceLT, Int.reduceBEq, Int.reduceBNe, itT_S, lt_true hj, getD_get hj, hc, cells_enc, cel3]
    rw [ev_fn 82 Try.f82 _ _ _ rfl Try.func82 rfl Try.ntmps82 rfl]
    simp -implicitDefEqProofs (disch := decide +kernel) only [go_sem, ↓reduceIte, Nat.reduceSub, Nat.reduceAdd, Nat.reduceMul, Nat.reduceBEq, Nat.reduceLT, Nat.reduceLeDiff, Nat.reduceEqDiff, reduceCtorEq, Int.reduceToNat, Int.reduceLE, Int.reduceLT, Int.reduceBEq, Int.reduceBNe, hc1, hc2]
    rw [loop_at hloop ?hb ?hs]
    case hb => rfl
    case hs => rfl
    simp -implicitDefEqProofs (disch := decide +kernel) only [go_sem, ↓reduceIte, Nat.reduceSub, Nat.reduceAdd, Nat.reduceMul, Nat.reduceBEq, Nat.reduceLT, Nat.reduceLeDiff, Nat.reduceEqDiff, reduceCtorEq, Int.reduceToNat, Int.reduceLE, Int.reduceLT, Int.reduceBEq, Int.reduceBNe]
  · refine ⟨-1, ?_, by simp⟩
    have hloop : (lim C).code 82 (.loop (cf (cf (cs (cf (cs (bodyOf Try.f82))))))) (itT_S l g caps h 0) = some (.exit 0, mk 19 [(0, .d (.slc (encs l))), (1, .fn g [] caps), (7, dI l.length), (8, dI l.length), (9, dB false)] [] h []) := by
      refine loop_run (itT_S l g caps h) l.length (fun i hi => hstep i hi ((allB_iff _ _).1 hall i hi)) ?_ (by simp)
      simp -implicitDefEqProofs (disch := decide +kernel) only [cf, cs, bodyOf, Try.f82, Option.getD_some, go_sem, ↓reduceIte, Nat.reduceSub, Nat.reduceAdd, Nat.reduceMul, Nat.reduceBEq, Nat.reduceLT, Nat.reduceLeDiff, Nat.reduceEqDiff, reduceCtorEq, Int.reduceToNat, Int.reduceLE, Int.reduceLT, Int.reduceBEq, Int.reduceBNe, itT_S, lt_false (Nat.le_refl l.length)]
    rw [ev_fn 82 Try.f82 _ _ _ rfl Try.func82 rfl Try.ntmps82 rfl]
    simp -implicitDefEqProofs (disch := decide +kernel) only [go_sem, ↓reduceIte, Nat.reduceSub, Nat.reduceAdd, Nat.reduceMul, Nat.reduceBEq, Nat.reduceLT, Nat.reduceLeDiff, Nat.reduceEqDiff, reduceCtorEq, Int.reduceToNat, Int.reduceLE, Int.reduceLT, Int.reduceBEq, Int.reduceBNe, hc1, hc2]
    rw [loop_at hloop ?hb ?hs]
    case hb => rfl
    case hs => rfl
    simp -implicitDefEqProofs (disch := decide +kernel) only [go_sem, ↓reduceIte, Nat.reduceSub, Nat.reduceAdd, Nat.reduceMul, Nat.reduceBEq, Nat.reduceLT, Nat.reduceLeDiff, Nat.reduceEqDiff, reduceCtorEq, Int.reduceToNat, Int.reduceLE, Int.reduceLT, Int.reduceBEq, Int.reduceBNe]
theorem ctT_spec {g : Nat} {caps : List AV} {h : List HO} {l : List Tm} {p : Nat → Bool} (hd : AsksE g caps h (encs l) p) (hl : l.length < room) (hc1 : okL caps = true) (hc2 : eraseL caps = caps) (hc3 : pureL caps = false) :
    (lim C).call 56 [.d (.slc (encs l)), .fn g [] caps] h = some (.ret (dB (!allB l.length p)), h) := by
  obtain ⟨i, h1, h2⟩ := itT_spec hd hl hc1 hc2
  rw [ev_fn 56 Try.f56 _ _ _ rfl Try.func56 rfl Try.ntmps56 rfl]
  simp -implicitDefEqProofs (disch := decide +kernel) only [go_sem, ↓reduceIte, Nat.reduceSub, Nat.reduceAdd, Nat.reduceMul, Nat.reduceBEq, Nat.reduceLT, Nat.reduceLeDiff, Nat.reduceEqDiff, reduceCtorEq, Int.reduceToNat, Int.reduceLE, Int.reduceLT, Int.reduceBEq, Int.reduceBNe, mCall, hc1, hc2, hc3, h1, h2]
def itD_S (l : List Dc) (g : Nat) (caps : List AV) (h : List HO) (i : Nat) : St := mk 19 [(0, .d (.slc (encDs l))), (1, .fn g [] caps), (7, dI l.length), (8, dI i)] [] h []
theorem itD_spec {g : Nat} {caps : List AV} {h : List HO} {l : List Dc} {p : Nat → Bool} (hd : AsksE g caps h (encDs l) p) (hl : l.length < room) (hc1 : okL caps = true) (hc2 : eraseL caps = caps) :
    ∃ i : Int, (lim C).call 119 [.d (.slc (encDs l)), .fn g [] caps] h = some (.ret (dI i), h) ∧ decide (i ≥ 0) = !allB l.length p := by
  have hr : room = 1099511627776 := rfl
  have hstep : ∀ i, i < l.length → p i = true → (lim C).code 119 (cf (.loop (cf (cf (cs (cf (cs (bodyOf Try.f119)))))))) (itD_S l g caps h i) = some (.nor, itD_S l g caps h (i + 1)) := fun i hi hm => by
    have hc := hd i _ (by rw [encDs_get, dat_get hi]; rfl)
    rw [hm] at hc
    simp -implicitDefEqProofs (disch := decide +kernel) only [cf, cs, bodyOf, Try.f119, Option.getD_some, go_sem, ↓reduceIte, Nat.reduceSub, Nat.reduceAdd, Nat.reduceMul, Nat.reduceBEq, Nat.reduceLT, Nat.reduceLeDiff, Nat.reduceEqDiff, reduceCtorEq, Int.reduceToNat, Int.reduceLE, Int.reduceLT, Int.reduceBEq, Int.reduceBNe, itD_S, lt_true hi, dat_get hi, hc, cells_encD, wrap_succ (n := i) (by omega)]
  cases hall : allB l.length p
  · obtain ⟨j, hj, hpj, hb⟩ := allB_first _ _ hall
    refine ⟨j, ?_, by simp⟩
    have hc := hd j _ (by rw [encDs_get, dat_get hj]; rfl)
    rw [hpj] at hc
    have hloop : (lim C).code 119 (.loop (cf (cf (cs (cf (cs (bodyOf Try.f119))))))) (itD_S l g caps h 0) = some (.ret, mk 19 [(4, dI j)] [] h []) := by
      refine loop_run (itD_S l g caps h) j (fun i hi => hstep i (by omega) (hb i hi)) ?_ (by simp)
      simp -implicitDefEqProofs (disch := decide +kernel) only [cf, cs, bodyOf, Try.f119, Option.getD_some, go_sem, ↓reduceIte, Nat.reduceSub, Nat.reduceAdd, Nat.reduceMul, Nat.reduceBEq, Nat.reduceLT, Nat.reduceLeDiff, Nat.reduceEqDiff, reduceCtorEq, Int.reduceToNat, Int.reduceLE, Int.reduceLT, Int.reduceBEq, Int.reduceBNe, itD_S, lt_true hj, dat_get hj, hc, cells_encD]
    rw [ev_fn 119 Try.f119 _ _ _ rfl Try.func119 rfl Try.ntmps119 rfl]
    simp -implicitDefEqProofs (disch := decide +kernel) only [go_sem, ↓reduceIte, Nat.reduceSub, Nat.reduceAdd, Nat.reduceMul, Nat.reduceBEq, Nat.reduceLT, Nat.reduceLeDiff, Nat.reduceEqDiff, reduceCtorEq, Int.reduceToNat, Int.reduceLE, Int.reduceLT, Int.reduceBEq, Int.reduceBNe, hc1, hc2]
    rw [loop_at hloop ?hb ?hs]
    case hb => rfl
    case hs => rfl
    simp -implicitDefEqProofs (disch := decide +kernel) only [go_sem, ↓reduceIte, Nat.reduceSub, Nat.reduceAdd, Nat.reduceMul, Nat.reduceBEq, Nat.reduceLT, Nat.reduceLeDiff, Nat.reduceEqDiff, reduceCtorEq, Int.reduceToNat, Int.reduceLE, Int.reduceLT, Int.reduceBEq, Int.reduceBNe]
  · refine ⟨-1, ?_, by simp⟩
    have hloop : (lim C).code 119 (.loop (cf (cf (cs (cf (cs (bodyOf Try.f119))))))) (itD_S l g caps h 0) = some (.exit 0, mk 19 [(0, .d (.slc (encDs l))), (1, .fn g [] caps), (7, dI l.length), (8, dI l.length), (9, dB false)] [] h []) := by
      refine loop_run (itD_S l g caps h) l.length (fun i hi => hstep i hi ((allB_iff _ _).1 hall i hi)) ?_ (by simp)
      simp -implicitDefEqProofs (disch := decide +kernel) only [cf, cs, bodyOf, Try.f119, Option.getD_some, go_sem, ↓reduceIte, Nat.reduceSub, Nat.reduceAdd, Nat.reduceMul, Nat.reduceBEq, Nat.reduceLT, Nat.reduceLeDiff, Nat.reduceEqDiff, reduceCtorEq, Int.reduceToNat, Int.reduceLE, Int.reduceLT, Int.reduceBEq, Int.reduceBNe, itD_S, lt_false (Nat.le_refl l.length)]
    rw [ev_fn 119 Try.f119 _ _ _ rfl Try.func119 rfl Try.ntmps119 rfl]
    simp -implicitDefEqProofs (disch := decide +kernel) only [go_sem, ↓reduceIte, Nat.reduceSub, Nat.reduceAdd, Nat.reduceMul, Nat.reduceBEq, Nat.reduceLT, Nat.reduceLeDiff, Nat.reduceEqDiff, reduceCtorEq, Int.reduceToNat, Int.reduceLE, Int.reduceLT, Int.reduceBEq, Int.reduceBNe, hc1, hc2]
    rw [loop_at hloop ?hb ?hs]
    case hb => rfl
    case hs => rfl
    simp -implicitDefEqProofs (disch := decide +kernel) only [go_sem, ↓reduceIte, Nat.reduceSub, Nat.reduceAdd, Nat.reduceMul, Nat.reduceBEq, Nat.reduceLT, Nat.reduceLeDiff, Nat.reduceEqDiff, reduceCtorEq, Int.reduceToNat, Int.reduceLE, Int.reduceLT, Int.reduceBEq, Int.reduceBNe]
theorem ctD_spec {g : Nat} {caps : List AV} {h : List HO} {l : List Dc} {p : Nat → Bool} (hd : AsksE g caps h (encDs l) p) (hl : l.length < room) (hc1 : okL caps = true) (hc2 : eraseL caps = caps) (hc3 : pureL caps = false) :
    (lim C).call 95 [.d (.slc (encDs l)), .fn g [] caps] h = some (.ret (dB (!allB l.length p)), h) := by
  obtain ⟨i, h1, h2⟩ := itD_spec hd hl hc1 hc2
  rw [ev_fn 95 Try.f95 _ _ _ rfl Try.func95 rfl Try.ntmps95 rfl]
  simp -implicitDefEqProofs (disch := decide +kernel) only [go_sem, ↓reduceIte, Nat.reduceSub, Nat.reduceAdd, Nat.reduceMul, Nat.reduceBEq, Nat.reduceLT, Nat.reduceLeDiff, Nat.reduceEqDiff, reduceCtorEq, Int.reduceToNat, Int.reduceLE, Int.reduceLT, Int.reduceBEq, Int.reduceBNe, mCall, hc1, hc2, hc3, h1, h2]
def itM_S (l : List Md) (g : Nat) (caps : List AV) (h : List HO) (i : Nat) : St := mk 19 [(0, .d (.slc (encMs l))), (1, .fn g [] caps), (7, dI l.length), (8, dI i)] [] h []
theorem itM_spec {g : Nat} {caps : List AV} {h : List HO} {l : List Md} {p : Nat → Bool} (hd : AsksE g caps h (encMs l) p) (hl : l.length < room) (hc1 : okL caps = true) (hc2 : eraseL caps = caps) :
    ∃ i : Int, (lim C).call 120 [.d (.slc (encMs l)), .fn g [] caps] h = some (.ret (dI i), h) ∧ decide (i ≥ 0) = !allB l.length p := by
  have hr : room = 1099511627776 := rfl
  have hstep : ∀ i, i < l.length → p i = true → (lim C).code 120 (cf (.loop (cf (cf (cs (cf (cs (bodyOf Try.f120)))))))) (itM_S l g caps h i) = some (.nor, itM_S l g caps h (i + 1)) := fun i hi hm => by
    have hc := hd i _ (by rw [encMs_get, mget_get hi]; rfl)
    rw [hm] at hc
    simp -implicitDefEqProofs (disch := decide +kernel) only [cf, cs, bodyOf, Try.f120, Option.getD_some, go_sem, ↓reduceIte, Nat.reduceSub, Nat.reduceAdd, Nat.reduceMul, Nat.reduceBEq, Nat.reduceLT, Nat.reduceLeDiff, Nat.reduceEqDiff, reduceCtorEq, Int.reduceToNat, Int.reduceLE, Int.reduceLT, Int.reduceBEq, Int.reduceBNe, itM_S, lt_true hi, mget_get hi, hc, cells_encM, wrap_succ (n := i) (by omega)]
  cases hall : allB l.length p
  · obtain ⟨j, hj, hpj, hb⟩ := allB_first _ _ hall
    refine ⟨j, ?_, by simp⟩
    have hc := hd j _ (by rw [encMs_get, mget_get hj]; rfl)
    rw [hpj] at hc
    have hloop : (lim C).code 120 (.loop (cf (cf (cs (cf (cs (bodyOf Try.f120))))))) (itM_S l g caps h 0) = some (.ret, mk 19 [(4, dI j)] [] h []) := by
      refine loop_run (itM_S l g caps h) j (fun i hi => hstep i (by omega) (hb i hi)) ?_ (by simp)
      simp -implicitDefEqProofs (disch := decide +kernel) only [cf, cs, bodyOf, Try.f120, Option.getD_some, go_sem, ↓reduceIte, Nat.reduceSub, Nat.reduceAdd, Nat.reduceMul, Nat.reduceBEq, Nat.reduceLT, Nat.reduceLeDiff, Nat.reduceEqDiff, reduceCtorEq, Int.reduceToNat, Int.reduceLE, Int.reduceLT, Int.reduceBEq, Int.reduceBNe, itM_S, lt_true hj, mget_get hj, hc, cells_encM]
    rw [ev_fn 120 Try.f120 _ _ _ rfl Try.func120 rfl Try.ntmps120 rfl]
    simp -implicitDefEqProofs (disch := decide +kernel) only [go_sem, ↓reduceIte, Nat.reduceSub, Nat.reduceAdd, Nat.reduceMul, Nat.reduceBEq, Nat.reduceLT, Nat.reduceLeDiff, Nat.reduceEqDiff, reduceCtorEq, Int.reduceToNat, Int.reduceLE, Int.reduceLT, Int.reduceBEq, Int.reduceBNe, hc1, hc2]
    rw [loop_at hloop ?hb ?hs]
    case hb => rfl
    case hs => rfl
    simp -implicitDefEqProofs (disch := decide +kernel) only [go_sem, ↓reduceIte, Nat.reduceSub, Nat.reduceAdd, Nat.reduceMul, Nat.reduceBEq, Nat.reduceLT, Nat.reduceLeDiff, Nat.reduceEqDiff, reduceCtorEq, Int.reduceToNat, Int.reduceLE, Int.reduceLT, Int.reduceBEq, Int.reduceBNe]
  · refine ⟨-1, ?_, by simp⟩
    have hloop : (lim C).code 120 (.loop (cf (cf (cs (cf (cs (bodyOf Try.f120))))))) (itM_S l g caps h 0) = some (.exit 0, mk 19 [(0, .d (.slc (encMs l))), (1, .fn g [] caps), (7, dI l.length), (8, dI l.length), (9, dB false)] [] h []) := by
      refine loop_run (itM_S l g caps h) l.length (fun i hi => hstep i hi ((allB_iff _ _).1 hall i hi)) ?_ (by simp)
      simp -implicitDefEqProofs (disch := decide +kernel) only [cf, cs, bodyOf, Try.f120, Option.getD_some, go_sem, ↓reduceIte, Nat.reduceSub, Nat.reduceAdd, Nat.reduceMul, Nat.reduceBEq, Nat.reduceLT, Nat.reduceLeDiff, Nat.reduceEqDiff, reduceCtorEq, Int.reduceToNat, Int.reduceLE, Int.reduceLT, Int.reduceBEq, Int.reduceBNe, itM_S, lt_false (Nat.le_refl l.length)]
    rw [ev_fn 120 Try.f120 _ _ _ rfl Try.func120 rfl Try.ntmps120 rfl]
    simp -implicitDefEqProofs (disch := decide +kernel) only [go_sem, ↓reduceIte, Nat.reduceSub, Nat.reduceAdd, Nat.reduceMul, Nat.reduceBEq, Nat.reduceLT, Nat.reduceLeDiff, Nat.reduceEqDiff, reduceCtorEq, Int.reduceToNat, Int.reduceLE, Int.reduceLT, Int.reduceBEq, Int.reduceBNe, hc1, hc2]
    rw [loop_at hloop ?hb ?hs]
    case hb => rfl
    case hs => rfl
    simp -implicitDefEqProofs (disch := decide +kernel) only [go_sem, ↓reduceIte, Nat.reduceSub, Nat.reduceAdd, Nat.reduceMul, Nat.reduceBEq, Nat.reduceLT, Nat.reduceLeDiff, Nat.reduceEqDiff, reduceCtorEq, Int.reduceToNat, Int.reduceLE, Int.reduceLT, Int.reduceBEq, Int.reduceBNe]
theorem ctM_spec {g : Nat} {caps : List AV} {h : List HO} {l : List Md} {p : Nat → Bool} (hd : AsksE g caps h (encMs l) p) (hl : l.length < room) (hc1 : okL caps = true) (hc2 : eraseL caps = caps) (hc3 : pureL caps = false) :
    (lim C).call 97 [.d (.slc (encMs l)), .fn g [] caps] h = some (.ret (dB (!allB l.length p)), h) := by
  obtain ⟨i, h1, h2⟩ := itM_spec hd hl hc1 hc2
  rw [ev_fn 97 Try.f97 _ _ _ rfl Try.func97 rfl Try.ntmps97 rfl]
  simp -implicitDefEqProofs (disch := decide +kernel) only [go_sem, ↓reduceIte, Nat.reduceSub, Nat.reduceAdd, Nat.reduceMul, Nat.reduceBEq, Nat.reduceLT, Nat.reduceLeDiff, Nat.reduceEqDiff, reduceCtorEq, Int.reduceToNat, Int.reduceLE, Int.reduceLT, Int.reduceBEq, Int.reduceBNe, mCall, hc1, hc2, hc3, h1, h2]
end Go.Proofs.Ytmemmdfjlhamfaa
/- The package check: may, with, declared. -/
set_option linter.unusedSimpArgs false
set_option linter.unusedVariables false
set_option maxRecDepth 100000
namespace Go.Proofs.Ytmemmdfjlhamfaa
open Go.Proofs
abbrev oddF : AV := .fn 93 [] []
def oddH : List HO := [.var 0 [oddF]]
theorem codd_spec (t : Tm) (hs : t.size < room) : (lim C).call 93 [dT t] [] = retB (!mayB t) := by
  rw [ev_fn 93 Try.f93 _ _ _ rfl Try.func93 rfl Try.ntmps93 rfl]
  simp -implicitDefEqProofs (disch := decide +kernel) only [go_sem, ↓reduceIte, Nat.reduceSub, Nat.reduceAdd, Nat.reduceMul, Nat.reduceBEq, Nat.reduceLT, Nat.reduceLeDiff, Nat.reduceEqDiff, reduceCtorEq, Int.reduceToNat, Int.reduceLE, Int.reduceLT, Int.reduceBEq, Int.reduceBNe, mCall, tMay_spec t hs, cells_enc, cel3, (enc_eq t).symm]
theorem codds_spec {l : List Tm} (hl : l.length < room) (hz : ∀ x ∈ l, x.size < room) : (lim C).call 56 [dL l, oddF] [] = retB (!maysB l) :=
  contains_spec (by decide +kernel) hl fun x hx => ⟨_, codd_spec x (hz x hx)⟩
theorem cmay3_spec (d : Dc) (hs : d.t.size < room) : (lim C).call 96 [dDc d, .href 0 0] oddH = some (.ret (dB (!mayB d.t)), oddH) := by
  rw [ev_fn 96 Try.f96 _ _ _ rfl Try.func96 rfl Try.ntmps96 rfl]
  simp -implicitDefEqProofs (disch := decide +kernel) only [go_sem, ↓reduceIte, Nat.reduceSub, Nat.reduceAdd, Nat.reduceMul, Nat.reduceBEq, Nat.reduceLT, Nat.reduceLeDiff, Nat.reduceEqDiff, reduceCtorEq, Int.reduceToNat, Int.reduceLE, Int.reduceLT, Int.reduceBEq, Int.reduceBNe, mCall, codd_spec d.t hs, oddH, cells_encD, cel3, (enc_eq d.t).symm]
theorem cmay2_spec (d : Md) (hs : d.t.size < room) (hl : d.ctx.length < room) (hz : ∀ x ∈ d.ctx, x.size < room) : (lim C).call 94 [dM d, .href 0 0] oddH = some (.ret (dB (!(mayB d.t && maysB d.ctx))), oddH) := by
  rw [ev_fn 94 Try.f94 _ _ _ rfl Try.func94 rfl Try.ntmps94 rfl]
  cases h : mayB d.t
  · simp -implicitDefEqProofs (disch := decide +kernel) only [go_sem, ↓reduceIte, Nat.reduceSub, Nat.reduceAdd, Nat.reduceMul, Nat.reduceBEq, Nat.reduceLT, Nat.reduceLeDiff, Nat.reduceEqDiff, reduceCtorEq, Int.reduceToNat, Int.reduceLE, Int.reduceLT, Int.reduceBEq, Int.reduceBNe, mCall, codd_spec d.t hs, oddH, h, cells_encM, cel3, (enc_eq d.t).symm]
  · simp -implicitDefEqProofs (disch := decide +kernel) only [go_sem, ↓reduceIte, Nat.reduceSub, Nat.reduceAdd, Nat.reduceMul, Nat.reduceBEq, Nat.reduceLT, Nat.reduceLeDiff, Nat.reduceEqDiff, reduceCtorEq, Int.reduceToNat, Int.reduceLE, Int.reduceLT, Int.reduceBEq, Int.reduceBNe, mCall, codd_spec d.t hs, oddH, h, codds_spec hl hz, cells_encM, cel3, (enc_eq d.t).symm]
/-- How great a world is: enough to be gone through. -/
structure WSz (w : Wo) : Prop where
  cl : w.ctx.length < room
  cz : ∀ x ∈ w.ctx, x.size < room
  sl : w.sig.length < room
  sz : ∀ d ∈ w.sig, d.t.size < room
  ml : w.metas.length < room
  mz : ∀ d ∈ w.metas, d.t.size < room ∧ d.ctx.length < room ∧ ∀ x ∈ d.ctx, x.size < room
theorem getD_of_get {α : Type} [Inhabited α] {l : List α} {i : Nat} {x : α} (h : l[i]? = some x) : i < l.length ∧ l.getD i default = x := by
  have := (List.getElem?_eq_some_iff.1 h).1
  exact ⟨this, by simp [List.getD, h]⟩
theorem getD_sig {l : List Dc} {i : Nat} (h : i < l.length) : (l.map Dc.t).getD i default = (Dcs.at l i).t := by
  simp [Dcs.at, List.getD, List.getElem?_eq_getElem h]
theorem mayW_eq (w : Wo) (l : List Tm) : mayW w.wd w.ctx l = (!decide ((w.ctx.length : Int) > 1000) && maysB l && maysB w.ctx && allB w.sig.length (fun i => mayB (Dcs.at w.sig i).t) && allB w.metas.length (fun i => mayB (w.metas.getD i default).t && maysB (w.metas.getD i default).ctx)) := by
  unfold mayW
  have h1 : maysB w.wd.sig = allB w.sig.length (fun i => mayB (Dcs.at w.sig i).t) := by
    unfold maysB Wo.wd
    simp only [List.length_map]
    exact allB_congr fun i hi => by rw [getD_sig hi]
  have h2 : allB w.wd.metas.length (fun i => mdMay (w.wd.metas.getD i default)) = allB w.metas.length (fun i => mayB (w.metas.getD i default).t && maysB (w.metas.getD i default).ctx) := by
    unfold Wo.wd
    exact allB_congr fun i hi => by unfold mdMay; rw [Bool.and_comm]
  rw [h1, h2]
theorem cmay_spec (w : Wo) (l : List Tm) (hw : WSz w) (hl : l.length < room) (hz : ∀ x ∈ l, x.size < room) : ∃ h, (lim C).call 69 [dW w, dL l] [] = some (.ret (dB (mayW w.wd w.ctx l)), h) := by
  have hD : AsksE 96 [.href 0 0] oddH (encDs w.sig) fun i => mayB (Dcs.at w.sig i).t := by
    intro i x hx locs toks
    rw [encDs_get] at hx
    obtain ⟨d, hd, rfl⟩ := Option.map_eq_some_iff.1 hx
    obtain ⟨h1, h2⟩ := getD_of_get hd
    have hc := cmay3_spec d (hw.sz d (List.mem_of_getElem? hd))
    have h3 : Dcs.at w.sig i = d := h2
    simp only [mCall, callsPure, pureL, AV.pure, okL, AV.okA, C_thr, eraseL, AV.erase, Bool.and_true, Bool.true_and, Bool.and_false, Bool.false_and, Bool.false_eq_true, if_false, if_true, Option.bind_some, heapRes_ret, hc, h3]
  have hM : AsksE 94 [.href 0 0] oddH (encMs w.metas) fun i => mayB (w.metas.getD i default).t && maysB (w.metas.getD i default).ctx := by
    intro i x hx locs toks
    rw [encMs_get] at hx
    obtain ⟨d, hd, rfl⟩ := Option.map_eq_some_iff.1 hx
    obtain ⟨h1, h2⟩ := getD_of_get hd
    obtain ⟨z1, z2, z3⟩ := hw.mz d (List.mem_of_getElem? hd)
    have hc := cmay2_spec d z1 z2 z3
    simp only [mCall, callsPure, pureL, AV.pure, okL, AV.okA, C_thr, eraseL, AV.erase, Bool.and_true, Bool.true_and, Bool.and_false, Bool.false_and, Bool.false_eq_true, if_false, if_true, Option.bind_some, heapRes_ret, hc, h2]
  have h3 := ctD_spec hD hw.sl rfl rfl rfl
  have h4 := ctM_spec hM hw.ml rfl rfl rfl
  have h1 := codds_spec hl hz
  have h2 := codds_spec hw.cl hw.cz
  refine ⟨oddH, ?_⟩
  rw [mayW_eq]
  simp only [oddH] at h3 h4 ⊢
  rw [ev_fn 69 Try.f69 _ _ _ rfl Try.func69 rfl Try.ntmps69 rfl]
  cases k1 : decide ((w.ctx.length : Int) > 1000)
  rotate_left
  · simp -implicitDefEqProofs (disch := decide +kernel) only [go_sem, ↓reduceIte, Nat.reduceSub, Nat.reduceAdd, Nat.reduceMul, Nat.reduceBEq, Nat.reduceLT, Nat.reduceLeDiff, Nat.reduceEqDiff, reduceCtorEq, Int.reduceToNat, Int.reduceLE, Int.reduceLT, Int.reduceBEq, Int.reduceBNe, mCall, h1, h2, h3, h4, cells_encW, celW, k1]
  cases k2 : maysB l
  · simp -implicitDefEqProofs (disch := decide +kernel) only [go_sem, ↓reduceIte, Nat.reduceSub, Nat.reduceAdd, Nat.reduceMul, Nat.reduceBEq, Nat.reduceLT, Nat.reduceLeDiff, Nat.reduceEqDiff, reduceCtorEq, Int.reduceToNat, Int.reduceLE, Int.reduceLT, Int.reduceBEq, Int.reduceBNe, mCall, h1, h2, h3, h4, cells_encW, celW, k1, k2]
  · skip
    cases k3 : maysB w.ctx
    · simp -implicitDefEqProofs (disch := decide +kernel) only [go_sem, ↓reduceIte, Nat.reduceSub, Nat.reduceAdd, Nat.reduceMul, Nat.reduceBEq, Nat.reduceLT, Nat.reduceLeDiff, Nat.reduceEqDiff, reduceCtorEq, Int.reduceToNat, Int.reduceLE, Int.reduceLT, Int.reduceBEq, Int.reduceBNe, mCall, h1, h2, h3, h4, cells_encW, celW, k1, k2, k3]
    · skip
      cases k4 : allB w.sig.length (fun i => mayB (Dcs.at w.sig i).t)
      · simp -implicitDefEqProofs (disch := decide +kernel) only [go_sem, ↓reduceIte, Nat.reduceSub, Nat.reduceAdd, Nat.reduceMul, Nat.reduceBEq, Nat.reduceLT, Nat.reduceLeDiff, Nat.reduceEqDiff, reduceCtorEq, Int.reduceToNat, Int.reduceLE, Int.reduceLT, Int.reduceBEq, Int.reduceBNe, mCall, h1, h2, h3, h4, cells_encW, celW, k1, k2, k3, k4]
      · skip
        cases k5 : allB w.metas.length (fun i => mayB (w.metas.getD i default).t && maysB (w.metas.getD i default).ctx)
        · simp -implicitDefEqProofs (disch := decide +kernel) only [go_sem, ↓reduceIte, Nat.reduceSub, Nat.reduceAdd, Nat.reduceMul, Nat.reduceBEq, Nat.reduceLT, Nat.reduceLeDiff, Nat.reduceEqDiff, reduceCtorEq, Int.reduceToNat, Int.reduceLE, Int.reduceLT, Int.reduceBEq, Int.reduceBNe, mCall, h1, h2, h3, h4, cells_encW, celW, k1, k2, k3, k4, k5]
        · skip
          simp -implicitDefEqProofs (disch := decide +kernel) only [go_sem, ↓reduceIte, Nat.reduceSub, Nat.reduceAdd, Nat.reduceMul, Nat.reduceBEq, Nat.reduceLT, Nat.reduceLeDiff, Nat.reduceEqDiff, reduceCtorEq, Int.reduceToNat, Int.reduceLE, Int.reduceLT, Int.reduceBEq, Int.reduceBNe, mCall, h1, h2, h3, h4, cells_encW, celW, k1, k2, k3, k4, k5]
def Wo.with (w : Wo) (a : Tm) : Wo := { w with ctx := w.ctx ++ [a] }
theorem cwith_spec (w : Wo) (a : Tm) (hl : w.ctx.length < room) : (lim C).call 98 [dW w, dT a] [] = some (.ret (dW (w.with a)), []) := by
  have ha := fun locs heap => mApp_clip (encs w.ctx) (enc a) 3 locs heap (by rw [encs_length]; exact hl) (encs_all _) (enc_width _)
  have hz : encs w.ctx ++ [enc a] = encs (w.ctx ++ [a]) := by rw [encs_append]; rfl
  rw [hz] at ha
  have ht : (encs w.ctx).take w.ctx.length = encs w.ctx := by rw [← encs_length, List.take_length]
  have hw : Dv.agg [.slc (encDs w.sig), .slc (encMs w.metas), .slc (encs (w.ctx ++ [a]))] = encW (w.with a) := rfl
  rw [ev_fn 98 Try.f98 _ _ _ rfl Try.func98 rfl Try.ntmps98 rfl]
  simp -implicitDefEqProofs (disch := decide +kernel) only [go_sem, ↓reduceIte, Nat.reduceSub, Nat.reduceAdd, Nat.reduceMul, Nat.reduceBEq, Nat.reduceLT, Nat.reduceLeDiff, Nat.reduceEqDiff, reduceCtorEq, Int.reduceToNat, Int.reduceLE, Int.reduceLT, Int.reduceBEq, Int.reduceBNe, mCall, ha, ht, encs_all, Nat.zero_le, cells_encW, celW, cells_enc, cel3, (enc_eq a).symm, hw]
theorem cdecl_spec (w : Wo) (h : Int) (k : Bool) (h0 : 0 ≤ h) : (lim C).call 107 [dW w, dI h, dB k] [] = some (.ret (.tup [dT (declW w.wd h k).1, dI (declW w.wd h k).2]), []) := by
  have hz := zT_enc
  unfold declW
  have hlen : w.wd.sig.length = w.sig.length := by simp [Wo.wd]
  rw [hlen]
  rw [ev_fn 107 Try.f107 _ _ _ rfl Try.func107 rfl Try.ntmps107 rfl]
  cases h1 : decide (h ≥ (w.sig.length : Int))
  · have hlt : h.toNat < w.sig.length := by simp at h1; omega
    have hsk := skind_spec (Dcs.at w.sig h.toNat).t
    have hka : kindAt w.wd.sig h.toNat = ((lastOf (Dcs.at w.sig h.toNat).t).kind == 0) := by
      unfold kindAt isKind Wo.wd
      rw [getD_sig hlt]
    have hgd : w.wd.sig.getD h.toNat default = (Dcs.at w.sig h.toNat).t := getD_sig hlt
    have hge := dat_get hlt
    rw [if_neg (by simpa using h1), hka, hgd]
    cases h2 : (((lastOf (Dcs.at w.sig h.toNat).t).kind == 0) != k)
    · rw [if_neg (by simpa using h2)]
      simp -implicitDefEqProofs (disch := decide +kernel) only [go_sem, ↓reduceIte, Nat.reduceSub, Nat.reduceAdd, Nat.reduceMul, Nat.reduceBEq, Nat.reduceLT, Nat.reduceLeDiff, Nat.reduceEqDiff, reduceCtorEq, Int.reduceToNat, Int.reduceLE, Int.reduceLT, Int.reduceBEq, Int.reduceBNe, mCall, cells_encW, celW, h1, hge, h0, hsk, h2, cells_encD, (enc_eq (Dcs.at w.sig h.toNat).t).symm]
    · rw [if_pos (by simpa using h2)]
      simp -implicitDefEqProofs (disch := decide +kernel) only [go_sem, ↓reduceIte, Nat.reduceSub, Nat.reduceAdd, Nat.reduceMul, Nat.reduceBEq, Nat.reduceLT, Nat.reduceLeDiff, Nat.reduceEqDiff, reduceCtorEq, Int.reduceToNat, Int.reduceLE, Int.reduceLT, Int.reduceBEq, Int.reduceBNe, mCall, cells_encW, celW, h1, hge, h0, hsk, h2, cells_encD, (enc_eq (Dcs.at w.sig h.toNat).t).symm, hz]
  · rw [if_pos (by simpa using h1)]
    simp -implicitDefEqProofs (disch := decide +kernel) only [go_sem, ↓reduceIte, Nat.reduceSub, Nat.reduceAdd, Nat.reduceMul, Nat.reduceBEq, Nat.reduceLT, Nat.reduceLeDiff, Nat.reduceEqDiff, reduceCtorEq, Int.reduceToNat, Int.reduceLE, Int.reduceLT, Int.reduceBEq, Int.reduceBNe, mCall, cells_encW, celW, h1, hz]
theorem cnone_spec (w : Wo) (m : Tm) : (lim C).call 99 [dW w, dT m] [] = some (.ret (.tup [dT zT, dI 3]), []) := by
  have hz := zT_enc
  rw [ev_fn 99 Try.f99 _ _ _ rfl Try.func99 rfl Try.ntmps99 rfl]
  simp -implicitDefEqProofs (disch := decide +kernel) only [go_sem, ↓reduceIte, Nat.reduceSub, Nat.reduceAdd, Nat.reduceMul, Nat.reduceBEq, Nat.reduceLT, Nat.reduceLeDiff, Nat.reduceEqDiff, reduceCtorEq, Int.reduceToNat, Int.reduceLE, Int.reduceLT, Int.reduceBEq, Int.reduceBNe, mCall, hz, cells_encW, celW, cells_enc, cel3]
end Go.Proofs.Ytmemmdfjlhamfaa
/- The package check: a spine. -/
set_option linter.unusedSimpArgs false
set_option linter.unusedVariables false
set_option maxRecDepth 100000
namespace Go.Proofs.Ytmemmdfjlhamfaa
open Go.Proofs
/-- How great the terms of a world are. -/
structure WOk (K : Int) (w : Wo) (n : Nat) : Prop where
  h0 : 0 ≤ K
  cl : w.ctx.length + n ≤ 1048576
  ctx : ∀ x ∈ w.ctx, mayB x = true ∧ vleB K x = true
  sl : w.sig.length < room
  sig : ∀ d ∈ w.sig, mayB d.t = true ∧ vleB K d.t = true
  ml : w.metas.length < room
  metas : ∀ d ∈ w.metas, (mayB d.t = true ∧ vleB K d.t = true) ∧ d.ctx.length < room ∧ ∀ x ∈ d.ctx, mayB x = true ∧ vleB K x = true
theorem WOk.mono {K K' : Int} {w : Wo} {n n' : Nat} (h : WOk K w n) (hk : K ≤ K') (hn : n' ≤ n) : WOk K' w n' := by
  have h0 := h.h0
  have hc := h.cl
  exact ⟨by omega, by omega, fun x hx => ⟨(h.ctx x hx).1, vle_mono hk (h.ctx x hx).2⟩, h.sl, fun d hd => ⟨(h.sig d hd).1, vle_mono hk (h.sig d hd).2⟩, h.ml,
    fun d hd => ⟨⟨(h.metas d hd).1.1, vle_mono hk (h.metas d hd).1.2⟩, (h.metas d hd).2.1, fun x hx => ⟨((h.metas d hd).2.2 x hx).1, vle_mono hk ((h.metas d hd).2.2 x hx).2⟩⟩⟩
theorem WOk.with {K : Int} {w : Wo} {n : Nat} (h : WOk K w (n + 1)) {a : Tm} (h1 : mayB a = true) (h2 : vleB K a = true) : WOk K (w.with a) n := by
  have hc := h.cl
  refine ⟨h.h0, by simp [Wo.with]; omega, fun x hx => ?_, h.sl, h.sig, h.ml, h.metas⟩
  rcases List.mem_append.1 hx with hx | hx
  · exact h.ctx x hx
  · obtain rfl : x = a := by simpa using hx
    exact ⟨h1, h2⟩
theorem may_room {t : Tm} (h : mayB t = true) : t.size < room := by
  have hr : room = 1099511627776 := rfl
  have := (may_parts h).2.1
  omega
theorem may_argm {t x : Tm} (hx : x ∈ t.args) (h : mayB t = true) : mayB x = true := by
  obtain ⟨h1, h2, h3⟩ := may_parts h
  have hs := size_arg hx
  have hd := depth_arg hx
  refine may_of ?_ (by omega) (by omega)
  obtain ⟨i, hi, rfl⟩ := List.mem_iff_getElem.1 hx
  rw [arg_eq hi]
  exact node_args h1 i hi
/-- Each Arg of a node is told. -/
def Tells (w : Wo) (m : Tm) (K : Int) : Prop := ∀ i, i < m.args.length → ∀ x : Tm, mayB x = true → vleB (K + 2000000 * ((i : Int) + 1)) x = true →
  ∃ h, (lim C).call 70 [dW w, dT (m.arg i), dT x] [] = some (.ret (dI (argW w.wd m i x w.ctx)), h)
abbrev argF (w : Wo) (m : Tm) (i : Nat) (x : Tm) : Int := argW w.wd m i x w.ctx
def csp_S (w : Wo) (t : Tm) (l : List Tm) (i : Nat) : St := mk 52 [(3, .lref 3 0), (4, .lref 4 0), (6, .lref 6 0), (13, dL l), (14, dI l.length), (15, dI i)] [(3, celW w), (4, cel3 t), (6, zc3)] [] []
def csp_X (w : Wo) (t : Tm) (l : List Tm) : St := mk 52 [(3, .lref 3 0), (4, .lref 4 0), (6, .lref 6 0), (13, dL l), (14, dI l.length), (15, dI l.length), (16, dB false)] [(3, celW w), (4, cel3 t), (6, zc3)] [] []
def csp_R (e : Int) : St := mk 52 [(6, .lref 6 0), (7, dI e)] [(6, zc3)] [] []
theorem csp_step {w : Wo} {m t u : Tm} {i : Nat} {h h' : List HO} (hi : i < m.args.length) (hl : m.args.length < room) (k1 : (t.kind != 1) = false) (ht : t.args.length = 2)
    (hrec : (lim C).call 70 [dW w, dT (m.arg i), dT (t.arg 0)] [] = some (.ret (dI 0), h))
    (hap : (lim C).call 35 [dT (t.arg 1), dS ⟨[m.arg i], 0⟩] [] = some (.ret (.tup [dT u, dI 0]), h')) :
    (lim C).code 108 (cf (.loop (cf (cf (cs (cf (cs (bodyOf Try.f108)))))))) (csp_S w t m.args i) = some (.nor, csp_S w u m.args (i + 1)) := by
  have hr : room = 1099511627776 := rfl
  have e0 : t.args[0]? = some (t.arg 0) := arg_get (by omega)
  have e1 : t.args[1]? = some (t.arg 1) := arg_get (by omega)
  have hsb : Dv.agg [.slc [enc (m.arg i)], .int .i64 0] = encS ⟨[m.arg i], 0⟩ := rfl
  have h00 : ((0 : Int) != 0) = false := rfl
  simp -implicitDefEqProofs (disch := decide +kernel) only [cf, cs, bodyOf, Try.f108, Option.getD_some, go_sem, ↓reduceIte, Nat.reduceSub, Nat.reduceAdd, Nat.reduceMul, Nat.reduceBEq, Nat.reduceLT, Nat.reduceLeDiff, Nat.reduceEqDiff, reduceCtorEq, Int.reduceToNat, Int.reduceLE, Int.reduceLT, Int.reduceBEq, Int.reduceBNe, mCall, csp_S, cel3, celW, zc3, cells_enc, cells_encW, lt_true hi, arg_get hi, k1, e0, e1, hsb, hrec, hap, h00, (enc_eq (m.arg i)).symm, (enc_eq u).symm, wrap_succ (n := i) (by omega)]
theorem csp_bad1 {w : Wo} {m t : Tm} {i : Nat} (hi : i < m.args.length) (hl : m.args.length < room) (k1 : (t.kind != 1) = true) :
    (lim C).code 108 (cf (.loop (cf (cf (cs (cf (cs (bodyOf Try.f108)))))))) (csp_S w t m.args i) = some (.ret, csp_R 3) := by
  have hz := zT_enc
  simp -implicitDefEqProofs (disch := decide +kernel) only [cf, cs, bodyOf, Try.f108, Option.getD_some, go_sem, ↓reduceIte, Nat.reduceSub, Nat.reduceAdd, Nat.reduceMul, Nat.reduceBEq, Nat.reduceLT, Nat.reduceLeDiff, Nat.reduceEqDiff, reduceCtorEq, Int.reduceToNat, Int.reduceLE, Int.reduceLT, Int.reduceBEq, Int.reduceBNe, mCall, csp_S, csp_R, cel3, celW, zc3, cells_enc, cells_encW, lt_true hi, arg_get hi, k1, hz, (enc_eq (m.arg i)).symm]
theorem csp_bad2 {w : Wo} {m t : Tm} {i : Nat} {e : Int} {h : List HO} (hi : i < m.args.length) (hl : m.args.length < room) (k1 : (t.kind != 1) = false) (ht : t.args.length = 2) (he : (e != 0) = true)
    (hrec : (lim C).call 70 [dW w, dT (m.arg i), dT (t.arg 0)] [] = some (.ret (dI e), h)) :
    (lim C).code 108 (cf (.loop (cf (cf (cs (cf (cs (bodyOf Try.f108)))))))) (csp_S w t m.args i) = some (.ret, csp_R e) := by
  have hz := zT_enc
  have e0 : t.args[0]? = some (t.arg 0) := arg_get (by omega)
  simp -implicitDefEqProofs (disch := decide +kernel) only [cf, cs, bodyOf, Try.f108, Option.getD_some, go_sem, ↓reduceIte, Nat.reduceSub, Nat.reduceAdd, Nat.reduceMul, Nat.reduceBEq, Nat.reduceLT, Nat.reduceLeDiff, Nat.reduceEqDiff, reduceCtorEq, Int.reduceToNat, Int.reduceLE, Int.reduceLT, Int.reduceBEq, Int.reduceBNe, mCall, csp_S, csp_R, cel3, celW, zc3, cells_enc, cells_encW, lt_true hi, arg_get hi, k1, e0, hrec, he, hz, (enc_eq (m.arg i)).symm]
theorem csp_bad3 {w : Wo} {m t u : Tm} {i : Nat} {e : Int} {h h' : List HO} (hi : i < m.args.length) (hl : m.args.length < room) (k1 : (t.kind != 1) = false) (ht : t.args.length = 2) (he : (e != 0) = true)
    (hrec : (lim C).call 70 [dW w, dT (m.arg i), dT (t.arg 0)] [] = some (.ret (dI 0), h))
    (hap : (lim C).call 35 [dT (t.arg 1), dS ⟨[m.arg i], 0⟩] [] = some (.ret (.tup [dT u, dI e]), h')) :
    (lim C).code 108 (cf (.loop (cf (cf (cs (cf (cs (bodyOf Try.f108)))))))) (csp_S w t m.args i) = some (.ret, csp_R e) := by
  have hz := zT_enc
  have e0 : t.args[0]? = some (t.arg 0) := arg_get (by omega)
  have e1 : t.args[1]? = some (t.arg 1) := arg_get (by omega)
  have hsb : Dv.agg [.slc [enc (m.arg i)], .int .i64 0] = encS ⟨[m.arg i], 0⟩ := rfl
  have h00 : ((0 : Int) != 0) = false := rfl
  simp -implicitDefEqProofs (disch := decide +kernel) only [cf, cs, bodyOf, Try.f108, Option.getD_some, go_sem, ↓reduceIte, Nat.reduceSub, Nat.reduceAdd, Nat.reduceMul, Nat.reduceBEq, Nat.reduceLT, Nat.reduceLeDiff, Nat.reduceEqDiff, reduceCtorEq, Int.reduceToNat, Int.reduceLE, Int.reduceLT, Int.reduceBEq, Int.reduceBNe, mCall, csp_S, csp_R, cel3, celW, zc3, cells_enc, cells_encW, lt_true hi, arg_get hi, k1, e0, e1, hsb, hrec, hap, he, h00, hz, (enc_eq (m.arg i)).symm, (enc_eq u).symm]
theorem loop_nor' {f : Nat} {b : Code} {σ σ' : St} (h : (lim C).code f b σ = some (.nor, σ')) : (lim C).code f (.loop b) σ = (lim C).code f (.loop b) σ' := by
  rw [ev_loop, h]; rfl
theorem loop_out' {f : Nat} {b : Code} {σ : St} {x : Ex} {σ' : St} (h : (lim C).code f b σ = some (x, σ')) (hx : x ≠ .nor) : (lim C).code f (.loop b) σ = some (x, σ') := by
  rw [ev_loop, h]
  cases x <;> first | rfl | exact absurd rfl hx
def csp_out (w : Wo) (l : List Tm) (r : Tm × Int) : Ex × St := if r.2 = 0 then (.exit 0, csp_X w r.1 l) else (.ret, csp_R r.2)
theorem csp_err (w : Wo) (l : List Tm) {e : Int} (h : e ≠ 0) : csp_out w l (zT, e) = (.ret, csp_R e) := if_neg h
theorem csp_loop {w : Wo} {m : Tm} {K : Int} (hT : Tells w m K) (hm : mayB m = true) (hv : vleB K m = true) (h0 : 0 ≤ K) (hK : K + 2000000 * ((m.args.length : Int) + 2) ≤ topV) : ∀ (k i : Nat) (t : Tm), i + k = m.args.length → mayB t = true → vleB (K + 2000000 * ((i : Int) + 1)) t = true →
    (lim C).code 108 (.loop (cf (cf (cs (cf (cs (bodyOf Try.f108))))))) (csp_S w t m.args i) = some (csp_out w m.args (spW (argF w m) m.arg k i t))
  | 0, i, t, hi, _, _ => by
    obtain rfl : i = m.args.length := by omega
    simp only [spW, csp_out, if_true]
    refine loop_out' ?_ (by simp)
    simp -implicitDefEqProofs (disch := decide +kernel) only [cf, cs, bodyOf, Try.f108, Option.getD_some, go_sem, ↓reduceIte, Nat.reduceSub, Nat.reduceAdd, Nat.reduceMul, Nat.reduceBEq, Nat.reduceLT, Nat.reduceLeDiff, Nat.reduceEqDiff, reduceCtorEq, Int.reduceToNat, Int.reduceLE, Int.reduceLT, Int.reduceBEq, Int.reduceBNe, mCall, csp_S, csp_X, lt_false (Nat.le_refl m.args.length)]
  | k + 1, i, t, hi, ht, hvt => by
    have hr : room = 1099511627776 := rfl
    have hlt : i < m.args.length := by omega
    have hml : m.args.length < room := by have := len_size m; have := may_room hm; omega
    simp only [spW]
    cases k1 : (t.kind != 1)
    · have hk : t.kind = 1 := by simpa using k1
      have hl2 := pi_len (may_parts ht).1 hk
      rw [if_neg (by simpa using hk)]
      have m0 := may_argm (arg_mem (t := t) (i := 0) (by omega)) ht
      have m1 := may_argm (arg_mem (t := t) (i := 1) (by omega)) ht
      have v0 := vle_args hvt 0 (by omega)
      have v1 := vle_args hvt 1 (by omega)
      obtain ⟨h, hrec⟩ := hT i hlt (t.arg 0) m0 v0
      by_cases he : argF w m i (t.arg 0) = 0
      · rw [if_neg (by simpa using he)]
        have he' : argW w.wd m i (t.arg 0) w.ctx = 0 := he
        rw [he'] at hrec
        have ma := may_argm (arg_mem hlt) hm
        have va := vle_args hv i hlt
        obtain ⟨h', hap⟩ := sapply_spec (t.arg 1) ⟨[m.arg i], 0⟩ (may_room m1) (by simpa using may_room ma) (by simp; omega) (vle_mono (by omega) v1) (by simpa using vle_mono (by omega) va)
        have hvr := applyR_vle (K := K + 2000000 * ((i : Int) + 1)) (by omega) v1 (s := ⟨[m.arg i], 0⟩) (by simpa using vle_mono (by omega) va)
        have hmr := applyR_may (t.arg 1) ⟨[m.arg i], 0⟩
        generalize applyR (t.arg 1) ⟨[m.arg i], 0⟩ = r at hap hvr hmr ⊢
        obtain ⟨u, e⟩ := r
        by_cases he2 : e = 0
        · subst he2
          rw [if_neg (by simp)]
          exact (loop_nor' (csp_step hlt hml k1 hl2 hrec hap)).trans (csp_loop hT hm hv h0 hK k (i + 1) u (by omega) hmr (by
            have : K + 2000000 * ((i : Int) + 1) + 2000000 = K + 2000000 * (((i + 1 : Nat) : Int) + 1) := by omega
            rw [← this]; exact hvr))
        · rw [if_pos (by simpa using he2)]
          rw [csp_err w m.args (by simpa using he2)]
          exact loop_out' (csp_bad3 hlt hml k1 hl2 (by simpa using he2) hrec hap) (by simp)
      · rw [if_pos (by simpa using he)]
        have he' : ¬ argW w.wd m i (t.arg 0) w.ctx = 0 := he
        rw [csp_err w m.args (by simpa using he)]
        exact loop_out' (csp_bad2 hlt hml k1 hl2 (by simpa using he') hrec) (by simp)
    · rw [if_pos (by simpa using k1)]
      rw [csp_err w m.args (by decide)]
      exact loop_out' (csp_bad1 hlt hml k1) (by simp)
theorem cspine_spec {w : Wo} {m : Tm} {K : Int} (hT : Tells w m K) (hm : mayB m = true) (hv : vleB K m = true) (h0 : 0 ≤ K) (hK : K + 2000000 * ((m.args.length : Int) + 2) ≤ topV) {t : Tm} (ht : mayB t = true) (hvt : vleB (K + 2000000) t = true) :
    ∃ h, (lim C).call 108 [dW w, dT t, dL m.args] [] = some (.ret (.tup [dT (spW (argF w m) m.arg m.args.length 0 t).1, dI (spW (argF w m) m.arg m.args.length 0 t).2]), h) := by
  have hloop := csp_loop hT hm hv h0 hK m.args.length 0 t (by omega) ht (by simpa using hvt)
  refine ⟨[], ?_⟩
  generalize hr : spW (argF w m) m.arg m.args.length 0 t = r at hloop ⊢
  obtain ⟨u, e⟩ := r
  rw [ev_fn 108 Try.f108 _ _ _ rfl Try.func108 rfl Try.ntmps108 rfl]
  simp -implicitDefEqProofs (disch := decide +kernel) only [go_sem, ↓reduceIte, Nat.reduceSub, Nat.reduceAdd, Nat.reduceMul, Nat.reduceBEq, Nat.reduceLT, Nat.reduceLeDiff, Nat.reduceEqDiff, reduceCtorEq, Int.reduceToNat, Int.reduceLE, Int.reduceLT, Int.reduceBEq, Int.reduceBNe, mCall, cells_encW, celW, cells_enc, cel3]
  rw [loop_at hloop ?hb ?hs]
  case hb => rfl
  case hs => rfl
  by_cases he : e = 0
  · subst he
    simp only [csp_out, if_true]
    simp -implicitDefEqProofs (disch := decide +kernel) only [go_sem, ↓reduceIte, Nat.reduceSub, Nat.reduceAdd, Nat.reduceMul, Nat.reduceBEq, Nat.reduceLT, Nat.reduceLeDiff, Nat.reduceEqDiff, reduceCtorEq, Int.reduceToNat, Int.reduceLE, Int.reduceLT, Int.reduceBEq, Int.reduceBNe, mCall, csp_X, celW, cel3, zc3, cells_enc, (enc_eq u).symm]
  · have hz : u = zT := by
      have := spW_err (T := argF w m) (arg := m.arg) m.args.length 0 t (by rw [hr]; exact he)
      rw [hr] at this
      exact this
    subst hz
    simp only [csp_out, if_neg he]
    simp -implicitDefEqProofs (disch := decide +kernel) only [go_sem, ↓reduceIte, Nat.reduceSub, Nat.reduceAdd, Nat.reduceMul, Nat.reduceBEq, Nat.reduceLT, Nat.reduceLeDiff, Nat.reduceEqDiff, reduceCtorEq, Int.reduceToNat, Int.reduceLE, Int.reduceLT, Int.reduceBEq, Int.reduceBNe, mCall, csp_R, cel3, zc3, cells_enc, zT_enc]
end Go.Proofs.Ytmemmdfjlhamfaa
/- The package check: what a node comes to. -/
set_option linter.unusedSimpArgs false
set_option linter.unusedVariables false
set_option maxRecDepth 100000
namespace Go.Proofs.Ytmemmdfjlhamfaa
open Go.Proofs
/-- What a node, over a world, needs. -/
structure NodeOk (w : Wo) (m : Tm) (K : Int) : Prop where
  tells : Tells w m K
  may : mayB m = true
  vle : vleB K m = true
  wok : WOk K w m.size
  top : K + 4000000 * (m.size : Int) ≤ topV
theorem NodeOk.h0 {w : Wo} {m : Tm} {K : Int} (h : NodeOk w m K) : 0 ≤ K := h.wok.h0
theorem NodeOk.top2 {w : Wo} {m : Tm} {K : Int} (h : NodeOk w m K) : K + 2000000 * ((m.args.length : Int) + 2) ≤ topV := by
  have := h.top
  have := len_size m
  omega
theorem NodeOk.spine {w : Wo} {m : Tm} {K : Int} (h : NodeOk w m K) {t : Tm} (ht : mayB t = true) (hv : vleB (K + 2000000) t = true) :
    ∃ h, (lim C).call 108 [dW w, dT t, dL m.args] [] = some (.ret (.tup [dT (spW (argF w m) m.arg m.args.length 0 t).1, dI (spW (argF w m) m.arg m.args.length 0 t).2]), h) :=
  cspine_spec h.tells h.may h.vle h.h0 h.top2 ht hv
theorem getD_mem' {α : Type} [Inhabited α] {l : List α} {i : Nat} (h : i < l.length) : l.getD i default ∈ l := by
  rw [List.getD_eq_getElem?_getD, List.getElem?_eq_getElem h]
  exact List.getElem_mem _
theorem cvar_spec {w : Wo} {m : Tm} {K : Int} (hn : NodeOk w m K) : ∃ h, (lim C).call 100 [dW w, dT m] [] = some (.ret (.tup [dT (spD (argF w m) m (varW w.ctx m.head)).1, dI (spD (argF w m) m (varW w.ctx m.head)).2]), h) := by
  have hr : room = 1099511627776 := rfl
  have hz := zT_enc
  have hh := node_head (node_here (may_parts hn.may).1)
  have hcl := hn.wok.cl
  have h0 := hn.h0
  refine ⟨[], ?_⟩
  unfold varW
  rw [ev_fn 100 Try.f100 _ _ _ rfl Try.func100 rfl Try.ntmps100 rfl]
  cases h1 : decide (m.head ≥ (w.ctx.length : Int))
  · rw [if_neg (by simpa using h1)]
    have hlt : m.head < w.ctx.length := by simp at h1; omega
    have hx := getD_mem' (l := w.ctx) (i := w.ctx.length - 1 - m.head.toNat) (by omega)
    have hg := getD_get (a := w.ctx) (i := w.ctx.length - 1 - m.head.toNat) (by omega)
    obtain ⟨x1, x2⟩ := hn.wok.ctx _ hx
    generalize w.ctx.getD (w.ctx.length - 1 - m.head.toNat) default = x at hx hg x1 x2 ⊢
    have hu1 := up_may x1 (b := m.head + 1) (by omega) 0
    have hu2 : vleB (K + 2000000) (upT x (m.head + 1) 0) = true := vle_mono (by omega) (vle_up x2 (b := m.head + 1) (by omega) 0)
    obtain ⟨h, hs⟩ := hn.spine hu1 hu2
    rw [spD_go (by rfl)]
    have hw1 : IntKind.wrap .i64 ((w.ctx.length : Int) - 1) = (w.ctx.length : Int) - 1 := wrap_ok (by omega) (by omega)
    have hw2 : IntKind.wrap .i64 ((w.ctx.length : Int) - 1 - m.head) = (w.ctx.length : Int) - 1 - m.head := wrap_ok (by omega) (by omega)
    have hw3 : IntKind.wrap .i64 (m.head + 1) = m.head + 1 := wrap_ok (by omega) (by omega)
    have hi0 : 0 ≤ (w.ctx.length : Int) - 1 - m.head := by omega
    have hi1 : ((w.ctx.length : Int) - 1 - m.head).toNat = w.ctx.length - 1 - m.head.toNat := by omega
    have hren : renB x (m.head + 1) 0 = true := by
      simp only [renB, x1, Bool.true_and, Bool.and_eq_true, decide_eq_true_eq]
      omega
    have hvl : vlowB x = true := vle_mono (by have := hn.top; have htv : topV = 1125899906842624 := rfl; omega) x2
    obtain ⟨h', hup⟩ := sup_spec x (may_room x1) hvl (m.head + 1) 0
    rw [hren, if_pos rfl] at hup
    generalize spW (argF w m) m.arg m.args.length 0 (upT x (m.head + 1) 0) = r at hs ⊢
    simp -implicitDefEqProofs (disch := decide +kernel) only [go_sem, ↓reduceIte, Nat.reduceSub, Nat.reduceAdd, Nat.reduceMul, Nat.reduceBEq, Nat.reduceLT, Nat.reduceLeDiff, Nat.reduceEqDiff, reduceCtorEq, Int.reduceToNat, Int.reduceLE, Int.reduceLT, Int.reduceBEq, Int.reduceBNe, mCall, cells_encW, celW, cells_enc, cel3, h1, hw1, hw2, hw3, hi0, hi1, hg, hup, hs, (enc_eq x).symm, (enc_eq m).symm, (enc_eq r.1).symm]
  · rw [if_pos (by simpa using h1)]
    have hs : spD (argF w m) m (zT, 2) = (zT, 2) := rfl
    rw [hs]
    simp -implicitDefEqProofs (disch := decide +kernel) only [go_sem, ↓reduceIte, Nat.reduceSub, Nat.reduceAdd, Nat.reduceMul, Nat.reduceBEq, Nat.reduceLT, Nat.reduceLeDiff, Nat.reduceEqDiff, reduceCtorEq, Int.reduceToNat, Int.reduceLE, Int.reduceLT, Int.reduceBEq, Int.reduceBNe, mCall, cells_encW, celW, cells_enc, cel3, h1, hz]
theorem cconst_spec {w : Wo} {m : Tm} {K : Int} (hn : NodeOk w m K) : ∃ h, (lim C).call 101 [dW w, dT m] [] = some (.ret (.tup [dT (spD (argF w m) m (declW w.wd m.head false)).1, dI (spD (argF w m) m (declW w.wd m.head false)).2]), h) := by
  have hz := zT_enc
  have hh := node_head (node_here (may_parts hn.may).1)
  have h0 := hn.h0
  have hd := cdecl_spec w m.head false hh
  have hp : (declW w.wd m.head false).2 = 0 → mayB (declW w.wd m.head false).1 = true ∧ vleB (K + 2000000) (declW w.wd m.head false).1 = true := fun e => by
    obtain ⟨e1, e2, e3⟩ := declW_ok e
    rw [e3]
    have hlt : m.head.toNat < w.sig.length := by simp [Wo.wd] at e1; omega
    have hg : w.wd.sig.getD m.head.toNat default = (Dcs.at w.sig m.head.toNat).t := getD_sig hlt
    rw [hg]
    have := hn.wok.sig _ (dat_mem hlt)
    exact ⟨this.1, vle_mono (by omega) this.2⟩
  refine ⟨[], ?_⟩
  generalize declW w.wd m.head false = q at hd hp ⊢
  obtain ⟨t, e⟩ := q
  rw [ev_fn 101 Try.f101 _ _ _ rfl Try.func101 rfl Try.ntmps101 rfl]
  by_cases he : e = 0
  · subst he
    obtain ⟨p1, p2⟩ := hp rfl
    obtain ⟨h, hs⟩ := hn.spine p1 p2
    rw [spD_go (by rfl)]
    generalize spW (argF w m) m.arg m.args.length 0 t = r at hs ⊢
    have h00 : ((0 : Int) != 0) = false := rfl
    simp -implicitDefEqProofs (disch := decide +kernel) only [go_sem, ↓reduceIte, Nat.reduceSub, Nat.reduceAdd, Nat.reduceMul, Nat.reduceBEq, Nat.reduceLT, Nat.reduceLeDiff, Nat.reduceEqDiff, reduceCtorEq, Int.reduceToNat, Int.reduceLE, Int.reduceLT, Int.reduceBEq, Int.reduceBNe, mCall, cells_encW, celW, cells_enc, cel3, hd, h00, hs, (enc_eq t).symm, (enc_eq m).symm, (enc_eq r.1).symm]
  · have hs : spD (argF w m) m (t, e) = (zT, e) := by unfold spD; rw [if_pos he]
    have he' : (e != 0) = true := by simpa using he
    rw [hs]
    simp -implicitDefEqProofs (disch := decide +kernel) only [go_sem, ↓reduceIte, Nat.reduceSub, Nat.reduceAdd, Nat.reduceMul, Nat.reduceBEq, Nat.reduceLT, Nat.reduceLeDiff, Nat.reduceEqDiff, reduceCtorEq, Int.reduceToNat, Int.reduceLE, Int.reduceLT, Int.reduceBEq, Int.reduceBNe, mCall, cells_encW, celW, cells_enc, cel3, hd, he', hz, (enc_eq m).symm]
def cmt_S (w : Wo) (m : Tm) (D : Md) (i : Nat) : St := mk 79 [(2, .lref 2 0), (3, .lref 3 0), (4, .lref 4 0), (6, .lref 6 0), (33, dL D.ctx), (34, dI D.ctx.length), (35, dI i)] [(2, celW w), (3, cel3 m), (4, zc3), (6, cel5 D)] [] []
def cmt_X (w : Wo) (m : Tm) (D : Md) : St := mk 79 [(2, .lref 2 0), (3, .lref 3 0), (4, .lref 4 0), (6, .lref 6 0), (33, dL D.ctx), (34, dI D.ctx.length), (35, dI D.ctx.length), (36, dB false)] [(2, celW w), (3, cel3 m), (4, zc3), (6, cel5 D)] [] []
def cmt_R (e : Int) : St := mk 79 [(4, .lref 4 0), (5, dI e)] [(4, zc3)] [] []
theorem cmt_step {w : Wo} {m u : Tm} {D : Md} {i : Nat} {e : Int} {h h' : List HO} (hi : i < D.ctx.length) (him : i < m.args.length) (hl : D.ctx.length < room) (hlm : m.args.length < room) (hlc : w.ctx.length < room)
    (hap : (lim C).call 35 [dT (D.ctx.getD i default), dS ⟨m.args.take i, w.ctx.length⟩] [] = some (.ret (.tup [dT u, dI 0]), h'))
    (hrec : (lim C).call 70 [dW w, dT (m.arg i), dT u] [] = some (.ret (dI 0), h)) :
    (lim C).code 102 (cf (.loop (cf (cf (cs (cf (cs (cs (cs (cs (bodyOf Try.f102))))))))))) (cmt_S w m D i) = some (.nor, cmt_S w m D (i + 1)) := by
  have hr : room = 1099511627776 := rfl
  have hsb : Dv.agg [.slc ((encs m.args).take i), .int .i64 w.ctx.length] = encS ⟨m.args.take i, w.ctx.length⟩ := by rw [← encs_take]; rfl
  have h00 : ((0 : Int) != 0) = false := rfl
  have h01 : ((0 : Int) == 0) = true := rfl
  have hle : i ≤ m.args.length := by omega
  simp -implicitDefEqProofs (disch := decide +kernel) only [cf, cs, bodyOf, Try.f102, Option.getD_some, go_sem, ↓reduceIte, Nat.reduceSub, Nat.reduceAdd, Nat.reduceMul, Nat.reduceBEq, Nat.reduceLT, Nat.reduceLeDiff, Nat.reduceEqDiff, reduceCtorEq, Int.reduceToNat, Int.reduceLE, Int.reduceLT, Int.reduceBEq, Int.reduceBNe, mCall, cmt_S, cel3, cel5, celW, zc3, cells_enc, cells_encW, lt_true hi, getD_get hi, arg_get him, Nat.zero_le, hle, encs_all, hsb, hap, hrec, h00, h01, (enc_eq (m.arg i)).symm, (enc_eq u).symm, (enc_eq (D.ctx.getD i default)).symm, wrap_succ (n := i) (by omega)]
theorem cmt_bad1 {w : Wo} {m u : Tm} {D : Md} {i : Nat} {e : Int} {h' : List HO} (hi : i < D.ctx.length) (him : i < m.args.length) (hl : D.ctx.length < room) (hlm : m.args.length < room) (hlc : w.ctx.length < room) (he : (e != 0) = true)
    (hap : (lim C).call 35 [dT (D.ctx.getD i default), dS ⟨m.args.take i, w.ctx.length⟩] [] = some (.ret (.tup [dT u, dI e]), h')) :
    (lim C).code 102 (cf (.loop (cf (cf (cs (cf (cs (cs (cs (cs (bodyOf Try.f102))))))))))) (cmt_S w m D i) = some (.ret, cmt_R e) := by
  have hr : room = 1099511627776 := rfl
  have hz := zT_enc
  have hsb : Dv.agg [.slc ((encs m.args).take i), .int .i64 w.ctx.length] = encS ⟨m.args.take i, w.ctx.length⟩ := by rw [← encs_take]; rfl
  have he2 : (e == 0) = false := by simpa using he
  have hle : i ≤ m.args.length := by omega
  simp -implicitDefEqProofs (disch := decide +kernel) only [cf, cs, bodyOf, Try.f102, Option.getD_some, go_sem, ↓reduceIte, Nat.reduceSub, Nat.reduceAdd, Nat.reduceMul, Nat.reduceBEq, Nat.reduceLT, Nat.reduceLeDiff, Nat.reduceEqDiff, reduceCtorEq, Int.reduceToNat, Int.reduceLE, Int.reduceLT, Int.reduceBEq, Int.reduceBNe, mCall, cmt_S, cmt_R, cel3, cel5, celW, zc3, cells_enc, cells_encW, lt_true hi, getD_get hi, arg_get him, Nat.zero_le, hle, encs_all, hsb, hap, he, he2, hz, (enc_eq u).symm, (enc_eq (D.ctx.getD i default)).symm]
theorem cmt_bad2 {w : Wo} {m u : Tm} {D : Md} {i : Nat} {e : Int} {h h' : List HO} (hi : i < D.ctx.length) (him : i < m.args.length) (hl : D.ctx.length < room) (hlm : m.args.length < room) (hlc : w.ctx.length < room) (he : (e != 0) = true)
    (hap : (lim C).call 35 [dT (D.ctx.getD i default), dS ⟨m.args.take i, w.ctx.length⟩] [] = some (.ret (.tup [dT u, dI 0]), h'))
    (hrec : (lim C).call 70 [dW w, dT (m.arg i), dT u] [] = some (.ret (dI e), h)) :
    (lim C).code 102 (cf (.loop (cf (cf (cs (cf (cs (cs (cs (cs (bodyOf Try.f102))))))))))) (cmt_S w m D i) = some (.ret, cmt_R e) := by
  have hr : room = 1099511627776 := rfl
  have hz := zT_enc
  have hsb : Dv.agg [.slc ((encs m.args).take i), .int .i64 w.ctx.length] = encS ⟨m.args.take i, w.ctx.length⟩ := by rw [← encs_take]; rfl
  have h01 : ((0 : Int) == 0) = true := rfl
  have hle : i ≤ m.args.length := by omega
  simp -implicitDefEqProofs (disch := decide +kernel) only [cf, cs, bodyOf, Try.f102, Option.getD_some, go_sem, ↓reduceIte, Nat.reduceSub, Nat.reduceAdd, Nat.reduceMul, Nat.reduceBEq, Nat.reduceLT, Nat.reduceLeDiff, Nat.reduceEqDiff, reduceCtorEq, Int.reduceToNat, Int.reduceLE, Int.reduceLT, Int.reduceBEq, Int.reduceBNe, mCall, cmt_S, cmt_R, cel3, cel5, celW, zc3, cells_enc, cells_encW, lt_true hi, getD_get hi, arg_get him, Nat.zero_le, hle, encs_all, hsb, hap, hrec, he, h01, hz, (enc_eq (m.arg i)).symm, (enc_eq u).symm, (enc_eq (D.ctx.getD i default)).symm]
theorem mem_take' {l : List Tm} {i : Nat} {x : Tm} (h : x ∈ l.take i) : x ∈ l := List.mem_of_mem_take h
theorem mem_args_may {m x : Tm} (h : x ∈ m.args) (hm : mayB m = true) {K : Int} (hv : vleB K m = true) : mayB x = true ∧ vleB K x = true := by
  refine ⟨may_argm h hm, ?_⟩
  obtain ⟨i, hi, rfl⟩ := List.mem_iff_getElem.1 h
  rw [arg_eq hi]
  exact vle_args hv i hi
/-- What Apply is asked for a meta. -/
theorem meta_app {w : Wo} {m : Tm} {K : Int} (hn : NodeOk w m K) {x : Tm} (hx : mayB x = true ∧ vleB K x = true) (i : Nat) :
    (∃ h, (lim C).call 35 [dT x, dS ⟨m.args.take i, w.ctx.length⟩] [] = some (.ret (.tup [dT (applyR x ⟨m.args.take i, w.ctx.length⟩).1, dI (applyR x ⟨m.args.take i, w.ctx.length⟩).2]), h)) ∧
    mayB (applyR x ⟨m.args.take i, w.ctx.length⟩).1 = true ∧ vleB (K + 2000000) (applyR x ⟨m.args.take i, w.ctx.length⟩).1 = true := by
  have hr : room = 1099511627776 := rfl
  have ht := hn.top
  have hml : m.args.length < room := by have := len_size m; have := may_room hn.may; omega
  have hp := fun y (hy : y ∈ m.args.take i) => mem_args_may (mem_take' hy) hn.may hn.vle
  refine ⟨sapply_spec x _ (may_room hx.1) (fun y hy => may_room (hp y hy).1) (by simp; omega) (vle_mono (by omega) hx.2) (fun y hy => vle_mono (by omega) (hp y hy).2), applyR_may _ _, applyR_vle hn.h0 hx.2 fun y hy => (hp y hy).2⟩
def cmt_out (w : Wo) (m : Tm) (D : Md) (e : Int) : Ex × St := if e = 0 then (.exit 0, cmt_X w m D) else (.ret, cmt_R e)
theorem cmt_err (w : Wo) (m : Tm) (D : Md) {e : Int} (h : e ≠ 0) : cmt_out w m D e = (.ret, cmt_R e) := if_neg h
theorem cmt_loop {w : Wo} {m : Tm} {K : Int} (hn : NodeOk w m K) {D : Md} (hD : D ∈ w.metas) (hDl : D.ctx.length = m.args.length) : ∀ (k i : Nat), i + k = m.args.length →
    (lim C).code 102 (.loop (cf (cf (cs (cf (cs (cs (cs (cs (bodyOf Try.f102)))))))))) (cmt_S w m D i) =
      some (cmt_out w m D (mtW (argF w m) D.ctx m.args w.ctx.length k i))
  | 0, i, hi => by
    obtain rfl : i = D.ctx.length := by omega
    simp only [mtW, cmt_out, if_true]
    refine loop_out' ?_ (by simp)
    simp -implicitDefEqProofs (disch := decide +kernel) only [cf, cs, bodyOf, Try.f102, Option.getD_some, go_sem, ↓reduceIte, Nat.reduceSub, Nat.reduceAdd, Nat.reduceMul, Nat.reduceBEq, Nat.reduceLT, Nat.reduceLeDiff, Nat.reduceEqDiff, reduceCtorEq, Int.reduceToNat, Int.reduceLE, Int.reduceLT, Int.reduceBEq, Int.reduceBNe, mCall, cmt_S, cmt_X, lt_false (Nat.le_refl D.ctx.length)]
  | k + 1, i, hi => by
    have hr : room = 1099511627776 := rfl
    have hlt : i < m.args.length := by omega
    have hltD : i < D.ctx.length := by omega
    have hml : m.args.length < room := by have := len_size m; have := may_room hn.may; omega
    have hcl := hn.wok.cl
    obtain ⟨_, dl, dc⟩ := hn.wok.metas D hD
    obtain ⟨⟨h', hap⟩, ha1, ha2⟩ := meta_app hn (dc _ (getD_mem hltD)) i
    simp only [mtW]
    generalize applyR (D.ctx.getD i default) ⟨m.args.take i, w.ctx.length⟩ = r at hap ha1 ha2 ⊢
    obtain ⟨u, e⟩ := r
    by_cases he : e = 0
    · subst he
      simp only [ne_eq, not_true_eq_false, if_false]
      obtain ⟨h, hrec⟩ := hn.tells i hlt u ha1 (vle_mono (by omega) ha2)
      by_cases he2 : argF w m i u = 0
      · have he' : argW w.wd m i u w.ctx = 0 := he2
        rw [he'] at hrec
        simp only [he2, not_true_eq_false, if_false]
        exact (loop_nor' (cmt_step (e := 0) hltD hlt dl hml (by omega) hap hrec)).trans (cmt_loop hn hD hDl k (i + 1) (by omega))
      · have he' : ¬ argW w.wd m i u w.ctx = 0 := he2
        simp only [he2, not_false_eq_true, if_true]
        rw [cmt_err w m D he2]
        exact loop_out' (cmt_bad2 hltD hlt dl hml (by omega) (by simpa using he') hap hrec) (by simp)
    · simp only [ne_eq, he, not_false_eq_true, if_true]
      rw [cmt_err w m D he]
      exact loop_out' (cmt_bad1 hltD hlt dl hml (by omega) (by simpa using he) hap) (by simp)
theorem cmeta_spec {w : Wo} {m : Tm} {K : Int} (hn : NodeOk w m K) : ∃ h, (lim C).call 102 [dW w, dT m] [] = some (.ret (.tup [dT (metaW w.wd w.ctx.length (argF w m) m).1, dI (metaW w.wd w.ctx.length (argF w m) m).2]), h) := by
  have hr : room = 1099511627776 := rfl
  have hz := zT_enc
  have hh := node_head (node_here (may_parts hn.may).1)
  have hcl := hn.wok.cl
  have hml : m.args.length < room := by have := len_size m; have := may_room hn.may; omega
  refine ⟨[], ?_⟩
  unfold metaW
  have hwm : w.wd.metas = w.metas := rfl
  rw [hwm]
  rw [ev_fn 102 Try.f102 _ _ _ rfl Try.func102 rfl Try.ntmps102 rfl]
  cases h1 : decide (m.head ≥ (w.metas.length : Int))
  · rw [if_neg (by simpa using h1)]
    have hlt : m.head.toNat < w.metas.length := by simp at h1; omega
    have hg := mget_get hlt
    have hD := mget_mem hlt
    generalize w.metas.getD m.head.toNat default = D at hg hD ⊢
    obtain ⟨dt, dl, dc⟩ := hn.wok.metas D hD
    cases h2 : ((D.ctx.length : Int) != m.args.length)
    · have hDl : D.ctx.length = m.args.length := by simp at h2; omega
      rw [if_neg (by simpa using hDl)]
      have hloop := cmt_loop hn hD hDl m.args.length 0 (by omega)
      obtain ⟨⟨h', hap⟩, ha1, ha2⟩ := meta_app hn dt m.args.length
      rw [List.take_length] at hap
      by_cases h3 : mtW (argF w m) D.ctx m.args w.ctx.length m.args.length 0 = 0
      · rw [if_neg (by simpa using h3)]
        rw [cmt_out, if_pos h3] at hloop
        have hsb : Dv.agg [.slc (encs m.args), .int .i64 w.ctx.length] = encS ⟨m.args, w.ctx.length⟩ := rfl
        generalize applyR D.t ⟨m.args, w.ctx.length⟩ = r at hap ⊢
        simp -implicitDefEqProofs (disch := decide +kernel) only [go_sem, ↓reduceIte, Nat.reduceSub, Nat.reduceAdd, Nat.reduceMul, Nat.reduceBEq, Nat.reduceLT, Nat.reduceLeDiff, Nat.reduceEqDiff, reduceCtorEq, Int.reduceToNat, Int.reduceLE, Int.reduceLT, Int.reduceBEq, Int.reduceBNe, mCall, cells_encW, celW, cells_enc, cel3, h1, hg, hh, h2, cells_encM, cel5]
        rw [loop_at hloop ?hb ?hs]
        case hb => rfl
        case hs => rfl
        simp -implicitDefEqProofs (disch := decide +kernel) only [go_sem, ↓reduceIte, Nat.reduceSub, Nat.reduceAdd, Nat.reduceMul, Nat.reduceBEq, Nat.reduceLT, Nat.reduceLeDiff, Nat.reduceEqDiff, reduceCtorEq, Int.reduceToNat, Int.reduceLE, Int.reduceLT, Int.reduceBEq, Int.reduceBNe, mCall, cmt_X, celW, cel3, cel5, zc3, cells_enc, hsb, hap, (enc_eq D.t).symm, (enc_eq r.1).symm]
      · rw [if_pos (by simpa using h3)]
        rw [cmt_out, if_neg h3] at hloop
        simp -implicitDefEqProofs (disch := decide +kernel) only [go_sem, ↓reduceIte, Nat.reduceSub, Nat.reduceAdd, Nat.reduceMul, Nat.reduceBEq, Nat.reduceLT, Nat.reduceLeDiff, Nat.reduceEqDiff, reduceCtorEq, Int.reduceToNat, Int.reduceLE, Int.reduceLT, Int.reduceBEq, Int.reduceBNe, mCall, cells_encW, celW, cells_enc, cel3, h1, hg, hh, h2, cells_encM, cel5]
        rw [loop_at hloop ?hb ?hs]
        case hb => rfl
        case hs => rfl
        simp -implicitDefEqProofs (disch := decide +kernel) only [go_sem, ↓reduceIte, Nat.reduceSub, Nat.reduceAdd, Nat.reduceMul, Nat.reduceBEq, Nat.reduceLT, Nat.reduceLeDiff, Nat.reduceEqDiff, reduceCtorEq, Int.reduceToNat, Int.reduceLE, Int.reduceLT, Int.reduceBEq, Int.reduceBNe, mCall, cmt_R, cel3, zc3, cells_enc, zT_enc]
    · have hDl : ¬ D.ctx.length = m.args.length := by simp at h2; omega
      rw [if_pos (by simpa using hDl)]
      simp -implicitDefEqProofs (disch := decide +kernel) only [go_sem, ↓reduceIte, Nat.reduceSub, Nat.reduceAdd, Nat.reduceMul, Nat.reduceBEq, Nat.reduceLT, Nat.reduceLeDiff, Nat.reduceEqDiff, reduceCtorEq, Int.reduceToNat, Int.reduceLE, Int.reduceLT, Int.reduceBEq, Int.reduceBNe, mCall, cells_encW, celW, cells_enc, cel3, h1, hg, hh, h2, hz, cells_encM, cel5]
  · rw [if_pos (by simpa using h1)]
    simp -implicitDefEqProofs (disch := decide +kernel) only [go_sem, ↓reduceIte, Nat.reduceSub, Nat.reduceAdd, Nat.reduceMul, Nat.reduceBEq, Nat.reduceLT, Nat.reduceLeDiff, Nat.reduceEqDiff, reduceCtorEq, Int.reduceToNat, Int.reduceLE, Int.reduceLT, Int.reduceBEq, Int.reduceBNe, mCall, cells_encW, celW, cells_enc, cel3, h1, hz]
end Go.Proofs.Ytmemmdfjlhamfaa
/- The package check: terms, types, kinds. -/
set_option linter.unusedSimpArgs false
set_option linter.unusedVariables false
set_option maxRecDepth 100000
namespace Go.Proofs.Ytmemmdfjlhamfaa
open Go.Proofs
theorem sum_len : ∀ (l : List Nat), (∀ n ∈ l, 1 ≤ n) → ∀ n ∈ l, n + l.length ≤ l.sum + 1
  | [], _, n, h => by cases h
  | a :: l, hp, n, h => by
    have h1 := hp a (by simp)
    simp only [List.length_cons, List.sum_cons]
    rcases List.mem_cons.1 h with rfl | h
    · have : ∀ l : List Nat, (∀ n ∈ l, 1 ≤ n) → l.length ≤ l.sum := by
        intro l
        induction l with
        | nil => intro _; simp
        | cons a l ih => intro hq; have := ih fun n hn => hq n (by simp [hn]); have := hq a (by simp); simp; omega
      have := this l fun n hn => hp n (by simp [hn])
      omega
    · have := sum_len l (fun n hn => hp n (by simp [hn])) n h
      omega
theorem arg_len {m : Tm} {i : Nat} (hi : i < m.args.length) : (m.arg i).size + m.args.length ≤ m.size := by
  have := sum_len (m.args.map Tm.size) (fun n hn => by obtain ⟨x, _, rfl⟩ := List.mem_map.1 hn; exact size_pos x) _ (List.mem_map_of_mem (f := Tm.size) (arg_mem hi))
  rw [List.length_map] at this
  rw [size_eq m]
  omega
theorem may_kind {m : Tm} (h : mayB m = true) : m.kind = 0 ∨ m.kind = 1 ∨ m.kind = 2 ∨ m.kind = 3 ∨ m.kind = 4 ∨ m.kind = 5 ∨ m.kind = 6 := by
  have hn := node_here (may_parts h).1
  unfold nodeOk at hn
  split at hn
  · omega
  split at hn
  · omega
  split at hn
  · omega
  · simp only [Bool.and_eq_true, decide_eq_true_eq] at hn
    omega
theorem cm_may {w : Wo} {m : Tm} {n : Nat} {K : Int} (hw : WOk K w n) (h0 : 0 ≤ m.head) {T : Nat → Tm → Int} : mayB (cmW w.wd w.ctx T m).1 = true := by
  unfold cmW
  split
  · refine spD_may fun e => ?_
    obtain ⟨e1, e2⟩ := varW_ok e
    rw [e2]
    have := hw.ctx _ (getD_mem' (l := w.ctx) (i := w.ctx.length - 1 - m.head.toNat) (by omega))
    exact up_may this.1 (by omega) 0
  split
  · refine spD_may fun e => ?_
    obtain ⟨e1, e2, e3⟩ := declW_ok e
    rw [e3]
    have hlt : m.head.toNat < w.sig.length := by simp [Wo.wd] at e1; omega
    have hg : w.wd.sig.getD m.head.toNat default = (Dcs.at w.sig m.head.toNat).t := getD_sig hlt
    rw [hg]
    exact (hw.sig _ (dat_mem hlt)).1
  split
  · exact metaW_may
  · exact zT_may
set_option maxHeartbeats 4000000 in
theorem cterm_spec : ∀ m : Tm, mayB m = true → ∀ (w : Wo) (a : Tm) (K : Int), vleB K m = true → WOk K w m.size → K + 4000000 * (m.size : Int) ≤ topV → mayB a = true → vleB K a = true →
    ∃ h, (lim C).call 70 [dW w, dT m, dT a] [] = some (.ret (dI (termW w.wd m a w.ctx)), h) := by
  refine Tm.ind fun m ih hm w a K hv hw hK ha hva => ?_
  have hr : room = 1099511627776 := rfl
  have hn := (may_parts hm).1
  have hcl := hw.cl
  have hsp := size_pos m
  have hem := (enc_eq m).symm
  have hea := (enc_eq a).symm
  have h0 := hw.h0
  have hT : NodeOk w m K := ⟨fun i hi x hx hvx => by
      have hal := arg_len hi
      obtain ⟨h, hc⟩ := ih _ (arg_mem hi) (may_argm (arg_mem hi) hm) w x (K + 2000000 * ((i : Int) + 1)) (vle_mono (by omega) (vle_args hv i hi)) (hw.mono (by omega) (by omega)) (by omega) hx hvx
      exact ⟨h, by rw [argW_lt hi]; exact hc⟩, hm, hv, hw, hK⟩
  rw [termW_eq]
  unfold termB
  by_cases k3 : m.kind = 3
  · rw [if_pos k3]
    by_cases a1 : a.kind = 1
    · rw [if_pos a1]
      have hl := lam_len hn k3
      have hl2 := pi_len (may_parts ha).1 a1
      have hsz := arg_len (m := m) (i := 0) (by omega)
      have m0 := may_argm (arg_mem (t := a) (i := 0) (by omega)) ha
      have m1 := may_argm (arg_mem (t := a) (i := 1) (by omega)) ha
      have hww : WOk K (w.with (a.arg 0)) (m.arg 0).size := (hw.mono (Int.le_refl K) (by omega)).with m0 (vle_args hva 0 (by omega))
      obtain ⟨h, hc⟩ := ih _ (arg_mem (t := m) (i := 0) (by omega)) (may_argm (arg_mem (by omega)) hm) (w.with (a.arg 0)) (a.arg 1) K (vle_args hv 0 (by omega)) hww (by omega) m1 (vle_args hva 1 (by omega))
      rw [argW_lt (by omega)]
      have hc : _ = some (CR.ret (dI (termW w.wd (m.arg 0) (a.arg 1) (w.ctx ++ [a.arg 0]))), h) := hc
      have hwith := cwith_spec w (a.arg 0) (by omega)
      have e0 : m.args[0]? = some (m.arg 0) := arg_get (by omega)
      have f0 : a.args[0]? = some (a.arg 0) := arg_get (by omega)
      have f1 : a.args[1]? = some (a.arg 1) := arg_get (by omega)
      generalize termW w.wd (m.arg 0) (a.arg 1) (w.ctx ++ [a.arg 0]) = r at hc ⊢
      refine ⟨[], ?_⟩
      rw [ev_fn 70 Try.f70 _ _ _ rfl Try.func70 rfl Try.ntmps70 rfl]
      simp -implicitDefEqProofs (disch := decide +kernel) only [go_sem, ↓reduceIte, Nat.reduceSub, Nat.reduceAdd, Nat.reduceMul, Nat.reduceBEq, Nat.reduceLT, Nat.reduceLeDiff, Nat.reduceEqDiff, reduceCtorEq, Int.reduceToNat, Int.reduceLE, Int.reduceLT, Int.reduceBEq, Int.reduceBNe, mCall, cells_encW, celW, cells_enc, cel3, k3, a1, e0, f0, f1, hwith, hc, hem, hea, (enc_eq (m.arg 0)).symm, (enc_eq (a.arg 0)).symm, (enc_eq (a.arg 1)).symm]
    · rw [if_neg a1]
      have a1' : (a.kind == 1) = false := by simpa using a1
      refine ⟨[], ?_⟩
      rw [ev_fn 70 Try.f70 _ _ _ rfl Try.func70 rfl Try.ntmps70 rfl]
      simp -implicitDefEqProofs (disch := decide +kernel) only [go_sem, ↓reduceIte, Nat.reduceSub, Nat.reduceAdd, Nat.reduceMul, Nat.reduceBEq, Nat.reduceLT, Nat.reduceLeDiff, Nat.reduceEqDiff, reduceCtorEq, Int.reduceToNat, Int.reduceLE, Int.reduceLT, Int.reduceBEq, Int.reduceBNe, mCall, cells_encW, celW, cells_enc, cel3, k3, a1', hem, hea]
  · rw [if_neg k3]
    have k3' : (m.kind == 3) = false := by simpa using k3
    by_cases a2 : a.kind = 2
    · rw [if_neg (by simpa using a2)]
      have hcm : ∃ r : Tm × Int, r = cmW w.wd w.ctx (fun i x => argW w.wd m i x w.ctx) m ∧ mayB r.1 = true ∧ ((m.kind = 0 ∨ m.kind = 1 ∨ m.kind = 2) ∧ r = (zT, 3) ∨
          m.kind = 4 ∧ (∃ h, (lim C).call 100 [dW w, dT m] [] = some (.ret (.tup [dT r.1, dI r.2]), h)) ∨
          m.kind = 5 ∧ (∃ h, (lim C).call 101 [dW w, dT m] [] = some (.ret (.tup [dT r.1, dI r.2]), h)) ∨
          m.kind = 6 ∧ (∃ h, (lim C).call 102 [dW w, dT m] [] = some (.ret (.tup [dT r.1, dI r.2]), h))) := by
        refine ⟨_, rfl, cm_may hw (node_head (node_here hn)), ?_⟩
        rcases may_kind hm with k | k | k | k | k | k | k
        · left; exact ⟨.inl k, by unfold cmW; rw [if_neg (by omega), if_neg (by omega), if_neg (by omega)]⟩
        · left; exact ⟨.inr (.inl k), by unfold cmW; rw [if_neg (by omega), if_neg (by omega), if_neg (by omega)]⟩
        · left; exact ⟨.inr (.inr k), by unfold cmW; rw [if_neg (by omega), if_neg (by omega), if_neg (by omega)]⟩
        · exact absurd k k3
        · right; left; exact ⟨k, by rw [cm_var k]; exact cvar_spec hT⟩
        · right; right; left; exact ⟨k, by rw [cm_const k]; exact cconst_spec hT⟩
        · right; right; right; exact ⟨k, by rw [cm_meta k]; exact cmeta_spec hT⟩
      obtain ⟨r, hr1, hr2, hcs⟩ := hcm
      rw [← hr1]
      have hsm := tsame_spec r.1 (may_room hr2) a
      have a2' : (a.kind != 2) = false := by simpa using a2
      have hns := cnone_spec w m
      have her := (enc_eq r.1).symm
      have fin : ∀ g : Nat, (∃ h, (lim C).call g [dW w, dT m] [] = some (.ret (.tup [dT r.1, dI r.2]), h)) → True := fun _ _ => trivial
      obtain ⟨t, e⟩ := r
      simp only at hsm her hcs hr2
      refine ⟨[], ?_⟩
      rcases hcs with ⟨k, hz⟩ | ⟨k, h, hc⟩ | ⟨k, h, hc⟩ | ⟨k, h, hc⟩
      · obtain ⟨rfl, rfl⟩ : t = zT ∧ e = 3 := ⟨congrArg Prod.fst hz, congrArg Prod.snd hz⟩
        rcases k with k | k | k
        · have hek := hem
          rw [k] at hek
          rw [ev_fn 70 Try.f70 _ _ _ rfl Try.func70 rfl Try.ntmps70 rfl]
          simp -implicitDefEqProofs (disch := decide +kernel) only [go_sem, ↓reduceIte, Nat.reduceSub, Nat.reduceAdd, Nat.reduceMul, Nat.reduceBEq, Nat.reduceLT, Nat.reduceLeDiff, Nat.reduceEqDiff, reduceCtorEq, Int.reduceToNat, Int.reduceLE, Int.reduceLT, Int.reduceBEq, Int.reduceBNe, mCall, cells_encW, celW, cells_enc, cel3, k, a2', hek, hea, hns, (enc_eq zT).symm]
          rfl
        · have hek := hem
          rw [k] at hek
          rw [ev_fn 70 Try.f70 _ _ _ rfl Try.func70 rfl Try.ntmps70 rfl]
          simp -implicitDefEqProofs (disch := decide +kernel) only [go_sem, ↓reduceIte, Nat.reduceSub, Nat.reduceAdd, Nat.reduceMul, Nat.reduceBEq, Nat.reduceLT, Nat.reduceLeDiff, Nat.reduceEqDiff, reduceCtorEq, Int.reduceToNat, Int.reduceLE, Int.reduceLT, Int.reduceBEq, Int.reduceBNe, mCall, cells_encW, celW, cells_enc, cel3, k, a2', hek, hea, hns, (enc_eq zT).symm]
          rfl
        · have hek := hem
          rw [k] at hek
          rw [ev_fn 70 Try.f70 _ _ _ rfl Try.func70 rfl Try.ntmps70 rfl]
          simp -implicitDefEqProofs (disch := decide +kernel) only [go_sem, ↓reduceIte, Nat.reduceSub, Nat.reduceAdd, Nat.reduceMul, Nat.reduceBEq, Nat.reduceLT, Nat.reduceLeDiff, Nat.reduceEqDiff, reduceCtorEq, Int.reduceToNat, Int.reduceLE, Int.reduceLT, Int.reduceBEq, Int.reduceBNe, mCall, cells_encW, celW, cells_enc, cel3, k, a2', hek, hea, hns, (enc_eq zT).symm]
          rfl
      all_goals
        have hek := hem
        rw [k] at hek
        by_cases he : e = 0
        · subst he
          have h00 : ((0 : Int) == 0) = true := rfl
          cases hs : sameB t a
          · rw [hs] at hsm
            rw [ev_fn 70 Try.f70 _ _ _ rfl Try.func70 rfl Try.ntmps70 rfl]
            simp -implicitDefEqProofs (disch := decide +kernel) only [go_sem, ↓reduceIte, Nat.reduceSub, Nat.reduceAdd, Nat.reduceMul, Nat.reduceBEq, Nat.reduceLT, Nat.reduceLeDiff, Nat.reduceEqDiff, reduceCtorEq, Int.reduceToNat, Int.reduceLE, Int.reduceLT, Int.reduceBEq, Int.reduceBNe, mCall, cells_encW, celW, cells_enc, cel3, k, a2', hek, hea, hc, her, h00, hsm]
            rfl
          · rw [hs] at hsm
            rw [ev_fn 70 Try.f70 _ _ _ rfl Try.func70 rfl Try.ntmps70 rfl]
            simp -implicitDefEqProofs (disch := decide +kernel) only [go_sem, ↓reduceIte, Nat.reduceSub, Nat.reduceAdd, Nat.reduceMul, Nat.reduceBEq, Nat.reduceLT, Nat.reduceLeDiff, Nat.reduceEqDiff, reduceCtorEq, Int.reduceToNat, Int.reduceLE, Int.reduceLT, Int.reduceBEq, Int.reduceBNe, mCall, cells_encW, celW, cells_enc, cel3, k, a2', hek, hea, hc, her, h00, hsm]
            rfl
        · have he' : (e == 0) = false := by simpa using he
          rw [if_pos (by simpa using he)]
          rw [ev_fn 70 Try.f70 _ _ _ rfl Try.func70 rfl Try.ntmps70 rfl]
          simp -implicitDefEqProofs (disch := decide +kernel) only [go_sem, ↓reduceIte, Nat.reduceSub, Nat.reduceAdd, Nat.reduceMul, Nat.reduceBEq, Nat.reduceLT, Nat.reduceLeDiff, Nat.reduceEqDiff, reduceCtorEq, Int.reduceToNat, Int.reduceLE, Int.reduceLT, Int.reduceBEq, Int.reduceBNe, mCall, cells_encW, celW, cells_enc, cel3, k, a2', hek, hea, hc, her, he']
    · rw [if_pos (by simpa using a2)]
      have a2' : (a.kind != 2) = true := by simpa using a2
      refine ⟨[], ?_⟩
      rw [ev_fn 70 Try.f70 _ _ _ rfl Try.func70 rfl Try.ntmps70 rfl]
      simp -implicitDefEqProofs (disch := decide +kernel) only [go_sem, ↓reduceIte, Nat.reduceSub, Nat.reduceAdd, Nat.reduceMul, Nat.reduceBEq, Nat.reduceLT, Nat.reduceLeDiff, Nat.reduceEqDiff, reduceCtorEq, Int.reduceToNat, Int.reduceLE, Int.reduceLT, Int.reduceBEq, Int.reduceBNe, mCall, cells_encW, celW, cells_enc, cel3, k3', a2', hem, hea]
end Go.Proofs.Ytmemmdfjlhamfaa
/- The package check: types, kinds, and all from outside. -/
set_option linter.unusedSimpArgs false
set_option linter.unusedVariables false
set_option maxRecDepth 100000
namespace Go.Proofs.Ytmemmdfjlhamfaa
open Go.Proofs
theorem cboth_spec {w : Wo} {t : Tm} {g : Nat} {e e' : Int} {h h' : List HO} (hg : C.thr.contains g = false) (hl : t.args.length = 2) (hcl : w.ctx.length < room)
    (h1 : (lim C).call 73 [dW w, dT (t.arg 0)] [] = some (.ret (dI e), h))
    (h2 : e = 0 → (lim C).call g [dW (w.with (t.arg 0)), dT (t.arg 1)] [] = some (.ret (dI e'), h')) :
    (lim C).call 106 [dW w, dT t, .fn g [] []] [] = some (.ret (dI (if e ≠ 0 then e else e')), []) := by
  simp only [C_thr, List.contains_cons, List.contains_nil, Bool.or_false] at hg
  have e0 : t.args[0]? = some (t.arg 0) := arg_get (by omega)
  have e1 : t.args[1]? = some (t.arg 1) := arg_get (by omega)
  have hwith := cwith_spec w (t.arg 0) hcl
  by_cases he : e = 0
  · subst he
    have h2 := h2 rfl
    have h00 : ((0 : Int) != 0) = false := rfl
    rw [if_neg (by simp)]
    rw [ev_fn 106 Try.f106 _ _ _ rfl Try.func106 rfl Try.ntmps106 rfl]
    simp -implicitDefEqProofs (disch := decide +kernel) only [go_sem, ↓reduceIte, Nat.reduceSub, Nat.reduceAdd, Nat.reduceMul, Nat.reduceBEq, Nat.reduceLT, Nat.reduceLeDiff, Nat.reduceEqDiff, reduceCtorEq, Int.reduceToNat, Int.reduceLE, Int.reduceLT, Int.reduceBEq, Int.reduceBNe, mCall, hg, cells_encW, celW, cells_enc, cel3, e0, e1, h1, h00, hwith, h2, (enc_eq (t.arg 0)).symm, (enc_eq (t.arg 1)).symm]
  · have he' : (e != 0) = true := by simpa using he
    rw [if_pos he]
    rw [ev_fn 106 Try.f106 _ _ _ rfl Try.func106 rfl Try.ntmps106 rfl]
    simp -implicitDefEqProofs (disch := decide +kernel) only [go_sem, ↓reduceIte, Nat.reduceSub, Nat.reduceAdd, Nat.reduceMul, Nat.reduceBEq, Nat.reduceLT, Nat.reduceLeDiff, Nat.reduceEqDiff, reduceCtorEq, Int.reduceToNat, Int.reduceLE, Int.reduceLT, Int.reduceBEq, Int.reduceBNe, mCall, hg, cells_encW, celW, cells_enc, cel3, e0, e1, h1, he', (enc_eq (t.arg 0)).symm, (enc_eq (t.arg 1)).symm]
theorem node_ok {w : Wo} {m : Tm} {K : Int} (hm : mayB m = true) (hv : vleB K m = true) (hw : WOk K w m.size) (hK : K + 4000000 * (m.size : Int) ≤ topV) : NodeOk w m K := ⟨fun i hi x hx hvx => by
    have hal := arg_len hi
    have h0 := hw.h0
    obtain ⟨h, hc⟩ := cterm_spec _ (may_argm (arg_mem hi) hm) w x (K + 2000000 * ((i : Int) + 1)) (vle_mono (by omega) (vle_args hv i hi)) (hw.mono (by omega) (by omega)) (by omega) hx hvx
    exact ⟨h, by rw [argW_lt hi]; exact hc⟩, hm, hv, hw, hK⟩
set_option maxHeartbeats 4000000 in
theorem ctyp_spec : ∀ a : Tm, mayB a = true → ∀ (w : Wo) (K : Int), vleB K a = true → WOk K w a.size → K + 4000000 * (a.size : Int) ≤ topV →
    ∃ h, (lim C).call 73 [dW w, dT a] [] = some (.ret (dI (typW w.wd a w.ctx)), h) := by
  refine Tm.ind fun a ih ha w K hv hw hK => ?_
  have hr : room = 1099511627776 := rfl
  have hn := (may_parts ha).1
  have hcl := hw.cl
  have hsp := size_pos a
  have hea := (enc_eq a).symm
  have h0 := hw.h0
  by_cases k1 : a.kind = 1
  · have hl := pi_len hn k1
    rw [typW_pi _ k1 (by omega)]
    have hz0 := arg_len (m := a) (i := 0) (by omega)
    have hz1 := arg_len (m := a) (i := 1) (by omega)
    have m0 := may_argm (arg_mem (t := a) (i := 0) (by omega)) ha
    have m1 := may_argm (arg_mem (t := a) (i := 1) (by omega)) ha
    obtain ⟨h, hc⟩ := ih _ (arg_mem (t := a) (i := 0) (by omega)) m0 w K (vle_args hv 0 (by omega)) (hw.mono (Int.le_refl K) (by omega)) (by omega)
    have hww : WOk K (w.with (a.arg 0)) (a.arg 1).size := (hw.mono (Int.le_refl K) (by omega)).with m0 (vle_args hv 0 (by omega))
    obtain ⟨h', hc'⟩ := ih _ (arg_mem (t := a) (i := 1) (by omega)) m1 (w.with (a.arg 0)) K (vle_args hv 1 (by omega)) hww (by omega)
    have hb := cboth_spec (w := w) (t := a) (by decide +kernel) hl (by omega) hc (fun _ => hc')
    have hx : typW (w.with (a.arg 0)).wd (a.arg 1) (w.with (a.arg 0)).ctx = typW w.wd (a.arg 1) (w.ctx ++ [a.arg 0]) := rfl
    rw [hx] at hb
    generalize (if typW w.wd (a.arg 0) w.ctx ≠ 0 then typW w.wd (a.arg 0) w.ctx else typW w.wd (a.arg 1) (w.ctx ++ [a.arg 0])) = r at hb ⊢
    refine ⟨[], ?_⟩
    rw [k1] at hea
    rw [ev_fn 73 Try.f73 _ _ _ rfl Try.func73 rfl Try.ntmps73 rfl]
    simp -implicitDefEqProofs (disch := decide +kernel) only [go_sem, ↓reduceIte, Nat.reduceSub, Nat.reduceAdd, Nat.reduceMul, Nat.reduceBEq, Nat.reduceLT, Nat.reduceLeDiff, Nat.reduceEqDiff, reduceCtorEq, Int.reduceToNat, Int.reduceLE, Int.reduceLT, Int.reduceBEq, Int.reduceBNe, mCall, cells_encW, celW, cells_enc, cel3, k1, hea, hb]
  · by_cases k2 : a.kind = 2
    · rw [typW_fam _ k2]
      have hh := node_head (node_here hn)
      have hT := node_ok ha hv hw hK
      have hd := cdecl_spec w a.head true hh
      have hp : (declW w.wd a.head true).2 = 0 → mayB (declW w.wd a.head true).1 = true ∧ vleB (K + 2000000) (declW w.wd a.head true).1 = true := fun e => by
        obtain ⟨e1, e2, e3⟩ := declW_ok e
        rw [e3]
        have hlt : a.head.toNat < w.sig.length := by simp [Wo.wd] at e1; omega
        have hg : w.wd.sig.getD a.head.toNat default = (Dcs.at w.sig a.head.toNat).t := getD_sig hlt
        rw [hg]
        have := hw.sig _ (dat_mem hlt)
        exact ⟨this.1, vle_mono (by omega) this.2⟩
      unfold famW
      refine ⟨[], ?_⟩
      generalize declW w.wd a.head true = q at hd hp ⊢
      obtain ⟨t, e⟩ := q
      rw [ev_fn 73 Try.f73 _ _ _ rfl Try.func73 rfl Try.ntmps73 rfl]
      by_cases he : e = 0
      · subst he
        obtain ⟨p1, p2⟩ := hp rfl
        obtain ⟨h, hs⟩ := hT.spine p1 p2
        rw [spD_go (by rfl)]
        have hs : _ = some (CR.ret (.tup [dT (spW (fun i x => argW w.wd a i x w.ctx) a.arg a.args.length 0 t).1, dI (spW (fun i x => argW w.wd a i x w.ctx) a.arg a.args.length 0 t).2]), h) := hs
        generalize spW (fun i x => argW w.wd a i x w.ctx) a.arg a.args.length 0 t = r at hs ⊢
        have h00 : ((0 : Int) == 0) = true := rfl
        by_cases he2 : r.2 = 0
        · have he2' : (r.2 == 0) = true := by simpa using he2
          rw [if_neg (by simpa using he2)]
          by_cases hk : r.1.kind = 0
          · have hk' : (r.1.kind != 0) = false := by simpa using hk
            rw [if_neg (by simpa using hk)]
            simp -implicitDefEqProofs (disch := decide +kernel) only [go_sem, ↓reduceIte, Nat.reduceSub, Nat.reduceAdd, Nat.reduceMul, Nat.reduceBEq, Nat.reduceLT, Nat.reduceLeDiff, Nat.reduceEqDiff, reduceCtorEq, Int.reduceToNat, Int.reduceLE, Int.reduceLT, Int.reduceBEq, Int.reduceBNe, mCall, cells_encW, celW, cells_enc, cel3, k2, hea, hd, h00, hs, he2', hk', he2, (enc_eq t).symm]
          · have hk' : (r.1.kind != 0) = true := by simpa using hk
            rw [if_pos (by simpa using hk)]
            simp -implicitDefEqProofs (disch := decide +kernel) only [go_sem, ↓reduceIte, Nat.reduceSub, Nat.reduceAdd, Nat.reduceMul, Nat.reduceBEq, Nat.reduceLT, Nat.reduceLeDiff, Nat.reduceEqDiff, reduceCtorEq, Int.reduceToNat, Int.reduceLE, Int.reduceLT, Int.reduceBEq, Int.reduceBNe, mCall, cells_encW, celW, cells_enc, cel3, k2, hea, hd, h00, hs, he2', hk', (enc_eq t).symm]
        · have he2' : (r.2 == 0) = false := by simpa using he2
          rw [if_pos (by simpa using he2)]
          simp -implicitDefEqProofs (disch := decide +kernel) only [go_sem, ↓reduceIte, Nat.reduceSub, Nat.reduceAdd, Nat.reduceMul, Nat.reduceBEq, Nat.reduceLT, Nat.reduceLeDiff, Nat.reduceEqDiff, reduceCtorEq, Int.reduceToNat, Int.reduceLE, Int.reduceLT, Int.reduceBEq, Int.reduceBNe, mCall, cells_encW, celW, cells_enc, cel3, k2, hea, hd, h00, hs, he2', (enc_eq t).symm]
      · have hs : spD (fun i x => argW w.wd a i x w.ctx) a (t, e) = (zT, e) := by unfold spD; rw [if_pos he]
        have he' : (e == 0) = false := by simpa using he
        rw [hs, if_pos (by simpa using he)]
        simp -implicitDefEqProofs (disch := decide +kernel) only [go_sem, ↓reduceIte, Nat.reduceSub, Nat.reduceAdd, Nat.reduceMul, Nat.reduceBEq, Nat.reduceLT, Nat.reduceLeDiff, Nat.reduceEqDiff, reduceCtorEq, Int.reduceToNat, Int.reduceLE, Int.reduceLT, Int.reduceBEq, Int.reduceBNe, mCall, cells_encW, celW, cells_enc, cel3, k2, hea, hd, he', (enc_eq t).symm]
    · rw [typW_no _ k1 k2]
      have k1' : (a.kind == 1) = false := by simpa using k1
      have k2' : (a.kind == 2) = false := by simpa using k2
      refine ⟨[], ?_⟩
      rw [ev_fn 73 Try.f73 _ _ _ rfl Try.func73 rfl Try.ntmps73 rfl]
      simp -implicitDefEqProofs (disch := decide +kernel) only [go_sem, ↓reduceIte, Nat.reduceSub, Nat.reduceAdd, Nat.reduceMul, Nat.reduceBEq, Nat.reduceLT, Nat.reduceLeDiff, Nat.reduceEqDiff, reduceCtorEq, Int.reduceToNat, Int.reduceLE, Int.reduceLT, Int.reduceBEq, Int.reduceBNe, mCall, cells_encW, celW, cells_enc, cel3, k1', k2', hea]
theorem ckind_spec : ∀ a : Tm, mayB a = true → ∀ (w : Wo) (K : Int), vleB K a = true → WOk K w a.size → K + 4000000 * (a.size : Int) ≤ topV →
    ∃ h, (lim C).call 75 [dW w, dT a] [] = some (.ret (dI (kindW w.wd a w.ctx)), h) := by
  refine Tm.ind fun a ih ha w K hv hw hK => ?_
  have hr : room = 1099511627776 := rfl
  have hn := (may_parts ha).1
  have hcl := hw.cl
  have hsp := size_pos a
  have hea := (enc_eq a).symm
  by_cases k0 : a.kind = 0
  · rw [kindW_sort _ k0]
    refine ⟨[], ?_⟩
    rw [ev_fn 75 Try.f75 _ _ _ rfl Try.func75 rfl Try.ntmps75 rfl]
    simp -implicitDefEqProofs (disch := decide +kernel) only [go_sem, ↓reduceIte, Nat.reduceSub, Nat.reduceAdd, Nat.reduceMul, Nat.reduceBEq, Nat.reduceLT, Nat.reduceLeDiff, Nat.reduceEqDiff, reduceCtorEq, Int.reduceToNat, Int.reduceLE, Int.reduceLT, Int.reduceBEq, Int.reduceBNe, mCall, cells_encW, celW, cells_enc, cel3, k0, hea]
  by_cases k1 : a.kind = 1
  · have hl := pi_len hn k1
    rw [kindW_pi _ k1 (by omega)]
    have hz0 := arg_len (m := a) (i := 0) (by omega)
    have hz1 := arg_len (m := a) (i := 1) (by omega)
    have m0 := may_argm (arg_mem (t := a) (i := 0) (by omega)) ha
    have m1 := may_argm (arg_mem (t := a) (i := 1) (by omega)) ha
    obtain ⟨h, hc⟩ := ctyp_spec _ m0 w K (vle_args hv 0 (by omega)) (hw.mono (Int.le_refl K) (by omega)) (by omega)
    have hww : WOk K (w.with (a.arg 0)) (a.arg 1).size := (hw.mono (Int.le_refl K) (by omega)).with m0 (vle_args hv 0 (by omega))
    obtain ⟨h', hc'⟩ := ih _ (arg_mem (t := a) (i := 1) (by omega)) m1 (w.with (a.arg 0)) K (vle_args hv 1 (by omega)) hww (by omega)
    have hb := cboth_spec (w := w) (t := a) (by decide +kernel) hl (by omega) hc (fun _ => hc')
    have hx : kindW (w.with (a.arg 0)).wd (a.arg 1) (w.with (a.arg 0)).ctx = kindW w.wd (a.arg 1) (w.ctx ++ [a.arg 0]) := rfl
    rw [hx] at hb
    generalize (if typW w.wd (a.arg 0) w.ctx ≠ 0 then typW w.wd (a.arg 0) w.ctx else kindW w.wd (a.arg 1) (w.ctx ++ [a.arg 0])) = r at hb ⊢
    refine ⟨[], ?_⟩
    rw [k1] at hea
    rw [ev_fn 75 Try.f75 _ _ _ rfl Try.func75 rfl Try.ntmps75 rfl]
    simp -implicitDefEqProofs (disch := decide +kernel) only [go_sem, ↓reduceIte, Nat.reduceSub, Nat.reduceAdd, Nat.reduceMul, Nat.reduceBEq, Nat.reduceLT, Nat.reduceLeDiff, Nat.reduceEqDiff, reduceCtorEq, Int.reduceToNat, Int.reduceLE, Int.reduceLT, Int.reduceBEq, Int.reduceBNe, mCall, cells_encW, celW, cells_enc, cel3, k1, hea, hb]
  · rw [kindW_no _ k0 k1]
    have k0' : (a.kind == 0) = false := by simpa using k0
    have k1' : (a.kind == 1) = false := by simpa using k1
    refine ⟨[], ?_⟩
    rw [ev_fn 75 Try.f75 _ _ _ rfl Try.func75 rfl Try.ntmps75 rfl]
    simp -implicitDefEqProofs (disch := decide +kernel) only [go_sem, ↓reduceIte, Nat.reduceSub, Nat.reduceAdd, Nat.reduceMul, Nat.reduceBEq, Nat.reduceLT, Nat.reduceLeDiff, Nat.reduceEqDiff, reduceCtorEq, Int.reduceToNat, Int.reduceLE, Int.reduceLT, Int.reduceBEq, Int.reduceBNe, mCall, cells_encW, celW, cells_enc, cel3, k0', k1', hea]
/-- What a world is that is given from outside. -/
structure WIn (K : Int) (w : Wo) : Prop where
  sz : WSz w
  h0 : 0 ≤ K
  top : K + 20000000000 ≤ topV
  ctx : ∀ x ∈ w.ctx, vleB K x = true
  sig : ∀ d ∈ w.sig, vleB K d.t = true
  metas : ∀ d ∈ w.metas, vleB K d.t = true ∧ ∀ x ∈ d.ctx, vleB K x = true
theorem WIn.ok {K : Int} {w : Wo} (h : WIn K w) {l : List Tm} (hm : mayW w.wd w.ctx l = true) : WOk K w 4001 ∧ ∀ x ∈ l, mayB x = true := by
  have h0 := h.h0
  have hz := h.sz
  rw [mayW_eq] at hm
  simp only [Bool.and_eq_true, Bool.not_eq_true', decide_eq_false_iff_not, allB_iff] at hm
  obtain ⟨⟨⟨⟨m1, m2⟩, m3⟩, m4⟩, m5⟩ := hm
  refine ⟨⟨h0, by omega, fun x hx => ⟨maysB_iff.1 m3 x hx, h.ctx x hx⟩, hz.sl, fun d hd => ?_, hz.ml, fun d hd => ?_⟩, maysB_iff.1 m2⟩
  · obtain ⟨i, hi, rfl⟩ := List.mem_iff_getElem.1 hd
    have := m4 i hi
    have he : Dcs.at w.sig i = w.sig[i] := by simp [Dcs.at, List.getD, List.getElem?_eq_getElem hi]
    rw [he] at this
    exact ⟨this, h.sig _ hd⟩
  · obtain ⟨i, hi, rfl⟩ := List.mem_iff_getElem.1 hd
    have := m5 i hi
    have he : w.metas.getD i default = w.metas[i] := by simp [List.getD, List.getElem?_eq_getElem hi]
    rw [he] at this
    exact ⟨⟨this.1, (h.metas _ hd).1⟩, (hz.mz _ hd).2.1, fun x hx => ⟨maysB_iff.1 this.2 x hx, (h.metas _ hd).2 x hx⟩⟩
theorem cTerm_spec {K : Int} {w : Wo} (h : WIn K w) (m a : Tm) (hm : m.size < room) (hvm : vleB K m = true) (ha : a.size < room) (hva : vleB K a = true) :
    ∃ h, (lim C).call 38 [dDs w.sig, dMs w.metas, dL w.ctx, dT m, dT a] [] = some (.ret (dI (TermR w.wd w.ctx m a)), h) := by
  have hr : room = 1099511627776 := rfl
  have ht := h.top
  have hw := encW_fold w.sig w.metas w.ctx
  obtain ⟨hh, hc⟩ := cmay_spec w [m, a] h.sz (by simp; omega) (by simp; exact ⟨hm, ha⟩)
  have hl2 : Dv.slc [enc m, enc a] = .slc (encs [m, a]) := rfl
  have hl2' : [enc m, enc a] = encs [m, a] := rfl
  refine ⟨[], ?_⟩
  unfold TermR
  rw [ev_fn 38 Try.f38 _ _ _ rfl Try.func38 rfl Try.ntmps38 rfl]
  cases hmw : mayW w.wd w.ctx [m, a]
  · rw [hmw] at hc
    simp -implicitDefEqProofs (disch := decide +kernel) only [go_sem, ↓reduceIte, Nat.reduceSub, Nat.reduceAdd, Nat.reduceMul, Nat.reduceBEq, Nat.reduceLT, Nat.reduceLeDiff, Nat.reduceEqDiff, reduceCtorEq, Int.reduceToNat, Int.reduceLE, Int.reduceLT, Int.reduceBEq, Int.reduceBNe, mCall, hw, hc, hl2', cells_encW, celW, cells_enc, cel3, (enc_eq m).symm, (enc_eq a).symm]
  · rw [hmw] at hc
    obtain ⟨o1, o2⟩ := h.ok hmw
    have hms := (may_parts (o2 m (by simp))).2.1
    obtain ⟨h', hcc⟩ := cterm_spec m (o2 m (by simp)) w a K hvm (o1.mono (Int.le_refl K) (by omega)) (by omega) (o2 a (by simp)) hva
    rw [if_pos rfl]
    simp -implicitDefEqProofs (disch := decide +kernel) only [go_sem, ↓reduceIte, Nat.reduceSub, Nat.reduceAdd, Nat.reduceMul, Nat.reduceBEq, Nat.reduceLT, Nat.reduceLeDiff, Nat.reduceEqDiff, reduceCtorEq, Int.reduceToNat, Int.reduceLE, Int.reduceLT, Int.reduceBEq, Int.reduceBNe, mCall, hw, hc, hcc, hl2', cells_encW, celW, cells_enc, cel3, (enc_eq m).symm, (enc_eq a).symm]
theorem cType_spec {K : Int} {w : Wo} (h : WIn K w) (a : Tm) (ha : a.size < room) (hva : vleB K a = true) :
    ∃ h, (lim C).call 40 [dDs w.sig, dMs w.metas, dL w.ctx, dT a] [] = some (.ret (dI (TypR w.wd w.ctx a)), h) := by
  have hr : room = 1099511627776 := rfl
  have ht := h.top
  have hw := encW_fold w.sig w.metas w.ctx
  obtain ⟨hh, hc⟩ := cmay_spec w [a] h.sz (by simp; omega) (by simpa using ha)
  have hl2' : [enc a] = encs [a] := rfl
  refine ⟨[], ?_⟩
  unfold TypR
  rw [ev_fn 40 Try.f40 _ _ _ rfl Try.func40 rfl Try.ntmps40 rfl]
  cases hmw : mayW w.wd w.ctx [a]
  · rw [hmw] at hc
    simp -implicitDefEqProofs (disch := decide +kernel) only [go_sem, ↓reduceIte, Nat.reduceSub, Nat.reduceAdd, Nat.reduceMul, Nat.reduceBEq, Nat.reduceLT, Nat.reduceLeDiff, Nat.reduceEqDiff, reduceCtorEq, Int.reduceToNat, Int.reduceLE, Int.reduceLT, Int.reduceBEq, Int.reduceBNe, mCall, hw, hc, hl2', cells_encW, celW, cells_enc, cel3, (enc_eq a).symm]
  · rw [hmw] at hc
    obtain ⟨o1, o2⟩ := h.ok hmw
    have hms := (may_parts (o2 a (by simp))).2.1
    obtain ⟨h', hcc⟩ := ctyp_spec a (o2 a (by simp)) w K hva (o1.mono (Int.le_refl K) (by omega)) (by omega)
    rw [if_pos rfl]
    simp -implicitDefEqProofs (disch := decide +kernel) only [go_sem, ↓reduceIte, Nat.reduceSub, Nat.reduceAdd, Nat.reduceMul, Nat.reduceBEq, Nat.reduceLT, Nat.reduceLeDiff, Nat.reduceEqDiff, reduceCtorEq, Int.reduceToNat, Int.reduceLE, Int.reduceLT, Int.reduceBEq, Int.reduceBNe, mCall, hw, hc, hcc, hl2', cells_encW, celW, cells_enc, cel3, (enc_eq a).symm]
theorem cKind_spec {K : Int} {w : Wo} (h : WIn K w) (a : Tm) (ha : a.size < room) (hva : vleB K a = true) :
    ∃ h, (lim C).call 42 [dDs w.sig, dMs w.metas, dL w.ctx, dT a] [] = some (.ret (dI (KindR w.wd w.ctx a)), h) := by
  have hr : room = 1099511627776 := rfl
  have ht := h.top
  have hw := encW_fold w.sig w.metas w.ctx
  obtain ⟨hh, hc⟩ := cmay_spec w [a] h.sz (by simp; omega) (by simpa using ha)
  have hl2' : [enc a] = encs [a] := rfl
  refine ⟨[], ?_⟩
  unfold KindR
  rw [ev_fn 42 Try.f42 _ _ _ rfl Try.func42 rfl Try.ntmps42 rfl]
  cases hmw : mayW w.wd w.ctx [a]
  · rw [hmw] at hc
    simp -implicitDefEqProofs (disch := decide +kernel) only [go_sem, ↓reduceIte, Nat.reduceSub, Nat.reduceAdd, Nat.reduceMul, Nat.reduceBEq, Nat.reduceLT, Nat.reduceLeDiff, Nat.reduceEqDiff, reduceCtorEq, Int.reduceToNat, Int.reduceLE, Int.reduceLT, Int.reduceBEq, Int.reduceBNe, mCall, hw, hc, hl2', cells_encW, celW, cells_enc, cel3, (enc_eq a).symm]
  · rw [hmw] at hc
    obtain ⟨o1, o2⟩ := h.ok hmw
    have hms := (may_parts (o2 a (by simp))).2.1
    obtain ⟨h', hcc⟩ := ckind_spec a (o2 a (by simp)) w K hva (o1.mono (Int.le_refl K) (by omega)) (by omega)
    rw [if_pos rfl]
    simp -implicitDefEqProofs (disch := decide +kernel) only [go_sem, ↓reduceIte, Nat.reduceSub, Nat.reduceAdd, Nat.reduceMul, Nat.reduceBEq, Nat.reduceLT, Nat.reduceLeDiff, Nat.reduceEqDiff, reduceCtorEq, Int.reduceToNat, Int.reduceLE, Int.reduceLT, Int.reduceBEq, Int.reduceBNe, mCall, hw, hc, hcc, hl2', cells_encW, celW, cells_enc, cel3, (enc_eq a).symm]
end Go.Proofs.Ytmemmdfjlhamfaa
/- Laws of layer 10: the example, Few. -/
set_option linter.unusedSimpArgs false
set_option linter.unusedVariables false
set_option maxRecDepth 100000
namespace Go.Proofs.Ytmemmdfjlhamfaa
open Go.Proofs
def tNat : Tm := .mk 2 0 []
def tZ : Tm := .mk 5 1 []
def tV : Tm := .mk 4 0 []
def tS0 : Tm := .mk 5 2 []
def tSV : Tm := .mk 5 2 [tV]
def tSZ : Tm := .mk 5 2 [tZ]
def tLam : Tm := .mk 3 0 [tSV]
def tPi : Tm := .mk 1 0 [tNat, tNat]
def natSig : List Dc := [⟨⟨#[110, 97, 116]⟩, zT⟩, ⟨⟨#[122]⟩, tNat⟩, ⟨⟨#[115]⟩, tPi⟩]
theorem mk_depth (k h : Int) (l : List Tm) : (Tm.mk k h l).depth = 1 + (l.map Tm.depth).foldr max 0 := by rw [depth_eq]; rfl
theorem small_may {k h : Int} {l : List Tm} (h1 : nodeOk (.mk k h l) = true) (h2 : ∀ x ∈ l, mayB x = true) (h3 : (Tm.mk k h l).size ≤ 4000) (h4 : (Tm.mk k h l).depth ≤ 60) : mayB (.mk k h l) = true :=
  may_of (nodes_mk h1 fun x hx => (may_parts (h2 x hx)).1) h3 h4
theorem tNat_may : mayB tNat = true := leaf_may rfl (by decide)
theorem tZ_may : mayB tZ = true := leaf_may rfl (by decide)
theorem tV_may : mayB tV = true := leaf_may rfl (by decide)
theorem tS0_may : mayB tS0 = true := leaf_may rfl (by decide)
theorem tSV_may : mayB tSV = true := small_may (by decide) (by simpa using tV_may) (by simp [mk_size, tV]) (by simp [mk_depth, tV])
theorem tSZ_may : mayB tSZ = true := small_may (by decide) (by simpa using tZ_may) (by simp [mk_size, tZ]) (by simp [mk_depth, tZ])
theorem tLam_may : mayB tLam = true := small_may (by decide) (by simpa using tSV_may) (by simp [mk_size, tSV, tV]) (by simp [mk_depth, tSV, tV])
theorem tPi_may : mayB tPi = true := small_may (by decide) (by simpa using tNat_may) (by simp [mk_size, tNat]) (by simp [mk_depth, tNat])
theorem leaf_vle {k h K : Int} (hk : k ≠ 4) : vleB K (.mk k h []) = true := vle_mk (fun e => absurd e hk) (by simp)
theorem tNat_vle : vleB 0 tNat = true := leaf_vle (by decide)
theorem tZ_vle : vleB 0 tZ = true := leaf_vle (by decide)
theorem tV_vle : vleB 0 tV = true := vle_mk (fun _ => by decide) (by simp)
theorem tS0_vle : vleB 0 tS0 = true := leaf_vle (by decide)
theorem tSV_vle : vleB 0 tSV = true := vle_mk (fun e => by cases e) (by simpa using tV_vle)
theorem tSZ_vle : vleB 0 tSZ = true := vle_mk (fun e => by cases e) (by simpa using tZ_vle)
theorem tLam_vle : vleB 0 tLam = true := vle_mk (fun e => by cases e) (by simpa using tSV_vle)
theorem tPi_vle : vleB 0 tPi = true := vle_mk (fun e => by cases e) (by simpa using tNat_vle)
def natW : Wo := ⟨natSig, [], []⟩
theorem natW_in : WIn 0 natW := by
  have hr : room = 1099511627776 := rfl
  have htv : topV = 1125899906842624 := rfl
  refine ⟨⟨by decide, by simp [natW], by decide, ?_, by decide, by simp [natW]⟩, by decide, by rw [htv]; decide, by simp [natW], ?_, by simp [natW]⟩
  · intro d hd
    simp only [natW, natSig, List.mem_cons, List.not_mem_nil, or_false] at hd
    rcases hd with rfl | rfl | rfl
    · exact may_room zT_may
    · exact may_room tNat_may
    · exact may_room tPi_may
  · intro d hd
    simp only [natW, natSig, List.mem_cons, List.not_mem_nil, or_false] at hd
    rcases hd with rfl | rfl | rfl
    · exact zT_vle 0
    · exact tNat_vle
    · exact tPi_vle
theorem natW_may {l : List Tm} (h : ∀ x ∈ l, mayB x = true) : mayW natW.wd natW.ctx l = true := by
  rw [mayW_eq]
  have h1 : maysB l = true := maysB_iff.2 h
  have h2 : maysB natW.ctx = true := rfl
  have h3 : allB natW.sig.length (fun i => mayB (Dcs.at natW.sig i).t) = true := by
    rw [allB_iff]
    intro i hi
    have hi : i < 3 := hi
    rcases (show i = 0 ∨ i = 1 ∨ i = 2 by omega) with rfl | rfl | rfl
    · exact zT_may
    · exact tNat_may
    · exact tPi_may
  have h4 : allB natW.metas.length (fun i => mayB (natW.metas.getD i default).t && maysB (natW.metas.getD i default).ctx) = true := rfl
  rw [h1, h2, h3, h4]
  rfl
theorem leaf_last {k h : Int} : lastOf (.mk k h []) = .mk k h [] := lastOf_no (by simp [isPi, Tm.args])
theorem tPi_last : lastOf tPi = tNat := by
  rw [lastOf_pi (by decide)]
  exact leaf_last
theorem nat_decl0 : declW natW.wd 0 true = (zT, 0) := declW_go (by decide) (by show ((lastOf zT).kind == 0) = true; rw [show lastOf zT = zT from leaf_last]; rfl)
theorem nat_decl1 : declW natW.wd 1 false = (tNat, 0) := declW_go (by decide) (by show ((lastOf tNat).kind == 0) = false; rw [show lastOf tNat = tNat from leaf_last]; rfl)
theorem nat_decl2 : declW natW.wd 2 false = (tPi, 0) := declW_go (by decide) (by show ((lastOf tPi).kind == 0) = false; rw [tPi_last]; rfl)
theorem apply_leaf {k h : Int} {s : Sb} (hk : k ≠ 4) (hm : mayB (.mk k h []) = true) (hs : smayB s = true) : applyR (.mk k h []) s = (.mk k h [], 0) := by
  unfold applyR
  rw [hm, hs, Bool.and_self, if_pos rfl, ap_leaf 39999 k h s 0 (by decide), if_neg hk]
  simp only [outD, hm, if_true]
theorem nat_app {x : Tm} (hx : mayB x = true) : applyR tNat ⟨[x], 0⟩ = (tNat, 0) := apply_leaf (by decide) tNat_may (smay_of (by simp) (by decide) (by decide) (by simpa using hx))
theorem nat_Z : termW natW.wd tZ tNat [] = 0 := by
  refine term_go (by decide) rfl ?_
  rw [cm_const rfl, show tZ.head = 1 from rfl, nat_decl1]
  rfl
theorem nat_V : termW natW.wd tV tNat [tNat] = 0 := by
  refine term_go (by decide) rfl ?_
  rw [cm_var rfl]
  have : varW [tNat] tV.head = (tNat, 0) := by
    rw [varW_lt (by decide)]
    congr 1
    show upT tNat 1 0 = tNat
    unfold upT
    rw [mapT_eq]
    rfl
  rw [this]
  rfl
theorem nat_V0 (T : Tm) : termW natW.wd tV tNat [] = 2 := by
  rw [termW_eq]
  unfold termB
  rw [if_neg (by decide), if_neg (by decide)]
  have : cmW natW.wd [] (fun i x => argW natW.wd tV i x []) tV = (zT, 2) := by
    rw [cm_var rfl]
    have : varW [] tV.head = (zT, 2) := rfl
    rw [this]; rfl
  rw [this]; rfl
theorem nat_S {x : Tm} {c : List Tm} (hx : mayB x = true) (h : termW natW.wd x tNat c = 0) : termW natW.wd (.mk 5 2 [x]) tNat c = 0 := by
  refine term_go (show (5 : Int) ≠ 3 by decide) rfl ?_
  rw [cm_const rfl, show (Tm.mk 5 2 [x]).head = 2 from rfl, nat_decl2, spD_go rfl]
  show spW _ _ (0 + 1) 0 tPi = _
  have h1 : argW natW.wd (.mk 5 2 [x]) 0 (tPi.arg 0) c = 0 := by
    rw [argW_lt (show 0 < 1 by decide)]
    exact h
  have ha : applyR (tPi.arg 1) ⟨[(Tm.mk 5 2 [x]).arg 0], 0⟩ = (tNat, 0) := nat_app hx
  rw [spW_go rfl h1 (by rw [ha]), ha]
  rfl
theorem nat_1 : TermR natW.wd natW.ctx tSZ tNat = 0 := by
  unfold TermR
  rw [natW_may (by simp [tSZ_may, tNat_may]), if_pos rfl]
  exact nat_S tZ_may nat_Z
theorem nat_2 : TermR natW.wd natW.ctx tS0 tNat = 3 := by
  unfold TermR
  rw [natW_may (by simp [tS0_may, tNat_may]), if_pos rfl, termW_eq]
  unfold termB
  rw [if_neg (by decide), if_neg (by decide)]
  have : cmW natW.wd natW.ctx (fun i x => argW natW.wd tS0 i x natW.ctx) tS0 = (tPi, 0) := by
    rw [cm_const rfl, show tS0.head = 2 from rfl, nat_decl2]; rfl
  rw [this, if_neg (by simp), sameB_eq]
  rfl
theorem nat_3 : TermR natW.wd natW.ctx tLam tPi = 0 := by
  unfold TermR
  rw [natW_may (by simp [tLam_may, tPi_may]), if_pos rfl, term_lam rfl, if_pos (show tPi.kind = 1 from rfl), argW_lt (by decide)]
  exact nat_S tV_may nat_V
theorem nat_4 : TermR natW.wd natW.ctx tSV tNat = 2 := by
  unfold TermR
  rw [natW_may (by simp [tSV_may, tNat_may]), if_pos rfl, termW_eq]
  unfold termB
  rw [if_neg (by decide), if_neg (by decide)]
  have : cmW natW.wd natW.ctx (fun i x => argW natW.wd tSV i x natW.ctx) tSV = (zT, 2) := by
    rw [cm_const rfl, show tSV.head = 2 from rfl, nat_decl2, spD_go rfl]
    show spW _ _ (0 + 1) 0 tPi = _
    have h1 : argW natW.wd tSV 0 (tPi.arg 0) natW.ctx = 2 := by
      rw [argW_lt (by decide)]
      exact nat_V0 tV
    unfold spW
    rw [if_neg (by decide), if_pos (by rw [h1]; decide), h1]
  rw [this]; rfl
theorem nat_5 : TypR natW.wd natW.ctx tNat = 0 := by
  unfold TypR
  rw [natW_may (by simp [tNat_may]), if_pos rfl, typW_fam _ rfl]
  have hd : declW natW.wd tNat.head true = (zT, 0) := nat_decl0
  refine famW_go (by rw [hd]) ?_ ?_
  · rw [hd]; rfl
  · rw [hd]; rfl
theorem nat_spec : (lim C).call 67 [] [] = some (.ret (dDs natSig), []) := by
  have hz := zT_enc
  have h1 : Dv.agg [.int .i64 2, .int .i64 0, .slc []] = enc tNat := by rw [enc_eq]; rfl
  rw [ev_fn 67 Try.f67 _ _ _ rfl Try.func67 rfl Try.ntmps67 rfl]
  simp -implicitDefEqProofs (disch := decide +kernel) only [go_sem, ↓reduceIte, Nat.reduceSub, Nat.reduceAdd, Nat.reduceMul, Nat.reduceBEq, Nat.reduceLT, Nat.reduceLeDiff, Nat.reduceEqDiff, reduceCtorEq, Int.reduceToNat, Int.reduceLE, Int.reduceLT, Int.reduceBEq, Int.reduceBNe, mCall, h1, cells_enc]
  rfl
end Go.Proofs.Ytmemmdfjlhamfaa
/- Laws of layer 10: the example told, Few, CheckTerms. -/
set_option linter.unusedSimpArgs false
set_option linter.unusedVariables false
set_option maxRecDepth 100000
namespace Go.Proofs.Ytmemmdfjlhamfaa
open Go.Proofs
theorem tmc (k h : Int) (l : List Tm) {T : Tm} (e : T = .mk k h l) : Dv.agg [.int .i64 k, .int .i64 h, .slc (encs l)] = enc T := by rw [e, enc_mk]
set_option maxHeartbeats 4000000 in
theorem awake10_spec : (lim C).call 36 [] [] = retB true := by
  have hr : room = 1099511627776 := rfl
  have hz := zT_enc
  have e1 : Dv.agg [.int .i64 2, .int .i64 0, .slc []] = enc tNat := tmc 2 0 [] rfl
  have e2 : Dv.agg [.int .i64 4, .int .i64 0, .slc []] = enc tV := tmc 4 0 [] rfl
  have e3 : Dv.agg [.int .i64 5, .int .i64 1, .slc []] = enc tZ := tmc 5 1 [] rfl
  have e4 : Dv.agg [.int .i64 5, .int .i64 2, .slc []] = enc tS0 := tmc 5 2 [] rfl
  have e5 : Dv.agg [.int .i64 5, .int .i64 2, .slc [enc tV]] = enc tSV := tmc 5 2 [tV] rfl
  have e6 : Dv.agg [.int .i64 5, .int .i64 2, .slc [enc tZ]] = enc tSZ := tmc 5 2 [tZ] rfl
  have e7 : Dv.agg [.int .i64 3, .int .i64 0, .slc [enc tSV]] = enc tLam := tmc 3 0 [tSV] rfl
  obtain ⟨h1, c1⟩ := cTerm_spec natW_in tSZ tNat (may_room tSZ_may) tSZ_vle (may_room tNat_may) tNat_vle
  obtain ⟨h2, c2⟩ := cTerm_spec natW_in tS0 tNat (may_room tS0_may) tS0_vle (may_room tNat_may) tNat_vle
  obtain ⟨h3, c3⟩ := cTerm_spec natW_in tLam tPi (may_room tLam_may) tLam_vle (may_room tPi_may) tPi_vle
  obtain ⟨h4, c4⟩ := cTerm_spec natW_in tSV tNat (may_room tSV_may) tSV_vle (may_room tNat_may) tNat_vle
  obtain ⟨h5, c5⟩ := cType_spec natW_in tNat (may_room tNat_may) tNat_vle
  rw [nat_1] at c1
  rw [nat_2] at c2
  rw [nat_3] at c3
  rw [nat_4] at c4
  rw [nat_5] at c5
  have c1 : (lim C).call 38 [dDs natSig, .d (.slc []), .d (.slc []), dT tSZ, dT tNat] [] = some (.ret (dI 0), h1) := c1
  have c2 : (lim C).call 38 [dDs natSig, .d (.slc []), .d (.slc []), dT tS0, dT tNat] [] = some (.ret (dI 3), h2) := c2
  have c3 : (lim C).call 38 [dDs natSig, .d (.slc []), .d (.slc []), dT tLam, dT tPi] [] = some (.ret (dI 0), h3) := c3
  have c4 : (lim C).call 38 [dDs natSig, .d (.slc []), .d (.slc []), dT tSV, dT tNat] [] = some (.ret (dI 2), h4) := c4
  have c5 : (lim C).call 40 [dDs natSig, .d (.slc []), .d (.slc []), dT tNat] [] = some (.ret (dI 0), h5) := c5
  have hg : natSig[2]? = some ⟨⟨#[115]⟩, tPi⟩ := rfl
  rw [ev_fn 36 Try.f36 _ _ _ rfl Try.func36 rfl Try.ntmps36 rfl]
  simp -implicitDefEqProofs (disch := decide +kernel) only [go_sem, ↓reduceIte, Nat.reduceSub, Nat.reduceAdd, Nat.reduceMul, Nat.reduceBEq, Nat.reduceLT, Nat.reduceLeDiff, Nat.reduceEqDiff, reduceCtorEq, Int.reduceToNat, Int.reduceLE, Int.reduceLT, Int.reduceBEq, Int.reduceBNe, mCall, nat_spec, hz, e1, e2, e3, e4, e5, e6, e7, c1, c2, c3, c4, c5, hg, cells_enc, cells_encD, cel3, (enc_eq tNat).symm, (enc_eq tV).symm, (enc_eq tSV).symm, (enc_eq tLam).symm, (enc_eq tPi).symm]
/-- Few declarations, metas, entries. -/
def mdLight (d : Md) : Bool := lightsB d.ctx 500 80 && lightB d.t 500 80
def fewW (w : Wo) : Bool := fewB w.sig && !decide ((w.metas.length : Int) > 30) && allB w.metas.length (fun i => mdLight (w.metas.getD i default)) && lightsB w.ctx 500 80
def fw_S (w : Wo) (i : Nat) : St := mk 48 [(1, dMs w.metas), (2, dL w.ctx), (8, dI i)] [] [] []
theorem fewW_spec (w : Wo) (hw : WSz w) : (lim C).call 37 [dDs w.sig, dMs w.metas, dL w.ctx] [] = retB (fewW w) := by
  have hr : room = 1099511627776 := rfl
  have m1 := hw.ml
  have hf := few_spec w.sig hw.sl hw.sz
  have hloop : (lim C).code 37 (.loop (cf (cf (cs (cf (cs (cs (cs (bodyOf Try.f37))))))))) (fw_S w 0) = some (if allB w.metas.length (fun i => mdLight (w.metas.getD i default)) then (.exit 0, mk 48 [(1, dMs w.metas), (2, dL w.ctx), (8, dI w.metas.length), (24, dB false)] [] [] []) else (.ret, mk 48 [(6, dB false)] [] [] [])) := by
    refine loop_all (fw_S w) w.metas.length _ (fun k hk hp => ?_) (fun k hk hp => ?_) ?_ (by simp) (by simp)
    · obtain ⟨z1, z2, z3⟩ := hw.mz _ (mget_mem hk)
      have hc := light_spec (w.metas.getD k default).t 500 80 z1
      have hd := lights_spec (w.metas.getD k default).ctx 500 80 z2 z3
      simp only [mdLight, Bool.and_eq_true] at hp
      rw [hp.2] at hc
      rw [hp.1] at hd
      simp -implicitDefEqProofs (disch := decide +kernel) only [cf, cs, bodyOf, Try.f37, Option.getD_some, go_sem, ↓reduceIte, Nat.reduceSub, Nat.reduceAdd, Nat.reduceMul, Nat.reduceBEq, Nat.reduceLT, Nat.reduceLeDiff, Nat.reduceEqDiff, reduceCtorEq, Int.reduceToNat, Int.reduceLE, Int.reduceLT, Int.reduceBEq, Int.reduceBNe, mCall, fw_S, lt_true hk, mget_get hk, hc, hd, cells_encM, (enc_eq (w.metas.getD k default).t).symm, wrap_succ (n := k) (by omega)]
    · obtain ⟨z1, z2, z3⟩ := hw.mz _ (mget_mem hk)
      have hc := light_spec (w.metas.getD k default).t 500 80 z1
      have hd := lights_spec (w.metas.getD k default).ctx 500 80 z2 z3
      simp only [mdLight] at hp
      cases h2 : lightsB (w.metas.getD k default).ctx 500 80
      · rw [h2] at hd
        simp -implicitDefEqProofs (disch := decide +kernel) only [cf, cs, bodyOf, Try.f37, Option.getD_some, go_sem, ↓reduceIte, Nat.reduceSub, Nat.reduceAdd, Nat.reduceMul, Nat.reduceBEq, Nat.reduceLT, Nat.reduceLeDiff, Nat.reduceEqDiff, reduceCtorEq, Int.reduceToNat, Int.reduceLE, Int.reduceLT, Int.reduceBEq, Int.reduceBNe, mCall, fw_S, lt_true hk, mget_get hk, hc, hd, cells_encM, (enc_eq (w.metas.getD k default).t).symm]
      · rw [h2, Bool.true_and] at hp
        rw [hp] at hc
        rw [h2] at hd
        simp -implicitDefEqProofs (disch := decide +kernel) only [cf, cs, bodyOf, Try.f37, Option.getD_some, go_sem, ↓reduceIte, Nat.reduceSub, Nat.reduceAdd, Nat.reduceMul, Nat.reduceBEq, Nat.reduceLT, Nat.reduceLeDiff, Nat.reduceEqDiff, reduceCtorEq, Int.reduceToNat, Int.reduceLE, Int.reduceLT, Int.reduceBEq, Int.reduceBNe, mCall, fw_S, lt_true hk, mget_get hk, hc, hd, cells_encM, (enc_eq (w.metas.getD k default).t).symm]
    · simp -implicitDefEqProofs (disch := decide +kernel) only [cf, cs, bodyOf, Try.f37, Option.getD_some, go_sem, ↓reduceIte, Nat.reduceSub, Nat.reduceAdd, Nat.reduceMul, Nat.reduceBEq, Nat.reduceLT, Nat.reduceLeDiff, Nat.reduceEqDiff, reduceCtorEq, Int.reduceToNat, Int.reduceLE, Int.reduceLT, Int.reduceBEq, Int.reduceBNe, mCall, fw_S, lt_false (Nat.le_refl w.metas.length)]
  have hc1 := lights_spec w.ctx 500 80 hw.cl hw.cz
  unfold fewW
  rw [ev_fn 37 Try.f37 _ _ _ rfl Try.func37 rfl Try.ntmps37 rfl]
  cases k1 : fewB w.sig
  · rw [k1] at hf
    simp -implicitDefEqProofs (disch := decide +kernel) only [go_sem, ↓reduceIte, Nat.reduceSub, Nat.reduceAdd, Nat.reduceMul, Nat.reduceBEq, Nat.reduceLT, Nat.reduceLeDiff, Nat.reduceEqDiff, reduceCtorEq, Int.reduceToNat, Int.reduceLE, Int.reduceLT, Int.reduceBEq, Int.reduceBNe, mCall, hf]
  · rw [k1] at hf
    cases k2 : decide ((w.metas.length : Int) > 30)
    · cases k3 : allB w.metas.length (fun i => mdLight (w.metas.getD i default))
      · rw [k3] at hloop
        simp -implicitDefEqProofs (disch := decide +kernel) only [go_sem, ↓reduceIte, Nat.reduceSub, Nat.reduceAdd, Nat.reduceMul, Nat.reduceBEq, Nat.reduceLT, Nat.reduceLeDiff, Nat.reduceEqDiff, reduceCtorEq, Int.reduceToNat, Int.reduceLE, Int.reduceLT, Int.reduceBEq, Int.reduceBNe, mCall, hf, k2]
        rw [loop_at hloop ?hb ?hs]
        case hb => rfl
        case hs => rfl
        simp -implicitDefEqProofs (disch := decide +kernel) only [go_sem, ↓reduceIte, Nat.reduceSub, Nat.reduceAdd, Nat.reduceMul, Nat.reduceBEq, Nat.reduceLT, Nat.reduceLeDiff, Nat.reduceEqDiff, reduceCtorEq, Int.reduceToNat, Int.reduceLE, Int.reduceLT, Int.reduceBEq, Int.reduceBNe, mCall]
      · rw [k3] at hloop
        simp -implicitDefEqProofs (disch := decide +kernel) only [go_sem, ↓reduceIte, Nat.reduceSub, Nat.reduceAdd, Nat.reduceMul, Nat.reduceBEq, Nat.reduceLT, Nat.reduceLeDiff, Nat.reduceEqDiff, reduceCtorEq, Int.reduceToNat, Int.reduceLE, Int.reduceLT, Int.reduceBEq, Int.reduceBNe, mCall, hf, k2]
        rw [loop_at hloop ?hb ?hs]
        case hb => rfl
        case hs => rfl
        simp -implicitDefEqProofs (disch := decide +kernel) only [go_sem, ↓reduceIte, Nat.reduceSub, Nat.reduceAdd, Nat.reduceMul, Nat.reduceBEq, Nat.reduceLT, Nat.reduceLeDiff, Nat.reduceEqDiff, reduceCtorEq, Int.reduceToNat, Int.reduceLE, Int.reduceLT, Int.reduceBEq, Int.reduceBNe, mCall, hc1]
    · simp -implicitDefEqProofs (disch := decide +kernel) only [go_sem, ↓reduceIte, Nat.reduceSub, Nat.reduceAdd, Nat.reduceMul, Nat.reduceBEq, Nat.reduceLT, Nat.reduceLeDiff, Nat.reduceEqDiff, reduceCtorEq, Int.reduceToNat, Int.reduceLE, Int.reduceLT, Int.reduceBEq, Int.reduceBNe, mCall, hf, k2]
end Go.Proofs.Ytmemmdfjlhamfaa
/- Arguments of a law: declarations, as they are read. -/
set_option linter.unusedVariables false
set_option linter.unusedSimpArgs false
namespace Go.Proofs.Ytmemmdfjlhamfaa
open Go.Proofs Go.ChangeShapes
def dsum (l : List Dc) : Nat := (l.map fun d => d.t.size).sum + l.length
theorem dsum_len {l : List Dc} : l.length ≤ dsum l := by unfold dsum; omega
theorem dsum_mem {l : List Dc} {d : Dc} (h : d ∈ l) : d.t.size ≤ dsum l := by
  unfold dsum
  have := sum_mem (List.mem_map_of_mem (f := fun d : Dc => d.t.size) h)
  omega
section
variable {H : Type} {enc' : TypeId × Value → H} {W : World} {held : Bool}
theorem decl_read {fuel : Nat} {cs : List Value} {x : DataW H × List MemPlace} (h : DataW.trod enc' Try.prog W 0 (fun _ => true) held fuel 76 cs = some x) : ∃ d : Dc, dv x.1 = encD d ∧ Wf d.t ∧ d.t.size + 1 ≤ Rows.uptoBulk x.1 := by
  obtain ⟨xs, n, hn, rfl, hl, hxl, hg⟩ := DataW.trod_struct Try.underlying76 h
  obtain ⟨a, b, rfl⟩ : ∃ a b, xs = [a, b] := by
    match xs, hxl with
    | [a, b], _ => exact ⟨a, b, rfl⟩
  have h0 := hg 0 _ rfl
  have h1 := hg 1 _ rfl
  simp only [List.getElem?_cons_zero, List.getElem?_cons_succ] at h0 h1
  obtain ⟨s, _, rfl, _⟩ := DataW.trod_string Try.underlying9 h0
  obtain ⟨t, t1, t2, t3⟩ := tm_read _ _ _ h1
  refine ⟨⟨s, t⟩, ?_, t2, ?_⟩
  · simp only [List.map_cons, List.map_nil, dv, dcs, t1, Dv.cells, enc_cells, List.cons_append, List.nil_append, List.append_nil, encD]
    rw [enc_eq]
  · simp only [List.map_cons, List.map_nil, Rows.uptoBulk, Rows.uptoBulkAll]
    omega
theorem decl_arg {v : Value} {d : DataW H} {ps : List MemPlace} (h : DataW.Trod enc' Try.prog W 0 (fun _ => true) held 76 v d ps) : ∃ t : Dc, dv d = encD t ∧ Wf t.t ∧ t.t.size + 1 ≤ Rows.uptoBulk d := by
  obtain ⟨fuel, h⟩ := h
  exact decl_read h
theorem decls_arg {v : Value} {d : DataW H} {ps : List MemPlace} (h : DataW.Trod enc' Try.prog W 0 (fun _ => true) held 48 v d ps) : ∃ l : List Dc, dv d = .slc (encDs l) ∧ (∀ t ∈ l, Wf t.t) ∧ dsum l + 1 ≤ Rows.uptoBulk d := by
  obtain ⟨fuel, h⟩ := h
  rcases DataW.trod_slice Try.underlying48 h with ⟨_, hx⟩ | ⟨a, len, cap, elems, rest, n, hn, _, hx, _, hlc, _, hel, hget, _, _⟩
  · obtain rfl : d = .nil := congrArg Prod.fst hx
    exact ⟨[], rfl, by simp, by simp [Rows.uptoBulk, dsum]⟩
  · obtain rfl : d = _ := congrArg Prod.fst hx
    obtain ⟨l, h1, h2⟩ := list_of (P := fun (y : DataW H × List MemPlace) (t : Dc) => dv y.1 = encD t ∧ Wf t.t ∧ t.t.size + 1 ≤ Rows.uptoBulk y.1) elems fun y hy => by
      obtain ⟨i, hi⟩ := List.mem_iff_getElem?.1 hy
      have hlt := (List.getElem?_eq_some_iff.1 hi).1
      have := hget i (by omega)
      rw [hi] at this
      obtain ⟨cs, _, hx⟩ := Option.bind_eq_some_iff.1 this
      exact decl_read hx
    have key : ∀ (es : List (DataW H × List MemPlace)) (l : List Dc), l.length = es.length → (∀ (i : Nat) y t, es[i]? = some y → l[i]? = some t → dv y.1 = encD t ∧ Wf t.t ∧ t.t.size + 1 ≤ Rows.uptoBulk y.1) →
        dvs (es.map (·.1)) = encDs l ∧ (∀ t ∈ l, Wf t.t) ∧ dsum l ≤ Rows.uptoBulkAll (es.map (·.1)) := by
      intro es
      induction es with
      | nil =>
        intro l hl _
        obtain rfl : l = [] := List.eq_nil_of_length_eq_zero (by simpa using hl)
        exact ⟨rfl, by simp, by simp [dsum]⟩
      | cons y es ih =>
        intro l hl hp
        cases l with
        | nil => simp at hl
        | cons t l =>
          obtain ⟨k1, k2, k3⟩ := hp 0 y t rfl rfl
          obtain ⟨j1, j2, j3⟩ := ih l (by simpa using hl) fun i a b ha hb => hp (i + 1) a b (by simpa using ha) (by simpa using hb)
          refine ⟨?_, fun x hx => ?_, ?_⟩
          · simp only [List.map_cons, dvs, k1, j1]; rfl
          · rcases List.mem_cons.1 hx with rfl | hx
            · exact k2
            · exact j2 x hx
          · unfold dsum at j3 ⊢
            simp only [List.map_cons, List.sum_cons, Rows.uptoBulkAll, List.length_cons]
            omega
    obtain ⟨k1, k2, k3⟩ := key elems l h1 h2
    refine ⟨l, by simp only [dv, k1], k2, ?_⟩
    simp only [Rows.uptoBulk]
    omega
end
end Go.Proofs.Ytmemmdfjlhamfaa
/- Arguments of a law: metas, as they are read. -/
set_option linter.unusedVariables false
set_option linter.unusedSimpArgs false
namespace Go.Proofs.Ytmemmdfjlhamfaa
open Go.Proofs Go.ChangeShapes
def WfM (d : Md) : Prop := Wf d.t ∧ ∀ x ∈ d.ctx, Wf x
def mdsz (d : Md) : Nat := d.t.size + (d.ctx.map Tm.size).sum + 1
def msum (l : List Md) : Nat := (l.map mdsz).sum
section
variable {H : Type} {enc' : TypeId × Value → H} {W : World} {held : Bool}
theorem meta_read {fuel : Nat} {cs : List Value} {x : DataW H × List MemPlace} (h : DataW.trod enc' Try.prog W 0 (fun _ => true) held fuel 79 cs = some x) : ∃ d : Md, dv x.1 = encM d ∧ WfM d ∧ mdsz d ≤ Rows.uptoBulk x.1 := by
  obtain ⟨xs, n, hn, rfl, hl, hxl, hg⟩ := DataW.trod_struct Try.underlying79 h
  obtain ⟨a, b, c, rfl⟩ : ∃ a b c, xs = [a, b, c] := by
    match xs, hxl with
    | [a, b, c], _ => exact ⟨a, b, c, rfl⟩
  have h0 := hg 0 _ rfl
  have h1 := hg 1 _ rfl
  have h2 := hg 2 _ rfl
  simp only [List.getElem?_cons_zero, List.getElem?_cons_succ] at h0 h1 h2
  obtain ⟨l, l1, l2, l3⟩ := tms_read (fuel := n) (fun m _ => tm_read m) h0
  obtain ⟨t, t1, t2, t3⟩ := tm_read _ _ _ h1
  obtain ⟨p, _, hp⟩ := DataW.trod_bool Try.underlying4 h2
  subst hp
  refine ⟨⟨l, t, p⟩, ?_, ⟨t2, l2⟩, ?_⟩
  · simp only [List.map_cons, List.map_nil, dv, dcs, l1, t1, Dv.cells, enc_cells, List.cons_append, List.nil_append, List.append_nil, encM]
    rw [enc_eq]
    rfl
  · simp only [List.map_cons, List.map_nil, Rows.uptoBulk, Rows.uptoBulkAll, mdsz]
    omega
theorem meta_arg {v : Value} {d : DataW H} {ps : List MemPlace} (h : DataW.Trod enc' Try.prog W 0 (fun _ => true) held 79 v d ps) : ∃ t : Md, dv d = encM t ∧ WfM t ∧ mdsz t ≤ Rows.uptoBulk d := by
  obtain ⟨fuel, h⟩ := h
  exact meta_read h
theorem metas_arg {v : Value} {d : DataW H} {ps : List MemPlace} (h : DataW.Trod enc' Try.prog W 0 (fun _ => true) held 49 v d ps) : ∃ l : List Md, dv d = .slc (encMs l) ∧ (∀ t ∈ l, WfM t) ∧ msum l + 1 ≤ Rows.uptoBulk d := by
  obtain ⟨fuel, h⟩ := h
  rcases DataW.trod_slice Try.underlying49 h with ⟨_, hx⟩ | ⟨a, len, cap, elems, rest, n, hn, _, hx, _, hlc, _, hel, hget, _, _⟩
  · obtain rfl : d = .nil := congrArg Prod.fst hx
    exact ⟨[], rfl, by simp, by simp [Rows.uptoBulk, msum]⟩
  · obtain rfl : d = _ := congrArg Prod.fst hx
    obtain ⟨l, h1, h2⟩ := list_of (P := fun (y : DataW H × List MemPlace) (t : Md) => dv y.1 = encM t ∧ WfM t ∧ mdsz t ≤ Rows.uptoBulk y.1) elems fun y hy => by
      obtain ⟨i, hi⟩ := List.mem_iff_getElem?.1 hy
      have hlt := (List.getElem?_eq_some_iff.1 hi).1
      have := hget i (by omega)
      rw [hi] at this
      obtain ⟨cs, _, hx⟩ := Option.bind_eq_some_iff.1 this
      exact meta_read hx
    have key : ∀ (es : List (DataW H × List MemPlace)) (l : List Md), l.length = es.length → (∀ (i : Nat) y t, es[i]? = some y → l[i]? = some t → dv y.1 = encM t ∧ WfM t ∧ mdsz t ≤ Rows.uptoBulk y.1) →
        dvs (es.map (·.1)) = encMs l ∧ (∀ t ∈ l, WfM t) ∧ msum l ≤ Rows.uptoBulkAll (es.map (·.1)) := by
      intro es
      induction es with
      | nil =>
        intro l hl _
        obtain rfl : l = [] := List.eq_nil_of_length_eq_zero (by simpa using hl)
        exact ⟨rfl, by simp, by simp [msum]⟩
      | cons y es ih =>
        intro l hl hp
        cases l with
        | nil => simp at hl
        | cons t l =>
          obtain ⟨k1, k2, k3⟩ := hp 0 y t rfl rfl
          obtain ⟨j1, j2, j3⟩ := ih l (by simpa using hl) fun i a b ha hb => hp (i + 1) a b (by simpa using ha) (by simpa using hb)
          refine ⟨?_, fun x hx => ?_, ?_⟩
          · simp only [List.map_cons, dvs, k1, j1]; rfl
          · rcases List.mem_cons.1 hx with rfl | hx
            · exact k2
            · exact j2 x hx
          · unfold msum at j3 ⊢
            simp only [List.map_cons, List.sum_cons, Rows.uptoBulkAll]
            omega
    obtain ⟨k1, k2, k3⟩ := key elems l h1 h2
    refine ⟨l, by simp only [dv, k1], k2, ?_⟩
    simp only [Rows.uptoBulk]
    omega
end
theorem msum_mem {l : List Md} {d : Md} (h : d ∈ l) : mdsz d ≤ msum l := sum_mem (List.mem_map_of_mem h)
theorem msum_len : ∀ l : List Md, l.length ≤ msum l
  | [] => Nat.zero_le _
  | d :: l => by
    have := msum_len l
    unfold msum at this ⊢
    simp only [List.map_cons, List.sum_cons, List.length_cons, mdsz] at this ⊢
    omega
end Go.Proofs.Ytmemmdfjlhamfaa
/- Laws of layer 10: what is light. -/
set_option linter.unusedSimpArgs false
set_option linter.unusedVariables false
set_option maxRecDepth 100000
namespace Go.Proofs.Ytmemmdfjlhamfaa
open Go.Proofs
theorem tms_room {l : List Tm} (hs : (l.map Tm.size).sum + 1 ≤ 1048576) : l.length < room ∧ ∀ x ∈ l, x.size < room := lists_room hs
theorem wsz_of {sg : List Dc} {ms : List Md} {cx : List Tm} (h1 : dsum sg + 1 ≤ 1048576) (h2 : msum ms + 1 ≤ 1048576) (h3 : (cx.map Tm.size).sum + 1 ≤ 1048576) : WSz ⟨sg, ms, cx⟩ := by
  have hr : room = 1099511627776 := rfl
  obtain ⟨c1, c2⟩ := lists_room h3
  have d1 := dsum_len (l := sg)
  have m1 := msum_len ms
  refine ⟨c1, c2, by show sg.length < room; omega, fun d hd => by have := dsum_mem (l := sg) hd; omega, by show ms.length < room; omega, fun d hd => ?_⟩
  have hm := msum_mem (l := ms) hd
  unfold mdsz at hm
  obtain ⟨e1, e2⟩ := lists_room (l := d.ctx) (by omega)
  exact ⟨by omega, e1, e2⟩
abbrev lowK : Int := 1099511627776
theorem light_vle {t : Tm} {s d : Int} (h : lightB t s d = true) : vleB lowK t = true := by
  unfold lightB at h
  simp only [Bool.and_eq_true] at h
  exact vle_low h.1.1
theorem fewB_parts {sg : List Dc} (h : fewB sg = true) : sg.length ≤ 30 ∧ ∀ d ∈ sg, lightB d.t 1000 80 = true := by
  unfold fewB at h
  simp only [Bool.and_eq_true, decide_eq_true_eq, allB_iff] at h
  refine ⟨h.1, fun d hd => ?_⟩
  obtain ⟨i, hi, rfl⟩ := List.mem_iff_getElem.1 hd
  have := h.2 i hi
  rwa [show Dcs.at sg i = sg[i] by simp [Dcs.at, List.getD, List.getElem?_eq_getElem hi]] at this
theorem fewW_parts {w : Wo} (h : fewW w = true) : (w.sig.length ≤ 30 ∧ ∀ d ∈ w.sig, lightB d.t 1000 80 = true) ∧ (w.metas.length ≤ 30 ∧ ∀ d ∈ w.metas, mdLight d = true) ∧ w.ctx.length ≤ 60 ∧ ∀ x ∈ w.ctx, lightB x 500 80 = true := by
  unfold fewW at h
  simp only [Bool.and_eq_true, Bool.not_eq_true', decide_eq_false_iff_not, allB_iff] at h
  obtain ⟨⟨⟨h1, h2⟩, h3⟩, h4⟩ := h
  refine ⟨fewB_parts h1, ⟨by omega, fun d hd => ?_⟩, lights_parts h4⟩
  obtain ⟨i, hi, rfl⟩ := List.mem_iff_getElem.1 hd
  have := h3 i hi
  rwa [show w.metas.getD i default = w.metas[i] by simp [List.getD, List.getElem?_eq_getElem hi]] at this
theorem few_in {w : Wo} (hz : WSz w) (h : fewW w = true) : WIn lowK w := by
  have htv : topV = 1125899906842624 := rfl
  obtain ⟨⟨_, h1⟩, ⟨_, h2⟩, _, h3⟩ := fewW_parts h
  refine ⟨hz, by decide, by rw [htv]; decide, fun x hx => light_vle (h3 x hx), fun d hd => light_vle (h1 d hd), fun d hd => ?_⟩
  have := h2 d hd
  unfold mdLight at this
  rw [Bool.and_eq_true] at this
  exact ⟨light_vle this.2, fun x hx => light_vle ((lights_parts this.1).2 x hx)⟩
theorem size_room {t : Tm} (h : t.size ≤ 1048576) : t.size < room := by
  have hr : room = 1099511627776 := rfl
  omega
end Go.Proofs.Ytmemmdfjlhamfaa
/- Laws of layer 10: CheckFew, CheckOne. -/
set_option linter.unusedSimpArgs false
set_option linter.unusedVariables false
set_option maxRecDepth 100000
namespace Go.Proofs.Ytmemmdfjlhamfaa
open Go.Proofs
def scopeV (v m : Int) (n : Int) (x : Tm) : Bool := (x.kind != 4 || decide (IntKind.wrap .i64 (x.head - n) < v)) && (x.kind != 6 || decide (x.head < m))
theorem tscopedV1_spec (n v m : Int) (x : Tm) (hp : List HO) : (lim C).call 54 [dI n, dT x, .href 0 0, .href 1 0] (.var 0 [dI v] :: .var 0 [dI m] :: hp) = some (.ret (dB (scopeV v m n x)), .var 0 [dI v] :: .var 0 [dI m] :: hp) := by
  rw [ev_fn 54 Try.f54 _ _ _ rfl Try.func54 rfl Try.ntmps54 rfl]
  unfold scopeV
  cases h1 : (x.kind != 4)
  · have h2 : (x.kind != 6) = true := by simp at h1 ⊢; omega
    cases h3 : decide (IntKind.wrap .i64 (x.head - n) < v)
    · simp -implicitDefEqProofs (disch := decide +kernel) only [go_sem, ↓reduceIte, Nat.reduceSub, Nat.reduceAdd, Nat.reduceMul, Nat.reduceBEq, Nat.reduceLT, Nat.reduceLeDiff, Nat.reduceEqDiff, reduceCtorEq, Int.reduceToNat, Int.reduceLE, Int.reduceLT, Int.reduceBEq, Int.reduceBNe, mCall, h1, h3]
    · simp -implicitDefEqProofs (disch := decide +kernel) only [go_sem, ↓reduceIte, Nat.reduceSub, Nat.reduceAdd, Nat.reduceMul, Nat.reduceBEq, Nat.reduceLT, Nat.reduceLeDiff, Nat.reduceEqDiff, reduceCtorEq, Int.reduceToNat, Int.reduceLE, Int.reduceLT, Int.reduceBEq, Int.reduceBNe, mCall, h1, h2, h3]
  · cases h2 : (x.kind != 6)
    · simp -implicitDefEqProofs (disch := decide +kernel) only [go_sem, ↓reduceIte, Nat.reduceSub, Nat.reduceAdd, Nat.reduceMul, Nat.reduceBEq, Nat.reduceLT, Nat.reduceLeDiff, Nat.reduceEqDiff, reduceCtorEq, Int.reduceToNat, Int.reduceLE, Int.reduceLT, Int.reduceBEq, Int.reduceBNe, mCall, h1, h2]
    · simp -implicitDefEqProofs (disch := decide +kernel) only [go_sem, ↓reduceIte, Nat.reduceSub, Nat.reduceAdd, Nat.reduceMul, Nat.reduceBEq, Nat.reduceLT, Nat.reduceLeDiff, Nat.reduceEqDiff, reduceCtorEq, Int.reduceToNat, Int.reduceLE, Int.reduceLT, Int.reduceBEq, Int.reduceBNe, mCall, h1, h2]
theorem scopedV_answers (v m : Int) : Answers 54 [.href 0 0, .href 1 0] [.var 0 [dI v], .var 0 [dI m]] (scopeV v m) (fun _ => True) := by
  intro n x locs hp toks _
  simp only [mCall, callsPure, pureL, AV.pure, okL, AV.okA, C_thr, eraseL, AV.erase, List.cons_append, List.nil_append, tscopedV1_spec n v m x hp, Bool.and_true, Bool.true_and, Bool.and_false, Bool.false_and, Bool.false_eq_true, if_false, if_true, Option.bind_some, heapRes_ret]
/-- Scoped answers for any term; for one that may be, what is so. -/
theorem tscopedV_spec (t : Tm) (v m : Int) (hs : t.size < room) (hv : vleB lowK t = true) : ∃ b, (∃ h, (lim C).call 23 [dT t, dI v, dI m] [] = some (.ret (dB b), h)) ∧ (nodesB t = true → b = scopedB t v m) := by
  have hr : room = 1099511627776 := rfl
  have h1 := all_spec (scopedV_answers v m) rfl rfl t hs (fun _ _ => trivial)
  have hV : ∃ h, (lim C).call 23 [dT t, dI v, dI m] [] = some (.ret (dB ((pre t 0).all fun q => scopeV v m q.1 q.2)), h) := by
    refine ⟨[.var 0 [dI v], .var 0 [dI m]] ++ [.var 0 [.fn 54 [] [.href 0 0, .href 1 0]], .var 0 [dB ((pre t 0).all fun q => scopeV v m q.1 q.2)], .var 0 (cel3 t), .dead], ?_⟩
    rw [ev_fn 23 Try.f23 _ _ _ rfl Try.func23 rfl Try.ntmps23 rfl]
    simp -implicitDefEqProofs (disch := decide +kernel) only [go_sem, ↓reduceIte, Nat.reduceSub, Nat.reduceAdd, Nat.reduceMul, Nat.reduceBEq, Nat.reduceLT, Nat.reduceLeDiff, Nat.reduceEqDiff, reduceCtorEq, Int.reduceToNat, Int.reduceLE, Int.reduceLT, Int.reduceBEq, Int.reduceBNe, mCall, h1]
  refine ⟨_, hV, fun hn => ?_⟩
  obtain ⟨h, h2⟩ := tscoped_spec t v m hs (calm_vle (c := lowK) (by decide) t 0 (by omega) (by omega) hn hv)
  obtain ⟨h', h3⟩ := hV
  rw [h3] at h2
  simp only [Option.some.injEq, Prod.mk.injEq, CR.ret.injEq, AV.d.injEq, Dv.bool.injEq] at h2
  exact h2.1
theorem WIn.sub {K : Int} {w : Wo} (h : WIn K w) {c : List Tm} (hs : ∀ x ∈ c, x ∈ w.ctx) (hl : c.length < room) : WIn K ⟨w.sig, w.metas, c⟩ :=
  ⟨⟨hl, fun x hx => h.sz.cz x (hs x hx), h.sz.sl, h.sz.sz, h.sz.ml, h.sz.mz⟩, h.h0, h.top, fun x hx => h.ctx x (hs x hx), h.sig, h.metas⟩
theorem TermR_ok {w : Wd} {c : List Tm} {m a : Tm} (h : TermR w c m a = 0) : mayW w c [m, a] = true ∧ termW w m a c = 0 := by
  unfold TermR at h
  cases hm : mayW w c [m, a]
  · rw [hm] at h; cases h
  · rw [hm] at h; exact ⟨rfl, h⟩
theorem mayW_of {w : Wd} {c l : List Tm} (h : mayW w c l = true) : ∀ x ∈ l, mayB x = true := by
  unfold mayW at h
  simp only [Bool.and_eq_true] at h
  exact maysB_iff.1 h.1.1.1.2
theorem checkFew_holds (sg : List Dc) (wsg : ∀ t ∈ sg, Wf t.t) (hsg : dsum sg + 1 ≤ 1048576) (ms : List Md) (wms : ∀ t ∈ ms, WfM t) (hms : msum ms + 1 ≤ 1048576) (cx : List Tm) (wcx : ∀ t ∈ cx, Wf t) (hcx : (cx.map Tm.size).sum + 1 ≤ 1048576)
    (m : Tm) (wm : Wf m) (hm : m.size ≤ 1048576) (a : Tm) (wa : Wf a) (ha : a.size ≤ 1048576) (n : Int) (jn : in64 n) : ∃ h, (lim C).call 13 [dDs sg, dMs ms, dL cx, dT m, dT a, dI n] [] = some (.ret (dB true), h) := by
  have hr : room = 1099511627776 := rfl
  have hA := awake10_spec
  have hw := wsz_of hsg hms hcx
  have hF := fewW_spec ⟨sg, ms, cx⟩ hw
  have hF : (lim C).call 37 [dDs sg, dMs ms, dL cx] [] = _ := hF
  have zm := size_room hm
  have za := size_room ha
  have hp := light_spec m 400 60 zm
  have hq := light_spec a 400 60 za
  have hem := (enc_eq m).symm
  have hea := (enc_eq a).symm
  refine ⟨[], ?_⟩
  rw [ev_fn 13 Try.f13 _ _ _ rfl Try.func13 rfl Try.ntmps13 rfl]
  cases k1 : fewW ⟨sg, ms, cx⟩
  · simp -implicitDefEqProofs (disch := decide +kernel) only [go_sem, ↓reduceIte, Nat.reduceSub, Nat.reduceAdd, Nat.reduceMul, Nat.reduceBEq, Nat.reduceLT, Nat.reduceLeDiff, Nat.reduceEqDiff, reduceCtorEq, Int.reduceToNat, Int.reduceLE, Int.reduceLT, Int.reduceBEq, Int.reduceBNe, mCall, hA, hF, hp, hq, cells_enc, cel3, hem, hea, k1]
  · skip
    cases k2 : lightB m 400 60
    · simp -implicitDefEqProofs (disch := decide +kernel) only [go_sem, ↓reduceIte, Nat.reduceSub, Nat.reduceAdd, Nat.reduceMul, Nat.reduceBEq, Nat.reduceLT, Nat.reduceLeDiff, Nat.reduceEqDiff, reduceCtorEq, Int.reduceToNat, Int.reduceLE, Int.reduceLT, Int.reduceBEq, Int.reduceBNe, mCall, hA, hF, hp, hq, cells_enc, cel3, hem, hea, k1, k2]
    · skip
      cases k3 : lightB a 400 60
      · simp -implicitDefEqProofs (disch := decide +kernel) only [go_sem, ↓reduceIte, Nat.reduceSub, Nat.reduceAdd, Nat.reduceMul, Nat.reduceBEq, Nat.reduceLT, Nat.reduceLeDiff, Nat.reduceEqDiff, reduceCtorEq, Int.reduceToNat, Int.reduceLE, Int.reduceLT, Int.reduceBEq, Int.reduceBNe, mCall, hA, hF, hp, hq, cells_enc, cel3, hem, hea, k1, k2, k3]
      · skip
        cases k4 : decide (n < 0)
        rotate_left
        · simp -implicitDefEqProofs (disch := decide +kernel) only [go_sem, ↓reduceIte, Nat.reduceSub, Nat.reduceAdd, Nat.reduceMul, Nat.reduceBEq, Nat.reduceLT, Nat.reduceLeDiff, Nat.reduceEqDiff, reduceCtorEq, Int.reduceToNat, Int.reduceLE, Int.reduceLT, Int.reduceBEq, Int.reduceBNe, mCall, hA, hF, hp, hq, cells_enc, cel3, hem, hea, k1, k2, k3, k4]
        cases k5 : decide (n > (cx.length : Int))
        rotate_left
        · simp -implicitDefEqProofs (disch := decide +kernel) only [go_sem, ↓reduceIte, Nat.reduceSub, Nat.reduceAdd, Nat.reduceMul, Nat.reduceBEq, Nat.reduceLT, Nat.reduceLeDiff, Nat.reduceEqDiff, reduceCtorEq, Int.reduceToNat, Int.reduceLE, Int.reduceLT, Int.reduceBEq, Int.reduceBNe, mCall, hA, hF, hp, hq, cells_enc, cel3, hem, hea, k1, k2, k3, k4, k5]
        have hin := few_in hw k1
        obtain ⟨b, ⟨h1, c1⟩, hb⟩ := tscopedV_spec m n ms.length zm (light_vle k2)
        cases b
        · have k4' : ¬ n < 0 := by simpa using k4
          have k5' : ¬ n > (cx.length : Int) := by simpa using k5
          have hcl := hw.cl
          have hcl : cx.length < room := hcl
          have hw1 : IntKind.wrap .i64 ((cx.length : Int) - n) = (cx.length : Int) - n := wrap_ok (by omega) (by omega)
          have hi0 : 0 ≤ (cx.length : Int) - n := by omega
          have hi1 : ((cx.length : Int) - n).toNat ≤ cx.length := by omega
          have hin2 := hin.sub (c := cx.drop ((cx.length : Int) - n).toNat) (fun x hx => List.mem_of_mem_drop hx) (by simp; omega)
          obtain ⟨h2, c2⟩ := cTerm_spec hin2 m a zm (light_vle k2) za (light_vle k3)
          have c2 : (lim C).call 38 [dDs sg, dMs ms, dL (cx.drop ((cx.length : Int) - n).toNat), dT m, dT a] [] = some (.ret (dI (TermR (Wo.wd ⟨sg, ms, cx⟩) (cx.drop ((cx.length : Int) - n).toNat) m a)), h2) := c2
          have hne : (TermR (Wo.wd ⟨sg, ms, cx⟩) (cx.drop ((cx.length : Int) - n).toNat) m a != 0) = true := by
            rw [bne_iff_ne]
            intro h0
            obtain ⟨e1, e2⟩ := TermR_ok h0
            have hmm := (may_parts (mayW_of e1 m (by simp))).1
            have hsc := term_scoped _ m a _ hmm e2
            have hln : ((cx.drop ((cx.length : Int) - n).toNat).length : Int) = n := by simp; omega
            rw [hln] at hsc
            have := hb hmm
            have hml : (Wo.wd ⟨sg, ms, cx⟩).metas.length = ms.length := rfl
            rw [hml] at hsc
            rw [hsc] at this
            cases this
          have hd : encs (cx.drop ((cx.length : Int) - n).toNat) = (encs cx).drop ((cx.length : Int) - n).toNat := encs_drop _ _
          have htk : (encs cx).take cx.length = encs cx := by rw [← encs_length, List.take_length]
          rw [show dL (cx.drop ((cx.length : Int) - n).toNat) = AV.d (.slc ((encs cx).drop ((cx.length : Int) - n).toNat)) from congrArg (fun z => AV.d (.slc z)) hd] at c2
          simp -implicitDefEqProofs (disch := decide +kernel) only [go_sem, ↓reduceIte, Nat.reduceSub, Nat.reduceAdd, Nat.reduceMul, Nat.reduceBEq, Nat.reduceLT, Nat.reduceLeDiff, Nat.reduceEqDiff, reduceCtorEq, Int.reduceToNat, Int.reduceLE, Int.reduceLT, Int.reduceBEq, Int.reduceBNe, mCall, hA, hF, hp, hq, cells_enc, cel3, hem, hea, k1, k2, k3, k4, k5, c1, hw1, hi0, hi1, htk, encs_all, Nat.le_refl, c2, hne]
        · simp -implicitDefEqProofs (disch := decide +kernel) only [go_sem, ↓reduceIte, Nat.reduceSub, Nat.reduceAdd, Nat.reduceMul, Nat.reduceBEq, Nat.reduceLT, Nat.reduceLeDiff, Nat.reduceEqDiff, reduceCtorEq, Int.reduceToNat, Int.reduceLE, Int.reduceLT, Int.reduceBEq, Int.reduceBNe, mCall, hA, hF, hp, hq, cells_enc, cel3, hem, hea, k1, k2, k3, k4, k5, c1]
set_option maxHeartbeats 4000000 in
theorem checkOne_holds (sg : List Dc) (wsg : ∀ t ∈ sg, Wf t.t) (hsg : dsum sg + 1 ≤ 1048576) (ms : List Md) (wms : ∀ t ∈ ms, WfM t) (hms : msum ms + 1 ≤ 1048576) (cx : List Tm) (wcx : ∀ t ∈ cx, Wf t) (hcx : (cx.map Tm.size).sum + 1 ≤ 1048576)
    (m : Tm) (wm : Wf m) (hm : m.size ≤ 1048576) (a : Tm) (wa : Wf a) (ha : a.size ≤ 1048576) (b : Tm) (wb : Wf b) (hb : b.size ≤ 1048576) : ∃ h, (lim C).call 12 [dDs sg, dMs ms, dL cx, dT m, dT a, dT b] [] = some (.ret (dB true), h) := by
  have hr : room = 1099511627776 := rfl
  have hA := awake10_spec
  have hw := wsz_of hsg hms hcx
  have hF := fewW_spec ⟨sg, ms, cx⟩ hw
  have hF : (lim C).call 37 [dDs sg, dMs ms, dL cx] [] = _ := hF
  have zm := size_room hm
  have za := size_room ha
  have zb := size_room hb
  have hp := light_spec m 500 80 zm
  have hq := light_spec a 500 80 za
  have hs := light_spec b 500 80 zb
  have hem := (enc_eq m).symm
  have hea := (enc_eq a).symm
  have heb := (enc_eq b).symm
  refine ⟨[], ?_⟩
  rw [ev_fn 12 Try.f12 _ _ _ rfl Try.func12 rfl Try.ntmps12 rfl]
  cases k1 : fewW ⟨sg, ms, cx⟩
  · simp -implicitDefEqProofs (disch := decide +kernel) only [go_sem, ↓reduceIte, Nat.reduceSub, Nat.reduceAdd, Nat.reduceMul, Nat.reduceBEq, Nat.reduceLT, Nat.reduceLeDiff, Nat.reduceEqDiff, reduceCtorEq, Int.reduceToNat, Int.reduceLE, Int.reduceLT, Int.reduceBEq, Int.reduceBNe, mCall, hA, hF, hp, hq, hs, cells_enc, cel3, hem, hea, heb, k1]
  · skip
    cases k2 : lightB m 500 80
    · simp -implicitDefEqProofs (disch := decide +kernel) only [go_sem, ↓reduceIte, Nat.reduceSub, Nat.reduceAdd, Nat.reduceMul, Nat.reduceBEq, Nat.reduceLT, Nat.reduceLeDiff, Nat.reduceEqDiff, reduceCtorEq, Int.reduceToNat, Int.reduceLE, Int.reduceLT, Int.reduceBEq, Int.reduceBNe, mCall, hA, hF, hp, hq, hs, cells_enc, cel3, hem, hea, heb, k1, k2]
    · skip
      cases k3 : lightB a 500 80
      · simp -implicitDefEqProofs (disch := decide +kernel) only [go_sem, ↓reduceIte, Nat.reduceSub, Nat.reduceAdd, Nat.reduceMul, Nat.reduceBEq, Nat.reduceLT, Nat.reduceLeDiff, Nat.reduceEqDiff, reduceCtorEq, Int.reduceToNat, Int.reduceLE, Int.reduceLT, Int.reduceBEq, Int.reduceBNe, mCall, hA, hF, hp, hq, hs, cells_enc, cel3, hem, hea, heb, k1, k2, k3]
      · skip
        cases k4 : lightB b 500 80
        · simp -implicitDefEqProofs (disch := decide +kernel) only [go_sem, ↓reduceIte, Nat.reduceSub, Nat.reduceAdd, Nat.reduceMul, Nat.reduceBEq, Nat.reduceLT, Nat.reduceLeDiff, Nat.reduceEqDiff, reduceCtorEq, Int.reduceToNat, Int.reduceLE, Int.reduceLT, Int.reduceBEq, Int.reduceBNe, mCall, hA, hF, hp, hq, hs, cells_enc, cel3, hem, hea, heb, k1, k2, k3, k4]
        · skip
          have hin := few_in hw k1
          obtain ⟨h1, c1⟩ := cTerm_spec hin m a zm (light_vle k2) za (light_vle k3)
          have c1 : (lim C).call 38 [dDs sg, dMs ms, dL cx, dT m, dT a] [] = some (.ret (dI (TermR (Wo.wd ⟨sg, ms, cx⟩) cx m a)), h1) := c1
          by_cases h0 : TermR (Wo.wd ⟨sg, ms, cx⟩) cx m a = 0
          · obtain ⟨e1, e2⟩ := TermR_ok h0
            rw [h0] at c1
            have hmm := (may_parts (mayW_of e1 m (by simp))).1
            have hsc := term_scoped _ m a _ hmm e2
            have hml : (Wo.wd ⟨sg, ms, cx⟩).metas.length = ms.length := rfl
            rw [hml] at hsc
            obtain ⟨bb, ⟨h2, c2⟩, hbb⟩ := tscopedV_spec m cx.length ms.length zm (light_vle k2)
            obtain rfl := (hbb hmm).trans hsc
            have h00 : ((0 : Int) != 0) = false := rfl
            cases k5 : (a.kind == 2)
            · simp -implicitDefEqProofs (disch := decide +kernel) only [go_sem, ↓reduceIte, Nat.reduceSub, Nat.reduceAdd, Nat.reduceMul, Nat.reduceBEq, Nat.reduceLT, Nat.reduceLeDiff, Nat.reduceEqDiff, reduceCtorEq, Int.reduceToNat, Int.reduceLE, Int.reduceLT, Int.reduceBEq, Int.reduceBNe, mCall, hA, hF, hp, hq, hs, cells_enc, cel3, hem, hea, heb, k1, k2, k3, k4, c1, c2, h00, k5]
            · cases k6 : (b.kind == 2)
              · simp -implicitDefEqProofs (disch := decide +kernel) only [go_sem, ↓reduceIte, Nat.reduceSub, Nat.reduceAdd, Nat.reduceMul, Nat.reduceBEq, Nat.reduceLT, Nat.reduceLeDiff, Nat.reduceEqDiff, reduceCtorEq, Int.reduceToNat, Int.reduceLE, Int.reduceLT, Int.reduceBEq, Int.reduceBNe, mCall, hA, hF, hp, hq, hs, cells_enc, cel3, hem, hea, heb, k1, k2, k3, k4, c1, c2, h00, k5, k6]
              · obtain ⟨h3, c3⟩ := cTerm_spec hin m b zm (light_vle k2) zb (light_vle k4)
                have c3 : (lim C).call 38 [dDs sg, dMs ms, dL cx, dT m, dT b] [] = some (.ret (dI (TermR (Wo.wd ⟨sg, ms, cx⟩) cx m b)), h3) := c3
                by_cases h4 : TermR (Wo.wd ⟨sg, ms, cx⟩) cx m b = 0
                · obtain ⟨e3, e4⟩ := TermR_ok h4
                  rw [h4] at c3
                  obtain rfl := term_one (by simpa using k5) (by simpa using k6) e2 e4
                  have hsm := tsame_spec a za a
                  rw [sameB_refl] at hsm
                  have h01 : ((0 : Int) == 0) = true := rfl
                  simp -implicitDefEqProofs (disch := decide +kernel) only [go_sem, ↓reduceIte, Nat.reduceSub, Nat.reduceAdd, Nat.reduceMul, Nat.reduceBEq, Nat.reduceLT, Nat.reduceLeDiff, Nat.reduceEqDiff, reduceCtorEq, Int.reduceToNat, Int.reduceLE, Int.reduceLT, Int.reduceBEq, Int.reduceBNe, mCall, hA, hF, hp, hq, hs, cells_enc, cel3, hem, hea, heb, k1, k2, k3, k4, c1, c2, c3, h00, h01, k5, k6, hsm]
                · have h4' : (TermR (Wo.wd ⟨sg, ms, cx⟩) cx m b == 0) = false := by simpa using h4
                  simp -implicitDefEqProofs (disch := decide +kernel) only [go_sem, ↓reduceIte, Nat.reduceSub, Nat.reduceAdd, Nat.reduceMul, Nat.reduceBEq, Nat.reduceLT, Nat.reduceLeDiff, Nat.reduceEqDiff, reduceCtorEq, Int.reduceToNat, Int.reduceLE, Int.reduceLT, Int.reduceBEq, Int.reduceBNe, mCall, hA, hF, hp, hq, hs, cells_enc, cel3, hem, hea, heb, k1, k2, k3, k4, c1, c2, c3, h00, h4', k5, k6]
          · have h0' : (TermR (Wo.wd ⟨sg, ms, cx⟩) cx m a != 0) = true := by simpa using h0
            simp -implicitDefEqProofs (disch := decide +kernel) only [go_sem, ↓reduceIte, Nat.reduceSub, Nat.reduceAdd, Nat.reduceMul, Nat.reduceBEq, Nat.reduceLT, Nat.reduceLeDiff, Nat.reduceEqDiff, reduceCtorEq, Int.reduceToNat, Int.reduceLE, Int.reduceLT, Int.reduceBEq, Int.reduceBNe, mCall, hA, hF, hp, hq, hs, cells_enc, cel3, hem, hea, heb, k1, k2, k3, k4, c1, h0']
end Go.Proofs.Ytmemmdfjlhamfaa
/- Laws of layer 10: CheckLam, CheckPi. -/
set_option linter.unusedSimpArgs false
set_option linter.unusedVariables false
set_option maxRecDepth 100000
namespace Go.Proofs.Ytmemmdfjlhamfaa
open Go.Proofs
theorem WIn.cons {K : Int} {w : Wo} (h : WIn K w) {c : List Tm} (hs : ∀ x ∈ c, x.size < room ∧ vleB K x = true) (hl : c.length < room) : WIn K ⟨w.sig, w.metas, c⟩ :=
  ⟨⟨hl, fun x hx => (hs x hx).1, h.sz.sl, h.sz.sz, h.sz.ml, h.sz.mz⟩, h.h0, h.top, fun x hx => (hs x hx).2, h.sig, h.metas⟩
theorem light_parts {t : Tm} {s d : Int} (h : lightB t s d = true) : (t.size : Int) ≤ s ∧ (t.depth : Int) ≤ d := light_size h
def piOf (a b : Tm) : Tm := .mk 1 0 [a, b]
def lamOf (m : Tm) : Tm := .mk 3 0 [m]
theorem lam_may {m : Tm} (h : mayB m = true) (h1 : m.size ≤ 3999) (h2 : m.depth ≤ 59) : mayB (lamOf m) = true :=
  small_may rfl (by simpa using h) (by simp [mk_size]; omega) (by simp [mk_depth]; omega)
theorem pi_may {a b : Tm} (ha : mayB a = true) (hb : mayB b = true) (h1 : a.size + b.size ≤ 3999) (h2 : a.depth ≤ 59) (h3 : b.depth ≤ 59) : mayB (piOf a b) = true :=
  small_may rfl (by simp [ha, hb]) (by simp [mk_size]; omega) (by simp [mk_depth]; omega)
theorem mayW_list {w : Wd} {c : List Tm} {l l' : List Tm} (h1 : ∀ x ∈ l, mayB x = true) (h2 : ∀ x ∈ l', mayB x = true) : mayW w c l = mayW w c l' := by
  unfold mayW
  rw [maysB_iff.2 h1, maysB_iff.2 h2]
theorem maysB_append {a b : List Tm} : maysB (a ++ b) = (maysB a && maysB b) := by
  rw [Bool.eq_iff_iff, Bool.and_eq_true, maysB_iff, maysB_iff, maysB_iff]
  simp only [List.mem_append]
  exact ⟨fun h => ⟨fun x hx => h x (.inl hx), fun x hx => h x (.inr hx)⟩, fun h x hx => hx.elim (h.1 x) (h.2 x)⟩
theorem mayW_more {w : Wd} {c : List Tm} {l : List Tm} {a : Tm} (hc : c.length ≤ 900) (ha : mayB a = true) : mayW w (c ++ [a]) l = mayW w c l := by
  unfold mayW
  have h1 : decide (((c ++ [a]).length : Int) > 1000) = false := by simp; omega
  have h2 : decide ((c.length : Int) > 1000) = false := by simp; omega
  have h3 : maysB [a] = true := maysB_iff.2 (by simpa using ha)
  rw [h1, h2, maysB_append, h3, Bool.and_true]
theorem TermR_ok' {w : Wd} {c : List Tm} {m a : Tm} (h : TermR w c m a = 0) : termW w m a c = 0 := by
  unfold TermR at h
  cases hm : mayW w c [m, a]
  · rw [hm] at h; cases h
  · rw [hm] at h; exact h
theorem TypR_ok {w : Wd} {c : List Tm} {a : Tm} (h : TypR w c a = 0) : mayW w c [a] = true ∧ typW w a c = 0 := by
  unfold TypR at h
  cases hm : mayW w c [a]
  · rw [hm] at h; cases h
  · rw [hm] at h; exact ⟨rfl, h⟩
theorem KindR_ok {w : Wd} {c : List Tm} {a : Tm} (h : KindR w c a = 0) : mayW w c [a] = true ∧ kindW w a c = 0 := by
  unfold KindR at h
  cases hm : mayW w c [a]
  · rw [hm] at h; cases h
  · rw [hm] at h; exact ⟨rfl, h⟩
theorem app2 (l : List Tm) (a : Tm) (hl : l.length < room) (locs : List (Option (List AV))) (heap : List HO) :
    mApp (.clip []) (encs l) 3 { locs := locs, heap := heap, toks := [] } = some (.v (.own 0 (encs l)), { locs := locs, heap := heap, toks := [some l.length] }) ∧
    mApp (.own 0 (encs l)) [enc a] 3 { locs := locs, heap := heap, toks := [some l.length] } = some (.v (.own 0 (encs (l ++ [a]))), { locs := locs, heap := heap, toks := [some (l.length + 1)] }) := by
  have ha1 := app_first (encs l) 3 locs heap (by rw [encs_length]; omega) (encs_all _)
  have ha2 := app_more (encs l) [enc a] 3 (by simp) locs heap (by rw [encs_length]; simp; omega) (encs_all _) (by simp [enc_width])
  have hz : encs l ++ [enc a] = encs (l ++ [a]) := by rw [encs_append]; rfl
  simp only [encs_length, hz] at ha1 ha2
  exact ⟨ha1, ha2⟩
set_option maxHeartbeats 4000000 in
theorem checkLam_holds (sg : List Dc) (wsg : ∀ t ∈ sg, Wf t.t) (hsg : dsum sg + 1 ≤ 1048576) (cx : List Tm) (wcx : ∀ t ∈ cx, Wf t) (hcx : (cx.map Tm.size).sum + 1 ≤ 1048576)
    (m : Tm) (wm : Wf m) (hm : m.size ≤ 1048576) (a : Tm) (wa : Wf a) (ha : a.size ≤ 1048576) (b : Tm) (wb : Wf b) (hb : b.size ≤ 1048576) : ∃ h, (lim C).call 10 [dDs sg, dL cx, dT m, dT a, dT b] [] = some (.ret (dB true), h) := by
  have hr : room = 1099511627776 := rfl
  have hA := awake10_spec
  have hw := wsz_of (ms := []) hsg (by simp [msum]) hcx
  have hF := fewW_spec ⟨sg, [], cx⟩ hw
  have hF : (lim C).call 37 [dDs sg, .d (.slc []), dL cx] [] = _ := hF
  have zm := size_room hm
  have za := size_room ha
  have zb := size_room hb
  have hp := light_spec m 400 55 zm
  have hq := light_spec a 400 55 za
  have hs := light_spec b 400 55 zb
  have hem := (enc_eq m).symm
  have hea := (enc_eq a).symm
  have heb := (enc_eq b).symm
  have hma := tMay_spec a za
  have hmb := tMay_spec b zb
  have hmm := tMay_spec m zm
  refine ⟨[], ?_⟩
  rw [ev_fn 10 Try.f10 _ _ _ rfl Try.func10 rfl Try.ntmps10 rfl]
  cases k1 : fewW ⟨sg, [], cx⟩
  · simp -implicitDefEqProofs (disch := decide +kernel) only [go_sem, ↓reduceIte, Nat.reduceSub, Nat.reduceAdd, Nat.reduceMul, Nat.reduceBEq, Nat.reduceLT, Nat.reduceLeDiff, Nat.reduceEqDiff, reduceCtorEq, Int.reduceToNat, Int.reduceLE, Int.reduceLT, Int.reduceBEq, Int.reduceBNe, mCall, hA, hF, hp, hq, hs, hma, hmb, hmm, cells_enc, cel3, hem, hea, heb, k1]
  · skip
    cases k2 : lightB m 400 55
    · simp -implicitDefEqProofs (disch := decide +kernel) only [go_sem, ↓reduceIte, Nat.reduceSub, Nat.reduceAdd, Nat.reduceMul, Nat.reduceBEq, Nat.reduceLT, Nat.reduceLeDiff, Nat.reduceEqDiff, reduceCtorEq, Int.reduceToNat, Int.reduceLE, Int.reduceLT, Int.reduceBEq, Int.reduceBNe, mCall, hA, hF, hp, hq, hs, hma, hmb, hmm, cells_enc, cel3, hem, hea, heb, k1, k2]
    · skip
      cases k3 : lightB a 400 55
      · simp -implicitDefEqProofs (disch := decide +kernel) only [go_sem, ↓reduceIte, Nat.reduceSub, Nat.reduceAdd, Nat.reduceMul, Nat.reduceBEq, Nat.reduceLT, Nat.reduceLeDiff, Nat.reduceEqDiff, reduceCtorEq, Int.reduceToNat, Int.reduceLE, Int.reduceLT, Int.reduceBEq, Int.reduceBNe, mCall, hA, hF, hp, hq, hs, hma, hmb, hmm, cells_enc, cel3, hem, hea, heb, k1, k2, k3]
      · skip
        cases k4 : lightB b 400 55
        · simp -implicitDefEqProofs (disch := decide +kernel) only [go_sem, ↓reduceIte, Nat.reduceSub, Nat.reduceAdd, Nat.reduceMul, Nat.reduceBEq, Nat.reduceLT, Nat.reduceLeDiff, Nat.reduceEqDiff, reduceCtorEq, Int.reduceToNat, Int.reduceLE, Int.reduceLT, Int.reduceBEq, Int.reduceBNe, mCall, hA, hF, hp, hq, hs, hma, hmb, hmm, cells_enc, cel3, hem, hea, heb, k1, k2, k3, k4]
        · skip
          cases k5 : mayB a
          · simp -implicitDefEqProofs (disch := decide +kernel) only [go_sem, ↓reduceIte, Nat.reduceSub, Nat.reduceAdd, Nat.reduceMul, Nat.reduceBEq, Nat.reduceLT, Nat.reduceLeDiff, Nat.reduceEqDiff, reduceCtorEq, Int.reduceToNat, Int.reduceLE, Int.reduceLT, Int.reduceBEq, Int.reduceBNe, mCall, hA, hF, hp, hq, hs, hma, hmb, hmm, cells_enc, cel3, hem, hea, heb, k1, k2, k3, k4, k5]
          · skip
            cases k6 : mayB b
            · simp -implicitDefEqProofs (disch := decide +kernel) only [go_sem, ↓reduceIte, Nat.reduceSub, Nat.reduceAdd, Nat.reduceMul, Nat.reduceBEq, Nat.reduceLT, Nat.reduceLeDiff, Nat.reduceEqDiff, reduceCtorEq, Int.reduceToNat, Int.reduceLE, Int.reduceLT, Int.reduceBEq, Int.reduceBNe, mCall, hA, hF, hp, hq, hs, hma, hmb, hmm, cells_enc, cel3, hem, hea, heb, k1, k2, k3, k4, k5, k6]
            · skip
              cases k7 : mayB m
              · simp -implicitDefEqProofs (disch := decide +kernel) only [go_sem, ↓reduceIte, Nat.reduceSub, Nat.reduceAdd, Nat.reduceMul, Nat.reduceBEq, Nat.reduceLT, Nat.reduceLeDiff, Nat.reduceEqDiff, reduceCtorEq, Int.reduceToNat, Int.reduceLE, Int.reduceLT, Int.reduceBEq, Int.reduceBNe, mCall, hA, hF, hp, hq, hs, hma, hmb, hmm, cells_enc, cel3, hem, hea, heb, k1, k2, k3, k4, k5, k6, k7]
              · skip
                have hin := few_in hw k1
                obtain ⟨_, _, hcl, _⟩ := fewW_parts k1
                have hcl : cx.length ≤ 60 := hcl
                have lm := light_parts k2
                have la := light_parts k3
                have lb := light_parts k4
                have vm := light_vle k2
                have va := light_vle k3
                have vb := light_vle k4
                have ml : mayB (lamOf m) = true := lam_may k7 (by omega) (by omega)
                have mp : mayB (piOf a b) = true := pi_may k5 k6 (by omega) (by omega) (by omega)
                have vl : vleB lowK (lamOf m) = true := vle_mk (fun e => by cases e) (by simpa using vm)
                have vp : vleB lowK (piOf a b) = true := vle_mk (fun e => by cases e) (by simp [va, vb])
                have hin2 := hin.cons (c := cx ++ [a]) (fun x hx => by
                  rcases List.mem_append.1 hx with hx | hx
                  · exact ⟨hw.cz x hx, hin.ctx x hx⟩
                  · obtain rfl : x = a := by simpa using hx
                    exact ⟨za, va⟩) (by simp; omega)
                obtain ⟨h1, c1⟩ := cTerm_spec hin (lamOf m) (piOf a b) (may_room ml) vl (may_room mp) vp
                obtain ⟨h2, c2⟩ := cTerm_spec hin2 m b zm vm zb vb
                obtain ⟨h3, c3⟩ := cTerm_spec hin (lamOf m) a (may_room ml) vl za va
                have c1 : (lim C).call 38 [dDs sg, .d (.slc []), dL cx, dT (lamOf m), dT (piOf a b)] [] = some (.ret (dI (TermR (Wo.wd ⟨sg, [], cx⟩) cx (lamOf m) (piOf a b))), h1) := c1
                have c2 : (lim C).call 38 [dDs sg, .d (.slc []), dL (cx ++ [a]), dT m, dT b] [] = some (.ret (dI (TermR (Wo.wd ⟨sg, [], cx⟩) (cx ++ [a]) m b)), h2) := c2
                have c3 : (lim C).call 38 [dDs sg, .d (.slc []), dL cx, dT (lamOf m), dT a] [] = some (.ret (dI (TermR (Wo.wd ⟨sg, [], cx⟩) cx (lamOf m) a)), h3) := c3
                have heq : TermR (Wo.wd ⟨sg, [], cx⟩) cx (lamOf m) (piOf a b) = TermR (Wo.wd ⟨sg, [], cx⟩) (cx ++ [a]) m b := by
                  unfold TermR
                  rw [mayW_more (by omega) k5, mayW_list (l := [lamOf m, piOf a b]) (l' := [m, b]) (by simp [ml, mp]) (by simp [k6, k7])]
                  cases mayW (Wo.wd ⟨sg, [], cx⟩) cx [m, b]
                  · rfl
                  · rw [if_pos rfl, if_pos rfl, term_lam rfl, if_pos (show (piOf a b).kind = 1 from rfl), argW_lt (by simp [lamOf, mk_args])]
                    rfl
                have hk : (TermR (Wo.wd ⟨sg, [], cx⟩) cx (lamOf m) a != 0) = true ∨ (a.kind == 1) = true := by
                  by_cases ha1 : a.kind = 1
                  · exact .inr (by simpa using ha1)
                  · refine .inl ?_
                    rw [bne_iff_ne]
                    intro h0
                    have := (TermR_ok' h0)
                    rw [term_lam rfl, if_neg ha1] at this
                    cases this
                rw [heq] at c1
                generalize TermR (Wo.wd ⟨sg, [], cx⟩) (cx ++ [a]) m b = r at c1 c2
                generalize TermR (Wo.wd ⟨sg, [], cx⟩) cx (lamOf m) a = r' at c3 hk
                have hrr : (r == r) = true := by simp
                have ha1 := fun locs heap => (app2 cx a (by omega) locs heap).1
                have ha2 := fun locs heap => (app2 cx a (by omega) locs heap).2
                have f1 : Dv.agg [.int .i64 3, .int .i64 0, .slc [enc m]] = enc (lamOf m) := tmc 3 0 [m] rfl
                have f2 : Dv.agg [.int .i64 1, .int .i64 0, .slc [enc a, enc b]] = enc (piOf a b) := tmc 1 0 [a, b] rfl
                cases k8 : (r' != 0)
                · have k9 := hk.resolve_left (by rw [k8]; decide)
                  simp -implicitDefEqProofs (disch := decide +kernel) only [go_sem, ↓reduceIte, Nat.reduceSub, Nat.reduceAdd, Nat.reduceMul, Nat.reduceBEq, Nat.reduceLT, Nat.reduceLeDiff, Nat.reduceEqDiff, reduceCtorEq, Int.reduceToNat, Int.reduceLE, Int.reduceLT, Int.reduceBEq, Int.reduceBNe, mCall, hA, hF, hp, hq, hs, hma, hmb, hmm, cells_enc, cel3, hem, hea, heb, k1, k2, k3, k4, k5, k6, k7, f1, f2, ha1, ha2, c1, c2, c3, hrr, k8, k9, (enc_eq (lamOf m)).symm, (enc_eq (piOf a b)).symm]
                · simp -implicitDefEqProofs (disch := decide +kernel) only [go_sem, ↓reduceIte, Nat.reduceSub, Nat.reduceAdd, Nat.reduceMul, Nat.reduceBEq, Nat.reduceLT, Nat.reduceLeDiff, Nat.reduceEqDiff, reduceCtorEq, Int.reduceToNat, Int.reduceLE, Int.reduceLT, Int.reduceBEq, Int.reduceBNe, mCall, hA, hF, hp, hq, hs, hma, hmb, hmm, cells_enc, cel3, hem, hea, heb, k1, k2, k3, k4, k5, k6, k7, f1, f2, ha1, ha2, c1, c2, c3, hrr, k8, (enc_eq (lamOf m)).symm, (enc_eq (piOf a b)).symm]
set_option maxHeartbeats 4000000 in
theorem checkPi_holds (sg : List Dc) (wsg : ∀ t ∈ sg, Wf t.t) (hsg : dsum sg + 1 ≤ 1048576) (cx : List Tm) (wcx : ∀ t ∈ cx, Wf t) (hcx : (cx.map Tm.size).sum + 1 ≤ 1048576)
    (a : Tm) (wa : Wf a) (ha : a.size ≤ 1048576) (b : Tm) (wb : Wf b) (hb : b.size ≤ 1048576) : ∃ h, (lim C).call 17 [dDs sg, dL cx, dT a, dT b] [] = some (.ret (dB true), h) := by
  have hr : room = 1099511627776 := rfl
  have hA := awake10_spec
  have hw := wsz_of (ms := []) hsg (by simp [msum]) hcx
  have hF := fewW_spec ⟨sg, [], cx⟩ hw
  have hF : (lim C).call 37 [dDs sg, .d (.slc []), dL cx] [] = _ := hF
  have za := size_room ha
  have zb := size_room hb
  have hq := light_spec a 400 55 za
  have hs := light_spec b 400 55 zb
  have hea := (enc_eq a).symm
  have heb := (enc_eq b).symm
  have hma := tMay_spec a za
  have hmb := tMay_spec b zb
  refine ⟨[], ?_⟩
  rw [ev_fn 17 Try.f17 _ _ _ rfl Try.func17 rfl Try.ntmps17 rfl]
  cases k1 : fewW ⟨sg, [], cx⟩
  · simp -implicitDefEqProofs (disch := decide +kernel) only [go_sem, ↓reduceIte, Nat.reduceSub, Nat.reduceAdd, Nat.reduceMul, Nat.reduceBEq, Nat.reduceLT, Nat.reduceLeDiff, Nat.reduceEqDiff, reduceCtorEq, Int.reduceToNat, Int.reduceLE, Int.reduceLT, Int.reduceBEq, Int.reduceBNe, mCall, hA, hF, hq, hs, hma, hmb, cells_enc, cel3, hea, heb, k1]
  · skip
    cases k3 : lightB a 400 55
    · simp -implicitDefEqProofs (disch := decide +kernel) only [go_sem, ↓reduceIte, Nat.reduceSub, Nat.reduceAdd, Nat.reduceMul, Nat.reduceBEq, Nat.reduceLT, Nat.reduceLeDiff, Nat.reduceEqDiff, reduceCtorEq, Int.reduceToNat, Int.reduceLE, Int.reduceLT, Int.reduceBEq, Int.reduceBNe, mCall, hA, hF, hq, hs, hma, hmb, cells_enc, cel3, hea, heb, k1, k3]
    · skip
      cases k4 : lightB b 400 55
      · simp -implicitDefEqProofs (disch := decide +kernel) only [go_sem, ↓reduceIte, Nat.reduceSub, Nat.reduceAdd, Nat.reduceMul, Nat.reduceBEq, Nat.reduceLT, Nat.reduceLeDiff, Nat.reduceEqDiff, reduceCtorEq, Int.reduceToNat, Int.reduceLE, Int.reduceLT, Int.reduceBEq, Int.reduceBNe, mCall, hA, hF, hq, hs, hma, hmb, cells_enc, cel3, hea, heb, k1, k3, k4]
      · skip
        cases k5 : mayB a
        · simp -implicitDefEqProofs (disch := decide +kernel) only [go_sem, ↓reduceIte, Nat.reduceSub, Nat.reduceAdd, Nat.reduceMul, Nat.reduceBEq, Nat.reduceLT, Nat.reduceLeDiff, Nat.reduceEqDiff, reduceCtorEq, Int.reduceToNat, Int.reduceLE, Int.reduceLT, Int.reduceBEq, Int.reduceBNe, mCall, hA, hF, hq, hs, hma, hmb, cells_enc, cel3, hea, heb, k1, k3, k4, k5]
        · skip
          cases k6 : mayB b
          · simp -implicitDefEqProofs (disch := decide +kernel) only [go_sem, ↓reduceIte, Nat.reduceSub, Nat.reduceAdd, Nat.reduceMul, Nat.reduceBEq, Nat.reduceLT, Nat.reduceLeDiff, Nat.reduceEqDiff, reduceCtorEq, Int.reduceToNat, Int.reduceLE, Int.reduceLT, Int.reduceBEq, Int.reduceBNe, mCall, hA, hF, hq, hs, hma, hmb, cells_enc, cel3, hea, heb, k1, k3, k4, k5, k6]
          · skip
            have hin := few_in hw k1
            obtain ⟨_, _, hcl, _⟩ := fewW_parts k1
            have hcl : cx.length ≤ 60 := hcl
            have la := light_parts k3
            have lb := light_parts k4
            have va := light_vle k3
            have vb := light_vle k4
            have mp : mayB (piOf a b) = true := pi_may k5 k6 (by omega) (by omega) (by omega)
            have vp : vleB lowK (piOf a b) = true := vle_mk (fun e => by cases e) (by simp [va, vb])
            have hin2 := hin.cons (c := cx ++ [a]) (fun x hx => by
              rcases List.mem_append.1 hx with hx | hx
              · exact ⟨hw.cz x hx, hin.ctx x hx⟩
              · obtain rfl : x = a := by simpa using hx
                exact ⟨za, va⟩) (by simp; omega)
            obtain ⟨h1, c1⟩ := cType_spec hin (piOf a b) (may_room mp) vp
            obtain ⟨h2, c2⟩ := cType_spec hin2 b zb vb
            obtain ⟨h3, c3⟩ := cType_spec hin a za va
            obtain ⟨h4, c4⟩ := cKind_spec hin a za va
            have c1 : (lim C).call 40 [dDs sg, .d (.slc []), dL cx, dT (piOf a b)] [] = some (.ret (dI (TypR (Wo.wd ⟨sg, [], cx⟩) cx (piOf a b))), h1) := c1
            have c2 : (lim C).call 40 [dDs sg, .d (.slc []), dL (cx ++ [a]), dT b] [] = some (.ret (dI (TypR (Wo.wd ⟨sg, [], cx⟩) (cx ++ [a]) b)), h2) := c2
            have c3 : (lim C).call 40 [dDs sg, .d (.slc []), dL cx, dT a] [] = some (.ret (dI (TypR (Wo.wd ⟨sg, [], cx⟩) cx a)), h3) := c3
            have c4 : (lim C).call 42 [dDs sg, .d (.slc []), dL cx, dT a] [] = some (.ret (dI (KindR (Wo.wd ⟨sg, [], cx⟩) cx a)), h4) := c4
            have heq : (TypR (Wo.wd ⟨sg, [], cx⟩) cx (piOf a b) == 0) = ((TypR (Wo.wd ⟨sg, [], cx⟩) cx a == 0) && (TypR (Wo.wd ⟨sg, [], cx⟩) (cx ++ [a]) b == 0)) := by
              unfold TypR
              rw [mayW_more (by omega) k5, mayW_list (l := [piOf a b]) (l' := [a]) (by simp [mp]) (by simp [k5]), mayW_list (l := [b]) (l' := [a]) (by simp [k6]) (by simp [k5])]
              cases mayW (Wo.wd ⟨sg, [], cx⟩) cx [a]
              · rfl
              · rw [if_pos rfl, if_pos rfl, if_pos rfl, typW_pi _ rfl (by simp [piOf, mk_args])]
                show ((if typW _ a cx ≠ 0 then typW _ a cx else typW _ b (cx ++ [a])) == 0) = _
                by_cases h0 : typW (Wo.wd ⟨sg, [], cx⟩) a cx = 0
                · rw [if_neg (by simpa using h0), h0]; rfl
                · rw [if_pos h0]
                  have : (typW (Wo.wd ⟨sg, [], cx⟩) a cx == 0) = false := by simpa using h0
                  rw [this]; rfl
            have hk : (TypR (Wo.wd ⟨sg, [], cx⟩) cx a != 0) = true ∨ (KindR (Wo.wd ⟨sg, [], cx⟩) cx a != 0) = true := by
              by_cases h0 : TypR (Wo.wd ⟨sg, [], cx⟩) cx a = 0
              · refine .inr ?_
                rw [bne_iff_ne]
                intro h1
                exact typ_kind _ a cx (may_parts k5).1 (TypR_ok h0).2 (KindR_ok h1).2
              · exact .inl (by simpa using h0)
            generalize TypR (Wo.wd ⟨sg, [], cx⟩) cx (piOf a b) = r1 at c1 heq
            generalize TypR (Wo.wd ⟨sg, [], cx⟩) (cx ++ [a]) b = r2 at c2 heq
            generalize TypR (Wo.wd ⟨sg, [], cx⟩) cx a = r3 at c3 heq hk
            generalize KindR (Wo.wd ⟨sg, [], cx⟩) cx a = r4 at c4 hk
            have ha1 := fun locs heap => (app2 cx a (by omega) locs heap).1
            have ha2 := fun locs heap => (app2 cx a (by omega) locs heap).2
            have f2 : Dv.agg [.int .i64 1, .int .i64 0, .slc [enc a, enc b]] = enc (piOf a b) := tmc 1 0 [a, b] rfl
            cases k7 : (r3 == 0)
            · rw [k7] at heq
              have k8 : (r3 != 0) = true := by simpa using k7
              simp -implicitDefEqProofs (disch := decide +kernel) only [go_sem, ↓reduceIte, Nat.reduceSub, Nat.reduceAdd, Nat.reduceMul, Nat.reduceBEq, Nat.reduceLT, Nat.reduceLeDiff, Nat.reduceEqDiff, reduceCtorEq, Int.reduceToNat, Int.reduceLE, Int.reduceLT, Int.reduceBEq, Int.reduceBNe, mCall, hA, hF, hq, hs, hma, hmb, cells_enc, cel3, hea, heb, k1, k3, k4, k5, k6, f2, ha1, ha2, c1, c2, c3, heq, k7, k8, (enc_eq (piOf a b)).symm]
            · rw [k7, Bool.true_and] at heq
              have k8 : (r3 != 0) = false := by simpa using k7
              have k9 := hk.resolve_left (by rw [k8]; decide)
              cases k10 : (r2 == 0)
              · rw [k10] at heq
                simp -implicitDefEqProofs (disch := decide +kernel) only [go_sem, ↓reduceIte, Nat.reduceSub, Nat.reduceAdd, Nat.reduceMul, Nat.reduceBEq, Nat.reduceLT, Nat.reduceLeDiff, Nat.reduceEqDiff, reduceCtorEq, Int.reduceToNat, Int.reduceLE, Int.reduceLT, Int.reduceBEq, Int.reduceBNe, mCall, hA, hF, hq, hs, hma, hmb, cells_enc, cel3, hea, heb, k1, k3, k4, k5, k6, f2, ha1, ha2, c1, c2, c3, c4, heq, k7, k8, k9, k10, (enc_eq (piOf a b)).symm]
              · rw [k10] at heq
                simp -implicitDefEqProofs (disch := decide +kernel) only [go_sem, ↓reduceIte, Nat.reduceSub, Nat.reduceAdd, Nat.reduceMul, Nat.reduceBEq, Nat.reduceLT, Nat.reduceLeDiff, Nat.reduceEqDiff, reduceCtorEq, Int.reduceToNat, Int.reduceLE, Int.reduceLT, Int.reduceBEq, Int.reduceBNe, mCall, hA, hF, hq, hs, hma, hmb, cells_enc, cel3, hea, heb, k1, k3, k4, k5, k6, f2, ha1, ha2, c1, c2, c3, c4, heq, k7, k8, k9, k10, (enc_eq (piOf a b)).symm]
end Go.Proofs.Ytmemmdfjlhamfaa
