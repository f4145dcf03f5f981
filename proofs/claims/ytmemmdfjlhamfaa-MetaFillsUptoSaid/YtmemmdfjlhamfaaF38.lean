/- Metas that become something, by what subst.Apply comes to; in plain words. -/
import Derived.Test.YtmemmdfjlhamfaaP9
import Derived.Test.YtmemmdfjlhamfaaF28
import Derived.Test.YtmemmdfjlhamfaaF2B
set_option linter.unusedSimpArgs false
set_option linter.unusedVariables false
set_option maxRecDepth 100000
namespace Go.Proofs.Ytmemmdfjlhamfaa
open Go.Proofs
abbrev fillM (th : List Tm) (t : Tm) (n : Int) : Tm × Int := fillT applyR maysB th t n
def fillOk (t : Tm) (th : List Tm) (n : Int) : Bool := mayB t && !decide (n < 0) && !decide (n > 1000) && !decide ((th.length : Int) > 200) && maysB th
def fillW (r : Tm × Int) : Tm × Int := if r.2 = 0 then (if mayB r.1 then (r.1, 0) else (zT, 4)) else (zT, r.2)
def FillR (t : Tm) (th : List Tm) (n : Int) : Tm × Int := if fillOk t th n then fillW (fillM th t n) else (zT, 1)
def eachR (F : Nat → Tm × Int) (k : Nat) : List Tm × Int := if firstE F k = 0 then (outs (fun i => (F i).1) k, 0) else ([], firstE F k)
def CtxR (l th : List Tm) (n : Int) : List Tm × Int := eachR (fun i => FillR (l.getD i default) th (n + i)) l.length
def AllR (l th : List Tm) (ns : List Int) : List Tm × Int := if ns.length = l.length then eachR (fun i => FillR (l.getD i default) th (ns.getD i 0)) l.length else ([], 1)
theorem fillOk_parts {t : Tm} {th : List Tm} {n : Int} (h : fillOk t th n = true) : mayB t = true ∧ 0 ≤ n ∧ n ≤ 1000 ∧ th.length ≤ 200 ∧ ∀ x ∈ th, mayB x = true := by
  simp only [fillOk, Bool.and_eq_true, Bool.not_eq_true', decide_eq_false_iff_not] at h
  exact ⟨h.1.1.1.1, by have := h.1.1.1.2; omega, by have := h.1.1.2; omega, by have := h.1.2; omega, maysB_iff.1 h.2⟩
theorem fillOk_of {t : Tm} {th : List Tm} {n : Int} (h1 : mayB t = true) (h2 : 0 ≤ n) (h3 : n ≤ 1000) (h4 : th.length ≤ 200) (h5 : ∀ x ∈ th, mayB x = true) : fillOk t th n = true := by
  simp only [fillOk, Bool.and_eq_true, Bool.not_eq_true', decide_eq_false_iff_not]
  exact ⟨⟨⟨⟨h1, by omega⟩, by omega⟩, by omega⟩, maysB_iff.2 h5⟩
theorem fillW_ok {r : Tm × Int} (h : (fillW r).2 = 0) : r.2 = 0 ∧ mayB r.1 = true ∧ fillW r = r := by
  unfold fillW at h ⊢
  by_cases h0 : r.2 = 0
  · rw [if_pos h0] at h ⊢
    by_cases hm : mayB r.1 = true
    · exact ⟨h0, hm, by rw [if_pos hm]; exact Prod.ext rfl h0.symm⟩
    · rw [if_neg hm] at h; cases h
  · rw [if_neg h0] at h; exact absurd h h0
theorem fillR_ok {t : Tm} {th : List Tm} {n : Int} (h : (FillR t th n).2 = 0) : fillOk t th n = true ∧ (fillM th t n).2 = 0 ∧ mayB (fillM th t n).1 = true ∧ FillR t th n = fillM th t n := by
  unfold FillR at h ⊢
  by_cases ho : fillOk t th n = true
  · rw [if_pos ho] at h ⊢
    exact ⟨ho, fillW_ok h⟩
  · rw [if_neg ho] at h; cases h
theorem fillR_may (t : Tm) (th : List Tm) (n : Int) : mayB (FillR t th n).1 = true := by
  unfold FillR fillW
  split
  · split
    · split
      · assumption
      · exact zT_may
    · exact zT_may
  · exact zT_may
theorem fillR_none {t : Tm} {th : List Tm} {n : Int} (h : fillOk t th n = true) (hm : metasB t = false) : FillR t th n = (t, 0) := by
  unfold FillR fillW
  rw [if_pos h, fillM, fill_none t n hm]
  simp [(fillOk_parts h).1]
theorem fillR_nil {t : Tm} {n : Int} (h : fillOk t [] n = true) : (FillR t [] n).2 = if metasB t then 2 else 0 := by
  have hp := fillOk_parts h
  have h0 := fill_nil (A := applyR) (mayL := maysB) t n (may_parts hp.1).1
  cases hm : metasB t
  · rw [fillR_none h hm]; rfl
  · rw [hm] at h0
    simp only [if_true] at h0 ⊢
    unfold FillR fillW
    rw [if_pos h, if_neg (by rw [fillM, h0]; decide), fillM, h0]
theorem eachR_ok {F : Nat → Tm × Int} {k : Nat} (h : (eachR F k).2 = 0) : (∀ i, i < k → (F i).2 = 0) ∧ eachR F k = (outs (fun i => (F i).1) k, 0) := by
  unfold eachR at h ⊢
  by_cases h0 : firstE F k = 0
  · rw [if_pos h0]; exact ⟨(firstE_zero _ _).1 h0, rfl⟩
  · rw [if_neg h0] at h; exact absurd h h0
theorem eachR_not {F : Nat → Tm × Int} {k : Nat} (h : (eachR F k).2 ≠ 0) : (eachR F k).1 = [] := by
  unfold eachR at h ⊢
  by_cases h0 : firstE F k = 0
  · rw [if_pos h0] at h; exact absurd rfl h
  · rw [if_neg h0]
theorem eachR_all {F : Nat → Tm × Int} {k : Nat} (h : ∀ i, i < k → (F i).2 = 0) : eachR F k = (outs (fun i => (F i).1) k, 0) := by
  unfold eachR
  rw [if_pos ((firstE_zero _ _).2 h)]
/-! ### whole -/
theorem outD_err {r : R Tm} (h : (outD r).2 ≠ 0) : (outD r).1 = zT := by
  cases r with
  | ok u m =>
    simp only [outD] at h ⊢
    by_cases hm : mayB u = true
    · rw [if_pos hm] at h; exact absurd rfl h
    · rw [if_neg hm]
  | er e m => rfl
theorem applyR_err {t : Tm} {s : Sb} (h : (applyR t s).2 ≠ 0) : (applyR t s).1 = zT := by
  unfold applyR at h ⊢
  by_cases hc : (mayB t && smayB s) = true
  · rw [if_pos hc] at h ⊢; exact outD_err h
  · rw [if_neg hc]
theorem applyR_wrap (t : Tm) (s : Sb) : fillW (applyR t s) = applyR t s := by
  unfold fillW
  by_cases h : (applyR t s).2 = 0
  · rw [if_pos h, if_pos (applyR_may t s)]; exact Prod.ext rfl h.symm
  · rw [if_neg h]; exact Prod.ext (applyR_err h).symm rfl
def metaT (k : Int) (l : List Tm) : Tm := .mk 6 k l
theorem fill_meta {th : List Tm} {l : List Tm} {k n : Int} (hk : k < th.length) (hl : ∀ x ∈ l, metasB x = false) (hm : ∀ x ∈ l, mayB x = true) : fillM th (metaT k l) n = applyR (th.getD k.toNat default) ⟨l, n⟩ := by
  have hF : ∀ i, i < (metaT k l).args.length → fillF applyR maysB th (metaT k l) n i = ((metaT k l).arg i, 0) := fun i hi => fill_none _ _ (hl _ (arg_mem (t := metaT k l) hi))
  have h0 : firstE (fillF applyR maysB th (metaT k l) n) (metaT k l).args.length = 0 := (firstE_zero _ _).2 fun i hi => by rw [hF i hi]
  have hargs : ((List.range (metaT k l).args.length).map fun i => (fillF applyR maysB th (metaT k l) n i).1) = l := by
    have := args_range (metaT k l)
    refine Eq.trans (List.map_congr_left fun i hi => ?_) this
    rw [hF i (by simpa using hi)]
  rw [fillM, fillT_eq, if_pos h0, hargs]
  unfold fillN
  rw [if_neg (by simp [metaT, Tm.kind]), if_neg (by simp only [metaT, Tm.head]; omega), if_pos (maysB_iff.2 hm)]
  rfl
theorem fillR_meta {x : Tm} {l : List Tm} {n : Int} (hx : mayB x = true) (h0 : 0 ≤ n) (h1 : n ≤ 1000) (hw : mayB (metaT 0 l) = true) (hl : ∀ y ∈ l, metasB y = false) (hm : ∀ y ∈ l, mayB y = true) : FillR (metaT 0 l) [x] n = applyR x ⟨l, n⟩ := by
  unfold FillR
  rw [if_pos (fillOk_of hw h0 h1 (by simp) (by simpa using hx)), fill_meta (by simp) hl hm]
  exact applyR_wrap _ _
/-! ### bare metas -/
/-- No Meta of it has Args. -/
def bareB : Tm → Bool
  | .mk k h l => !(k == 6 && decide (l.length > 0)) && allB l.length fun i => if hi : i < l.length then bareB l[i] else true
decreasing_by
  have := List.sizeOf_lt_of_mem (List.getElem_mem hi)
  simp only [Tm.mk.sizeOf_spec]
  omega
theorem bareB_eq (t : Tm) : bareB t = (!(t.kind == 6 && decide (t.args.length > 0)) && allB t.args.length fun i => bareB (t.arg i)) := by
  obtain ⟨k, h, l⟩ := t
  rw [bareB]
  congr 1
  refine allB_congr fun i hi => ?_
  have := arg_eq (t := .mk k h l) hi
  simp only [Tm.args] at this
  simp [hi, this]
theorem bareB_iff {t : Tm} : bareB t = true ↔ (t.kind = 6 → t.args = []) ∧ ∀ i, i < t.args.length → bareB (t.arg i) = true := by
  rw [bareB_eq, Bool.and_eq_true, allB_iff]
  simp only [Bool.not_eq_true', Bool.and_eq_false_iff, beq_eq_false_iff_ne, decide_eq_false_iff_not, Nat.not_lt, Nat.le_zero, List.length_eq_zero_iff, gt_iff_lt]
  constructor
  · rintro ⟨h1, h2⟩; exact ⟨fun h => h1.resolve_left fun e => e h, h2⟩
  · rintro ⟨h1, h2⟩; exact ⟨Classical.byCases (fun h => .inr (h1 h)) (fun h => .inl h), h2⟩
/-- A bare term whose metas are these. -/
def fb (th : List Tm) : Tm → Int → Tm
  | .mk k h l, n => if k = 6 then (match th[h.toNat]? with
      | some x => upT x n 0
      | none => zT) else .mk k h ((List.range l.length).map fun i => if hi : i < l.length then fb th l[i] (n + bnd (.mk k h l) i) else default)
decreasing_by
  have := List.sizeOf_lt_of_mem (List.getElem_mem hi)
  simp only [Tm.mk.sizeOf_spec]
  omega
theorem fb_meta {th : List Tm} {t : Tm} (h : t.kind = 6) (n : Int) : fb th t n = match th[t.head.toNat]? with
      | some x => upT x n 0
      | none => zT := by
  obtain ⟨k, h, l⟩ := t
  rw [fb]
  exact if_pos h
theorem fb_node {th : List Tm} {t : Tm} (h : t.kind ≠ 6) (n : Int) : fb th t n = .mk t.kind t.head ((List.range t.args.length).map fun i => fb th (t.arg i) (n + bnd t i)) := by
  obtain ⟨k, hd, l⟩ := t
  rw [fb]
  refine (if_neg h).trans ?_
  have : ((List.range l.length).map fun i => if hi : i < l.length then fb th l[i] (n + bnd (.mk k hd l) i) else default) = (List.range l.length).map fun i => fb th ((Tm.mk k hd l).arg i) (n + bnd (.mk k hd l) i) := by
    refine List.map_congr_left fun i hi => ?_
    have hi : i < l.length := by simpa using hi
    have := arg_eq (t := .mk k hd l) hi
    simp only [Tm.args] at this
    rw [dif_pos hi, this]
  rw [this]; rfl
theorem apply_up {x : Tm} (hx : mayB x = true) {n : Int} (h0 : 0 ≤ n) (h1 : n ≤ 1048576) : applyR x ⟨[], n⟩ = (upT x n 0, 0) := by
  have h := apply_ren (s := ⟨[], n⟩) (G := gUp n) (P := fun _ _ => true) (t := x) 0 (ren_up n h0) hx (smay_of (by simp) h0 h1 (by simp)) (canB_true x _) (up_may hx h0 0)
  exact h
theorem fb_kind {th : List Tm} {t : Tm} (h : t.kind ≠ 6) (n : Int) : (fb th t n).kind = t.kind := by rw [fb_node h, mk_kind]
theorem fb_head {th : List Tm} {t : Tm} (h : t.kind ≠ 6) (n : Int) : (fb th t n).head = t.head := by rw [fb_node h, mk_head]
theorem fb_len {th : List Tm} {t : Tm} (h : t.kind ≠ 6) (n : Int) : (fb th t n).args.length = t.args.length := by rw [fb_node h, mk_args]; simp
theorem fb_arg {th : List Tm} {t : Tm} (h : t.kind ≠ 6) (n : Int) {i : Nat} (hi : i < t.args.length) : (fb th t n).arg i = fb th (t.arg i) (n + bnd t i) := by
  have hl : i < (fb th t n).args.length := by rw [fb_len h]; exact hi
  rw [← arg_eq hl]
  simp only [fb_node h, mk_args]
  simp
theorem fb_bnd {th : List Tm} {t : Tm} (h : t.kind ≠ 6) (n : Int) (i : Nat) : bnd (fb th t n) i = bnd t i := by
  unfold bnd
  rw [fb_kind h, fb_len h]
theorem map_shift (g : Int → Int → Int) (d : Int) : ∀ (t : Tm) (n : Int), mapT g t (n + d) = mapT (fun x m => g x (m + d)) t n := by
  refine Tm.ind fun t ih n => ?_
  rw [mapT_eq, mapT_eq]
  congr 1
  refine List.map_congr_left fun i hi => ?_
  have hi : i < t.args.length := by simpa using hi
  rw [← ih _ (arg_mem hi) (n + bnd t i)]
  congr 1; omega
theorem up_base (x : Tm) {n d : Int} (hn : 0 ≤ n) (hd : 0 ≤ d) : upT (upT x d 0) n d = upT x (n + d) 0 := by
  have h := map_shift (gUp n) d (upT x d 0) 0
  rw [Int.zero_add] at h
  rw [upT, h, upT, mapT_map]
  refine mapT_congr (p := fun _ _ => true) (fun y m _ => ?_) x 0 (canB_true x 0)
  unfold gUp
  split <;> split <;> omega
theorem up_zT (n d : Int) : upT zT n d = zT := by rw [upT, mapT_eq]; rfl
theorem fb_zT (th : List Tm) (n : Int) : fb th zT n = zT := by rw [fb_node (by decide)]; rfl
theorem fb_up {th : List Tm} {n : Int} (hn : 0 ≤ n) : ∀ (s : Tm) (d : Int), 0 ≤ d → fb th (upT s n d) (n + d) = upT (fb th s d) n d := by
  refine Tm.ind fun s ih d hd => ?_
  by_cases k6 : s.kind = 6
  · rw [fb_meta (by rw [mapT_kind]; exact k6), fb_meta k6, mapT_head, if_neg (by rw [k6]; decide)]
    cases th[s.head.toNat]? with
    | none => exact (up_zT n d).symm
    | some x => exact (up_base x hn hd).symm
  · have hk : (upT s n d).kind ≠ 6 := by rw [mapT_kind]; exact k6
    refine tm_ext ?_ ?_ ?_ fun i hi => ?_
    · rw [fb_kind hk, mapT_kind, mapT_kind, fb_kind k6]
    · rw [fb_head hk, mapT_head, mapT_head, fb_kind k6, fb_head k6]
    · rw [fb_len hk, mapT_len, mapT_len, fb_len k6]
    · rw [fb_len hk, mapT_len] at hi
      rw [fb_arg hk _ (by rw [mapT_len]; exact hi), mapT_arg _ _ hi, mapT_bnd, mapT_arg _ _ (by rw [fb_len k6]; exact hi), fb_bnd k6, fb_arg k6 _ hi, Int.add_assoc]
      exact ih _ (arg_mem hi) _ (by omega)
theorem fb_fb {th et : List Tm} : ∀ (t : Tm) (n : Int), 0 ≤ n → fb et (fb th t n) n = fb (th.map fun x => fb et x 0) t n := by
  refine Tm.ind fun t ih n hn => ?_
  by_cases k6 : t.kind = 6
  · rw [fb_meta k6, fb_meta k6, List.getElem?_map]
    cases th[t.head.toNat]? with
    | none => exact fb_zT et n
    | some x =>
      have h := fb_up (th := et) hn x 0 (by omega)
      rw [Int.add_zero] at h
      exact h
  · have hk : (fb th t n).kind ≠ 6 := by rw [fb_kind k6]; exact k6
    refine tm_ext ?_ ?_ ?_ fun i hi => ?_
    · rw [fb_kind hk, fb_kind k6, fb_kind k6]
    · rw [fb_head hk, fb_head k6, fb_head k6]
    · rw [fb_len hk, fb_len k6, fb_len k6]
    · rw [fb_len hk, fb_len k6] at hi
      rw [fb_arg hk _ (by rw [fb_len k6]; exact hi), fb_arg k6 _ hi, fb_bnd k6, fb_arg k6 _ hi]
      exact ih _ (arg_mem hi) _ (by omega)
theorem bare_map (g : Int → Int → Int) : ∀ (t : Tm) (n : Int), bareB t = true → bareB (mapT g t n) = true := by
  refine Tm.ind fun t ih n h => ?_
  rw [bareB_iff] at h ⊢
  refine ⟨fun k => ?_, fun i hi => ?_⟩
  · rw [mapT_kind] at k
    exact List.length_eq_zero_iff.1 (by rw [mapT_len, h.1 k]; rfl)
  · rw [mapT_len] at hi
    rw [mapT_arg _ _ hi]
    exact ih _ (arg_mem hi) _ (h.2 i hi)
theorem bare_zT : bareB zT = true := by
  rw [bareB_iff]
  refine ⟨fun h => absurd h (by decide), fun i hi => ?_⟩
  simp [zT, Tm.args] at hi
theorem bare_fb {th : List Tm} (h : ∀ x ∈ th, bareB x = true) : ∀ (t : Tm) (n : Int), bareB (fb th t n) = true := by
  refine Tm.ind fun t ih n => ?_
  by_cases k6 : t.kind = 6
  · rw [fb_meta k6]
    cases hx : th[t.head.toNat]? with
    | none => exact bare_zT
    | some x => exact bare_map _ _ _ (h x (List.mem_of_getElem? hx))
  · rw [bareB_iff]
    refine ⟨fun k => absurd (by rw [fb_kind k6] at k; exact k) k6, fun i hi => ?_⟩
    rw [fb_len k6] at hi
    rw [fb_arg k6 _ hi]
    exact ih _ (arg_mem hi) _
theorem fill_fb {th : List Tm} (hm : ∀ x ∈ th, mayB x = true) : ∀ (t : Tm) (n : Int), bareB t = true → nodesB t = true → 0 ≤ n → n + t.depth ≤ 1048576 → (fillM th t n).2 = 0 → fillM th t n = (fb th t n, 0) := by
  refine Tm.ind fun t ih n hb hn h0 h1 hok => ?_
  rw [bareB_iff] at hb
  rw [fillM, fillT_eq] at hok ⊢
  by_cases he : firstE (fillF applyR maysB th t n) t.args.length = 0
  · rw [if_pos he] at hok ⊢
    have hF : ∀ i, i < t.args.length → fillF applyR maysB th t n i = (fb th (t.arg i) (n + bnd t i), 0) := fun i hi => by
      have := depth_arg (arg_mem hi)
      have := bnd_le t i
      exact ih _ (arg_mem hi) _ (hb.2 i hi) (node_args hn i hi) (by omega) (by omega) ((firstE_zero _ _).1 he i hi)
    unfold fillN at hok ⊢
    by_cases k6 : t.kind = 6
    · rw [if_neg (by simpa using k6)] at hok ⊢
      by_cases hh : t.head ≥ th.length
      · rw [if_pos hh] at hok; cases hok
      · have hl : (List.range t.args.length).map (fun i => (fillF applyR maysB th t n i).1) = [] := by rw [hb.1 k6]; rfl
        rw [if_neg hh, hl, if_pos (maysB_iff.2 (by simp))] at hok ⊢
        have h2 := node_head (node_here hn)
        have hlt : t.head.toNat < th.length := by omega
        have hx : th.getD t.head.toNat default = th[t.head.toNat] := by rw [List.getD_eq_getElem?_getD, List.getElem?_eq_getElem hlt]; rfl
        rw [hx, apply_up (hm _ (List.getElem_mem hlt)) h0 (by omega), fb_meta k6, List.getElem?_eq_getElem hlt]
    · rw [if_pos k6, fb_node k6]
      congr 2
      refine List.map_congr_left fun i hi => ?_
      rw [hF i (by simpa using hi)]
  · rw [if_neg he] at hok; exact absurd hok he
theorem fb_scoped {th : List Tm} {a M : Int} (hm : ∀ x ∈ th, scopedB x a M = true) : ∀ (t : Tm) (n : Int), nodesB t = true → scopedB t (n + a) th.length = true → 0 ≤ n → scopedB (fb th t n) (n + a) M = true := by
  refine Tm.ind fun t ih n hn hs h0 => ?_
  rw [scoped_iff] at hs
  by_cases k6 : t.kind = 6
  · have h2 := node_head (node_here hn)
    have h3 := hs.2.1 k6
    have hlt : t.head.toNat < th.length := by omega
    rw [fb_meta k6, List.getElem?_eq_getElem hlt, Int.add_comm n a]
    exact up_scoped (hm _ (List.getElem_mem hlt)) h0
  · rw [scoped_iff]
    refine ⟨fun k => ?_, fun k => absurd (by rw [fb_kind k6] at k; exact k) k6, fun i hi => ?_⟩
    · rw [fb_kind k6] at k; rw [fb_head k6]; exact hs.1 k
    · rw [fb_len k6] at hi
      rw [fb_bnd k6, fb_arg k6 _ hi, show n + a + (bnd t i : Int) = n + bnd t i + a by omega]
      exact ih _ (arg_mem hi) _ (node_args hn i hi) (by rw [show n + bnd t i + a = n + a + bnd t i by omega]; exact hs.2.2 i hi) (by omega)
theorem fillR_fb {t : Tm} {th : List Tm} {n : Int} (hb : bareB t = true) (h : (FillR t th n).2 = 0) : FillR t th n = (fb th t n, 0) := by
  obtain ⟨h1, h2, h3, h4⟩ := fillR_ok h
  obtain ⟨p1, p2, p3, p4, p5⟩ := fillOk_parts h1
  have hp := may_parts p1
  rw [h4]
  exact fill_fb p5 t n hb hp.1 p2 (by omega) h2
theorem fillR_scoped {t : Tm} {th : List Tm} {n a M : Int} (hb : bareB t = true) (h : (FillR t th n).2 = 0) (hs : scopedB t (n + a) th.length = true) (hm : ∀ x ∈ th, scopedB x a M = true) : scopedB (FillR t th n).1 (n + a) M = true := by
  have hp := fillOk_parts (fillR_ok h).1
  rw [fillR_fb hb h]
  exact fb_scoped hm t n (may_parts hp.1).1 hs hp.2.1
theorem fillR_twice {t : Tm} {th et : List Tm} (ht : bareB t = true) (hth : ∀ x ∈ th, bareB x = true) (h1 : (FillR t th 0).2 = 0) (h2 : (FillR (FillR t th 0).1 et 0).2 = 0) {l : List Tm} (hl : l = th.map fun x => (FillR x et 0).1) (h3 : ∀ x ∈ th, (FillR x et 0).2 = 0) (h4 : (FillR t l 0).2 = 0) :
    (FillR (FillR t th 0).1 et 0).1 = (FillR t l 0).1 := by
  have e1 := fillR_fb ht h1
  rw [e1] at h2 ⊢
  rw [fillR_fb (bare_fb hth t 0) h2, fillR_fb ht h4, hl]
  have e2 : (th.map fun x => (FillR x et 0).1) = th.map fun x => fb et x 0 := List.map_congr_left fun x hx => by rw [fillR_fb (hth x hx) (h3 x hx)]
  rw [e2]
  exact fb_fb t 0 (by omega)
end Go.Proofs.Ytmemmdfjlhamfaa
