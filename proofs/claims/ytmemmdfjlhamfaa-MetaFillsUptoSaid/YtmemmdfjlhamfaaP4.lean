/- Terms whose variables are renumbered: in plain words. -/
import Derived.Test.YtmemmdfjlhamfaaP2
set_option linter.unusedVariables false
namespace Go.Proofs.Ytmemmdfjlhamfaa
theorem mk_kind (k h : Int) (l : List Tm) : (Tm.mk k h l).kind = k := rfl
theorem mk_head (k h : Int) (l : List Tm) : (Tm.mk k h l).head = h := rfl
theorem mk_args (k h : Int) (l : List Tm) : (Tm.mk k h l).args = l := rfl
theorem mk_size (k h : Int) (l : List Tm) : (Tm.mk k h l).size = 1 + (l.map Tm.size).sum := by rw [size_eq]; rfl
theorem mk_self (t : Tm) : Tm.mk t.kind t.head t.args = t := by cases t; rfl
theorem tm_ext {t u : Tm} (h1 : t.kind = u.kind) (h2 : t.head = u.head) (h3 : t.args.length = u.args.length) (h4 : ∀ i, i < t.args.length → t.arg i = u.arg i) : t = u := by
  rw [← mk_self t, ← mk_self u, h1, h2]
  congr 1
  refine List.ext_getElem h3 fun i hi hj => ?_
  rw [arg_eq hi, arg_eq hj]
  exact h4 i hi
theorem may_parts {t : Tm} (h : mayB t = true) : nodesB t = true ∧ t.size ≤ 4000 ∧ t.depth ≤ 60 := by
  unfold mayB at h
  simp only [Bool.and_eq_true, decide_eq_true_eq] at h
  exact ⟨h.1.1, h.1.2, h.2⟩
theorem may_of {t : Tm} (h1 : nodesB t = true) (h2 : t.size ≤ 4000) (h3 : t.depth ≤ 60) : mayB t = true := by
  unfold mayB
  simp [h1, h2, h3]
theorem depth_arg {t x : Tm} (h : x ∈ t.args) : x.depth < t.depth := by
  rw [depth_eq t]
  have : ∀ l : List Tm, x ∈ l → x.depth ≤ (l.map Tm.depth).foldr max 0 := by
    intro l
    induction l with
    | nil => intro h; cases h
    | cons a l ih =>
      intro h
      simp only [List.map_cons, List.foldr_cons]
      rcases List.mem_cons.1 h with rfl | h
      · omega
      · have := ih h; omega
  have := this _ h
  omega
theorem node_args {t : Tm} (h : nodesB t = true) : ∀ i, i < t.args.length → nodesB (t.arg i) = true := by
  rw [nodesB_eq, Bool.and_eq_true, allB_iff] at h
  exact h.2
theorem node_here {t : Tm} (h : nodesB t = true) : nodeOk t = true := by
  rw [nodesB_eq, Bool.and_eq_true] at h
  exact h.1
theorem low_args {t : Tm} (h : lowB t = true) : ∀ i, i < t.args.length → lowB (t.arg i) = true := by
  rw [lowB_eq, Bool.and_eq_true, allB_iff] at h
  exact h.2
theorem low_here {t : Tm} (h : lowB t = true) : t.head ≤ 1099511627776 := by
  rw [lowB_eq, Bool.and_eq_true] at h
  exact of_decide_eq_true h.1
theorem node_head {t : Tm} (h : nodeOk t = true) : 0 ≤ t.head := by
  unfold nodeOk at h
  split at h
  · simp at h; omega
  · split at h
    · simp at h; omega
    · split at h
      · simp at h; omega
      · simp at h; omega
/-- A term whose variables are others: by how many bind around. -/
def mapT (g : Int → Int → Int) : Tm → Int → Tm
  | .mk k h l, n => .mk k (if k == 4 then g h n else h) ((List.range l.length).map fun i => if hi : i < l.length then mapT g l[i] (n + bnd (.mk k h l) i) else default)
decreasing_by
  have := List.sizeOf_lt_of_mem (List.getElem_mem hi)
  simp only [Tm.mk.sizeOf_spec]
  omega
theorem mapT_eq (g : Int → Int → Int) (t : Tm) (n : Int) : mapT g t n = .mk t.kind (if t.kind == 4 then g t.head n else t.head) ((List.range t.args.length).map fun i => mapT g (t.arg i) (n + bnd t i)) := by
  obtain ⟨k, h, l⟩ := t
  rw [mapT]
  congr 1
  refine List.map_congr_left fun i hi => ?_
  have hi' : i < l.length := by simpa using hi
  have := arg_eq (t := .mk k h l) hi'
  simp only [Tm.args] at this
  simp [hi', this]
theorem mapT_kind (g : Int → Int → Int) (t : Tm) (n : Int) : (mapT g t n).kind = t.kind := by rw [mapT_eq]; rfl
theorem mapT_head (g : Int → Int → Int) (t : Tm) (n : Int) : (mapT g t n).head = if t.kind == 4 then g t.head n else t.head := by rw [mapT_eq]; rfl
theorem mapT_len (g : Int → Int → Int) (t : Tm) (n : Int) : (mapT g t n).args.length = t.args.length := by rw [mapT_eq, mk_args]; simp
theorem mapT_arg (g : Int → Int → Int) {t : Tm} (n : Int) {i : Nat} (hi : i < t.args.length) : (mapT g t n).arg i = mapT g (t.arg i) (n + bnd t i) := by
  rw [mapT_eq]
  simp [Tm.arg, mk_args, List.getD, hi]
theorem mapT_bnd (g : Int → Int → Int) (t : Tm) (n : Int) (i : Nat) : bnd (mapT g t n) i = bnd t i := by
  unfold bnd
  rw [mapT_kind, mapT_len]
theorem mapT_args (g : Int → Int → Int) (t : Tm) (n : Int) : (mapT g t n).args = (List.range t.args.length).map fun i => mapT g (t.arg i) (n + bnd t i) := by rw [mapT_eq, mk_args]
theorem range_map {α β : Type} {f : α → β} {l : List α} {d : Nat → α} (h : ∀ i (hi : i < l.length), l[i] = d i) : (List.range l.length).map (fun i => f (d i)) = l.map f := by
  refine List.ext_getElem (by simp) fun i h1 h2 => ?_
  simp only [List.getElem_map, List.getElem_range]
  rw [h i (by simpa using h2)]
theorem args_map {β : Type} (f : Tm → β) (t : Tm) : (List.range t.args.length).map (fun i => f (t.arg i)) = t.args.map f := range_map fun i hi => arg_eq hi
theorem mapT_size (g : Int → Int → Int) : ∀ (t : Tm) (n : Int), (mapT g t n).size = t.size := by
  refine Tm.ind fun t ih n => ?_
  rw [size_eq, size_eq t, mapT_args, List.map_map, ← args_map]
  congr 2
  refine List.map_congr_left fun i hi => ?_
  exact ih _ (arg_mem (by simpa using hi)) _
theorem mapT_depth (g : Int → Int → Int) : ∀ (t : Tm) (n : Int), (mapT g t n).depth = t.depth := by
  refine Tm.ind fun t ih n => ?_
  rw [depth_eq, depth_eq t, mapT_args, List.map_map, ← args_map]
  congr 2
  refine List.map_congr_left fun i hi => ?_
  exact ih _ (arg_mem (by simpa using hi)) _
/-- Whether all variables of a term are so. -/
def canB (p : Int → Int → Bool) : Tm → Int → Bool
  | .mk k h l, n => (k != 4 || p h n) && allB l.length fun i => if hi : i < l.length then canB p l[i] (n + bnd (.mk k h l) i) else true
decreasing_by
  have := List.sizeOf_lt_of_mem (List.getElem_mem hi)
  simp only [Tm.mk.sizeOf_spec]
  omega
theorem canB_eq (p : Int → Int → Bool) (t : Tm) (n : Int) : canB p t n = ((t.kind != 4 || p t.head n) && allB t.args.length fun i => canB p (t.arg i) (n + bnd t i)) := by
  obtain ⟨k, h, l⟩ := t
  rw [canB]
  congr 1
  refine allB_congr fun i hi => ?_
  have := arg_eq (t := .mk k h l) hi
  simp only [Tm.args] at this
  simp [hi, this]
theorem canB_iff {p : Int → Int → Bool} {t : Tm} {n : Int} : canB p t n = true ↔ (t.kind = 4 → p t.head n = true) ∧ ∀ i, i < t.args.length → canB p (t.arg i) (n + bnd t i) = true := by
  rw [canB_eq, Bool.and_eq_true, allB_iff, Bool.or_eq_true, bne_iff_ne, ne_eq]
  constructor
  · rintro ⟨h1, h2⟩
    exact ⟨fun h => h1.resolve_left fun e => e h, h2⟩
  · rintro ⟨h1, h2⟩
    refine ⟨?_, h2⟩
    by_cases h : t.kind = 4
    · exact .inr (h1 h)
    · exact .inl h
theorem canB_mono {p q : Int → Int → Bool} (n0 : Int) (h : ∀ x m, n0 ≤ m → p x m = true → q x m = true) : ∀ (t : Tm) (n : Int), n0 ≤ n → canB p t n = true → canB q t n = true := by
  refine Tm.ind fun t ih n hn hc => ?_
  rw [canB_iff] at hc ⊢
  exact ⟨fun hk => h _ _ hn (hc.1 hk), fun i hi => ih _ (arg_mem hi) _ (by omega) (hc.2 i hi)⟩
theorem canB_and {p q : Int → Int → Bool} : ∀ (t : Tm) (n : Int), canB p t n = true → canB q t n = true → canB (fun x m => p x m && q x m) t n = true := by
  refine Tm.ind fun t ih n hc hd => ?_
  rw [canB_iff] at hc hd ⊢
  exact ⟨fun hk => by rw [hc.1 hk, hd.1 hk]; rfl, fun i hi => ih _ (arg_mem hi) _ (hc.2 i hi) (hd.2 i hi)⟩
/-- All variables of what may be are at least 0, and at most so great. -/
theorem canB_low : ∀ (t : Tm) (n : Int), nodesB t = true → lowB t = true → canB (fun x m => decide (0 ≤ x) && decide (x ≤ 1099511627776) && decide (n ≤ m)) t n = true := by
  have key : ∀ (t : Tm) (n0 n : Int), n0 ≤ n → nodesB t = true → lowB t = true → canB (fun x m => decide (0 ≤ x) && decide (x ≤ 1099511627776) && decide (n0 ≤ m)) t n = true := by
    refine Tm.ind fun t ih n0 n hn hc hl => ?_
    rw [canB_iff]
    refine ⟨fun _ => ?_, fun i hi => ih _ (arg_mem hi) _ _ (by omega) (node_args hc i hi) (low_args hl i hi)⟩
    have h1 := node_head (node_here hc)
    have h2 := low_here hl
    simp [h1, h2, hn]
  exact fun t n => key t n n (Int.le_refl n)
theorem mapT_congr {g g' : Int → Int → Int} {p : Int → Int → Bool} (h : ∀ x m, p x m = true → g x m = g' x m) : ∀ (t : Tm) (n : Int), canB p t n = true → mapT g t n = mapT g' t n := by
  refine Tm.ind fun t ih n hc => ?_
  rw [canB_iff] at hc
  rw [mapT_eq, mapT_eq g']
  congr 1
  · cases hk : (t.kind == 4)
    · rfl
    · rw [if_pos rfl, if_pos rfl, h _ _ (hc.1 (by simpa using hk))]
  · refine List.map_congr_left fun i hi => ?_
    have hi' : i < t.args.length := by simpa using hi
    exact ih _ (arg_mem hi') _ (hc.2 i hi')
theorem mapT_id {g : Int → Int → Int} {p : Int → Int → Bool} (h : ∀ x m, p x m = true → g x m = x) : ∀ (t : Tm) (n : Int), canB p t n = true → mapT g t n = t := by
  refine Tm.ind fun t ih n hc => ?_
  rw [canB_iff] at hc
  refine tm_ext (mapT_kind g t n) ?_ (mapT_len g t n) fun i hi => ?_
  · rw [mapT_head]
    cases hk : (t.kind == 4)
    · rfl
    · rw [if_pos rfl, h _ _ (hc.1 (by simpa using hk))]
  · rw [mapT_len] at hi
    rw [mapT_arg g n hi]
    exact ih _ (arg_mem hi) _ (hc.2 i hi)
theorem canB_true : ∀ (t : Tm) (n : Int), canB (fun _ _ => true) t n = true := by
  refine Tm.ind fun t ih n => ?_
  rw [canB_iff]
  exact ⟨fun _ => rfl, fun i hi => ih _ (arg_mem hi) _⟩
theorem mapT_map (g f : Int → Int → Int) : ∀ (t : Tm) (n : Int), mapT g (mapT f t n) n = mapT (fun x m => g (f x m) m) t n := by
  refine Tm.ind fun t ih n => ?_
  refine tm_ext (by simp only [mapT_kind]) ?_ (by simp only [mapT_len]) fun i hi => ?_
  · simp only [mapT_head, mapT_kind]
    cases (t.kind == 4) <;> rfl
  · simp only [mapT_len] at hi
    rw [mapT_arg _ _ hi, mapT_arg _ _ (by rw [mapT_len]; exact hi), mapT_arg _ _ hi, mapT_bnd]
    exact ih _ (arg_mem hi) _
theorem canB_map (p : Int → Int → Bool) (f : Int → Int → Int) : ∀ (t : Tm) (n : Int), canB p (mapT f t n) n = canB (fun x m => p (f x m) m) t n := by
  refine Tm.ind fun t ih n => ?_
  rw [canB_eq, canB_eq _ t, mapT_kind, mapT_head, mapT_len]
  congr 1
  · cases hk : (t.kind == 4)
    · simp [bne, hk]
    · simp
  · refine allB_congr fun i hi => ?_
    rw [mapT_arg _ _ hi, mapT_bnd]
    exact ih _ (arg_mem hi) _
theorem canB_ext {p q : Int → Int → Bool} (h : ∀ x m, p x m = q x m) (t : Tm) (n : Int) : canB p t n = canB q t n := by
  have : p = q := funext fun x => funext fun m => h x m
  rw [this]
theorem nodeOk_map {g : Int → Int → Int} {t : Tm} {n : Int} (h : nodeOk t = true) (hg : t.kind = 4 → 0 ≤ g t.head n) : nodeOk (mapT g t n) = true := by
  unfold nodeOk at h ⊢
  rw [mapT_kind, mapT_head, mapT_len]
  cases hk : (t.kind == 4)
  · exact h
  · have hk' : t.kind = 4 := by simpa using hk
    have := hg hk'
    simp [hk', this]
theorem nodesB_map {g : Int → Int → Int} {p : Int → Int → Bool} (hg : ∀ x m, p x m = true → 0 ≤ g x m) : ∀ (t : Tm) (n : Int), canB p t n = true → nodesB t = true → nodesB (mapT g t n) = true := by
  refine Tm.ind fun t ih n hc hn => ?_
  rw [canB_iff] at hc
  rw [nodesB_eq, Bool.and_eq_true, allB_iff, mapT_len]
  refine ⟨nodeOk_map (node_here hn) fun hk => hg _ _ (hc.1 hk), fun i hi => ?_⟩
  rw [mapT_arg _ _ hi]
  exact ih _ (arg_mem hi) _ (hc.2 i hi) (node_args hn i hi)
theorem scoped_iff {t : Tm} {v m : Int} : scopedB t v m = true ↔ (t.kind = 4 → t.head < v) ∧ (t.kind = 6 → t.head < m) ∧ ∀ i, i < t.args.length → scopedB (t.arg i) (v + bnd t i) m = true := by
  rw [scopedB_eq, Bool.and_eq_true, allB_iff]
  simp only [Bool.not_eq_true', Bool.or_eq_false_iff, Bool.and_eq_false_iff, beq_eq_false_iff_ne, decide_eq_false_iff_not, ne_eq]
  constructor
  · rintro ⟨⟨h1, h2⟩, h3⟩
    refine ⟨fun e => ?_, fun e => ?_, h3⟩
    · have := h1.resolve_left fun k => k e
      omega
    · have := h2.resolve_left fun k => k e
      omega
  · rintro ⟨h1, h2, h3⟩
    refine ⟨⟨?_, ?_⟩, h3⟩
    · by_cases e : t.kind = 4
      · have := h1 e; right; omega
      · exact .inl e
    · by_cases e : t.kind = 6
      · have := h2 e; right; omega
      · exact .inl e
/-- The variables of a scoped term are so. -/
theorem scoped_can {v M : Int} {n0 : Int} {p : Int → Int → Bool} (h : ∀ x d, 0 ≤ d → x < v + d → p x (n0 + d) = true) {t : Tm} (hs : scopedB t v M = true) : canB p t n0 = true := by
  have key : ∀ (t : Tm) (d : Int), 0 ≤ d → scopedB t (v + d) M = true → canB p t (n0 + d) = true := by
    refine Tm.ind fun t ih d hd hs => ?_
    rw [scoped_iff] at hs
    rw [canB_iff]
    refine ⟨fun hk => h _ _ hd (hs.1 hk), fun i hi => ?_⟩
    have := ih _ (arg_mem hi) (d + bnd t i) (by omega) (by rw [← Int.add_assoc]; exact hs.2.2 i hi)
    rw [Int.add_assoc]; exact this
  have := key t 0 (by omega) (by rw [Int.add_zero]; exact hs)
  rw [Int.add_zero] at this
  exact this
/-- What is scoped, and renumbered, is scoped. -/
theorem scoped_map {v v' M : Int} {n0 : Int} {p : Int → Int → Bool} {g : Int → Int → Int} (h : ∀ x d, 0 ≤ d → x < v + d → p x (n0 + d) = true → g x (n0 + d) < v' + d) {t : Tm} (hs : scopedB t v M = true) (hc : canB p t n0 = true) :
    scopedB (mapT g t n0) v' M = true := by
  have key : ∀ (t : Tm) (d : Int), 0 ≤ d → scopedB t (v + d) M = true → canB p t (n0 + d) = true → scopedB (mapT g t (n0 + d)) (v' + d) M = true := by
    refine Tm.ind fun t ih d hd hs hc => ?_
    rw [scoped_iff] at hs ⊢
    rw [canB_iff] at hc
    rw [mapT_kind, mapT_head, mapT_len]
    refine ⟨fun hk => ?_, fun hk => ?_, fun i hi => ?_⟩
    · simp only [hk, beq_self_eq_true, if_true]
      exact h _ _ hd (hs.1 hk) (hc.1 hk)
    · simp only [hk]
      exact hs.2.1 hk
    · rw [mapT_arg _ _ hi, mapT_bnd]
      have := ih _ (arg_mem hi) (d + bnd t i) (by omega) (by rw [← Int.add_assoc]; exact hs.2.2 i hi) (by rw [← Int.add_assoc]; exact hc.2 i hi)
      rw [Int.add_assoc, Int.add_assoc]
      exact this
  have := key t 0 (by omega) (by rw [Int.add_zero]; exact hs) (by rw [Int.add_zero]; exact hc)
  rw [Int.add_zero, Int.add_zero] at this
  exact this
/-! ### up and down -/
def gUp (by' : Int) (x m : Int) : Int := if x ≥ m then x + by' else x
def gDn (by' : Int) (x m : Int) : Int := if x < m then x else x - by'
def pDn (by' : Int) (x m : Int) : Bool := decide (x < m) || decide (x ≥ m + by')
abbrev upT (t : Tm) (by' from' : Int) : Tm := mapT (gUp by') t from'
abbrev dnT (t : Tm) (by' from' : Int) : Tm := mapT (gDn by') t from'
abbrev dnB (t : Tm) (by' from' : Int) : Bool := canB (pDn by') t from'
theorem up_zero (t : Tm) (n : Int) : upT t 0 n = t := mapT_id (p := fun _ _ => true) (fun x m _ => by unfold gUp; split <;> omega) t n (canB_true t n)
theorem dn_up_can (t : Tm) {b : Int} (hb : 0 ≤ b) (n : Int) : dnB (upT t b n) b n = true := by
  unfold dnB upT
  rw [canB_map, canB_ext (q := fun _ _ => true), canB_true]
  intro x m
  unfold pDn gUp
  split
  · simp; omega
  · simp; omega
theorem dn_up (t : Tm) {b : Int} (hb : 0 ≤ b) (n : Int) : dnT (upT t b n) b n = t := by
  unfold dnT upT
  rw [mapT_map]
  refine mapT_id (p := fun _ _ => true) (fun x m _ => ?_) t n (canB_true t n)
  unfold gDn gUp
  split <;> split <;> omega
theorem up_up (t : Tm) {b : Int} (hb : 0 ≤ b) (c n : Int) : upT (upT t b n) c n = upT t (b + c) n := by
  unfold upT
  rw [mapT_map]
  refine mapT_congr (p := fun _ _ => true) (fun x m _ => ?_) t n (canB_true t n)
  unfold gUp
  by_cases h : x ≥ m
  · rw [if_pos h, if_pos h, if_pos (by omega)]; omega
  · rw [if_neg h, if_neg h, if_neg h]
theorem up_may {t : Tm} (h : mayB t = true) {b : Int} (hb : 0 ≤ b) (n : Int) : mayB (upT t b n) = true := by
  obtain ⟨h1, h2, h3⟩ := may_parts h
  refine may_of ?_ (by rw [mapT_size]; exact h2) (by rw [mapT_depth]; exact h3)
  have key : ∀ (t : Tm) (n : Int), nodesB t = true → canB (fun x _ => decide (0 ≤ x)) t n = true := by
    refine Tm.ind fun t ih n hn => ?_
    rw [canB_iff]
    exact ⟨fun _ => by simpa using node_head (node_here hn), fun i hi => ih _ (arg_mem hi) _ (node_args hn i hi)⟩
  refine nodesB_map (fun x m hx => ?_) t n (key t n h1) h1
  have := of_decide_eq_true hx
  unfold gUp
  split <;> omega
theorem up_far {t : Tm} {v M : Int} (h : scopedB t v M = true) (b : Int) : upT t b v = t := by
  refine mapT_id (p := fun x m => decide (x < m)) (fun x m hx => ?_) t v (scoped_can (fun x d hd hx => by simpa using hx) h)
  have := of_decide_eq_true hx
  unfold gUp
  rw [if_neg (by omega)]
theorem dn_far {t : Tm} {v M : Int} (h : scopedB t v M = true) (b : Int) : dnT t b v = t := by
  refine mapT_id (p := fun x m => decide (x < m)) (fun x m hx => ?_) t v (scoped_can (fun x d hd hx => by simpa using hx) h)
  have := of_decide_eq_true hx
  unfold gDn
  rw [if_pos (by omega)]
theorem dn_far_can {t : Tm} {v M : Int} (h : scopedB t v M = true) (b : Int) : dnB t b v = true := by
  refine scoped_can (fun x d hd hx => ?_) h
  unfold pDn
  simp [hx]
theorem up_scoped {t : Tm} {v M b n : Int} (h : scopedB t v M = true) (hb : 0 ≤ b) : scopedB (upT t b n) (v + b) M = true := by
  refine scoped_map (p := fun _ _ => true) (fun x d hd hx _ => ?_) h (canB_true t n)
  unfold gUp
  split <;> omega
theorem dn_scoped {t : Tm} {v M b n w : Int} (h : scopedB t v M = true) (hc : dnB t b n = true) (h1 : v - b ≤ w) (h2 : n ≤ w) : scopedB (dnT t b n) w M = true := by
  refine scoped_map (p := pDn b) (fun x d hd hx hp => ?_) h hc
  unfold pDn at hp
  simp only [Bool.or_eq_true, decide_eq_true_eq] at hp
  unfold gDn
  split <;> omega
/-! ### how great variables are -/
theorem canB_const {q : Int → Bool} : ∀ (t : Tm) (n m : Int), canB (fun x _ => q x) t n = canB (fun x _ => q x) t m := by
  refine Tm.ind fun t ih n m => ?_
  rw [canB_eq, canB_eq _ t m]
  congr 1
  exact allB_congr fun i hi => ih _ (arg_mem hi) _ _
def vleB (c : Int) (t : Tm) : Bool := canB (fun x _ => decide (x ≤ c)) t 0
abbrev vlowB (t : Tm) : Bool := vleB 4503599627370496 t
theorem vle_at {c : Int} {t : Tm} (n : Int) : canB (fun x _ => decide (x ≤ c)) t n = vleB c t := canB_const t n 0
theorem vle_args {c : Int} {t : Tm} (h : vleB c t = true) : ∀ i, i < t.args.length → vleB c (t.arg i) = true := fun i hi => by
  unfold vleB at h
  rw [canB_iff] at h
  have := h.2 i hi
  rwa [vle_at] at this
theorem vle_here {c : Int} {t : Tm} (h : vleB c t = true) (hk : t.kind = 4) : t.head ≤ c := by
  unfold vleB at h
  rw [canB_iff] at h
  exact of_decide_eq_true (h.1 hk)
theorem vle_mono {c d : Int} (hd : c ≤ d) {t : Tm} (h : vleB c t = true) : vleB d t = true :=
  canB_mono 0 (fun x m _ hx => by simp at hx ⊢; omega) t 0 (Int.le_refl 0) h
theorem vle_low {t : Tm} (h : lowB t = true) : vleB 1099511627776 t = true := by
  unfold vleB
  have key : ∀ (t : Tm) (n : Int), lowB t = true → canB (fun x _ => decide (x ≤ 1099511627776)) t n = true := by
    refine Tm.ind fun t ih n hl => ?_
    rw [canB_iff]
    exact ⟨fun _ => by simpa using low_here hl, fun i hi => ih _ (arg_mem hi) _ (low_args hl i hi)⟩
  exact key t 0 h
theorem vlow_low {t : Tm} (h : lowB t = true) : vlowB t = true := vle_mono (by omega) (vle_low h)
theorem vle_up {c b : Int} {t : Tm} (h : vleB c t = true) (hb : 0 ≤ b) (n : Int) : vleB (c + b) (upT t b n) = true := by
  rw [← vle_at n]
  unfold upT
  rw [canB_map]
  rw [← vle_at n] at h
  refine canB_mono n (fun x m _ hx => ?_) t n (Int.le_refl n) h
  simp at hx ⊢
  unfold gUp
  split <;> omega
theorem vle_dn {c b : Int} {t : Tm} (h : vleB c t = true) (hb : 0 ≤ b) (n : Int) : vleB c (dnT t b n) = true := by
  rw [← vle_at n]
  unfold dnT
  rw [canB_map]
  rw [← vle_at n] at h
  refine canB_mono n (fun x m _ hx => ?_) t n (Int.le_refl n) h
  simp at hx ⊢
  unfold gDn
  split <;> omega
/-- All heads are at most so great. -/
def hleB (c : Int) : Tm → Bool
  | .mk _ h l => decide (h ≤ c) && allB l.length fun i => if hi : i < l.length then hleB c l[i] else true
decreasing_by
  have := List.sizeOf_lt_of_mem (List.getElem_mem hi)
  simp only [Tm.mk.sizeOf_spec]
  omega
theorem hleB_eq (c : Int) (t : Tm) : hleB c t = (decide (t.head ≤ c) && allB t.args.length fun i => hleB c (t.arg i)) := by
  obtain ⟨k, h, l⟩ := t
  rw [hleB]
  congr 1
  refine allB_congr fun i hi => ?_
  have := arg_eq (t := .mk k h l) hi
  simp only [Tm.args] at this
  simp [hi, this]
theorem hleB_iff {c : Int} {t : Tm} : hleB c t = true ↔ t.head ≤ c ∧ ∀ i, i < t.args.length → hleB c (t.arg i) = true := by
  rw [hleB_eq, Bool.and_eq_true, allB_iff, decide_eq_true_eq]
theorem hle_low : ∀ t : Tm, lowB t = true → hleB 1099511627776 t = true := by
  refine Tm.ind fun t ih h => ?_
  rw [hleB_iff]
  exact ⟨low_here h, fun i hi => ih _ (arg_mem hi) (low_args h i hi)⟩
theorem hle_mono {c d : Int} (hd : c ≤ d) : ∀ t : Tm, hleB c t = true → hleB d t = true := by
  refine Tm.ind fun t ih h => ?_
  rw [hleB_iff] at h ⊢
  exact ⟨by omega, fun i hi => ih _ (arg_mem hi) (h.2 i hi)⟩
theorem hle_vle {c : Int} {t : Tm} (h : hleB c t = true) : vleB c t = true := by
  rw [← vle_at 0]
  have key : ∀ (t : Tm) (n : Int), hleB c t = true → canB (fun x _ => decide (x ≤ c)) t n = true := by
    refine Tm.ind fun t ih n hl => ?_
    rw [hleB_iff] at hl
    rw [canB_iff]
    exact ⟨fun _ => by simpa using hl.1, fun i hi => ih _ (arg_mem hi) _ (hl.2 i hi)⟩
  exact key t 0 h
theorem hle_map {c c' : Int} {g : Int → Int → Int} {p : Int → Int → Bool} (hc : c ≤ c') (hg : ∀ x m, x ≤ c → p x m = true → g x m ≤ c') : ∀ (t : Tm) (n : Int), hleB c t = true → canB p t n = true → hleB c' (mapT g t n) = true := by
  refine Tm.ind fun t ih n hl hp => ?_
  rw [hleB_iff] at hl ⊢
  rw [canB_iff] at hp
  rw [mapT_head, mapT_len]
  refine ⟨?_, fun i hi => ?_⟩
  · cases hk : (t.kind == 4)
    · simp; omega
    · rw [if_pos rfl]; exact hg _ _ hl.1 (hp.1 (by simpa using hk))
  · rw [mapT_arg _ _ hi]
    exact ih _ (arg_mem hi) _ (hl.2 i hi) (hp.2 i hi)
theorem hle_up {c b : Int} {t : Tm} (h : hleB c t = true) (hb : 0 ≤ b) (n : Int) : hleB (c + b) (upT t b n) = true :=
  hle_map (p := fun _ _ => true) (by omega) (fun x m hx _ => by unfold gUp; split <;> omega) t n h (canB_true t n)
theorem hle_dn {c b : Int} {t : Tm} (h : hleB c t = true) (hb : 0 ≤ b) (n : Int) : hleB c (dnT t b n) = true :=
  hle_map (p := fun _ _ => true) (by omega) (fun x m hx _ => by unfold gDn; split <;> omega) t n h (canB_true t n)
theorem dn_nodes {t : Tm} {b n : Int} (h : nodesB t = true) (hb : 0 ≤ b) (hn : 0 ≤ n) (hc : dnB t b n = true) : nodesB (dnT t b n) = true := by
  have h0 : canB (fun x m => decide (0 ≤ x) && decide (n ≤ m)) t n = true := by
    have key : ∀ (t : Tm) (m : Int), n ≤ m → nodesB t = true → canB (fun x m => decide (0 ≤ x) && decide (n ≤ m)) t m = true := by
      refine Tm.ind fun t ih m hm hn => ?_
      rw [canB_iff]
      exact ⟨fun _ => by simpa using ⟨node_head (node_here hn), hm⟩, fun i hi => ih _ (arg_mem hi) _ (by omega) (node_args hn i hi)⟩
    exact key t n (Int.le_refl n) h
  refine nodesB_map (fun x m hx => ?_) t n (canB_and t n h0 hc) h
  simp only [Bool.and_eq_true, decide_eq_true_eq, pDn, Bool.or_eq_true] at hx
  unfold gDn
  split <;> omega
end Go.Proofs.Ytmemmdfjlhamfaa
