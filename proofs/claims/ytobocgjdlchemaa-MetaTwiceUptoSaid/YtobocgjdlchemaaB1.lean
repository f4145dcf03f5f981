/- Terms as data; states told by their slots. -/
import Derived.Test.YtobocgjdlchemaaKY
set_option linter.unusedSimpArgs false
namespace Go.Proofs.Ytobocgjdlchemaa
open Go.Proofs

/-- Terms. -/
inductive Tm where
  | mk (kind head : Int) (args : List Tm)
  deriving Inhabited
def Tm.kind : Tm → Int | .mk k _ _ => k
def Tm.head : Tm → Int | .mk _ h _ => h
def Tm.args : Tm → List Tm | .mk _ _ l => l
def enc : Tm → Dv
  | .mk k h l => .agg [.int .i64 k, .int .i64 h, .slc (l.attach.map fun x => enc x.1)]
decreasing_by
  have := List.sizeOf_lt_of_mem x.2
  simp only [Tm.mk.sizeOf_spec]
  omega
def encs (l : List Tm) : List Dv := l.map enc
theorem enc_mk (k h : Int) (l : List Tm) : enc (.mk k h l) = .agg [.int .i64 k, .int .i64 h, .slc (encs l)] := by
  rw [enc]
  simp [encs]
theorem encs_length (l : List Tm) : (encs l).length = l.length := by simp [encs]
theorem encs_get (l : List Tm) (i : Nat) : (encs l)[i]? = (l[i]?).map enc := by simp [encs]
theorem encs_append (a b : List Tm) : encs (a ++ b) = encs a ++ encs b := by simp [encs]
theorem encs_take (a : List Tm) (n : Nat) : encs (a.take n) = (encs a).take n := by simp [encs]
theorem encs_drop (a : List Tm) (n : Nat) : encs (a.drop n) = (encs a).drop n := by simp [encs]
theorem enc_width (t : Tm) : (enc t).width = 3 := by cases t; rw [enc_mk]; rfl
theorem encs_all (l : List Tm) : ((encs l).all fun x => x.width == 3) = true := by
  simp [encs, enc_width]
theorem enc_cells (t : Tm) : (enc t).cells = [.int .i64 t.kind, .int .i64 t.head, .slc (encs t.args)] := by cases t; rw [enc_mk]; rfl
theorem enc_eq (t : Tm) : enc t = .agg [.int .i64 t.kind, .int .i64 t.head, .slc (encs t.args)] := by cases t; rw [enc_mk]; rfl

theorem cells_enc (t : Tm) : AV.cells (.d (enc t)) = [.d (.int .i64 t.kind), .d (.int .i64 t.head), .d (.slc (encs t.args))] := by rw [enc_eq]; rfl
theorem encs_snoc {l : List Tm} {i : Nat} (h : i < l.length) : encs (l.take i) ++ [enc l[i]] = encs (l.take (i + 1)) := by
  rw [List.take_add_one, List.getElem?_eq_getElem h, encs_append]; rfl
theorem encs_take_len {l : List Tm} {i : Nat} (h : i ≤ l.length) : (encs (l.take i)).length = i := by simp [encs]; omega
theorem enc_fold (t : Tm) : Dv.agg [.int .i64 t.kind, .int .i64 t.head, .slc (encs t.args)] = enc t := (enc_eq t).symm
theorem wrap_ok {n : Int} (h1 : -9223372036854775808 ≤ n) (h2 : n ≤ 9223372036854775807) : IntKind.wrap .i64 n = n := by
  simp only [IntKind.wrap, IntKind.signed, IntKind.bits]
  simp
  omega
theorem wrap_succ {n : Nat} (h : n < 9223372036854775807) : IntKind.wrap .i64 ((n : Int) + 1) = ((n + 1 : Nat) : Int) := by
  rw [wrap_ok (by omega) (by omega)]; omega
theorem lt_true {i n : Nat} (h : i < n) : decide ((i : Int) < (n : Int)) = true := by simpa using h
theorem lt_false {i n : Nat} (h : n ≤ i) : decide ((i : Int) < (n : Int)) = false := by simpa using h
set_option linter.unusedVariables false in
theorem Tm.ind {P : Tm → Prop} (h : ∀ t : Tm, (∀ x ∈ t.args, P x) → P t) : ∀ t : Tm, P t
  | .mk k hd l => h _ fun x hx => Tm.ind h x
decreasing_by
  have := List.sizeOf_lt_of_mem hx
  simp only [Tm.mk.sizeOf_spec, Tm.args] at *
  omega
def Tm.size : Tm → Nat
  | .mk _ _ l => 1 + (l.attach.map fun x => x.1.size).sum
decreasing_by
  have := List.sizeOf_lt_of_mem x.2
  simp only [Tm.mk.sizeOf_spec]
  omega
theorem size_eq (t : Tm) : t.size = 1 + (t.args.map Tm.size).sum := by
  cases t
  rw [Tm.size]
  simp [Tm.args]
def Tm.depth : Tm → Nat
  | .mk _ _ l => 1 + (l.attach.map fun x => x.1.depth).foldr max 0
decreasing_by
  have := List.sizeOf_lt_of_mem x.2
  simp only [Tm.mk.sizeOf_spec]
  omega
theorem depth_eq (t : Tm) : t.depth = 1 + (t.args.map Tm.depth).foldr max 0 := by
  cases t
  rw [Tm.depth]
  simp [Tm.args]
theorem sum_mem {l : List Nat} {n : Nat} (h : n ∈ l) : n ≤ l.sum := by
  induction l with
  | nil => cases h
  | cons a l ih =>
    simp only [List.sum_cons]
    rcases List.mem_cons.1 h with rfl | h
    · omega
    · have := ih h; omega
theorem size_arg {t x : Tm} (h : x ∈ t.args) : x.size < t.size := by
  rw [size_eq t]
  have := sum_mem (List.mem_map_of_mem (f := Tm.size) h)
  omega
theorem size_pos (t : Tm) : 0 < t.size := by rw [size_eq]; omega
theorem len_sum (l : List Tm) : l.length ≤ (l.map Tm.size).sum := by
  induction l with
  | nil => simp
  | cons a l ih => have := size_pos a; simp only [List.map_cons, List.sum_cons, List.length_cons]; omega
theorem len_size (t : Tm) : t.args.length < t.size := by
  rw [size_eq]; have := len_sum t.args; omega
/-! ### loops -/
def allB : Nat → (Nat → Bool) → Bool
  | 0, _ => true
  | n + 1, p => p 0 && allB n fun i => p (i + 1)
theorem allB_iff : ∀ (n : Nat) (p : Nat → Bool), allB n p = true ↔ ∀ i, i < n → p i = true
  | 0, p => by simp [allB]
  | n + 1, p => by
    simp only [allB, Bool.and_eq_true, allB_iff n]
    constructor
    · rintro ⟨h0, h⟩ i hi
      cases i with
      | zero => exact h0
      | succ i => exact h i (by omega)
    · intro h
      exact ⟨h 0 (by omega), fun i hi => h (i + 1) (by omega)⟩
theorem allB_first : ∀ (n : Nat) (p : Nat → Bool), allB n p = false → ∃ j, j < n ∧ p j = false ∧ ∀ i, i < j → p i = true
  | 0, p, h => by simp [allB] at h
  | n + 1, p, h => by
    simp only [allB, Bool.and_eq_false_iff] at h
    by_cases h0 : p 0 = false
    · exact ⟨0, by omega, h0, by omega⟩
    · obtain ⟨j, h1, h2, h3⟩ := allB_first n _ (h.resolve_left h0)
      refine ⟨j + 1, by omega, h2, fun i hi => ?_⟩
      cases i with
      | zero => simpa using h0
      | succ i => exact h3 i (by omega)
theorem allB_congr {n : Nat} {p q : Nat → Bool} (h : ∀ i, i < n → p i = q i) : allB n p = allB n q := by
  rw [Bool.eq_iff_iff, allB_iff, allB_iff]
  exact ⟨fun k i hi => h i hi ▸ k i hi, fun k i hi => (h i hi).symm ▸ k i hi⟩
/-- A loop that ends early where something is not so. -/
theorem loop_all {f : Nat} {b : Code} (S : Nat → St) (n : Nat) (p : Nat → Bool) {E R : Ex × St} (h : ∀ i, i < n → p i = true → (lim C).code f b (S i) = some (.nor, S (i + 1)))
    (hr : ∀ i, i < n → p i = false → (lim C).code f b (S i) = some R) (he : (lim C).code f b (S n) = some E) (hR : R.1 ≠ .nor) (hE : E.1 ≠ .nor) :
    (lim C).code f (.loop b) (S 0) = some (if allB n p then E else R) := by
  by_cases hall : allB n p = true
  · rw [if_pos hall]
    exact loop_run S n (fun i hi => h i hi ((allB_iff n p).1 hall i hi)) he hE
  · rw [if_neg hall]
    obtain ⟨j, h1, h2, h3⟩ := allB_first n p (by simpa using hall)
    exact loop_run S j (fun i hi => h i (by omega) (h3 i hi)) (hr j h1 h2) hR
def Tm.arg (t : Tm) (i : Nat) : Tm := t.args.getD i default
theorem arg_get {t : Tm} {i : Nat} (h : i < t.args.length) : t.args[i]? = some (t.arg i) := by
  simp [Tm.arg, List.getD, List.getElem?_eq_getElem h]
theorem arg_mem {t : Tm} {i : Nat} (h : i < t.args.length) : t.arg i ∈ t.args := List.mem_of_getElem? (arg_get h)
theorem arg_eq {t : Tm} {i : Nat} (h : i < t.args.length) : t.args[i] = t.arg i := by
  have := arg_get h
  rw [List.getElem?_eq_getElem h] at this
  simpa using this
def cel3 (t : Tm) : List AV := [.d (.int .i64 t.kind), .d (.int .i64 t.head), .d (.slc (encs t.args))]
abbrev dI (n : Int) : AV := .d (.int .i64 n)
abbrev dB (b : Bool) : AV := .d (.bool b)
abbrev dT (t : Tm) : AV := .d (enc t)
abbrev dL (l : List Tm) : AV := .d (.slc (encs l))
/-- How long a law's input may be, and what it comes to. -/
abbrev retI (n : Int) : Option (CR × List HO) := some (.ret (dI n), [])
abbrev retB (b : Bool) : Option (CR × List HO) := some (.ret (dB b), [])

theorem field_kind (P : Program) (t : Nat) (r : Tm) (h : tag P t = some false) : fieldK P (some (0, 1, t)) (.d (enc r)) = some (.val (.d (.int .i64 r.kind))) := by
  rw [enc_eq]; simp [fieldK, h]
theorem field_head (P : Program) (t : Nat) (r : Tm) (h : tag P t = some false) : fieldK P (some (1, 1, t)) (.d (enc r)) = some (.val (.d (.int .i64 r.head))) := by
  rw [enc_eq]; simp [fieldK, h]
theorem field_args (P : Program) (t : Nat) (r : Tm) (h : tag P t = some false) : fieldK P (some (2, 1, t)) (.d (enc r)) = some (.val (.d (.slc (encs r.args)))) := by
  rw [enc_eq]; simp [fieldK, h]
/-- A slice that grows: none yet, or its own. -/
def acc (t : Nat) : List Dv → AV
  | [] => .clip []
  | x :: xs => .own t (x :: xs)
def accT (n : Nat) : List (Option Nat) := match n with
  | 0 => []
  | n + 1 => [some (n + 1)]
theorem mApp_acc (xs : List Dv) (y : Dv) (sz : Nat) (locs : List (Option (List AV))) (heap : List HO) (hr : xs.length < room) (hx : (xs.all fun x => x.width == sz) = true) (hy : y.width = sz) :
    mApp (acc 0 xs) [y] sz { locs := locs, heap := heap, toks := accT xs.length } = some (.v (acc 0 (xs ++ [y])), { locs := locs, heap := heap, toks := accT (xs.length + 1) }) := by
  cases xs with
  | nil =>
    simp only [acc, mApp, accT, List.length_nil]
    simp [appOwn, acc, hy, room]
  | cons x xs =>
    simp only [acc, mApp, accT, List.length_cons]
    have : xs.length + 1 + 1 ≤ room := hr
    simp only [appOwn]
    simp [this, acc, hy]
    simpa using hx
theorem app_first (ys : List Dv) (sz : Nat) (locs : List (Option (List AV))) (heap : List HO) (hr : ys.length ≤ room) (hw : (ys.all fun x => x.width == sz) = true) (hg : (ys.isEmpty && !(sz == 3)) = false := by simp) :
    mApp (.clip []) ys sz { locs := locs, heap := heap, toks := [] } = some (.v (.own 0 ys), { locs := locs, heap := heap, toks := [some ys.length] }) := by
  simp only [mApp, appOwn, List.length_nil, List.nil_append, Nat.zero_add, List.isEmpty_nil, Bool.true_and, hg, Bool.false_eq_true, if_false]
  simp only [hr, hw]
  simp
/-- What is appended to nothing, of any width but 3: nothing, or its own. -/
theorem app_any (ys : List Dv) (sz : Nat) (h3 : (sz == 3) = false) (locs : List (Option (List AV))) (heap : List HO) (hr : ys.length ≤ room) (hw : (ys.all fun x => x.width == sz) = true) :
    mApp (.clip []) ys sz { locs := locs, heap := heap, toks := [] } = some (.v (acc 0 ys), { locs := locs, heap := heap, toks := accT ys.length }) := by
  cases ys with
  | nil => simp [mApp, h3, acc, accT]
  | cons y ys => exact app_first (y :: ys) sz locs heap hr hw (by simp)
theorem app_any2 (xs ys : List Dv) (sz : Nat) (h3 : (sz == 3) = false) (locs : List (Option (List AV))) (heap : List HO) (hr : xs.length + ys.length ≤ room) (hx : (xs.all fun x => x.width == sz) = true) (hw : (ys.all fun x => x.width == sz) = true) :
    mApp (acc 0 xs) ys sz { locs := locs, heap := heap, toks := accT xs.length } = some (.v (acc 0 (xs ++ ys)), { locs := locs, heap := heap, toks := accT (xs ++ ys).length }) := by
  cases xs with
  | nil => exact app_any ys sz h3 locs heap (by simpa using hr) hw
  | cons x xs =>
    have hlen : (x :: xs ++ ys).length = (x :: xs).length + ys.length := List.length_append
    show mApp (.own 0 (x :: xs)) ys sz { locs := locs, heap := heap, toks := [some (x :: xs).length] } = some (.v (.own 0 (x :: xs ++ ys)), { locs := locs, heap := heap, toks := [some (x :: xs ++ ys).length] })
    rw [hlen]
    simp only [mApp, appOwn, List.isEmpty_cons, Bool.false_and, Bool.false_eq_true, if_false]
    simp only [hr, hx, hw]
    simp
theorem app_more (xs ys : List Dv) (sz : Nat) (hg : (xs.isEmpty && !(sz == 3)) = false) (locs : List (Option (List AV))) (heap : List HO) (hr : xs.length + ys.length ≤ room) (hx : (xs.all fun x => x.width == sz) = true) (hw : (ys.all fun x => x.width == sz) = true) :
    mApp (.own 0 xs) ys sz { locs := locs, heap := heap, toks := [some xs.length] } = some (.v (.own 0 (xs ++ ys)), { locs := locs, heap := heap, toks := [some (xs.length + ys.length)] }) := by
  simp only [mApp, appOwn, hg]
  simp only [hr, hx, hw]
  simp
theorem acc_sl (t : Nat) (xs : List Dv) : (acc t xs).sl = some xs := by cases xs <;> rfl
theorem acc_okA (t : Nat) (xs : List Dv) : (acc t xs).okA = true := by cases xs <;> rfl
theorem acc_toDv (t : Nat) (xs : List Dv) : (acc t xs).toDv = some (.slc xs) := by cases xs <;> rfl
theorem acc_flat (t : Nat) (xs : List Dv) : (acc t xs).flat = true := by cases xs <;> rfl
theorem acc_cells (t : Nat) (xs : List Dv) : (acc t xs).cells = [acc t xs] := by cases xs <;> rfl
theorem acc_inv (t : Nat) (ps : List Nat) (xs : List Dv) : (acc t xs).inv ps = acc t xs := by cases xs <;> rfl
attribute [go_sem] field_kind field_head field_args
attribute [go_sem] acc_sl acc_okA acc_toDv acc_flat acc_cells acc_inv encs_length enc_width enc_cells encs_get enc_fold cells_enc cel3
end Go.Proofs.Ytobocgjdlchemaa
/- What the functions of layer 1 come to: in plain words. -/
namespace Go.Proofs.Ytobocgjdlchemaa
def bnd (t : Tm) (i : Nat) : Nat := if (t.kind = 1 ∨ t.kind = 3) ∧ i + 1 = t.args.length then 1 else 0
theorem bnd_le (t : Tm) (i : Nat) : bnd t i ≤ 1 := by unfold bnd; split <;> omega
def lowB : Tm → Bool
  | .mk _ h l => decide (h ≤ 1099511627776) && allB l.length fun i => if hi : i < l.length then lowB l[i] else true
decreasing_by
  have := List.sizeOf_lt_of_mem (List.getElem_mem hi)
  simp only [Tm.mk.sizeOf_spec]
  omega
theorem lowB_eq (t : Tm) : lowB t = (decide (t.head ≤ 1099511627776) && allB t.args.length fun i => lowB (t.arg i)) := by
  obtain ⟨k, h, l⟩ := t
  rw [lowB]
  congr 1
  refine allB_congr fun i hi => ?_
  have := arg_eq (t := .mk k h l) hi
  simp only [Tm.args] at this
  simp [hi, this]
def nodeOk (t : Tm) : Bool :=
  if t.kind = 0 then t.head == 0 && t.args.length == 0
  else if t.kind = 1 then t.head == 0 && t.args.length == 2
  else if t.kind = 3 then t.head == 0 && t.args.length == 1
  else decide (0 ≤ t.kind) && decide (t.kind < 7) && decide (0 ≤ t.head)
def nodesB : Tm → Bool
  | .mk k h l => nodeOk (.mk k h l) && allB l.length fun i => if hi : i < l.length then nodesB l[i] else true
decreasing_by
  have := List.sizeOf_lt_of_mem (List.getElem_mem hi)
  simp only [Tm.mk.sizeOf_spec]
  omega
theorem nodesB_eq (t : Tm) : nodesB t = (nodeOk t && allB t.args.length fun i => nodesB (t.arg i)) := by
  obtain ⟨k, h, l⟩ := t
  rw [nodesB]
  congr 1
  refine allB_congr fun i hi => ?_
  have := arg_eq (t := .mk k h l) hi
  simp only [Tm.args] at this
  simp [hi, this]
def scopedB : Tm → Int → Int → Bool
  | .mk k h l, v, m => !(k == 4 && decide (h ≥ v) || k == 6 && decide (h ≥ m)) && allB l.length fun i => if hi : i < l.length then scopedB l[i] (v + bnd (.mk k h l) i) m else true
decreasing_by
  have := List.sizeOf_lt_of_mem (List.getElem_mem hi)
  simp only [Tm.mk.sizeOf_spec]
  omega
theorem scopedB_eq (t : Tm) (v m : Int) : scopedB t v m = (!(t.kind == 4 && decide (t.head ≥ v) || t.kind == 6 && decide (t.head ≥ m)) && allB t.args.length fun i => scopedB (t.arg i) (v + bnd t i) m) := by
  obtain ⟨k, h, l⟩ := t
  rw [scopedB]
  congr 1
  refine allB_congr fun i hi => ?_
  have := arg_eq (t := .mk k h l) hi
  simp only [Tm.args] at this
  simp [hi, this]
def sameB : Tm → Tm → Bool
  | .mk k h l, u => k == u.kind && h == u.head && l.length == u.args.length && allB l.length fun i => if hi : i < l.length then sameB l[i] (u.arg i) else true
decreasing_by
  have := List.sizeOf_lt_of_mem (List.getElem_mem hi)
  simp only [Tm.mk.sizeOf_spec]
  omega
theorem sameB_eq (t u : Tm) : sameB t u = (t.kind == u.kind && t.head == u.head && t.args.length == u.args.length && allB t.args.length fun i => sameB (t.arg i) (u.arg i)) := by
  obtain ⟨k, h, l⟩ := t
  rw [sameB]
  congr 1
  refine allB_congr fun i hi => ?_
  have := arg_eq (t := .mk k h l) hi
  simp only [Tm.args] at this
  simp [hi, this]
theorem sameB_refl : ∀ t : Tm, sameB t t = true := by
  refine Tm.ind fun t ih => ?_
  rw [sameB_eq]
  simp only [beq_self_eq_true, Bool.true_and, allB_iff]
  exact fun i hi => ih _ (arg_mem hi)
theorem sameB_comm : ∀ t u : Tm, sameB t u = sameB u t := by
  refine Tm.ind fun t ih u => ?_
  rw [sameB_eq, sameB_eq u t]
  by_cases h : t.args.length = u.args.length
  · rw [← h]
    rw [allB_congr (q := fun i => sameB (u.arg i) (t.arg i)) fun i hi => ih _ (arg_mem hi) _]
    rw [Bool.beq_comm (a := t.kind), Bool.beq_comm (a := t.head)]
  · have h1 : (t.args.length == u.args.length) = false := by simpa using h
    have h2 : (u.args.length == t.args.length) = false := by simpa using Ne.symm h
    simp [h1, h2]
def mayB (t : Tm) : Bool := nodesB t && decide (t.size ≤ 4000) && decide (t.depth ≤ 60)
def lightB (t : Tm) (s d : Int) : Bool := lowB t && decide ((t.size : Int) ≤ s) && decide ((t.depth : Int) ≤ d)
end Go.Proofs.Ytobocgjdlchemaa
/- What walks over a term come to. -/
namespace Go.Proofs.Ytobocgjdlchemaa
def bindsB (t : Tm) : Bool := t.kind == 1 || t.kind == 3
def runL {α S R : Type} (step : S → α → Except R S) : List α → S → Except R S
  | [], s => .ok s
  | x :: xs, s => match step s x with
    | .ok s' => runL step xs s'
    | .error r => .error r
theorem runL_append {α S R : Type} (step : S → α → Except R S) : ∀ (a b : List α) (s : S), runL step (a ++ b) s = match runL step a s with
    | .ok s' => runL step b s'
    | .error r => .error r
  | [], b, s => rfl
  | x :: a, b, s => by
    simp only [List.cons_append, runL]
    cases step s x with
    | ok s' => exact runL_append step a b s'
    | error r => rfl
def preF (go : Tm → Int → List (Int × Tm)) (t : Tm) (n : Int) : Nat → Nat → List (Int × Tm)
  | 0, _ => []
  | k + 1, i => go (t.arg i) (n + bnd t i) ++ preF go t n k (i + 1)
/-- All nodes of a term, with how many nodes bind around each. -/
def pre : Tm → Int → List (Int × Tm)
  | .mk k h l, n => (n, .mk k h l) :: (List.range l.length).flatMap fun i => if hi : i < l.length then pre l[i] (n + bnd (.mk k h l) i) else []
decreasing_by
  have := List.sizeOf_lt_of_mem (List.getElem_mem hi)
  simp only [Tm.mk.sizeOf_spec]
  omega
theorem preF_flat (t : Tm) (n : Int) : ∀ k i, preF pre t n k i = (List.range' i k).flatMap fun j => pre (t.arg j) (n + bnd t j)
  | 0, i => rfl
  | k + 1, i => by simp only [preF, preF_flat t n k, List.range'_succ, List.flatMap_cons]
theorem flatMap_congr' {α β : Type} {l : List α} {f g : α → List β} (h : ∀ x ∈ l, f x = g x) : l.flatMap f = l.flatMap g := by
  induction l with
  | nil => rfl
  | cons a l ih => rw [List.flatMap_cons, List.flatMap_cons, h a (by simp), ih fun x hx => h x (by simp [hx])]
theorem pre_eq (t : Tm) (n : Int) : pre t n = (n, t) :: preF pre t n t.args.length 0 := by
  obtain ⟨k, h, l⟩ := t
  rw [pre, preF_flat]
  congr 1
  rw [List.range_eq_range']
  refine flatMap_congr' fun i hi => ?_
  have hi' : i < l.length := by simp at hi; exact hi
  have := arg_eq (t := .mk k h l) hi'
  simp only [Tm.args] at this
  simp [hi', this]
theorem preF_len (t : Tm) (n : Int) (h : ∀ x ∈ t.args, ∀ m, (pre x m).length = x.size) : ∀ k i, i + k = t.args.length → (preF pre t n k i).length = ((t.args.drop i).map Tm.size).sum
  | 0, i, e => by rw [List.drop_eq_nil_of_le (by omega)]; rfl
  | k + 1, i, e => by
    have hi : i < t.args.length := by omega
    rw [preF, List.length_append, preF_len t n h k (i + 1) (by omega), h _ (arg_mem hi), List.drop_eq_getElem_cons hi, arg_eq hi]
    simp
theorem pre_len : ∀ (t : Tm) (n : Int), (pre t n).length = t.size := by
  refine Tm.ind fun t ih n => ?_
  rw [pre_eq, List.length_cons, preF_len t n (fun x hx m => ih x hx m) _ _ (by omega), size_eq]
  simp; omega
theorem pre_sub {t : Tm} {n : Int} {i : Nat} (hi : i < t.args.length) {p : Int × Tm} (hp : p ∈ pre (t.arg i) (n + bnd t i)) : p ∈ pre t n := by
  rw [pre_eq, preF_flat]
  refine List.mem_cons_of_mem _ (List.mem_flatMap.2 ⟨i, ?_, hp⟩)
  simpa using hi
theorem pre_ind {P : Int × Tm → Prop} {t : Tm} {n : Int} (h0 : P (n, t)) (h : ∀ i, i < t.args.length → ∀ p ∈ pre (t.arg i) (n + bnd t i), P p) : ∀ p ∈ pre t n, P p := by
  rw [pre_eq, preF_flat]
  intro p hp
  rcases List.mem_cons.1 hp with rfl | hp
  · exact h0
  · obtain ⟨i, hi, hp⟩ := List.mem_flatMap.1 hp
    exact h i (by simpa using hi) p hp
theorem pre_size : ∀ (t : Tm) (n : Int), ∀ p ∈ pre t n, p.2.size ≤ t.size := by
  refine Tm.ind fun t ih n => pre_ind (Nat.le_refl _) fun i hi p hp => ?_
  have := ih _ (arg_mem hi) _ p hp
  have := size_arg (arg_mem hi)
  omega
theorem pre_around : ∀ (t : Tm) (n : Int), ∀ p ∈ pre t n, n ≤ p.1 ∧ p.1 ≤ n + t.size := by
  refine Tm.ind fun t ih n => pre_ind (by constructor <;> simp only <;> omega) fun i hi p hp => ?_
  have h1 := ih _ (arg_mem hi) _ p hp
  have h2 := size_arg (arg_mem hi)
  have h3 := bnd_le t i
  constructor <;> omega
end Go.Proofs.Ytobocgjdlchemaa
/- Terms whose variables are renumbered: in plain words. -/
set_option linter.unusedVariables false
namespace Go.Proofs.Ytobocgjdlchemaa
theorem mk_kind (k h : Int) (l : List Tm) : (Tm.mk k h l).kind = k := rfl
theorem mk_head (k h : Int) (l : List Tm) : (Tm.mk k h l).head = h := rfl
theorem mk_args (k h : Int) (l : List Tm) : (Tm.mk k h l).args = l := rfl
theorem mk_size (k h : Int) (l : List Tm) : (Tm.mk k h l).size = 1 + (l.map Tm.size).sum := by rw [size_eq]; rfl
theorem mk_self (t : Tm) : Tm.mk t.kind t.head t.args = t := by cases t; rfl
theorem tm_ext {t u : Tm} (h1 : t.kind = u.kind) (h2 : t.head = u.head) (h3 : t.args.length = u.args.length) (h4 : ∀ i, i < t.args.length → t.arg i = u.arg i) : t = u := by
  rw [← mk_self t, ← mk_self u, h1, h2]
  congr 1
  refine List.ext_getElem h3 fun i hi hj => ?_
  rw [arg_eq hi, arg_eq hj]
  exact h4 i hi
theorem may_parts {t : Tm} (h : mayB t = true) : nodesB t = true ∧ t.size ≤ 4000 ∧ t.depth ≤ 60 := by
  unfold mayB at h
  simp only [Bool.and_eq_true, decide_eq_true_eq] at h
  exact ⟨h.1.1, h.1.2, h.2⟩
theorem may_of {t : Tm} (h1 : nodesB t = true) (h2 : t.size ≤ 4000) (h3 : t.depth ≤ 60) : mayB t = true := by
  unfold mayB
  simp [h1, h2, h3]
theorem depth_arg {t x : Tm} (h : x ∈ t.args) : x.depth < t.depth := by
  rw [depth_eq t]
  have : ∀ l : List Tm, x ∈ l → x.depth ≤ (l.map Tm.depth).foldr max 0 := by
    intro l
    induction l with
    | nil => intro h; cases h
    | cons a l ih =>
      intro h
      simp only [List.map_cons, List.foldr_cons]
      rcases List.mem_cons.1 h with rfl | h
      · omega
      · have := ih h; omega
  have := this _ h
  omega
theorem node_args {t : Tm} (h : nodesB t = true) : ∀ i, i < t.args.length → nodesB (t.arg i) = true := by
  rw [nodesB_eq, Bool.and_eq_true, allB_iff] at h
  exact h.2
theorem node_here {t : Tm} (h : nodesB t = true) : nodeOk t = true := by
  rw [nodesB_eq, Bool.and_eq_true] at h
  exact h.1
theorem low_args {t : Tm} (h : lowB t = true) : ∀ i, i < t.args.length → lowB (t.arg i) = true := by
  rw [lowB_eq, Bool.and_eq_true, allB_iff] at h
  exact h.2
theorem low_here {t : Tm} (h : lowB t = true) : t.head ≤ 1099511627776 := by
  rw [lowB_eq, Bool.and_eq_true] at h
  exact of_decide_eq_true h.1
theorem node_head {t : Tm} (h : nodeOk t = true) : 0 ≤ t.head := by
  unfold nodeOk at h
  split at h
  · simp at h; omega
  · split at h
    · simp at h; omega
    · split at h
      · simp at h; omega
      · simp at h; omega
/-- A term whose variables are others: by how many bind around. -/
def mapT (g : Int → Int → Int) : Tm → Int → Tm
  | .mk k h l, n => .mk k (if k == 4 then g h n else h) ((List.range l.length).map fun i => if hi : i < l.length then mapT g l[i] (n + bnd (.mk k h l) i) else default)
decreasing_by
  have := List.sizeOf_lt_of_mem (List.getElem_mem hi)
  simp only [Tm.mk.sizeOf_spec]
  omega
theorem mapT_eq (g : Int → Int → Int) (t : Tm) (n : Int) : mapT g t n = .mk t.kind (if t.kind == 4 then g t.head n else t.head) ((List.range t.args.length).map fun i => mapT g (t.arg i) (n + bnd t i)) := by
  obtain ⟨k, h, l⟩ := t
  rw [mapT]
  congr 1
  refine List.map_congr_left fun i hi => ?_
  have hi' : i < l.length := by simpa using hi
  have := arg_eq (t := .mk k h l) hi'
  simp only [Tm.args] at this
  simp [hi', this]
theorem mapT_kind (g : Int → Int → Int) (t : Tm) (n : Int) : (mapT g t n).kind = t.kind := by rw [mapT_eq]; rfl
theorem mapT_head (g : Int → Int → Int) (t : Tm) (n : Int) : (mapT g t n).head = if t.kind == 4 then g t.head n else t.head := by rw [mapT_eq]; rfl
theorem mapT_len (g : Int → Int → Int) (t : Tm) (n : Int) : (mapT g t n).args.length = t.args.length := by rw [mapT_eq, mk_args]; simp
theorem mapT_arg (g : Int → Int → Int) {t : Tm} (n : Int) {i : Nat} (hi : i < t.args.length) : (mapT g t n).arg i = mapT g (t.arg i) (n + bnd t i) := by
  rw [mapT_eq]
  simp [Tm.arg, mk_args, List.getD, hi]
theorem mapT_bnd (g : Int → Int → Int) (t : Tm) (n : Int) (i : Nat) : bnd (mapT g t n) i = bnd t i := by
  unfold bnd
  rw [mapT_kind, mapT_len]
theorem mapT_args (g : Int → Int → Int) (t : Tm) (n : Int) : (mapT g t n).args = (List.range t.args.length).map fun i => mapT g (t.arg i) (n + bnd t i) := by rw [mapT_eq, mk_args]
theorem range_map {α β : Type} {f : α → β} {l : List α} {d : Nat → α} (h : ∀ i (hi : i < l.length), l[i] = d i) : (List.range l.length).map (fun i => f (d i)) = l.map f := by
  refine List.ext_getElem (by simp) fun i h1 h2 => ?_
  simp only [List.getElem_map, List.getElem_range]
  rw [h i (by simpa using h2)]
theorem args_map {β : Type} (f : Tm → β) (t : Tm) : (List.range t.args.length).map (fun i => f (t.arg i)) = t.args.map f := range_map fun i hi => arg_eq hi
theorem mapT_size (g : Int → Int → Int) : ∀ (t : Tm) (n : Int), (mapT g t n).size = t.size := by
  refine Tm.ind fun t ih n => ?_
  rw [size_eq, size_eq t, mapT_args, List.map_map, ← args_map]
  congr 2
  refine List.map_congr_left fun i hi => ?_
  exact ih _ (arg_mem (by simpa using hi)) _
theorem mapT_depth (g : Int → Int → Int) : ∀ (t : Tm) (n : Int), (mapT g t n).depth = t.depth := by
  refine Tm.ind fun t ih n => ?_
  rw [depth_eq, depth_eq t, mapT_args, List.map_map, ← args_map]
  congr 2
  refine List.map_congr_left fun i hi => ?_
  exact ih _ (arg_mem (by simpa using hi)) _
/-- Whether all variables of a term are so. -/
def canB (p : Int → Int → Bool) : Tm → Int → Bool
  | .mk k h l, n => (k != 4 || p h n) && allB l.length fun i => if hi : i < l.length then canB p l[i] (n + bnd (.mk k h l) i) else true
decreasing_by
  have := List.sizeOf_lt_of_mem (List.getElem_mem hi)
  simp only [Tm.mk.sizeOf_spec]
  omega
theorem canB_eq (p : Int → Int → Bool) (t : Tm) (n : Int) : canB p t n = ((t.kind != 4 || p t.head n) && allB t.args.length fun i => canB p (t.arg i) (n + bnd t i)) := by
  obtain ⟨k, h, l⟩ := t
  rw [canB]
  congr 1
  refine allB_congr fun i hi => ?_
  have := arg_eq (t := .mk k h l) hi
  simp only [Tm.args] at this
  simp [hi, this]
theorem canB_iff {p : Int → Int → Bool} {t : Tm} {n : Int} : canB p t n = true ↔ (t.kind = 4 → p t.head n = true) ∧ ∀ i, i < t.args.length → canB p (t.arg i) (n + bnd t i) = true := by
  rw [canB_eq, Bool.and_eq_true, allB_iff, Bool.or_eq_true, bne_iff_ne, ne_eq]
  constructor
  · rintro ⟨h1, h2⟩
    exact ⟨fun h => h1.resolve_left fun e => e h, h2⟩
  · rintro ⟨h1, h2⟩
    refine ⟨?_, h2⟩
    by_cases h : t.kind = 4
    · exact .inr (h1 h)
    · exact .inl h
theorem canB_mono {p q : Int → Int → Bool} (n0 : Int) (h : ∀ x m, n0 ≤ m → p x m = true → q x m = true) : ∀ (t : Tm) (n : Int), n0 ≤ n → canB p t n = true → canB q t n = true := by
  refine Tm.ind fun t ih n hn hc => ?_
  rw [canB_iff] at hc ⊢
  exact ⟨fun hk => h _ _ hn (hc.1 hk), fun i hi => ih _ (arg_mem hi) _ (by omega) (hc.2 i hi)⟩
theorem canB_and {p q : Int → Int → Bool} : ∀ (t : Tm) (n : Int), canB p t n = true → canB q t n = true → canB (fun x m => p x m && q x m) t n = true := by
  refine Tm.ind fun t ih n hc hd => ?_
  rw [canB_iff] at hc hd ⊢
  exact ⟨fun hk => by rw [hc.1 hk, hd.1 hk]; rfl, fun i hi => ih _ (arg_mem hi) _ (hc.2 i hi) (hd.2 i hi)⟩
/-- All variables of what may be are at least 0, and at most so great. -/
theorem canB_low : ∀ (t : Tm) (n : Int), nodesB t = true → lowB t = true → canB (fun x m => decide (0 ≤ x) && decide (x ≤ 1099511627776) && decide (n ≤ m)) t n = true := by
  have key : ∀ (t : Tm) (n0 n : Int), n0 ≤ n → nodesB t = true → lowB t = true → canB (fun x m => decide (0 ≤ x) && decide (x ≤ 1099511627776) && decide (n0 ≤ m)) t n = true := by
    refine Tm.ind fun t ih n0 n hn hc hl => ?_
    rw [canB_iff]
    refine ⟨fun _ => ?_, fun i hi => ih _ (arg_mem hi) _ _ (by omega) (node_args hc i hi) (low_args hl i hi)⟩
    have h1 := node_head (node_here hc)
    have h2 := low_here hl
    simp [h1, h2, hn]
  exact fun t n => key t n n (Int.le_refl n)
theorem mapT_congr {g g' : Int → Int → Int} {p : Int → Int → Bool} (h : ∀ x m, p x m = true → g x m = g' x m) : ∀ (t : Tm) (n : Int), canB p t n = true → mapT g t n = mapT g' t n := by
  refine Tm.ind fun t ih n hc => ?_
  rw [canB_iff] at hc
  rw [mapT_eq, mapT_eq g']
  congr 1
  · cases hk : (t.kind == 4)
    · rfl
    · rw [if_pos rfl, if_pos rfl, h _ _ (hc.1 (by simpa using hk))]
  · refine List.map_congr_left fun i hi => ?_
    have hi' : i < t.args.length := by simpa using hi
    exact ih _ (arg_mem hi') _ (hc.2 i hi')
theorem mapT_id {g : Int → Int → Int} {p : Int → Int → Bool} (h : ∀ x m, p x m = true → g x m = x) : ∀ (t : Tm) (n : Int), canB p t n = true → mapT g t n = t := by
  refine Tm.ind fun t ih n hc => ?_
  rw [canB_iff] at hc
  refine tm_ext (mapT_kind g t n) ?_ (mapT_len g t n) fun i hi => ?_
  · rw [mapT_head]
    cases hk : (t.kind == 4)
    · rfl
    · rw [if_pos rfl, h _ _ (hc.1 (by simpa using hk))]
  · rw [mapT_len] at hi
    rw [mapT_arg g n hi]
    exact ih _ (arg_mem hi) _ (hc.2 i hi)
theorem canB_true : ∀ (t : Tm) (n : Int), canB (fun _ _ => true) t n = true := by
  refine Tm.ind fun t ih n => ?_
  rw [canB_iff]
  exact ⟨fun _ => rfl, fun i hi => ih _ (arg_mem hi) _⟩
theorem mapT_map (g f : Int → Int → Int) : ∀ (t : Tm) (n : Int), mapT g (mapT f t n) n = mapT (fun x m => g (f x m) m) t n := by
  refine Tm.ind fun t ih n => ?_
  refine tm_ext (by simp only [mapT_kind]) ?_ (by simp only [mapT_len]) fun i hi => ?_
  · simp only [mapT_head, mapT_kind]
    cases (t.kind == 4) <;> rfl
  · simp only [mapT_len] at hi
    rw [mapT_arg _ _ hi, mapT_arg _ _ (by rw [mapT_len]; exact hi), mapT_arg _ _ hi, mapT_bnd]
    exact ih _ (arg_mem hi) _
theorem canB_map (p : Int → Int → Bool) (f : Int → Int → Int) : ∀ (t : Tm) (n : Int), canB p (mapT f t n) n = canB (fun x m => p (f x m) m) t n := by
  refine Tm.ind fun t ih n => ?_
  rw [canB_eq, canB_eq _ t, mapT_kind, mapT_head, mapT_len]
  congr 1
  · cases hk : (t.kind == 4)
    · simp [bne, hk]
    · simp
  · refine allB_congr fun i hi => ?_
    rw [mapT_arg _ _ hi, mapT_bnd]
    exact ih _ (arg_mem hi) _
theorem canB_ext {p q : Int → Int → Bool} (h : ∀ x m, p x m = q x m) (t : Tm) (n : Int) : canB p t n = canB q t n := by
  have : p = q := funext fun x => funext fun m => h x m
  rw [this]
theorem nodeOk_map {g : Int → Int → Int} {t : Tm} {n : Int} (h : nodeOk t = true) (hg : t.kind = 4 → 0 ≤ g t.head n) : nodeOk (mapT g t n) = true := by
  unfold nodeOk at h ⊢
  rw [mapT_kind, mapT_head, mapT_len]
  cases hk : (t.kind == 4)
  · exact h
  · have hk' : t.kind = 4 := by simpa using hk
    have := hg hk'
    simp [hk', this]
theorem nodesB_map {g : Int → Int → Int} {p : Int → Int → Bool} (hg : ∀ x m, p x m = true → 0 ≤ g x m) : ∀ (t : Tm) (n : Int), canB p t n = true → nodesB t = true → nodesB (mapT g t n) = true := by
  refine Tm.ind fun t ih n hc hn => ?_
  rw [canB_iff] at hc
  rw [nodesB_eq, Bool.and_eq_true, allB_iff, mapT_len]
  refine ⟨nodeOk_map (node_here hn) fun hk => hg _ _ (hc.1 hk), fun i hi => ?_⟩
  rw [mapT_arg _ _ hi]
  exact ih _ (arg_mem hi) _ (hc.2 i hi) (node_args hn i hi)
theorem scoped_iff {t : Tm} {v m : Int} : scopedB t v m = true ↔ (t.kind = 4 → t.head < v) ∧ (t.kind = 6 → t.head < m) ∧ ∀ i, i < t.args.length → scopedB (t.arg i) (v + bnd t i) m = true := by
  rw [scopedB_eq, Bool.and_eq_true, allB_iff]
  simp only [Bool.not_eq_true', Bool.or_eq_false_iff, Bool.and_eq_false_iff, beq_eq_false_iff_ne, decide_eq_false_iff_not, ne_eq]
  constructor
  · rintro ⟨⟨h1, h2⟩, h3⟩
    refine ⟨fun e => ?_, fun e => ?_, h3⟩
    · have := h1.resolve_left fun k => k e
      omega
    · have := h2.resolve_left fun k => k e
      omega
  · rintro ⟨h1, h2, h3⟩
    refine ⟨⟨?_, ?_⟩, h3⟩
    · by_cases e : t.kind = 4
      · have := h1 e; right; omega
      · exact .inl e
    · by_cases e : t.kind = 6
      · have := h2 e; right; omega
      · exact .inl e
/-- The variables of a scoped term are so. -/
theorem scoped_can {v M : Int} {n0 : Int} {p : Int → Int → Bool} (h : ∀ x d, 0 ≤ d → x < v + d → p x (n0 + d) = true) {t : Tm} (hs : scopedB t v M = true) : canB p t n0 = true := by
  have key : ∀ (t : Tm) (d : Int), 0 ≤ d → scopedB t (v + d) M = true → canB p t (n0 + d) = true := by
    refine Tm.ind fun t ih d hd hs => ?_
    rw [scoped_iff] at hs
    rw [canB_iff]
    refine ⟨fun hk => h _ _ hd (hs.1 hk), fun i hi => ?_⟩
    have := ih _ (arg_mem hi) (d + bnd t i) (by omega) (by rw [← Int.add_assoc]; exact hs.2.2 i hi)
    rw [Int.add_assoc]; exact this
  have := key t 0 (by omega) (by rw [Int.add_zero]; exact hs)
  rw [Int.add_zero] at this
  exact this
/-- What is scoped, and renumbered, is scoped. -/
theorem scoped_map {v v' M : Int} {n0 : Int} {p : Int → Int → Bool} {g : Int → Int → Int} (h : ∀ x d, 0 ≤ d → x < v + d → p x (n0 + d) = true → g x (n0 + d) < v' + d) {t : Tm} (hs : scopedB t v M = true) (hc : canB p t n0 = true) :
    scopedB (mapT g t n0) v' M = true := by
  have key : ∀ (t : Tm) (d : Int), 0 ≤ d → scopedB t (v + d) M = true → canB p t (n0 + d) = true → scopedB (mapT g t (n0 + d)) (v' + d) M = true := by
    refine Tm.ind fun t ih d hd hs hc => ?_
    rw [scoped_iff] at hs ⊢
    rw [canB_iff] at hc
    rw [mapT_kind, mapT_head, mapT_len]
    refine ⟨fun hk => ?_, fun hk => ?_, fun i hi => ?_⟩
    · simp only [hk, beq_self_eq_true, if_true]
      exact h _ _ hd (hs.1 hk) (hc.1 hk)
    · simp only [hk]
      exact hs.2.1 hk
    · rw [mapT_arg _ _ hi, mapT_bnd]
      have := ih _ (arg_mem hi) (d + bnd t i) (by omega) (by rw [← Int.add_assoc]; exact hs.2.2 i hi) (by rw [← Int.add_assoc]; exact hc.2 i hi)
      rw [Int.add_assoc, Int.add_assoc]
      exact this
  have := key t 0 (by omega) (by rw [Int.add_zero]; exact hs) (by rw [Int.add_zero]; exact hc)
  rw [Int.add_zero, Int.add_zero] at this
  exact this
/-! ### up and down -/
def gUp (by' : Int) (x m : Int) : Int := if x ≥ m then x + by' else x
def gDn (by' : Int) (x m : Int) : Int := if x < m then x else x - by'
def pDn (by' : Int) (x m : Int) : Bool := decide (x < m) || decide (x ≥ m + by')
abbrev upT (t : Tm) (by' from' : Int) : Tm := mapT (gUp by') t from'
abbrev dnT (t : Tm) (by' from' : Int) : Tm := mapT (gDn by') t from'
abbrev dnB (t : Tm) (by' from' : Int) : Bool := canB (pDn by') t from'
theorem up_zero (t : Tm) (n : Int) : upT t 0 n = t := mapT_id (p := fun _ _ => true) (fun x m _ => by unfold gUp; split <;> omega) t n (canB_true t n)
theorem dn_up_can (t : Tm) {b : Int} (hb : 0 ≤ b) (n : Int) : dnB (upT t b n) b n = true := by
  unfold dnB upT
  rw [canB_map, canB_ext (q := fun _ _ => true), canB_true]
  intro x m
  unfold pDn gUp
  split
  · simp; omega
  · simp; omega
theorem dn_up (t : Tm) {b : Int} (hb : 0 ≤ b) (n : Int) : dnT (upT t b n) b n = t := by
  unfold dnT upT
  rw [mapT_map]
  refine mapT_id (p := fun _ _ => true) (fun x m _ => ?_) t n (canB_true t n)
  unfold gDn gUp
  split <;> split <;> omega
theorem up_up (t : Tm) {b : Int} (hb : 0 ≤ b) (c n : Int) : upT (upT t b n) c n = upT t (b + c) n := by
  unfold upT
  rw [mapT_map]
  refine mapT_congr (p := fun _ _ => true) (fun x m _ => ?_) t n (canB_true t n)
  unfold gUp
  by_cases h : x ≥ m
  · rw [if_pos h, if_pos h, if_pos (by omega)]; omega
  · rw [if_neg h, if_neg h, if_neg h]
theorem up_may {t : Tm} (h : mayB t = true) {b : Int} (hb : 0 ≤ b) (n : Int) : mayB (upT t b n) = true := by
  obtain ⟨h1, h2, h3⟩ := may_parts h
  refine may_of ?_ (by rw [mapT_size]; exact h2) (by rw [mapT_depth]; exact h3)
  have key : ∀ (t : Tm) (n : Int), nodesB t = true → canB (fun x _ => decide (0 ≤ x)) t n = true := by
    refine Tm.ind fun t ih n hn => ?_
    rw [canB_iff]
    exact ⟨fun _ => by simpa using node_head (node_here hn), fun i hi => ih _ (arg_mem hi) _ (node_args hn i hi)⟩
  refine nodesB_map (fun x m hx => ?_) t n (key t n h1) h1
  have := of_decide_eq_true hx
  unfold gUp
  split <;> omega
theorem up_far {t : Tm} {v M : Int} (h : scopedB t v M = true) (b : Int) : upT t b v = t := by
  refine mapT_id (p := fun x m => decide (x < m)) (fun x m hx => ?_) t v (scoped_can (fun x d hd hx => by simpa using hx) h)
  have := of_decide_eq_true hx
  unfold gUp
  rw [if_neg (by omega)]
theorem dn_far {t : Tm} {v M : Int} (h : scopedB t v M = true) (b : Int) : dnT t b v = t := by
  refine mapT_id (p := fun x m => decide (x < m)) (fun x m hx => ?_) t v (scoped_can (fun x d hd hx => by simpa using hx) h)
  have := of_decide_eq_true hx
  unfold gDn
  rw [if_pos (by omega)]
theorem dn_far_can {t : Tm} {v M : Int} (h : scopedB t v M = true) (b : Int) : dnB t b v = true := by
  refine scoped_can (fun x d hd hx => ?_) h
  unfold pDn
  simp [hx]
theorem up_scoped {t : Tm} {v M b n : Int} (h : scopedB t v M = true) (hb : 0 ≤ b) : scopedB (upT t b n) (v + b) M = true := by
  refine scoped_map (p := fun _ _ => true) (fun x d hd hx _ => ?_) h (canB_true t n)
  unfold gUp
  split <;> omega
theorem dn_scoped {t : Tm} {v M b n w : Int} (h : scopedB t v M = true) (hc : dnB t b n = true) (h1 : v - b ≤ w) (h2 : n ≤ w) : scopedB (dnT t b n) w M = true := by
  refine scoped_map (p := pDn b) (fun x d hd hx hp => ?_) h hc
  unfold pDn at hp
  simp only [Bool.or_eq_true, decide_eq_true_eq] at hp
  unfold gDn
  split <;> omega
/-! ### how great variables are -/
theorem canB_const {q : Int → Bool} : ∀ (t : Tm) (n m : Int), canB (fun x _ => q x) t n = canB (fun x _ => q x) t m := by
  refine Tm.ind fun t ih n m => ?_
  rw [canB_eq, canB_eq _ t m]
  congr 1
  exact allB_congr fun i hi => ih _ (arg_mem hi) _ _
def vleB (c : Int) (t : Tm) : Bool := canB (fun x _ => decide (x ≤ c)) t 0
abbrev vlowB (t : Tm) : Bool := vleB 4503599627370496 t
theorem vle_at {c : Int} {t : Tm} (n : Int) : canB (fun x _ => decide (x ≤ c)) t n = vleB c t := canB_const t n 0
theorem vle_args {c : Int} {t : Tm} (h : vleB c t = true) : ∀ i, i < t.args.length → vleB c (t.arg i) = true := fun i hi => by
  unfold vleB at h
  rw [canB_iff] at h
  have := h.2 i hi
  rwa [vle_at] at this
theorem vle_here {c : Int} {t : Tm} (h : vleB c t = true) (hk : t.kind = 4) : t.head ≤ c := by
  unfold vleB at h
  rw [canB_iff] at h
  exact of_decide_eq_true (h.1 hk)
theorem vle_mono {c d : Int} (hd : c ≤ d) {t : Tm} (h : vleB c t = true) : vleB d t = true :=
  canB_mono 0 (fun x m _ hx => by simp at hx ⊢; omega) t 0 (Int.le_refl 0) h
theorem vle_low {t : Tm} (h : lowB t = true) : vleB 1099511627776 t = true := by
  unfold vleB
  have key : ∀ (t : Tm) (n : Int), lowB t = true → canB (fun x _ => decide (x ≤ 1099511627776)) t n = true := by
    refine Tm.ind fun t ih n hl => ?_
    rw [canB_iff]
    exact ⟨fun _ => by simpa using low_here hl, fun i hi => ih _ (arg_mem hi) _ (low_args hl i hi)⟩
  exact key t 0 h
theorem vlow_low {t : Tm} (h : lowB t = true) : vlowB t = true := vle_mono (by omega) (vle_low h)
theorem vle_up {c b : Int} {t : Tm} (h : vleB c t = true) (hb : 0 ≤ b) (n : Int) : vleB (c + b) (upT t b n) = true := by
  rw [← vle_at n]
  unfold upT
  rw [canB_map]
  rw [← vle_at n] at h
  refine canB_mono n (fun x m _ hx => ?_) t n (Int.le_refl n) h
  simp at hx ⊢
  unfold gUp
  split <;> omega
theorem vle_dn {c b : Int} {t : Tm} (h : vleB c t = true) (hb : 0 ≤ b) (n : Int) : vleB c (dnT t b n) = true := by
  rw [← vle_at n]
  unfold dnT
  rw [canB_map]
  rw [← vle_at n] at h
  refine canB_mono n (fun x m _ hx => ?_) t n (Int.le_refl n) h
  simp at hx ⊢
  unfold gDn
  split <;> omega
/-- All heads are at most so great. -/
def hleB (c : Int) : Tm → Bool
  | .mk _ h l => decide (h ≤ c) && allB l.length fun i => if hi : i < l.length then hleB c l[i] else true
decreasing_by
  have := List.sizeOf_lt_of_mem (List.getElem_mem hi)
  simp only [Tm.mk.sizeOf_spec]
  omega
theorem hleB_eq (c : Int) (t : Tm) : hleB c t = (decide (t.head ≤ c) && allB t.args.length fun i => hleB c (t.arg i)) := by
  obtain ⟨k, h, l⟩ := t
  rw [hleB]
  congr 1
  refine allB_congr fun i hi => ?_
  have := arg_eq (t := .mk k h l) hi
  simp only [Tm.args] at this
  simp [hi, this]
theorem hleB_iff {c : Int} {t : Tm} : hleB c t = true ↔ t.head ≤ c ∧ ∀ i, i < t.args.length → hleB c (t.arg i) = true := by
  rw [hleB_eq, Bool.and_eq_true, allB_iff, decide_eq_true_eq]
theorem hle_low : ∀ t : Tm, lowB t = true → hleB 1099511627776 t = true := by
  refine Tm.ind fun t ih h => ?_
  rw [hleB_iff]
  exact ⟨low_here h, fun i hi => ih _ (arg_mem hi) (low_args h i hi)⟩
theorem hle_mono {c d : Int} (hd : c ≤ d) : ∀ t : Tm, hleB c t = true → hleB d t = true := by
  refine Tm.ind fun t ih h => ?_
  rw [hleB_iff] at h ⊢
  exact ⟨by omega, fun i hi => ih _ (arg_mem hi) (h.2 i hi)⟩
theorem hle_vle {c : Int} {t : Tm} (h : hleB c t = true) : vleB c t = true := by
  rw [← vle_at 0]
  have key : ∀ (t : Tm) (n : Int), hleB c t = true → canB (fun x _ => decide (x ≤ c)) t n = true := by
    refine Tm.ind fun t ih n hl => ?_
    rw [hleB_iff] at hl
    rw [canB_iff]
    exact ⟨fun _ => by simpa using hl.1, fun i hi => ih _ (arg_mem hi) _ (hl.2 i hi)⟩
  exact key t 0 h
theorem hle_map {c c' : Int} {g : Int → Int → Int} {p : Int → Int → Bool} (hc : c ≤ c') (hg : ∀ x m, x ≤ c → p x m = true → g x m ≤ c') : ∀ (t : Tm) (n : Int), hleB c t = true → canB p t n = true → hleB c' (mapT g t n) = true := by
  refine Tm.ind fun t ih n hl hp => ?_
  rw [hleB_iff] at hl ⊢
  rw [canB_iff] at hp
  rw [mapT_head, mapT_len]
  refine ⟨?_, fun i hi => ?_⟩
  · cases hk : (t.kind == 4)
    · simp; omega
    · rw [if_pos rfl]; exact hg _ _ hl.1 (hp.1 (by simpa using hk))
  · rw [mapT_arg _ _ hi]
    exact ih _ (arg_mem hi) _ (hl.2 i hi) (hp.2 i hi)
theorem hle_up {c b : Int} {t : Tm} (h : hleB c t = true) (hb : 0 ≤ b) (n : Int) : hleB (c + b) (upT t b n) = true :=
  hle_map (p := fun _ _ => true) (by omega) (fun x m hx _ => by unfold gUp; split <;> omega) t n h (canB_true t n)
theorem hle_dn {c b : Int} {t : Tm} (h : hleB c t = true) (hb : 0 ≤ b) (n : Int) : hleB c (dnT t b n) = true :=
  hle_map (p := fun _ _ => true) (by omega) (fun x m hx _ => by unfold gDn; split <;> omega) t n h (canB_true t n)
theorem dn_nodes {t : Tm} {b n : Int} (h : nodesB t = true) (hb : 0 ≤ b) (hn : 0 ≤ n) (hc : dnB t b n = true) : nodesB (dnT t b n) = true := by
  have h0 : canB (fun x m => decide (0 ≤ x) && decide (n ≤ m)) t n = true := by
    have key : ∀ (t : Tm) (m : Int), n ≤ m → nodesB t = true → canB (fun x m => decide (0 ≤ x) && decide (n ≤ m)) t m = true := by
      refine Tm.ind fun t ih m hm hn => ?_
      rw [canB_iff]
      exact ⟨fun _ => by simpa using ⟨node_head (node_here hn), hm⟩, fun i hi => ih _ (arg_mem hi) _ (by omega) (node_args hn i hi)⟩
    exact key t n (Int.le_refl n) h
  refine nodesB_map (fun x m hx => ?_) t n (canB_and t n h0 hc) h
  simp only [Bool.and_eq_true, decide_eq_true_eq, pDn, Bool.or_eq_true] at hx
  unfold gDn
  split <;> omega
end Go.Proofs.Ytobocgjdlchemaa
/- Substitutions: in plain words. -/
set_option linter.unusedVariables false
set_option linter.unusedSimpArgs false
namespace Go.Proofs.Ytobocgjdlchemaa
/-- What comes back, and how many nodes were gone to; or why nothing does. -/
inductive R (α : Type) where
  | ok (a : α) (n : Nat)
  | er (e : Nat) (n : Nat)
def R.bind {α β : Type} : R α → (α → Nat → R β) → R β
  | .ok a n, k => k a n
  | .er e n, _ => .er e n
theorem R.bind_ok {α β : Type} (a : α) (n : Nat) (k : α → Nat → R β) : (R.ok a n).bind k = k a n := rfl
theorem R.bind_er {α β : Type} (e n : Nat) (k : α → Nat → R β) : (R.er e n).bind k = .er e n := rfl
theorem R.bind_eq {α β : Type} {x : R α} {k : α → Nat → R β} {b : β} {m : Nat} (h : x.bind k = .ok b m) : ∃ a n, x = .ok a n ∧ k a n = .ok b m := by
  cases x with
  | ok a n => exact ⟨a, n, rfl, h⟩
  | er e n => cases h
structure Sb where
  L : List Tm
  sh : Int
def ofS (s : Sb) (i : Int) : Tm := if i < s.L.length then s.L.getD (s.L.length - 1 - i.toNat) default else .mk 4 (i - s.L.length + s.sh) []
def var0 : Tm := .mk 4 0 []
def underS (s : Sb) : Sb := ⟨(s.L.map fun x => upT x 1 0) ++ [var0], s.sh + 1⟩
def below (s : Sb) (t : Tm) (i : Nat) : Sb := if bnd t i = 1 then underS s else s
/-- One behind the other. -/
def seqF (g : Nat → Nat → R Tm) (n : Nat) : Nat → R (List Tm)
  | 0 => .ok [] n
  | k + 1 => (seqF g n k).bind fun xs m => (g k m).bind fun x m' => .ok (xs ++ [x]) m'
def heads (k : Int) : Bool := k == 4 || k == 5 || k == 2
def spnA (A : Tm → Sb → Nat → R Tm) : Tm → List Tm → Nat → R Tm
  | u, [], n => .ok u n
  | u, a :: rest, n =>
    if u.kind = 3 then (if mayB a then (A (u.arg 0) ⟨[a], 0⟩ n).bind fun v m => spnA A v rest m else .er 4 n)
    else if heads u.kind then .ok (.mk u.kind u.head (u.args ++ a :: rest)) n else .er 3 n
def ap : Nat → Tm → Sb → Nat → R Tm
  | 0, _, _, n => .er 4 (n + 1)
  | f + 1, t, s, n => if n + 1 > 40000 then .er 4 (n + 1) else
    (seqF (fun i m => ap f (t.arg i) (below s t i) m) (n + 1) t.args.length).bind fun xs m =>
      if t.kind = 4 then spnA (ap f) (ofS s t.head) xs m else .ok (.mk t.kind t.head xs) m
theorem ap_succ (f : Nat) (t : Tm) (s : Sb) (n : Nat) : ap (f + 1) t s n = if n + 1 > 40000 then .er 4 (n + 1) else
    (seqF (fun i m => ap f (t.arg i) (below s t i) m) (n + 1) t.args.length).bind fun xs m =>
      if t.kind = 4 then spnA (ap f) (ofS s t.head) xs m else .ok (.mk t.kind t.head xs) m := rfl
theorem ap_zero (t : Tm) (s : Sb) (n : Nat) : ap 0 t s n = .er 4 (n + 1) := rfl
theorem seqF_len (g : Nat → Nat → R Tm) (n : Nat) : ∀ (k : Nat) (xs : List Tm) (m : Nat), seqF g n k = .ok xs m → xs.length = k
  | 0, xs, m, h => by cases h; rfl
  | k + 1, xs, m, h => by
    obtain ⟨ys, m1, h1, h2⟩ := R.bind_eq h
    obtain ⟨x, m2, h3, h4⟩ := R.bind_eq h2
    cases h4
    simp [seqF_len g n k ys m1 h1]
/-- What may be said of a substitution: its terms may be, their variables are no greater than so many. -/
structure SOk (H : Int) (s : Sb) : Prop where
  may : ∀ x ∈ s.L, mayB x = true
  vle : ∀ x ∈ s.L, vleB H x = true
  sh : 0 ≤ s.sh
theorem may_var0 : mayB var0 = true := by
  refine may_of ?_ ?_ ?_
  · rw [nodesB_eq]; simp [var0, nodeOk, Tm.kind, Tm.args, Tm.head, allB]
  · rw [size_eq]; simp [var0, Tm.args]
  · rw [depth_eq]; simp [var0, Tm.args]
theorem vle_var {H i : Int} (h : i ≤ H) : vleB H (.mk 4 i []) = true := by
  unfold vleB
  rw [canB_iff]
  exact ⟨fun _ => decide_eq_true h, fun i hi => by simp [Tm.args] at hi⟩
theorem SOk.under {H : Int} {s : Sb} (h : SOk H s) (h0 : 0 ≤ H) : SOk (H + 1) (underS s) := by
  refine ⟨fun x hx => ?_, fun x hx => ?_, by have := h.sh; simp only [underS]; omega⟩
  · simp only [underS, List.mem_append, List.mem_map, List.mem_singleton] at hx
    rcases hx with ⟨y, hy, rfl⟩ | rfl
    · exact up_may (h.may y hy) (by omega) 0
    · exact may_var0
  · simp only [underS, List.mem_append, List.mem_map, List.mem_singleton] at hx
    rcases hx with ⟨y, hy, rfl⟩ | rfl
    · exact vle_up (h.vle y hy) (by omega) 0
    · exact vle_var (by omega)
theorem SOk.mono {H K : Int} {s : Sb} (h : SOk H s) (hk : H ≤ K) : SOk K s := ⟨h.may, fun x hx => vle_mono hk (h.vle x hx), h.sh⟩
theorem under_len (s : Sb) : (underS s).L.length = s.L.length + 1 := by simp [underS]
theorem nodes_mk {k h : Int} {l : List Tm} (h1 : nodeOk (.mk k h l) = true) (h2 : ∀ x ∈ l, nodesB x = true) : nodesB (.mk k h l) = true := by
  rw [nodesB_eq, h1, Bool.true_and, allB_iff]
  exact fun i hi => h2 _ (arg_mem hi)
theorem vle_mk {c k h : Int} {l : List Tm} (h1 : k = 4 → h ≤ c) (h2 : ∀ x ∈ l, vleB c x = true) : vleB c (.mk k h l) = true := by
  unfold vleB
  rw [canB_iff]
  refine ⟨fun hk => decide_eq_true (h1 hk), fun i hi => ?_⟩
  rw [vle_at]
  exact h2 _ (arg_mem hi)
theorem of_ok {H K D : Int} {s : Sb} (h : SOk H s) {i : Int} (h0 : 0 ≤ i) (hi : i ≤ K) (hd : s.sh - s.L.length ≤ D) (hk : K + D ≤ H) : nodesB (ofS s i) = true ∧ vleB H (ofS s i) = true ∧ (ofS s i).size ≤ 4000 := by
  unfold ofS
  split
  · rename_i hl
    have hm : s.L.getD (s.L.length - 1 - i.toNat) default ∈ s.L := by
      rw [List.getD_eq_getElem?_getD, List.getElem?_eq_getElem (by omega)]
      exact List.getElem_mem _
    exact ⟨(may_parts (h.may _ hm)).1, h.vle _ hm, (may_parts (h.may _ hm)).2.1⟩
  · rename_i hl
    refine ⟨nodes_mk ?_ (by simp), vle_var (by omega), by rw [mk_size]; simp⟩
    have := h.sh
    have h5 : 0 ≤ i - s.L.length + s.sh := by omega
    simp only [nodeOk, mk_kind, mk_args, mk_head]
    simp [h5]
/-- How great things are: what is gone to, its variables, its nodes. -/
structure Fits (n m : Nat) (H : Int) (c : Nat) (u : Tm) : Prop where
  lt : n ≤ m
  lim : m ≤ 40000
  nodes : nodesB u = true
  vle : vleB (H + ((m - n : Nat) : Int)) u = true
  size : u.size ≤ c + (m - n) * 4001
theorem node_heads {k h : Int} (hk : heads k = true) (hh : 0 ≤ h) (l : List Tm) : nodeOk (.mk k h l) = true := by
  simp only [heads, Bool.or_eq_true, beq_iff_eq] at hk
  rcases hk with (rfl | rfl) | rfl <;> simp [nodeOk, Tm.kind, Tm.head, hh]
theorem size_mk (k h : Int) (l : List Tm) : (Tm.mk k h l).size = 1 + (l.map Tm.size).sum := mk_size k h l
theorem spn_fits {A : Tm → Sb → Nat → R Tm} (hA : ∀ (t : Tm) (s : Sb) (n : Nat) (K D H : Int) (u : Tm) (m : Nat), nodesB t = true → vleB K t = true → 0 ≤ K → K ≤ H → K + D ≤ H → s.sh - s.L.length ≤ D → SOk H s → A t s n = .ok u m → n + 1 ≤ m ∧ Fits n m H 0 u) :
    ∀ (args : List Tm) (u : Tm) (n : Nat) (H : Int) (r : Tm) (m : Nat), n ≤ 40000 → nodesB u = true → vleB H u = true → 0 ≤ H → (∀ x ∈ args, nodesB x = true ∧ vleB H x = true) → spnA A u args n = .ok r m → Fits n m H (u.size + (args.map Tm.size).sum) r
  | [], u, n, H, r, m, hn, hu, hv, h0, ha, h => by
    cases h
    exact ⟨Nat.le_refl _, hn, hu, by simpa using hv, by simp⟩
  | a :: rest, u, n, H, r, m, hn, hu, hv, h0, ha, h => by
    simp only [spnA] at h
    obtain ⟨a1, a2⟩ := ha a (by simp)
    split at h
    · rename_i hk
      split at h
      case isFalse => cases h
      rename_i hm
      obtain ⟨v, n1, h1, h2⟩ := R.bind_eq h
      have hnu := node_here hu
      have hlen : u.args.length = 1 := by
        unfold nodeOk at hnu
        simp [hk] at hnu
        exact hnu.2
      obtain ⟨g1, g2⟩ := hA _ _ _ H (-1) H v n1 (node_args hu 0 (by omega)) (vle_args hv 0 (by omega)) h0 (Int.le_refl _) (by omega) (by simp) ⟨by simpa using hm, by simpa using a2, by simp⟩ h1
      have hr := spn_fits hA rest v n1 (H + ((n1 - n : Nat) : Int)) r m g2.lim g2.nodes g2.vle (by omega) (fun x hx => ⟨(ha x (by simp [hx])).1, vle_mono (by omega) (ha x (by simp [hx])).2⟩) h2
      have e1 := hr.lt
      have e2 := g2.size
      have e3 := hr.size
      refine ⟨by omega, hr.lim, hr.nodes, ?_, ?_⟩
      · have := hr.vle
        rwa [show H + ((n1 - n : Nat) : Int) + ((m - n1 : Nat) : Int) = H + ((m - n : Nat) : Int) by omega] at this
      · simp only [List.map_cons, List.sum_cons]
        have : (m - n) * 4001 = (n1 - n) * 4001 + (m - n1) * 4001 := by rw [← Nat.add_mul]; congr 1; omega
        omega
    · split at h
      case isFalse => cases h
      rename_i hk hh
      cases h
      refine ⟨Nat.le_refl _, hn, nodes_mk (node_heads hh (node_head (node_here hu)) _) fun x hx => ?_, ?_, ?_⟩
      · rcases List.mem_append.1 hx with hx | hx
        · obtain ⟨i, hi, rfl⟩ := List.mem_iff_getElem.1 hx
          rw [arg_eq hi]; exact node_args hu i hi
        · exact (ha x hx).1
      · refine vle_mk (fun hk4 => ?_) fun x hx => ?_
        · have := vle_here hv hk4; omega
        · rcases List.mem_append.1 hx with hx | hx
          · obtain ⟨i, hi, rfl⟩ := List.mem_iff_getElem.1 hx
            rw [arg_eq hi]; exact vle_mono (by omega) (vle_args hv i hi)
          · exact vle_mono (by omega) (ha x hx).2
      · rw [mk_size, size_eq u, List.map_append, List.sum_append]
        omega
theorem below_ok {s : Sb} {t : Tm} {i : Nat} {H D : Int} (h : SOk H s) (h0 : 0 ≤ H) (hd : s.sh - s.L.length ≤ D) : SOk (H + 1) (below s t i) ∧ (below s t i).sh - (below s t i).L.length ≤ D := by
  unfold below
  split
  · refine ⟨h.under h0, ?_⟩
    rw [under_len]; simp only [underS]; omega
  · exact ⟨h.mono (by omega), hd⟩
theorem seq_fits {g : Nat → Nat → R Tm} {n : Nat} {H : Int} (K : Nat) (hg : ∀ i, i < K → ∀ m x m', m ≤ 40000 → g i m = .ok x m' → m + 1 ≤ m' ∧ Fits m m' (H + 1) 0 x) (hn : n ≤ 40000) : ∀ (k : Nat), k ≤ K → ∀ (xs : List Tm) (m : Nat), seqF g n k = .ok xs m →
    n ≤ m ∧ m ≤ 40000 ∧ (∀ x ∈ xs, nodesB x = true ∧ vleB (H + 1 + ((m - n : Nat) : Int)) x = true) ∧ (xs.map Tm.size).sum ≤ (m - n) * 4001
  | 0, hk, xs, m, h => by cases h; exact ⟨Nat.le_refl _, hn, by simp, by simp⟩
  | k + 1, hk, xs, m, h => by
    obtain ⟨ys, m1, h1, h2⟩ := R.bind_eq h
    obtain ⟨x, m2, h3, h4⟩ := R.bind_eq h2
    cases h4
    obtain ⟨e1, e2, e3, e4⟩ := seq_fits K hg hn k (by omega) ys m1 h1
    obtain ⟨e5, e6⟩ := hg k (by omega) m1 x m e2 h3
    have e7 := e6.size
    refine ⟨by omega, e6.lim, fun y hy => ?_, ?_⟩
    · rcases List.mem_append.1 hy with hy | hy
      · exact ⟨(e3 y hy).1, vle_mono (by omega) (e3 y hy).2⟩
      · obtain rfl : y = x := by simpa using hy
        exact ⟨e6.nodes, vle_mono (by omega) e6.vle⟩
    · simp only [List.map_append, List.sum_append, List.map_cons, List.map_nil, List.sum_cons, List.sum_nil]
      have : (m - n) * 4001 = (m1 - n) * 4001 + (m - m1) * 4001 := by rw [← Nat.add_mul]; congr 1; omega
      omega
theorem node_same {t : Tm} {xs : List Tm} (h : nodeOk t = true) (hl : xs.length = t.args.length) : nodeOk (.mk t.kind t.head xs) = true := by
  unfold nodeOk at h ⊢
  rw [mk_kind, mk_head, mk_args, hl]
  exact h
theorem ap_fits : ∀ (f : Nat) (t : Tm) (s : Sb) (n : Nat) (K D H : Int) (u : Tm) (m : Nat), nodesB t = true → vleB K t = true → 0 ≤ K → K ≤ H → K + D ≤ H → s.sh - s.L.length ≤ D → SOk H s → ap f t s n = .ok u m → n + 1 ≤ m ∧ Fits n m H 0 u
  | 0, t, s, n, K, D, H, u, m, hn, hv, h0, h1, h2, h3, h4, h => by cases h
  | f + 1, t, s, n, K, D, H, u, m, hn, hv, h0, h1, h2, h3, h4, h => by
    rw [ap_succ] at h
    split at h
    · cases h
    rename_i hlim
    obtain ⟨xs, m1, e1, e2⟩ := R.bind_eq h
    obtain ⟨q1, q2, q3, q4⟩ := seq_fits (H := H) t.args.length (fun i hi m x m' hm hx => by
      obtain ⟨b1, b2⟩ := below_ok (t := t) (i := i) h4 (by omega) h3
      exact ap_fits f _ _ m K D (H + 1) x m' (node_args hn i hi) (vle_args hv i hi) h0 (by omega) (by omega) b2 b1 hx) (by omega) _ (Nat.le_refl _) xs m1 e1
    have hxl := seqF_len _ _ _ _ _ e1
    split at e2
    · rename_i hk
      obtain ⟨o1, o2, o3⟩ := of_ok h4 (node_head (node_here hn)) (vle_here hv hk) h3 h2
      have := spn_fits (ap_fits f) xs (ofS s t.head) m1 (H + 1 + ((m1 - (n + 1) : Nat) : Int)) u m q2 o1 (vle_mono (by omega) o2) (by omega) q3 e2
      have l1 := this.lt
      have l2 := this.size
      refine ⟨by omega, by omega, this.lim, this.nodes, ?_, ?_⟩
      · have l3 := this.vle
        rwa [show H + 1 + ((m1 - (n + 1) : Nat) : Int) + ((m - m1 : Nat) : Int) = H + ((m - n : Nat) : Int) by omega] at l3
      · have : (m - n) * 4001 = (m1 - (n + 1)) * 4001 + (m - m1) * 4001 + 4001 := by rw [← Nat.add_mul, ← Nat.succ_mul]; congr 1; omega
        omega
    · rename_i hk
      cases e2
      refine ⟨by omega, by omega, q2, nodes_mk (node_same (node_here hn) hxl) fun x hx => (q3 x hx).1, vle_mk (fun h => absurd h hk) fun x hx => vle_mono (by omega) (q3 x hx).2, ?_⟩
      rw [mk_size]
      have : (m - n) * 4001 = (m - (n + 1)) * 4001 + 4001 := by rw [← Nat.succ_mul]; congr 1; omega
      omega
end Go.Proofs.Ytobocgjdlchemaa
/- Substitutions: laws in plain words. -/
set_option linter.unusedVariables false
set_option linter.unusedSimpArgs false
namespace Go.Proofs.Ytobocgjdlchemaa
theorem getD_map {l : List Tm} {g : Tm → Tm} {i : Nat} (h : i < l.length) : (l.map g).getD i default = g (l.getD i default) := by
  rw [List.getD_eq_getElem?_getD, List.getD_eq_getElem?_getD, List.getElem?_map, List.getElem?_eq_getElem h]; rfl
theorem getD_append_l {l l' : List Tm} {i : Nat} (h : i < l.length) : (l ++ l').getD i default = l.getD i default := by
  rw [List.getD_eq_getElem?_getD, List.getD_eq_getElem?_getD, List.getElem?_append_left h]
theorem of_under0 (s : Sb) : ofS (underS s) 0 = var0 := by
  unfold ofS
  rw [under_len, if_pos (by omega), show s.L.length + 1 - 1 - (0 : Int).toNat = s.L.length by omega]
  simp only [underS]
  rw [List.getD_eq_getElem?_getD, List.getElem?_append_right (by simp)]
  simp
theorem up_var (j n : Int) (h : j ≥ n) : upT (.mk 4 j []) 1 n = .mk 4 (j + 1) [] := by
  unfold upT
  rw [mapT_eq]
  simp [mk_kind, mk_head, mk_args, gUp, h]
theorem of_under (s : Sb) {i : Int} (h : 0 ≤ i) (hs : 0 ≤ s.sh) : ofS (underS s) (i + 1) = upT (ofS s i) 1 0 := by
  unfold ofS
  rw [under_len]
  by_cases hi : i < s.L.length
  · rw [if_pos (by omega), if_pos hi, show s.L.length + 1 - 1 - (i + 1).toNat = s.L.length - 1 - i.toNat by omega]
    simp only [underS]
    rw [getD_append_l (by simp; omega), getD_map (by omega)]
  · rw [if_neg (by omega), if_neg hi, up_var _ _ (by omega)]
    simp only [underS]
    congr 1; omega
/-! ### where variables become variables -/
def below_n (s : Sb) : Nat → Sb
  | 0 => s
  | d + 1 => underS (below_n s d)
theorem below_bnd (s : Sb) (d : Nat) (t : Tm) (i : Nat) : below (below_n s d) t i = below_n s (d + bnd t i) := by
  unfold below
  rcases Nat.eq_zero_or_pos (bnd t i) with h | h
  · rw [h, if_neg (by omega)]; rfl
  · have := bnd_le t i
    have h1 : bnd t i = 1 := by omega
    rw [h1, if_pos rfl]; rfl
theorem spn_var (A : Tm → Sb → Nat → R Tm) (j : Int) (l : List Tm) (n : Nat) : spnA A (.mk 4 j []) l n = .ok (.mk 4 j l) n := by
  cases l with
  | nil => rfl
  | cons a l => simp [spnA, mk_kind, mk_head, mk_args, heads]
theorem seqF_ok {g : Nat → Nat → R Tm} {F : Nat → Tm} {c : Nat → Nat} {n : Nat} : ∀ k : Nat, (∀ i, i < k → ∀ m, n ≤ m → m + c i ≤ n + ((List.range k).map c).sum → g i m = .ok (F i) (m + c i)) → seqF g n k = .ok ((List.range k).map F) (n + ((List.range k).map c).sum)
  | 0, h => rfl
  | k + 1, h => by
    have hs : ((List.range (k + 1)).map c).sum = ((List.range k).map c).sum + c k := by rw [List.range_succ, List.map_append, List.sum_append]; simp
    rw [hs] at h ⊢
    simp only [seqF]
    rw [seqF_ok k (fun i hi m h1 h2 => h i (by omega) m h1 (by omega))]
    simp only [R.bind_ok]
    rw [h k (by omega) _ (by omega) (by omega)]
    simp only [R.bind_ok]
    rw [List.range_succ, List.map_append, Nat.add_assoc]
    rfl
theorem ap_ren {s : Sb} {G : Int → Int → Int} {P : Int → Int → Bool} (hH : ∀ (d : Nat) (i : Int), 0 ≤ i → P i d = true → ofS (below_n s d) i = .mk 4 (G i d) []) :
    ∀ t : Tm, nodesB t = true → ∀ (f d n : Nat), canB P t d = true → 40000 ≤ n + f → n + t.size ≤ 40000 → ap f t (below_n s d) n = .ok (mapT G t d) (n + t.size) := by
  refine Tm.ind fun t ih hn f d n hc hf hz => ?_
  have hp := size_pos t
  obtain ⟨f, rfl⟩ : ∃ f', f = f' + 1 := ⟨f - 1, by omega⟩
  rw [ap_succ, if_neg (by omega)]
  rw [canB_iff] at hc
  have hsum : ((List.range t.args.length).map fun i => (t.arg i).size).sum = (t.args.map Tm.size).sum := by
    congr 1
    refine List.ext_getElem (by simp) fun i h1 h2 => ?_
    simp at h1
    simp [arg_eq h1]
  have hse := size_eq t
  rw [seqF_ok (F := fun i => mapT G (t.arg i) ((d : Int) + bnd t i)) (c := fun i => (t.arg i).size) t.args.length (fun i hi m h1 h2 => by
    rw [hsum] at h2
    have hx := ih _ (arg_mem hi) (node_args hn i hi) f (d + bnd t i) m (by have := hc.2 i hi; rwa [show ((d + bnd t i : Nat) : Int) = (d : Int) + bnd t i by omega]) (by omega) (by omega)
    rw [below_bnd]
    rw [hx]
    congr 2), hsum]
  simp only [R.bind_ok]
  have hm := mapT_eq G t (d : Int)
  by_cases hk : t.kind = 4
  · rw [if_pos hk, hH d t.head (node_head (node_here hn)) (hc.1 hk), spn_var, hm, hk, hse]
    simp only [beq_self_eq_true, if_true]
    congr 1; omega
  · rw [if_neg hk, hm, hse]
    have : (t.kind == 4) = false := by simpa using hk
    simp only [this, Bool.false_eq_true, if_false]
    congr 1; omega
/-! ### scopes -/
theorem var_scoped {j v M : Int} (h : j < v) : scopedB (.mk 4 j []) v M = true := by
  rw [scoped_iff]
  exact ⟨fun _ => h, fun hk => by simp [mk_kind] at hk, fun i hi => by simp [mk_args] at hi⟩
theorem mk_scoped {k h : Int} {l : List Tm} {v M : Int} (h1 : k = 4 → h < v) (h2 : k = 6 → h < M) (h3 : ∀ i, i < l.length → scopedB (l.getD i default) (v + bnd (.mk k h l) i) M = true) : scopedB (.mk k h l) v M = true := by
  rw [scoped_iff]
  exact ⟨h1, h2, h3⟩
theorem bnd_mk (t : Tm) {xs : List Tm} (h : xs.length = t.args.length) (i : Nat) : bnd (.mk t.kind t.head xs) i = bnd t i := by
  unfold bnd
  rw [mk_kind, mk_args, h]
theorem bnd_none {k h : Int} {l : List Tm} (hk : heads k = true) (i : Nat) : bnd (.mk k h l) i = 0 := by
  unfold bnd
  rw [mk_kind, if_neg]
  rintro ⟨h1, _⟩
  simp only [heads, Bool.or_eq_true, beq_iff_eq] at hk
  omega
theorem bnd_none' {t : Tm} (hk : heads t.kind = true) (i : Nat) : bnd t i = 0 := by
  rw [← mk_self t]; exact bnd_none hk i
theorem lam_len {u : Tm} (h : nodesB u = true) (hk : u.kind = 3) : u.args.length = 1 := by
  have hnu := node_here h
  unfold nodeOk at hnu
  simp [hk] at hnu
  exact hnu.2
theorem lam_bnd {u : Tm} (h : nodesB u = true) (hk : u.kind = 3) : bnd u 0 = 1 := by
  unfold bnd
  rw [if_pos ⟨.inr hk, by rw [lam_len h hk]⟩]
/-- What is in scope, what it is mapped to. -/
def Maps (s : Sb) (v w M : Int) : Prop := ∀ i : Int, 0 ≤ i → i < v → scopedB (ofS s i) w M = true
theorem Maps.under {s : Sb} {v w M : Int} (h : Maps s v w M) (hs : 0 ≤ s.sh) (hw : 0 ≤ w) : Maps (underS s) (v + 1) (w + 1) M := by
  intro i h0 hi
  rcases Int.lt_or_le 0 i with h1 | h1
  · have := of_under s (i := i - 1) (by omega) hs
    rw [show i - 1 + 1 = i by omega] at this
    rw [this]
    exact up_scoped (h (i - 1) (by omega) (by omega)) (by omega)
  · obtain rfl : i = 0 := by omega
    rw [of_under0]
    exact var_scoped (by omega)
theorem Maps.one {a : Tm} {w M : Int} (h : scopedB a w M = true) : Maps ⟨[a], 0⟩ (w + 1) w M := by
  intro i h0 hi
  unfold ofS
  split
  · rename_i hl
    simp at hl
    obtain rfl : i = 0 := by omega
    exact h
  · rename_i hl
    simp at hl
    exact var_scoped (by simp; omega)
theorem below_maps {s : Sb} {t : Tm} {i : Nat} {v w M : Int} (h : Maps s v w M) (hs : 0 ≤ s.sh) (hw : 0 ≤ w) : Maps (below s t i) (v + bnd t i) (w + bnd t i) M ∧ 0 ≤ (below s t i).sh := by
  unfold below
  have := bnd_le t i
  split
  · rename_i h1
    rw [h1]
    exact ⟨h.under hs hw, by simp only [underS]; omega⟩
  · rename_i h1
    rw [show bnd t i = 0 by omega]
    simpa using ⟨h, hs⟩
theorem up_nodes {t : Tm} (h : nodesB t = true) {b : Int} (hb : 0 ≤ b) (n : Int) : nodesB (upT t b n) = true := by
  have key : ∀ (t : Tm) (n : Int), nodesB t = true → canB (fun x _ => decide (0 ≤ x)) t n = true := by
    refine Tm.ind fun t ih n hn => ?_
    rw [canB_iff]
    exact ⟨fun _ => by simpa using node_head (node_here hn), fun i hi => ih _ (arg_mem hi) _ (node_args hn i hi)⟩
  refine nodesB_map (fun x m hx => ?_) t n (key t n h) h
  have := of_decide_eq_true hx
  unfold gUp
  split <;> omega
def NodesS (s : Sb) : Prop := (∀ x ∈ s.L, nodesB x = true) ∧ 0 ≤ s.sh
theorem nodes_var0 : nodesB var0 = true := (may_parts may_var0).1
theorem NodesS.below {s : Sb} (h : NodesS s) (t : Tm) (i : Nat) : NodesS (below s t i) := by
  unfold Go.Proofs.Ytobocgjdlchemaa.below
  split
  · refine ⟨fun x hx => ?_, by have := h.2; simp only [underS]; omega⟩
    simp only [underS, List.mem_append, List.mem_map, List.mem_singleton] at hx
    rcases hx with ⟨y, hy, rfl⟩ | rfl
    · exact up_nodes (h.1 y hy) (by omega) 0
    · exact nodes_var0
  · exact h
theorem NodesS.of {s : Sb} (h : NodesS s) {i : Int} (h0 : 0 ≤ i) : nodesB (ofS s i) = true := by
  unfold ofS
  split
  · refine h.1 _ ?_
    rw [List.getD_eq_getElem?_getD, List.getElem?_eq_getElem (by omega)]
    exact List.getElem_mem _
  · refine nodes_mk ?_ (by simp)
    have := h.2
    have h5 : 0 ≤ i - s.L.length + s.sh := by omega
    simp only [nodeOk, mk_kind, mk_args, mk_head]
    simp [h5]
abbrev Scopes (A : Tm → Sb → Nat → R Tm) (M : Int) : Prop := ∀ (t : Tm) (s : Sb) (n : Nat) (v w : Int) (u : Tm) (m : Nat), nodesB t = true → scopedB t v M = true → NodesS s → Maps s v w M → 0 ≤ w → A t s n = .ok u m → nodesB u = true ∧ scopedB u w M = true
theorem spn_scoped {A : Tm → Sb → Nat → R Tm} {M : Int} (hA : Scopes A M) :
    ∀ (args : List Tm) (u : Tm) (n : Nat) (w : Int) (r : Tm) (m : Nat), nodesB u = true → scopedB u w M = true → 0 ≤ w → (∀ x ∈ args, nodesB x = true ∧ scopedB x w M = true) → spnA A u args n = .ok r m → nodesB r = true ∧ scopedB r w M = true
  | [], u, n, w, r, m, hu, hs, h0, ha, h => by cases h; exact ⟨hu, hs⟩
  | a :: rest, u, n, w, r, m, hu, hs, h0, ha, h => by
    simp only [spnA] at h
    obtain ⟨a1, a2⟩ := ha a (by simp)
    split at h
    · rename_i hk
      split at h
      case isFalse => cases h
      rename_i hm
      obtain ⟨v, n1, h1, h2⟩ := R.bind_eq h
      have hl := lam_len hu hk
      have hs' := (scoped_iff.1 hs).2.2 0 (by omega)
      rw [lam_bnd hu hk] at hs'
      obtain ⟨hn, hb⟩ := hA _ _ _ (w + 1) w v n1 (node_args hu 0 (by omega)) hs' ⟨by simpa using a1, by simp⟩ (Maps.one a2) h0 h1
      exact spn_scoped hA rest v n1 w r m hn hb h0 (fun x hx => ha x (by simp [hx])) h2
    · split at h
      case isFalse => cases h
      rename_i hk hh
      cases h
      rw [scoped_iff] at hs
      refine ⟨nodes_mk (node_heads hh (node_head (node_here hu)) _) fun x hx => ?_, mk_scoped hs.1 hs.2.1 fun i hi => ?_⟩
      · rcases List.mem_append.1 hx with hx | hx
        · obtain ⟨i, hi, rfl⟩ := List.mem_iff_getElem.1 hx
          rw [arg_eq hi]; exact node_args hu i hi
        · exact (ha x hx).1
      rw [bnd_none hh]
      rcases Nat.lt_or_ge i u.args.length with hl | hl
      · rw [getD_append_l hl]
        have := hs.2.2 i hl
        rwa [bnd_none' hh] at this
      · have hx : (u.args ++ a :: rest).getD i default ∈ a :: rest := by
          rw [List.getD_eq_getElem?_getD, List.getElem?_append_right hl, List.getElem?_eq_getElem (by simp at hi ⊢; omega)]
          exact List.getElem_mem _
        have := (ha _ hx).2
        simpa using this
theorem seq_all {g : Nat → Nat → R Tm} {n : Nat} {Q : Nat → Tm → Prop} : ∀ (k : Nat), (∀ i, i < k → ∀ m x m', g i m = .ok x m' → Q i x) → ∀ (xs : List Tm) (m : Nat), seqF g n k = .ok xs m → ∀ i, i < k → Q i (xs.getD i default)
  | 0, _, xs, m, h, i, hi => by omega
  | k + 1, hq, xs, m, h, i, hi => by
    obtain ⟨ys, m1, h1, h2⟩ := R.bind_eq h
    obtain ⟨x, m2, h3, h4⟩ := R.bind_eq h2
    cases h4
    have hl := seqF_len _ _ _ _ _ h1
    rcases Nat.lt_or_ge i k with hk | hk
    · rw [getD_append_l (by omega)]
      exact seq_all k (fun i hi => hq i (by omega)) ys m1 h1 i hk
    · obtain rfl : i = k := by omega
      rw [List.getD_eq_getElem?_getD, List.getElem?_append_right (by omega), hl]
      simp
      exact hq i (by omega) _ _ _ h3
theorem getD_all {l : List Tm} {Q : Tm → Prop} (h : ∀ i, i < l.length → Q (l.getD i default)) : ∀ x ∈ l, Q x := by
  intro x hx
  obtain ⟨i, hi, rfl⟩ := List.mem_iff_getElem.1 hx
  have := h i hi
  rwa [List.getD_eq_getElem?_getD, List.getElem?_eq_getElem hi] at this
theorem ap_scoped {M : Int} : ∀ f : Nat, Scopes (ap f) M
  | 0 => fun t s n v w u m hn hs hS hM hw h => by cases h
  | f + 1 => fun t s n v w u m hn hs hS hM hw h => by
    have ih := ap_scoped (M := M) f
    rw [ap_succ] at h
    split at h
    · cases h
    obtain ⟨xs, m1, e1, e2⟩ := R.bind_eq h
    have hs' := scoped_iff.1 hs
    have hxl := seqF_len _ _ _ _ _ e1
    have hall := seq_all (Q := fun i x => nodesB x = true ∧ scopedB x (w + bnd t i) M = true) t.args.length (fun i hi m x m' hx => by
      obtain ⟨b1, b2⟩ := below_maps (t := t) (i := i) hM hS.2 hw
      exact ih _ _ m (v + bnd t i) (w + bnd t i) x m' (node_args hn i hi) (hs'.2.2 i hi) (hS.below t i) b1 (by omega) hx) xs m1 e1
    split at e2
    · rename_i hk
      refine spn_scoped ih xs (ofS s t.head) m1 w u m (hS.of (node_head (node_here hn))) (hM _ (node_head (node_here hn)) (hs'.1 hk)) hw (getD_all fun i hi => ?_) e2
      have := hall i (by omega)
      rw [bnd_none' (by simp [heads, hk])] at this
      simpa using this
    · rename_i hk
      cases e2
      refine ⟨nodes_mk (node_same (node_here hn) hxl) (getD_all fun i hi => (hall i (by omega)).1), mk_scoped (fun h => absurd h hk) hs'.2.1 fun i hi => ?_⟩
      rw [bnd_mk t hxl]
      exact (hall i (by omega)).2
/-! ### with less done ahead -/
/-- One that began by so many nodes later, and one that did not. -/
def Later (d : Nat) (r r' : R Tm) : Prop := (∃ k, r = .er 4 k) ∨ (∃ u m, r = .ok u (m + d) ∧ r' = .ok u m) ∨ ∃ e m, r = .er e (m + d) ∧ r' = .er e m
def LaterL (d : Nat) (r r' : R (List Tm)) : Prop := (∃ k, r = .er 4 k) ∨ (∃ u m, r = .ok u (m + d) ∧ r' = .ok u m) ∨ ∃ e m, r = .er e (m + d) ∧ r' = .er e m
theorem spn_later {A : Tm → Sb → Nat → R Tm} {d : Nat} (hA : ∀ t s n, Later d (A t s (n + d)) (A t s n)) : ∀ (l : List Tm) (u : Tm) (n : Nat), Later d (spnA A u l (n + d)) (spnA A u l n)
  | [], u, n => .inr (.inl ⟨u, n, rfl, rfl⟩)
  | a :: rest, u, n => by
    simp only [spnA]
    split
    · split
      · rcases hA (u.arg 0) ⟨[a], 0⟩ n with ⟨k, h⟩ | ⟨v, m, h, h'⟩ | ⟨e, m, h, h'⟩
        · rw [h]; exact .inl ⟨k, rfl⟩
        · rw [h, h']; exact spn_later hA rest v m
        · rw [h, h']; exact .inr (.inr ⟨e, m, rfl, rfl⟩)
      · exact .inl ⟨_, rfl⟩
    · split
      · exact .inr (.inl ⟨_, n, rfl, rfl⟩)
      · exact .inr (.inr ⟨3, n, rfl, rfl⟩)
theorem seq_later {g : Nat → Nat → R Tm} {d : Nat} (hg : ∀ i n, Later d (g i (n + d)) (g i n)) (n : Nat) : ∀ k : Nat, LaterL d (seqF g (n + d) k) (seqF g n k)
  | 0 => .inr (.inl ⟨[], n, rfl, rfl⟩)
  | k + 1 => by
    simp only [seqF]
    rcases seq_later hg n k with ⟨k, h⟩ | ⟨v, m, h, h'⟩ | ⟨e, m, h, h'⟩
    · rw [h]; exact .inl ⟨_, rfl⟩
    · rw [h, h', R.bind_ok, R.bind_ok]
      rcases hg k m with ⟨k, h⟩ | ⟨x, m, h, h'⟩ | ⟨e, m, h, h'⟩
      · rw [h]; exact .inl ⟨_, rfl⟩
      · rw [h, h']; exact .inr (.inl ⟨_, m, rfl, rfl⟩)
      · rw [h, h']; exact .inr (.inr ⟨e, m, rfl, rfl⟩)
    · rw [h, h']; exact .inr (.inr ⟨e, m, rfl, rfl⟩)
theorem ap_later (d : Nat) : ∀ (f : Nat) (t : Tm) (s : Sb) (n : Nat), Later d (ap f t s (n + d)) (ap f t s n)
  | 0, t, s, n => .inl ⟨_, rfl⟩
  | f + 1, t, s, n => by
    rw [ap_succ, ap_succ]
    by_cases h1 : n + d + 1 > 40000
    · rw [if_pos h1]; exact .inl ⟨_, rfl⟩
    rw [if_neg h1, if_neg (by omega)]
    have := seq_later (g := fun i m => ap f (t.arg i) (below s t i) m) (d := d) (fun i n => ap_later d f _ _ n) (n + 1) t.args.length
    rw [show n + 1 + d = n + d + 1 by omega] at this
    rcases this with ⟨k, h⟩ | ⟨xs, m, h, h'⟩ | ⟨e, m, h, h'⟩
    · rw [h]; exact .inl ⟨_, rfl⟩
    · rw [h, h', R.bind_ok, R.bind_ok]
      split
      · exact spn_later (fun t s n => ap_later d f t s n) xs _ m
      · exact .inr (.inl ⟨_, m, rfl, rfl⟩)
    · rw [h, h']; exact .inr (.inr ⟨e, m, rfl, rfl⟩)
end Go.Proofs.Ytobocgjdlchemaa
/- Metas that become something: in plain words. -/
set_option linter.unusedVariables false
set_option linter.unusedSimpArgs false
namespace Go.Proofs.Ytobocgjdlchemaa
def zT' : Tm := .mk 0 0 []
/-- The first thing that went wrong. -/
def firstE (F : Nat → Tm × Int) : Nat → Int
  | 0 => 0
  | k + 1 => if (F 0).2 = 0 then firstE (fun i => F (i + 1)) k else (F 0).2
theorem firstE_zero : ∀ (k : Nat) (F : Nat → Tm × Int), firstE F k = 0 ↔ ∀ i, i < k → (F i).2 = 0
  | 0, F => by simp [firstE]
  | k + 1, F => by
    simp only [firstE]
    by_cases h : (F 0).2 = 0
    · rw [if_pos h, firstE_zero k]
      constructor
      · intro hk i hi
        cases i with
        | zero => exact h
        | succ i => exact hk i (by omega)
      · exact fun hk i hi => hk (i + 1) (by omega)
    · rw [if_neg h]
      exact ⟨fun e => absurd e h, fun hk => hk 0 (by omega)⟩
theorem firstE_at : ∀ (k : Nat) (F : Nat → Tm × Int), firstE F k ≠ 0 → ∃ j, j < k ∧ (F j).2 = firstE F k ∧ ∀ i, i < j → (F i).2 = 0
  | 0, F, h => absurd rfl h
  | k + 1, F, h => by
    simp only [firstE] at h ⊢
    by_cases h0 : (F 0).2 = 0
    · rw [if_pos h0] at h ⊢
      obtain ⟨j, h1, h2, h3⟩ := firstE_at k _ h
      refine ⟨j + 1, by omega, h2, fun i hi => ?_⟩
      cases i with
      | zero => exact h0
      | succ i => exact h3 i (by omega)
    · rw [if_neg h0]
      exact ⟨0, by omega, rfl, fun i hi => by omega⟩
theorem firstE_congr {k : Nat} {F G : Nat → Tm × Int} (h : ∀ i, i < k → F i = G i) : firstE F k = firstE G k := by
  induction k generalizing F G with
  | zero => rfl
  | succ k ih =>
    simp only [firstE, h 0 (by omega)]
    rw [ih fun i hi => h (i + 1) (by omega)]
/-- A node whose Args are filled: what it becomes. -/
def fillN (A : Tm → Sb → Tm × Int) (mayL : List Tm → Bool) (th : List Tm) (k h : Int) (args : List Tm) (n : Int) : Tm × Int :=
  if k ≠ 6 then (.mk k h args, 0) else if h ≥ th.length then (zT', 2) else if mayL args then A (th.getD h.toNat default) ⟨args, n⟩ else (zT', 4)
def fillT (A : Tm → Sb → Tm × Int) (mayL : List Tm → Bool) (th : List Tm) : Tm → Int → Tm × Int
  | .mk k h l, n =>
    let F : Nat → Tm × Int := fun i => if hi : i < l.length then fillT A mayL th l[i] (n + bnd (.mk k h l) i) else default
    if firstE F l.length = 0 then fillN A mayL th k h ((List.range l.length).map fun i => (F i).1) n else (zT', firstE F l.length)
decreasing_by
  have := List.sizeOf_lt_of_mem (List.getElem_mem hi)
  simp only [Tm.mk.sizeOf_spec]
  omega
section
variable {A : Tm → Sb → Tm × Int} {mayL : List Tm → Bool} {th : List Tm}
def fillF (A : Tm → Sb → Tm × Int) (mayL : List Tm → Bool) (th : List Tm) (t : Tm) (n : Int) (i : Nat) : Tm × Int := fillT A mayL th (t.arg i) (n + bnd t i)
theorem fillT_eq (t : Tm) (n : Int) : fillT A mayL th t n = if firstE (fillF A mayL th t n) t.args.length = 0 then fillN A mayL th t.kind t.head ((List.range t.args.length).map fun i => (fillF A mayL th t n i).1) n else (zT', firstE (fillF A mayL th t n) t.args.length) := by
  obtain ⟨k, h, l⟩ := t
  rw [fillT]
  have hF : ∀ i, i < l.length → (if hi : i < l.length then fillT A mayL th l[i] (n + bnd (.mk k h l) i) else default) = fillF A mayL th (.mk k h l) n i := fun i hi => by
    have := arg_eq (t := .mk k h l) hi
    simp only [Tm.args] at this
    rw [dif_pos hi, this]; rfl
  have h1 := firstE_congr hF
  have h2 : ((List.range l.length).map fun i => (if hi : i < l.length then fillT A mayL th l[i] (n + bnd (.mk k h l) i) else default).1) = (List.range l.length).map fun i => (fillF A mayL th (.mk k h l) n i).1 :=
    List.map_congr_left fun i hi => by rw [hF i (by simpa using hi)]
  by_cases hz : firstE (fillF A mayL th (.mk k h l) n) l.length = 0
  · exact ((if_pos (h1.trans hz)).trans (by rw [h2]; rfl)).trans (if_pos (c := firstE (fillF A mayL th (.mk k h l) n) (Tm.mk k h l).args.length = 0) hz).symm
  · exact ((if_neg (fun e => hz (h1.symm.trans e))).trans (by rw [h1]; rfl)).trans (if_neg (c := firstE (fillF A mayL th (.mk k h l) n) (Tm.mk k h l).args.length = 0) hz).symm
/-- What has no metas is as it was. -/
def metasB : Tm → Bool
  | .mk k h l => k == 6 || !(allB l.length fun i => if hi : i < l.length then !metasB l[i] else true)
decreasing_by
  have := List.sizeOf_lt_of_mem (List.getElem_mem hi)
  simp only [Tm.mk.sizeOf_spec]
  omega
theorem metasB_eq (t : Tm) : metasB t = (t.kind == 6 || !(allB t.args.length fun i => !metasB (t.arg i))) := by
  obtain ⟨k, h, l⟩ := t
  rw [metasB]
  congr 2
  refine allB_congr fun i hi => ?_
  have := arg_eq (t := .mk k h l) hi
  simp only [Tm.args] at this
  simp [hi, this]
theorem metasB_no {t : Tm} : metasB t = false ↔ t.kind ≠ 6 ∧ ∀ i, i < t.args.length → metasB (t.arg i) = false := by
  rw [metasB_eq, Bool.or_eq_false_iff, Bool.not_eq_false', allB_iff]
  simp
theorem args_range (t : Tm) : ((List.range t.args.length).map fun i => t.arg i) = t.args := by
  refine List.ext_getElem (by simp) fun i h1 h2 => ?_
  simp [arg_eq h2]
theorem fill_none : ∀ (t : Tm) (n : Int), metasB t = false → fillT A mayL th t n = (t, 0) := by
  refine Tm.ind fun t ih n hm => ?_
  rw [metasB_no] at hm
  have hF : ∀ i, i < t.args.length → fillF A mayL th t n i = (t.arg i, 0) := fun i hi => ih _ (arg_mem hi) _ (hm.2 i hi)
  have h0 : firstE (fillF A mayL th t n) t.args.length = 0 := (firstE_zero _ _).2 fun i hi => by rw [hF i hi]
  have hargs : ((List.range t.args.length).map fun i => (fillF A mayL th t n i).1) = t.args := by
    rw [← args_range t]
    simp only [List.length_map, List.length_range]
    refine List.map_congr_left fun i hi => ?_
    have hi : i < t.args.length := by simpa using hi
    rw [hF i hi]
  rw [fillT_eq, if_pos h0, hargs]
  unfold fillN
  rw [if_pos hm.1, mk_self]
/-- Without any terms for them a meta is nothing. -/
theorem fill_nil : ∀ (t : Tm) (n : Int), nodesB t = true → (fillT A mayL [] t n).2 = if metasB t then 2 else 0 := by
  refine Tm.ind fun t ih n hn => ?_
  cases hm : metasB t
  · rw [fill_none t n hm]; rfl
  · rw [fillT_eq]
    by_cases h0 : firstE (fillF A mayL [] t n) t.args.length = 0
    · rw [if_pos h0]
      have hall : ∀ i, i < t.args.length → metasB (t.arg i) = false := fun i hi => by
        have h1 := (firstE_zero _ _).1 h0 i hi
        have h2 := ih _ (arg_mem hi) (n + bnd t i) (node_args hn i hi)
        unfold fillF at h1
        rw [h1] at h2
        cases hb : metasB (t.arg i)
        · rfl
        · rw [hb] at h2; simp at h2
      have hk : t.kind = 6 := by
        by_cases hk : t.kind = 6
        · exact hk
        · have := metasB_no.2 ⟨hk, hall⟩
          rw [this] at hm; cases hm
      unfold fillN
      rw [if_neg (by simpa using hk), if_pos (by simpa using node_head (node_here hn))]
      rfl
    · rw [if_neg h0]
      obtain ⟨j, hj, h1, _⟩ := firstE_at _ _ h0
      have h2 := ih _ (arg_mem hj) (n + bnd t j) (node_args hn j hj)
      have h1 : (fillT A mayL [] (t.arg j) (n + bnd t j)).2 = _ := h1
      rw [h1] at h2
      simp only [if_true]
      rw [h2]
      split
      · rfl
      · rename_i hb
        rw [if_neg hb] at h2
        exact absurd h2 h0
end
end Go.Proofs.Ytobocgjdlchemaa
/- The reference's functions of layer 1. -/
set_option linter.unusedSimpArgs false
set_option linter.unusedVariables false
set_option maxRecDepth 100000
namespace Go.Proofs.Ytobocgjdlchemaa
open Go.Proofs
def low_S (t : Tm) (i : Nat) : St := mk 23 [(1, .lref 1 0), (3, dI i)] [(1, cel3 t)] [] []
theorem low_loop {b : Code} {σ : St} {t : Tm} (hb : b = cf (cf (cs (cf (cs (cs (bodyOf Try.f22))))))) (hσ : σ = low_S t 0) (ih : ∀ x ∈ t.args, (lim C).call 22 [dT x] [] = retB (lowB x)) (hl : t.args.length < room) :
    (lim C).code 22 (.loop b) σ = some (if allB t.args.length (fun i => lowB (t.arg i)) then (.exit 0, mk 23 [(1, .lref 1 0), (3, dI t.args.length), (12, dB false)] [(1, cel3 t)] [] []) else (.ret, mk 23 [(2, dB false)] [] [] [])) := by
  subst hb hσ
  have hr : room = 1099511627776 := rfl
  refine loop_all (low_S t) t.args.length _ ?_ ?_ ?_ (by simp) (by simp)
  · intro i hi hp
    have hc := ih _ (arg_mem hi)
    rw [hp] at hc
    simp -implicitDefEqProofs (disch := decide +kernel) only [cf, cs, bodyOf, Try.f22, Option.getD_some, go_sem, ↓reduceIte, Nat.reduceSub, Nat.reduceAdd, Nat.reduceMul, Nat.reduceBEq, Nat.reduceLT, Nat.reduceLeDiff, Nat.reduceEqDiff, reduceCtorEq, Int.reduceToNat, Int.reduceLE, Int.reduceLT, Int.reduceBEq, Int.reduceBNe, mCall, low_S, lt_true hi, arg_get hi, hc, wrap_succ (n := i) (by omega)]
  · intro i hi hp
    have hc := ih _ (arg_mem hi)
    rw [hp] at hc
    simp -implicitDefEqProofs (disch := decide +kernel) only [cf, cs, bodyOf, Try.f22, Option.getD_some, go_sem, ↓reduceIte, Nat.reduceSub, Nat.reduceAdd, Nat.reduceMul, Nat.reduceBEq, Nat.reduceLT, Nat.reduceLeDiff, Nat.reduceEqDiff, reduceCtorEq, Int.reduceToNat, Int.reduceLE, Int.reduceLT, Int.reduceBEq, Int.reduceBNe, mCall, low_S, lt_true hi, arg_get hi, hc]
  · simp -implicitDefEqProofs (disch := decide +kernel) only [cf, cs, bodyOf, Try.f22, Option.getD_some, go_sem, ↓reduceIte, Nat.reduceSub, Nat.reduceAdd, Nat.reduceMul, Nat.reduceBEq, Nat.reduceLT, Nat.reduceLeDiff, Nat.reduceEqDiff, reduceCtorEq, Int.reduceToNat, Int.reduceLE, Int.reduceLT, Int.reduceBEq, Int.reduceBNe, mCall, low_S, lt_false (Nat.le_refl t.args.length)]
theorem low_spec : ∀ t : Tm, t.size < room → (lim C).call 22 [dT t] [] = retB (lowB t) := by
  refine Tm.ind fun t ih hs => ?_
  have hl := len_size t
  rw [ev_fn 22 Try.f22 _ _ _ rfl Try.func22 rfl Try.ntmps22 rfl]
  rw [lowB_eq]
  by_cases h : t.head ≤ 1099511627776
  · have h1 : decide (t.head > 1099511627776) = false := by simpa using h
    simp -implicitDefEqProofs (disch := decide +kernel) only [go_sem, ↓reduceIte, Nat.reduceSub, Nat.reduceAdd, Nat.reduceMul, Nat.reduceBEq, Nat.reduceLT, Nat.reduceLeDiff, Nat.reduceEqDiff, reduceCtorEq, Int.reduceToNat, Int.reduceLE, Int.reduceLT, Int.reduceBEq, Int.reduceBNe, mCall, h1]
    rw [low_loop (t := t) ?hb ?hs (fun x hx => ih x hx (by have := size_arg hx; omega)) (by omega)]
    case hb => rfl
    case hs => rfl
    cases hall : allB t.args.length (fun i => lowB (t.arg i)) <;> simp -implicitDefEqProofs (disch := decide +kernel) only [go_sem, ↓reduceIte, Nat.reduceSub, Nat.reduceAdd, Nat.reduceMul, Nat.reduceBEq, Nat.reduceLT, Nat.reduceLeDiff, Nat.reduceEqDiff, reduceCtorEq, Int.reduceToNat, Int.reduceLE, Int.reduceLT, Int.reduceBEq, Int.reduceBNe, mCall] <;> simp [h]
  · have h1 : decide (t.head > 1099511627776) = true := by simp; omega
    simp -implicitDefEqProofs (disch := decide +kernel) only [go_sem, ↓reduceIte, Nat.reduceSub, Nat.reduceAdd, Nat.reduceMul, Nat.reduceBEq, Nat.reduceLT, Nat.reduceLeDiff, Nat.reduceEqDiff, reduceCtorEq, Int.reduceToNat, Int.reduceLE, Int.reduceLT, Int.reduceBEq, Int.reduceBNe, mCall, h1]
    simp [h]

def sizes (t : Tm) (i : Nat) : Nat := 1 + ((t.args.take i).map Tm.size).sum
theorem sizes_succ {t : Tm} {i : Nat} (h : i < t.args.length) : sizes t (i + 1) = sizes t i + (t.arg i).size := by
  unfold sizes
  rw [List.take_add_one, arg_get h]; simp; omega
theorem sizes_all (t : Tm) : sizes t t.args.length = t.size := by rw [sizes, List.take_length, size_eq]
theorem sizes_le {t : Tm} {i : Nat} : sizes t i ≤ t.size := by
  rw [sizes, size_eq]
  have : (t.args.map Tm.size).sum = ((t.args.take i).map Tm.size).sum + ((t.args.drop i).map Tm.size).sum := by
    rw [← List.sum_append, ← List.map_append, List.take_append_drop]
  omega
def size_S (t : Tm) (i : Nat) : St := mk 21 [(1, .lref 1 0), (3, dI (sizes t i)), (4, dI i)] [(1, cel3 t)] [] []
theorem rsize_loop {b : Code} {σ : St} {t : Tm} (hb : b = cf (cf (cs (cf (cs (cs (bodyOf Try.f23))))))) (hσ : σ = size_S t 0) (ih : ∀ x ∈ t.args, (lim C).call 23 [dT x] [] = retI x.size) (hs : t.size < room) :
    (lim C).code 23 (.loop b) σ = some (.exit 0, mk 21 [(1, .lref 1 0), (3, dI t.size), (4, dI t.args.length), (9, dB false)] [(1, cel3 t)] [] []) := by
  subst hb hσ
  have hr : room = 1099511627776 := rfl
  have hl := len_size t
  refine loop_run (size_S t) t.args.length ?_ ?_ (by simp)
  · intro i hi
    have hc := ih _ (arg_mem hi)
    have h1 := sizes_succ hi
    have h2 := sizes_le (t := t) (i := i + 1)
    have hw : IntKind.wrap .i64 ((sizes t i : Int) + ((t.arg i).size : Int)) = (sizes t (i + 1) : Int) := by rw [wrap_ok (by omega) (by omega)]; omega
    simp -implicitDefEqProofs (disch := decide +kernel) only [cf, cs, bodyOf, Try.f23, Option.getD_some, go_sem, ↓reduceIte, Nat.reduceSub, Nat.reduceAdd, Nat.reduceMul, Nat.reduceBEq, Nat.reduceLT, Nat.reduceLeDiff, Nat.reduceEqDiff, reduceCtorEq, Int.reduceToNat, Int.reduceLE, Int.reduceLT, Int.reduceBEq, Int.reduceBNe, mCall, size_S, lt_true hi, arg_get hi, hc, wrap_succ (n := i) (by omega), hw]
  · simp -implicitDefEqProofs (disch := decide +kernel) only [cf, cs, bodyOf, Try.f23, Option.getD_some, go_sem, ↓reduceIte, Nat.reduceSub, Nat.reduceAdd, Nat.reduceMul, Nat.reduceBEq, Nat.reduceLT, Nat.reduceLeDiff, Nat.reduceEqDiff, reduceCtorEq, Int.reduceToNat, Int.reduceLE, Int.reduceLT, Int.reduceBEq, Int.reduceBNe, mCall, size_S, lt_false (Nat.le_refl t.args.length), sizes_all]
theorem rsize_spec : ∀ t : Tm, t.size < room → (lim C).call 23 [dT t] [] = retI t.size := by
  refine Tm.ind fun t ih hs => ?_
  rw [ev_fn 23 Try.f23 _ _ _ rfl Try.func23 rfl Try.ntmps23 rfl]
  simp -implicitDefEqProofs (disch := decide +kernel) only [go_sem, ↓reduceIte, Nat.reduceSub, Nat.reduceAdd, Nat.reduceMul, Nat.reduceBEq, Nat.reduceLT, Nat.reduceLeDiff, Nat.reduceEqDiff, reduceCtorEq, Int.reduceToNat, Int.reduceLE, Int.reduceLT, Int.reduceBEq, Int.reduceBNe, mCall]
  rw [rsize_loop (t := t) ?hb ?hs (fun x hx => ih x hx (by have := size_arg hx; omega)) hs]
  case hb => rfl
  case hs => rfl
  simp -implicitDefEqProofs (disch := decide +kernel) only [go_sem, ↓reduceIte, Nat.reduceSub, Nat.reduceAdd, Nat.reduceMul, Nat.reduceBEq, Nat.reduceLT, Nat.reduceLeDiff, Nat.reduceEqDiff, reduceCtorEq, Int.reduceToNat, Int.reduceLE, Int.reduceLT, Int.reduceBEq, Int.reduceBNe, mCall]

def deps' (t : Tm) (i : Nat) : Nat := ((t.args.take i).map Tm.depth).foldr max 0
theorem foldr_max_append (a : List Nat) (x : Nat) : (a ++ [x]).foldr max 0 = max (a.foldr max 0) x := by
  induction a with
  | nil => simp
  | cons y a ih => simp only [List.cons_append, List.foldr_cons, ih]; omega
theorem deps_succ {t : Tm} {i : Nat} (h : i < t.args.length) : deps' t (i + 1) = max (deps' t i) (t.arg i).depth := by
  unfold deps'
  rw [List.take_add_one, arg_get h, List.map_append, ← foldr_max_append]; rfl
theorem deps_all (t : Tm) : deps' t t.args.length + 1 = t.depth := by rw [deps', List.take_length, depth_eq]; omega
theorem depth_size : ∀ t : Tm, t.depth ≤ t.size := by
  refine Tm.ind fun t ih => ?_
  rw [depth_eq, size_eq]
  have : ∀ l : List Tm, (∀ x ∈ l, x.depth ≤ x.size) → (l.map Tm.depth).foldr max 0 ≤ (l.map Tm.size).sum := by
    intro l
    induction l with
    | nil => simp
    | cons a l ih =>
      intro h
      have h1 := h a (by simp)
      have h2 := ih fun x hx => h x (by simp [hx])
      simp only [List.map_cons, List.foldr_cons, List.sum_cons]
      omega
  have := this _ ih
  omega
theorem deps_le (t : Tm) : ∀ i, i ≤ t.args.length → deps' t i < t.depth := by
  have key : ∀ k i, i + k = t.args.length → deps' t i + 1 ≤ t.depth := by
    intro k
    induction k with
    | zero => intro i hi; rw [← deps_all t, ← hi]; exact Nat.le_refl _
    | succ k ih =>
      intro i hi
      have := ih (i + 1) (by omega)
      rw [deps_succ (by omega)] at this
      omega
  intro i hi
  have := key (t.args.length - i) i (by omega)
  omega
def rdepth_S (t : Tm) (i : Nat) : St := mk 25 [(1, .lref 1 0), (3, dI (deps' t i)), (4, dI i)] [(1, cel3 t)] [] []
theorem rdepth_loop {b : Code} {σ : St} {t : Tm} (hb : b = cf (cf (cs (cf (cs (cs (bodyOf Try.f24))))))) (hσ : σ = rdepth_S t 0) (ih : ∀ x ∈ t.args, (lim C).call 24 [dT x] [] = retI x.depth) (hs : t.size < room) :
    (lim C).code 24 (.loop b) σ = some (.exit 0, mk 25 [(1, .lref 1 0), (3, dI (deps' t t.args.length)), (4, dI t.args.length), (10, dB false)] [(1, cel3 t)] [] []) := by
  subst hb hσ
  have hr : room = 1099511627776 := rfl
  have hl := len_size t
  refine loop_run (rdepth_S t) t.args.length ?_ ?_ (by simp)
  · intro i hi
    have hc := ih _ (arg_mem hi)
    have h1 := deps_succ hi
    by_cases h : deps' t i < (t.arg i).depth
    · have h2 : decide (((t.arg i).depth : Int) > (deps' t i : Int)) = true := by simpa using h
      have h3 : deps' t (i + 1) = (t.arg i).depth := by omega
      simp -implicitDefEqProofs (disch := decide +kernel) only [cf, cs, bodyOf, Try.f24, Option.getD_some, go_sem, ↓reduceIte, Nat.reduceSub, Nat.reduceAdd, Nat.reduceMul, Nat.reduceBEq, Nat.reduceLT, Nat.reduceLeDiff, Nat.reduceEqDiff, reduceCtorEq, Int.reduceToNat, Int.reduceLE, Int.reduceLT, Int.reduceBEq, Int.reduceBNe, mCall, rdepth_S, lt_true hi, arg_get hi, hc, wrap_succ (n := i) (by omega), h2, h3]
    · have h2 : decide (((t.arg i).depth : Int) > (deps' t i : Int)) = false := by simpa using h
      have h3 : deps' t (i + 1) = deps' t i := by omega
      simp -implicitDefEqProofs (disch := decide +kernel) only [cf, cs, bodyOf, Try.f24, Option.getD_some, go_sem, ↓reduceIte, Nat.reduceSub, Nat.reduceAdd, Nat.reduceMul, Nat.reduceBEq, Nat.reduceLT, Nat.reduceLeDiff, Nat.reduceEqDiff, reduceCtorEq, Int.reduceToNat, Int.reduceLE, Int.reduceLT, Int.reduceBEq, Int.reduceBNe, mCall, rdepth_S, lt_true hi, arg_get hi, hc, wrap_succ (n := i) (by omega), h2, h3]
  · simp -implicitDefEqProofs (disch := decide +kernel) only [cf, cs, bodyOf, Try.f24, Option.getD_some, go_sem, ↓reduceIte, Nat.reduceSub, Nat.reduceAdd, Nat.reduceMul, Nat.reduceBEq, Nat.reduceLT, Nat.reduceLeDiff, Nat.reduceEqDiff, reduceCtorEq, Int.reduceToNat, Int.reduceLE, Int.reduceLT, Int.reduceBEq, Int.reduceBNe, mCall, rdepth_S, lt_false (Nat.le_refl t.args.length)]
theorem rdepth_spec : ∀ t : Tm, t.size < room → (lim C).call 24 [dT t] [] = retI t.depth := by
  refine Tm.ind fun t ih hs => ?_
  have hr : room = 1099511627776 := rfl
  rw [ev_fn 24 Try.f24 _ _ _ rfl Try.func24 rfl Try.ntmps24 rfl]
  simp -implicitDefEqProofs (disch := decide +kernel) only [go_sem, ↓reduceIte, Nat.reduceSub, Nat.reduceAdd, Nat.reduceMul, Nat.reduceBEq, Nat.reduceLT, Nat.reduceLeDiff, Nat.reduceEqDiff, reduceCtorEq, Int.reduceToNat, Int.reduceLE, Int.reduceLT, Int.reduceBEq, Int.reduceBNe, mCall]
  rw [rdepth_loop (t := t) ?hb ?hs (fun x hx => ih x hx (by have := size_arg hx; omega)) hs]
  case hb => rfl
  case hs => rfl
  have h1 := deps_all t
  have h2 := depth_size t
  simp -implicitDefEqProofs (disch := decide +kernel) only [go_sem, ↓reduceIte, Nat.reduceSub, Nat.reduceAdd, Nat.reduceMul, Nat.reduceBEq, Nat.reduceLT, Nat.reduceLeDiff, Nat.reduceEqDiff, reduceCtorEq, Int.reduceToNat, Int.reduceLE, Int.reduceLT, Int.reduceBEq, Int.reduceBNe, mCall, wrap_succ (n := deps' t t.args.length) (by omega), h1]
end Go.Proofs.Ytobocgjdlchemaa
/- The reference's functions of layer 1, second part. -/
set_option linter.unusedSimpArgs false
set_option linter.unusedVariables false
set_option maxRecDepth 100000
namespace Go.Proofs.Ytobocgjdlchemaa
open Go.Proofs
theorem kinds (t : Tm) : t.kind = 0 ∨ t.kind = 1 ∨ t.kind = 2 ∨ t.kind = 3 ∨ t.kind = 4 ∨ t.kind = 5 ∨ t.kind = 6 ∨ (t.kind < 0 ∨ 6 < t.kind) := by omega
theorem light_spec (t : Tm) (s d : Int) (hs : t.size < room) : (lim C).call 7 [dT t, dI s, dI d] [] = retB (lightB t s d) := by
  rw [ev_fn 7 Try.f7 _ _ _ rfl Try.func7 rfl Try.ntmps7 rfl]
  unfold lightB
  cases h1 : lowB t
  · simp -implicitDefEqProofs (disch := decide +kernel) only [go_sem, ↓reduceIte, Nat.reduceSub, Nat.reduceAdd, Nat.reduceMul, Nat.reduceBEq, Nat.reduceLT, Nat.reduceLeDiff, Nat.reduceEqDiff, reduceCtorEq, Int.reduceToNat, Int.reduceLE, Int.reduceLT, Int.reduceBEq, Int.reduceBNe, mCall, low_spec t hs, h1]
  · cases e2 : decide ((t.size : Int) ≤ s)
    · simp -implicitDefEqProofs (disch := decide +kernel) only [go_sem, ↓reduceIte, Nat.reduceSub, Nat.reduceAdd, Nat.reduceMul, Nat.reduceBEq, Nat.reduceLT, Nat.reduceLeDiff, Nat.reduceEqDiff, reduceCtorEq, Int.reduceToNat, Int.reduceLE, Int.reduceLT, Int.reduceBEq, Int.reduceBNe, mCall, low_spec t hs, rsize_spec t hs, h1, e2]
    · simp -implicitDefEqProofs (disch := decide +kernel) only [go_sem, ↓reduceIte, Nat.reduceSub, Nat.reduceAdd, Nat.reduceMul, Nat.reduceBEq, Nat.reduceLT, Nat.reduceLeDiff, Nat.reduceEqDiff, reduceCtorEq, Int.reduceToNat, Int.reduceLE, Int.reduceLT, Int.reduceBEq, Int.reduceBNe, mCall, low_spec t hs, rsize_spec t hs, rdepth_spec t hs, h1, e2]
end Go.Proofs.Ytobocgjdlchemaa
/- The reference's functions of layer 1, third part: Same, Scoped, List. -/
set_option linter.unusedSimpArgs false
set_option linter.unusedVariables false
set_option maxRecDepth 100000
namespace Go.Proofs.Ytobocgjdlchemaa
open Go.Proofs
def sameL (a b : List Tm) : Bool := a.length == b.length && allB a.length fun i => sameB (a.getD i default) (b.getD i default)
theorem getD_get {a : List Tm} {i : Nat} (h : i < a.length) : a[i]? = some (a.getD i default) := by simp [List.getD, List.getElem?_eq_getElem h]
theorem getD_mem {a : List Tm} {i : Nat} (h : i < a.length) : a.getD i default ∈ a := List.mem_of_getElem? (getD_get h)
def rlist_S (a c : List Tm) (i : Nat) : St := mk 30 [(0, dL a), (1, dL c), (5, dI i)] [] [] []
end Go.Proofs.Ytobocgjdlchemaa
/- The program's functions of layer 1: walk. -/
set_option linter.unusedSimpArgs false
set_option linter.unusedVariables false
set_option maxRecDepth 100000
namespace Go.Proofs.Ytobocgjdlchemaa
open Go.Proofs
theorem tbinds_spec (t : Tm) : (lim C).call 46 [dT t] [] = retB (bindsB t) := by
  rw [ev_fn 46 Try.f46 _ _ _ rfl Try.func46 rfl Try.ntmps46 rfl]
  unfold bindsB
  cases h1 : (t.kind == 1)
  · simp -implicitDefEqProofs (disch := decide +kernel) only [go_sem, ↓reduceIte, Nat.reduceSub, Nat.reduceAdd, Nat.reduceMul, Nat.reduceBEq, Nat.reduceLT, Nat.reduceLeDiff, Nat.reduceEqDiff, reduceCtorEq, Int.reduceToNat, Int.reduceLE, Int.reduceLT, Int.reduceBEq, Int.reduceBNe, mCall, h1]
  · simp -implicitDefEqProofs (disch := decide +kernel) only [go_sem, ↓reduceIte, Nat.reduceSub, Nat.reduceAdd, Nat.reduceMul, Nat.reduceBEq, Nat.reduceLT, Nat.reduceLeDiff, Nat.reduceEqDiff, reduceCtorEq, Int.reduceToNat, Int.reduceLE, Int.reduceLT, Int.reduceBEq, Int.reduceBNe, mCall, h1]
/-- What a walk does at each node: an answer of yield. -/
def Yields {S R : Type} (y : Nat) (H : S → List HO) (E : R → List HO) (step : S → Int × Tm → Except R S) (ok : Int × Tm → Prop) : Prop :=
  ∀ (s : S) (n : Int) (x : Tm) (locs : List (Option (List AV))) (toks : List (Option Nat)), ok (n, x) → mYld (lim C) y [dI n, dT x] { locs := locs, heap := H s, toks := toks } = some (match step s (n, x) with
    | .ok s' => (.v (dB true), { locs := locs, heap := H s', toks := toks })
    | .error r => (.v (dB false), { locs := locs, heap := E r, toks := toks }))
def walk_S (t : Tm) (n : Int) (y : Nat) (i : Nat) (h : List HO) : St := mk 42 [(1, dI n), (2, .yld y), (3, .lref 3 0), (16, dL t.args), (17, dI t.args.length), (18, dI i)] [(3, cel3 t)] h []
theorem bindsB_bnd {t : Tm} {i : Nat} (h : bindsB t = true) (e : ((i : Int) == (t.args.length : Int) - 1) = true) : bnd t i = 1 := by
  simp [bindsB] at h
  simp at e
  unfold bnd
  rw [if_pos ⟨h, by omega⟩]
theorem bindsB_no {t : Tm} {i : Nat} (h : bindsB t = false) : bnd t i = 0 := by
  simp [bindsB] at h
  unfold bnd
  rw [if_neg (by rintro ⟨h1 | h1, _⟩ <;> simp_all)]
theorem bindsB_not {t : Tm} {i : Nat} (e : ((i : Int) == (t.args.length : Int) - 1) = false) : bnd t i = 0 := by
  simp at e
  unfold bnd
  rw [if_neg (by rintro ⟨_, h1⟩; omega)]
theorem walk_loop {S R : Type} {y : Nat} {H : S → List HO} {E : R → List HO} {step : S → Int × Tm → Except R S} {t : Tm} {n : Int} (hs : t.size < room) (hn : 0 ≤ n ∧ n + t.size < 4000000000000000000)
    {ok : Int × Tm → Prop} (hok : ∀ p ∈ pre t n, ok p)
    (ih : ∀ x ∈ t.args, ∀ (m : Int) (s : S), 0 ≤ m → m + x.size < 4000000000000000000 → (∀ p ∈ pre x m, ok p) → (lim C).call 40 [dT x, dI m, .yld y] (H s) = some (match runL step (pre x m) s with | .ok s' => (.ret (dB true), H s') | .error r => (.ret (dB false), E r))) :
    ∀ (k i : Nat) (s : S), i + k = t.args.length → (lim C).code 40 (.loop (cf (cf (cs (cf (cs (cs (bodyOf Try.f40)))))))) (walk_S t n y i (H s)) = some (match runL step (preF pre t n k i) s with
      | .ok s' => (.exit 0, mk 42 [(1, dI n), (2, .yld y), (3, .lref 3 0), (16, dL t.args), (17, dI t.args.length), (18, dI t.args.length), (19, dB false)] [(3, cel3 t)] (H s') [])
      | .error r => (.ret, mk 42 [(6, dB false)] [] (E r) []))
  | 0, i, s, e => by
    have hr : room = 1099511627776 := rfl
    obtain rfl : i = t.args.length := by omega
    rw [ev_loop]
    simp -implicitDefEqProofs (disch := decide +kernel) only [cf, cs, bodyOf, Try.f40, Option.getD_some, go_sem, ↓reduceIte, Nat.reduceSub, Nat.reduceAdd, Nat.reduceMul, Nat.reduceBEq, Nat.reduceLT, Nat.reduceLeDiff, Nat.reduceEqDiff, reduceCtorEq, Int.reduceToNat, Int.reduceLE, Int.reduceLT, Int.reduceBEq, Int.reduceBNe, mCall, walk_S, lt_false (Nat.le_refl t.args.length), preF, runL]
  | k + 1, i, s, e => by
    have hr : room = 1099511627776 := rfl
    have hi : i < t.args.length := by omega
    have hl := len_size t
    have hsz := size_arg (arg_mem hi)
    have hbl := bnd_le t i
    have hrec := ih _ (arg_mem hi) (n + bnd t i) s (by omega) (by omega) (fun p hp => hok p (pre_sub hi hp))
    have hrest := fun s' => walk_loop hs hn hok ih k (i + 1) s' (by omega)
    simp only [preF, runL_append]
    rw [ev_loop]
    have hw1 : IntKind.wrap .i64 ((t.args.length : Int) - 1) = (t.args.length : Int) - 1 := wrap_ok (by omega) (by omega)
    have hw2 : IntKind.wrap .i64 (n + 1) = n + 1 := wrap_ok (by omega) (by omega)
    have hws := wrap_succ (n := i) (by omega)
    cases hrun : runL step (pre (t.arg i) (n + bnd t i)) s with
    | ok s' =>
      have hr' := hrest s'
      rw [hrun] at hrec
      cases hb : bindsB t
      · rw [bindsB_no hb, Int.natCast_zero, Int.add_zero] at hrec
        simp -implicitDefEqProofs (disch := decide +kernel) only [cf, cs, bodyOf, Try.f40, Option.getD_some, go_sem, ↓reduceIte, Nat.reduceSub, Nat.reduceAdd, Nat.reduceMul, Nat.reduceBEq, Nat.reduceLT, Nat.reduceLeDiff, Nat.reduceEqDiff, reduceCtorEq, Int.reduceToNat, Int.reduceLE, Int.reduceLT, Int.reduceBEq, Int.reduceBNe, mCall, walk_S, lt_true hi, arg_get hi, tbinds_spec t, hb, hws, hrec]
        exact hr'
      · cases he : ((i : Int) == (t.args.length : Int) - 1)
        · rw [bindsB_not he, Int.natCast_zero, Int.add_zero] at hrec
          simp -implicitDefEqProofs (disch := decide +kernel) only [cf, cs, bodyOf, Try.f40, Option.getD_some, go_sem, ↓reduceIte, Nat.reduceSub, Nat.reduceAdd, Nat.reduceMul, Nat.reduceBEq, Nat.reduceLT, Nat.reduceLeDiff, Nat.reduceEqDiff, reduceCtorEq, Int.reduceToNat, Int.reduceLE, Int.reduceLT, Int.reduceBEq, Int.reduceBNe, mCall, walk_S, lt_true hi, arg_get hi, tbinds_spec t, hb, hw1, he, hws, hrec]
          exact hr'
        · rw [bindsB_bnd hb he] at hrec
          have hrec : _ = _ := hrec
          rw [Int.natCast_one] at hrec
          simp -implicitDefEqProofs (disch := decide +kernel) only [cf, cs, bodyOf, Try.f40, Option.getD_some, go_sem, ↓reduceIte, Nat.reduceSub, Nat.reduceAdd, Nat.reduceMul, Nat.reduceBEq, Nat.reduceLT, Nat.reduceLeDiff, Nat.reduceEqDiff, reduceCtorEq, Int.reduceToNat, Int.reduceLE, Int.reduceLT, Int.reduceBEq, Int.reduceBNe, mCall, walk_S, lt_true hi, arg_get hi, tbinds_spec t, hb, hw1, hw2, he, hws, hrec]
          exact hr'
    | error r =>
      rw [hrun] at hrec
      cases hb : bindsB t
      · rw [bindsB_no hb, Int.natCast_zero, Int.add_zero] at hrec
        simp -implicitDefEqProofs (disch := decide +kernel) only [cf, cs, bodyOf, Try.f40, Option.getD_some, go_sem, ↓reduceIte, Nat.reduceSub, Nat.reduceAdd, Nat.reduceMul, Nat.reduceBEq, Nat.reduceLT, Nat.reduceLeDiff, Nat.reduceEqDiff, reduceCtorEq, Int.reduceToNat, Int.reduceLE, Int.reduceLT, Int.reduceBEq, Int.reduceBNe, mCall, walk_S, lt_true hi, arg_get hi, tbinds_spec t, hb, hws, hrec]
      · cases he : ((i : Int) == (t.args.length : Int) - 1)
        · rw [bindsB_not he, Int.natCast_zero, Int.add_zero] at hrec
          simp -implicitDefEqProofs (disch := decide +kernel) only [cf, cs, bodyOf, Try.f40, Option.getD_some, go_sem, ↓reduceIte, Nat.reduceSub, Nat.reduceAdd, Nat.reduceMul, Nat.reduceBEq, Nat.reduceLT, Nat.reduceLeDiff, Nat.reduceEqDiff, reduceCtorEq, Int.reduceToNat, Int.reduceLE, Int.reduceLT, Int.reduceBEq, Int.reduceBNe, mCall, walk_S, lt_true hi, arg_get hi, tbinds_spec t, hb, hw1, he, hws, hrec]
        · rw [bindsB_bnd hb he] at hrec
          have hrec : _ = _ := hrec
          rw [Int.natCast_one] at hrec
          simp -implicitDefEqProofs (disch := decide +kernel) only [cf, cs, bodyOf, Try.f40, Option.getD_some, go_sem, ↓reduceIte, Nat.reduceSub, Nat.reduceAdd, Nat.reduceMul, Nat.reduceBEq, Nat.reduceLT, Nat.reduceLeDiff, Nat.reduceEqDiff, reduceCtorEq, Int.reduceToNat, Int.reduceLE, Int.reduceLT, Int.reduceBEq, Int.reduceBNe, mCall, walk_S, lt_true hi, arg_get hi, tbinds_spec t, hb, hw1, hw2, he, hws, hrec]
theorem walk_spec {S R : Type} {y : Nat} {H : S → List HO} {E : R → List HO} {step : S → Int × Tm → Except R S} {ok : Int × Tm → Prop} (hy : Yields y H E step ok) : ∀ t : Tm, t.size < room → ∀ (n : Int) (s : S), 0 ≤ n → n + t.size < 4000000000000000000 → (∀ p ∈ pre t n, ok p) →
    (lim C).call 40 [dT t, dI n, .yld y] (H s) = some (match runL step (pre t n) s with | .ok s' => (.ret (dB true), H s') | .error r => (.ret (dB false), E r)) := by
  refine Tm.ind fun t ih hs n s hn1 hn2 hok => ?_
  have hl := len_size t
  rw [ev_fn 40 Try.f40 _ _ _ rfl Try.func40 rfl Try.ntmps40 rfl]
  have hst := hy s n t
  have hok0 := hok (n, t) (by rw [pre_eq]; simp)
  rw [pre_eq, runL]
  cases hstep : step s (n, t) with
  | error r =>
    have hst := fun locs toks => hst locs toks hok0
    rw [hstep] at hst
    simp -implicitDefEqProofs (disch := decide +kernel) only [go_sem, ↓reduceIte, Nat.reduceSub, Nat.reduceAdd, Nat.reduceMul, Nat.reduceBEq, Nat.reduceLT, Nat.reduceLeDiff, Nat.reduceEqDiff, reduceCtorEq, Int.reduceToNat, Int.reduceLE, Int.reduceLT, Int.reduceBEq, Int.reduceBNe, mCall, hst]
  | ok s' =>
    have hst := fun locs toks => hst locs toks hok0
    rw [hstep] at hst
    simp -implicitDefEqProofs (disch := decide +kernel) only [go_sem, ↓reduceIte, Nat.reduceSub, Nat.reduceAdd, Nat.reduceMul, Nat.reduceBEq, Nat.reduceLT, Nat.reduceLeDiff, Nat.reduceEqDiff, reduceCtorEq, Int.reduceToNat, Int.reduceLE, Int.reduceLT, Int.reduceBEq, Int.reduceBNe, mCall, hst]
    have hloop := walk_loop (H := H) (E := E) (y := y) (step := step) hs ⟨hn1, hn2⟩ hok (fun x hx m s h1 h2 h3 => ih x hx (by have := size_arg hx; omega) m s h1 h2 h3) t.args.length 0 s' (by omega)
    cases hrun : runL step (preF pre t n t.args.length 0) s' with
    | ok s2 =>
      rw [hrun] at hloop
      rw [loop_at hloop ?hb ?hs]
      case hb => rfl
      case hs => rfl
      simp -implicitDefEqProofs (disch := decide +kernel) only [go_sem, ↓reduceIte, Nat.reduceSub, Nat.reduceAdd, Nat.reduceMul, Nat.reduceBEq, Nat.reduceLT, Nat.reduceLeDiff, Nat.reduceEqDiff, reduceCtorEq, Int.reduceToNat, Int.reduceLE, Int.reduceLT, Int.reduceBEq, Int.reduceBNe, mCall]
    | error r =>
      rw [hrun] at hloop
      rw [loop_at hloop ?hb ?hs]
      case hb => rfl
      case hs => rfl
      simp -implicitDefEqProofs (disch := decide +kernel) only [go_sem, ↓reduceIte, Nat.reduceSub, Nat.reduceAdd, Nat.reduceMul, Nat.reduceBEq, Nat.reduceLT, Nat.reduceLeDiff, Nat.reduceEqDiff, reduceCtorEq, Int.reduceToNat, Int.reduceLE, Int.reduceLT, Int.reduceBEq, Int.reduceBNe, mCall]
end Go.Proofs.Ytobocgjdlchemaa
/- The program's functions of layer 1: Size, Depth, all, May, Scoped, Same. -/
set_option linter.unusedSimpArgs false
set_option linter.unusedVariables false
set_option maxRecDepth 100000
namespace Go.Proofs.Ytobocgjdlchemaa
open Go.Proofs
theorem getApp0 {α : Type} (h l : List α) : (h ++ l)[h.length]? = l[0]? := by rw [List.getElem?_append_right (Nat.le_refl _), Nat.sub_self]
theorem getApp {α : Type} (h l : List α) (k : Nat) : (h ++ l)[h.length + k]? = l[k]? := by rw [List.getElem?_append_right (by omega)]; congr 1; omega
theorem setApp0 {α : Type} (h l : List α) (v : α) : (h ++ l).set h.length v = h ++ l.set 0 v := by rw [List.set_append_right _ _ (Nat.le_refl _), Nat.sub_self]
theorem setApp {α : Type} (h l : List α) (k : Nat) (v : α) : (h ++ l).set (h.length + k) v = h ++ l.set k v := by
  rw [List.set_append_right _ _ (by omega)]; congr 2; omega
theorem tnodes_spec (t : Tm) (h : List HO) : (lim C).call 25 [dT t] h = some (.ret (.fn 39 [] [.href h.length 0]), h ++ [.var 0 (cel3 t)]) := by
  rw [ev_fn 25 Try.f25 _ _ _ rfl Try.func25 rfl Try.ntmps25 rfl]
  simp -implicitDefEqProofs (disch := decide +kernel) only [go_sem, ↓reduceIte, Nat.reduceSub, Nat.reduceAdd, Nat.reduceMul, Nat.reduceBEq, Nat.reduceLT, Nat.reduceLeDiff, Nat.reduceEqDiff, reduceCtorEq, Int.reduceToNat, Int.reduceLE, Int.reduceLT, Int.reduceBEq, Int.reduceBNe, mCall]
theorem tnodes1_spec {S R : Type} {y i : Nat} {H : S → List HO} {E : R → List HO} {step : S → Int × Tm → Except R S} {ok : Int × Tm → Prop} (hy : Yields y H E step ok) (t : Tm) (hs : t.size < room) (s : S) (hi : (H s)[i]? = some (.var 0 (cel3 t)))
    (hok : ∀ p ∈ pre t 0, ok p) : (lim C).call 39 [.yld y, .href i 0] (H s) = some (match runL step (pre t 0) s with | .ok s' => (.ret (.tup []), H s') | .error r => (.ret (.tup []), E r)) := by
  have hr : room = 1099511627776 := rfl
  have hw := walk_spec hy t hs 0 s (by omega) (by omega) hok
  simp only [cel3] at hi
  rw [ev_fn 39 Try.f39 _ _ _ rfl Try.func39 rfl Try.ntmps39 rfl]
  cases hrun : runL step (pre t 0) s with
  | ok s' =>
    rw [hrun] at hw
    simp -implicitDefEqProofs (disch := decide +kernel) only [go_sem, ↓reduceIte, Nat.reduceSub, Nat.reduceAdd, Nat.reduceMul, Nat.reduceBEq, Nat.reduceLT, Nat.reduceLeDiff, Nat.reduceEqDiff, reduceCtorEq, Int.reduceToNat, Int.reduceLE, Int.reduceLT, Int.reduceBEq, Int.reduceBNe, mCall, hi, hw]
  | error r =>
    rw [hrun] at hw
    simp -implicitDefEqProofs (disch := decide +kernel) only [go_sem, ↓reduceIte, Nat.reduceSub, Nat.reduceAdd, Nat.reduceMul, Nat.reduceBEq, Nat.reduceLT, Nat.reduceLeDiff, Nat.reduceEqDiff, reduceCtorEq, Int.reduceToNat, Int.reduceLE, Int.reduceLT, Int.reduceBEq, Int.reduceBNe, mCall, hi, hw]
noncomputable def size_L : LoopA := { fn := 10, tmps := tl 11 [(2, dI 0), (3, .href 0 0), (5, .fn 39 [] [.href 1 0])], params := [6, 7], assign := cf (cf (cs (cf (cs (cs (bodyOf Try.f10)))))), body := cs (cf (cs (cf (cs (cs (bodyOf Try.f10)))))) }
noncomputable def size_H (t : Tm) (z : Int) : List HO := [.var 0 [dI z], .var 0 (cel3 t), .loop .ready none size_L]
theorem size_yields (t : Tm) : Yields (R := Empty) 2 (size_H t) (fun _ => []) (fun z _ => .ok (IntKind.wrap .i64 (z + 1))) (fun _ => True) := by
  intro z n x locs toks _
  simp only
  simp -implicitDefEqProofs (disch := decide +kernel) only [cf, cs, bodyOf, Try.f10, Option.getD_some, go_sem, ↓reduceIte, Nat.reduceSub, Nat.reduceAdd, Nat.reduceMul, Nat.reduceBEq, Nat.reduceLT, Nat.reduceLeDiff, Nat.reduceEqDiff, reduceCtorEq, Int.reduceToNat, Int.reduceLE, Int.reduceLT, Int.reduceBEq, Int.reduceBNe, mCall, size_H, size_L, mYld_K]
theorem run_count (t : Tm) : ∀ (l : List (Int × Tm)) (k : Nat), k + l.length < 9223372036854775807 → runL (R := Empty) (fun (z : Int) (_ : Int × Tm) => .ok (IntKind.wrap .i64 (z + 1))) l (k : Int) = .ok ((k + l.length : Nat) : Int)
  | [], k, h => rfl
  | x :: l, k, h => by
    simp only [List.length_cons] at h
    rw [runL]
    simp only [wrap_succ (n := k) (by omega)]
    rw [run_count t l (k + 1) (by omega)]
    congr 2
    simp only [List.length_cons]
    omega
theorem tsize_spec (t : Tm) (hs : t.size < room) : (lim C).call 10 [dT t] [] = some (.ret (dI t.size), [.var 0 [dI t.size], .var 0 (cel3 t), .dead]) := by
  have hr : room = 1099511627776 := rfl
  rw [ev_fn 10 Try.f10 _ _ _ rfl Try.func10 rfl Try.ntmps10 rfl]
  simp -implicitDefEqProofs (disch := decide +kernel) only [go_sem, ↓reduceIte, Nat.reduceSub, Nat.reduceAdd, Nat.reduceMul, Nat.reduceBEq, Nat.reduceLT, Nat.reduceLeDiff, Nat.reduceEqDiff, reduceCtorEq, Int.reduceToNat, Int.reduceLE, Int.reduceLT, Int.reduceBEq, Int.reduceBNe, mCall, tnodes_spec]
  have h1 := tnodes1_spec (size_yields t) t hs (i := 1) 0 rfl (fun _ _ => trivial)
  rw [show (0 : Int) = ((0 : Nat) : Int) from rfl, run_count t _ 0 (by rw [pre_len]; omega), pre_len] at h1
  rw [call_at h1 ?hh]
  case hh => rfl
  simp -implicitDefEqProofs (disch := decide +kernel) only [go_sem, ↓reduceIte, Nat.reduceSub, Nat.reduceAdd, Nat.reduceMul, Nat.reduceBEq, Nat.reduceLT, Nat.reduceLeDiff, Nat.reduceEqDiff, reduceCtorEq, Int.reduceToNat, Int.reduceLE, Int.reduceLT, Int.reduceBEq, Int.reduceBNe, mCall, size_H]

def tdepth_S (t : Tm) (i : Nat) : St := mk 20 [(3, dI (deps' t i)), (7, dL t.args), (8, dI t.args.length), (9, dI i)] [] [] []
theorem maxI (a b : Nat) : (if (b : Int) > (a : Int) then (b : Int) else (a : Int)) = ((max a b : Nat) : Int) := by split <;> omega
theorem tdepth_loop {b : Code} {σ : St} {t : Tm} (hb : b = cf (cf (cs (cf (cs (cs (bodyOf Try.f20))))))) (hσ : σ = tdepth_S t 0) (ih : ∀ x ∈ t.args, (lim C).call 20 [dT x] [] = retI x.depth) (hs : t.size < room) :
    (lim C).code 20 (.loop b) σ = some (.exit 0, mk 20 [(3, dI (deps' t t.args.length)), (7, dL t.args), (8, dI t.args.length), (9, dI t.args.length), (10, dB false)] [] [] []) := by
  subst hb hσ
  have hr : room = 1099511627776 := rfl
  have hl := len_size t
  refine loop_run (tdepth_S t) t.args.length ?_ ?_ (by simp)
  · intro i hi
    have hc := ih _ (arg_mem hi)
    simp -implicitDefEqProofs (disch := decide +kernel) only [cf, cs, bodyOf, Try.f20, Option.getD_some, go_sem, ↓reduceIte, Nat.reduceSub, Nat.reduceAdd, Nat.reduceMul, Nat.reduceBEq, Nat.reduceLT, Nat.reduceLeDiff, Nat.reduceEqDiff, reduceCtorEq, Int.reduceToNat, Int.reduceLE, Int.reduceLT, Int.reduceBEq, Int.reduceBNe, mCall, tdepth_S, lt_true hi, arg_get hi, hc, wrap_succ (n := i) (by omega), maxI, deps_succ hi]
  · simp -implicitDefEqProofs (disch := decide +kernel) only [cf, cs, bodyOf, Try.f20, Option.getD_some, go_sem, ↓reduceIte, Nat.reduceSub, Nat.reduceAdd, Nat.reduceMul, Nat.reduceBEq, Nat.reduceLT, Nat.reduceLeDiff, Nat.reduceEqDiff, reduceCtorEq, Int.reduceToNat, Int.reduceLE, Int.reduceLT, Int.reduceBEq, Int.reduceBNe, mCall, tdepth_S, lt_false (Nat.le_refl t.args.length)]
theorem tdepth_spec : ∀ t : Tm, t.size < room → (lim C).call 20 [dT t] [] = retI t.depth := by
  refine Tm.ind fun t ih hs => ?_
  have hr : room = 1099511627776 := rfl
  rw [ev_fn 20 Try.f20 _ _ _ rfl Try.func20 rfl Try.ntmps20 rfl]
  simp -implicitDefEqProofs (disch := decide +kernel) only [go_sem, ↓reduceIte, Nat.reduceSub, Nat.reduceAdd, Nat.reduceMul, Nat.reduceBEq, Nat.reduceLT, Nat.reduceLeDiff, Nat.reduceEqDiff, reduceCtorEq, Int.reduceToNat, Int.reduceLE, Int.reduceLT, Int.reduceBEq, Int.reduceBNe, mCall]
  rw [tdepth_loop (t := t) ?hb ?hs (fun x hx => ih x hx (by have := size_arg hx; omega)) hs]
  case hb => rfl
  case hs => rfl
  have h1 := deps_all t
  have h2 := depth_size t
  simp -implicitDefEqProofs (disch := decide +kernel) only [go_sem, ↓reduceIte, Nat.reduceSub, Nat.reduceAdd, Nat.reduceMul, Nat.reduceBEq, Nat.reduceLT, Nat.reduceLeDiff, Nat.reduceEqDiff, reduceCtorEq, Int.reduceToNat, Int.reduceLE, Int.reduceLT, Int.reduceBEq, Int.reduceBNe, mCall, wrap_succ (n := deps' t t.args.length) (by omega), h1]
theorem tmay_spec (t : Tm) : (lim C).call 28 [dT t] [] = retB (nodeOk t) := by
  rw [ev_fn 28 Try.f28 _ _ _ rfl Try.func28 rfl Try.ntmps28 rfl]
  rcases kinds t with hk | hk | hk | hk | hk
  · have hn : nodeOk t = (t.head == 0 && t.args.length == 0) := by simp [nodeOk, hk]
    rw [hn]
    have k0 : (t.kind == 0) = true := by rw [hk]; rfl
    have k1 : (t.kind == 1) = false := by rw [hk]; rfl
    have k3 : (t.kind == 3) = false := by rw [hk]; rfl
    have e2 : ((t.args.length : Int) == 0) = (t.args.length == 0) := by rw [Bool.eq_iff_iff]; simp <;> omega
    cases h1 : (t.head == 0)
    · simp -implicitDefEqProofs (disch := decide +kernel) only [go_sem, ↓reduceIte, Nat.reduceSub, Nat.reduceAdd, Nat.reduceMul, Nat.reduceBEq, Nat.reduceLT, Nat.reduceLeDiff, Nat.reduceEqDiff, reduceCtorEq, Int.reduceToNat, Int.reduceLE, Int.reduceLT, Int.reduceBEq, Int.reduceBNe, mCall, k0, k1, k3, h1, e2]
    · simp -implicitDefEqProofs (disch := decide +kernel) only [go_sem, ↓reduceIte, Nat.reduceSub, Nat.reduceAdd, Nat.reduceMul, Nat.reduceBEq, Nat.reduceLT, Nat.reduceLeDiff, Nat.reduceEqDiff, reduceCtorEq, Int.reduceToNat, Int.reduceLE, Int.reduceLT, Int.reduceBEq, Int.reduceBNe, mCall, k0, k1, k3, h1, e2]
  · have hn : nodeOk t = (t.head == 0 && t.args.length == 2) := by simp [nodeOk, hk]
    rw [hn]
    have k0 : (t.kind == 0) = false := by rw [hk]; rfl
    have k1 : (t.kind == 1) = true := by rw [hk]; rfl
    have k3 : (t.kind == 3) = false := by rw [hk]; rfl
    have e2 : ((t.args.length : Int) == 2) = (t.args.length == 2) := by rw [Bool.eq_iff_iff]; simp <;> omega
    cases h1 : (t.head == 0)
    · simp -implicitDefEqProofs (disch := decide +kernel) only [go_sem, ↓reduceIte, Nat.reduceSub, Nat.reduceAdd, Nat.reduceMul, Nat.reduceBEq, Nat.reduceLT, Nat.reduceLeDiff, Nat.reduceEqDiff, reduceCtorEq, Int.reduceToNat, Int.reduceLE, Int.reduceLT, Int.reduceBEq, Int.reduceBNe, mCall, k0, k1, k3, h1, e2]
    · simp -implicitDefEqProofs (disch := decide +kernel) only [go_sem, ↓reduceIte, Nat.reduceSub, Nat.reduceAdd, Nat.reduceMul, Nat.reduceBEq, Nat.reduceLT, Nat.reduceLeDiff, Nat.reduceEqDiff, reduceCtorEq, Int.reduceToNat, Int.reduceLE, Int.reduceLT, Int.reduceBEq, Int.reduceBNe, mCall, k0, k1, k3, h1, e2]
  · have hn : nodeOk t = decide (t.head ≥ 0) := by simp [nodeOk, hk]
    rw [hn]
    have k0 : (t.kind == 0) = false := by rw [hk]; rfl
    have k1 : (t.kind == 1) = false := by rw [hk]; rfl
    have k3 : (t.kind == 3) = false := by rw [hk]; rfl
    have e1 : decide (t.kind ≥ 0) = true := by simp [hk]
    have e2 : decide (t.kind < 7) = true := by simp [hk]
    simp -implicitDefEqProofs (disch := decide +kernel) only [go_sem, ↓reduceIte, Nat.reduceSub, Nat.reduceAdd, Nat.reduceMul, Nat.reduceBEq, Nat.reduceLT, Nat.reduceLeDiff, Nat.reduceEqDiff, reduceCtorEq, Int.reduceToNat, Int.reduceLE, Int.reduceLT, Int.reduceBEq, Int.reduceBNe, mCall, k0, k1, k3, e1, e2]
  · have hn : nodeOk t = (t.head == 0 && t.args.length == 1) := by simp [nodeOk, hk]
    rw [hn]
    have k0 : (t.kind == 0) = false := by rw [hk]; rfl
    have k1 : (t.kind == 1) = false := by rw [hk]; rfl
    have k3 : (t.kind == 3) = true := by rw [hk]; rfl
    have e2 : ((t.args.length : Int) == 1) = (t.args.length == 1) := by rw [Bool.eq_iff_iff]; simp <;> omega
    cases h1 : (t.head == 0)
    · simp -implicitDefEqProofs (disch := decide +kernel) only [go_sem, ↓reduceIte, Nat.reduceSub, Nat.reduceAdd, Nat.reduceMul, Nat.reduceBEq, Nat.reduceLT, Nat.reduceLeDiff, Nat.reduceEqDiff, reduceCtorEq, Int.reduceToNat, Int.reduceLE, Int.reduceLT, Int.reduceBEq, Int.reduceBNe, mCall, k0, k1, k3, h1, e2]
    · simp -implicitDefEqProofs (disch := decide +kernel) only [go_sem, ↓reduceIte, Nat.reduceSub, Nat.reduceAdd, Nat.reduceMul, Nat.reduceBEq, Nat.reduceLT, Nat.reduceLeDiff, Nat.reduceEqDiff, reduceCtorEq, Int.reduceToNat, Int.reduceLE, Int.reduceLT, Int.reduceBEq, Int.reduceBNe, mCall, k0, k1, k3, h1, e2]
  · have k0 : (t.kind == 0) = false := by simp; omega
    have k1 : (t.kind == 1) = false := by simp; omega
    have k3 : (t.kind == 3) = false := by simp; omega
    have hn : nodeOk t = (decide (t.kind ≥ 0) && decide (t.kind < 7) && decide (t.head ≥ 0)) := by
      unfold nodeOk
      rw [if_neg (by omega), if_neg (by omega), if_neg (by omega)]
    rw [hn]
    cases e1 : decide (t.kind ≥ 0)
    · simp -implicitDefEqProofs (disch := decide +kernel) only [go_sem, ↓reduceIte, Nat.reduceSub, Nat.reduceAdd, Nat.reduceMul, Nat.reduceBEq, Nat.reduceLT, Nat.reduceLeDiff, Nat.reduceEqDiff, reduceCtorEq, Int.reduceToNat, Int.reduceLE, Int.reduceLT, Int.reduceBEq, Int.reduceBNe, mCall, k0, k1, k3, e1]
    · cases e2 : decide (t.kind < 7)
      · simp -implicitDefEqProofs (disch := decide +kernel) only [go_sem, ↓reduceIte, Nat.reduceSub, Nat.reduceAdd, Nat.reduceMul, Nat.reduceBEq, Nat.reduceLT, Nat.reduceLeDiff, Nat.reduceEqDiff, reduceCtorEq, Int.reduceToNat, Int.reduceLE, Int.reduceLT, Int.reduceBEq, Int.reduceBNe, mCall, k0, k1, k3, e1, e2]
      · simp -implicitDefEqProofs (disch := decide +kernel) only [go_sem, ↓reduceIte, Nat.reduceSub, Nat.reduceAdd, Nat.reduceMul, Nat.reduceBEq, Nat.reduceLT, Nat.reduceLeDiff, Nat.reduceEqDiff, reduceCtorEq, Int.reduceToNat, Int.reduceLE, Int.reduceLT, Int.reduceBEq, Int.reduceBNe, mCall, k0, k1, k3, e1, e2]
theorem tmay1_spec (n : Int) (t : Tm) : (lim C).call 27 [dI n, dT t] [] = retB (nodeOk t) := by
  rw [ev_fn 27 Try.f27 _ _ _ rfl Try.func27 rfl Try.ntmps27 rfl]
  simp -implicitDefEqProofs (disch := decide +kernel) only [go_sem, ↓reduceIte, Nat.reduceSub, Nat.reduceAdd, Nat.reduceMul, Nat.reduceBEq, Nat.reduceLT, Nat.reduceLeDiff, Nat.reduceEqDiff, reduceCtorEq, Int.reduceToNat, Int.reduceLE, Int.reduceLT, Int.reduceBEq, Int.reduceBNe, mCall, tmay_spec t]
end Go.Proofs.Ytobocgjdlchemaa
/- The program's functions of layer 1: all, May, Scoped, Same. -/
set_option linter.unusedSimpArgs false
set_option linter.unusedVariables false
set_option maxRecDepth 100000
namespace Go.Proofs.Ytobocgjdlchemaa
open Go.Proofs
noncomputable def all_L (n : Nat) (so : AV) : LoopA := { fn := 26, tmps := tl 16 [(3, .href n 0), (4, .href (n + 1) 0), (8, .fn 39 [] [.href (n + 2) 0])], params := [9, 10], assign := cf (cf (cs (cf (cs (bodyOf Try.f26))))), body := cs (cf (cs (cf (cs (bodyOf Try.f26))))) }
noncomputable def all_H (h : List HO) (so : AV) (t : Tm) : List HO := h ++ [.var 0 [so], .var 0 [dB false], .var 0 (cel3 t), .loop .ready none (all_L h.length so)]
noncomputable def all_E (h : List HO) (so : AV) (t : Tm) : List HO := h ++ [.var 0 [so], .var 0 [dB false], .var 0 (cel3 t), .loop .done (some .ret) (all_L h.length so)]
def stepB (p : Int → Tm → Bool) : Unit → Int × Tm → Except Unit Unit := fun _ q => if p q.1 q.2 then .ok () else .error ()
/-- A function that answers of each node, and leaves the shared variables alone. -/
def Answers (g : Nat) (caps : List AV) (h : List HO) (p : Int → Tm → Bool) (ok : Int × Tm → Prop) : Prop :=
  ∀ (n : Int) (x : Tm) (locs : List (Option (List AV))) (hp : List HO) (toks : List (Option Nat)), ok (n, x) → mCall C (lim C) g (dI n :: dT x :: caps) { locs := locs, heap := h ++ hp, toks := toks } = some (.v (dB (p n x)), { locs := locs, heap := h ++ hp, toks := toks })
theorem all_yields {g : Nat} {caps : List AV} {h : List HO} {p : Int → Tm → Bool} {ok : Int × Tm → Prop} (ha : Answers g caps h p ok) (t : Tm) :
    Yields (h.length + 3) (fun _ : Unit => all_H h (.fn g [] caps) t) (fun _ : Unit => all_E h (.fn g [] caps) t) (stepB p) ok := by
  intro z n x locs toks hok
  have h1 := fun locs hp toks => ha n x locs hp toks hok
  simp only [stepB]
  cases hp : p n x
  · rw [hp] at h1
    simp -implicitDefEqProofs (disch := decide +kernel) only [cf, cs, bodyOf, Try.f26, Option.getD_some, go_sem, ↓reduceIte, Nat.reduceSub, Nat.reduceAdd, Nat.reduceMul, Nat.reduceBEq, Nat.reduceLT, Nat.reduceLeDiff, Nat.reduceEqDiff, reduceCtorEq, Int.reduceToNat, Int.reduceLE, Int.reduceLT, Int.reduceBEq, Int.reduceBNe, all_H, all_E, all_L, mYld_K, getApp, getApp0, setApp, setApp0, h1]
  · rw [hp] at h1
    simp -implicitDefEqProofs (disch := decide +kernel) only [cf, cs, bodyOf, Try.f26, Option.getD_some, go_sem, ↓reduceIte, Nat.reduceSub, Nat.reduceAdd, Nat.reduceMul, Nat.reduceBEq, Nat.reduceLT, Nat.reduceLeDiff, Nat.reduceEqDiff, reduceCtorEq, Int.reduceToNat, Int.reduceLE, Int.reduceLT, Int.reduceBEq, Int.reduceBNe, all_H, all_E, all_L, mYld_K, getApp, getApp0, setApp, setApp0, h1]

theorem run_stepB (p : Int → Tm → Bool) : ∀ l : List (Int × Tm), runL (stepB p) l () = if (l.all fun q => p q.1 q.2) then .ok () else .error ()
  | [] => rfl
  | q :: l => by
    rw [runL]
    have ih := run_stepB p l
    cases hp : p q.1 q.2
    · simp [stepB, hp]
    · simp only [stepB, hp, if_true, List.all_cons, Bool.true_and]; exact ih
theorem all_spec {g : Nat} {caps : List AV} {h : List HO} {p : Int → Tm → Bool} {ok : Int × Tm → Prop} (ha : Answers g caps h p ok) (hc1 : okL caps = true) (hc2 : eraseL caps = caps) (t : Tm) (hs : t.size < room) (hok : ∀ q ∈ pre t 0, ok q) :
    (lim C).call 26 [dT t, .fn g [] caps] h = some (.ret (dB ((pre t 0).all fun q => p q.1 q.2)), h ++ [.var 0 [.fn g [] caps], .var 0 [dB ((pre t 0).all fun q => p q.1 q.2)], .var 0 (cel3 t), .dead]) := by
  rw [ev_fn 26 Try.f26 _ _ _ rfl Try.func26 rfl Try.ntmps26 rfl]
  simp -implicitDefEqProofs (disch := decide +kernel) only [go_sem, ↓reduceIte, Nat.reduceSub, Nat.reduceAdd, Nat.reduceMul, Nat.reduceBEq, Nat.reduceLT, Nat.reduceLeDiff, Nat.reduceEqDiff, reduceCtorEq, Int.reduceToNat, Int.reduceLE, Int.reduceLT, Int.reduceBEq, Int.reduceBNe, mCall, hc1, hc2, tnodes_spec, List.length_append]
  have h1 := tnodes1_spec (all_yields ha t) t hs (i := h.length + 2) () (by simp only [all_H, getApp]; rfl) hok
  rw [run_stepB] at h1
  rw [call_at h1 ?hh]
  case hh => rfl
  cases hall : (pre t 0).all fun q => p q.1 q.2
  · simp -implicitDefEqProofs (disch := decide +kernel) only [go_sem, ↓reduceIte, Nat.reduceSub, Nat.reduceAdd, Nat.reduceMul, Nat.reduceBEq, Nat.reduceLT, Nat.reduceLeDiff, Nat.reduceEqDiff, reduceCtorEq, Int.reduceToNat, Int.reduceLE, Int.reduceLT, Int.reduceBEq, Int.reduceBNe, mCall, hc1, hc2, List.length_append, all_H, all_E, getApp, getApp0, setApp, setApp0]
  · simp -implicitDefEqProofs (disch := decide +kernel) only [go_sem, ↓reduceIte, Nat.reduceSub, Nat.reduceAdd, Nat.reduceMul, Nat.reduceBEq, Nat.reduceLT, Nat.reduceLeDiff, Nat.reduceEqDiff, reduceCtorEq, Int.reduceToNat, Int.reduceLE, Int.reduceLT, Int.reduceBEq, Int.reduceBNe, mCall, hc1, hc2, List.length_append, all_H, all_E, getApp, getApp0, setApp, setApp0]
theorem all_pre {p : Int × Tm → Bool} {t : Tm} {n : Int} : (pre t n).all p = (p (n, t) && allB t.args.length fun i => (pre (t.arg i) (n + bnd t i)).all p) := by
  rw [pre_eq, List.all_cons]
  congr 1
  rw [preF_flat, Bool.eq_iff_iff, allB_iff]
  simp only [List.all_eq_true, List.mem_flatMap, List.mem_range'_1]
  constructor
  · intro h i hi x hx
    exact h x ⟨i, by omega, hx⟩
  · rintro h x ⟨i, hi, hx⟩
    exact h i (by omega) x hx
theorem pre_nodes : ∀ (t : Tm) (n : Int), ((pre t n).all fun q => nodeOk q.2) = nodesB t := by
  refine Tm.ind fun t ih n => ?_
  rw [all_pre, nodesB_eq]
  congr 1
  exact allB_congr fun i hi => ih _ (arg_mem hi) _
def scopeB (v m : Int) (n : Int) (x : Tm) : Bool := (x.kind != 4 || decide (x.head - n < v)) && (x.kind != 6 || decide (x.head < m))
theorem pre_scoped (v m : Int) : ∀ (t : Tm) (n : Int), ((pre t n).all fun q => scopeB v m q.1 q.2) = scopedB t (v + n) m := by
  refine Tm.ind fun t ih n => ?_
  rw [all_pre, scopedB_eq]
  congr 1
  · have e : decide (t.head - n < v) = !decide (t.head ≥ v + n) := by rw [Bool.eq_iff_iff]; simp; omega
    have e2 : decide (t.head < m) = !decide (t.head ≥ m) := by rw [Bool.eq_iff_iff]; simp
    simp only [scopeB, e, e2, bne]
    cases (t.kind == 4) <;> cases (t.kind == 6) <;> simp
  · refine allB_congr fun i hi => ?_
    rw [ih _ (arg_mem hi)]
    congr 1
    omega
theorem may_answers : Answers 27 [] [] (fun _ x => nodeOk x) (fun _ => True) := by
  intro n x locs hp toks _
  simp only [mCall, callsPure, pureL, AV.pure, C_thr, eraseL, AV.erase, tmay1_spec, Bool.and_true, Bool.true_and, List.contains_cons, List.contains_nil, Nat.reduceBEq, Bool.or_false, Bool.not_false, if_true, Option.bind_some, pureRes_ret]
theorem tmay_all (t : Tm) (hs : t.size < room) : (lim C).call 26 [dT t, .fn 27 [] []] [] = some (.ret (dB (nodesB t)), [.var 0 [.fn 27 [] []], .var 0 [dB (nodesB t)], .var 0 (cel3 t), .dead]) := by
  have := all_spec may_answers rfl rfl t hs (fun _ _ => trivial)
  rw [pre_nodes] at this
  exact this
theorem tMay_spec (t : Tm) (hs : t.size < room) : (lim C).call 12 [dT t] [] = retB (mayB t) := by
  have e1 : decide ((t.depth : Int) ≤ 60) = decide (t.depth ≤ 60) := by simp only [decide_eq_decide]; omega
  have e2 : decide ((t.size : Int) ≤ 4000) = decide (t.size ≤ 4000) := by simp only [decide_eq_decide]; omega
  rw [ev_fn 12 Try.f12 _ _ _ rfl Try.func12 rfl Try.ntmps12 rfl]
  unfold mayB
  cases h1 : decide (t.depth ≤ 60)
  · rw [h1] at e1
    simp -implicitDefEqProofs (disch := decide +kernel) only [go_sem, ↓reduceIte, Nat.reduceSub, Nat.reduceAdd, Nat.reduceMul, Nat.reduceBEq, Nat.reduceLT, Nat.reduceLeDiff, Nat.reduceEqDiff, reduceCtorEq, Int.reduceToNat, Int.reduceLE, Int.reduceLT, Int.reduceBEq, Int.reduceBNe, mCall, tdepth_spec t hs, e1]
  · rw [h1] at e1
    cases h2 : decide (t.size ≤ 4000)
    · rw [h2] at e2
      simp -implicitDefEqProofs (disch := decide +kernel) only [go_sem, ↓reduceIte, Nat.reduceSub, Nat.reduceAdd, Nat.reduceMul, Nat.reduceBEq, Nat.reduceLT, Nat.reduceLeDiff, Nat.reduceEqDiff, reduceCtorEq, Int.reduceToNat, Int.reduceLE, Int.reduceLT, Int.reduceBEq, Int.reduceBNe, mCall, tdepth_spec t hs, tsize_spec t hs, e1, e2]
    · rw [h2] at e2
      cases h3 : nodesB t
      · have h4 := tmay_all t hs
        rw [h3] at h4
        simp -implicitDefEqProofs (disch := decide +kernel) only [go_sem, ↓reduceIte, Nat.reduceSub, Nat.reduceAdd, Nat.reduceMul, Nat.reduceBEq, Nat.reduceLT, Nat.reduceLeDiff, Nat.reduceEqDiff, reduceCtorEq, Int.reduceToNat, Int.reduceLE, Int.reduceLT, Int.reduceBEq, Int.reduceBNe, mCall, tdepth_spec t hs, tsize_spec t hs, e1, e2, h4]
      · have h4 := tmay_all t hs
        rw [h3] at h4
        simp -implicitDefEqProofs (disch := decide +kernel) only [go_sem, ↓reduceIte, Nat.reduceSub, Nat.reduceAdd, Nat.reduceMul, Nat.reduceBEq, Nat.reduceLT, Nat.reduceLeDiff, Nat.reduceEqDiff, reduceCtorEq, Int.reduceToNat, Int.reduceLE, Int.reduceLT, Int.reduceBEq, Int.reduceBNe, mCall, tdepth_spec t hs, tsize_spec t hs, e1, e2, h4]
/-- No variable's number goes round. -/
def calm (q : Int × Tm) : Prop := q.2.kind = 4 → -9223372036854775808 ≤ q.2.head - q.1 ∧ q.2.head - q.1 ≤ 9223372036854775807
theorem tscoped1_spec (n v m : Int) (x : Tm) (hp : List HO) (hc : calm (n, x)) : (lim C).call 38 [dI n, dT x, .href 0 0, .href 1 0] (.var 0 [dI v] :: .var 0 [dI m] :: hp) = some (.ret (dB (scopeB v m n x)), .var 0 [dI v] :: .var 0 [dI m] :: hp) := by
  rw [ev_fn 38 Try.f38 _ _ _ rfl Try.func38 rfl Try.ntmps38 rfl]
  unfold scopeB
  cases h1 : (x.kind != 4)
  · have hc := hc (by simpa using h1)
    have hw : IntKind.wrap .i64 (x.head - n) = x.head - n := wrap_ok hc.1 hc.2
    have h2 : (x.kind != 6) = true := by simp at h1 ⊢; omega
    cases h3 : decide (x.head - n < v)
    · simp -implicitDefEqProofs (disch := decide +kernel) only [go_sem, ↓reduceIte, Nat.reduceSub, Nat.reduceAdd, Nat.reduceMul, Nat.reduceBEq, Nat.reduceLT, Nat.reduceLeDiff, Nat.reduceEqDiff, reduceCtorEq, Int.reduceToNat, Int.reduceLE, Int.reduceLT, Int.reduceBEq, Int.reduceBNe, mCall, h1, hw, h3]
    · simp -implicitDefEqProofs (disch := decide +kernel) only [go_sem, ↓reduceIte, Nat.reduceSub, Nat.reduceAdd, Nat.reduceMul, Nat.reduceBEq, Nat.reduceLT, Nat.reduceLeDiff, Nat.reduceEqDiff, reduceCtorEq, Int.reduceToNat, Int.reduceLE, Int.reduceLT, Int.reduceBEq, Int.reduceBNe, mCall, h1, hw, h2, h3]
  · cases h2 : (x.kind != 6)
    · simp -implicitDefEqProofs (disch := decide +kernel) only [go_sem, ↓reduceIte, Nat.reduceSub, Nat.reduceAdd, Nat.reduceMul, Nat.reduceBEq, Nat.reduceLT, Nat.reduceLeDiff, Nat.reduceEqDiff, reduceCtorEq, Int.reduceToNat, Int.reduceLE, Int.reduceLT, Int.reduceBEq, Int.reduceBNe, mCall, h1, h2]
    · simp -implicitDefEqProofs (disch := decide +kernel) only [go_sem, ↓reduceIte, Nat.reduceSub, Nat.reduceAdd, Nat.reduceMul, Nat.reduceBEq, Nat.reduceLT, Nat.reduceLeDiff, Nat.reduceEqDiff, reduceCtorEq, Int.reduceToNat, Int.reduceLE, Int.reduceLT, Int.reduceBEq, Int.reduceBNe, mCall, h1, h2]
theorem scoped_answers (v m : Int) : Answers 38 [.href 0 0, .href 1 0] [.var 0 [dI v], .var 0 [dI m]] (scopeB v m) calm := by
  intro n x locs hp toks hc
  simp only [mCall, callsPure, pureL, AV.pure, okL, AV.okA, C_thr, eraseL, AV.erase, List.cons_append, List.nil_append, tscoped1_spec n v m x hp hc, Bool.and_true, Bool.true_and, Bool.and_false, Bool.false_and, Bool.false_eq_true, if_false, if_true, Option.bind_some, heapRes_ret]
theorem tscoped_spec (t : Tm) (v m : Int) (hs : t.size < room) (hc : ∀ q ∈ pre t 0, calm q) : ∃ h, (lim C).call 21 [dT t, dI v, dI m] [] = some (.ret (dB (scopedB t v m)), h) := by
  have h1 := all_spec (scoped_answers v m) rfl rfl t hs hc
  rw [pre_scoped, Int.add_zero] at h1
  refine ⟨[.var 0 [dI v], .var 0 [dI m]] ++ [.var 0 [.fn 38 [] [.href 0 0, .href 1 0]], .var 0 [dB (scopedB t v m)], .var 0 (cel3 t), .dead], ?_⟩
  rw [ev_fn 21 Try.f21 _ _ _ rfl Try.func21 rfl Try.ntmps21 rfl]
  simp -implicitDefEqProofs (disch := decide +kernel) only [go_sem, ↓reduceIte, Nat.reduceSub, Nat.reduceAdd, Nat.reduceMul, Nat.reduceBEq, Nat.reduceLT, Nat.reduceLeDiff, Nat.reduceEqDiff, reduceCtorEq, Int.reduceToNat, Int.reduceLE, Int.reduceLT, Int.reduceBEq, Int.reduceBNe, mCall, h1]
def tsame_S (t u : Tm) (i : Nat) : St := mk 45 [(3, .lref 3 0), (29, dL t.args), (30, dI t.args.length), (31, dI i)] [(3, cel3 u)] [] []
theorem tsame_loop {b : Code} {σ : St} {t u : Tm} (hb : b = cf (cf (cs (cf (cs (cs (bodyOf Try.f9))))))) (hσ : σ = tsame_S t u 0) (hlu : u.args.length = t.args.length) (ih : ∀ x ∈ t.args, ∀ y ∈ u.args, (lim C).call 9 [dT x, dT y] [] = retB (sameB x y)) (hl : t.args.length < room) :
    (lim C).code 9 (.loop b) σ = some (if allB t.args.length (fun i => sameB (t.arg i) (u.arg i)) then (.exit 0, mk 45 [(3, .lref 3 0), (29, dL t.args), (30, dI t.args.length), (31, dI t.args.length), (32, dB false)] [(3, cel3 u)] [] []) else (.ret, mk 45 [(4, dB false)] [] [] [])) := by
  subst hb hσ
  have hr : room = 1099511627776 := rfl
  refine loop_all (tsame_S t u) t.args.length _ ?_ ?_ ?_ (by simp) (by simp)
  · intro i hi hp
    have hiu : i < u.args.length := by omega
    have hc := ih _ (arg_mem hi) _ (arg_mem hiu)
    rw [hp] at hc
    simp -implicitDefEqProofs (disch := decide +kernel) only [cf, cs, bodyOf, Try.f9, Option.getD_some, go_sem, ↓reduceIte, Nat.reduceSub, Nat.reduceAdd, Nat.reduceMul, Nat.reduceBEq, Nat.reduceLT, Nat.reduceLeDiff, Nat.reduceEqDiff, reduceCtorEq, Int.reduceToNat, Int.reduceLE, Int.reduceLT, Int.reduceBEq, Int.reduceBNe, mCall, tsame_S, lt_true hi, arg_get hi, arg_get hiu, hc, wrap_succ (n := i) (by omega)]
  · intro i hi hp
    have hiu : i < u.args.length := by omega
    have hc := ih _ (arg_mem hi) _ (arg_mem hiu)
    rw [hp] at hc
    simp -implicitDefEqProofs (disch := decide +kernel) only [cf, cs, bodyOf, Try.f9, Option.getD_some, go_sem, ↓reduceIte, Nat.reduceSub, Nat.reduceAdd, Nat.reduceMul, Nat.reduceBEq, Nat.reduceLT, Nat.reduceLeDiff, Nat.reduceEqDiff, reduceCtorEq, Int.reduceToNat, Int.reduceLE, Int.reduceLT, Int.reduceBEq, Int.reduceBNe, mCall, tsame_S, lt_true hi, arg_get hi, arg_get hiu, hc]
  · simp -implicitDefEqProofs (disch := decide +kernel) only [cf, cs, bodyOf, Try.f9, Option.getD_some, go_sem, ↓reduceIte, Nat.reduceSub, Nat.reduceAdd, Nat.reduceMul, Nat.reduceBEq, Nat.reduceLT, Nat.reduceLeDiff, Nat.reduceEqDiff, reduceCtorEq, Int.reduceToNat, Int.reduceLE, Int.reduceLT, Int.reduceBEq, Int.reduceBNe, mCall, tsame_S, lt_false (Nat.le_refl t.args.length)]
theorem tsame_spec : ∀ t : Tm, t.size < room → ∀ u : Tm, (lim C).call 9 [dT t, dT u] [] = retB (sameB t u) := by
  refine Tm.ind fun t ih hs u => ?_
  have hl := len_size t
  rw [ev_fn 9 Try.f9 _ _ _ rfl Try.func9 rfl Try.ntmps9 rfl]
  rw [sameB_eq]
  cases h1 : (t.kind == u.kind)
  · have e1 : (t.kind != u.kind) = true := by simpa using h1
    simp -implicitDefEqProofs (disch := decide +kernel) only [go_sem, ↓reduceIte, Nat.reduceSub, Nat.reduceAdd, Nat.reduceMul, Nat.reduceBEq, Nat.reduceLT, Nat.reduceLeDiff, Nat.reduceEqDiff, reduceCtorEq, Int.reduceToNat, Int.reduceLE, Int.reduceLT, Int.reduceBEq, Int.reduceBNe, mCall, e1]
  · have e1 : (t.kind != u.kind) = false := by simpa using h1
    cases h2 : (t.head == u.head)
    · have e2 : (t.head != u.head) = true := by simpa using h2
      simp -implicitDefEqProofs (disch := decide +kernel) only [go_sem, ↓reduceIte, Nat.reduceSub, Nat.reduceAdd, Nat.reduceMul, Nat.reduceBEq, Nat.reduceLT, Nat.reduceLeDiff, Nat.reduceEqDiff, reduceCtorEq, Int.reduceToNat, Int.reduceLE, Int.reduceLT, Int.reduceBEq, Int.reduceBNe, mCall, e1, e2]
    · have e2 : (t.head != u.head) = false := by simpa using h2
      by_cases h3 : u.args.length = t.args.length
      · have e3 : ((t.args.length : Int) != (u.args.length : Int)) = false := by simp [h3]
        simp -implicitDefEqProofs (disch := decide +kernel) only [go_sem, ↓reduceIte, Nat.reduceSub, Nat.reduceAdd, Nat.reduceMul, Nat.reduceBEq, Nat.reduceLT, Nat.reduceLeDiff, Nat.reduceEqDiff, reduceCtorEq, Int.reduceToNat, Int.reduceLE, Int.reduceLT, Int.reduceBEq, Int.reduceBNe, mCall, e1, e2, e3]
        rw [tsame_loop (t := t) (u := u) ?hb ?hs h3 (fun x hx y hy => ih x hx (by have := size_arg hx; omega) y) (by omega)]
        case hb => rfl
        case hs => rfl
        have h4 : (t.args.length == u.args.length) = true := by simp [h3]
        cases hall : allB t.args.length (fun i => sameB (t.arg i) (u.arg i)) <;> simp -implicitDefEqProofs (disch := decide +kernel) only [go_sem, ↓reduceIte, Nat.reduceSub, Nat.reduceAdd, Nat.reduceMul, Nat.reduceBEq, Nat.reduceLT, Nat.reduceLeDiff, Nat.reduceEqDiff, reduceCtorEq, Int.reduceToNat, Int.reduceLE, Int.reduceLT, Int.reduceBEq, Int.reduceBNe, mCall, h4]
      · have e3 : ((t.args.length : Int) != (u.args.length : Int)) = true := bne_iff_ne.2 (by omega)
        simp -implicitDefEqProofs (disch := decide +kernel) only [go_sem, ↓reduceIte, Nat.reduceSub, Nat.reduceAdd, Nat.reduceMul, Nat.reduceBEq, Nat.reduceLT, Nat.reduceLeDiff, Nat.reduceEqDiff, reduceCtorEq, Int.reduceToNat, Int.reduceLE, Int.reduceLT, Int.reduceBEq, Int.reduceBNe, mCall, e1, e2, e3]
        have h4 : (t.args.length == u.args.length) = false := by simp; omega
        simp [h4]
end Go.Proofs.Ytobocgjdlchemaa
set_option linter.unusedSimpArgs false
set_option linter.unusedVariables false
set_option maxRecDepth 100000
namespace Go.Proofs.Ytobocgjdlchemaa
open Go.Proofs
theorem own_loop {b : Code} {σ : St} {t : Tm} (hb : b = cf (cf (cs (cf (cs (cs (bodyOf Try.f8))))))) (hσ : σ = mk 25 [(1, .lref 1 0), (2, .lref 2 0), (3, .clip []), (7, .d (.slc (encs t.args))), (8, .d (.int .i64 t.args.length)), (9, .d (.int .i64 0))]
    [(1, [.d (.int .i64 t.kind), .d (.int .i64 t.head), .d (.slc (encs t.args))]), (2, [.d (.int .i64 0), .d (.int .i64 0), .clip []])] [] [])
    (ih : ∀ x ∈ t.args, (lim C).call 8 [.d (enc x)] [] = some (.ret (.d (enc x)), [])) (hl : t.args.length < room) :
    (lim C).code 8 (.loop b) σ = some (.exit 0, mk 25 [(1, .lref 1 0), (2, .lref 2 0), (3, acc 0 (encs t.args)), (7, .d (.slc (encs t.args))), (8, .d (.int .i64 t.args.length)), (9, .d (.int .i64 t.args.length)), (10, .d (.bool false))]
    [(1, [.d (.int .i64 t.kind), .d (.int .i64 t.head), .d (.slc (encs t.args))]), (2, [.d (.int .i64 0), .d (.int .i64 0), .clip []])] [] (accT t.args.length)) := by
  subst hb hσ
  have hr : room = 1099511627776 := rfl
  refine loop_run (fun i => mk 25 [(1, .lref 1 0), (2, .lref 2 0), (3, acc 0 (encs (t.args.take i))), (7, .d (.slc (encs t.args))), (8, .d (.int .i64 t.args.length)), (9, .d (.int .i64 i))]
    [(1, [.d (.int .i64 t.kind), .d (.int .i64 t.head), .d (.slc (encs t.args))]), (2, [.d (.int .i64 0), .d (.int .i64 0), .clip []])] [] (accT i)) t.args.length ?_ ?_ (by simp)
  · intro i hi
    have hli : t.args[i]? = some t.args[i] := List.getElem?_eq_getElem hi
    have hln := encs_take_len (l := t.args) (i := i) (by omega)
    have hap := fun locs heap => mApp_acc (encs (t.args.take i)) (enc t.args[i]) 3 locs heap (by rw [hln]; omega) (encs_all _) (enc_width _)
    rw [hln, encs_snoc hi] at hap
    have hih := ih t.args[i] (List.getElem_mem hi)
    simp -implicitDefEqProofs (disch := decide +kernel) only [cf, cs, bodyOf, Try.f8, Option.getD_some, go_sem, ↓reduceIte, Nat.reduceSub, Nat.reduceAdd, Nat.reduceMul, Nat.reduceBEq, Nat.reduceLT, Nat.reduceLeDiff, Nat.reduceEqDiff, reduceCtorEq, Int.reduceToNat, Int.reduceLE, Int.reduceLT, Int.reduceBEq, Int.reduceBNe, mCall, lt_true hi, hli, hih, hap, wrap_succ (n := i) (by omega)]
  · simp -implicitDefEqProofs (disch := decide +kernel) only [cf, cs, bodyOf, Try.f8, Option.getD_some, go_sem, ↓reduceIte, Nat.reduceSub, Nat.reduceAdd, Nat.reduceMul, Nat.reduceBEq, Nat.reduceLT, Nat.reduceLeDiff, Nat.reduceEqDiff, reduceCtorEq, Int.reduceToNat, Int.reduceLE, Int.reduceLT, Int.reduceBEq, Int.reduceBNe, mCall, lt_false (Nat.le_refl t.args.length)]
    simp
theorem own_spec : ∀ t : Tm, t.size < room → (lim C).call 8 [.d (enc t)] [] = some (.ret (.d (enc t)), []) := by
  refine Tm.ind fun t ih hs => ?_
  have hl := len_size t
  rw [ev_fn 8 Try.f8 _ _ _ rfl Try.func8 rfl Try.ntmps8 rfl]
  simp -implicitDefEqProofs (disch := decide +kernel) only [go_sem, ↓reduceIte, Nat.reduceSub, Nat.reduceAdd, Nat.reduceMul, Nat.reduceBEq, Nat.reduceLT, Nat.reduceLeDiff, Nat.reduceEqDiff, reduceCtorEq, Int.reduceToNat, Int.reduceLE, Int.reduceLT, Int.reduceBEq, Int.reduceBNe, mCall]
  rw [own_loop (t := t) ?hb ?hs (fun x hx => ih x hx (by have := size_arg hx; omega)) (by omega)]
  case hb => rfl
  case hs => rfl
  simp -implicitDefEqProofs (disch := decide +kernel) only [go_sem, ↓reduceIte, Nat.reduceSub, Nat.reduceAdd, Nat.reduceMul, Nat.reduceBEq, Nat.reduceLT, Nat.reduceLeDiff, Nat.reduceEqDiff, reduceCtorEq, Int.reduceToNat, Int.reduceLE, Int.reduceLT, Int.reduceBEq, Int.reduceBNe, mCall]
end Go.Proofs.Ytobocgjdlchemaa
/- The package shift. -/
set_option linter.unusedSimpArgs false
set_option linter.unusedVariables false
set_option maxRecDepth 100000
namespace Go.Proofs.Ytobocgjdlchemaa
open Go.Proofs
def zT : Tm := .mk 0 0 []
theorem zT_enc : Dv.agg [.int .i64 0, .int .i64 0, .slc []] = enc zT := by unfold zT; rw [enc_mk]; rfl
theorem tm_enc (k h : Int) (l : List Tm) : Dv.agg [.int .i64 k, .int .i64 h, .slc (encs l)] = enc (.mk k h l) := by rw [enc_mk]
/-- A function that is done to each of a list, and leaves the shared variables alone. -/
def Does (g : Nat) (caps : List AV) (h : List HO) (l : List Tm) (F : Nat → Tm) (P : Nat → Bool) : Prop :=
  ∀ i, i < l.length → ∀ (locs : List (Option (List AV))) (toks : List (Option Nat)), mCall C (lim C) g (dI i :: dT (l.getD i default) :: caps) { locs := locs, heap := h, toks := toks } = some (.v (.tup [dT (F i), dB (P i)]), { locs := locs, heap := h, toks := toks })
def outs (F : Nat → Tm) (n : Nat) : List Tm := (List.range n).map F
def each_S (l : List Tm) (g : Nat) (caps : List AV) (h : List HO) (F : Nat → Tm) (i : Nat) : St := mk 33 [(1, .fn g [] caps), (6, acc 0 (encs (outs F i))), (11, dL l), (12, dI l.length), (13, dI i)] [] h (accT i)
theorem each_step {l : List Tm} {g : Nat} {caps : List AV} {h : List HO} {F : Nat → Tm} {P : Nat → Bool} (hd : Does g caps h l F P) (hl : l.length < room) {i : Nat} (hi : i < l.length) (hp : P i = true) :
    (lim C).code 41 (cf (.loop (cf (cf (cs (cf (cs (cs (bodyOf Try.f41))))))))) (each_S l g caps h F i) = some (.nor, each_S l g caps h F (i + 1)) := by
  have hr : room = 1099511627776 := rfl
  have hc := hd i hi
  rw [hp] at hc
  have hln : (encs (outs F i)).length = i := by simp [encs, outs]
  have hap := fun locs heap => mApp_acc (encs (outs F i)) (enc (F i)) 3 locs heap (by rw [hln]; omega) (encs_all _) (enc_width _)
  have hsn : encs (outs F i) ++ [enc (F i)] = encs (outs F (i + 1)) := by unfold outs; rw [List.range_succ, List.map_append, encs_append]; rfl
  rw [hln, hsn] at hap
  simp -implicitDefEqProofs (disch := decide +kernel) only [cf, cs, bodyOf, Try.f41, Option.getD_some, go_sem, ↓reduceIte, Nat.reduceSub, Nat.reduceAdd, Nat.reduceMul, Nat.reduceBEq, Nat.reduceLT, Nat.reduceLeDiff, Nat.reduceEqDiff, reduceCtorEq, Int.reduceToNat, Int.reduceLE, Int.reduceLT, Int.reduceBEq, Int.reduceBNe, each_S, lt_true hi, getD_get hi, hc, hap, wrap_succ (n := i) (by omega)]
theorem each_spec {l : List Tm} {g : Nat} {caps : List AV} {h : List HO} {F : Nat → Tm} {P : Nat → Bool} (hd : Does g caps h l F P) (hl : l.length < room) (hc1 : okL caps = true) (hc2 : eraseL caps = caps) :
    (lim C).call 41 [dL l, .fn g [] caps] h = some (.ret (.tup [dL (if allB l.length P then outs F l.length else []), dB (allB l.length P)]), h) := by
  have hr : room = 1099511627776 := rfl
  rw [ev_fn 41 Try.f41 _ _ _ rfl Try.func41 rfl Try.ntmps41 rfl]
  simp -implicitDefEqProofs (disch := decide +kernel) only [go_sem, ↓reduceIte, Nat.reduceSub, Nat.reduceAdd, Nat.reduceMul, Nat.reduceBEq, Nat.reduceLT, Nat.reduceLeDiff, Nat.reduceEqDiff, reduceCtorEq, Int.reduceToNat, Int.reduceLE, Int.reduceLT, Int.reduceBEq, Int.reduceBNe, hc1, hc2]
  by_cases hall : allB l.length P = true
  · have hloop : (lim C).code 41 (.loop (cf (cf (cs (cf (cs (cs (bodyOf Try.f41)))))))) (each_S l g caps h F 0) = some (.exit 0, mk 33 [(1, .fn g [] caps), (6, acc 0 (encs (outs F l.length))), (11, dL l), (12, dI l.length), (13, dI l.length), (14, dB false)] [] h (accT l.length)) := by
      refine loop_run (each_S l g caps h F) l.length (fun i hi => each_step hd hl hi ((allB_iff _ _).1 hall i hi)) ?_ (by simp)
      simp -implicitDefEqProofs (disch := decide +kernel) only [cf, cs, bodyOf, Try.f41, Option.getD_some, go_sem, ↓reduceIte, Nat.reduceSub, Nat.reduceAdd, Nat.reduceMul, Nat.reduceBEq, Nat.reduceLT, Nat.reduceLeDiff, Nat.reduceEqDiff, reduceCtorEq, Int.reduceToNat, Int.reduceLE, Int.reduceLT, Int.reduceBEq, Int.reduceBNe, each_S, lt_false (Nat.le_refl l.length)]
    rw [loop_at hloop ?hb ?hs]
    case hb => rfl
    case hs => rfl
    have he : (acc 0 (encs (outs F l.length))).erase = .d (.slc (encs (outs F l.length))) := by cases encs (outs F l.length) <;> rfl
    simp -implicitDefEqProofs (disch := decide +kernel) only [go_sem, ↓reduceIte, Nat.reduceSub, Nat.reduceAdd, Nat.reduceMul, Nat.reduceBEq, Nat.reduceLT, Nat.reduceLeDiff, Nat.reduceEqDiff, reduceCtorEq, Int.reduceToNat, Int.reduceLE, Int.reduceLT, Int.reduceBEq, Int.reduceBNe, hall, he]
  · obtain ⟨j, hj, hp, hb⟩ := allB_first l.length P (by simpa using hall)
    have hloop : (lim C).code 41 (.loop (cf (cf (cs (cf (cs (cs (bodyOf Try.f41)))))))) (each_S l g caps h F 0) = some (.ret, mk 33 [(4, .clip []), (5, dB false)] [] h (accT j)) := by
      refine loop_run (each_S l g caps h F) j (fun i hi => each_step hd hl (by omega) (hb i hi)) ?_ (by simp)
      have hc := hd j hj
      rw [hp] at hc
      simp -implicitDefEqProofs (disch := decide +kernel) only [cf, cs, bodyOf, Try.f41, Option.getD_some, go_sem, ↓reduceIte, Nat.reduceSub, Nat.reduceAdd, Nat.reduceMul, Nat.reduceBEq, Nat.reduceLT, Nat.reduceLeDiff, Nat.reduceEqDiff, reduceCtorEq, Int.reduceToNat, Int.reduceLE, Int.reduceLT, Int.reduceBEq, Int.reduceBNe, each_S, lt_true hj, getD_get hj, hc]
    rw [loop_at hloop ?hb ?hs]
    case hb => rfl
    case hs => rfl
    have hf : allB l.length P = false := by simpa using hall
    simp -implicitDefEqProofs (disch := decide +kernel) only [go_sem, ↓reduceIte, Nat.reduceSub, Nat.reduceAdd, Nat.reduceMul, Nat.reduceBEq, Nat.reduceLT, Nat.reduceLeDiff, Nat.reduceEqDiff, reduceCtorEq, Int.reduceToNat, Int.reduceLE, Int.reduceLT, Int.reduceBEq, Int.reduceBNe, hf]
    simp [encs]
/-- What is shared in change: the term, how many nodes bind around it, what is done to variables. -/
def chg_H (t : Tm) (n : Int) (o : AV) : List HO := [.var 0 (cel3 t), .var 0 [dI n], .var 0 [o]]
theorem chg1_spec {t : Tm} {n : Int} {i : Nat} {x u : Tm} {b : Bool} {g : Nat} {rv : Dv} {h : List HO} (hi : i < t.args.length) (hn : 0 ≤ n ∧ n + t.size < 4000000000000000000) (hs : t.size < room)
    (hrec : (lim C).call 30 [dT x, dI (n + bnd t i), .fn g [.d rv] []] [] = some (.ret (.tup [dT u, dB b]), h)) :
    (lim C).call 42 [dI i, dT x, .href 1 0, .href 0 0, .href 2 0] (chg_H t n (.fn g [.d rv] [])) = some (.ret (.tup [dT u, dB b]), chg_H t n (.fn g [.d rv] [])) := by
  have hr : room = 1099511627776 := rfl
  have hl := len_size t
  have hw1 : IntKind.wrap .i64 ((t.args.length : Int) - 1) = (t.args.length : Int) - 1 := wrap_ok (by omega) (by omega)
  have hw2 : IntKind.wrap .i64 (n + 1) = n + 1 := wrap_ok (by omega) (by omega)
  rw [ev_fn 42 Try.f42 _ _ _ rfl Try.func42 rfl Try.ntmps42 rfl]
  cases k1 : (t.kind == 1)
  · cases k3 : (t.kind == 3)
    · have hb : bindsB t = false := by simp [bindsB, k1, k3]
      rw [bindsB_no hb, Int.natCast_zero, Int.add_zero] at hrec
      simp -implicitDefEqProofs (disch := decide +kernel) only [go_sem, ↓reduceIte, Nat.reduceSub, Nat.reduceAdd, Nat.reduceMul, Nat.reduceBEq, Nat.reduceLT, Nat.reduceLeDiff, Nat.reduceEqDiff, reduceCtorEq, Int.reduceToNat, Int.reduceLE, Int.reduceLT, Int.reduceBEq, Int.reduceBNe, mCall, chg_H, cel3, k1, k3, hrec]
    · have hb : bindsB t = true := by simp [bindsB, k1, k3]
      cases he : ((i : Int) == (t.args.length : Int) - 1)
      · rw [bindsB_not he, Int.natCast_zero, Int.add_zero] at hrec
        simp -implicitDefEqProofs (disch := decide +kernel) only [go_sem, ↓reduceIte, Nat.reduceSub, Nat.reduceAdd, Nat.reduceMul, Nat.reduceBEq, Nat.reduceLT, Nat.reduceLeDiff, Nat.reduceEqDiff, reduceCtorEq, Int.reduceToNat, Int.reduceLE, Int.reduceLT, Int.reduceBEq, Int.reduceBNe, mCall, chg_H, cel3, k1, k3, hw1, he, hrec]
      · rw [bindsB_bnd hb he] at hrec
        have hrec : _ = _ := hrec
        rw [Int.natCast_one] at hrec
        simp -implicitDefEqProofs (disch := decide +kernel) only [go_sem, ↓reduceIte, Nat.reduceSub, Nat.reduceAdd, Nat.reduceMul, Nat.reduceBEq, Nat.reduceLT, Nat.reduceLeDiff, Nat.reduceEqDiff, reduceCtorEq, Int.reduceToNat, Int.reduceLE, Int.reduceLT, Int.reduceBEq, Int.reduceBNe, mCall, chg_H, cel3, k1, k3, hw1, hw2, he, hrec]
  · have hb : bindsB t = true := by simp [bindsB, k1]
    cases he : ((i : Int) == (t.args.length : Int) - 1)
    · rw [bindsB_not he, Int.natCast_zero, Int.add_zero] at hrec
      simp -implicitDefEqProofs (disch := decide +kernel) only [go_sem, ↓reduceIte, Nat.reduceSub, Nat.reduceAdd, Nat.reduceMul, Nat.reduceBEq, Nat.reduceLT, Nat.reduceLeDiff, Nat.reduceEqDiff, reduceCtorEq, Int.reduceToNat, Int.reduceLE, Int.reduceLT, Int.reduceBEq, Int.reduceBNe, mCall, chg_H, cel3, k1, hw1, he, hrec]
    · rw [bindsB_bnd hb he] at hrec
      have hrec : _ = _ := hrec
      rw [Int.natCast_one] at hrec
      simp -implicitDefEqProofs (disch := decide +kernel) only [go_sem, ↓reduceIte, Nat.reduceSub, Nat.reduceAdd, Nat.reduceMul, Nat.reduceBEq, Nat.reduceLT, Nat.reduceLeDiff, Nat.reduceEqDiff, reduceCtorEq, Int.reduceToNat, Int.reduceLE, Int.reduceLT, Int.reduceBEq, Int.reduceBNe, mCall, chg_H, cel3, k1, hw1, hw2, he, hrec]
theorem canB_false {p : Int → Int → Bool} {t : Tm} {n : Int} (hk : t.kind = 4) (h : p t.head n = false) : canB p t n = false := by
  rw [canB_eq, h]; simp [hk]
theorem change_spec {g : Nat} (hg : C.thr.contains g = false) {rv : Dv} {f0 : Int} {G : Int → Int → Int} {p ok : Int → Int → Bool} (hof : ∀ x n, ok x (f0 + n) = true → (lim C).call g [.d rv, dI x, dI n] [] = some (.ret (.tup [dI (if p x (f0 + n) then G x (f0 + n) else 0), dB (p x (f0 + n))]), [])) :
    ∀ t : Tm, t.size < room → ∀ n : Int, 0 ≤ n → n + t.size < 4000000000000000000 → canB ok t (f0 + n) = true →
      ∃ h, (lim C).call 30 [dT t, dI n, .fn g [.d rv] []] [] = some (.ret (.tup [dT (if canB p t (f0 + n) then mapT G t (f0 + n) else zT), dB (canB p t (f0 + n))]), h) := by
  refine Tm.ind fun t ih hs n hn1 hn2 hok => ?_
  have hr : room = 1099511627776 := rfl
  have hl := len_size t
  rw [canB_iff] at hok
  have hdo : Does 42 [.href 1 0, .href 0 0, .href 2 0] (chg_H t n (.fn g [.d rv] [])) t.args (fun i => if canB p (t.arg i) (f0 + (n + bnd t i)) then mapT G (t.arg i) (f0 + (n + bnd t i)) else zT) (fun i => canB p (t.arg i) (f0 + (n + bnd t i))) := by
    intro i hi locs toks
    have hsz := size_arg (arg_mem hi)
    have hbl := bnd_le t i
    obtain ⟨h, hrec⟩ := ih _ (arg_mem hi) (by omega) (n + bnd t i) (by omega) (by omega) (by rw [← Int.add_assoc]; exact hok.2 i hi)
    have h1 := chg1_spec hi ⟨hn1, hn2⟩ hs hrec
    simp only [mCall, callsPure, pureL, AV.pure, okL, AV.okA, C_thr, eraseL, AV.erase, Bool.and_true, Bool.true_and, Bool.and_false, Bool.false_and, Bool.false_eq_true, if_false, if_true, Option.bind_some, heapRes_ret, show t.args.getD i default = t.arg i from rfl, h1]
  have hall : (allB t.args.length fun i => canB p (t.arg i) (f0 + (n + bnd t i))) = allB t.args.length fun i => canB p (t.arg i) (f0 + n + bnd t i) := allB_congr fun i _ => by rw [Int.add_assoc]
  have hea := each_spec hdo (by omega) rfl rfl
  rw [hall] at hea
  have hout : (allB t.args.length fun i => canB p (t.arg i) (f0 + n + bnd t i)) = true → outs (fun i => if canB p (t.arg i) (f0 + (n + bnd t i)) then mapT G (t.arg i) (f0 + (n + bnd t i)) else zT) t.args.length = (mapT G t (f0 + n)).args := by
    intro ha
    rw [mapT_args]
    unfold outs
    refine List.map_congr_left fun i hi => ?_
    have := (allB_iff _ _).1 ha i (by simpa using hi)
    rw [Int.add_assoc] at this
    rw [if_pos this, Int.add_assoc]
  simp only [C_thr, List.contains_cons, List.contains_nil, Bool.or_false] at hg
  refine ⟨chg_H t n (.fn g [.d rv] []), ?_⟩
  rw [ev_fn 30 Try.f30 _ _ _ rfl Try.func30 rfl Try.ntmps30 rfl]
  cases hall2 : (allB t.args.length fun i => canB p (t.arg i) (f0 + n + bnd t i))
  · have hcf : canB p t (f0 + n) = false := by rw [canB_eq, hall2, Bool.and_false]
    rw [hall2] at hea
    simp only [Bool.false_eq_true, if_false, chg_H, cel3] at hea
    cases k4 : (t.kind == 4)
    · simp -implicitDefEqProofs (disch := decide +kernel) only [go_sem, ↓reduceIte, Nat.reduceSub, Nat.reduceAdd, Nat.reduceMul, Nat.reduceBEq, Nat.reduceLT, Nat.reduceLeDiff, Nat.reduceEqDiff, reduceCtorEq, Int.reduceToNat, Int.reduceLE, Int.reduceLT, Int.reduceBEq, Int.reduceBNe, mCall, chg_H, cel3, k4, hea, hcf, zT_enc]
    · have hc := hof t.head n (hok.1 (by simpa using k4))
      cases hp : p t.head (f0 + n)
      · rw [hp] at hc
        simp -implicitDefEqProofs (disch := decide +kernel) only [go_sem, ↓reduceIte, Nat.reduceSub, Nat.reduceAdd, Nat.reduceMul, Nat.reduceBEq, Nat.reduceLT, Nat.reduceLeDiff, Nat.reduceEqDiff, reduceCtorEq, Int.reduceToNat, Int.reduceLE, Int.reduceLT, Int.reduceBEq, Int.reduceBNe, mCall, chg_H, cel3, k4, hg, hc, hcf, zT_enc]
      · rw [hp] at hc
        simp -implicitDefEqProofs (disch := decide +kernel) only [go_sem, ↓reduceIte, Nat.reduceSub, Nat.reduceAdd, Nat.reduceMul, Nat.reduceBEq, Nat.reduceLT, Nat.reduceLeDiff, Nat.reduceEqDiff, reduceCtorEq, Int.reduceToNat, Int.reduceLE, Int.reduceLT, Int.reduceBEq, Int.reduceBNe, mCall, chg_H, cel3, k4, hg, hc, hea, hcf, zT_enc]
  · rw [hall2, if_pos rfl, hout hall2] at hea
    simp only [chg_H, cel3] at hea
    have hm := mapT_eq G t (f0 + n)
    rw [← mapT_args] at hm
    cases k4 : (t.kind == 4)
    · have hct : canB p t (f0 + n) = true := by rw [canB_eq, hall2]; simp [bne, k4]
      rw [k4] at hm
      have hm' : Dv.agg [.int .i64 t.kind, .int .i64 t.head, .slc (encs (mapT G t (f0 + n)).args)] = enc (mapT G t (f0 + n)) := by rw [tm_enc]; exact congrArg enc hm.symm
      simp -implicitDefEqProofs (disch := decide +kernel) only [go_sem, ↓reduceIte, Nat.reduceSub, Nat.reduceAdd, Nat.reduceMul, Nat.reduceBEq, Nat.reduceLT, Nat.reduceLeDiff, Nat.reduceEqDiff, reduceCtorEq, Int.reduceToNat, Int.reduceLE, Int.reduceLT, Int.reduceBEq, Int.reduceBNe, mCall, chg_H, cel3, k4, hea, hct, hm']
    · have hc := hof t.head n (hok.1 (by simpa using k4))
      cases hp : p t.head (f0 + n)
      · have hcf : canB p t (f0 + n) = false := canB_false (by simpa using k4) hp
        rw [hp] at hc
        simp -implicitDefEqProofs (disch := decide +kernel) only [go_sem, ↓reduceIte, Nat.reduceSub, Nat.reduceAdd, Nat.reduceMul, Nat.reduceBEq, Nat.reduceLT, Nat.reduceLeDiff, Nat.reduceEqDiff, reduceCtorEq, Int.reduceToNat, Int.reduceLE, Int.reduceLT, Int.reduceBEq, Int.reduceBNe, mCall, chg_H, cel3, k4, hg, hc, hcf, zT_enc]
      · have hct : canB p t (f0 + n) = true := by rw [canB_eq, hall2, hp]; simp
        rw [hp] at hc
        rw [k4] at hm
        have hm' : Dv.agg [.int .i64 t.kind, .int .i64 (G t.head (f0 + n)), .slc (encs (mapT G t (f0 + n)).args)] = enc (mapT G t (f0 + n)) := by rw [tm_enc]; exact congrArg enc hm.symm
        simp -implicitDefEqProofs (disch := decide +kernel) only [go_sem, ↓reduceIte, Nat.reduceSub, Nat.reduceAdd, Nat.reduceMul, Nat.reduceBEq, Nat.reduceLT, Nat.reduceLeDiff, Nat.reduceEqDiff, reduceCtorEq, Int.reduceToNat, Int.reduceLE, Int.reduceLT, Int.reduceBEq, Int.reduceBNe, mCall, chg_H, cel3, k4, hg, hc, hea, hct, hm']
/-- What numbers are: small enough. -/
def okUp (x m : Int) : Bool := decide (x ≤ 4503599627370496)
theorem renup_spec (b f x n : Int) (hb : 0 ≤ b ∧ b ≤ 1048576) (hf : 0 ≤ f + n ∧ f + n ≤ 4000000000000000000) (hx : x ≤ 4503599627370496) :
    (lim C).call 31 [.d (.agg [.int .i64 b, .int .i64 f]), dI x, dI n] [] = some (.ret (.tup [dI (gUp b x (f + n)), dB true]), []) := by
  have hw : IntKind.wrap .i64 (f + n) = f + n := wrap_ok (by omega) (by omega)
  unfold gUp
  rw [ev_fn 31 Try.f31 _ _ _ rfl Try.func31 rfl Try.ntmps31 rfl]
  cases h1 : decide (x ≥ f + n)
  · have h1' : ¬ x ≥ f + n := by simpa using h1
    rw [if_neg h1']
    simp -implicitDefEqProofs (disch := decide +kernel) only [go_sem, ↓reduceIte, Nat.reduceSub, Nat.reduceAdd, Nat.reduceMul, Nat.reduceBEq, Nat.reduceLT, Nat.reduceLeDiff, Nat.reduceEqDiff, reduceCtorEq, Int.reduceToNat, Int.reduceLE, Int.reduceLT, Int.reduceBEq, Int.reduceBNe, mCall, hw, h1]
  · have h1' : x ≥ f + n := by simpa using h1
    have hw2 : IntKind.wrap .i64 (x + b) = x + b := wrap_ok (by omega) (by omega)
    rw [if_pos h1']
    simp -implicitDefEqProofs (disch := decide +kernel) only [go_sem, ↓reduceIte, Nat.reduceSub, Nat.reduceAdd, Nat.reduceMul, Nat.reduceBEq, Nat.reduceLT, Nat.reduceLeDiff, Nat.reduceEqDiff, reduceCtorEq, Int.reduceToNat, Int.reduceLE, Int.reduceLT, Int.reduceBEq, Int.reduceBNe, mCall, hw, hw2, h1]
theorem rendn_spec (b f x n : Int) (hb : 0 ≤ b ∧ b ≤ 1048576) (hf : 0 ≤ f + n ∧ f + n ≤ 4000000000000000000) (hx : x ≤ 4503599627370496) :
    (lim C).call 32 [.d (.agg [.int .i64 b, .int .i64 f]), dI x, dI n] [] = some (.ret (.tup [dI (if pDn b x (f + n) then gDn b x (f + n) else 0), dB (pDn b x (f + n))]), []) := by
  have hw : IntKind.wrap .i64 (f + n) = f + n := wrap_ok (by omega) (by omega)
  have hw1 : IntKind.wrap .i64 (f + n + b) = f + n + b := wrap_ok (by omega) (by omega)
  unfold gDn pDn
  rw [ev_fn 32 Try.f32 _ _ _ rfl Try.func32 rfl Try.ntmps32 rfl]
  cases h1 : decide (x < f + n)
  · have h1' : ¬ x < f + n := by simpa using h1
    rw [if_neg h1']
    cases h2 : decide (x < f + n + b)
    · have h2' : decide (x ≥ f + n + b) = true := by simp at h2 ⊢; omega
      have hw2 : IntKind.wrap .i64 (x - b) = x - b := wrap_ok (by omega) (by omega)
      simp -implicitDefEqProofs (disch := decide +kernel) only [go_sem, ↓reduceIte, Nat.reduceSub, Nat.reduceAdd, Nat.reduceMul, Nat.reduceBEq, Nat.reduceLT, Nat.reduceLeDiff, Nat.reduceEqDiff, reduceCtorEq, Int.reduceToNat, Int.reduceLE, Int.reduceLT, Int.reduceBEq, Int.reduceBNe, mCall, hw, hw1, hw2, h1, h2, h2']
    · have h2' : decide (x ≥ f + n + b) = false := by simp at h2 ⊢; omega
      simp -implicitDefEqProofs (disch := decide +kernel) only [go_sem, ↓reduceIte, Nat.reduceSub, Nat.reduceAdd, Nat.reduceMul, Nat.reduceBEq, Nat.reduceLT, Nat.reduceLeDiff, Nat.reduceEqDiff, reduceCtorEq, Int.reduceToNat, Int.reduceLE, Int.reduceLT, Int.reduceBEq, Int.reduceBNe, mCall, hw, hw1, h1, h2, h2']
  · have h1' : x < f + n := by simpa using h1
    rw [if_pos h1']
    simp -implicitDefEqProofs (disch := decide +kernel) only [go_sem, ↓reduceIte, Nat.reduceSub, Nat.reduceAdd, Nat.reduceMul, Nat.reduceBEq, Nat.reduceLT, Nat.reduceLeDiff, Nat.reduceEqDiff, reduceCtorEq, Int.reduceToNat, Int.reduceLE, Int.reduceLT, Int.reduceBEq, Int.reduceBNe, mCall, hw, h1]
/-- Whether a term may be renumbered by so many, from one on. -/
def renB (t : Tm) (b f : Int) : Bool := mayB t && decide (b ≥ 0) && decide (b ≤ 1048576) && decide (f ≥ 0) && decide (f ≤ 1048576)
theorem smay2_spec (t : Tm) (hs : t.size < room) (b f : Int) : (lim C).call 29 [dT t, dI b, dI f] [] = retB (renB t b f) := by
  unfold renB
  rw [ev_fn 29 Try.f29 _ _ _ rfl Try.func29 rfl Try.ntmps29 rfl]
  cases h1 : mayB t
  · simp -implicitDefEqProofs (disch := decide +kernel) only [go_sem, ↓reduceIte, Nat.reduceSub, Nat.reduceAdd, Nat.reduceMul, Nat.reduceBEq, Nat.reduceLT, Nat.reduceLeDiff, Nat.reduceEqDiff, reduceCtorEq, Int.reduceToNat, Int.reduceLE, Int.reduceLT, Int.reduceBEq, Int.reduceBNe, mCall, tMay_spec t hs, h1]
  · skip
    cases h2 : decide (b ≥ 0)
    · simp -implicitDefEqProofs (disch := decide +kernel) only [go_sem, ↓reduceIte, Nat.reduceSub, Nat.reduceAdd, Nat.reduceMul, Nat.reduceBEq, Nat.reduceLT, Nat.reduceLeDiff, Nat.reduceEqDiff, reduceCtorEq, Int.reduceToNat, Int.reduceLE, Int.reduceLT, Int.reduceBEq, Int.reduceBNe, mCall, tMay_spec t hs, h1, h2]
    · skip
      cases h3 : decide (b ≤ 1048576)
      · simp -implicitDefEqProofs (disch := decide +kernel) only [go_sem, ↓reduceIte, Nat.reduceSub, Nat.reduceAdd, Nat.reduceMul, Nat.reduceBEq, Nat.reduceLT, Nat.reduceLeDiff, Nat.reduceEqDiff, reduceCtorEq, Int.reduceToNat, Int.reduceLE, Int.reduceLT, Int.reduceBEq, Int.reduceBNe, mCall, tMay_spec t hs, h1, h2, h3]
      · skip
        cases h4 : decide (f ≥ 0)
        · simp -implicitDefEqProofs (disch := decide +kernel) only [go_sem, ↓reduceIte, Nat.reduceSub, Nat.reduceAdd, Nat.reduceMul, Nat.reduceBEq, Nat.reduceLT, Nat.reduceLeDiff, Nat.reduceEqDiff, reduceCtorEq, Int.reduceToNat, Int.reduceLE, Int.reduceLT, Int.reduceBEq, Int.reduceBNe, mCall, tMay_spec t hs, h1, h2, h3, h4]
        · skip
          cases h5 : decide (f ≤ 1048576)
          · simp -implicitDefEqProofs (disch := decide +kernel) only [go_sem, ↓reduceIte, Nat.reduceSub, Nat.reduceAdd, Nat.reduceMul, Nat.reduceBEq, Nat.reduceLT, Nat.reduceLeDiff, Nat.reduceEqDiff, reduceCtorEq, Int.reduceToNat, Int.reduceLE, Int.reduceLT, Int.reduceBEq, Int.reduceBNe, mCall, tMay_spec t hs, h1, h2, h3, h4, h5]
          · simp -implicitDefEqProofs (disch := decide +kernel) only [go_sem, ↓reduceIte, Nat.reduceSub, Nat.reduceAdd, Nat.reduceMul, Nat.reduceBEq, Nat.reduceLT, Nat.reduceLeDiff, Nat.reduceEqDiff, reduceCtorEq, Int.reduceToNat, Int.reduceLE, Int.reduceLT, Int.reduceBEq, Int.reduceBNe, mCall, tMay_spec t hs, h1, h2, h3, h4, h5]
theorem low_can (f : Int) : ∀ (t : Tm) (n : Int), f ≤ n → n + t.size ≤ 4000000000000000000 → vlowB t = true → canB (fun x m => decide (x ≤ 4503599627370496) && decide (f ≤ m) && decide (m ≤ 4000000000000000000)) t n = true := by
  refine Tm.ind fun t ih n hn hm hl => ?_
  rw [canB_iff]
  refine ⟨fun hk => ?_, fun i hi => ?_⟩
  · have := vle_here hl hk
    simp
    omega
  · have := size_arg (arg_mem hi)
    have := bnd_le t i
    exact ih _ (arg_mem hi) _ (by omega) (by omega) (vle_args hl i hi)
theorem sup_spec (t : Tm) (hs : t.size < room) (hl : vlowB t = true) (b f : Int) : ∃ h, (lim C).call 13 [dT t, dI b, dI f] [] = some (.ret (dT (if renB t b f then upT t b f else t)), h) := by
  have hr : room = 1099511627776 := rfl
  have hm := smay2_spec t hs b f
  cases h : renB t b f
  · rw [h] at hm
    refine ⟨[], ?_⟩
    rw [ev_fn 13 Try.f13 _ _ _ rfl Try.func13 rfl Try.ntmps13 rfl]
    simp -implicitDefEqProofs (disch := decide +kernel) only [go_sem, ↓reduceIte, Nat.reduceSub, Nat.reduceAdd, Nat.reduceMul, Nat.reduceBEq, Nat.reduceLT, Nat.reduceLeDiff, Nat.reduceEqDiff, reduceCtorEq, Int.reduceToNat, Int.reduceLE, Int.reduceLT, Int.reduceBEq, Int.reduceBNe, mCall, hm, own_spec t hs]
  · rw [h] at hm
    simp only [renB, Bool.and_eq_true, decide_eq_true_eq] at h
    have hc := low_can f t f (Int.le_refl _) (by omega) hl
    obtain ⟨h', hch⟩ := change_spec (g := 31) (by decide +kernel) (rv := .agg [.int .i64 b, .int .i64 f]) (f0 := f) (G := gUp b) (p := fun _ _ => true) (ok := fun x m => decide (x ≤ 4503599627370496) && decide (f ≤ m) && decide (m ≤ 4000000000000000000)) (fun x n hx => by
      simp only [Bool.and_eq_true, decide_eq_true_eq] at hx
      rw [if_pos rfl]
      exact renup_spec b f x n ⟨by omega, by omega⟩ ⟨by omega, by omega⟩ (by omega)) t hs 0 (by omega) (by omega) (by rw [Int.add_zero]; exact hc)
    rw [Int.add_zero, canB_true, if_pos rfl] at hch
    refine ⟨[], ?_⟩
    rw [ev_fn 13 Try.f13 _ _ _ rfl Try.func13 rfl Try.ntmps13 rfl]
    simp -implicitDefEqProofs (disch := decide +kernel) only [go_sem, ↓reduceIte, Nat.reduceSub, Nat.reduceAdd, Nat.reduceMul, Nat.reduceBEq, Nat.reduceLT, Nat.reduceLeDiff, Nat.reduceEqDiff, reduceCtorEq, Int.reduceToNat, Int.reduceLE, Int.reduceLT, Int.reduceBEq, Int.reduceBNe, mCall, hm, hch]
theorem sdn_spec (t : Tm) (hs : t.size < room) (hl : vlowB t = true) (b f : Int) : ∃ h, (lim C).call 14 [dT t, dI b, dI f] [] = some (.ret (.tup [dT (if renB t b f && dnB t b f then dnT t b f else zT), dB (renB t b f && dnB t b f)]), h) := by
  have hr : room = 1099511627776 := rfl
  have hm := smay2_spec t hs b f
  cases h : renB t b f
  · rw [h] at hm
    refine ⟨[], ?_⟩
    rw [ev_fn 14 Try.f14 _ _ _ rfl Try.func14 rfl Try.ntmps14 rfl]
    simp -implicitDefEqProofs (disch := decide +kernel) only [go_sem, ↓reduceIte, Nat.reduceSub, Nat.reduceAdd, Nat.reduceMul, Nat.reduceBEq, Nat.reduceLT, Nat.reduceLeDiff, Nat.reduceEqDiff, reduceCtorEq, Int.reduceToNat, Int.reduceLE, Int.reduceLT, Int.reduceBEq, Int.reduceBNe, mCall, hm, zT_enc]
  · rw [h] at hm
    simp only [renB, Bool.and_eq_true, decide_eq_true_eq] at h
    have hc := low_can f t f (Int.le_refl _) (by omega) hl
    obtain ⟨h', hch⟩ := change_spec (g := 32) (by decide +kernel) (rv := .agg [.int .i64 b, .int .i64 f]) (f0 := f) (G := gDn b) (p := pDn b) (ok := fun x m => decide (x ≤ 4503599627370496) && decide (f ≤ m) && decide (m ≤ 4000000000000000000)) (fun x n hx => by
      simp only [Bool.and_eq_true, decide_eq_true_eq] at hx
      exact rendn_spec b f x n ⟨by omega, by omega⟩ ⟨by omega, by omega⟩ (by omega)) t hs 0 (by omega) (by omega) (by rw [Int.add_zero]; exact hc)
    rw [Int.add_zero] at hch
    refine ⟨[], ?_⟩
    rw [Bool.true_and]
    rw [ev_fn 14 Try.f14 _ _ _ rfl Try.func14 rfl Try.ntmps14 rfl]
    simp -implicitDefEqProofs (disch := decide +kernel) only [go_sem, ↓reduceIte, Nat.reduceSub, Nat.reduceAdd, Nat.reduceMul, Nat.reduceBEq, Nat.reduceLT, Nat.reduceLeDiff, Nat.reduceEqDiff, reduceCtorEq, Int.reduceToNat, Int.reduceLE, Int.reduceLT, Int.reduceBEq, Int.reduceBNe, mCall, hm, hch]
end Go.Proofs.Ytobocgjdlchemaa
/- The reference of layer 2: shift. -/
set_option linter.unusedSimpArgs false
set_option linter.unusedVariables false
set_option maxRecDepth 100000
namespace Go.Proofs.Ytobocgjdlchemaa
open Go.Proofs
theorem acc_keep (t : Nat) (xs : List Dv) : (acc t xs).kept = acc t xs := by cases xs <;> rfl
theorem acc_drop (t : Nat) (xs : List Dv) : (acc t xs).erase = .d (.slc xs) := by cases xs <;> rfl
def zc3 : List AV := [dI 0, dI 0, .clip []]
theorem outs_map {t : Tm} (g : Int → Int → Int) (n : Int) : outs (fun i => mapT g (t.arg i) (n + bnd t i)) t.args.length = (mapT g t n).args := by rw [mapT_args]; rfl
end Go.Proofs.Ytobocgjdlchemaa
