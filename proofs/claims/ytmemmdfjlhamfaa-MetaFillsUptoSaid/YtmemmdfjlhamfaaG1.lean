/- Terms as data; states told by their slots. -/
import Derived.Test.YtmemmdfjlhamfaaKY
set_option linter.unusedSimpArgs false
namespace Go.Proofs.Ytmemmdfjlhamfaa
open Go.Proofs

/-- Terms. -/
inductive Tm where
  | mk (kind head : Int) (args : List Tm)
  deriving Inhabited
def Tm.kind : Tm → Int | .mk k _ _ => k
def Tm.head : Tm → Int | .mk _ h _ => h
def Tm.args : Tm → List Tm | .mk _ _ l => l
def enc : Tm → Dv
  | .mk k h l => .agg [.int .i64 k, .int .i64 h, .slc (l.attach.map fun x => enc x.1)]
decreasing_by
  have := List.sizeOf_lt_of_mem x.2
  simp only [Tm.mk.sizeOf_spec]
  omega
def encs (l : List Tm) : List Dv := l.map enc
theorem enc_mk (k h : Int) (l : List Tm) : enc (.mk k h l) = .agg [.int .i64 k, .int .i64 h, .slc (encs l)] := by
  rw [enc]
  simp [encs]
theorem encs_length (l : List Tm) : (encs l).length = l.length := by simp [encs]
theorem encs_get (l : List Tm) (i : Nat) : (encs l)[i]? = (l[i]?).map enc := by simp [encs]
theorem encs_append (a b : List Tm) : encs (a ++ b) = encs a ++ encs b := by simp [encs]
theorem encs_take (a : List Tm) (n : Nat) : encs (a.take n) = (encs a).take n := by simp [encs]
theorem encs_drop (a : List Tm) (n : Nat) : encs (a.drop n) = (encs a).drop n := by simp [encs]
theorem enc_width (t : Tm) : (enc t).width = 3 := by cases t; rw [enc_mk]; rfl
theorem encs_all (l : List Tm) : ((encs l).all fun x => x.width == 3) = true := by
  simp [encs, enc_width]
theorem enc_cells (t : Tm) : (enc t).cells = [.int .i64 t.kind, .int .i64 t.head, .slc (encs t.args)] := by cases t; rw [enc_mk]; rfl
theorem enc_eq (t : Tm) : enc t = .agg [.int .i64 t.kind, .int .i64 t.head, .slc (encs t.args)] := by cases t; rw [enc_mk]; rfl

theorem cells_enc (t : Tm) : AV.cells (.d (enc t)) = [.d (.int .i64 t.kind), .d (.int .i64 t.head), .d (.slc (encs t.args))] := by rw [enc_eq]; rfl
theorem encs_snoc {l : List Tm} {i : Nat} (h : i < l.length) : encs (l.take i) ++ [enc l[i]] = encs (l.take (i + 1)) := by
  rw [List.take_add_one, List.getElem?_eq_getElem h, encs_append]; rfl
theorem encs_take_len {l : List Tm} {i : Nat} (h : i ≤ l.length) : (encs (l.take i)).length = i := by simp [encs]; omega
theorem enc_fold (t : Tm) : Dv.agg [.int .i64 t.kind, .int .i64 t.head, .slc (encs t.args)] = enc t := (enc_eq t).symm
theorem wrap_ok {n : Int} (h1 : -9223372036854775808 ≤ n) (h2 : n ≤ 9223372036854775807) : IntKind.wrap .i64 n = n := by
  simp only [IntKind.wrap, IntKind.signed, IntKind.bits]
  simp
  omega
theorem wrap_succ {n : Nat} (h : n < 9223372036854775807) : IntKind.wrap .i64 ((n : Int) + 1) = ((n + 1 : Nat) : Int) := by
  rw [wrap_ok (by omega) (by omega)]; omega
theorem lt_true {i n : Nat} (h : i < n) : decide ((i : Int) < (n : Int)) = true := by simpa using h
theorem lt_false {i n : Nat} (h : n ≤ i) : decide ((i : Int) < (n : Int)) = false := by simpa using h
set_option linter.unusedVariables false in
theorem Tm.ind {P : Tm → Prop} (h : ∀ t : Tm, (∀ x ∈ t.args, P x) → P t) : ∀ t : Tm, P t
  | .mk k hd l => h _ fun x hx => Tm.ind h x
decreasing_by
  have := List.sizeOf_lt_of_mem hx
  simp only [Tm.mk.sizeOf_spec, Tm.args] at *
  omega
def Tm.size : Tm → Nat
  | .mk _ _ l => 1 + (l.attach.map fun x => x.1.size).sum
decreasing_by
  have := List.sizeOf_lt_of_mem x.2
  simp only [Tm.mk.sizeOf_spec]
  omega
theorem size_eq (t : Tm) : t.size = 1 + (t.args.map Tm.size).sum := by
  cases t
  rw [Tm.size]
  simp [Tm.args]
def Tm.depth : Tm → Nat
  | .mk _ _ l => 1 + (l.attach.map fun x => x.1.depth).foldr max 0
decreasing_by
  have := List.sizeOf_lt_of_mem x.2
  simp only [Tm.mk.sizeOf_spec]
  omega
theorem depth_eq (t : Tm) : t.depth = 1 + (t.args.map Tm.depth).foldr max 0 := by
  cases t
  rw [Tm.depth]
  simp [Tm.args]
theorem sum_mem {l : List Nat} {n : Nat} (h : n ∈ l) : n ≤ l.sum := by
  induction l with
  | nil => cases h
  | cons a l ih =>
    simp only [List.sum_cons]
    rcases List.mem_cons.1 h with rfl | h
    · omega
    · have := ih h; omega
theorem size_arg {t x : Tm} (h : x ∈ t.args) : x.size < t.size := by
  rw [size_eq t]
  have := sum_mem (List.mem_map_of_mem (f := Tm.size) h)
  omega
theorem size_pos (t : Tm) : 0 < t.size := by rw [size_eq]; omega
theorem len_sum (l : List Tm) : l.length ≤ (l.map Tm.size).sum := by
  induction l with
  | nil => simp
  | cons a l ih => have := size_pos a; simp only [List.map_cons, List.sum_cons, List.length_cons]; omega
theorem len_size (t : Tm) : t.args.length < t.size := by
  rw [size_eq]; have := len_sum t.args; omega
/-! ### loops -/
def allB : Nat → (Nat → Bool) → Bool
  | 0, _ => true
  | n + 1, p => p 0 && allB n fun i => p (i + 1)
theorem allB_iff : ∀ (n : Nat) (p : Nat → Bool), allB n p = true ↔ ∀ i, i < n → p i = true
  | 0, p => by simp [allB]
  | n + 1, p => by
    simp only [allB, Bool.and_eq_true, allB_iff n]
    constructor
    · rintro ⟨h0, h⟩ i hi
      cases i with
      | zero => exact h0
      | succ i => exact h i (by omega)
    · intro h
      exact ⟨h 0 (by omega), fun i hi => h (i + 1) (by omega)⟩
theorem allB_first : ∀ (n : Nat) (p : Nat → Bool), allB n p = false → ∃ j, j < n ∧ p j = false ∧ ∀ i, i < j → p i = true
  | 0, p, h => by simp [allB] at h
  | n + 1, p, h => by
    simp only [allB, Bool.and_eq_false_iff] at h
    by_cases h0 : p 0 = false
    · exact ⟨0, by omega, h0, by omega⟩
    · obtain ⟨j, h1, h2, h3⟩ := allB_first n _ (h.resolve_left h0)
      refine ⟨j + 1, by omega, h2, fun i hi => ?_⟩
      cases i with
      | zero => simpa using h0
      | succ i => exact h3 i (by omega)
theorem allB_congr {n : Nat} {p q : Nat → Bool} (h : ∀ i, i < n → p i = q i) : allB n p = allB n q := by
  rw [Bool.eq_iff_iff, allB_iff, allB_iff]
  exact ⟨fun k i hi => h i hi ▸ k i hi, fun k i hi => (h i hi).symm ▸ k i hi⟩
/-- A loop that ends early where something is not so. -/
theorem loop_all {f : Nat} {b : Code} (S : Nat → St) (n : Nat) (p : Nat → Bool) {E R : Ex × St} (h : ∀ i, i < n → p i = true → (lim C).code f b (S i) = some (.nor, S (i + 1)))
    (hr : ∀ i, i < n → p i = false → (lim C).code f b (S i) = some R) (he : (lim C).code f b (S n) = some E) (hR : R.1 ≠ .nor) (hE : E.1 ≠ .nor) :
    (lim C).code f (.loop b) (S 0) = some (if allB n p then E else R) := by
  by_cases hall : allB n p = true
  · rw [if_pos hall]
    exact loop_run S n (fun i hi => h i hi ((allB_iff n p).1 hall i hi)) he hE
  · rw [if_neg hall]
    obtain ⟨j, h1, h2, h3⟩ := allB_first n p (by simpa using hall)
    exact loop_run S j (fun i hi => h i (by omega) (h3 i hi)) (hr j h1 h2) hR
def Tm.arg (t : Tm) (i : Nat) : Tm := t.args.getD i default
theorem arg_get {t : Tm} {i : Nat} (h : i < t.args.length) : t.args[i]? = some (t.arg i) := by
  simp [Tm.arg, List.getD, List.getElem?_eq_getElem h]
theorem arg_mem {t : Tm} {i : Nat} (h : i < t.args.length) : t.arg i ∈ t.args := List.mem_of_getElem? (arg_get h)
theorem arg_eq {t : Tm} {i : Nat} (h : i < t.args.length) : t.args[i] = t.arg i := by
  have := arg_get h
  rw [List.getElem?_eq_getElem h] at this
  simpa using this
def cel3 (t : Tm) : List AV := [.d (.int .i64 t.kind), .d (.int .i64 t.head), .d (.slc (encs t.args))]
abbrev dI (n : Int) : AV := .d (.int .i64 n)
abbrev dB (b : Bool) : AV := .d (.bool b)
abbrev dT (t : Tm) : AV := .d (enc t)
abbrev dL (l : List Tm) : AV := .d (.slc (encs l))
/-- How long a law's input may be, and what it comes to. -/
abbrev retI (n : Int) : Option (CR × List HO) := some (.ret (dI n), [])
abbrev retB (b : Bool) : Option (CR × List HO) := some (.ret (dB b), [])

theorem field_kind (P : Program) (t : Nat) (r : Tm) (h : tag P t = some false) : fieldK P (some (0, 1, t)) (.d (enc r)) = some (.val (.d (.int .i64 r.kind))) := by
  rw [enc_eq]; simp [fieldK, h]
theorem field_head (P : Program) (t : Nat) (r : Tm) (h : tag P t = some false) : fieldK P (some (1, 1, t)) (.d (enc r)) = some (.val (.d (.int .i64 r.head))) := by
  rw [enc_eq]; simp [fieldK, h]
theorem field_args (P : Program) (t : Nat) (r : Tm) (h : tag P t = some false) : fieldK P (some (2, 1, t)) (.d (enc r)) = some (.val (.d (.slc (encs r.args)))) := by
  rw [enc_eq]; simp [fieldK, h]
/-- A slice that grows: none yet, or its own. -/
def acc (t : Nat) : List Dv → AV
  | [] => .clip []
  | x :: xs => .own t (x :: xs)
def accT (n : Nat) : List (Option Nat) := match n with
  | 0 => []
  | n + 1 => [some (n + 1)]
theorem mApp_acc (xs : List Dv) (y : Dv) (sz : Nat) (locs : List (Option (List AV))) (heap : List HO) (hr : xs.length < room) (hx : (xs.all fun x => x.width == sz) = true) (hy : y.width = sz) :
    mApp (acc 0 xs) [y] sz { locs := locs, heap := heap, toks := accT xs.length } = some (.v (acc 0 (xs ++ [y])), { locs := locs, heap := heap, toks := accT (xs.length + 1) }) := by
  cases xs with
  | nil =>
    simp only [acc, mApp, accT, List.length_nil]
    simp [appOwn, acc, hy, room]
  | cons x xs =>
    simp only [acc, mApp, accT, List.length_cons]
    have : xs.length + 1 + 1 ≤ room := hr
    simp only [appOwn]
    simp [this, acc, hy]
    simpa using hx
theorem app_first (ys : List Dv) (sz : Nat) (locs : List (Option (List AV))) (heap : List HO) (hr : ys.length ≤ room) (hw : (ys.all fun x => x.width == sz) = true) :
    mApp (.clip []) ys sz { locs := locs, heap := heap, toks := [] } = some (.v (.own 0 ys), { locs := locs, heap := heap, toks := [some ys.length] }) := by
  simp only [mApp, appOwn, List.length_nil, List.nil_append, Nat.zero_add]
  simp only [hr, hw]
  simp
theorem app_more (xs ys : List Dv) (sz : Nat) (hg : (xs.isEmpty && !(sz == 3)) = false) (locs : List (Option (List AV))) (heap : List HO) (hr : xs.length + ys.length ≤ room) (hx : (xs.all fun x => x.width == sz) = true) (hw : (ys.all fun x => x.width == sz) = true) :
    mApp (.own 0 xs) ys sz { locs := locs, heap := heap, toks := [some xs.length] } = some (.v (.own 0 (xs ++ ys)), { locs := locs, heap := heap, toks := [some (xs.length + ys.length)] }) := by
  simp only [mApp, appOwn, hg]
  simp only [hr, hx, hw]
  simp
theorem acc_sl (t : Nat) (xs : List Dv) : (acc t xs).sl = some xs := by cases xs <;> rfl
theorem acc_okA (t : Nat) (xs : List Dv) : (acc t xs).okA = true := by cases xs <;> rfl
theorem acc_toDv (t : Nat) (xs : List Dv) : (acc t xs).toDv = some (.slc xs) := by cases xs <;> rfl
theorem acc_flat (t : Nat) (xs : List Dv) : (acc t xs).flat = true := by cases xs <;> rfl
theorem acc_cells (t : Nat) (xs : List Dv) : (acc t xs).cells = [acc t xs] := by cases xs <;> rfl
theorem acc_inv (t : Nat) (ps : List Nat) (xs : List Dv) : (acc t xs).inv ps = acc t xs := by cases xs <;> rfl
attribute [go_sem] field_kind field_head field_args
attribute [go_sem] acc_sl acc_okA acc_toDv acc_flat acc_cells acc_inv encs_length enc_width enc_cells encs_get enc_fold cells_enc cel3
end Go.Proofs.Ytmemmdfjlhamfaa
