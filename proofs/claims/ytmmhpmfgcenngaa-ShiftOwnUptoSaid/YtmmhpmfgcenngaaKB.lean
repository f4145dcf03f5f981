/- What the interpreter's values stand for in memory; that it lasts. -/
import Derived.Test.YtmmhpmfgcenngaaKA
import Derived.Laws.AppendOwn
import Derived.Laws.Build
import Derived.Laws.MakeOwn
import Derived.Laws.Tables
namespace Go.Proofs.Ytmmhpmfgcenngaa

def cel (h : Array Obj) (b off : Nat) : Option Value := match h[b]? with
  | some (.cells c _ _) => c[off]?
  | _ => none

section
variable (h : Array Obj) (M : Nat → Nat → Prop)
mutual
def rep : Dv → Value → Prop
  | .int k n, V => V = .int k n
  | .bool b, V => V = .bool b
  | .str s, V => V = .string s
  | .slc xs, V => ∃ A c, V = .slice A xs.length c ∧ xs.length ≤ c ∧ (A = none → c = 0) ∧ ∀ ad, A = some ad → xs = [] ∨ (ad.spot = none ∧ ∃ sz, rows sz xs ad.block ad.off)
  | .agg cs, V => ∃ Vs, V = .agg (List.toArray Vs) ∧ reps cs Vs
def reps : List Dv → List Value → Prop
  | [], Vs => Vs = []
  | c :: cs, Vs => ∃ V Vs', Vs = V :: Vs' ∧ rep c V ∧ V.oneCell' = true ∧ reps cs Vs'
def rows (sz : Nat) : List Dv → Nat → Nat → Prop
  | [], _, _ => True
  | x :: xs, b, o => (∃ V, rep x V ∧ V.cells.size = sz ∧ ∀ j v, V.cells[j]? = some v → cel h b (o + j) = some v ∧ ¬ M b (o + j)) ∧ rows sz xs b (o + sz)
end
end

/-- What is stable stays. -/
def Stay (h : Array Obj) (M : Nat → Nat → Prop) (h' : Array Obj) (M' : Nat → Nat → Prop) : Prop :=
  ∀ b o v, cel h b o = some v → ¬ M b o → cel h' b o = some v ∧ ¬ M' b o
theorem Stay.refl (h : Array Obj) (M : Nat → Nat → Prop) : Stay h M h M := fun _ _ _ a b => ⟨a, b⟩
theorem Stay.trans {h h' h'' : Array Obj} {M M' M'' : Nat → Nat → Prop} (a : Stay h M h' M') (b : Stay h' M' h'' M'') : Stay h M h'' M'' :=
  fun x o v e n => let ⟨e', n'⟩ := a x o v e n; b x o v e' n'

section
variable {h h' : Array Obj} {M M' : Nat → Nat → Prop}
mutual
theorem rep_stay (st : Stay h M h' M') : ∀ (x : Dv) (V : Value), rep h M x V → rep h' M' x V
  | .int _ _, _, e => by simpa [rep] using e
  | .bool _, _, e => by simpa [rep] using e
  | .str _, _, e => by simpa [rep] using e
  | .slc xs, V, e => by
    simp only [rep] at e ⊢
    obtain ⟨A, c, e1, e2, e3, e4⟩ := e
    exact ⟨A, c, e1, e2, e3, fun ad ha => (e4 ad ha).imp id fun ⟨p, sz, q⟩ => ⟨p, sz, rows_stay st sz xs _ _ q⟩⟩
  | .agg cs, V, e => by
    simp only [rep] at e ⊢
    obtain ⟨Vs, e1, e2⟩ := e
    exact ⟨Vs, e1, reps_stay st cs Vs e2⟩
theorem reps_stay (st : Stay h M h' M') : ∀ (cs : List Dv) (Vs : List Value), reps h M cs Vs → reps h' M' cs Vs
  | [], _, e => by simpa [reps] using e
  | c :: cs, Vs, e => by
    simp only [reps] at e ⊢
    obtain ⟨V, Vs', e1, e2, e3, e4⟩ := e
    exact ⟨V, Vs', e1, rep_stay st c V e2, e3, reps_stay st cs Vs' e4⟩
theorem rows_stay (st : Stay h M h' M') (sz : Nat) : ∀ (xs : List Dv) (b o : Nat), rows h M sz xs b o → rows h' M' sz xs b o
  | [], _, _, _ => by simp [rows]
  | x :: xs, b, o, e => by
    simp only [rows] at e ⊢
    obtain ⟨⟨V, e1, e2, e3⟩, e4⟩ := e
    exact ⟨⟨V, rep_stay st x V e1, e2, fun j v hj => let ⟨p, q⟩ := e3 j v hj; st _ _ _ p q⟩, rows_stay st sz xs b _ e4⟩
end
end

/-- A slice that may grow: its own block, or none (then there is no room). -/
structure Tok where
  b : Option Nat
  A : Option Addr
  len : Nat
  cap : Nat
  sz : Nat
/-- Whose a block is. -/
inductive Ow where
  | no | h (i : Nat) | a (i : Nat) | l (p : Nat) | t (k : Nat)
/-- A slice's value, its elements lying in the block that is its own. -/
def own1 (h : Array Obj) (M : Nat → Nat → Prop) (r : Tok) (xs : List Dv) (V : Value) : Prop := V = .slice r.A r.len r.cap ∧ ∀ b, r.b = some b → rows h M r.sz xs b 0
structure Gh where
  ow : Nat → Ow
  hb : List Nat
  hv : List Nat
  ha : List (Option Tok)
  lb : List (Option Nat)
  tb : List (Option Tok)

section
variable (G : Gh) (h : Array Obj) (M : Nat → Nat → Prop)
mutual
def ar : AV → Value → Prop
  | .d x, V => rep h M x V
  | .own t xs, V => rep h M (.slc xs) V ∧ t < G.tb.length ∧ ∀ r, G.tb[t]? = some (some r) → xs.length ≤ r.len ∧ (r.len = xs.length → own1 h M r xs V)
  | .clip xs, V => rep h M (.slc xs) V ∧ ∃ A, V = .slice A xs.length xs.length
  | .hc i ver xs, V => rep h M (.slc xs) V ∧ (∃ v, G.hv[i]? = some v ∧ ver ≤ v) ∧ ∀ r, G.ha[i]? = some (some r) → G.hv[i]? = some ver → own1 h M r xs V ∧ r.len = xs.length
  | .hown _, _ => False
  | .lref p off, V => ∃ b, G.lb[p]? = some (some b) ∧ V = .pointer (some ⟨b, off, none⟩)
  | .href i off, V => ∃ b, G.hb[i]? = some b ∧ V = .pointer (some ⟨b, off, none⟩)
  | .eptr cs, V => ∃ b o Vs, V = .pointer (some ⟨b, o, none⟩) ∧ reps h M cs Vs ∧ ∀ j v, Vs[j]? = some v → cel h b (o + j) = some v ∧ ¬ M b (o + j)
  | .kn K xs, V => rep h M (.slc xs) V ∧ K V
  | .kp K d cs, V => (∃ b o Vs, V = .pointer (some ⟨b, o, none⟩) ∧ reps h M cs Vs ∧ ∀ j v, Vs[j]? = some v → cel h b (o + j) = some v ∧ ¬ M b (o + j)) ∧ ∃ b o n c, K (.slice (some ⟨b, o, none⟩) n c) ∧ 0 < n ∧ V = .pointer (some ⟨b, o + d, none⟩)
  | .fn f first caps, V => ∃ Fs Cs, V = .func (.func f) (List.toArray Fs) (List.toArray Cs) ∧ okL first = true ∧ okL caps = true ∧ ars first Fs ∧ ars caps Cs
  | .yld i, V => ∃ b, G.hb[i]? = some b ∧ V = .func (.yield b) #[] #[]
  | .tup vs, V => ∃ Vs, V = .tuple (List.toArray Vs) ∧ okL vs = true ∧ ars vs Vs
  | .arr vs, V => ∃ Vs, V = .agg (List.toArray Vs) ∧ okL vs = true ∧ ars vs Vs ∧ ∀ U ∈ Vs, U.oneCell' = true
  | .iface t x, V => ∃ U, V = .iface t U ∧ rep h M x U
  | .raw U, V => V = U
  | .undef, _ => True
def ars : List AV → List Value → Prop
  | [], Vs => Vs = []
  | x :: xs, Vs => ∃ V Vs', Vs = V :: Vs' ∧ ar x V ∧ ars xs Vs'
end
end

/-- What the addresses of a state are to be, later; ps: variables that are made anew. -/
structure Gon (ps : List Nat) (G G' : Gh) : Prop where
  hb : ∀ (i b : Nat), G.hb[i]? = some b → G'.hb[i]? = some b
  lb : ∀ (p b : Nat), ps.contains p = false → G.lb[p]? = some (some b) → G'.lb[p]? = some (some b)
  tl : G.tb.length ≤ G'.tb.length
  tk : ∀ (t : Nat) (r : Tok), t < G.tb.length → G'.tb[t]? = some (some r) → ∃ r0, G.tb[t]? = some (some r0) ∧ r0.len ≤ r.len ∧ (r.len = r0.len → r = r0)
  hv : ∀ (i v : Nat), G.hv[i]? = some v → ∃ v', G'.hv[i]? = some v' ∧ v ≤ v' ∧ (v' = v → ∀ r, G'.ha[i]? = some (some r) → G.ha[i]? = some (some r))

theorem own1_stay {h h' : Array Obj} {M M' : Nat → Nat → Prop} (st : Stay h M h' M') {r : Tok} {xs : List Dv} {V : Value} (e : own1 h M r xs V) : own1 h' M' r xs V := ⟨e.1, fun b hb => rows_stay st _ _ _ _ (e.2 b hb)⟩
theorem Gon.refl (ps : List Nat) (G : Gh) : Gon ps G G :=
  ⟨fun _ _ h => h, fun _ _ _ h => h, Nat.le_refl _, fun _ r _ h => ⟨r, h, Nat.le_refl _, fun _ => rfl⟩, fun _ v h => ⟨v, h, Nat.le_refl _, fun _ _ h => h⟩⟩

def AV.noL (ps : List Nat) : AV → Bool
  | .lref p _ => !ps.contains p
  | _ => true
theorem AV.noL_of_ok (ps : List Nat) (v : AV) (h : v.okA = true) : v.noL ps = true := by
  cases v <;> simp_all [AV.okA, AV.noL]

section
variable {ps : List Nat} {G G' : Gh} {h h' : Array Obj} {M M' : Nat → Nat → Prop}
mutual
theorem ar_on (g : Gon ps G G') (st : Stay h M h' M') : ∀ (v : AV) (V : Value), v.noL ps = true → ar G h M v V → ar G' h' M' v V
  | .d x, V, _, e => rep_stay st x V e
  | .own t xs, V, _, e => by
    simp only [ar] at e ⊢
    obtain ⟨e1, e2, e3⟩ := e
    refine ⟨rep_stay st _ _ e1, Nat.lt_of_lt_of_le e2 g.tl, fun r hr => ?_⟩
    obtain ⟨r0, h0, hle, heq⟩ := g.tk t r e2 hr
    obtain ⟨k1, k2⟩ := e3 r0 h0
    refine ⟨Nat.le_trans k1 hle, fun hl => ?_⟩
    obtain rfl : r = r0 := heq (by omega)
    exact own1_stay st (k2 hl)
  | .clip xs, V, _, e => by
    simp only [ar] at e ⊢
    exact ⟨rep_stay st _ _ e.1, e.2⟩
  | .hc i ver xs, V, _, e => by
    simp only [ar] at e ⊢
    obtain ⟨e1, ⟨v, e2, e3⟩, e4⟩ := e
    obtain ⟨v', k1, k2, k3⟩ := g.hv i v e2
    refine ⟨rep_stay st _ _ e1, ⟨v', k1, Nat.le_trans e3 k2⟩, fun r hr hv => ?_⟩
    obtain rfl : v' = ver := by rw [k1] at hv; simpa using hv
    obtain rfl : v = v' := Nat.le_antisymm k2 e3
    have := e4 r (k3 rfl r hr) e2
    exact ⟨own1_stay st this.1, this.2⟩
  | .hown _, _, _, e => by simp [ar] at e
  | .lref p off, V, hn, e => by
    simp only [ar] at e ⊢
    obtain ⟨b, e1, e2⟩ := e
    exact ⟨b, g.lb p b (by simpa [AV.noL] using hn) e1, e2⟩
  | .href i off, V, _, e => by
    simp only [ar] at e ⊢
    obtain ⟨b, e1, e2⟩ := e
    exact ⟨b, g.hb i b e1, e2⟩
  | .eptr cs, V, _, e => by
    simp only [ar] at e ⊢
    obtain ⟨b, o, Vs, e1, e2, e3⟩ := e
    exact ⟨b, o, Vs, e1, reps_stay st cs Vs e2, fun j v hj => let ⟨p, q⟩ := e3 j v hj; st _ _ _ p q⟩
  | .kn K xs, V, _, e => by
    simp only [ar] at e ⊢
    exact ⟨rep_stay st _ _ e.1, e.2⟩
  | .kp K d cs, V, _, e => by
    simp only [ar] at e ⊢
    obtain ⟨⟨b, o, Vs, e1, e2, e3⟩, e4⟩ := e
    exact ⟨⟨b, o, Vs, e1, reps_stay st cs Vs e2, fun j v hj => let ⟨p, q⟩ := e3 j v hj; st _ _ _ p q⟩, e4⟩
  | .fn f a b, V, _, e => by
    simp only [ar] at e ⊢
    obtain ⟨Fs, Cs, e1, e2, e3, e4, e5⟩ := e
    exact ⟨Fs, Cs, e1, e2, e3, ars_on g st a Fs e2 e4, ars_on g st b Cs e3 e5⟩
  | .yld i, V, _, e => by
    simp only [ar] at e ⊢
    obtain ⟨b, e1, e2⟩ := e
    exact ⟨b, g.hb i b e1, e2⟩
  | .tup vs, V, _, e => by
    simp only [ar] at e ⊢
    obtain ⟨Vs, e1, e2, e3⟩ := e
    exact ⟨Vs, e1, e2, ars_on g st vs Vs e2 e3⟩
  | .arr vs, V, _, e => by
    simp only [ar] at e ⊢
    obtain ⟨Vs, e1, e2, e3, e4⟩ := e
    exact ⟨Vs, e1, e2, ars_on g st vs Vs e2 e3, e4⟩
  | .iface t x, V, _, e => by
    simp only [ar] at e ⊢
    obtain ⟨U, e1, e2⟩ := e
    exact ⟨U, e1, rep_stay st x U e2⟩
  | .raw U, V, _, e => by simpa [ar] using e
  | .undef, _, _, _ => by simp [ar]
theorem ars_on (g : Gon ps G G') (st : Stay h M h' M') : ∀ (vs : List AV) (Vs : List Value), okL vs = true → ars G h M vs Vs → ars G' h' M' vs Vs
  | [], _, _, e => by simpa [ars] using e
  | v :: vs, Vs, ho, e => by
    simp only [ars] at e ⊢
    simp only [okL, Bool.and_eq_true] at ho
    obtain ⟨V, Vs', e1, e2, e3⟩ := e
    exact ⟨V, Vs', e1, ar_on g st v V (v.noL_of_ok ps ho.1) e2, ars_on g st vs Vs' ho.2 e3⟩
end
end

end Go.Proofs.Ytmmhpmfgcenngaa
/-! Small facts on what values stand for. -/
namespace Go.Proofs.Ytmmhpmfgcenngaa
section
variable {h : Array Obj} {M : Nat → Nat → Prop}

theorem reps_length : ∀ (cs : List Dv) (Vs : List Value), reps h M cs Vs → Vs.length = cs.length
  | [], Vs, e => by simp only [reps] at e; simp [e]
  | c :: cs, Vs, e => by
    simp only [reps] at e
    obtain ⟨V, Vs', rfl, _, _, e4⟩ := e
    simp [reps_length cs Vs' e4]
theorem reps_one : ∀ (cs : List Dv) (Vs : List Value), reps h M cs Vs → ∀ V ∈ Vs, V.oneCell' = true
  | [], Vs, e => by simp only [reps] at e; simp [e]
  | c :: cs, Vs, e => by
    simp only [reps] at e
    obtain ⟨V, Vs', rfl, _, e3, e4⟩ := e
    intro U hU
    rcases List.mem_cons.1 hU with rfl | hU
    · exact e3
    · exact reps_one cs Vs' e4 U hU
theorem reps_get : ∀ (cs : List Dv) (Vs : List Value), reps h M cs Vs → ∀ (i : Nat) (c : Dv), cs[i]? = some c → ∃ V, Vs[i]? = some V ∧ rep h M c V
  | [], Vs, e => by simp
  | c :: cs, Vs, e => by
    simp only [reps] at e
    obtain ⟨V, Vs', rfl, e2, e3, e4⟩ := e
    intro i x hx
    cases i with
    | zero => exact ⟨V, rfl, by simpa using (by simpa using hx : c = x) ▸ e2⟩
    | succ i => exact reps_get cs Vs' e4 i x (by simpa using hx)
theorem reps_append : ∀ (cs ds : List Dv) (Vs Us : List Value), reps h M cs Vs → reps h M ds Us → reps h M (cs ++ ds) (Vs ++ Us)
  | [], ds, Vs, Us, e, k => by simp only [reps] at e; simpa [e] using k
  | c :: cs, ds, Vs, Us, e, k => by
    simp only [reps] at e
    obtain ⟨V, Vs', rfl, e2, e3, e4⟩ := e
    simp only [List.cons_append, reps]
    exact ⟨V, Vs' ++ Us, rfl, e2, e3, reps_append cs ds Vs' Us e4 k⟩
theorem reps_drop : ∀ (n : Nat) (cs : List Dv) (Vs : List Value), reps h M cs Vs → reps h M (cs.drop n) (Vs.drop n)
  | 0, cs, Vs, e => by simpa using e
  | n + 1, [], Vs, e => by simp only [reps] at e; simp [e, reps]
  | n + 1, c :: cs, Vs, e => by
    simp only [reps] at e
    obtain ⟨V, Vs', rfl, e2, e3, e4⟩ := e
    simpa using reps_drop n cs Vs' e4
theorem reps_take : ∀ (n : Nat) (cs : List Dv) (Vs : List Value), reps h M cs Vs → reps h M (cs.take n) (Vs.take n)
  | 0, cs, Vs, e => by simp [reps]
  | n + 1, [], Vs, e => by simp only [reps] at e; simp [e, reps]
  | n + 1, c :: cs, Vs, e => by
    simp only [reps] at e
    obtain ⟨V, Vs', rfl, e2, e3, e4⟩ := e
    simp only [List.take_succ_cons, reps]
    exact ⟨V, _, rfl, e2, e3, reps_take n cs Vs' e4⟩

theorem rep_one {x : Dv} {V : Value} (e : rep h M x V) (hx : ∀ cs, x ≠ .agg cs) : V.oneCell' = true ∧ V.cells = #[V] := by
  cases x with
  | agg cs => exact absurd rfl (hx cs)
  | slc xs => simp only [rep] at e; obtain ⟨A, c, rfl, _⟩ := e; exact ⟨rfl, rfl⟩
  | _ => simp only [rep] at e; subst e; exact ⟨rfl, rfl⟩
/-- A value's cells. -/
theorem rep_cells {x : Dv} {V : Value} (e : rep h M x V) : reps h M x.cells V.cells.toList := by
  cases x with
  | agg cs => simp only [rep] at e; obtain ⟨Vs, rfl, e2⟩ := e; simpa [Value.cells, Dv.cells] using e2
  | slc xs =>
    have k := rep_one e (by simp)
    simp only [Dv.cells, k.2, reps]
    exact ⟨V, [], rfl, e, k.1, rfl⟩
  | int k n =>
    have k := rep_one e (by simp)
    simp only [Dv.cells, k.2, reps]
    exact ⟨V, [], rfl, e, k.1, rfl⟩
  | bool b =>
    have k := rep_one e (by simp)
    simp only [Dv.cells, k.2, reps]
    exact ⟨V, [], rfl, e, k.1, rfl⟩
  | str b =>
    have k := rep_one e (by simp)
    simp only [Dv.cells, k.2, reps]
    exact ⟨V, [], rfl, e, k.1, rfl⟩
theorem rep_width {x : Dv} {V : Value} (e : rep h M x V) : V.cells.size = x.width := by
  have := reps_length _ _ (rep_cells e)
  simpa [Dv.width] using this

theorem rows_get {sz : Nat} : ∀ (xs : List Dv) (b o : Nat), rows h M sz xs b o → ∀ i x, xs[i]? = some x →
    ∃ V, rep h M x V ∧ V.cells.size = sz ∧ ∀ j v, V.cells[j]? = some v → cel h b (o + i * sz + j) = some v ∧ ¬ M b (o + i * sz + j)
  | [], b, o, _ => by simp
  | y :: xs, b, o, e => by
    simp only [rows] at e
    obtain ⟨⟨V, e1, e2, e3⟩, e4⟩ := e
    intro i x hx
    cases i with
    | zero =>
      obtain rfl : y = x := by simpa using hx
      exact ⟨V, e1, e2, by simpa using e3⟩
    | succ i =>
      obtain ⟨U, k1, k2, k3⟩ := rows_get xs b (o + sz) e4 i x (by simpa using hx)
      refine ⟨U, k1, k2, fun j v hj => ?_⟩
      have := k3 j v hj
      rw [show o + (i + 1) * sz + j = o + sz + i * sz + j by rw [Nat.succ_mul]; omega]
      exact this
theorem rows_append {sz : Nat} : ∀ (xs ys : List Dv) (b o : Nat), rows h M sz xs b o → rows h M sz ys b (o + xs.length * sz) → rows h M sz (xs ++ ys) b o
  | [], ys, b, o, _, k => by simpa using k
  | x :: xs, ys, b, o, e, k => by
    simp only [rows] at e
    simp only [List.cons_append, rows]
    refine ⟨e.1, rows_append xs ys b _ e.2 ?_⟩
    rw [show o + sz + xs.length * sz = o + (x :: xs).length * sz by simp [Nat.succ_mul]; omega]
    exact k
theorem rows_take {sz : Nat} : ∀ (n : Nat) (xs : List Dv) (b o : Nat), rows h M sz xs b o → rows h M sz (xs.take n) b o
  | 0, _, _, _, _ => by simp [rows]
  | n + 1, [], _, _, _ => by simp [rows]
  | n + 1, x :: xs, b, o, e => by
    simp only [rows] at e
    simp only [List.take_succ_cons, rows]
    exact ⟨e.1, rows_take n xs b _ e.2⟩
theorem rows_drop {sz : Nat} : ∀ (n : Nat) (xs : List Dv) (b o : Nat), rows h M sz xs b o → rows h M sz (xs.drop n) b (o + n * sz)
  | 0, xs, b, o, e => by simpa using e
  | n + 1, [], _, _, _ => by simp [rows]
  | n + 1, x :: xs, b, o, e => by
    simp only [rows] at e
    have := rows_drop n xs b _ e.2
    rw [show o + (n + 1) * sz = o + sz + n * sz by rw [Nat.succ_mul]; omega]
    simpa using this
/-- Elements of one width: the size is that. -/
theorem rows_size {sz n : Nat} {xs : List Dv} {b o : Nat} (e : rows h M sz xs b o) (hx : xs ≠ []) (hw : (xs.all fun x => x.width == n) = true) : sz = n := by
  cases xs with
  | nil => exact absurd rfl hx
  | cons x xs =>
    simp only [rows] at e
    obtain ⟨⟨V, e1, e2, _⟩, _⟩ := e
    have := rep_width e1
    simp at hw
    omega
end

section
variable {G : Gh} {h : Array Obj} {M : Nat → Nat → Prop}
theorem ars_length : ∀ (vs : List AV) (Vs : List Value), ars G h M vs Vs → Vs.length = vs.length
  | [], Vs, e => by simp only [ars] at e; simp [e]
  | c :: cs, Vs, e => by
    simp only [ars] at e
    obtain ⟨V, Vs', rfl, _, e4⟩ := e
    simp [ars_length cs Vs' e4]
theorem ars_get : ∀ (cs : List AV) (Vs : List Value), ars G h M cs Vs → ∀ (i : Nat) (c : AV), cs[i]? = some c → ∃ V, Vs[i]? = some V ∧ ar G h M c V
  | [], Vs, e => by simp
  | c :: cs, Vs, e => by
    simp only [ars] at e
    obtain ⟨V, Vs', rfl, e2, e4⟩ := e
    intro i x hx
    cases i with
    | zero => exact ⟨V, rfl, by simpa using (by simpa using hx : c = x) ▸ e2⟩
    | succ i => exact ars_get cs Vs' e4 i x (by simpa using hx)
theorem ars_append : ∀ (cs ds : List AV) (Vs Us : List Value), ars G h M cs Vs → ars G h M ds Us → ars G h M (cs ++ ds) (Vs ++ Us)
  | [], ds, Vs, Us, e, k => by simp only [ars] at e; simpa [e] using k
  | c :: cs, ds, Vs, Us, e, k => by
    simp only [ars] at e
    obtain ⟨V, Vs', rfl, e2, e4⟩ := e
    simp only [List.cons_append, ars]
    exact ⟨V, Vs' ++ Us, rfl, e2, ars_append cs ds Vs' Us e4 k⟩
theorem ars_drop : ∀ (n : Nat) (cs : List AV) (Vs : List Value), ars G h M cs Vs → ars G h M (cs.drop n) (Vs.drop n)
  | 0, cs, Vs, e => by simpa using e
  | n + 1, [], Vs, e => by simp only [ars] at e; simp [e, ars]
  | n + 1, c :: cs, Vs, e => by
    simp only [ars] at e
    obtain ⟨V, Vs', rfl, e2, e4⟩ := e
    simpa using ars_drop n cs Vs' e4
theorem ars_take : ∀ (n : Nat) (cs : List AV) (Vs : List Value), ars G h M cs Vs → ars G h M (cs.take n) (Vs.take n)
  | 0, cs, Vs, e => by simp [ars]
  | n + 1, [], Vs, e => by simp only [ars] at e; simp [e, ars]
  | n + 1, c :: cs, Vs, e => by
    simp only [ars] at e
    obtain ⟨V, Vs', rfl, e2, e4⟩ := e
    simp only [List.take_succ_cons, ars]
    exact ⟨V, _, rfl, e2, ars_take n cs Vs' e4⟩
theorem ars_splice {cs vs : List AV} {Cs Vs : List Value} (off : Nat) (e : ars G h M cs Cs) (k : ars G h M vs Vs) : ars G h M (splice cs off vs) (splice Cs off Vs) := by
  unfold splice
  have hl := ars_length _ _ k
  rw [hl]
  exact ars_append _ _ _ _ (ars_append _ _ _ _ (ars_take off _ _ e) k) (ars_drop _ _ _ e)
theorem ars_map {α : Type} (f : α → AV) (g : α → Value) (l : List α) (e : ∀ x ∈ l, ar G h M (f x) (g x)) : ars G h M (l.map f) (l.map g) := by
  induction l with
  | nil => simp [ars]
  | cons x l ih =>
    simp only [List.map_cons, ars]
    exact ⟨_, _, rfl, e x (by simp), ih fun y hy => e y (by simp [hy])⟩

/-- What is data is data. -/
theorem toDv_rep {v : AV} {V : Value} {y : Dv} (e : ar G h M v V) (hy : v.toDv = some y) : rep h M y V := by
  cases v <;> simp [AV.toDv] at hy <;> subst hy <;> simp only [ar] at e
  · exact e
  · exact e.1
theorem sl_rep {v : AV} {V : Value} {xs : List Dv} (e : ar G h M v V) (hy : v.sl = some xs) : rep h M (.slc xs) V := by
  cases v with
  | d x => cases x <;> simp [AV.sl] at hy; subst hy; simpa [ar] using e
  | own t ys => simp [AV.sl] at hy; subst hy; simp only [ar] at e; exact e.1
  | clip ys => simp [AV.sl] at hy; subst hy; simp only [ar] at e; exact e.1
  | kn K ys => simp [AV.sl] at hy; subst hy; simp only [ar] at e; exact e.1
  | hc i v ys => simp [AV.sl] at hy; subst hy; simp only [ar] at e; exact e.1
  | _ => simp [AV.sl] at hy
theorem toDvs_reps : ∀ (cs : List AV) (Vs : List Value) (ds : List Dv), ars G h M cs Vs → (∀ U ∈ Vs, U.oneCell' = true) → toDvs cs = some ds → reps h M ds Vs
  | [], Vs, ds, e, _, hd => by simp only [ars] at e; simp [toDvs] at hd; subst hd; simp [reps, e]
  | c :: cs, Vs, ds, e, h1, hd => by
    simp only [ars] at e
    obtain ⟨V, Vs', rfl, e2, e4⟩ := e
    simp only [toDvs] at hd
    split at hd
    · rename_i y ys hy hys
      cases hd
      simp only [reps]
      exact ⟨V, Vs', rfl, toDv_rep e2 hy, h1 V (by simp), toDvs_reps cs Vs' ys e4 (fun U hU => h1 U (by simp [hU])) hys⟩
    · cases hd
theorem eraseDv_one {v : AV} {V : Value} {y : Dv} (e : ar G h M v V) (h1 : V.oneCell' = true) (hy : v.erase.toDv = some y) : rep h M y V := by
  cases v with
  | arr vs =>
    simp only [ar] at e
    obtain ⟨Vs, rfl, _⟩ := e
    simp [Value.oneCell'] at h1
  | d x => simp [AV.erase, AV.toDv] at hy; subst hy; simpa only [ar] using e
  | own t xs => simp [AV.erase, AV.toDv] at hy; subst hy; simp only [ar] at e; exact e.1
  | clip xs => simp [AV.erase, AV.toDv] at hy; subst hy; simp only [ar] at e; exact e.1
  | kn K xs => simp [AV.erase, AV.toDv] at hy; subst hy; simp only [ar] at e; exact e.1
  | hc i w xs => simp [AV.erase, AV.toDv] at hy; subst hy; simp only [ar] at e; exact e.1
  | hown xs => simp [ar] at e
  | _ => simp [AV.erase, AV.toDv] at hy
theorem eraseDvs_reps : ∀ (cs : List AV) (Vs : List Value) (ds : List Dv), ars G h M cs Vs → (∀ U ∈ Vs, U.oneCell' = true) → toDvs (eraseL cs) = some ds → reps h M ds Vs
  | [], Vs, ds, e, _, hd => by simp only [ars] at e; simp [eraseL, toDvs] at hd; subst hd; simp [reps, e]
  | c :: cs, Vs, ds, e, h1, hd => by
    simp only [ars] at e
    obtain ⟨V, Vs', rfl, e2, e4⟩ := e
    simp only [eraseL, toDvs] at hd
    split at hd
    · rename_i y ys hy hys
      cases hd
      simp only [reps]
      exact ⟨V, Vs', rfl, eraseDv_one e2 (h1 V (by simp)) hy, h1 V (by simp), eraseDvs_reps cs Vs' ys e4 (fun U hU => h1 U (by simp [hU])) hys⟩
    · cases hd
theorem eraseDv_rep {v : AV} {V : Value} {y : Dv} (e : ar G h M v V) (hy : v.erase.toDv = some y) : rep h M y V := by
  cases v with
  | arr vs =>
    simp only [ar] at e
    obtain ⟨Vs, rfl, _, e3, e4⟩ := e
    simp only [AV.erase] at hy
    unfold aggOf at hy
    split at hy
    · rename_i ds hd
      simp [AV.toDv] at hy
      subst hy
      simp only [rep]
      exact ⟨Vs, rfl, eraseDvs_reps vs Vs ds e3 e4 hd⟩
    · simp [AV.toDv] at hy
  | d x => simp [AV.erase, AV.toDv] at hy; subst hy; simpa only [ar] using e
  | own t xs => simp [AV.erase, AV.toDv] at hy; subst hy; simp only [ar] at e; exact e.1
  | clip xs => simp [AV.erase, AV.toDv] at hy; subst hy; simp only [ar] at e; exact e.1
  | kn K xs => simp [AV.erase, AV.toDv] at hy; subst hy; simp only [ar] at e; exact e.1
  | hc i w xs => simp [AV.erase, AV.toDv] at hy; subst hy; simp only [ar] at e; exact e.1
  | hown xs => simp [ar] at e
  | _ => simp [AV.erase, AV.toDv] at hy
theorem aggOf_okA {cs : List AV} (ho : okL cs = true) : (aggOf cs).okA = true := by
  unfold aggOf
  split
  · rfl
  · exact ho
theorem aggOf_ar {cs : List AV} {Vs : List Value} (e : ars G h M cs Vs) (h1 : ∀ U ∈ Vs, U.oneCell' = true) (ho : okL cs = true) : ar G h M (aggOf cs) (.agg Vs.toArray) := by
  unfold aggOf
  split
  · rename_i ds hd
    simp only [ar, rep]
    exact ⟨Vs, rfl, toDvs_reps cs Vs ds e h1 hd⟩
  · simp only [ar]
    exact ⟨Vs, rfl, ho, e, h1⟩
theorem aggN_ar {b : Bool} {cs : List AV} {Vs : List Value} (e : ars G h M cs Vs) (h1 : ∀ U ∈ Vs, U.oneCell' = true) (ho : okL cs = true) : ar G h M (aggN b cs) (.agg Vs.toArray) := by
  unfold aggN
  split
  · simp only [ar]
    exact ⟨Vs, rfl, ho, e, h1⟩
  · exact aggOf_ar e h1 ho
theorem flat_one {v : AV} {V : Value} (e : ar G h M v V) (hf : v.flat = true) : V.oneCell' = true := by
  cases v with
  | d x =>
    simp only [ar] at e
    cases x with
    | agg cs => simp [AV.flat] at hf
    | slc xs => exact (rep_one e (by simp)).1
    | int k n => exact (rep_one e (by simp)).1
    | bool b => exact (rep_one e (by simp)).1
    | str b => exact (rep_one e (by simp)).1
  | own t xs => simp only [ar] at e; exact (rep_one e.1 (by simp)).1
  | clip xs => simp only [ar] at e; exact (rep_one e.1 (by simp)).1
  | kn K xs => simp only [ar] at e; exact (rep_one e.1 (by simp)).1
  | kp K d cs => simp only [ar] at e; obtain ⟨⟨b, o, Vs, rfl, _⟩, _⟩ := e; rfl
  | hc i w xs => simp only [ar] at e; exact (rep_one e.1 (by simp)).1
  | hown xs => simp [ar] at e
  | lref p o => simp only [ar] at e; obtain ⟨b, _, rfl⟩ := e; rfl
  | href p o => simp only [ar] at e; obtain ⟨b, _, rfl⟩ := e; rfl
  | eptr cs => simp only [ar] at e; obtain ⟨b, o, Vs, rfl, _⟩ := e; rfl
  | fn f a b => simp only [ar] at e; obtain ⟨Fs, Cs, rfl, _⟩ := e; rfl
  | yld i => simp only [ar] at e; obtain ⟨b, _, rfl⟩ := e; rfl
  | iface t x => simp only [ar] at e; obtain ⟨U, rfl, _⟩ := e; rfl
  | raw U => simp only [ar] at e; subst e; simpa [AV.flat] using hf
  | _ => simp [AV.flat] at hf
theorem flats_one : ∀ (cs : List AV) (Vs : List Value), ars G h M cs Vs → (cs.all AV.flat) = true → ∀ U ∈ Vs, U.oneCell' = true
  | [], Vs, e, _ => by simp only [ars] at e; simp [e]
  | c :: cs, Vs, e, hf => by
    simp only [ars] at e
    obtain ⟨V, Vs', rfl, e2, e4⟩ := e
    simp only [List.all_cons, Bool.and_eq_true] at hf
    intro U hU
    rcases List.mem_cons.1 hU with rfl | hU
    · exact flat_one e2 hf.1
    · exact flats_one cs Vs' e4 hf.2 U hU
theorem reps_ars : ∀ (cs : List Dv) (Vs : List Value), reps h M cs Vs → ars G h M (cs.map .d) Vs
  | [], Vs, e => by simp only [reps] at e; simp [ars, e]
  | c :: cs, Vs, e => by
    simp only [reps] at e
    obtain ⟨V, Vs', rfl, e2, e3, e4⟩ := e
    simp only [List.map_cons, ars]
    exact ⟨V, Vs', rfl, e2, reps_ars cs Vs' e4⟩
/-- A value's cells, one by one. -/
theorem cells_ar {v : AV} {V : Value} (e : ar G h M v V) (hf : (v.cells.all AV.flat) = true) : ars G h M v.cells V.cells.toList ∧ ∀ U ∈ V.cells.toList, U.oneCell' = true := by
  have key : ars G h M v.cells V.cells.toList := by
    have one : ∀ {v : AV} {V : Value}, ar G h M v V → V.cells = #[V] → ars G h M [v] V.cells.toList := fun {v V} e hc => by
      rw [hc]; simp only [ars]; exact ⟨V, [], rfl, e, rfl⟩
    have cel1 : ∀ {V : Value}, V.oneCell' = true → V.cells = #[V] := fun {V} hV => by cases V <;> first | rfl | simp [Value.oneCell'] at hV
    cases v with
    | d x =>
      cases x with
      | agg cs =>
        simp only [ar, rep] at e
        obtain ⟨Vs, rfl, e2⟩ := e
        simpa [AV.cells, Value.cells] using reps_ars cs Vs e2
      | slc xs => exact one e (rep_one (by simpa [ar] using e) (by simp)).2
      | int k n => exact one e (rep_one (by simpa [ar] using e) (by simp)).2
      | bool b => exact one e (rep_one (by simpa [ar] using e) (by simp)).2
      | str b => exact one e (rep_one (by simpa [ar] using e) (by simp)).2
    | arr vs =>
      simp only [ar] at e
      obtain ⟨Vs, rfl, _, e2, _⟩ := e
      simpa [AV.cells, Value.cells] using e2
    | tup vs => simp [AV.cells, AV.flat] at hf
    | undef => simp [AV.cells, AV.flat] at hf
    | own t xs => exact one e (cel1 (flat_one e rfl))
    | clip xs => exact one e (cel1 (flat_one e rfl))
    | kn K xs => exact one e (cel1 (flat_one e rfl))
    | kp K d cs => exact one e (cel1 (flat_one e rfl))
    | hc i w xs => exact one e (cel1 (flat_one e rfl))
    | hown xs => simp [ar] at e
    | lref p o => exact one e (cel1 (flat_one e rfl))
    | href p o => exact one e (cel1 (flat_one e rfl))
    | eptr cs => exact one e (cel1 (flat_one e rfl))
    | fn f a b => exact one e (cel1 (flat_one e rfl))
    | yld i => exact one e (cel1 (flat_one e rfl))
    | iface t x => exact one e (cel1 (flat_one e rfl))
    | raw U => exact one e (cel1 (flat_one e (by simpa [AV.cells] using hf)))
  exact ⟨key, flats_one _ _ key hf⟩

/-- A literal. -/
theorem ofV_ar (V : Value) : ar G h M (ofV V) V := by
  unfold ofV
  split
  · simp [ar, rep]
  · simp [ar, rep]
  · simp [ar, rep]
  · simp only [ar, rep]; exact ⟨⟨none, 0, rfl, Nat.le_refl _, fun _ => rfl, fun _ h => by cases h⟩, none, rfl⟩
  · simp [ar]
theorem okL_append (a b : List AV) : okL (a ++ b) = (okL a && okL b) := by
  induction a with
  | nil => simp [okL]
  | cons x a ih => simp [okL, ih, Bool.and_assoc]
theorem okL_mem {l : List AV} (h : okL l = true) : ∀ x ∈ l, x.okA = true := by
  induction l with
  | nil => simp
  | cons y l ih =>
    simp only [okL, Bool.and_eq_true] at h
    intro x hx
    rcases List.mem_cons.1 hx with rfl | hx
    · exact h.1
    · exact ih h.2 x hx
theorem okL_of {l : List AV} (h : ∀ x ∈ l, x.okA = true) : okL l = true := by
  induction l with
  | nil => rfl
  | cons y l ih => simp only [okL, Bool.and_eq_true]; exact ⟨h y (by simp), ih fun x hx => h x (by simp [hx])⟩
end
end Go.Proofs.Ytmmhpmfgcenngaa
/-! Operations that leave the variables alone: what the interpreter says of them is what the machine does. -/
namespace Go.Proofs.Ytmmhpmfgcenngaa

theorem tsz_info {P : Program} {t n : Nat} (e : tsz P t = some n) : ∃ i, P.info? t = some i ∧ i.size = n := by
  simpa [tsz] using e
theorem tzr_info {P : Program} {t : Nat} {cs : List AV} (e : tzr P t = some cs) : ∃ i z, P.info? t = some i ∧ i.zero = some z ∧ cs = z.cells.toList.map ofV := by
  simp only [tzr, Option.map_eq_some_iff, Option.bind_eq_some_iff] at e
  obtain ⟨z, ⟨i, h1, h2⟩, rfl⟩ := e
  exact ⟨i, z, h1, h2, rfl⟩
theorem tslc_under {P : Program} {t e : Nat} (h : tslc P t = some e) : P.underlying t = some (.slice e) := by
  unfold tslc at h
  split at h
  · rename_i e' he; cases h; exact he
  · cases h
theorem tarr_under {P : Program} {t n e : Nat} (h : tarr P t = some (n, e)) : P.underlying t = some (.array n e) := by
  unfold tarr at h
  split at h
  · rename_i n' e' he; cases h; exact he
  · cases h
theorem tfld_under {P : Program} {s f off n t : Nat} (h : tfld P s f = some (off, n, t)) : ∃ fs fd, P.underlying s = some (.struct fs) ∧ fs[f]? = some fd ∧ fd.offset = off ∧ fd.type = t ∧ tsz P t = some n := by
  unfold tfld at h
  split at h
  · rename_i fs hfs
    simp only [Option.bind_eq_some_iff, Option.map_eq_some_iff] at h
    obtain ⟨fd, h1, m, h2, h3⟩ := h
    cases h3
    exact ⟨fs, fd, hfs, h1, rfl, rfl, h2⟩
  · cases h
theorem run_isAgg {P : Program} {t : Nat} {ag : Bool} (h : tag P t = some ag) (w : World) : (isAgg t).run P w = .ok ag w := by
  simp only [tag, Option.map_eq_some_iff] at h
  obtain ⟨d, h1, h2⟩ := h
  cases d <;> simp [isAgg, run_underlying h1] <;> simpa using h2
theorem run_sizeOf' {P : Program} {t n : Nat} (h : tsz P t = some n) (w : World) : (sizeOf t).run P w = .ok n w := by
  obtain ⟨i, h1, h2⟩ := tsz_info h
  simp [sizeOf, typeInfo, h1, h2]
theorem cell_cel (w : World) (b o : Nat) : w.cell? ⟨b, o, none⟩ = cel w.heap b o := by
  unfold World.cell? cel
  cases w.heap[b]? with
  | none => rfl
  | some x => cases x <;> rfl

/-- Reading cells that are told one by one. -/
theorem run_loadVar_cells {P : Program} {t n : Nat} {ag : Bool} (hs : tsz P t = some n) (ha : tag P t = some ag) (hn : ag = true ∨ n = 1) (w : World) (b o : Nat) (Vs : List Value) (hl : Vs.length = n)
    (hc : ∀ j v, Vs[j]? = some v → cel w.heap b (o + j) = some v) :
    (loadVar t ⟨b, o, none⟩).run P w = .ok (if ag then .agg Vs.toArray else Vs.headD default) w := by
  cases ag with
  | true =>
    have := run_loadCells_list (P := P) w ⟨b, o, none⟩ Vs (fun j v hj => by rw [Addr.add_lit, cell_cel]; exact hc j v hj)
    simp [loadVar, run_isAgg ha, run_sizeOf' hs, ← hl, this]
  | false =>
    obtain rfl : n = 1 := by simpa using hn
    match Vs, hl, hc with
    | [V], _, hc =>
      have h0 := hc 0 V rfl
      simp only [Nat.add_zero] at h0
      simp [loadVar, run_isAgg ha, cell_cel, h0]

theorem run_equalIn_bool {P : Program} {T : Nat} (hu : P.underlying T = some .bool) (a b : Bool) (w : World) (d : Nat) : (Op.equalIn (d + 1) T (.bool a) (.bool b)).run P w = .ok (a == b) w := by
  simp only [Op.equalIn, Sem.run_bind, run_underlying hu, Result.andThen_ok, Sem.run_pure]

section
variable {P : Program} {G : Gh} {M : Nat → Nat → Prop} {w : World} {ρ : Operand → AV} {ev : Operand → Value}

/-- The streams are as they were. -/
def Io (w w' : World) : Prop := w'.os = w.os ∧ w'.output = w.output
theorem Io.rfl {w : World} : Io w w := ⟨Eq.refl _, Eq.refl _⟩
theorem Io.trans {a b c : World} (h : Io a b) (k : Io b c) : Io a c := ⟨k.1.trans h.1, k.2.trans h.2⟩
/-- An object of which no cell is shut. -/
def nf (o : Obj) : Prop := ∀ c T f, o = .cells c T f → f = (0, 0)
theorem nf_cells (c : Array Value) (T : TypeId) : nf (.cells c T (0, 0)) := fun _ _ _ h => by cases h; rfl
/-- At most one block more. -/
def Ha (w w' : World) : Prop := Io w w' ∧ (w'.heap = w.heap ∨ ∃ o, nf o ∧ w'.heap = w.heap.push o)
theorem Ha.rfl {w : World} : Ha w w := ⟨Io.rfl, .inl (Eq.refl _)⟩
/-- What an operation that leaves the variables alone comes to. -/
def Quiet (P : Program) (G : Gh) (M : Nat → Nat → Prop) (w : World) (s : Sem Value) (v : AV) : Prop :=
  ∃ V w', s.run P w = .ok V w' ∧ Ha w w' ∧ ar G w'.heap M v V

theorem Quiet.same {s : Sem Value} {v : AV} {V : Value} (h : s.run P w = .ok V w) (e : ar G w.heap M v V) : Quiet P G M w s v := ⟨V, w, h, Ha.rfl, e⟩

theorem q_binOp (op : BinOp) (T : Nat) (x y : AV) (V U : Value) (v : AV) (hx : ar G w.heap M x V) (hy : ar G w.heap M y U) (xo yo : Operand) (h : binA P T op x y = some v) :
    Quiet P G M w (do eqGuard op T xo yo V U; binOp op T V U) v := by
  unfold binA at h
  split at h
  case h_9 a b =>
    simp only [ar, rep] at hx hy
    subst hx; subst hy
    split at h
    · rename_i hb
      cases h
      have hu : P.underlying T = some .bool := by
        simp only [tbool] at hb; split at hb <;> simp_all
      refine Quiet.same (V := .bool (a == b)) ?_ (by simp [ar, rep])
      simp [eqGuard, binOp, Op.equal, Op.maxDepth, run_equalIn_bool hu a b w 9999]
    · cases h
  case h_10 a b =>
    simp only [ar, rep] at hx hy
    subst hx; subst hy
    split at h
    · rename_i hb
      cases h
      have hu : P.underlying T = some .bool := by
        simp only [tbool] at hb; split at hb <;> simp_all
      refine Quiet.same (V := .bool (a != b)) ?_ (by simp [ar, rep])
      simp [eqGuard, binOp, Op.equal, Op.maxDepth, run_equalIn_bool hu a b w 9999, bne]
    · cases h
  case h_11 => cases h
  all_goals
    simp only [ar, rep] at hx hy
    subst hx; subst hy
    split at h
    · rename_i hk
      subst hk
      cases h
      first
        | (refine Quiet.same (V := .int _ _) ?_ (by simp only [ar, rep]; rfl); simp [eqGuard, binOp, Op.intArith]; done)
        | (refine Quiet.same (V := .bool _) ?_ (by simp only [ar, rep]; rfl); simp [eqGuard, binOp, Op.intCmp]; done)
    · cases h
end
end Go.Proofs.Ytmmhpmfgcenngaa
/-! Operations that leave the variables alone, second part. -/
namespace Go.Proofs.Ytmmhpmfgcenngaa
section
variable {P : Program} {G : Gh} {M : Nat → Nat → Prop} {w : World} {ρ : Operand → AV} {ev : Operand → Value}

theorem asInt_ar {x : AV} {V : Value} {k : IntKind} {n : Int} (e : ar G w.heap M x V) (hx : x = .d (.int k n)) : V = .int k n := by
  subst hx; simpa [ar, rep] using e

theorem q_fieldAddr (S f : Nat) (x : AV) (V : Value) (v : AV) (hx : ar G w.heap M x V) (h : (match tfld P S f with
    | some (off, n, _) => if 0 < n then (match x with
      | .lref p o => some (MA.val (.lref p (o + off)))
      | .href i o => some (.val (.href i (o + off)))
      | .eptr cs => if off ≤ cs.length then some (.val (.eptr (cs.drop off))) else none
      | .kp K d cs => if off ≤ cs.length then some (.val (.kp K (d + off) (cs.drop off))) else none
      | _ => none) else none
    | none => none) = some (.val v)) : Quiet P G M w (Instr.fieldAt S V f) v := by
  split at h
  · rename_i off n t ht
    obtain ⟨fs, fd, h1, h2, h3, h4, h5⟩ := tfld_under ht
    split at h
    · rename_i hn
      have key : ∀ b o, V = .pointer (some ⟨b, o, none⟩) → (Instr.fieldAt S V f).run P w = .ok (.pointer (some ⟨b, o + off, none⟩)) w := by
        rintro b o rfl
        subst h4; subst h3
        have hne : n ≠ 0 := by omega
        simp [Instr.fieldAt, run_underlying h1, h2, Instr.sureAddr, fieldPlace, run_sizeOf' h5, hne, Addr.add_lit]
      split at h
      · simp only [ar] at hx
        obtain ⟨b, e1, e2⟩ := hx
        cases h
        exact .same (key _ _ e2) (by simp only [ar]; exact ⟨b, e1, rfl⟩)
      · simp only [ar] at hx
        obtain ⟨b, e1, e2⟩ := hx
        cases h
        exact .same (key _ _ e2) (by simp only [ar]; exact ⟨b, e1, rfl⟩)
      · rename_i cs
        split at h
        · rename_i hle
          simp only [ar] at hx
          obtain ⟨b, o, Vs, e1, e2, e3⟩ := hx
          cases h
          refine .same (key _ _ e1) ?_
          simp only [ar]
          refine ⟨b, o + off, Vs.drop off, rfl, reps_drop off cs Vs e2, fun j u hj => ?_⟩
          rw [List.getElem?_drop] at hj
          have := e3 (off + j) u hj
          rw [show o + off + j = o + (off + j) by omega]
          exact this
        · cases h
      · rename_i K d cs
        split at h
        · rename_i hle
          simp only [ar] at hx
          obtain ⟨⟨b, o, Vs, e1, e2, e3⟩, b', o', n', c', k1, k2, k3⟩ := hx
          cases h
          refine .same (key _ _ e1) ?_
          simp only [ar]
          refine ⟨⟨b, o + off, Vs.drop off, rfl, reps_drop off cs Vs e2, fun j u hj => ?_⟩, b', o', n', c', k1, k2, ?_⟩
          · rw [List.getElem?_drop] at hj
            have := e3 (off + j) u hj
            rw [show o + off + j = o + (off + j) by omega]
            exact this
          · rw [e1] at k3
            simp only [Value.pointer.injEq, Option.some.injEq, Addr.mk.injEq] at k3
            obtain ⟨rfl, rfl, _⟩ := k3
            rw [Nat.add_assoc]
        · cases h
      · cases h
    · cases h
  · cases h

theorem run_part {t : Nat} {ag : Bool} {n : Nat} (hs : tsz P t = some n) (ha : tag P t = some ag) (cs : Array Value) (off : Nat) (V : Value)
    (hV : if ag then V = .agg (cs.extract off (off + n)) else cs[off]? = some V) : (part t cs off).run P w = .ok V w := by
  cases ag with
  | true => simp at hV; subst hV; simp [part, run_isAgg ha, run_sizeOf' hs]
  | false => simp at hV; simp [part, run_isAgg ha, hV]

theorem q_field (S f : Nat) (x : AV) (V : Value) (v : AV) (hx : ar G w.heap M x V) (h : (match tfld P S f, x with
    | some (off, n, t), .d (.agg cs) => if off + n ≤ cs.length then (match tag P t with
      | some true => some (MA.val (.d (.agg ((cs.drop off).take n))))
      | some false => (cs[off]?).map fun x => .val (.d x)
      | none => none) else none
    | _, _ => none) = some (.val v)) : Quiet P G M w (Instr.field S V f) v := by
  split at h
  · rename_i off n t cs ht
    obtain ⟨fs, fd, h1, h2, h3, h4, h5⟩ := tfld_under ht
    split at h
    · rename_i hle
      simp only [ar, rep] at hx
      obtain ⟨Vs, rfl, e⟩ := hx
      subst h4; subst h3
      split at h
      · rename_i ha
        cases h
        refine .same (V := .agg (Vs.toArray.extract fd.offset (fd.offset + n))) ?_ ?_
        · simp [Instr.field, run_underlying h1, h2, asAgg, run_part h5 ha]
        · simp only [ar, rep]
          refine ⟨(Vs.drop fd.offset).take n, ?_, reps_take n _ _ (reps_drop fd.offset cs Vs e)⟩
          simp
      · rename_i ha
        simp only [Option.map_eq_some_iff] at h
        obtain ⟨y, hy, hv⟩ := h
        cases hv
        obtain ⟨U, hU, hr⟩ := reps_get cs Vs e _ _ hy
        refine .same (V := U) ?_ (by simpa [ar] using hr)
        have hp : (part fd.type Vs.toArray fd.offset).run P w = .ok U w := run_part h5 ha _ _ _ (by simpa using hU)
        simp [Instr.field, run_underlying h1, h2, asAgg, hp]
      · cases h
    · cases h
  · cases h

theorem q_index (E : List Nat) (dst : Option Nat) (T : Nat) (xo io : Operand) (v : AV) (hρ : ∀ x, ar G w.heap M (ρ x) (ev x)) (h : decode P E dst ρ (.indexAddr T xo io) = some (.val v)) : Quiet P G M w (Instr.indexAt T (ev xo) (ev io)) v := by
  simp only [decode] at h
  have hx := hρ xo
  have hi := hρ io
  generalize ρ xo = x at h hx
  generalize ρ io = i at h hi
  generalize ev xo = V at hx ⊢
  generalize ev io = I at hi ⊢
  split at h
  · rename_i k n
    obtain rfl := asInt_ar hi rfl
    split at h
    · rename_i hn
      split at h
      · rename_i e xs ht hs
        split at h
        · rename_i sz y hsz hy
          split at h
          · rename_i hw
            cases h
            have hr := sl_rep hx hs
            simp only [rep] at hr
            obtain ⟨A, c, rfl, hc1, hc2, hc3⟩ := hr
            have hlt : n.toNat < xs.length := by
              rcases Nat.lt_or_ge n.toNat xs.length with h | h
              · exact h
              · simp [List.getElem?_eq_none h] at hy
            cases A with
            | none => have := hc2 rfl; omega
            | some ad =>
              obtain ⟨hsp, sz', hrows⟩ := (hc3 ad rfl).resolve_left (by rintro rfl; simp at hlt)
              obtain ⟨U, u1, u2, u3⟩ := rows_get xs _ _ hrows _ _ hy
              have hszeq : sz' = sz := by rw [← u2, rep_width u1, hw]
              subst hszeq
              have had : ad = ⟨ad.block, ad.off, none⟩ := by cases ad; simp_all
              refine .same (V := .pointer (some ⟨ad.block, ad.off + n.toNat * sz', none⟩)) ?_ ?_
              · have hlen : n < (xs.length : Int) := by omega
                simp only [Instr.indexAt, Sem.run_bind, asIntOf, Sem.run_pure, Result.andThen_ok, run_underlying (tslc_under ht)]
                simp only [hn, hlen, and_self, if_true, Sem.run_bind, run_sizeOf' hsz, Result.andThen_ok, Sem.run_pure]
                rw [had, Addr.add_lit]
              · have hep : ar G w.heap M (.eptr y.cells) (.pointer (some ⟨ad.block, ad.off + n.toNat * sz', none⟩)) := by
                  simp only [ar]
                  exact ⟨_, _, _, rfl, rep_cells u1, fun j u hj => u3 j u (by simpa using hj)⟩
                cases x with
                | kn K ys =>
                  simp only [eAt, ar] at hep hx ⊢
                  exact ⟨hep, ad.block, ad.off, _, _, by rw [← had]; exact hx.2, by omega, rfl⟩
                | _ => exact hep
          · cases h
        · cases h
      · split at h
        · rename_i len e p off ht _
          split at h
          · rename_i sz hsz
            split at h
            · rename_i hlt
              cases h
              simp only [ar] at hx
              obtain ⟨b, e1, rfl⟩ := hx
              refine .same (V := .pointer (some ⟨b, off + n.toNat * sz, none⟩)) ?_ (by simp only [ar]; exact ⟨b, e1, rfl⟩)
              have hlen : n < (len : Int) := by omega
              simp only [Instr.indexAt, Sem.run_bind, asIntOf, Sem.run_pure, Result.andThen_ok, run_underlying (tarr_under ht), Instr.sureAddr]
              simp only [hn, hlen, and_self, if_true, Sem.run_bind, run_sizeOf' hsz, Result.andThen_ok, Sem.run_pure, Addr.add_lit]
            · cases h
          · cases h
        · cases h
    · cases h
  · cases h

theorem run_bound {V : Value} {k : IntKind} {n : Int} (hV : V = .int k n) (y : Nat) (h0 : 0 ≤ n) (h1 : n.toNat ≤ y) (code : BoundsCode) : (Instr.sliceBound V y code).run P w = .ok n.toNat w := by
  subst hV
  have : n ≤ (y : Int) := by omega
  simp [Instr.sliceBound, asIntOf, h0, this]

theorem slB_some (hρ : ∀ x, ar G w.heap M (ρ x) (ev x)) {d l : Nat} {o : Option Operand} (h : slB ρ d o = some l) :
    (o = none ∧ l = d) ∨ ∃ x k n, o = some x ∧ ev x = .int k n ∧ 0 ≤ n ∧ l = n.toNat := by
  cases o with
  | none => simp [slB] at h; exact .inl ⟨rfl, h.symm⟩
  | some x =>
    refine .inr ?_
    simp only [slB] at h
    cases hx : ρ x with
    | d y =>
      cases y with
      | int k n =>
        simp only [hx] at h
        split at h
        · rename_i hn
          cases h
          exact ⟨x, k, n, rfl, asInt_ar (hρ x) hx, hn, rfl⟩
        · cases h
      | _ => simp [hx] at h
    | _ => simp [hx] at h

theorem rep_sub {xs : List Dv} {A : Option Addr} {c l hh sz m : Nat} (hle : l ≤ hh) (hlh : hh ≤ xs.length) (hw : (xs.all fun x => x.width == sz) = true) (hm : hh ≤ m) (hmc : m ≤ c)
    (hr : rep w.heap M (.slc xs) (.slice A xs.length c)) :
    rep w.heap M (.slc ((xs.take hh).drop l)) (.slice (if m = l then A else A.map (·.add (l * sz))) (hh - l) (m - l)) := by
  simp only [rep] at hr ⊢
  obtain ⟨A', c', e, h1, h2, h3⟩ := hr
  simp only [Value.slice.injEq] at e
  obtain ⟨rfl, _, rfl⟩ := e
  have hlen : ((xs.take hh).drop l).length = hh - l := by simp; omega
  refine ⟨_, m - l, by rw [hlen], by rw [hlen]; omega, ?_, ?_⟩
  · intro hn
    cases A with
    | none => have := h2 rfl; omega
    | some ad => split at hn <;> simp at hn
  · intro ad had
    cases A with
    | none => split at had <;> simp at had
    | some a0 =>
      rcases h3 a0 rfl with hnil | ⟨hsp, sz', hrows⟩
      · exact .inl (by rw [hnil]; simp)
      have ha0 : a0 = ⟨a0.block, a0.off, none⟩ := by cases a0; simp_all
      split at had
      · cases had
        rename_i hml
        have : (xs.take hh).drop l = [] := by
          apply List.eq_nil_of_length_eq_zero; rw [hlen]; omega
        exact .inl this
      · simp only [Option.map_some, Option.some.injEq] at had
        subst had
        rw [ha0, Addr.add_lit]
        refine .inr ⟨rfl, sz', ?_⟩
        by_cases hx : xs = []
        · subst hx; simp [rows]
        · obtain rfl := rows_size hrows hx hw
          exact rows_drop l _ _ _ (rows_take hh _ _ _ hrows)

theorem q_slice (hρ : ∀ x, ar G w.heap M (ρ x) (ev x)) (T : Nat) (x : Operand) (lo hi mx : Option Operand) (v : AV) (h : (match tslc P T, (ρ x).sl with
    | some e, some xs => match tsz P e, slB ρ 0 lo, slB ρ xs.length hi with
      | some sz, some l, some h => if l ≤ h ∧ h ≤ xs.length ∧ (xs.all fun x => x.width == sz) then (match mx with
        | none => some (MA.val (.d (.slc ((xs.take h).drop l))))
        | some _ => if slB ρ 0 mx = some h ∧ hi.isSome then some (.val (.clip ((xs.take h).drop l))) else none) else none
      | _, _, _ => none
    | _, _ => none) = some (.val v)) : Quiet P G M w (Instr.sliceAt T (ev x) (lo.map ev) (hi.map ev) (mx.map ev)) v := by
  split at h
  · rename_i e xs ht hs
    split at h
    · rename_i sz l hh hsz hlo hhi
      split at h
      · rename_i hc
        obtain ⟨hc1, hc2, hc3⟩ := hc
        have hr := sl_rep (hρ x) hs
        have hr' := hr
        simp only [rep] at hr'
        obtain ⟨A, c, hV, hc, _, _⟩ := hr'
        rw [hV] at hr ⊢
        have hu := tslc_under ht
        have bl := slB_some hρ hlo
        have bh := slB_some hρ hhi
        split at h
        · cases h
          refine .same (V := .slice (if c = l then A else A.map (·.add (l * sz))) (hh - l) (c - l)) ?_ ?_
          · have hb : (Instr.sliceBounds true xs.length c (lo.map ev) (hi.map ev) none).run P w = .ok (l, hh, c) w := by
              rcases bh with ⟨rfl, rfl⟩ | ⟨y, k, n, rfl, hy, hn, rfl⟩
              · rcases bl with ⟨rfl, rfl⟩ | ⟨y', k', n', rfl, hy', hn', rfl⟩
                · simp [Instr.sliceBounds]
                · simp [Instr.sliceBounds, run_bound hy' _ hn' hc1]
              · rcases bl with ⟨rfl, rfl⟩ | ⟨y', k', n', rfl, hy', hn', rfl⟩
                · simp [Instr.sliceBounds, run_bound hy _ hn (Nat.le_trans hc2 hc)]
                · simp [Instr.sliceBounds, run_bound hy _ hn (Nat.le_trans hc2 hc), run_bound hy' _ hn' hc1]
            simp [Instr.sliceAt, Instr.slice, run_underlying hu, hb, run_sizeOf' hsz]
          · simp only [ar]
            exact rep_sub hc1 hc2 hc3 (Nat.le_trans hc2 hc) (Nat.le_refl _) hr
        · rename_i mo
          split at h
          · rename_i hm
            obtain ⟨hm1, hm2⟩ := hm
            cases h
            have bm := slB_some hρ hm1
            refine .same (V := .slice (if hh = l then A else A.map (·.add (l * sz))) (hh - l) (hh - l)) ?_ ?_
            · have hb : (Instr.sliceBounds true xs.length c (lo.map ev) (hi.map ev) (some (ev mo))).run P w = .ok (l, hh, hh) w := by
                rcases bm with ⟨hno, _⟩ | ⟨y2, k2, n2, hmo, hy2, hn2, hh2⟩
                · cases hno
                · obtain rfl : mo = y2 := by simpa using hmo
                  rcases bh with ⟨rfl, rfl⟩ | ⟨y, k, n, rfl, hy, hn, hhn⟩
                  · simp at hm2
                  · have e1 := run_bound (P := P) (w := w) hy2 c hn2 (by omega) .slice3Acap
                    have e2 := run_bound (P := P) (w := w) hy hh hn (by omega) .slice3B
                    rw [← hh2] at e1
                    rw [← hhn] at e2
                    rcases bl with ⟨rfl, rfl⟩ | ⟨y', k', n', rfl, hy', hn', rfl⟩
                    · simp [Instr.sliceBounds, e1, e2]
                    · simp [Instr.sliceBounds, e1, e2, run_bound hy' _ hn' hc1]
              simp only [Option.map_some] at hb ⊢
              simp [Instr.sliceAt, Instr.slice, run_underlying hu, hb, run_sizeOf' hsz]
            · simp only [ar]
              have hlen : ((xs.take hh).drop l).length = hh - l := by simp; omega
              exact ⟨rep_sub hc1 hc2 hc3 (Nat.le_refl _) (Nat.le_trans hc2 hc) hr, _, by rw [hlen]⟩
          · cases h
      · cases h
    · cases h
  · cases h
end
end Go.Proofs.Ytmmhpmfgcenngaa
/-! Operations that leave the variables alone, third part: structs and slices that are made. -/
namespace Go.Proofs.Ytmmhpmfgcenngaa
section
variable {P : Program} {G : Gh} {M : Nat → Nat → Prop} {w : World} {ρ : Operand → AV} {ev : Operand → Value}

theorem foldl_set : ∀ (vs : List Value) (k off : Nat) (cells : Array Value), off + k + vs.length ≤ cells.size →
    ((vs.zipIdx k).foldl (fun cs (x : Value × Nat) => cs.setIfInBounds (off + x.2) x.1) cells).toList = splice cells.toList (off + k) vs
  | [], k, off, cells, h => by simp [splice]
  | v :: vs, k, off, cells, h => by
    simp only [List.length_cons] at h
    rw [List.zipIdx_cons, List.foldl_cons, foldl_set vs (k + 1) off _ (by simp; omega)]
    unfold splice
    apply List.ext_getElem?
    intro i
    simp only [Array.toList_setIfInBounds, List.getElem?_append, List.length_append, List.length_take, List.length_set, Array.length_toList, List.getElem?_take, List.getElem?_drop, List.getElem?_set, List.length_cons]
    by_cases h1 : i < off + k
    · simp [h1, show i < off + (k + 1) by omega, show min (off + (k + 1)) cells.size = off + (k + 1) by omega, show min (off + k) cells.size = off + k by omega, show ¬ off + k = i by omega, show i < off + k + (vs.length + 1) by omega, show i < off + (k + 1) + vs.length by omega]
    · by_cases h2 : i = off + k
      · subst h2
        simp [show min (off + (k + 1)) cells.size = off + (k + 1) by omega, show min (off + k) cells.size = off + k by omega, show off + k < off + (k + 1) by omega, show off + k < cells.size by omega, show off + k < off + (k + 1) + vs.length by omega]
      · by_cases h3 : i < off + (k + 1) + vs.length
        · simp [show min (off + (k + 1)) cells.size = off + (k + 1) by omega, show min (off + k) cells.size = off + k by omega, h1, show ¬ i < off + (k + 1) by omega, h3, show i < off + k + (vs.length + 1) by omega, show i - (off + k) = (i - (off + (k + 1))) + 1 by omega]
        · simp [show min (off + (k + 1)) cells.size = off + (k + 1) by omega, show min (off + k) cells.size = off + k by omega, h3, show ¬ i < off + k + (vs.length + 1) by omega]
          have e1 : off + k + (vs.length + 1) + (i - (off + k + (vs.length + 1))) = i := by omega
          have e2 : off + (k + 1) + vs.length + (i - (off + (k + 1) + vs.length)) = i := by omega
          rw [e1, e2]
          simp [show ¬ off + k = i by omega]

theorem splice_length {α : Type} (cs : List α) (off : Nat) (vs : List α) (h : off + vs.length ≤ cs.length) : (splice cs off vs).length = cs.length := by
  simp [splice]; omega

/-- Each of some parts, related. -/
def PR (G : Gh) (h : Array Obj) (M : Nat → Nat → Prop) : List (Nat × AV) → List (Nat × Value) → Prop
  | [], Q => Q = []
  | (i, v) :: ps, Q => ∃ V Q', Q = (i, V) :: Q' ∧ ar G h M v V ∧ PR G h M ps Q'
theorem PR_map (hρ : ∀ x, ar G w.heap M (ρ x) (ev x)) (l : List (Nat × Operand)) : PR G w.heap M (l.map fun x => (x.1, ρ x.2)) (l.map fun x => (x.1, ev x.2)) := by
  induction l with
  | nil => rfl
  | cons x l ih => simp only [List.map_cons, PR]; exact ⟨_, _, rfl, hρ _, ih⟩

theorem fill_sound (pl : Nat → Option (Nat × Nat)) : ∀ (ps : List (Nat × AV)) (Q : List (Nat × Value)) (cs cs' : List AV) (Cs : List Value),
    PR G w.heap M ps Q → ars G w.heap M cs Cs → fillA pl cs ps = some cs' → ∃ Cs', ars G w.heap M cs' Cs' ∧ ∀ pl' : Nat → Option (Nat × Nat), (∀ i x, pl i = some x → pl' i = some x) → Instr.fill pl' Cs.toArray Q = some Cs'.toArray
  | [], Q, cs, cs', Cs, hp, hc, hf => by
    simp only [PR] at hp; subst hp
    simp [fillA] at hf; subst hf
    exact ⟨Cs, hc, fun pl' _ => by simp [Instr.fill]⟩
  | (i, v) :: ps, Q, cs, cs', Cs, hp, hc, hf => by
    simp only [PR] at hp
    obtain ⟨V, Q', rfl, hv, hq⟩ := hp
    simp only [fillA] at hf
    split at hf
    · rename_i off n hpi
      split at hf
      · rename_i hcond
        obtain ⟨h1, h2, h3⟩ := hcond
        have hcl := cells_ar hv h3
        have hlen := ars_length _ _ hcl.1
        have hclen := ars_length _ _ hc
        have hVs : V.cells.size = n := by simpa [h1] using hlen
        obtain ⟨Cs', k2, k1⟩ := fill_sound pl ps Q' _ cs' (splice Cs off V.cells.toList) hq (ars_splice off hc hcl.1) hf
        refine ⟨Cs', k2, fun pl' hpl => ?_⟩
        have hfold := foldl_set V.cells.toList 0 off Cs.toArray (by simp; omega)
        simp only [Instr.fill, hpl i _ hpi]
        have hno : ¬ ((V.cells.size != n || decide (off + V.cells.size > Cs.toArray.size)) = true) := by simp; omega
        simp only [ne_eq, decide_not, Bool.or_eq_true, Bool.not_eq_eq_eq_not, Bool.not_true, decide_eq_false_iff_not, decide_eq_true_eq] at hno ⊢
        rw [if_neg (by simp at hno ⊢; omega)]
        rw [← k1 pl' hpl]
        congr 1
        apply Array.ext'
        rw [← Array.foldl_toList, Array.toList_zipIdx]
        simpa using hfold
      · cases hf
    · cases hf

theorem place_built {T : Nat} (hb : tbld P T = true) {z : Value} {i : TypeInfo} (hi : P.info? T = some i) (hz : i.zero = some z) (Q : List (Nat × Value)) (Cs' : Array Value)
    (hf : ∀ pl' : Nat → Option (Nat × Nat), (∀ i x, place P T i = some x → pl' i = some x) → Instr.fill pl' z.cells Q = some Cs') : P.built T Q = some Cs' := by
  unfold Program.built
  unfold tbld at hb
  split at hb
  · rename_i fs hfs
    have hall : ∀ f ∈ fs.toList, (tsz P f.type).isSome = true := List.all_eq_true.1 hb
    simp only [hi, hfs, hz]
    have hm : fs.toList.mapM (fun f => (P.info? f.type).map fun i => (f.offset, i.size)) = some (fs.toList.map fun f => (f.offset, ((tsz P f.type).getD 0))) := by
      generalize fs.toList = l at hall
      induction l with
      | nil => rfl
      | cons f l ih =>
        have hf := hall f (by simp)
        simp only [tsz, Option.isSome_map] at hf
        obtain ⟨i', hi'⟩ := Option.isSome_iff_exists.1 hf
        simp [List.mapM_cons, hi', ih (fun g hg => hall g (by simp [hg])), tsz]
    rw [hm]
    refine hf _ fun j x hx => ?_
    unfold place at hx
    simp only [hfs, Option.map_eq_some_iff, tfld, Option.bind_eq_some_iff] at hx
    obtain ⟨y, ⟨fd, h1, m, h2, rfl⟩, rfl⟩ := hx
    have : fs.toList[j]? = some fd := by simpa using h1
    simp [this, h2]
  · rename_i n e he
    obtain ⟨s, hs⟩ := Option.isSome_iff_exists.1 hb
    obtain ⟨ie, h1, rfl⟩ := tsz_info hs
    simp only [hi, he, hz, h1]
    refine hf _ fun j x hx => ?_
    unfold place at hx
    simp only [he, hs, Option.map_some] at hx
    simpa using hx
  · cases hb

theorem q_build (hρ : ∀ x, ar G w.heap M (ρ x) (ev x)) (T : Nat) (parts : Array (Nat × Operand)) (v : AV) (h : (match tbld P T, tzr P T with
    | true, some cs => (fillA (place P T) cs (parts.toList.map fun x => (x.1, ρ x.2))).bind fun cs' => if okL cs' ∧ (cs'.all AV.flat) then some (MA.val (aggN (nilLeft (place P T) cs (parts.toList.map fun x => x.1)) cs')) else none
    | _, _ => none) = some (.val v)) : Quiet P G M w (Instr.build T (parts.map fun x => (x.1, ev x.2))) v := by
  split at h
  · rename_i cs hb hz0
    simp only [Option.bind_eq_some_iff] at h
    obtain ⟨cs', hf, h⟩ := h
    split at h
    · rename_i hc
      cases h
      obtain ⟨i, z, hi, hz, rfl⟩ := tzr_info hz0
      have h0 : ars G w.heap M (z.cells.toList.map ofV) z.cells.toList := by
        have := ars_map (G := G) (h := w.heap) (M := M) ofV id z.cells.toList (fun x _ => ofV_ar x)
        simpa using this
      obtain ⟨Cs', ha, hk⟩ := fill_sound (place P T) _ _ _ cs' _ (PR_map hρ parts.toList) h0 hf
      have hbuilt : P.built T (parts.map fun x => (x.1, ev x.2)).toList = some Cs'.toArray :=
        place_built hb hi hz _ _ (fun pl' hpl' => by simpa using hk pl' hpl')
      exact .same (run_build w T _ _ hbuilt) (aggN_ar ha (flats_one _ _ ha hc.2) hc.1)
    · cases h
  · cases h

/-- The elements of a literal slice, one behind the other. -/
theorem bsl_sound {sz : Nat} : ∀ (ps : List (Nat × AV)) (Q : List (Nat × Value)) (j : Nat) (xs : List Dv) (Cs : List Value), PR G w.heap M ps Q → bsl sz j ps = some xs → Cs.length = (j + ps.length) * sz →
    ∃ Us : List Value, Us.length = xs.length ∧ xs.length = ps.length ∧ (∀ (k : Nat) (x : Dv), xs[k]? = some x → ∃ U, Us[k]? = some U ∧ rep w.heap M x U ∧ U.cells.size = sz) ∧
      Instr.fill (fun i => some (i * sz, sz)) Cs.toArray Q = some (Cs.take (j * sz) ++ (Us.map fun U => U.cells.toList).flatten).toArray
  | [], Q, j, xs, Cs, hp, hb, hl => by
    simp only [PR] at hp; subst hp
    simp [bsl] at hb; subst hb
    refine ⟨[], rfl, rfl, by simp, ?_⟩
    have : Cs.take (j * sz) = Cs := List.take_of_length_le (by simp at hl; omega)
    simp [Instr.fill, this]
  | (i, v) :: ps, Q, j, xs, Cs, hp, hb, hl => by
    simp only [PR] at hp
    obtain ⟨V, Q', rfl, hv, hq⟩ := hp
    simp only [bsl] at hb
    split at hb
    · rename_i x ys hx hys
      split at hb
      · rename_i hc
        obtain ⟨rfl, hw⟩ := hc
        cases hb
        have hr := eraseDv_rep hv hx
        have hVs : V.cells.size = sz := by rw [rep_width hr, hw]
        have hlen : (i + (ps.length + 1)) * sz = i * sz + sz + ps.length * sz := by rw [Nat.add_mul, Nat.add_mul]; omega
        simp only [List.length_cons] at hl
        have hspl := splice_length Cs (i * sz) V.cells.toList (by simp; omega)
        obtain ⟨Us, u1, u2, u3, u4⟩ := bsl_sound ps Q' (i + 1) ys (splice Cs (i * sz) V.cells.toList) hq hys (by rw [hspl, hl]; congr 1; omega)
        refine ⟨V :: Us, by simp [u1], by simp [u2], ?_, ?_⟩
        · intro k y hy
          cases k with
          | zero => obtain rfl : x = y := by simpa using hy
                    exact ⟨V, rfl, hr, hVs⟩
          | succ k => exact u3 k y (by simpa using hy)
        · have hfold := foldl_set V.cells.toList 0 (i * sz) Cs.toArray (by simp; omega)
          simp only [Instr.fill]
          rw [if_neg (by simp; omega)]
          rw [show (V.cells.zipIdx.foldl (fun cs x => match x with | (c, j) => cs.setIfInBounds (i * sz + j) c) Cs.toArray) = (splice Cs (i * sz) V.cells.toList).toArray by
            apply Array.ext'
            rw [← Array.foldl_toList, Array.toList_zipIdx]
            simpa using hfold]
          rw [u4]
          congr 2
          simp only [List.map_cons, List.flatten_cons, ← List.append_assoc]
          congr 1
          unfold splice
          exact List.take_left' (by simp [Nat.succ_mul]; omega)
      · cases hb
    · cases hb
end
end Go.Proofs.Ytmmhpmfgcenngaa
/-! Operations that leave the variables alone, last part: all of them. -/
namespace Go.Proofs.Ytmmhpmfgcenngaa
theorem cel_push (h : Array Obj) (o : Obj) (b j : Nat) (hb : b < h.size) : cel (h.push o) b j = cel h b j := by
  unfold cel
  rw [Array.getElem?_push_lt hb, ← Array.getElem?_eq_getElem hb]
theorem cel_new (h : Array Obj) (cs : Array Value) (T : Nat) (f : Nat × Nat) (j : Nat) : cel (h.push (.cells cs T f)) h.size j = cs[j]? := by
  unfold cel
  simp
theorem cel_lt {h : Array Obj} {b j : Nat} {v : Value} (e : cel h b j = some v) : b < h.size := by
  rcases Nat.lt_or_ge b h.size with hb | hb
  · exact hb
  · simp [cel, Array.getElem?_eq_none hb] at e
theorem Stay_push (h : Array Obj) (M : Nat → Nat → Prop) (o : Obj) : Stay h M (h.push o) M := fun b j v e n =>
  ⟨by rw [cel_push h o b j (cel_lt e)]; exact e, n⟩

theorem rows_of {h : Array Obj} {M : Nat → Nat → Prop} {sz b : Nat} : ∀ (xs : List Dv) (Us : List Value) (o : Nat), Us.length = xs.length →
    (∀ (k : Nat) (x : Dv), xs[k]? = some x → ∃ U, Us[k]? = some U ∧ rep h M x U ∧ U.cells.size = sz) →
    (∀ (j : Nat) (v : Value), (Us.map fun U => U.cells.toList).flatten[j]? = some v → cel h b (o + j) = some v ∧ ¬ M b (o + j)) → rows h M sz xs b o
  | [], _, _, _, _, _ => by simp [rows]
  | x :: xs, [], _, hl, _, _ => by simp at hl
  | x :: xs, U :: Us, o, hl, hr, hc => by
    obtain ⟨U', e1, e2, e3⟩ := hr 0 x rfl
    obtain rfl : U = U' := by simpa using e1
    simp only [rows]
    refine ⟨⟨U, e2, e3, fun j v hj => hc j v ?_⟩, rows_of xs Us (o + sz) (by simpa using hl) (fun k y hy => hr (k + 1) y (by simpa using hy)) (fun j v hj => ?_)⟩
    · have hjl : j < U.cells.toList.length := by
        rcases Nat.lt_or_ge j U.cells.size with h | h
        · simpa using h
        · simp [Array.getElem?_eq_none h] at hj
      rw [List.map_cons, List.flatten_cons, List.getElem?_append_left hjl]
      simpa using hj
    · have := hc (sz + j) v (by
        rw [List.map_cons, List.flatten_cons, List.getElem?_append_right (by simp; omega)]
        rw [show sz + j - U.cells.toList.length = j by simp; omega]
        exact hj)
      rw [show o + sz + j = o + (sz + j) by omega]
      exact this

section
variable {P : Program} {G : Gh} {M : Nat → Nat → Prop} {w : World} {ρ : Operand → AV} {ev : Operand → Value}

theorem q_bslice (hρ : ∀ x, ar G w.heap M (ρ x) (ev x)) (hM : ∀ off, ¬ M w.heap.size off) (T n : Nat) (parts : Array (Nat × Operand)) (v : AV) (h : (match tslc P T with
    | some e => match tsz P e, tzr P e with
      | some sz, some z => if n = parts.size ∧ n * sz ≤ 16777216 ∧ 0 < sz ∧ z.length = sz then (bsl sz 0 (parts.toList.map fun x => (x.1, ρ x.2))).map fun xs => MA.val (.d (.slc xs)) else none
      | _, _ => none
    | none => none) = some (.val v)) : Quiet P G M w (Instr.buildSlice T n (parts.map fun x => (x.1, ev x.2))) v := by
  split at h
  · rename_i e ht
    split at h
    · rename_i sz z hsz hz0
      split at h
      · rename_i hc
        obtain ⟨hc1, hc2, hc3, hc4⟩ := hc
        simp only [Option.map_eq_some_iff] at h
        obtain ⟨xs, hxs, hv⟩ := h
        cases hv
        obtain ⟨i, z', hi, hz, rfl⟩ := tzr_info hz0
        have hu := tslc_under ht
        let Cs : List Value := ((Array.range (n * sz)).map fun i => (if n * sz = 0 then #[] else z'.cells)[i % (if n * sz = 0 then #[] else z'.cells).size]!).toList
        have hCs : Cs.length = (0 + (parts.toList.map fun x => (x.1, ρ x.2)).length) * sz := by simp [Cs, hc1]
        obtain ⟨Us, u1, u2, u3, u4⟩ := bsl_sound _ _ 0 xs Cs (PR_map hρ parts.toList) hxs hCs
        simp only [Nat.zero_mul, List.take_zero, List.nil_append] at u4
        have hxn : xs.length = n := by rw [u2]; simp [hc1]
        let row := (Us.map fun U => U.cells.toList).flatten.toArray
        refine ⟨.slice (some ⟨w.heap.size, 0, none⟩) n n, { w with heap := w.heap.push (.cells row e) }, ?_, ⟨⟨rfl, rfl⟩, .inr ⟨_, nf_cells _ _, rfl⟩⟩, ?_⟩
        · have hle : ¬ (n * sz > 2 ^ 24) := by omega
          have hCs' : ((Array.range (n * sz)).map fun i => (if n * sz = 0 then #[] else z'.cells)[i % (if n * sz = 0 then #[] else z'.cells).size]!) = Cs.toArray := by simp only [Cs, Array.toArray_toList]
          have u4' : Instr.fill (fun i => some (i * sz, sz)) Cs.toArray (parts.map fun x => (x.1, ev x.2)).toList = some row := by simpa [row] using u4
          by_cases h0 : n * sz = 0
          · simp only [h0, if_true] at hCs'
            simp only [Instr.buildSlice, Sem.run_bind, run_underlying hu, Result.andThen_ok, run_sizeOf' hsz, if_false, h0, show ¬ (0 > 2 ^ 24) by omega, if_true, Sem.run_pure, hCs', u4', newRow, run_newObj]
          · simp only [h0, if_false] at hCs'
            simp only [Instr.buildSlice, Sem.run_bind, run_underlying hu, Result.andThen_ok, run_sizeOf' hsz, hle, if_false, h0, Sem.run_pure, zeroValue, typeInfo, run_program, hi, hz, hCs', u4', newRow, run_newObj]
        · simp only [ar, rep]
          refine ⟨_, n, by rw [hxn], by omega, by simp, fun ad had => ?_⟩
          cases had
          refine .inr ⟨rfl, sz, rows_of xs Us 0 u1 (fun k x hx => ?_) (fun j v hj => ?_)⟩
          · obtain ⟨U, a1, a2, a3⟩ := u3 k x hx
            exact ⟨U, a1, rep_stay (Stay_push w.heap M _) x U a2, a3⟩
          · refine ⟨?_, hM _⟩
            rw [cel_new]
            simpa [row] using hj
      · cases h
    · cases h
  · cases h

theorem ofV_int_inv {y : Value} {k : IntKind} {z : Int} (h : AV.d (.int k z) = ofV y) : y = .int k z := by
  unfold ofV at h
  split at h <;> simp_all
theorem q_make (hρ : ∀ x, ar G w.heap M (ρ x) (ev x)) (hM : ∀ off, ¬ M w.heap.size off) (T : Nat) (l c : Operand) (v : AV) (h : mkDec P T (ρ l) (ρ c) = some (.val v)) : Quiet P G M w (Instr.makeSlice T (ev l) (ev c)) v := by
  have hl := hρ l
  have hc := hρ c
  unfold mkDec at h
  split at h
  · rename_i k1 n k2 m e1 e2
    rw [e1] at hl
    rw [e2] at hc
    simp only [ar, rep] at hl hc
    split at h
    · rename_i e ht
      split at h
      · rename_i by_ k z hsz hby hz0
        split at h
        · rename_i hcs
          obtain ⟨c1, rfl, c3, c4⟩ := hcs
          cases h
          obtain ⟨i, z', hi, hz, hcl⟩ := tzr_info hz0
          obtain ⟨i2, hi2, hs2⟩ := tsz_info hsz
          obtain rfl : i = i2 := by rw [hi] at hi2; simpa using hi2
          have hb : i.bytes = by_ := by simpa [tby, hi] using hby
          have hu := tslc_under ht
          have hzc : z'.cells.toList = [.int k z] := by
            cases hq : z'.cells.toList with
            | nil => rw [hq] at hcl; cases hcl
            | cons y ys =>
              rw [hq] at hcl
              simp only [List.map_cons, List.cons.injEq] at hcl
              obtain ⟨q1, q2⟩ := hcl
              cases ys with
              | cons _ _ => simp at q2
              | nil =>
                rw [ofV_int_inv q1]
          have hza : z'.cells = #[.int k z] := by rw [← Array.toArray_toList (xs := z'.cells), hzc]
          have hn : n.toNat * i.size = n.toNat := by rw [hs2, Nat.mul_one]
          have hrun := run_make (P := P) w T e i z' hu hi hz k1 k2 n n c1 (Int.le_refl _) (by
            have : (i.bytes : Int) ≤ 128 := by omega
            calc (i.bytes : Int) * n ≤ 128 * n := Int.mul_le_mul_of_nonneg_right this c1
              _ ≤ 281474976710656 := by omega) (by omega)
          rw [hn] at hrun
          have hmc : ∀ j, j < n.toNat → (madeCells z'.cells n.toNat)[j]? = some (.int k z) := by
            intro j hj
            rw [hza]
            simp [madeCells, hj, Nat.mod_one]
          refine ⟨_, w.alloc (.cells (madeCells z'.cells n.toNat) e), by rw [hl, hc]; exact hrun, ⟨⟨rfl, rfl⟩, .inr ⟨_, nf_cells _ _, rfl⟩⟩, ?_⟩
          simp only [ar, rep]
          refine ⟨_, n.toNat, by rw [List.length_replicate], by simp, by simp, fun ad had => ?_⟩
          cases had
          refine .inr ⟨rfl, 1, rows_of _ (List.replicate n.toNat (.int k z)) 0 (by simp) (fun j x hx => ?_) (fun j v hj => ?_)⟩
          · rw [List.getElem?_replicate] at hx
            split at hx
            · rename_i hj
              cases hx
              exact ⟨.int k z, by rw [List.getElem?_replicate, if_pos hj], by simp [rep], rfl⟩
            · cases hx
          · have hfl : ∀ q : Nat, ((List.replicate q (Value.int k z)).map fun U => U.cells.toList).flatten = List.replicate q (Value.int k z) := by
              intro q
              induction q with
              | zero => rfl
              | succ q ih => simp only [List.replicate_succ, List.map_cons, List.flatten_cons, ih]; rfl
            rw [hfl, List.getElem?_replicate] at hj
            split at hj
            · rename_i hjl
              cases hj
              refine ⟨?_, hM _⟩
              rw [Nat.zero_add]
              exact (cel_new w.heap _ _ _ j).trans (hmc j hjl)
            · cases hj
        · cases h
      · cases h
    · cases h
  · cases h

theorem q_load (T : Nat) (x : AV) (V : Value) (v : AV) (hx : ar G w.heap M x V) (h : (match tsz P T, tag P T with
    | some n, some ag => if ag ∨ n = 1 then (match x with
      | .lref p off => some (MA.ldL p off n ag)
      | .href i off => some (.ldH i off n ag)
      | .eptr cs => if n ≤ cs.length then (if ag then some (.val (.d (.agg (cs.take n)))) else (cs.head?).map fun x => .val (.d x)) else none
      | .kp _ _ cs => if n ≤ cs.length then (if ag then some (.val (.d (.agg (cs.take n)))) else (cs.head?).map fun x => .val (.d x)) else none
      | _ => none) else none
    | _, _ => none) = some (.val v)) : Quiet P G M w (Instr.loadAt T V) v := by
  split at h
  · rename_i n ag hs ha
    split at h
    · rename_i hn
      have key : ∀ cs : List Dv, ar G w.heap M (.eptr cs) V → (if n ≤ cs.length then (if ag then some (MA.val (.d (.agg (cs.take n)))) else (cs.head?).map fun x => .val (.d x)) else none) = some (.val v) → Quiet P G M w (Instr.loadAt T V) v := by
        intro cs hx h
        split at h
        · rename_i hle
          simp only [ar] at hx
          obtain ⟨b, o, Vs, rfl, e2, e3⟩ := hx
          have hlen := reps_length _ _ e2
          have hrun := run_loadVar_cells hs ha hn w b o (Vs.take n) (by simp; omega) (fun j u hj => (e3 j u (by
            rw [List.getElem?_take] at hj
            split at hj
            · exact hj
            · cases hj)).1)
          refine .same (V := if ag then .agg (Vs.take n).toArray else (Vs.take n).headD default) (by simpa [Instr.loadAt, Instr.sureAddr] using hrun) ?_
          split at h
          · rename_i hag
            cases h
            simp only [hag, if_true, ar, rep]
            exact ⟨_, rfl, reps_take n _ _ e2⟩
          · rename_i hag
            simp only [Option.map_eq_some_iff] at h
            obtain ⟨y, hy, hv⟩ := h
            cases hv
            have hn1 : n = 1 := by simpa [hag] using hn
            subst hn1
            cases cs with
            | nil => simp at hy
            | cons c cs =>
              obtain rfl : c = y := by simpa using hy
              simp only [reps] at e2
              obtain ⟨U, Vs', rfl, e4, _, _⟩ := e2
              simp [hag, ar]
              exact e4
        · cases h
      split at h
      · cases h
      · cases h
      · exact key _ hx h
      · simp only [ar] at hx
        exact key _ (by simp only [ar]; exact hx.1) h
      · cases h
    · cases h
  · cases h
end
end Go.Proofs.Ytmmhpmfgcenngaa
/-! Operations that leave the variables alone: all of them together. -/
namespace Go.Proofs.Ytmmhpmfgcenngaa
section
variable {P : Program} {G : Gh} {M : Nat → Nat → Prop} {w : World} {ρ : Operand → AV} {ev : Operand → Value}

theorem dec_val (hρ : ∀ x, ar G w.heap M (ρ x) (ev x)) (hM : ∀ off, ¬ M w.heap.size off) (E : List Nat) (o : Oper) (v : AV) (h : decode P E o.dst ρ o.op = some (.val v)) :
    ∃ V w', (execOp ev o).run P w = .ok (.value V) w' ∧ Ha w w' ∧ ar G w'.heap M v V := by
  have fin : ∀ {s : Sem Value}, execOp ev o = (do pure (Next.value (← s))) → Quiet P G M w s v → ∃ V w', (execOp ev o).run P w = .ok (.value V) w' ∧ Ha w w' ∧ ar G w'.heap M v V := by
    rintro s hs ⟨V, w', h1, h2, h3⟩
    exact ⟨V, w', by rw [hs]; simp [h1], h2, h3⟩
  obtain ⟨dst, op, type, pos, after, guard⟩ := o
  cases op with
  | move x => simp only [decode] at h; cases h; exact ⟨_, w, rfl, Ha.rfl, hρ x⟩
  | assign x => simp only [decode] at h; cases h; exact ⟨_, w, rfl, Ha.rfl, hρ x⟩
  | pick c a b =>
    simp only [decode] at h
    split at h
    · rename_i t hc
      cases h
      have hb := hρ c
      rw [hc] at hb
      simp only [ar, rep] at hb
      refine ⟨if t then ev a else ev b, w, ?_, Ha.rfl, by cases t <;> simp [hρ]⟩
      simp [execOp, hb, asBool]
    · cases h
  | alloc T =>
    simp only [decode] at h
    split at h
    · split at h
      · split at h <;> cases h
      · cases h
    · cases h
  | box T x =>
    simp only [decode] at h
    split at h
    · split at h
      · split at h <;> cases h
      · cases h
    · cases h
  | build T parts => exact fin rfl (q_build hρ T parts v h)
  | buildSlice T n parts => exact fin rfl (q_bslice hρ hM T n parts v h)
  | makeSlice T l c => exact fin rfl (q_make hρ hM T l c v h)
  | load T a => exact fin rfl (q_load T _ _ v (hρ a) h)
  | store T a x =>
    simp only [decode] at h
    split at h
    · split at h
      · split at h <;> cases h
      · cases h
    · cases h
  | nilCheck x =>
    simp only [decode] at h
    have hx := hρ x
    split at h
    · rename_i i off he
      cases h
      rw [he] at hx
      have hx' := hx
      simp only [ar] at hx'
      obtain ⟨b, _, e2⟩ := hx'
      exact ⟨ev x, w, by simp [execOp, e2], Ha.rfl, hx⟩
    · rename_i i off he
      cases h
      rw [he] at hx
      have hx' := hx
      simp only [ar] at hx'
      obtain ⟨b, _, e2⟩ := hx'
      exact ⟨ev x, w, by simp [execOp, e2], Ha.rfl, hx⟩
    · cases h
  | binOp op T x y T' =>
    simp only [decode, Option.map_eq_some_iff] at h
    obtain ⟨u, hu, hv⟩ := h
    cases hv
    exact fin rfl (q_binOp op T _ _ _ _ _ (hρ x) (hρ y) x y hu)
  | unOp op T x =>
    cases op with
    | not =>
      simp only [decode] at h
      have hx := hρ x
      split at h
      · rename_i b he
        cases h
        rw [he] at hx
        simp only [ar, rep] at hx
        refine ⟨.bool !b, w, ?_, Ha.rfl, by simp [ar, rep]⟩
        simp [execOp, Op.unary, hx]
      · cases h
    | _ => simp [decode] at h
  | makeInterface T x =>
    simp only [decode] at h
    have hx := hρ x
    split at h
    · rename_i y he
      split at h
      · rename_i hc
        cases h
        rw [he] at hx
        simp only [ar] at hx
        refine fin rfl (.same (V := .iface T (ev x)) (run_makeInterface w T _ ?_) (by simp only [ar]; exact ⟨_, rfl, hx⟩))
        unfold tcon at hc
        unfold Program.concrete
        split at hc <;> simp_all
      · cases h
    · cases h
  | makeFunc fn first caps =>
    cases fn with
    | func f =>
      simp only [decode] at h
      split at h
      · rename_i hc
        cases h
        refine fin rfl (.same (V := .func (.func f) (first.map ev) (caps.map ev)) rfl ?_)
        simp only [ar]
        refine ⟨first.toList.map ev, caps.toList.map ev, by rw [show first.map ev = (first.toList.map ev).toArray from Array.ext' (by simp), show caps.map ev = (caps.toList.map ev).toArray from Array.ext' (by simp)], hc.1, hc.2, ars_map ρ ev _ fun x _ => hρ x, ars_map ρ ev _ fun x _ => hρ x⟩
      · cases h
    | _ => simp [decode] at h
  | slice T x lo hi mx => exact fin rfl (q_slice hρ T x lo hi mx v h)
  | fieldAddr S x f => exact fin rfl (q_fieldAddr S f _ _ v (hρ x) h)
  | field S x f => exact fin rfl (q_field S f _ _ v (hρ x) h)
  | indexAddr T x i => exact fin rfl (q_index E dst T x i v hρ h)
  | extract x i =>
    simp only [decode] at h
    have hx := hρ x
    split at h
    · rename_i vs he
      simp only [Option.map_eq_some_iff] at h
      obtain ⟨u, hu, hv⟩ := h
      cases hv
      rw [he] at hx
      simp only [ar] at hx
      obtain ⟨Vs, e1, _, e3⟩ := hx
      obtain ⟨U, hU, hr⟩ := ars_get vs Vs e3 i _ hu
      refine fin rfl (.same (V := U) ?_ hr)
      simp [Instr.extract, e1, hU]
    · cases h
  | call c =>
    obtain ⟨callee, args, argTypes⟩ := c
    simp only [decode, decC] at h
    cases callee with
    | value g =>
      simp only at h
      split at h <;> cases h
    | invoke r m => simp at h
    | builtin b =>
      have run1 : ∀ {s : Sem Value}, (∀ consts, builtin b argTypes type consts (args.map ev) = (do pure (Next.value (← s)))) → Quiet P G M w s v →
          ∃ V w', (execOp ev { dst, op := .call { callee := .builtin b, args, argTypes }, type, pos, after, guard }).run P w = .ok (.value V) w' ∧ Ha w w' ∧ ar G w'.heap M v V := by
        rintro s hs ⟨V, w', h1, h2, h3⟩
        refine ⟨V, w', ?_, h2, h3⟩
        simp only [execOp, resolve, Sem.run_bind, Sem.run_pure, Result.andThen_ok, invoke, hs, h1]
      cases b with
      | len =>
        simp only at h
        split at h
        · rename_i x t hxs hts
          have hxs' : args = #[x] := by apply Array.ext'; simpa using hxs
          have hts' : argTypes = #[t] := by apply Array.ext'; simpa using hts
          subst hxs'; subst hts'
          refine run1 (s := Builtin.len_ #[t] type #[ev x]) (fun _ => by simp [builtin]) ?_
          have hx := hρ x
          split at h
          · rename_i s he
            rw [he] at hx
            simp only [ar, rep] at hx
            split at h
            · rename_i hst
              cases h
              have hu : P.underlying t = some .string := by
                unfold tstr at hst
                split at hst <;> simp_all
              exact .same (V := .int .i64 s.size) (by simp [Builtin.len_, run_underlying hu, hx, goInt]) (by simp [ar, rep])
            · cases h
          · split at h
            · rename_i e xs ht hxs
              cases h
              have hr := sl_rep hx hxs
              simp only [rep] at hr
              obtain ⟨A, c, hV, _⟩ := hr
              exact .same (V := .int .i64 xs.length) (by simp [Builtin.len_, run_underlying (tslc_under ht), hV, goInt]) (by simp [ar, rep])
            · cases h
        · cases h
      | max =>
        simp only at h
        split at h
        · rename_i x y hxs
          have hxs' : args = #[x, y] := by apply Array.ext'; simpa using hxs
          subst hxs'
          refine run1 (s := Builtin.max_ argTypes type #[ev x, ev y]) (fun _ => by simp [builtin]) ?_
          have hx := hρ x
          have hy := hρ y
          split at h
          · rename_i k a k' b hex hey
            split at h
            · rename_i hk
              subst hk
              cases h
              rw [hex] at hx
              rw [hey] at hy
              simp only [ar, rep] at hx hy
              exact .same (V := .int k (if b > a then b else a)) (by simp [Builtin.max_, hx, hy, Builtin.max2]) (by simp [ar, rep])
            · cases h
          · cases h
        · cases h
      | min =>
        simp only at h
        split at h
        · rename_i x y hxs
          have hxs' : args = #[x, y] := by apply Array.ext'; simpa using hxs
          subst hxs'
          refine run1 (s := Builtin.min_ argTypes type #[ev x, ev y]) (fun _ => by simp [builtin]) ?_
          have hx := hρ x
          have hy := hρ y
          split at h
          · rename_i k a k' b hex hey
            split at h
            · rename_i hk
              subst hk
              cases h
              rw [hex] at hx
              rw [hey] at hy
              simp only [ar, rep] at hx hy
              exact .same (V := .int k (if b < a then b else a)) (by simp [Builtin.min_, hx, hy, Builtin.min2]) (by simp [ar, rep])
            · cases h
          · cases h
        · cases h
      | append =>
        simp only at h
        split at h
        · split at h
          · split at h
            · split at h <;> cases h
            · cases h
          · cases h
        · cases h
      | _ => simp at h
  | panic x =>
    simp only [decode] at h
    split at h <;> cases h
  | _ => simp [decode] at h

/-- A value is the address of a variable only where an operand is. -/
theorem dec_noL (hρ : ∀ x, ar G w.heap M (ρ x) (ev x)) (E : List Nat) (ps : List Nat) (hn : ∀ x, (ρ x).noL ps = true) (dst : Option Nat) (op : Op) (v : AV) (h : decode P E dst ρ op = some (.val v)) : v.noL ps = true := by
  cases op with
  | move x => simp only [decode] at h; cases h; exact hn x
  | assign x => simp only [decode] at h; cases h; exact hn x
  | pick c a b =>
    simp only [decode] at h
    split at h
    · rename_i t hc; cases h; cases t <;> simp [hn]
    · cases h
  | alloc T =>
    simp only [decode] at h
    split at h
    · split at h
      · split at h <;> cases h
      · cases h
    · cases h
  | box T x =>
    simp only [decode] at h
    split at h
    · split at h
      · split at h <;> cases h
      · cases h
    · cases h
  | build T parts =>
    simp only [decode] at h
    split at h
    · simp only [Option.bind_eq_some_iff] at h
      obtain ⟨cs', _, h⟩ := h
      split at h
      · cases h; unfold aggN aggOf; split <;> (try split) <;> rfl
      · cases h
    · cases h
  | buildSlice T n parts =>
    simp only [decode] at h
    split at h
    · split at h
      · split at h
        · simp only [Option.map_eq_some_iff] at h
          obtain ⟨xs, _, h⟩ := h
          cases h; rfl
        · cases h
      · cases h
    · cases h
  | makeSlice T l c =>
    simp only [decode, mkDec] at h
    split at h
    · split at h
      · split at h
        · split at h
          · cases h; rfl
          · cases h
        · cases h
      · cases h
    · cases h
  | load T a =>
    simp only [decode] at h
    split at h
    · split at h
      · split at h
        · cases h
        · cases h
        · split at h
          · split at h
            · cases h; rfl
            · simp only [Option.map_eq_some_iff] at h
              obtain ⟨xs, _, h⟩ := h
              cases h; rfl
          · cases h
        · split at h
          · split at h
            · cases h; rfl
            · simp only [Option.map_eq_some_iff] at h
              obtain ⟨xs, _, h⟩ := h
              cases h; rfl
          · cases h
        · cases h
      · cases h
    · cases h
  | store T a x =>
    simp only [decode] at h
    split at h
    · split at h
      · split at h <;> cases h
      · cases h
    · cases h
  | nilCheck x =>
    simp only [decode] at h
    have hx := hn x
    split at h
    · rename_i he; cases h; rfl
    · rename_i he; cases h; rw [he] at hx; exact hx
    · cases h
  | binOp op T x y T' =>
    simp only [decode, Option.map_eq_some_iff] at h
    obtain ⟨u, hu, hv⟩ := h
    cases hv
    unfold binA at hu
    split at hu <;> first | (split at hu <;> cases hu; rfl) | cases hu
  | unOp op T x =>
    cases op with
    | not =>
      simp only [decode] at h
      split at h
      · cases h; rfl
      · cases h
    | _ => simp [decode] at h
  | makeInterface T x =>
    simp only [decode] at h
    split at h
    · split at h
      · cases h; rfl
      · cases h
    · cases h
  | makeFunc fn first caps =>
    cases fn with
    | func f =>
      simp only [decode] at h
      split at h
      · cases h; rfl
      · cases h
    | _ => simp [decode] at h
  | slice T x lo hi mx =>
    simp only [decode] at h
    split at h
    · split at h
      · split at h
        · split at h
          · cases h; rfl
          · split at h
            · cases h; rfl
            · cases h
        · cases h
      · cases h
    · cases h
  | fieldAddr S x f =>
    simp only [decode] at h
    have hx := hn x
    split at h
    · split at h
      · split at h
        · rename_i he; cases h; rw [he] at hx; exact hx
        · cases h; rfl
        · split at h
          · cases h; rfl
          · cases h
        · split at h
          · cases h; rfl
          · cases h
        · cases h
      · cases h
    · cases h
  | field S x f =>
    simp only [decode] at h
    split at h
    · split at h
      · split at h
        · cases h; rfl
        · simp only [Option.map_eq_some_iff] at h
          obtain ⟨xs, _, h⟩ := h
          cases h; rfl
        · cases h
      · cases h
    · cases h
  | indexAddr T x i =>
    simp only [decode] at h
    have hx := hn x
    split at h
    · split at h
      · split at h
        · split at h
          · split at h
            · cases h; unfold eAt; split <;> rfl
            · cases h
          · cases h
        · split at h
          · rename_i he
            split at h
            · split at h
              · cases h; rw [he] at hx; exact hx
              · cases h
            · cases h
          · cases h
      · cases h
    · cases h
  | extract x i =>
    simp only [decode] at h
    have hx := hρ x
    split at h
    · rename_i vs he
      simp only [Option.map_eq_some_iff] at h
      obtain ⟨u, hu, hv⟩ := h
      cases hv
      rw [he] at hx
      simp only [ar] at hx
      obtain ⟨Vs, e1, e2, e3⟩ := hx
      exact AV.noL_of_ok ps _ (okL_mem e2 _ (List.mem_of_getElem? hu))
    · cases h
  | call c =>
    obtain ⟨callee, args, argTypes⟩ := c
    simp only [decode, decC] at h
    cases callee with
    | value g =>
      simp only at h
      split at h <;> cases h
    | invoke r m => simp at h
    | builtin b =>
      cases b with
      | len =>
        simp only at h
        split at h
        · split at h
          · split at h
            · cases h; rfl
            · cases h
          · split at h
            · cases h; rfl
            · cases h
        · cases h
      | max =>
        simp only at h
        split at h
        · split at h
          · split at h
            · cases h; rfl
            · cases h
          · cases h
        · cases h
      | min =>
        simp only at h
        split at h
        · split at h
          · split at h
            · cases h; rfl
            · cases h
          · cases h
        · cases h
      | append =>
        simp only at h
        split at h
        · split at h
          · split at h
            · split at h <;> cases h
            · cases h
          · cases h
        · cases h
      | _ => simp at h
  | panic x =>
    simp only [decode] at h
    split at h <;> cases h
  | _ => simp [decode] at h
end
end Go.Proofs.Ytmmhpmfgcenngaa
