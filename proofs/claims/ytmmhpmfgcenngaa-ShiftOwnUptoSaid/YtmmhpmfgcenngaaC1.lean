/- What a store into one cell of numbers leaves of data: its shape. -/
import Derived.Test.YtmmhpmfgcenngaaKE
import Derived.Test.YtmmhpmfgcenngaaKY
import Derived.Test.YtmmhpmfgcenngaaRows
set_option linter.unusedVariables false
set_option linter.unusedSimpArgs false
namespace Go.Proofs.Ytmmhpmfgcenngaa
mutual
/-- The same data but for numbers. -/
def sh : Dv → Dv → Prop
  | .int k _, y => ∃ m, y = .int k m
  | .bool b, y => y = .bool b
  | .str s, y => y = .str s
  | .slc xs, y => ∃ ys, y = .slc ys ∧ shs xs ys
  | .agg xs, y => ∃ ys, y = .agg ys ∧ shs xs ys
def shs : List Dv → List Dv → Prop
  | [], ys => ys = []
  | x :: xs, ys => ∃ y ys', ys = y :: ys' ∧ sh x y ∧ shs xs ys'
end
theorem shs_len : ∀ (xs ys : List Dv), shs xs ys → ys.length = xs.length
  | [], ys, h => by simp only [shs] at h; simp [h]
  | x :: xs, ys, h => by
    simp only [shs] at h
    obtain ⟨y, ys', rfl, _, h2⟩ := h
    simp [shs_len xs ys' h2]
/-- A cell's value, but for a number. -/
def vi (V U : Value) : Prop := U = V ∨ ∃ k n m, V = .int k n ∧ U = .int k m
def vis : List Value → List Value → Prop
  | [], Us => Us = []
  | V :: Vs, Us => ∃ U Us', Us = U :: Us' ∧ vi V U ∧ vis Vs Us'
theorem vis_refl : ∀ Vs : List Value, vis Vs Vs
  | [] => rfl
  | V :: Vs => ⟨V, Vs, rfl, .inl rfl, vis_refl Vs⟩
theorem vis_len : ∀ (Vs Us : List Value), vis Vs Us → Us.length = Vs.length
  | [], Us, h => by simp only [vis] at h; simp [h]
  | V :: Vs, Us, h => by
    simp only [vis] at h
    obtain ⟨U, Us', rfl, _, h2⟩ := h
    simp [vis_len Vs Us' h2]
section
variable {h h' : Array Obj} {M : Nat → Nat → Prop}
/-- What a cell says now. -/
def Turns (h h' : Array Obj) : Prop := ∀ b o v, cel h b o = some v → ∃ u, cel h' b o = some u ∧ vi v u
theorem turn_row (hP : Turns h h') {b : Nat} : ∀ (Vs : List Value) (o : Nat), (∀ (j : Nat) v, Vs[j]? = some v → cel h b (o + j) = some v) → ∃ Us, vis Vs Us ∧ ∀ (j : Nat) u, Us[j]? = some u → cel h' b (o + j) = some u
  | [], o, _ => ⟨[], rfl, by simp⟩
  | V :: Vs, o, hc => by
    obtain ⟨U, u1, u2⟩ := hP b o V (by simpa using hc 0 V rfl)
    obtain ⟨Us, k1, k2⟩ := turn_row hP Vs (o + 1) (fun j v hj => by
      have := hc (j + 1) v (by simpa using hj)
      rw [show o + 1 + j = o + (j + 1) by omega]; exact this)
    refine ⟨U :: Us, ⟨U, Us, rfl, u2, k1⟩, fun j u hj => ?_⟩
    cases j with
    | zero =>
      obtain rfl : U = u := by simpa using hj
      simpa using u1
    | succ j =>
      have := k2 j u (by simpa using hj)
      rw [show o + (j + 1) = o + 1 + j by omega]; exact this
theorem rep_int {x : Dv} {k : IntKind} {n : Int} (e : rep h M x (.int k n)) : x = .int k n := by
  cases x <;> simp only [rep] at e
  · obtain ⟨rfl, rfl⟩ := by simpa using e
    rfl
  · cases e
  · cases e
  · obtain ⟨A, c, e, _⟩ := e; cases e
  · obtain ⟨Vs, e, _⟩ := e; cases e
/-- An element of one cell. -/
theorem row_one [N0] {x : Dv} (hx : ∀ cs, x ≠ .agg cs) {sz b o : Nat} (hP : Turns h h') (hr : ∀ V, rep h M x V → ∃ y, sh x y ∧ rep h' M y V)
    (e : ∃ V, rep h M x V ∧ V.cells.size = sz ∧ ∀ j v, V.cells[j]? = some v → cel h b (o + j) = some v ∧ ¬ M b (o + j)) :
    ∃ y, sh x y ∧ ∃ V, rep h' M y V ∧ V.cells.size = sz ∧ ∀ j v, V.cells[j]? = some v → cel h' b (o + j) = some v ∧ ¬ M b (o + j) := by
  obtain ⟨V, e1, e2, e3⟩ := e
  have hc := (rep_one e1 hx).2
  have h0 := e3 0 V (by rw [hc]; rfl)
  obtain ⟨U, u1, u2⟩ := hP _ _ _ h0.1
  rcases u2 with rfl | ⟨k, n, m, rfl, rfl⟩
  · obtain ⟨y, y1, y2⟩ := hr _ e1
    refine ⟨y, y1, _, y2, e2, fun j v hj => ?_⟩
    have hj' := hj
    rw [hc] at hj
    cases j with
    | zero =>
      have hv : U = v := by simpa using hj
      subst hv
      exact ⟨u1, h0.2⟩
    | succ j => simp at hj
  · obtain rfl := rep_int e1
    refine ⟨.int k m, ⟨m, rfl⟩, .int k m, by simp [rep], (show (1 : Nat) = sz from e2), fun j v hj => ?_⟩
    cases j with
    | zero =>
      have hv : Value.int k m = v := by simpa [Value.cells] using hj
      subst hv
      exact ⟨u1, h0.2⟩
    | succ j => simp [Value.cells] at hj
mutual
/-- What data is when numbers in memory turned: data of the same shape. -/
theorem rep_patch [N0] (hP : Turns h h') : ∀ (x : Dv) (V : Value), rep h M x V → ∃ y, sh x y ∧ rep h' M y V
  | .int k n, V, e => ⟨.int k n, ⟨n, rfl⟩, by simpa [rep] using e⟩
  | .bool b, V, e => ⟨.bool b, rfl, by simpa [rep] using e⟩
  | .str s, V, e => ⟨.str s, rfl, by simpa [rep] using e⟩
  | .slc xs, V, e => by
    simp only [rep] at e
    obtain ⟨A, c, rfl, e2, e3, e4⟩ := e
    cases A with
    | none =>
      have hc := e3 rfl
      have hx : xs = [] := by cases xs with
        | nil => rfl
        | cons x xs => simp only [List.length_cons] at e2; omega
      subst hx
      exact ⟨.slc [], ⟨[], rfl, rfl⟩, by simp only [rep]; exact ⟨none, c, rfl, e2, e3, fun ad h => by cases h⟩⟩
    | some ad =>
      rcases e4 ad rfl with rfl | ⟨sp, sz, hr⟩
      · exact ⟨.slc [], ⟨[], rfl, rfl⟩, by simp only [rep]; exact ⟨some ad, c, rfl, e2, e3, fun _ _ => .inl trivial⟩⟩
      · obtain ⟨ys, y1, y2⟩ := rows_patch hP sz xs ad.block ad.off hr
        refine ⟨.slc ys, ⟨ys, rfl, y1⟩, ?_⟩
        simp only [rep]
        refine ⟨some ad, c, by rw [shs_len _ _ y1], by rw [shs_len _ _ y1]; exact e2, e3, fun ad' had => ?_⟩
        cases had
        exact .inr ⟨sp, sz, y2⟩
  | .agg cs, V, e => by
    simp only [rep] at e
    obtain ⟨Vs, rfl, e2⟩ := e
    obtain ⟨ds, d1, d2⟩ := reps_patch hP cs Vs e2 Vs (vis_refl Vs)
    exact ⟨.agg ds, ⟨ds, rfl, d1⟩, by simp only [rep]; exact ⟨Vs, rfl, d2⟩⟩
theorem reps_patch [N0] (hP : Turns h h') : ∀ (cs : List Dv) (Vs : List Value), reps h M cs Vs → ∀ Us, vis Vs Us → ∃ ds, shs cs ds ∧ reps h' M ds Us
  | [], Vs, e, Us, hv => by
    simp only [reps] at e
    subst e
    simp only [vis] at hv
    subst hv
    exact ⟨[], rfl, rfl⟩
  | c :: cs, Vs, e, Us, hv => by
    simp only [reps] at e
    obtain ⟨V, Vs', rfl, e2, e3, e4⟩ := e
    simp only [vis] at hv
    obtain ⟨U, Us', rfl, v1, v2⟩ := hv
    obtain ⟨ds, d1, d2⟩ := reps_patch hP cs Vs' e4 Us' v2
    rcases v1 with rfl | ⟨k, n, m, rfl, rfl⟩
    · obtain ⟨y, y1, y2⟩ := rep_patch hP c U e2
      exact ⟨y :: ds, ⟨y, ds, rfl, y1, d1⟩, ⟨U, Us', rfl, y2, e3, d2⟩⟩
    · have hc := rep_int e2
      rw [hc]
      exact ⟨.int k m :: ds, ⟨.int k m, ds, rfl, ⟨m, rfl⟩, d1⟩, ⟨.int k m, Us', rfl, by simp [rep], rfl, d2⟩⟩
theorem rows_patch [N0] (hP : Turns h h') (sz : Nat) : ∀ (xs : List Dv) (b o : Nat), rows h M sz xs b o → ∃ ys, shs xs ys ∧ rows h' M sz ys b o
  | [], b, o, _ => ⟨[], rfl, trivial⟩
  | .int k n :: xs, b, o, e => by
    simp only [rows] at e
    obtain ⟨ys, y1, y2⟩ := rows_patch hP sz xs b _ e.2
    obtain ⟨y, z1, z2⟩ := row_one (x := .int k n) (by simp) hP (fun V => rep_patch hP (.int k n) V) e.1
    exact ⟨y :: ys, ⟨y, ys, rfl, z1, y1⟩, z2, y2⟩
  | .bool k :: xs, b, o, e => by
    simp only [rows] at e
    obtain ⟨ys, y1, y2⟩ := rows_patch hP sz xs b _ e.2
    obtain ⟨y, z1, z2⟩ := row_one (x := .bool k) (by simp) hP (fun V => rep_patch hP (.bool k) V) e.1
    exact ⟨y :: ys, ⟨y, ys, rfl, z1, y1⟩, z2, y2⟩
  | .str k :: xs, b, o, e => by
    simp only [rows] at e
    obtain ⟨ys, y1, y2⟩ := rows_patch hP sz xs b _ e.2
    obtain ⟨y, z1, z2⟩ := row_one (x := .str k) (by simp) hP (fun V => rep_patch hP (.str k) V) e.1
    exact ⟨y :: ys, ⟨y, ys, rfl, z1, y1⟩, z2, y2⟩
  | .slc zs :: xs, b, o, e => by
    simp only [rows] at e
    obtain ⟨ys, y1, y2⟩ := rows_patch hP sz xs b _ e.2
    obtain ⟨y, z1, z2⟩ := row_one (x := .slc zs) (by simp) hP (fun V => rep_patch hP (.slc zs) V) e.1
    exact ⟨y :: ys, ⟨y, ys, rfl, z1, y1⟩, z2, y2⟩
  | .agg cs :: xs, b, o, e => by
    simp only [rows] at e
    obtain ⟨ys, y1, y2⟩ := rows_patch hP sz xs b _ e.2
    obtain ⟨V, e1, e2, e3⟩ := e.1
    simp only [rep] at e1
    obtain ⟨Vs, rfl, e4⟩ := e1
    obtain ⟨Us, u1, u2⟩ := turn_row hP Vs o (fun j v hj => (e3 j v (by simpa [Value.cells] using hj)).1)
    obtain ⟨ds, d1, d2⟩ := reps_patch hP cs Vs e4 Us u1
    refine ⟨.agg ds :: ys, ⟨.agg ds, ys, rfl, ⟨ds, rfl, d1⟩, y1⟩, ⟨.agg Us.toArray, by simp only [rep]; exact ⟨Us, rfl, d2⟩, ?_, fun j v hj => ⟨?_, ?_⟩⟩, y2⟩
    · simp only [Value.cells, List.size_toArray] at e2 ⊢
      rw [vis_len _ _ u1]; exact e2
    · exact u2 j v (by simpa [Value.cells] using hj)
    · have hj' : j < Vs.length := by
        rw [← vis_len _ _ u1]
        rcases Nat.lt_or_ge j Us.length with h | h
        · exact h
        · simp [Value.cells, List.getElem?_eq_none h] at hj
      exact (e3 j Vs[j] (by simp [Value.cells, hj'])).2
end
end
end Go.Proofs.Ytmmhpmfgcenngaa
/- A store by hand into what a call has made, and how the interpreter goes on behind it. -/
set_option linter.unusedVariables false
set_option linter.unusedSimpArgs false
namespace Go.Proofs.Ytmmhpmfgcenngaa
section
variable {E : Ent} {X : Nat → Nat → Prop} {dm ps : List Nat} {G G' : Gh} {h h' : Array Obj} {M : Nat → Nat → Prop} {σ : St} {a : Act} {P : Program} {C : Cfg} {O : Orc} {rd : Option Nat} {w : World}

/-- What was when a frame began that shares nothing, lasts. -/
theorem FR.old [N0] (f : FR E dm G σ a h) (hX : ∀ b o, ¬ E.X b o) (hG : ∀ b o, ¬ Mh E.G0 b o) : Stay E.h0 (fun _ _ => False) h (Mut E.X G) := fun b o v e _ =>
  ⟨f.ev.ce b o v (hG b o) e, by
    rintro (q | q | q)
    · exact hG b o (f.ev.mu b o (cel_lt e) (.inl q))
    · exact hG b o (f.ev.mu b o (cel_lt e) (.inr q))
    · exact hX b o q⟩

/-- A block that is nobody's, and newer than the frame, turns. -/
theorem FR.poke [N0] (f : FR E dm G σ a h) {b : Nat} {cs cs' : Array Value} {T : TypeId} (hb : h[b]? = some (.cells cs T (0, 0))) (hE : E.h0.size ≤ b)
    (hsz : h'.size = h.size) (hnew : h'[b]? = some (.cells cs' T (0, 0))) (hoth : ∀ k, k ≠ b → h'[k]? = h[k]?) {σ' : St} {a' : Act} (hd : a'.defers = a.defers) (ft : FT G h' (Mut E.X G) σ'.tmps a'.tmps) (fl : FL G h' (Mut E.X G) σ'.mem.locs)
    (h0 : σ.mem.heap = []) (h1 : σ'.mem.heap = []) (h2 : σ'.mem.toks = []) (h3 : σ.mem.toks = []) : FR E dm G σ' a' h' := by
  have htb : G.tb = [] := by
    have := f.fk.kl
    rw [h3] at this
    exact List.eq_nil_of_length_eq_zero this
  refine ⟨ft, fl, ⟨by rw [h2, htb]; rfl, by rw [h2]; simp, fun t r hr => by rw [htb] at hr; simp at hr⟩, ?_,
    ⟨f.ow.oh, f.ow.oa, f.ow.ol, f.ow.ot, fun k hk => f.ow.fr k (by omega), f.ow.xo, fun r hr => ⟨(f.ow.dm r hr).1, ?_⟩⟩,
    ⟨NB_block hoth (fun o ho => by rw [hnew] at ho; cases ho; exact nf_cells _ _) f.ev.nb, f.ev.es, f.ev.em, by rw [hsz]; exact f.ev.sz, f.ev.xl, fun k hk hn => by rw [hoth k (by omega)]; exact f.ev.bl k hk hn,
      fun k o v hn hv => by rw [cel_same (hoth k (by have := cel_lt hv; omega))]; exact f.ev.ce k o v hn hv, f.ev.mu, f.ev.hb, f.ev.hv⟩, by rw [hd]; exact f.df⟩
  · have hr := f.hr
    rw [h0] at hr
    rw [h1]
    exact ⟨hr.lb, hr.lv, hr.la, fun i o ho => by simp at ho⟩
  · have hr' := (f.ow.dm r hr).2
    rw [hoth r fun e => by subst e; rw [hb] at hr'; cases hr']
    exact hr'

/-- One cell is written. -/
theorem store_wp [N0] {o : Oper} {T : TypeId} {x y : Operand} (ho : o.op = .store T x y) (hs : tsz P T = some 1) {b off : Nat} (hx : a.eval x = .pointer (some ⟨b, off, none⟩)) (h1 : (a.eval y).oneCell' = true)
    {cs : Array Value} {S : TypeId} (hb : w.heap[b]? = some (.cells cs S (0, 0))) (hlt : off < cs.size) {K : Act → World → Prop} {Q : Exit → Act → World → Prop}
    (hK : K (a.put o.dst undef) (w.setRow b (cs.toList.take off ++ [a.eval y] ++ cs.toList.drop (off + 1)).toArray)) : o.wpIn (fen rd) 0 P a w K Q := by
  have hc : (a.eval y).cells = #[a.eval y] := by
    cases hv : a.eval y <;> first | rfl | (rw [hv] at h1; simp [Value.oneCell'] at h1)
  have hrun := run_storeCells_at P b off S [a.eval y] 0 cs w hb (by simp; omega) (by simpa using h1)
  simp only [Nat.add_zero, List.length_singleton] at hrun
  refine ⟨fun _ _ => trivial, ?_⟩
  rw [Oper.semAt_eq _ _ _ (fun c hc => by rw [ho] at hc; cases hc)]
  have : (execOp a.eval o).run P w = .ok .skip (w.setRow b (cs.toList.take off ++ [a.eval y] ++ cs.toList.drop (off + 1)).toArray) := by
    simp only [execOp, ho, hx, Sem.run_bind, run_store hs (V := a.eval y) (by rw [hc]; rfl) (by rw [hc]; exact hrun), Result.andThen_ok, Sem.run_pure]
  rw [this]
  exact hK

/-- Some operations of a region, and what comes behind. -/
theorem run_app [N0] (hs : Sound C O) {Es : List Nat} {ops : Array Oper} (rest : List Nat) : ∀ (l : List Nat) {σ : St} {a : Act} {w : World} {dm : List Nat} {G : Gh} {σ' : St}, FR E dm G σ a w.heap → lp Es ops l = [] →
    runO C O Es ops l σ = some (.nor, σ') → ∀ {Q : Exit → Act → World → Prop}, (∀ a' w' dm' G', Io w w' → FR E dm' G' σ' a' w'.heap → wpOpsIn (fen rd) 0 C.P ops Q rest a' w') → wpOpsIn (fen rd) 0 C.P ops Q (l ++ rest) a w
  | [], σ, a, w, dm, G, σ', f, hd, hr, Q, hq => by
    simp only [runO, Option.some.injEq, Prod.mk.injEq, true_and] at hr
    subst hr
    exact hq _ _ _ _ Io.rfl f
  | i :: l, σ, a, w, dm, G, σ', f, hd, hr, Q, hq => by
    simp only [runO] at hr
    cases ho : ops[i]? with
    | none => rw [ho] at hr; cases hr
    | some o =>
      rw [ho] at hr
      simp only [Option.bind_eq_some_iff] at hr
      obtain ⟨⟨r, σ1⟩, hst, hr⟩ := hr
      have hal0 : allocP Es o = none := by
        cases hp : allocP Es o with
        | none => rfl
        | some p => simp [lp, List.filterMap_cons, ho, hp] at hd
      have hd' : lp Es ops l = [] := by simpa [lp, List.filterMap_cons, ho, hal0] using hd
      simp only [List.cons_append, wpOpsIn, ho]
      refine step_sound (rd := rd) (ps := []) (K := wpOpsIn (fen rd) 0 C.P ops Q (l ++ rest)) (Q := Q) hs f hst (fun t v _ => noL_nil v) (fun p hp => by rw [hal0] at hp; cases hp) (fun a' w' dm' G' e io f' hn' => ?_) (fun x V w' dm' G' e io f' hv => ?_)
      · subst e
        exact run_app hs rest l f' hd' hr fun a'' w'' dm'' G'' io' f'' => hq a'' w'' dm'' G'' (io.trans io') f''
      · subst e
        simp only [Option.some.injEq, Prod.mk.injEq] at hr
        cases hr.1
theorem lp_none {Es : List Nat} {ops : Array Oper} (h : allocs Es ops = []) (l : List Nat) : lp Es ops l = [] := by
  rw [← lp_range] at h
  simp only [lp, List.filterMap_eq_nil_iff, List.mem_range] at h ⊢
  intro i hi
  rcases Nat.lt_or_ge i ops.size with hlt | hge
  · exact h i hlt
  · simp [Array.getElem?_eq_none hge]

/-- A region whose last operation is gone through by hand. -/
theorem region_hand [N0] (hs : Sound C O) (f : FR E dm G σ a w.heap) {Es : List Nat} {id n : Nat} {ops : Array Oper} {σ' : St} (hn : ops.size = n + 1) (ha : allocs Es ops = []) (hr : runO C O Es ops (List.range n) σ = some (.nor, σ')) {Q : Exit → Act → World → Prop}
    (hq : ∀ a' w' dm' G', Io w w' → FR E dm' G' σ' a' w'.heap → wpOpsIn (fen rd) 0 C.P ops Q [n] a' w') : (Code.region id ops false).wpIn (fen rd) 0 C.P Q a w := by
  refine wpIn_region ?_
  rw [hn, List.range_succ]
  exact run_app hs [n] (List.range n) f (lp_none ha _) hr hq

/-! ### drawn orders -/
/-- What an order lists is behind all that it hangs on. -/
theorem go_after [N0] {ops : Array Oper} : ∀ (fuel t : Nat) (listed : Array Bool) (A B : List Nat) (i j : Nat), Region.linearise.go .any ops fuel t listed [] = A ++ i :: B → hangs ops i j = true → listed.getD j false = true ∨ j ∈ A
  | 0, t, listed, A, B, i, j, h, hj => by simp [Region.linearise.go] at h
  | fuel + 1, t, listed, A, B, i, j, h, hj => by
    have hgo : Region.linearise.go .any ops (fuel + 1) t listed [] = match (Region.ready .any ops listed)[t % (Region.ready .any ops listed).length]? with
      | some i => Region.linearise.go .any ops fuel (t / (Region.ready .any ops listed).length) (listed.setIfInBounds i true) [i]
      | none => [] := rfl
    rw [hgo] at h
    split at h
    · rename_i k hk
      have hr := mem_ready (List.mem_of_getElem? hk)
      rw [linearise_go_acc, List.reverse_singleton, List.singleton_append] at h
      cases A with
      | nil =>
        simp only [List.nil_append, List.cons.injEq] at h
        obtain ⟨rfl, _⟩ := h
        exact .inl (hr.2.2 j hj)
      | cons x A =>
        simp only [List.cons_append, List.cons.injEq] at h
        obtain ⟨rfl, h⟩ := h
        rcases go_after fuel _ _ A B i j h hj with q | q
        · by_cases e : j = k
          · subst e; exact .inr (by simp)
          · refine .inl ?_
            simp only [Array.getD_eq_getD_getElem?, Array.getElem?_setIfInBounds] at q ⊢
            rwa [if_neg (fun x => e x.symm)] at q
        · exact .inr (by simp [q])
    · simp at h
/-- A chain of what hangs on what. -/
def chainB (ops : Array Oper) : List (Nat × Nat) → Bool
  | [] => true
  | (i, j) :: r => hangs ops i j && chainB ops r
end
end Go.Proofs.Ytmmhpmfgcenngaa
/- A region that draws its order, of which one operation is gone through by hand: the last one in each order. -/
set_option linter.unusedVariables false
set_option linter.unusedSimpArgs false
namespace Go.Proofs.Ytmmhpmfgcenngaa
section
variable {E : Ent} {dm : List Nat} {G : Gh} {σ : St} {a : Act} {C : Cfg} {O : Orc} {rd : Option Nat} {w : World} {ops ops' : Array Oper}

theorem ready_congr (hsz : ops'.size = ops.size) (ha : ∀ i : Nat, (ops'[i]?).map (fun o : Oper => o.after) = (ops[i]?).map (fun o : Oper => o.after)) (listed : Array Bool) : Region.ready .any ops' listed = Region.ready .any ops listed := by
  unfold Region.ready
  rw [hsz]
  refine List.filter_congr fun i _ => ?_
  have h := ha i
  congr 1
  cases h1 : ops'[i]? with
  | none =>
    cases h2 : ops[i]? with
    | none => rfl
    | some o => rw [h1, h2] at h; simp at h
  | some o' =>
    cases h2 : ops[i]? with
    | none => rw [h1, h2] at h; simp at h
    | some o =>
      rw [h1, h2] at h
      simp only [Option.map_some, Option.some.injEq] at h
      simp only [Option.map_some, Option.getD_some, h]
theorem go_congr [N0] (hsz : ops'.size = ops.size) (ha : ∀ i : Nat, (ops'[i]?).map (fun o : Oper => o.after) = (ops[i]?).map (fun o : Oper => o.after)) : ∀ (fuel t : Nat) (listed : Array Bool) (acc : List Nat), Region.linearise.go .any ops' fuel t listed acc = Region.linearise.go .any ops fuel t listed acc
  | 0, t, listed, acc => by simp [Region.linearise.go]
  | fuel + 1, t, listed, acc => by
    have hgo : ∀ ops : Array Oper, Region.linearise.go .any ops (fuel + 1) t listed acc = match (Region.ready .any ops listed)[t % (Region.ready .any ops listed).length]? with
      | some i => Region.linearise.go .any ops fuel (t / (Region.ready .any ops listed).length) (listed.setIfInBounds i true) (i :: acc)
      | none => acc.reverse := fun _ => rfl
    rw [hgo, hgo, ready_congr hsz ha]
    split
    · exact go_congr hsz ha fuel _ _ _
    · rfl
theorem wantA_congr (hd : ∀ i : Nat, (ops'[i]?).bind (fun o : Oper => o.dst) = (ops[i]?).bind (fun o : Oper => o.dst)) (tm : List AV) (o : Oper) : wantA ops' tm o = wantA ops tm o := by
  unfold wantA
  split
  · rfl
  · rw [hd]
theorem stepO_congr [N0] (hd : ∀ i : Nat, (ops'[i]?).bind (fun o : Oper => o.dst) = (ops[i]?).bind (fun o : Oper => o.dst)) (Es : List Nat) (o : Oper) (σ : St) : stepO C O Es ops' o σ = stepO C O Es ops o σ := by
  unfold stepO
  rw [wantA_congr hd]
theorem runO_congr [N0] (hd : ∀ i : Nat, (ops'[i]?).bind (fun o : Oper => o.dst) = (ops[i]?).bind (fun o : Oper => o.dst)) (Es : List Nat) : ∀ (l : List Nat) (σ : St), (∀ i ∈ l, ops'[i]? = ops[i]?) → runO C O Es ops' l σ = runO C O Es ops l σ
  | [], σ, _ => rfl
  | i :: l, σ, h => by
    simp only [runO, h i (by simp)]
    cases ho : ops[i]? with
    | none => rfl
    | some o =>
      simp only [stepO_congr hd]
      congr 1
      funext x
      obtain ⟨r, s⟩ := x
      cases r with
      | pan x => rfl
      | v x => exact runO_congr hd Es l s fun i hi => h i (by simp [hi])
      | u => exact runO_congr hd Es l s fun i hi => h i (by simp [hi])
theorem runO_snoc [N0] (Es : List Nat) (k : Nat) {σ' : St} : ∀ (l : List Nat) (σ : St), runO C O Es ops (l ++ [k]) σ = some (.nor, σ') → ∃ σ1, runO C O Es ops l σ = some (.nor, σ1) ∧ runO C O Es ops [k] σ1 = some (.nor, σ')
  | [], σ, h => ⟨σ, rfl, h⟩
  | i :: l, σ, h => by
    simp only [List.cons_append, runO] at h ⊢
    cases ho : ops[i]? with
    | none => rw [ho] at h; cases h
    | some o =>
      rw [ho] at h
      simp only [Option.bind_eq_some_iff] at h ⊢
      obtain ⟨⟨r, s⟩, h1, h2⟩ := h
      cases r with
      | pan x => simp only [Option.some.injEq, Prod.mk.injEq] at h2; cases h2.1
      | v x =>
        obtain ⟨σ1, k1, k2⟩ := runO_snoc Es k l s h2
        exact ⟨σ1, ⟨_, h1, k1⟩, k2⟩
      | u =>
        obtain ⟨σ1, k1, k2⟩ := runO_snoc Es k l s h2
        exact ⟨σ1, ⟨_, h1, k1⟩, k2⟩
/-- What hangs on others, through others, stands behind them in each order. -/
theorem hang_after [N0] {L : List Nat} {fuel t : Nat} {n : Nat} (hL : L = Region.linearise.go .any ops fuel t (Array.replicate n false) []) {i j : Nat} (h : Hang ops i j) : ∀ A B, L = A ++ i :: B → j ∈ A := by
  have hno : ∀ j, (Array.replicate n false).getD j false = true → False := fun j h => by
    rw [Array.getD_eq_getD_getElem?, Array.getElem?_replicate] at h
    split at h <;> simp at h
  induction h with
  | one h =>
    intro A B e
    rcases go_after fuel t _ A B _ _ (by rw [← hL]; exact e) h with q | q
    · exact (hno _ q).elim
    · exact q
  | @step i k j h _ ih =>
    intro A B e
    rcases go_after fuel t _ A B _ _ (by rw [← hL]; exact e) h with q | q
    · exact (hno _ q).elim
    · obtain ⟨A1, A2, rfl⟩ := List.append_of_mem q
      have := ih A1 (A2 ++ i :: B) (by rw [e]; simp)
      simp [this]
/-- Nothing stands behind what hangs on all. -/
theorem last_of [N0] {L : List Nat} {fuel t k : Nat} (hL : L = Region.linearise.go .any ops fuel t (Array.replicate ops.size false) []) (hk : ∀ x, x < ops.size → x ≠ k → Hang ops k x) {A B : List Nat} (e : L = A ++ k :: B) : B = [] := by
  obtain ⟨g1, g2⟩ := go_list (ops := ops) fuel t (Array.replicate ops.size false)
  rw [← hL] at g1 g2
  cases B with
  | nil => rfl
  | cons x B =>
    have hx := g2 x (by rw [e]; simp)
    have hne : x ≠ k := fun h => by
      subst h
      rw [e] at g1
      have := (List.nodup_append.1 g1).2.1
      simp at this
    have hA := hang_after hL (hk x hx.1 hne) A (x :: B) e
    rw [e] at g1
    have := (List.nodup_append.1 g1).2.2 x hA x (by simp)
    exact absurd rfl this

/-- An order lists all. -/
theorem go_full [N0] {ops : Array Oper} : ∀ (fuel t : Nat) (listed : Array Bool) (l : List Nat), l.Nodup → (∀ i, i ∈ l ↔ i < ops.size ∧ listed.getD i true = false) → l.Pairwise (fun j i => hangs ops j i = false) →
    (∀ i ∈ l, ∀ j, hangs ops i j = true → j < ops.size ∧ j ≠ i) → listed.size = ops.size → l.length ≤ fuel → ∀ y ∈ l, y ∈ Region.linearise.go .any ops fuel t listed []
  | 0, t, listed, l, _, _, _, _, _, hl, y, hy => by
    have : l = [] := List.eq_nil_of_length_eq_zero (by omega)
    subst this; cases hy
  | fuel + 1, t, listed, [], _, _, _, _, _, _, y, hy => by cases hy
  | fuel + 1, t, listed, x :: tl, hn, hm, hp, hd, hs, hl, y, hy => by
    have hx := (hm x).1 (by simp)
    have hxr : x ∈ Region.ready .any ops listed := ready_mem hx.1 hx.2 fun j hj => by
      obtain ⟨d1, d2⟩ := hd x (by simp) j hj
      have hjs : j < listed.size := by omega
      cases hv : listed.getD j true with
      | false =>
        rcases List.mem_cons.1 ((hm j).2 ⟨d1, hv⟩) with e | e
        · exact absurd e d2
        · have := (List.pairwise_cons.1 hp).1 j e
          rw [hj] at this; cases this
      | true =>
        simp only [Array.getD_eq_getD_getElem?, Array.getElem?_eq_getElem hjs, Option.getD_some] at hv ⊢
        exact hv
    have hgo : Region.linearise.go .any ops (fuel + 1) t listed [] = match (Region.ready .any ops listed)[t % (Region.ready .any ops listed).length]? with
      | some i => Region.linearise.go .any ops fuel (t / (Region.ready .any ops listed).length) (listed.setIfInBounds i true) [i]
      | none => [] := rfl
    rw [hgo]
    have hlt := Nat.mod_lt t (List.length_pos_of_mem hxr)
    rw [List.getElem?_eq_getElem hlt]
    generalize hi : (Region.ready .any ops listed)[t % (Region.ready .any ops listed).length] = i
    have hir : i ∈ Region.ready .any ops listed := by rw [← hi]; exact List.getElem_mem hlt
    have hr := mem_ready hir
    have hil : i ∈ x :: tl := (hm i).2 ⟨hr.1, hr.2.1⟩
    simp only
    rw [linearise_go_acc, List.reverse_singleton, List.singleton_append]
    by_cases e : y = i
    · simp [e]
    · refine List.mem_cons_of_mem _ (go_full fuel _ _ ((x :: tl).erase i) (hn.erase i) (fun z => ?_) (hp.sublist List.erase_sublist) (fun z hz j hj => hd z (List.erase_subset hz) j hj) (by simpa using hs) ?_ y ?_)
      · rw [hn.mem_erase_iff, hm z, getD_set]
        simp only [Bool.or_eq_false_iff, decide_eq_false_iff_not]
        exact ⟨fun ⟨q1, q2, q3⟩ => ⟨q2, q3, q1⟩, fun ⟨q1, q2, q3⟩ => ⟨q3, q1, q2⟩⟩
      · rw [List.length_erase_of_mem hil]; omega
      · exact (hn.mem_erase_iff).2 ⟨e, hy⟩

theorem hang_of {ops : Array Oper} {k : Nat} (h : ((List.range ops.size).all fun x => x == k || ((reach ops).getD k []).contains x) = true) : ∀ x, x < ops.size → x ≠ k → Hang ops k x := by
  intro x hx hne
  have key : ∀ i j, j ∈ (reach ops).getD i [] → Hang ops i j := reach_hang ops.toList [] (fun i o hi => by simpa using hi) (fun i j h => by simp at h)
  have := List.all_eq_true.1 h x (by simpa using hx)
  simp only [Bool.or_eq_true, beq_iff_eq, List.contains_iff_mem] at this
  exact key _ _ (this.resolve_left hne)

/-- The store, put out of the way. -/
def calmed (ops : Array Oper) (k : Nat) : Array Oper := ops.modify k fun o => { o with op := .move (.const (.bool true)) }
theorem calmed_size (k : Nat) : (calmed ops k).size = ops.size := by simp [calmed]
theorem calmed_get (k i : Nat) : (calmed ops k)[i]? = if k = i then (ops[i]?).map fun o => { o with op := .move (.const (.bool true)) } else ops[i]? := by
  simp only [calmed, Array.getElem?_modify]
theorem calmed_after (k i : Nat) : ((calmed ops k)[i]?).map (fun o : Oper => o.after) = (ops[i]?).map (fun o : Oper => o.after) := by
  rw [calmed_get]
  split
  · cases ops[i]? <;> rfl
  · rfl
theorem calmed_dst (k i : Nat) : ((calmed ops k)[i]?).bind (fun o : Oper => o.dst) = (ops[i]?).bind (fun o : Oper => o.dst) := by
  rw [calmed_get]
  split
  · cases ops[i]? <;> rfl
  · rfl

theorem lp_calm (Es : List Nat) (k : Nat) : ∀ A : List Nat, k ∉ A → lp Es (calmed ops k) A = lp Es ops A
  | [], _ => rfl
  | i :: A, h => by
    have hi : ¬ k = i := fun e => h (by simp [e])
    have ih := lp_calm Es k A (fun e => h (by simp [e]))
    simp only [lp, List.filterMap_cons, calmed_get, if_neg hi] at ih ⊢
    rw [ih]
/-- A region that draws, whose last operation is gone through by hand. -/
theorem draw_hand [N0] (hs : Sound C O) (hmix : C.P.follows .mixedOrders = true) (f : FR E dm G σ a w.heap) {Es : List Nat} {id k : Nat} {l : List Nat} {o : Oper} {σ' : St} (hk : ops[k]? = some o) (hdst : o.dst = none) (hgd : o.guard = none)
    (hall : allocs Es (calmed ops k) = []) (hst : statOk l (calmed ops k) = true) (hr : runP C O Es (calmed ops k) l σ = some (.nor, σ')) (hh : ∀ x, x < ops.size → x ≠ k → Hang ops k x) {Q : Exit → Act → World → Prop}
    (hq : ∀ a' w' dm' G', Io w w' → FR E dm' G' σ' a' w'.heap → wpOpsIn (fen rd) 0 C.P ops Q [k] a' w') : (Code.region id ops true).wpIn (fen rd) 0 C.P Q a w := by
  have hsz : (calmed ops k).size = ops.size := calmed_size k
  simp only [statOk, Bool.and_eq_true] at hst
  obtain ⟨⟨⟨⟨⟨h0, h1⟩, h2⟩, h3⟩, h4⟩, h5⟩ := hst
  have canon_lt : ∀ {i : Nat}, i ∈ l → i < (calmed ops k).size := fun {i} hi => by simpa using List.all_eq_true.1 h0 i hi
  have hr := runP_D (Es := Es) l σ [] (by simp) hr
  have hcn := nodupB_iff _ h2
  have ta : TA (calmed ops k) := fun i j oi oj hi hj hne => by
    have li : i < (calmed ops k).size := (Array.getElem?_eq_some_iff.1 hi).1
    have lj : j < (calmed ops k).size := (Array.getElem?_eq_some_iff.1 hj).1
    have := List.all_eq_true.1 (List.all_eq_true.1 h5 i (by simpa using li)) j (by simpa using lj)
    simp only [hi, hj, Bool.or_eq_true, beq_iff_eq] at this
    rcases this with ((h | h) | h) | h
    · exact absurd h hne
    · exact .inl (by simp [linked, h])
    · exact .inr h
    · exact .inl (by simp [linked, h])
  obtain ⟨Φ, S, _, pw, d⟩ := runD_Dn (C := C) (O := O) (Es := Es) (l) [] _ _ (fun _ => False) (fun _ => {}) hr hcn (fun _ h => h.elim) (fun _ h => h.elim) (fun _ _ h => h.elim)
  obtain ⟨l1, l2⟩ := linExt_ok (l) [] h1 hcn (by simp)
  refine wpIn_region_draw fun t => ?_
  simp only [Region.schedule, hmix, Bool.true_or, if_true, Region.linearise]
  obtain ⟨⟨ex', σ2⟩, r1, r2⟩ := sched pw ta (calmed ops k).size t (Array.replicate (calmed ops k).size false) (l) _ d hcn (fun i => by
      constructor
      · intro hi
        have := canon_lt hi
        exact ⟨this, by simp [Array.getD_eq_getD_getElem?, this]⟩
      · rintro ⟨hi, _⟩
        have := List.all_eq_true.1 h3 i (by simpa using hi)
        simpa using this) l1 (fun i hi j hj => by
      obtain ⟨q1, q2⟩ := l2 i hi j hj
      exact ⟨canon_lt (q1.resolve_left (by simp)), q2⟩) (by simp) (by
      have : (l).length = (calmed ops k).size := by simpa using h4
      omega) (fun k hk => by
      rw [Array.getD_eq_getD_getElem?, Array.getElem?_replicate] at hk
      split at hk <;> simp at hk)
  simp only [Like0] at r2
  obtain ⟨rfl, rfl⟩ := Prod.mk.inj r2
  rw [go_congr hsz (calmed_after k), hsz] at r1
  generalize hL : Region.linearise.go .any ops ops.size t (Array.replicate ops.size false) [] = L at r1 ⊢
  have hkl : k < ops.size := (Array.getElem?_eq_some_iff.1 hk).1
  by_cases hmem : k ∈ L
  · obtain ⟨A, B, hAB⟩ := List.append_of_mem hmem
    obtain rfl := last_of hL.symm hh hAB
    have hnd := (go_list (ops := ops) ops.size t (Array.replicate ops.size false)).1
    rw [hL, hAB] at hnd
    have hkA : k ∉ A := fun h => (List.nodup_append.1 hnd).2.2 k h k (by simp) rfl
    rw [hAB] at r1 ⊢
    obtain ⟨σ1, q1, q2⟩ := runO_snoc Es k A _ r1
    rw [runO_congr (calmed_dst k) Es A _ (fun i hi => by rw [calmed_get, if_neg (fun h : k = i => hkA (by rw [h]; exact hi))])] at q1
    have hσ : σ1 = σ2 := by
      simp only [runO, calmed_get, if_true, hk, Option.map_some, stepO, wantA, hgd, decode, mact, Option.bind_some, stepE, hdst, putA, Option.some.injEq, Prod.mk.injEq, true_and] at q2
      exact q2
    subst hσ
    have f' : FR E dm G σ a ({ w with drawn := w.drawn + 1 } : World).heap := f
    have hlpA : lp Es ops A = [] := by rw [← lp_calm Es k A hkA]; exact lp_none hall A
    exact run_app hs [k] A f' hlpA q1 fun a' w' dm' G' io f'' => hq a' w' dm' G' (Io.trans ⟨rfl, rfl⟩ io) f''
  · refine absurd ?_ hmem
    have hfull := go_full (ops := calmed ops k) (calmed ops k).size t (Array.replicate (calmed ops k).size false) l hcn (fun i => by
      constructor
      · intro hi
        have := canon_lt hi
        exact ⟨this, by simp [Array.getD_eq_getD_getElem?, this]⟩
      · rintro ⟨hi, _⟩
        have := List.all_eq_true.1 h3 i (by simpa using hi)
        simpa using this) l1 (fun i hi j hj => by
      obtain ⟨q1, q2⟩ := l2 i hi j hj
      exact ⟨canon_lt (q1.resolve_left (by simp)), q2⟩) (by simp) (by
      have : (l).length = (calmed ops k).size := by simpa using h4
      omega) k (by
        have := List.all_eq_true.1 h3 k (by simpa [hsz] using hkl)
        simpa using this)
    rw [go_congr hsz (calmed_after k), hsz, hL] at hfull
    exact hfull
end
end Go.Proofs.Ytmmhpmfgcenngaa
/- A call whose body is gone through in parts: by the interpreter, by hand, by the interpreter. -/
set_option linter.unusedVariables false
set_option linter.unusedSimpArgs false
namespace Go.Proofs.Ytmmhpmfgcenngaa
/-- A region's operations. -/
def opsOf : Code → Array Oper
  | .region _ ops _ => ops
  | _ => #[]
/-- The first parts of a body, and what is behind them. -/
def cpre : Nat → Code → Code
  | 0, _ => .skip
  | n + 1, .seq a b => .seq a (cpre n b)
  | _, _ => .ret
def cpost : Nat → Code → Code
  | 0, c => c
  | n + 1, .seq _ b => cpost n b
  | _, c => c
section
variable {E : Ent} {X : Nat → Nat → Prop} {dm : List Nat} {G : Gh} {σ : St} {a : Act} {C : Cfg} {O : Orc} {rd : Option Nat} {w : World}

theorem lim_sound [N0] [hx : ExtC C] (hF : Fine C) : Sound C (lim C) := by
  have hl := lim_is C hx.out
  refine ⟨fun f args heap r h => ?_, fun f args heap cr heap' h => ?_, fun rd f c σ ex σ' h => ?_, fun rd f b σ ex σ' h => ?_⟩
  · obtain ⟨k, hk⟩ := (hl.call _ _ _ _).1 h
    exact (fuel_sound hF k).fnd _ _ _ _ hk
  · obtain ⟨k, hk⟩ := (hl.call _ _ _ _).1 h
    exact (fuel_sound hF k).call _ _ _ _ _ hk
  · obtain ⟨k, hk⟩ := (hl.code _ _ _ _).1 h
    exact (fuel_sound hF k).code rd _ _ _ _ _ hk
  · obtain ⟨k, hk⟩ := (hl.code _ _ _ _).1 h
    exact (fuel_sound hF k).loop rd _ _ _ _ _ hk

/-- The first parts told by the interpreter; then what comes. -/
theorem cpre_wp [N0] [hx : ExtC C] (hF : Fine C) {f : Nat} {Q : Exit → Act → World → Prop} {E : Ent} : ∀ (n : Nat) (c : Code) {σ σ' : St} {a : Act} {w : World} {dm : List Nat} {G : Gh}, (lim C).code f (cpre n c) σ = some (.nor, σ') → FR E dm G σ a w.heap →
    (∀ a1 w1 dm1 G1, Io w w1 → FR E dm1 G1 σ' a1 w1.heap → (cpost n c).wpIn (fen none) 0 C.P Q a1 w1) → c.wpIn (fen none) 0 C.P Q a w := by
  intro n
  induction n with
  | zero =>
    intro c σ σ' a w dm G h fr hq
    simp only [cpre, ev_skip, Option.some.injEq, Prod.mk.injEq, true_and] at h
    subst h
    exact hq _ _ _ _ Io.rfl fr
  | succ n ih =>
    intro c σ σ' a w dm G h fr hq
    cases c with
    | seq x y =>
      simp only [cpre, ev_seq, Option.bind_eq_some_iff] at h
      obtain ⟨⟨ex1, σ1⟩, h1, h2⟩ := h
      cases ex1 with
      | nor =>
        simp only [seqK] at h2
        refine wpIn_seq (wpIn_mono ((lim_sound hF).code none _ _ _ _ _ h1 (.inl rfl) _ _ _ _ _ fr) fun e a1 w1 q => ?_)
        obtain ⟨io, dm1, G1, σ2, f1, xr, lk⟩ := q
        simp only [XRel] at xr
        subst xr
        simp only [Like] at lk
        obtain ⟨_, rfl⟩ := Prod.mk.inj lk
        exact ih y h2 f1 fun a2 w2 dm2 G2 io2 f2 => hq _ _ _ _ (io.trans io2) f2
      | ret => simp only [seqK, Option.some.injEq, Prod.mk.injEq] at h2; cases h2.1
      | exit id => simp only [seqK, Option.some.injEq, Prod.mk.injEq] at h2; cases h2.1
      | pan v => simp only [seqK, Option.some.injEq, Prod.mk.injEq] at h2; cases h2.1
    | _ => simp only [cpre, ev_ret, Option.some.injEq, Prod.mk.injEq] at h; cases h.1

/-- A frame of its own, at its beginning. -/
def ent0 (h : Array Obj) : Ent := { h0 := h, G0 := nogh, X := fun _ _ => False }
theorem mut0 : Mut (fun _ _ => False) nogh = fun _ _ => False := by
  funext b o
  simp only [Mut, Mh, Mf, nogh, eq_iff_iff, iff_false]
  rintro ((⟨i, e⟩ | ⟨i, r, e, _⟩) | (⟨p, e⟩ | ⟨t, r, e, _⟩) | e) <;> simp at e
theorem nogh_Mh (b o : Nat) : ¬ Mh nogh b o := by
  rintro (⟨i, e⟩ | ⟨i, r, e, _⟩) <;> simp [nogh] at e
/-- What is asked of the body's end. -/
def Ends [N0] (w : World) (fn : Func) (C : Cfg) (v : AV) (e : Exit) (a' : Act) (w' : World) : Prop := ∃ σ' hp, EQ (ent0 w.heap) w .ret σ' e a' w' ∧ leave C.P fn (.ret, σ') = some (.ret v, hp)
/-- THE CALL, by its body. -/
theorem hand_calls [N0] [hx : ExtC C] (hF : Fine C) {f : Nat} {fn : Func} {c : Code} (hfn : C.P.funcs[f]? = some fn) (hc : fn.body = some c) {args : List AV} (hn : N0.n0 = w.heap.size) (hst : stillL args = true) {As : List Value} (ha : ars nogh w.heap (fun _ _ => False) args As) {b : Bool}
    (hw : ∀ G a, a.tmps = As.toArray ++ Array.replicate (fn.ntmps - As.toArray.size) undef → FR (ent0 w.heap) [] G (entry fn args []) a w.heap → c.wpIn (fen none) 0 C.P (Ends w fn C (.d (.bool b))) a w) :
    Calls C.P f As.toArray w fun e w' => e = .returned (.bool b) ∧ Io w w' ∧ w.heap.size ≤ w'.heap.size ∧ ∀ k, k < w.heap.size → w'.heap[k]? = w.heap[k]? := by
  have nb : NB w.heap := fun b hb c T f e => by rw [Array.getElem?_eq_none (by omega)] at e; cases e
  have hlen : As.length = args.length := ars_length _ _ ha
  have fr := FR.enter (X := fun _ _ => False) (G := nogh) (h := w.heap) (heap := []) nb (Nat.le_of_eq hn) (fun b off e => (nogh_Mh b off e).elim) ⟨rfl, rfl, rfl, fun i o h => by simp at h⟩
    ⟨fun i b h => by simp [nogh] at h, fun i b r h => by simp [nogh] at h, fun i b h => by simp [nogh] at h, fun i b r h => by simp [nogh] at h, fun _ _ => rfl, fun _ _ _ => rfl, by simp⟩ (fun _ _ h => h.elim) rfl rfl (tmps := (entry fn args []).tmps) (T := As.toArray ++ Array.replicate (fn.ntmps - As.toArray.size) undef)
    (by simp [entry, hlen]) (fun t v ht => by
      simp only [entry] at ht
      rw [mut0]
      rcases Nat.lt_or_ge t args.length with hlt | hge
      · rw [List.getElem?_append_left hlt] at ht
        obtain ⟨V, hV, e⟩ := ars_get _ _ ha t v ht
        have : (As.toArray ++ Array.replicate (fn.ntmps - As.toArray.size) undef).getD t undef = V := by
          rw [Array.getD_eq_getD_getElem?, Array.getElem?_append_left (by simpa [hlen] using hlt)]
          simp [hV]
        rw [this]
        exact ⟨still_K (stillL_mem hst v (List.mem_of_getElem? ht)), e⟩
      · rw [List.getElem?_append_right hge] at ht
        rw [List.getElem?_replicate] at ht
        split at ht
        · cases ht; exact ⟨rfl, by simp [ar]⟩
        · cases ht) (List.replicate fn.ntmps none) (fun x hx => (List.mem_replicate.1 hx).2)
  refine callsIn_wide.1 (callsIn_of_wp_marks hfn hc trivial (wpIn_mono (hw _ _ rfl fr) fun e a' w' q => ?_))
  obtain ⟨σ', hp, ⟨io, dm', G', σ'', f', xr, lk⟩, hl⟩ := q
  simp only [XRel] at xr; subst xr
  simp only [Like] at lk
  obtain ⟨_, rfl⟩ := Prod.mk.inj lk
  simp only [leave, Option.map_eq_some_iff] at hl
  obtain ⟨vs, hvs, he⟩ := hl
  obtain ⟨hv, _⟩ := Prod.mk.inj he
  simp only [CR.ret.injEq] at hv
  refine leave_marks (by simp) dm' a' w' f' fun w2 io2 a2 ha f2 st2 => ?_
  obtain ⟨V, r1, r2, r3⟩ := results_sound f2 hvs
  rw [hv] at r2
  simp only [ar, rep] at r2
  subst r2
  refine ⟨_, by rw [← ha]; exact r1, rfl, io.trans io2, f2.ev.sz, fun k hk => f2.ev.bl k hk fun off => nogh_Mh _ _⟩
end
end Go.Proofs.Ytmmhpmfgcenngaa
/- Terms as data; states told by their slots. -/
set_option linter.unusedSimpArgs false
namespace Go.Proofs.Ytmmhpmfgcenngaa
open Go.Proofs

/-- Terms. -/
inductive Tm where
  | mk (kind head : Int) (args : List Tm)
  deriving Inhabited
def Tm.kind : Tm → Int | .mk k _ _ => k
def Tm.head : Tm → Int | .mk _ h _ => h
def Tm.args : Tm → List Tm | .mk _ _ l => l
def enc : Tm → Dv
  | .mk k h l => .agg [.int .i64 k, .int .i64 h, .slc (l.attach.map fun x => enc x.1)]
decreasing_by
  have := List.sizeOf_lt_of_mem x.2
  simp only [Tm.mk.sizeOf_spec]
  omega
def encs (l : List Tm) : List Dv := l.map enc
theorem enc_mk (k h : Int) (l : List Tm) : enc (.mk k h l) = .agg [.int .i64 k, .int .i64 h, .slc (encs l)] := by
  rw [enc]
  simp [encs]
theorem encs_length (l : List Tm) : (encs l).length = l.length := by simp [encs]
theorem encs_get (l : List Tm) (i : Nat) : (encs l)[i]? = (l[i]?).map enc := by simp [encs]
theorem encs_append (a b : List Tm) : encs (a ++ b) = encs a ++ encs b := by simp [encs]
theorem encs_take (a : List Tm) (n : Nat) : encs (a.take n) = (encs a).take n := by simp [encs]
theorem encs_drop [N0] (a : List Tm) (n : Nat) : encs (a.drop n) = (encs a).drop n := by simp [encs]
theorem enc_width (t : Tm) : (enc t).width = 3 := by cases t; rw [enc_mk]; rfl
theorem encs_all (l : List Tm) : ((encs l).all fun x => x.width == 3) = true := by
  simp [encs, enc_width]
theorem enc_cells (t : Tm) : (enc t).cells = [.int .i64 t.kind, .int .i64 t.head, .slc (encs t.args)] := by cases t; rw [enc_mk]; rfl
theorem enc_eq (t : Tm) : enc t = .agg [.int .i64 t.kind, .int .i64 t.head, .slc (encs t.args)] := by cases t; rw [enc_mk]; rfl

theorem cells_enc (t : Tm) : AV.cells (.d (enc t)) = [.d (.int .i64 t.kind), .d (.int .i64 t.head), .d (.slc (encs t.args))] := by rw [enc_eq]; rfl
theorem encs_snoc {l : List Tm} {i : Nat} (h : i < l.length) : encs (l.take i) ++ [enc l[i]] = encs (l.take (i + 1)) := by
  rw [List.take_add_one, List.getElem?_eq_getElem h, encs_append]; rfl
theorem encs_take_len {l : List Tm} {i : Nat} (h : i ≤ l.length) : (encs (l.take i)).length = i := by simp [encs]; omega
theorem enc_fold (t : Tm) : Dv.agg [.int .i64 t.kind, .int .i64 t.head, .slc (encs t.args)] = enc t := (enc_eq t).symm
theorem wrap_ok {n : Int} (h1 : -9223372036854775808 ≤ n) (h2 : n ≤ 9223372036854775807) : IntKind.wrap .i64 n = n := by
  simp only [IntKind.wrap, IntKind.signed, IntKind.bits]
  simp
  omega
theorem wrap_succ {n : Nat} (h : n < 9223372036854775807) : IntKind.wrap .i64 ((n : Int) + 1) = ((n + 1 : Nat) : Int) := by
  rw [wrap_ok (by omega) (by omega)]; omega
theorem lt_true {i n : Nat} (h : i < n) : decide ((i : Int) < (n : Int)) = true := by simpa using h
theorem lt_false {i n : Nat} (h : n ≤ i) : decide ((i : Int) < (n : Int)) = false := by simpa using h
set_option linter.unusedVariables false in
theorem Tm.ind {P : Tm → Prop} (h : ∀ t : Tm, (∀ x ∈ t.args, P x) → P t) : ∀ t : Tm, P t
  | .mk k hd l => h _ fun x hx => Tm.ind h x
decreasing_by
  have := List.sizeOf_lt_of_mem hx
  simp only [Tm.mk.sizeOf_spec, Tm.args] at *
  omega
def Tm.size : Tm → Nat
  | .mk _ _ l => 1 + (l.attach.map fun x => x.1.size).sum
decreasing_by
  have := List.sizeOf_lt_of_mem x.2
  simp only [Tm.mk.sizeOf_spec]
  omega
theorem size_eq (t : Tm) : t.size = 1 + (t.args.map Tm.size).sum := by
  cases t
  rw [Tm.size]
  simp [Tm.args]
def Tm.depth : Tm → Nat
  | .mk _ _ l => 1 + (l.attach.map fun x => x.1.depth).foldr max 0
decreasing_by
  have := List.sizeOf_lt_of_mem x.2
  simp only [Tm.mk.sizeOf_spec]
  omega
theorem depth_eq (t : Tm) : t.depth = 1 + (t.args.map Tm.depth).foldr max 0 := by
  cases t
  rw [Tm.depth]
  simp [Tm.args]
theorem sum_mem {l : List Nat} {n : Nat} (h : n ∈ l) : n ≤ l.sum := by
  induction l with
  | nil => cases h
  | cons a l ih =>
    simp only [List.sum_cons]
    rcases List.mem_cons.1 h with rfl | h
    · omega
    · have := ih h; omega
theorem size_arg {t x : Tm} (h : x ∈ t.args) : x.size < t.size := by
  rw [size_eq t]
  have := sum_mem (List.mem_map_of_mem (f := Tm.size) h)
  omega
theorem size_pos (t : Tm) : 0 < t.size := by rw [size_eq]; omega
theorem len_sum (l : List Tm) : l.length ≤ (l.map Tm.size).sum := by
  induction l with
  | nil => simp
  | cons a l ih => have := size_pos a; simp only [List.map_cons, List.sum_cons, List.length_cons]; omega
theorem len_size (t : Tm) : t.args.length < t.size := by
  rw [size_eq]; have := len_sum t.args; omega
/-! ### loops -/
def allB : Nat → (Nat → Bool) → Bool
  | 0, _ => true
  | n + 1, p => p 0 && allB n fun i => p (i + 1)
theorem allB_iff : ∀ (n : Nat) (p : Nat → Bool), allB n p = true ↔ ∀ i, i < n → p i = true
  | 0, p => by simp [allB]
  | n + 1, p => by
    simp only [allB, Bool.and_eq_true, allB_iff n]
    constructor
    · rintro ⟨h0, h⟩ i hi
      cases i with
      | zero => exact h0
      | succ i => exact h i (by omega)
    · intro h
      exact ⟨h 0 (by omega), fun i hi => h (i + 1) (by omega)⟩
theorem allB_first : ∀ (n : Nat) (p : Nat → Bool), allB n p = false → ∃ j, j < n ∧ p j = false ∧ ∀ i, i < j → p i = true
  | 0, p, h => by simp [allB] at h
  | n + 1, p, h => by
    simp only [allB, Bool.and_eq_false_iff] at h
    by_cases h0 : p 0 = false
    · exact ⟨0, by omega, h0, by omega⟩
    · obtain ⟨j, h1, h2, h3⟩ := allB_first n _ (h.resolve_left h0)
      refine ⟨j + 1, by omega, h2, fun i hi => ?_⟩
      cases i with
      | zero => simpa using h0
      | succ i => exact h3 i (by omega)
theorem allB_congr {n : Nat} {p q : Nat → Bool} (h : ∀ i, i < n → p i = q i) : allB n p = allB n q := by
  rw [Bool.eq_iff_iff, allB_iff, allB_iff]
  exact ⟨fun k i hi => h i hi ▸ k i hi, fun k i hi => (h i hi).symm ▸ k i hi⟩
/-- A loop that ends early where something is not so. -/
theorem loop_all [N0] {f : Nat} {b : Code} (S : Nat → St) (n : Nat) (p : Nat → Bool) {E R : Ex × St} (h : ∀ i, i < n → p i = true → (lim C).code f b (S i) = some (.nor, S (i + 1)))
    (hr : ∀ i, i < n → p i = false → (lim C).code f b (S i) = some R) (he : (lim C).code f b (S n) = some E) (hR : R.1 ≠ .nor) (hE : E.1 ≠ .nor) :
    (lim C).code f (.loop b) (S 0) = some (if allB n p then E else R) := by
  by_cases hall : allB n p = true
  · rw [if_pos hall]
    exact loop_run S n (fun i hi => h i hi ((allB_iff n p).1 hall i hi)) he hE
  · rw [if_neg hall]
    obtain ⟨j, h1, h2, h3⟩ := allB_first n p (by simpa using hall)
    exact loop_run S j (fun i hi => h i (by omega) (h3 i hi)) (hr j h1 h2) hR
def Tm.arg (t : Tm) (i : Nat) : Tm := t.args.getD i default
theorem arg_get {t : Tm} {i : Nat} (h : i < t.args.length) : t.args[i]? = some (t.arg i) := by
  simp [Tm.arg, List.getD, List.getElem?_eq_getElem h]
theorem arg_mem {t : Tm} {i : Nat} (h : i < t.args.length) : t.arg i ∈ t.args := List.mem_of_getElem? (arg_get h)
theorem arg_eq {t : Tm} {i : Nat} (h : i < t.args.length) : t.args[i] = t.arg i := by
  have := arg_get h
  rw [List.getElem?_eq_getElem h] at this
  simpa using this
def cel3 (t : Tm) : List AV := [.d (.int .i64 t.kind), .d (.int .i64 t.head), .d (.slc (encs t.args))]
abbrev dI (n : Int) : AV := .d (.int .i64 n)
abbrev dB (b : Bool) : AV := .d (.bool b)
abbrev dT (t : Tm) : AV := .d (enc t)
abbrev dL (l : List Tm) : AV := .d (.slc (encs l))
/-- How long a law's input may be, and what it comes to. -/
abbrev retI (n : Int) : Option (CR × List HO) := some (.ret (dI n), [])
abbrev retB (b : Bool) : Option (CR × List HO) := some (.ret (dB b), [])

theorem field_kind (P : Program) (t : Nat) (r : Tm) (h : tag P t = some false) : fieldK P (some (0, 1, t)) (.d (enc r)) = some (.val (.d (.int .i64 r.kind))) := by
  rw [enc_eq]; simp [fieldK, h]
theorem field_head (P : Program) (t : Nat) (r : Tm) (h : tag P t = some false) : fieldK P (some (1, 1, t)) (.d (enc r)) = some (.val (.d (.int .i64 r.head))) := by
  rw [enc_eq]; simp [fieldK, h]
theorem field_args (P : Program) (t : Nat) (r : Tm) (h : tag P t = some false) : fieldK P (some (2, 1, t)) (.d (enc r)) = some (.val (.d (.slc (encs r.args)))) := by
  rw [enc_eq]; simp [fieldK, h]
/-- A slice that grows: none yet, or its own. -/
def acc (t : Nat) : List Dv → AV
  | [] => .clip []
  | x :: xs => .own t (x :: xs)
def accT (n : Nat) : List (Option Nat) := match n with
  | 0 => []
  | n + 1 => [some (n + 1)]
theorem mApp_acc [N0] (xs : List Dv) (y : Dv) (sz : Nat) (locs : List (Option (List AV))) (heap : List HO) (hr : xs.length < room) (hx : (xs.all fun x => x.width == sz) = true) (hy : y.width = sz) :
    mApp (acc 0 xs) [y] sz { locs := locs, heap := heap, toks := accT xs.length } = some (.v (acc 0 (xs ++ [y])), { locs := locs, heap := heap, toks := accT (xs.length + 1) }) := by
  cases xs with
  | nil =>
    simp only [acc, mApp, accT, List.length_nil]
    simp [appOwn, acc, hy, room]
  | cons x xs =>
    simp only [acc, mApp, accT, List.length_cons]
    have : xs.length + 1 + 1 ≤ room := hr
    simp only [appOwn]
    simp [this, acc, hy]
    simpa using hx
theorem app_first [N0] (ys : List Dv) (sz : Nat) (locs : List (Option (List AV))) (heap : List HO) (hr : ys.length ≤ room) (hw : (ys.all fun x => x.width == sz) = true) (hg : (ys.isEmpty && !(sz == 3)) = false := by simp) :
    mApp (.clip []) ys sz { locs := locs, heap := heap, toks := [] } = some (.v (.own 0 ys), { locs := locs, heap := heap, toks := [some ys.length] }) := by
  simp only [mApp, appOwn, List.length_nil, List.nil_append, Nat.zero_add, List.isEmpty_nil, Bool.true_and, hg, Bool.false_eq_true, if_false]
  simp only [hr, hw]
  simp
/-- What is appended to nothing, of any width but 3: nothing, or its own. -/
theorem app_any [N0] (ys : List Dv) (sz : Nat) (h3 : (sz == 3) = false) (locs : List (Option (List AV))) (heap : List HO) (hr : ys.length ≤ room) (hw : (ys.all fun x => x.width == sz) = true) :
    mApp (.clip []) ys sz { locs := locs, heap := heap, toks := [] } = some (.v (acc 0 ys), { locs := locs, heap := heap, toks := accT ys.length }) := by
  cases ys with
  | nil => simp [mApp, h3, acc, accT]
  | cons y ys => exact app_first (y :: ys) sz locs heap hr hw (by simp)
theorem app_any2 [N0] (xs ys : List Dv) (sz : Nat) (h3 : (sz == 3) = false) (locs : List (Option (List AV))) (heap : List HO) (hr : xs.length + ys.length ≤ room) (hx : (xs.all fun x => x.width == sz) = true) (hw : (ys.all fun x => x.width == sz) = true) :
    mApp (acc 0 xs) ys sz { locs := locs, heap := heap, toks := accT xs.length } = some (.v (acc 0 (xs ++ ys)), { locs := locs, heap := heap, toks := accT (xs ++ ys).length }) := by
  cases xs with
  | nil => exact app_any ys sz h3 locs heap (by simpa using hr) hw
  | cons x xs =>
    have hlen : (x :: xs ++ ys).length = (x :: xs).length + ys.length := List.length_append
    show mApp (.own 0 (x :: xs)) ys sz { locs := locs, heap := heap, toks := [some (x :: xs).length] } = some (.v (.own 0 (x :: xs ++ ys)), { locs := locs, heap := heap, toks := [some (x :: xs ++ ys).length] })
    rw [hlen]
    simp only [mApp, appOwn, List.isEmpty_cons, Bool.false_and, Bool.false_eq_true, if_false]
    simp only [hr, hx, hw]
    simp
theorem app_more [N0] (xs ys : List Dv) (sz : Nat) (hg : (xs.isEmpty && !(sz == 3)) = false) (locs : List (Option (List AV))) (heap : List HO) (hr : xs.length + ys.length ≤ room) (hx : (xs.all fun x => x.width == sz) = true) (hw : (ys.all fun x => x.width == sz) = true) :
    mApp (.own 0 xs) ys sz { locs := locs, heap := heap, toks := [some xs.length] } = some (.v (.own 0 (xs ++ ys)), { locs := locs, heap := heap, toks := [some (xs.length + ys.length)] }) := by
  simp only [mApp, appOwn, hg]
  simp only [hr, hx, hw]
  simp
theorem acc_sl (t : Nat) (xs : List Dv) : (acc t xs).sl = some xs := by cases xs <;> rfl
theorem acc_okA (t : Nat) (xs : List Dv) : (acc t xs).okA = true := by cases xs <;> rfl
theorem acc_toDv (t : Nat) (xs : List Dv) : (acc t xs).toDv = none := by cases xs <;> rfl
theorem acc_flat (t : Nat) (xs : List Dv) : (acc t xs).flat = true := by cases xs <;> rfl
theorem acc_cells (t : Nat) (xs : List Dv) : (acc t xs).cells = [acc t xs] := by cases xs <;> rfl
theorem acc_inv [N0] (t : Nat) (ps : List Nat) (xs : List Dv) : (acc t xs).inv ps = acc t xs := by cases xs <;> rfl
attribute [go_sem] field_kind field_head field_args
attribute [go_sem] acc_sl acc_okA acc_toDv acc_flat acc_cells acc_inv encs_length enc_width enc_cells encs_get enc_fold cells_enc cel3
/-- What is handed back, new. -/
def nL [N0] (l : List Tm) : AV := .kn newV (encs l)
def nT [N0] (t : Tm) : AV := .arr [.d (.int .i64 t.kind), .d (.int .i64 t.head), .kn newV (encs t.args)]
theorem nT_ok [N0] (t : Tm) : (nT t).okA = true := rfl
theorem nT_pure [N0] (t : Tm) : (nT t).pure = true := rfl
theorem nT_keep [N0] (t : Tm) : (nT t).retE newV [] = nT t := rfl
theorem acc_kept (xs : List Dv) : (acc 0 xs).kept = acc 0 xs := by cases xs <;> rfl
attribute [go_sem] acc_kept
theorem acc_ret [N0] (xs : List Dv) : (acc 0 xs).retE newV (accT xs.length) = .kn newV xs := by
  cases xs with
  | nil => rfl
  | cons x xs => simp [acc, accT, AV.retE]
end Go.Proofs.Ytmmhpmfgcenngaa
/- A number of a term that a call has made is written: what the variables hold then. -/
set_option linter.unusedSimpArgs false
set_option linter.unusedVariables false
namespace Go.Proofs.Ytmmhpmfgcenngaa
open Go.Proofs
/-- A term as it was handed over. -/
def oT (S : Value) (t : Tm) : AV := .arr [.d (.int .i64 t.kind), .d (.int .i64 t.head), .kn (fun V => V = S) (encs t.args)]
theorem encs_at0 {t x : Tm} {l : List Tm} (h : t.args = x :: l) : (encs t.args)[0]? = some (enc x) := by rw [h]; rfl
/-- Terms of one shape. -/
theorem shs_encs {l : List Tm} (ih : ∀ x ∈ l, ∀ y, sh (enc x) y → ∃ u, y = enc u ∧ u.size = x.size) : ∀ ys, shs (encs l) ys → ∃ m, ys = encs m ∧ m.length = l.length ∧ (m.map Tm.size).sum = (l.map Tm.size).sum := by
  induction l with
  | nil =>
    intro ys h
    simp only [encs, List.map_nil, shs] at h
    exact ⟨[], by simp [encs, h], rfl, rfl⟩
  | cons x l il =>
    intro ys h
    simp only [encs, List.map_cons, shs] at h
    obtain ⟨y, ys', rfl, h1, h2⟩ := h
    obtain ⟨u, rfl, hu⟩ := ih x (by simp) y h1
    obtain ⟨m, rfl, hm1, hm2⟩ := il (fun z hz => ih z (by simp [hz])) ys' h2
    exact ⟨u :: m, rfl, by simp [hm1], by simp [hu, hm2]⟩
theorem sh_enc : ∀ (t : Tm) (y : Dv), sh (enc t) y → ∃ u, y = enc u ∧ u.size = t.size := by
  refine Tm.ind fun t ih y h => ?_
  rw [enc_eq] at h
  simp only [sh, shs] at h
  obtain ⟨ys, rfl, y1, ys1, rfl, ⟨k, rfl⟩, y2, ys2, rfl, ⟨hd, rfl⟩, y3, ys3, rfl, ⟨zs, rfl, hz⟩, rfl⟩ := h
  obtain ⟨m, rfl, hm1, hm2⟩ := shs_encs ih zs hz
  refine ⟨.mk k hd m, by rw [enc_mk], ?_⟩
  rw [size_eq, size_eq t, hm2.symm]
  rfl
theorem shs_terms (l : List Tm) (ys : List Dv) (h : shs (encs l) ys) : ∃ m, ys = encs m ∧ m.length = l.length ∧ (m.map Tm.size).sum = (l.map Tm.size).sum := shs_encs (fun x _ y => sh_enc x y) ys h

/-- What does not lean on memory. -/
def AV.calm : AV → Bool
  | .d (.int _ _) => true
  | .d (.bool _) => true
  | .lref _ _ => true
  | .undef => true
  | _ => false
section
variable {E : Ent} {dm : List Nat} {G : Gh} {h h' h0 : Array Obj} {M M' : Nat → Nat → Prop} {σ : St} {a : Act} {w : World}
theorem ar_calm {v : AV} {V : Value} (hc : v.calm = true) (e : ar G h M v V) : ar G h' M' v V := by
  cases v with
  | d x => cases x <;> simp [AV.calm] at hc <;> simpa [ar, rep] using e
  | lref p o => simpa [ar] using e
  | undef => simp [ar]
  | _ => simp [AV.calm] at hc
theorem lookA_mem : ∀ (ts : List (Nat × AV)) (t : Nat), lookA ts t = .undef ∨ ∃ kv ∈ ts, kv.1 = t ∧ lookA ts t = kv.2
  | [], t => .inl rfl
  | (k, v) :: r, t => by
    simp only [lookA]
    split
    · rename_i e; exact .inr ⟨(k, v), by simp, e.symm, rfl⟩
    · rcases lookA_mem r t with q | ⟨kv, q1, q2, q3⟩
      · exact .inl q
      · exact .inr ⟨kv, by simp [q1], q2, q3⟩
/-- Slots that do not lean on memory, where memory turns. -/
theorem ft_calm {n : Nat} {ts ts' : List (Nat × AV)} {T : Array Value} (f : FT G h M (tl n ts) T) (hk : ∀ kv ∈ ts', kv.2.calm = true ∧ lookA ts kv.1 = kv.2) : FT G h' M' (tl n ts') T := by
  refine ⟨by rw [tl_length, ← f.tl, tl_length], fun t v hv => ?_⟩
  rw [tl_get] at hv
  split at hv
  · rename_i hlt
    cases hv
    rcases lookA_mem ts' t with q | ⟨kv, q1, q2, q3⟩
    · rw [q]; simp [ar]
    · obtain ⟨c1, c2⟩ := hk kv q1
      rw [q3]
      have := f.tm t (lookA ts t) (by rw [tl_get, if_pos hlt])
      rw [← q2, c2] at this
      rw [← q2]
      exact ar_calm c1 this
  · cases hv

/-- The place that is written. -/
structure Spot (G : Gh) (h h0 : Array Obj) (V S : Value) (d : Nat) (k : IntKind) (n : Int) (b off : Nat) (c : Array Value) (T : TypeId) : Prop where
  ptr : V = .pointer (some ⟨b, off, none⟩)
  obj : h[b]? = some (.cells c T (0, 0))
  cell : c[off]? = some (.int k n)
  new : h0.size ≤ b
  loc : ∀ q b' : Nat, G.lb[q]? = some (some b') → b' ≠ b
  sl : ∃ o m cp, S = .slice (some ⟨b, o, none⟩) m cp ∧ off = o + d
theorem FR.spot [N0] (f : FR (ent0 h0) dm G σ a h) (hn : N0.n0 = h0.size) {V S : Value} {d : Nat} {k : IntKind} {n : Int} {cs : List Dv} (e : ar G h (Mut (ent0 h0).X G) (.kp (fun V => V = S) d (.int k n :: cs)) V) (hS : newV S) : ∃ b off c T, Spot G h h0 V S d k n b off c T := by
  simp only [ar] at e
  obtain ⟨⟨b, off, Vs, rfl, e1, e2⟩, b', o, m, cp, rfl, hm, e3⟩ := e
  simp only [Value.pointer.injEq, Option.some.injEq, Addr.mk.injEq] at e3
  obtain ⟨rfl, rfl, _⟩ := e3
  simp only [reps] at e1
  obtain ⟨V0, Vs', rfl, r1, _, _⟩ := e1
  simp only [rep] at r1
  subst r1
  have h0c := e2 0 _ rfl
  rw [Nat.add_zero] at h0c
  have hnb : N0.n0 ≤ b := hS _ _ _ rfl hm
  have hc := h0c.1
  unfold cel at hc
  cases ho : h[b]? with
  | none => rw [ho] at hc; cases hc
  | some ob =>
    rw [ho] at hc
    cases ob with
    | cells c T fz =>
      obtain rfl := f.ev.nb b hnb c T fz ho
      exact ⟨b, _, c, T, rfl, ho, hc, hn ▸ hnb, fun q b' hq e => h0c.2 (.inr (.inl (.inl ⟨q, by rw [hq, e]⟩))), o, m, cp, rfl, rfl⟩
    | _ => cases hc

variable {V S : Value} {d : Nat} {k : IntKind} {n m : Int} {b off : Nat} {c : Array Value} {T : TypeId}
theorem Spot.lt (s : Spot G h h0 V S d k n b off c T) : off < c.size := by
  rcases Nat.lt_or_ge off c.size with h | h
  · exact h
  · have := s.cell; simp [Array.getElem?_eq_none h] at this
/-- Memory with a number more. -/
structure Poked (h h' : Array Obj) (b off : Nat) (k : IntKind) (m : Int) (c c' : Array Value) (T : TypeId) : Prop where
  size : h'.size = h.size
  new : h'[b]? = some (.cells c' T (0, 0))
  oth : ∀ q, q ≠ b → h'[q]? = h[q]?
  at_ : cel h' b off = some (.int k m)
  cel : ∀ o, o ≠ off → cel h' b o = cel h b o
theorem poked_row [N0] (s : Spot G w.heap h0 V S d k n b off c T) (m : Int) : ∃ c', Poked w.heap (w.setRow b (c.toList.take off ++ [Value.int k m] ++ c.toList.drop (off + 1)).toArray).heap b off k m c c' T := by
  have hlt := s.lt
  have hnew : (w.setRow b (c.toList.take off ++ [Value.int k m] ++ c.toList.drop (off + 1)).toArray).heap[b]? = some (.cells (c.toList.take off ++ [Value.int k m] ++ c.toList.drop (off + 1)).toArray T (0, 0)) := setRow_heap w b _ _ T _ s.obj
  refine ⟨_, by simp, hnew, fun q hq => setRow_other w b q _ hq, ?_, fun o ho => ?_⟩
  · unfold Go.Proofs.Ytmmhpmfgcenngaa.cel
    rw [hnew]
    simp only [List.getElem?_toArray]
    rw [List.append_assoc, List.getElem?_append_right (by simp; omega)]
    simp [Nat.min_eq_left (Nat.le_of_lt hlt)]
  · unfold Go.Proofs.Ytmmhpmfgcenngaa.cel
    rw [hnew, s.obj]
    simp only [List.getElem?_toArray]
    rcases Nat.lt_or_gt_of_ne ho with h1 | h1
    · rw [List.append_assoc, List.getElem?_append_left (by simp; omega), List.getElem?_take, if_pos h1, Array.getElem?_toList]
    · rw [List.append_assoc, List.getElem?_append_right (by simp; omega), List.length_take, Array.length_toList, Nat.min_eq_left (Nat.le_of_lt hlt), List.getElem?_append_right (by simp; omega), List.length_singleton, List.getElem?_drop, Array.getElem?_toList]
      congr 1; omega
theorem Poked.turns {c' : Array Value} (p : Poked h h' b off k m c c' T) (hc : Go.Proofs.Ytmmhpmfgcenngaa.cel h b off = some (.int k n)) : Turns h h' := fun b1 o v e => by
  by_cases hb : b1 = b
  · subst hb
    by_cases ho : o = off
    · subst ho
      rw [hc] at e
      cases e
      exact ⟨_, p.at_, .inr ⟨k, n, m, rfl, rfl⟩⟩
    · exact ⟨v, by rw [p.cel o ho]; exact e, .inl rfl⟩
  · exact ⟨v, by rw [cel_same (p.oth b1 hb)]; exact e, .inl rfl⟩
theorem Spot.cel (s : Spot G h h0 V S d k n b off c T) : Go.Proofs.Ytmmhpmfgcenngaa.cel h b off = some (.int k n) := by
  unfold Go.Proofs.Ytmmhpmfgcenngaa.cel
  rw [s.obj]
  exact s.cell
/-- What was at the beginning is as it was. -/
theorem Poked.old [N0] {c' : Array Value} (p : Poked h h' b off k m c c' T) (s : Spot G h h0 V S d k n b off c T) (f : FR (ent0 h0) dm G σ a h) : Stay h0 (fun _ _ => False) h' (Mut (ent0 h0).X G) := fun b1 o v e _ => by
  have h1 := f.old (fun _ _ h => h) (fun b o => nogh_Mh b o) b1 o v e (fun h => h)
  have hlt := cel_lt e
  have := s.new
  exact ⟨by rw [cel_same (p.oth b1 (by omega))]; exact h1.1, h1.2⟩
/-- The frame, behind the store. -/
theorem fr_poked [N0] {c' : Array Value} {nt : Nat} {ts ts' : List (Nat × AV)} {ls ls' : List (Nat × List AV)} (f : FR (ent0 h0) dm G (mk nt ts ls [] []) a h) (s : Spot G h h0 V S d k n b off c T) (p : Poked h h' b off k m c c' T)
    (hts : ∀ kv ∈ ts', kv.2.calm = true ∧ lookA ts kv.1 = kv.2)
    (hls : ∀ q cs, q < nt → lookL ls' q = some cs → okL cs = true ∧ ∃ cs0, lookL ls q = some cs0 ∧ ∀ Vs, ars G h (Mut (ent0 h0).X G) cs0 Vs → ars G h' (Mut (ent0 h0).X G) cs Vs) : FR (ent0 h0) dm G (mk nt ts' ls' [] []) a h' := by
  refine f.poke s.obj s.new p.size p.new p.oth rfl (ft_calm f.ft hts) ⟨by simp only [mk, ll_length]; have := f.fl.ll; simpa [mk, ll_length] using this, fun q cs hq => ?_⟩ rfl rfl rfl rfl
  simp only [mk, ll_get] at hq
  split at hq
  · rename_i hlt
    obtain ⟨h1, cs0, h2, h3⟩ := hls q cs hlt (by simpa using hq)
    obtain ⟨b1, Vs, T1, k1, k2, k3, k4, k5⟩ := f.fl.lc q cs0 (by simp only [mk, ll_get, if_pos hlt, h2])
    exact ⟨b1, Vs, T1, k1, by rw [p.oth b1 (s.loc q b1 k1)]; exact k2, h3 Vs k3, h1, k5⟩
  · cases hq
end
end Go.Proofs.Ytmmhpmfgcenngaa
/- What the functions of layer 1 come to: in plain words. -/
namespace Go.Proofs.Ytmmhpmfgcenngaa
def bnd (t : Tm) (i : Nat) : Nat := if (t.kind = 1 ∨ t.kind = 3) ∧ i + 1 = t.args.length then 1 else 0
theorem bnd_le (t : Tm) (i : Nat) : bnd t i ≤ 1 := by unfold bnd; split <;> omega
def lowB : Tm → Bool
  | .mk _ h l => decide (h ≤ 1099511627776) && allB l.length fun i => if hi : i < l.length then lowB l[i] else true
decreasing_by
  have := List.sizeOf_lt_of_mem (List.getElem_mem hi)
  simp only [Tm.mk.sizeOf_spec]
  omega
theorem lowB_eq (t : Tm) : lowB t = (decide (t.head ≤ 1099511627776) && allB t.args.length fun i => lowB (t.arg i)) := by
  obtain ⟨k, h, l⟩ := t
  rw [lowB]
  congr 1
  refine allB_congr fun i hi => ?_
  have := arg_eq (t := .mk k h l) hi
  simp only [Tm.args] at this
  simp [hi, this]
def nodeOk (t : Tm) : Bool :=
  if t.kind = 0 then t.head == 0 && t.args.length == 0
  else if t.kind = 1 then t.head == 0 && t.args.length == 2
  else if t.kind = 3 then t.head == 0 && t.args.length == 1
  else decide (0 ≤ t.kind) && decide (t.kind < 7) && decide (0 ≤ t.head)
def nodesB : Tm → Bool
  | .mk k h l => nodeOk (.mk k h l) && allB l.length fun i => if hi : i < l.length then nodesB l[i] else true
decreasing_by
  have := List.sizeOf_lt_of_mem (List.getElem_mem hi)
  simp only [Tm.mk.sizeOf_spec]
  omega
theorem nodesB_eq (t : Tm) : nodesB t = (nodeOk t && allB t.args.length fun i => nodesB (t.arg i)) := by
  obtain ⟨k, h, l⟩ := t
  rw [nodesB]
  congr 1
  refine allB_congr fun i hi => ?_
  have := arg_eq (t := .mk k h l) hi
  simp only [Tm.args] at this
  simp [hi, this]
def scopedB : Tm → Int → Int → Bool
  | .mk k h l, v, m => !(k == 4 && decide (h ≥ v) || k == 6 && decide (h ≥ m)) && allB l.length fun i => if hi : i < l.length then scopedB l[i] (v + bnd (.mk k h l) i) m else true
decreasing_by
  have := List.sizeOf_lt_of_mem (List.getElem_mem hi)
  simp only [Tm.mk.sizeOf_spec]
  omega
theorem scopedB_eq (t : Tm) (v m : Int) : scopedB t v m = (!(t.kind == 4 && decide (t.head ≥ v) || t.kind == 6 && decide (t.head ≥ m)) && allB t.args.length fun i => scopedB (t.arg i) (v + bnd t i) m) := by
  obtain ⟨k, h, l⟩ := t
  rw [scopedB]
  congr 1
  refine allB_congr fun i hi => ?_
  have := arg_eq (t := .mk k h l) hi
  simp only [Tm.args] at this
  simp [hi, this]
def sameB : Tm → Tm → Bool
  | .mk k h l, u => k == u.kind && h == u.head && l.length == u.args.length && allB l.length fun i => if hi : i < l.length then sameB l[i] (u.arg i) else true
decreasing_by
  have := List.sizeOf_lt_of_mem (List.getElem_mem hi)
  simp only [Tm.mk.sizeOf_spec]
  omega
theorem sameB_eq (t u : Tm) : sameB t u = (t.kind == u.kind && t.head == u.head && t.args.length == u.args.length && allB t.args.length fun i => sameB (t.arg i) (u.arg i)) := by
  obtain ⟨k, h, l⟩ := t
  rw [sameB]
  congr 1
  refine allB_congr fun i hi => ?_
  have := arg_eq (t := .mk k h l) hi
  simp only [Tm.args] at this
  simp [hi, this]
theorem sameB_refl : ∀ t : Tm, sameB t t = true := by
  refine Tm.ind fun t ih => ?_
  rw [sameB_eq]
  simp only [beq_self_eq_true, Bool.true_and, allB_iff]
  exact fun i hi => ih _ (arg_mem hi)
theorem sameB_comm : ∀ t u : Tm, sameB t u = sameB u t := by
  refine Tm.ind fun t ih u => ?_
  rw [sameB_eq, sameB_eq u t]
  by_cases h : t.args.length = u.args.length
  · rw [← h]
    rw [allB_congr (q := fun i => sameB (u.arg i) (t.arg i)) fun i hi => ih _ (arg_mem hi) _]
    rw [Bool.beq_comm (a := t.kind), Bool.beq_comm (a := t.head)]
  · have h1 : (t.args.length == u.args.length) = false := by simpa using h
    have h2 : (u.args.length == t.args.length) = false := by simpa using Ne.symm h
    simp [h1, h2]
def mayB (t : Tm) : Bool := nodesB t && decide (t.size ≤ 4000) && decide (t.depth ≤ 60)
def lightB (t : Tm) (s d : Int) : Bool := lowB t && decide ((t.size : Int) ≤ s) && decide ((t.depth : Int) ≤ d)
end Go.Proofs.Ytmmhpmfgcenngaa
/- What walks over a term come to. -/
namespace Go.Proofs.Ytmmhpmfgcenngaa
def bindsB (t : Tm) : Bool := t.kind == 1 || t.kind == 3
def runL {α S R : Type} (step : S → α → Except R S) : List α → S → Except R S
  | [], s => .ok s
  | x :: xs, s => match step s x with
    | .ok s' => runL step xs s'
    | .error r => .error r
theorem runL_append {α S R : Type} (step : S → α → Except R S) : ∀ (a b : List α) (s : S), runL step (a ++ b) s = match runL step a s with
    | .ok s' => runL step b s'
    | .error r => .error r
  | [], b, s => rfl
  | x :: a, b, s => by
    simp only [List.cons_append, runL]
    cases step s x with
    | ok s' => exact runL_append step a b s'
    | error r => rfl
def preF (go : Tm → Int → List (Int × Tm)) (t : Tm) (n : Int) : Nat → Nat → List (Int × Tm)
  | 0, _ => []
  | k + 1, i => go (t.arg i) (n + bnd t i) ++ preF go t n k (i + 1)
/-- All nodes of a term, with how many nodes bind around each. -/
def pre : Tm → Int → List (Int × Tm)
  | .mk k h l, n => (n, .mk k h l) :: (List.range l.length).flatMap fun i => if hi : i < l.length then pre l[i] (n + bnd (.mk k h l) i) else []
decreasing_by
  have := List.sizeOf_lt_of_mem (List.getElem_mem hi)
  simp only [Tm.mk.sizeOf_spec]
  omega
theorem preF_flat (t : Tm) (n : Int) : ∀ k i, preF pre t n k i = (List.range' i k).flatMap fun j => pre (t.arg j) (n + bnd t j)
  | 0, i => rfl
  | k + 1, i => by simp only [preF, preF_flat t n k, List.range'_succ, List.flatMap_cons]
theorem flatMap_congr' {α β : Type} {l : List α} {f g : α → List β} (h : ∀ x ∈ l, f x = g x) : l.flatMap f = l.flatMap g := by
  induction l with
  | nil => rfl
  | cons a l ih => rw [List.flatMap_cons, List.flatMap_cons, h a (by simp), ih fun x hx => h x (by simp [hx])]
theorem pre_eq (t : Tm) (n : Int) : pre t n = (n, t) :: preF pre t n t.args.length 0 := by
  obtain ⟨k, h, l⟩ := t
  rw [pre, preF_flat]
  congr 1
  rw [List.range_eq_range']
  refine flatMap_congr' fun i hi => ?_
  have hi' : i < l.length := by simp at hi; exact hi
  have := arg_eq (t := .mk k h l) hi'
  simp only [Tm.args] at this
  simp [hi', this]
theorem preF_len [N0] (t : Tm) (n : Int) (h : ∀ x ∈ t.args, ∀ m, (pre x m).length = x.size) : ∀ k i, i + k = t.args.length → (preF pre t n k i).length = ((t.args.drop i).map Tm.size).sum
  | 0, i, e => by rw [List.drop_eq_nil_of_le (by omega)]; rfl
  | k + 1, i, e => by
    have hi : i < t.args.length := by omega
    rw [preF, List.length_append, preF_len t n h k (i + 1) (by omega), h _ (arg_mem hi), List.drop_eq_getElem_cons hi, arg_eq hi]
    simp
theorem pre_len [N0] : ∀ (t : Tm) (n : Int), (pre t n).length = t.size := by
  refine Tm.ind fun t ih n => ?_
  rw [pre_eq, List.length_cons, preF_len t n (fun x hx m => ih x hx m) _ _ (by omega), size_eq]
  simp; omega
theorem pre_sub {t : Tm} {n : Int} {i : Nat} (hi : i < t.args.length) {p : Int × Tm} (hp : p ∈ pre (t.arg i) (n + bnd t i)) : p ∈ pre t n := by
  rw [pre_eq, preF_flat]
  refine List.mem_cons_of_mem _ (List.mem_flatMap.2 ⟨i, ?_, hp⟩)
  simpa using hi
theorem pre_ind {P : Int × Tm → Prop} {t : Tm} {n : Int} (h0 : P (n, t)) (h : ∀ i, i < t.args.length → ∀ p ∈ pre (t.arg i) (n + bnd t i), P p) : ∀ p ∈ pre t n, P p := by
  rw [pre_eq, preF_flat]
  intro p hp
  rcases List.mem_cons.1 hp with rfl | hp
  · exact h0
  · obtain ⟨i, hi, hp⟩ := List.mem_flatMap.1 hp
    exact h i (by simpa using hi) p hp
theorem pre_size : ∀ (t : Tm) (n : Int), ∀ p ∈ pre t n, p.2.size ≤ t.size := by
  refine Tm.ind fun t ih n => pre_ind (Nat.le_refl _) fun i hi p hp => ?_
  have := ih _ (arg_mem hi) _ p hp
  have := size_arg (arg_mem hi)
  omega
theorem pre_around : ∀ (t : Tm) (n : Int), ∀ p ∈ pre t n, n ≤ p.1 ∧ p.1 ≤ n + t.size := by
  refine Tm.ind fun t ih n => pre_ind (by constructor <;> simp only <;> omega) fun i hi p hp => ?_
  have h1 := ih _ (arg_mem hi) _ p hp
  have h2 := size_arg (arg_mem hi)
  have h3 := bnd_le t i
  constructor <;> omega
end Go.Proofs.Ytmmhpmfgcenngaa
/- The reference's functions of layer 1. -/
set_option linter.unusedSimpArgs false
set_option linter.unusedVariables false
set_option maxRecDepth 100000
namespace Go.Proofs.Ytmmhpmfgcenngaa
open Go.Proofs
def low_S (t : Tm) (i : Nat) : St := mk 23 [(1, .lref 1 0), (3, dI i)] [(1, cel3 t)] [] []
theorem low_loop [N0] {b : Code} {σ : St} {t : Tm} (hb : b = cf (cf (cs (cf (cs (cs (bodyOf Try.f16))))))) (hσ : σ = low_S t 0) (ih : ∀ x ∈ t.args, (lim C).call 16 [dT x] [] = retB (lowB x)) (hl : t.args.length < room) :
    (lim C).code 16 (.loop b) σ = some (if allB t.args.length (fun i => lowB (t.arg i)) then (.exit 0, mk 23 [(1, .lref 1 0), (3, dI t.args.length), (12, dB false)] [(1, cel3 t)] [] []) else (.ret, mk 23 [(2, dB false)] [] [] [])) := by
  subst hb hσ
  have hr : room = 1099511627776 := rfl
  refine loop_all (low_S t) t.args.length _ ?_ ?_ ?_ (by simp) (by simp)
  · intro i hi hp
    have hc := ih _ (arg_mem hi)
    rw [hp] at hc
    simp -implicitDefEqProofs (disch := decide +kernel) only [cf, cs, bodyOf, Try.f16, Option.getD_some, go_sem, ↓reduceIte, Nat.reduceSub, Nat.reduceAdd, Nat.reduceMul, Nat.reduceBEq, Nat.reduceLT, Nat.reduceLeDiff, Nat.reduceEqDiff, reduceCtorEq, Int.reduceToNat, Int.reduceLE, Int.reduceLT, Int.reduceBEq, Int.reduceBNe, mCall, low_S, lt_true hi, arg_get hi, hc, wrap_succ (n := i) (by omega)]
  · intro i hi hp
    have hc := ih _ (arg_mem hi)
    rw [hp] at hc
    simp -implicitDefEqProofs (disch := decide +kernel) only [cf, cs, bodyOf, Try.f16, Option.getD_some, go_sem, ↓reduceIte, Nat.reduceSub, Nat.reduceAdd, Nat.reduceMul, Nat.reduceBEq, Nat.reduceLT, Nat.reduceLeDiff, Nat.reduceEqDiff, reduceCtorEq, Int.reduceToNat, Int.reduceLE, Int.reduceLT, Int.reduceBEq, Int.reduceBNe, mCall, low_S, lt_true hi, arg_get hi, hc]
  · simp -implicitDefEqProofs (disch := decide +kernel) only [cf, cs, bodyOf, Try.f16, Option.getD_some, go_sem, ↓reduceIte, Nat.reduceSub, Nat.reduceAdd, Nat.reduceMul, Nat.reduceBEq, Nat.reduceLT, Nat.reduceLeDiff, Nat.reduceEqDiff, reduceCtorEq, Int.reduceToNat, Int.reduceLE, Int.reduceLT, Int.reduceBEq, Int.reduceBNe, mCall, low_S, lt_false (Nat.le_refl t.args.length)]
theorem low_spec [N0] : ∀ t : Tm, t.size < room → (lim C).call 16 [dT t] [] = retB (lowB t) := by
  refine Tm.ind fun t ih hs => ?_
  have hl := len_size t
  rw [ev_fn 16 Try.f16 _ _ _ rfl Try.func16 rfl Try.ntmps16 rfl]
  rw [lowB_eq]
  by_cases h : t.head ≤ 1099511627776
  · have h1 : decide (t.head > 1099511627776) = false := by simpa using h
    simp -implicitDefEqProofs (disch := decide +kernel) only [go_sem, ↓reduceIte, Nat.reduceSub, Nat.reduceAdd, Nat.reduceMul, Nat.reduceBEq, Nat.reduceLT, Nat.reduceLeDiff, Nat.reduceEqDiff, reduceCtorEq, Int.reduceToNat, Int.reduceLE, Int.reduceLT, Int.reduceBEq, Int.reduceBNe, mCall, h1]
    rw [low_loop (t := t) ?hb ?hs (fun x hx => ih x hx (by have := size_arg hx; omega)) (by omega)]
    case hb => rfl
    case hs => rfl
    cases hall : allB t.args.length (fun i => lowB (t.arg i)) <;> simp -implicitDefEqProofs (disch := decide +kernel) only [go_sem, ↓reduceIte, Nat.reduceSub, Nat.reduceAdd, Nat.reduceMul, Nat.reduceBEq, Nat.reduceLT, Nat.reduceLeDiff, Nat.reduceEqDiff, reduceCtorEq, Int.reduceToNat, Int.reduceLE, Int.reduceLT, Int.reduceBEq, Int.reduceBNe, mCall] <;> simp [h]
  · have h1 : decide (t.head > 1099511627776) = true := by simp; omega
    simp -implicitDefEqProofs (disch := decide +kernel) only [go_sem, ↓reduceIte, Nat.reduceSub, Nat.reduceAdd, Nat.reduceMul, Nat.reduceBEq, Nat.reduceLT, Nat.reduceLeDiff, Nat.reduceEqDiff, reduceCtorEq, Int.reduceToNat, Int.reduceLE, Int.reduceLT, Int.reduceBEq, Int.reduceBNe, mCall, h1]
    simp [h]

def sizes (t : Tm) (i : Nat) : Nat := 1 + ((t.args.take i).map Tm.size).sum
theorem sizes_succ {t : Tm} {i : Nat} (h : i < t.args.length) : sizes t (i + 1) = sizes t i + (t.arg i).size := by
  unfold sizes
  rw [List.take_add_one, arg_get h]; simp; omega
theorem sizes_all (t : Tm) : sizes t t.args.length = t.size := by rw [sizes, List.take_length, size_eq]
theorem sizes_le [N0] {t : Tm} {i : Nat} : sizes t i ≤ t.size := by
  rw [sizes, size_eq]
  have : (t.args.map Tm.size).sum = ((t.args.take i).map Tm.size).sum + ((t.args.drop i).map Tm.size).sum := by
    rw [← List.sum_append, ← List.map_append, List.take_append_drop]
  omega
def size_S (t : Tm) (i : Nat) : St := mk 21 [(1, .lref 1 0), (3, dI (sizes t i)), (4, dI i)] [(1, cel3 t)] [] []
theorem rsize_loop [N0] {b : Code} {σ : St} {t : Tm} (hb : b = cf (cf (cs (cf (cs (cs (bodyOf Try.f17))))))) (hσ : σ = size_S t 0) (ih : ∀ x ∈ t.args, (lim C).call 17 [dT x] [] = retI x.size) (hs : t.size < room) :
    (lim C).code 17 (.loop b) σ = some (.exit 0, mk 21 [(1, .lref 1 0), (3, dI t.size), (4, dI t.args.length), (9, dB false)] [(1, cel3 t)] [] []) := by
  subst hb hσ
  have hr : room = 1099511627776 := rfl
  have hl := len_size t
  refine loop_run (size_S t) t.args.length ?_ ?_ (by simp)
  · intro i hi
    have hc := ih _ (arg_mem hi)
    have h1 := sizes_succ hi
    have h2 := sizes_le (t := t) (i := i + 1)
    have hw : IntKind.wrap .i64 ((sizes t i : Int) + ((t.arg i).size : Int)) = (sizes t (i + 1) : Int) := by rw [wrap_ok (by omega) (by omega)]; omega
    simp -implicitDefEqProofs (disch := decide +kernel) only [cf, cs, bodyOf, Try.f17, Option.getD_some, go_sem, ↓reduceIte, Nat.reduceSub, Nat.reduceAdd, Nat.reduceMul, Nat.reduceBEq, Nat.reduceLT, Nat.reduceLeDiff, Nat.reduceEqDiff, reduceCtorEq, Int.reduceToNat, Int.reduceLE, Int.reduceLT, Int.reduceBEq, Int.reduceBNe, mCall, size_S, lt_true hi, arg_get hi, hc, wrap_succ (n := i) (by omega), hw]
  · simp -implicitDefEqProofs (disch := decide +kernel) only [cf, cs, bodyOf, Try.f17, Option.getD_some, go_sem, ↓reduceIte, Nat.reduceSub, Nat.reduceAdd, Nat.reduceMul, Nat.reduceBEq, Nat.reduceLT, Nat.reduceLeDiff, Nat.reduceEqDiff, reduceCtorEq, Int.reduceToNat, Int.reduceLE, Int.reduceLT, Int.reduceBEq, Int.reduceBNe, mCall, size_S, lt_false (Nat.le_refl t.args.length), sizes_all]
theorem rsize_spec [N0] : ∀ t : Tm, t.size < room → (lim C).call 17 [dT t] [] = retI t.size := by
  refine Tm.ind fun t ih hs => ?_
  rw [ev_fn 17 Try.f17 _ _ _ rfl Try.func17 rfl Try.ntmps17 rfl]
  simp -implicitDefEqProofs (disch := decide +kernel) only [go_sem, ↓reduceIte, Nat.reduceSub, Nat.reduceAdd, Nat.reduceMul, Nat.reduceBEq, Nat.reduceLT, Nat.reduceLeDiff, Nat.reduceEqDiff, reduceCtorEq, Int.reduceToNat, Int.reduceLE, Int.reduceLT, Int.reduceBEq, Int.reduceBNe, mCall]
  rw [rsize_loop (t := t) ?hb ?hs (fun x hx => ih x hx (by have := size_arg hx; omega)) hs]
  case hb => rfl
  case hs => rfl
  simp -implicitDefEqProofs (disch := decide +kernel) only [go_sem, ↓reduceIte, Nat.reduceSub, Nat.reduceAdd, Nat.reduceMul, Nat.reduceBEq, Nat.reduceLT, Nat.reduceLeDiff, Nat.reduceEqDiff, reduceCtorEq, Int.reduceToNat, Int.reduceLE, Int.reduceLT, Int.reduceBEq, Int.reduceBNe, mCall]

def deps' (t : Tm) (i : Nat) : Nat := ((t.args.take i).map Tm.depth).foldr max 0
theorem foldr_max_append (a : List Nat) (x : Nat) : (a ++ [x]).foldr max 0 = max (a.foldr max 0) x := by
  induction a with
  | nil => simp
  | cons y a ih => simp only [List.cons_append, List.foldr_cons, ih]; omega
theorem deps_succ {t : Tm} {i : Nat} (h : i < t.args.length) : deps' t (i + 1) = max (deps' t i) (t.arg i).depth := by
  unfold deps'
  rw [List.take_add_one, arg_get h, List.map_append, ← foldr_max_append]; rfl
theorem deps_all (t : Tm) : deps' t t.args.length + 1 = t.depth := by rw [deps', List.take_length, depth_eq]; omega
theorem depth_size : ∀ t : Tm, t.depth ≤ t.size := by
  refine Tm.ind fun t ih => ?_
  rw [depth_eq, size_eq]
  have : ∀ l : List Tm, (∀ x ∈ l, x.depth ≤ x.size) → (l.map Tm.depth).foldr max 0 ≤ (l.map Tm.size).sum := by
    intro l
    induction l with
    | nil => simp
    | cons a l ih =>
      intro h
      have h1 := h a (by simp)
      have h2 := ih fun x hx => h x (by simp [hx])
      simp only [List.map_cons, List.foldr_cons, List.sum_cons]
      omega
  have := this _ ih
  omega
theorem deps_le (t : Tm) : ∀ i, i ≤ t.args.length → deps' t i < t.depth := by
  have key : ∀ k i, i + k = t.args.length → deps' t i + 1 ≤ t.depth := by
    intro k
    induction k with
    | zero => intro i hi; rw [← deps_all t, ← hi]; exact Nat.le_refl _
    | succ k ih =>
      intro i hi
      have := ih (i + 1) (by omega)
      rw [deps_succ (by omega)] at this
      omega
  intro i hi
  have := key (t.args.length - i) i (by omega)
  omega
def rdepth_S (t : Tm) (i : Nat) : St := mk 25 [(1, .lref 1 0), (3, dI (deps' t i)), (4, dI i)] [(1, cel3 t)] [] []
theorem rdepth_loop [N0] {b : Code} {σ : St} {t : Tm} (hb : b = cf (cf (cs (cf (cs (cs (bodyOf Try.f18))))))) (hσ : σ = rdepth_S t 0) (ih : ∀ x ∈ t.args, (lim C).call 18 [dT x] [] = retI x.depth) (hs : t.size < room) :
    (lim C).code 18 (.loop b) σ = some (.exit 0, mk 25 [(1, .lref 1 0), (3, dI (deps' t t.args.length)), (4, dI t.args.length), (10, dB false)] [(1, cel3 t)] [] []) := by
  subst hb hσ
  have hr : room = 1099511627776 := rfl
  have hl := len_size t
  refine loop_run (rdepth_S t) t.args.length ?_ ?_ (by simp)
  · intro i hi
    have hc := ih _ (arg_mem hi)
    have h1 := deps_succ hi
    by_cases h : deps' t i < (t.arg i).depth
    · have h2 : decide (((t.arg i).depth : Int) > (deps' t i : Int)) = true := by simpa using h
      have h3 : deps' t (i + 1) = (t.arg i).depth := by omega
      simp -implicitDefEqProofs (disch := decide +kernel) only [cf, cs, bodyOf, Try.f18, Option.getD_some, go_sem, ↓reduceIte, Nat.reduceSub, Nat.reduceAdd, Nat.reduceMul, Nat.reduceBEq, Nat.reduceLT, Nat.reduceLeDiff, Nat.reduceEqDiff, reduceCtorEq, Int.reduceToNat, Int.reduceLE, Int.reduceLT, Int.reduceBEq, Int.reduceBNe, mCall, rdepth_S, lt_true hi, arg_get hi, hc, wrap_succ (n := i) (by omega), h2, h3]
    · have h2 : decide (((t.arg i).depth : Int) > (deps' t i : Int)) = false := by simpa using h
      have h3 : deps' t (i + 1) = deps' t i := by omega
      simp -implicitDefEqProofs (disch := decide +kernel) only [cf, cs, bodyOf, Try.f18, Option.getD_some, go_sem, ↓reduceIte, Nat.reduceSub, Nat.reduceAdd, Nat.reduceMul, Nat.reduceBEq, Nat.reduceLT, Nat.reduceLeDiff, Nat.reduceEqDiff, reduceCtorEq, Int.reduceToNat, Int.reduceLE, Int.reduceLT, Int.reduceBEq, Int.reduceBNe, mCall, rdepth_S, lt_true hi, arg_get hi, hc, wrap_succ (n := i) (by omega), h2, h3]
  · simp -implicitDefEqProofs (disch := decide +kernel) only [cf, cs, bodyOf, Try.f18, Option.getD_some, go_sem, ↓reduceIte, Nat.reduceSub, Nat.reduceAdd, Nat.reduceMul, Nat.reduceBEq, Nat.reduceLT, Nat.reduceLeDiff, Nat.reduceEqDiff, reduceCtorEq, Int.reduceToNat, Int.reduceLE, Int.reduceLT, Int.reduceBEq, Int.reduceBNe, mCall, rdepth_S, lt_false (Nat.le_refl t.args.length)]
theorem rdepth_spec [N0] : ∀ t : Tm, t.size < room → (lim C).call 18 [dT t] [] = retI t.depth := by
  refine Tm.ind fun t ih hs => ?_
  have hr : room = 1099511627776 := rfl
  rw [ev_fn 18 Try.f18 _ _ _ rfl Try.func18 rfl Try.ntmps18 rfl]
  simp -implicitDefEqProofs (disch := decide +kernel) only [go_sem, ↓reduceIte, Nat.reduceSub, Nat.reduceAdd, Nat.reduceMul, Nat.reduceBEq, Nat.reduceLT, Nat.reduceLeDiff, Nat.reduceEqDiff, reduceCtorEq, Int.reduceToNat, Int.reduceLE, Int.reduceLT, Int.reduceBEq, Int.reduceBNe, mCall]
  rw [rdepth_loop (t := t) ?hb ?hs (fun x hx => ih x hx (by have := size_arg hx; omega)) hs]
  case hb => rfl
  case hs => rfl
  have h1 := deps_all t
  have h2 := depth_size t
  simp -implicitDefEqProofs (disch := decide +kernel) only [go_sem, ↓reduceIte, Nat.reduceSub, Nat.reduceAdd, Nat.reduceMul, Nat.reduceBEq, Nat.reduceLT, Nat.reduceLeDiff, Nat.reduceEqDiff, reduceCtorEq, Int.reduceToNat, Int.reduceLE, Int.reduceLT, Int.reduceBEq, Int.reduceBNe, mCall, wrap_succ (n := deps' t t.args.length) (by omega), h1]
end Go.Proofs.Ytmmhpmfgcenngaa
/- The reference's functions of layer 1, second part. -/
set_option linter.unusedSimpArgs false
set_option linter.unusedVariables false
set_option maxRecDepth 100000
namespace Go.Proofs.Ytmmhpmfgcenngaa
open Go.Proofs
theorem kinds (t : Tm) : t.kind = 0 ∨ t.kind = 1 ∨ t.kind = 2 ∨ t.kind = 3 ∨ t.kind = 4 ∨ t.kind = 5 ∨ t.kind = 6 ∨ (t.kind < 0 ∨ 6 < t.kind) := by omega
theorem light_spec [N0] (t : Tm) (s d : Int) (hs : t.size < room) : (lim C).call 6 [dT t, dI s, dI d] [] = retB (lightB t s d) := by
  rw [ev_fn 6 Try.f6 _ _ _ rfl Try.func6 rfl Try.ntmps6 rfl]
  unfold lightB
  cases h1 : lowB t
  · simp -implicitDefEqProofs (disch := decide +kernel) only [go_sem, ↓reduceIte, Nat.reduceSub, Nat.reduceAdd, Nat.reduceMul, Nat.reduceBEq, Nat.reduceLT, Nat.reduceLeDiff, Nat.reduceEqDiff, reduceCtorEq, Int.reduceToNat, Int.reduceLE, Int.reduceLT, Int.reduceBEq, Int.reduceBNe, mCall, low_spec t hs, h1]
  · cases e2 : decide ((t.size : Int) ≤ s)
    · simp -implicitDefEqProofs (disch := decide +kernel) only [go_sem, ↓reduceIte, Nat.reduceSub, Nat.reduceAdd, Nat.reduceMul, Nat.reduceBEq, Nat.reduceLT, Nat.reduceLeDiff, Nat.reduceEqDiff, reduceCtorEq, Int.reduceToNat, Int.reduceLE, Int.reduceLT, Int.reduceBEq, Int.reduceBNe, mCall, low_spec t hs, rsize_spec t hs, h1, e2]
    · simp -implicitDefEqProofs (disch := decide +kernel) only [go_sem, ↓reduceIte, Nat.reduceSub, Nat.reduceAdd, Nat.reduceMul, Nat.reduceBEq, Nat.reduceLT, Nat.reduceLeDiff, Nat.reduceEqDiff, reduceCtorEq, Int.reduceToNat, Int.reduceLE, Int.reduceLT, Int.reduceBEq, Int.reduceBNe, mCall, low_spec t hs, rsize_spec t hs, rdepth_spec t hs, h1, e2]
end Go.Proofs.Ytmmhpmfgcenngaa
/- The reference's functions of layer 1, third part: Same, Scoped, List. -/
set_option linter.unusedSimpArgs false
set_option linter.unusedVariables false
set_option maxRecDepth 100000
namespace Go.Proofs.Ytmmhpmfgcenngaa
open Go.Proofs
def sameL (a b : List Tm) : Bool := a.length == b.length && allB a.length fun i => sameB (a.getD i default) (b.getD i default)
theorem getD_get {a : List Tm} {i : Nat} (h : i < a.length) : a[i]? = some (a.getD i default) := by simp [List.getD, List.getElem?_eq_getElem h]
theorem getD_mem {a : List Tm} {i : Nat} (h : i < a.length) : a.getD i default ∈ a := List.mem_of_getElem? (getD_get h)
def rlist_S (a c : List Tm) (i : Nat) : St := mk 30 [(0, dL a), (1, dL c), (5, dI i)] [] [] []
end Go.Proofs.Ytmmhpmfgcenngaa
/- The program's functions of layer 1: walk. -/
set_option linter.unusedSimpArgs false
set_option linter.unusedVariables false
set_option maxRecDepth 100000
namespace Go.Proofs.Ytmmhpmfgcenngaa
open Go.Proofs
theorem tbinds_spec [N0] (t : Tm) : (lim C).call 32 [dT t] [] = retB (bindsB t) := by
  rw [ev_fn 32 Try.f32 _ _ _ rfl Try.func32 rfl Try.ntmps32 rfl]
  unfold bindsB
  cases h1 : (t.kind == 1)
  · simp -implicitDefEqProofs (disch := decide +kernel) only [go_sem, ↓reduceIte, Nat.reduceSub, Nat.reduceAdd, Nat.reduceMul, Nat.reduceBEq, Nat.reduceLT, Nat.reduceLeDiff, Nat.reduceEqDiff, reduceCtorEq, Int.reduceToNat, Int.reduceLE, Int.reduceLT, Int.reduceBEq, Int.reduceBNe, mCall, h1]
  · simp -implicitDefEqProofs (disch := decide +kernel) only [go_sem, ↓reduceIte, Nat.reduceSub, Nat.reduceAdd, Nat.reduceMul, Nat.reduceBEq, Nat.reduceLT, Nat.reduceLeDiff, Nat.reduceEqDiff, reduceCtorEq, Int.reduceToNat, Int.reduceLE, Int.reduceLT, Int.reduceBEq, Int.reduceBNe, mCall, h1]
/-- What a walk does at each node: an answer of yield. -/
def Yields [N0] {S R : Type} (y : Nat) (H : S → List HO) (E : R → List HO) (step : S → Int × Tm → Except R S) (ok : Int × Tm → Prop) : Prop :=
  ∀ (s : S) (n : Int) (x : Tm) (locs : List (Option (List AV))) (toks : List (Option Nat)), ok (n, x) → mYld (lim C) y [dI n, dT x] { locs := locs, heap := H s, toks := toks } = some (match step s (n, x) with
    | .ok s' => (.v (dB true), { locs := locs, heap := H s', toks := toks })
    | .error r => (.v (dB false), { locs := locs, heap := E r, toks := toks }))
def walk_S (t : Tm) (n : Int) (y : Nat) (i : Nat) (h : List HO) : St := mk 42 [(1, dI n), (2, .yld y), (3, .lref 3 0), (16, dL t.args), (17, dI t.args.length), (18, dI i)] [(3, cel3 t)] h []
theorem bindsB_bnd {t : Tm} {i : Nat} (h : bindsB t = true) (e : ((i : Int) == (t.args.length : Int) - 1) = true) : bnd t i = 1 := by
  simp [bindsB] at h
  simp at e
  unfold bnd
  rw [if_pos ⟨h, by omega⟩]
theorem bindsB_no {t : Tm} {i : Nat} (h : bindsB t = false) : bnd t i = 0 := by
  simp [bindsB] at h
  unfold bnd
  rw [if_neg (by rintro ⟨h1 | h1, _⟩ <;> simp_all)]
theorem bindsB_not {t : Tm} {i : Nat} (e : ((i : Int) == (t.args.length : Int) - 1) = false) : bnd t i = 0 := by
  simp at e
  unfold bnd
  rw [if_neg (by rintro ⟨_, h1⟩; omega)]
theorem walk_loop [N0] {S R : Type} {y : Nat} {H : S → List HO} {E : R → List HO} {step : S → Int × Tm → Except R S} {t : Tm} {n : Int} (hs : t.size < room) (hn : 0 ≤ n ∧ n + t.size < 4000000000000000000)
    {ok : Int × Tm → Prop} (hok : ∀ p ∈ pre t n, ok p)
    (ih : ∀ x ∈ t.args, ∀ (m : Int) (s : S), 0 ≤ m → m + x.size < 4000000000000000000 → (∀ p ∈ pre x m, ok p) → (lim C).call 29 [dT x, dI m, .yld y] (H s) = some (match runL step (pre x m) s with | .ok s' => (.ret (dB true), H s') | .error r => (.ret (dB false), E r))) :
    ∀ (k i : Nat) (s : S), i + k = t.args.length → (lim C).code 29 (.loop (cf (cf (cs (cf (cs (cs (bodyOf Try.f29)))))))) (walk_S t n y i (H s)) = some (match runL step (preF pre t n k i) s with
      | .ok s' => (.exit 0, mk 42 [(1, dI n), (2, .yld y), (3, .lref 3 0), (16, dL t.args), (17, dI t.args.length), (18, dI t.args.length), (19, dB false)] [(3, cel3 t)] (H s') [])
      | .error r => (.ret, mk 42 [(6, dB false)] [] (E r) []))
  | 0, i, s, e => by
    have hr : room = 1099511627776 := rfl
    obtain rfl : i = t.args.length := by omega
    rw [ev_loop]
    simp -implicitDefEqProofs (disch := decide +kernel) only [cf, cs, bodyOf, Try.f29, Option.getD_some, go_sem, ↓reduceIte, Nat.reduceSub, Nat.reduceAdd, Nat.reduceMul, Nat.reduceBEq, Nat.reduceLT, Nat.reduceLeDiff, Nat.reduceEqDiff, reduceCtorEq, Int.reduceToNat, Int.reduceLE, Int.reduceLT, Int.reduceBEq, Int.reduceBNe, mCall, walk_S, lt_false (Nat.le_refl t.args.length), preF, runL]
  | k + 1, i, s, e => by
    have hr : room = 1099511627776 := rfl
    have hi : i < t.args.length := by omega
    have hl := len_size t
    have hsz := size_arg (arg_mem hi)
    have hbl := bnd_le t i
    have hrec := ih _ (arg_mem hi) (n + bnd t i) s (by omega) (by omega) (fun p hp => hok p (pre_sub hi hp))
    have hrest := fun s' => walk_loop hs hn hok ih k (i + 1) s' (by omega)
    simp only [preF, runL_append]
    rw [ev_loop]
    have hw1 : IntKind.wrap .i64 ((t.args.length : Int) - 1) = (t.args.length : Int) - 1 := wrap_ok (by omega) (by omega)
    have hw2 : IntKind.wrap .i64 (n + 1) = n + 1 := wrap_ok (by omega) (by omega)
    have hws := wrap_succ (n := i) (by omega)
    cases hrun : runL step (pre (t.arg i) (n + bnd t i)) s with
    | ok s' =>
      have hr' := hrest s'
      rw [hrun] at hrec
      cases hb : bindsB t
      · rw [bindsB_no hb, Int.natCast_zero, Int.add_zero] at hrec
        simp -implicitDefEqProofs (disch := decide +kernel) only [cf, cs, bodyOf, Try.f29, Option.getD_some, go_sem, ↓reduceIte, Nat.reduceSub, Nat.reduceAdd, Nat.reduceMul, Nat.reduceBEq, Nat.reduceLT, Nat.reduceLeDiff, Nat.reduceEqDiff, reduceCtorEq, Int.reduceToNat, Int.reduceLE, Int.reduceLT, Int.reduceBEq, Int.reduceBNe, mCall, walk_S, lt_true hi, arg_get hi, tbinds_spec t, hb, hws, hrec]
        exact hr'
      · cases he : ((i : Int) == (t.args.length : Int) - 1)
        · rw [bindsB_not he, Int.natCast_zero, Int.add_zero] at hrec
          simp -implicitDefEqProofs (disch := decide +kernel) only [cf, cs, bodyOf, Try.f29, Option.getD_some, go_sem, ↓reduceIte, Nat.reduceSub, Nat.reduceAdd, Nat.reduceMul, Nat.reduceBEq, Nat.reduceLT, Nat.reduceLeDiff, Nat.reduceEqDiff, reduceCtorEq, Int.reduceToNat, Int.reduceLE, Int.reduceLT, Int.reduceBEq, Int.reduceBNe, mCall, walk_S, lt_true hi, arg_get hi, tbinds_spec t, hb, hw1, he, hws, hrec]
          exact hr'
        · rw [bindsB_bnd hb he] at hrec
          have hrec : _ = _ := hrec
          rw [Int.natCast_one] at hrec
          simp -implicitDefEqProofs (disch := decide +kernel) only [cf, cs, bodyOf, Try.f29, Option.getD_some, go_sem, ↓reduceIte, Nat.reduceSub, Nat.reduceAdd, Nat.reduceMul, Nat.reduceBEq, Nat.reduceLT, Nat.reduceLeDiff, Nat.reduceEqDiff, reduceCtorEq, Int.reduceToNat, Int.reduceLE, Int.reduceLT, Int.reduceBEq, Int.reduceBNe, mCall, walk_S, lt_true hi, arg_get hi, tbinds_spec t, hb, hw1, hw2, he, hws, hrec]
          exact hr'
    | error r =>
      rw [hrun] at hrec
      cases hb : bindsB t
      · rw [bindsB_no hb, Int.natCast_zero, Int.add_zero] at hrec
        simp -implicitDefEqProofs (disch := decide +kernel) only [cf, cs, bodyOf, Try.f29, Option.getD_some, go_sem, ↓reduceIte, Nat.reduceSub, Nat.reduceAdd, Nat.reduceMul, Nat.reduceBEq, Nat.reduceLT, Nat.reduceLeDiff, Nat.reduceEqDiff, reduceCtorEq, Int.reduceToNat, Int.reduceLE, Int.reduceLT, Int.reduceBEq, Int.reduceBNe, mCall, walk_S, lt_true hi, arg_get hi, tbinds_spec t, hb, hws, hrec]
      · cases he : ((i : Int) == (t.args.length : Int) - 1)
        · rw [bindsB_not he, Int.natCast_zero, Int.add_zero] at hrec
          simp -implicitDefEqProofs (disch := decide +kernel) only [cf, cs, bodyOf, Try.f29, Option.getD_some, go_sem, ↓reduceIte, Nat.reduceSub, Nat.reduceAdd, Nat.reduceMul, Nat.reduceBEq, Nat.reduceLT, Nat.reduceLeDiff, Nat.reduceEqDiff, reduceCtorEq, Int.reduceToNat, Int.reduceLE, Int.reduceLT, Int.reduceBEq, Int.reduceBNe, mCall, walk_S, lt_true hi, arg_get hi, tbinds_spec t, hb, hw1, he, hws, hrec]
        · rw [bindsB_bnd hb he] at hrec
          have hrec : _ = _ := hrec
          rw [Int.natCast_one] at hrec
          simp -implicitDefEqProofs (disch := decide +kernel) only [cf, cs, bodyOf, Try.f29, Option.getD_some, go_sem, ↓reduceIte, Nat.reduceSub, Nat.reduceAdd, Nat.reduceMul, Nat.reduceBEq, Nat.reduceLT, Nat.reduceLeDiff, Nat.reduceEqDiff, reduceCtorEq, Int.reduceToNat, Int.reduceLE, Int.reduceLT, Int.reduceBEq, Int.reduceBNe, mCall, walk_S, lt_true hi, arg_get hi, tbinds_spec t, hb, hw1, hw2, he, hws, hrec]
theorem walk_spec [N0] {S R : Type} {y : Nat} {H : S → List HO} {E : R → List HO} {step : S → Int × Tm → Except R S} {ok : Int × Tm → Prop} (hy : Yields y H E step ok) : ∀ t : Tm, t.size < room → ∀ (n : Int) (s : S), 0 ≤ n → n + t.size < 4000000000000000000 → (∀ p ∈ pre t n, ok p) →
    (lim C).call 29 [dT t, dI n, .yld y] (H s) = some (match runL step (pre t n) s with | .ok s' => (.ret (dB true), H s') | .error r => (.ret (dB false), E r)) := by
  refine Tm.ind fun t ih hs n s hn1 hn2 hok => ?_
  have hl := len_size t
  rw [ev_fn 29 Try.f29 _ _ _ rfl Try.func29 rfl Try.ntmps29 rfl]
  have hst := hy s n t
  have hok0 := hok (n, t) (by rw [pre_eq]; simp)
  rw [pre_eq, runL]
  cases hstep : step s (n, t) with
  | error r =>
    have hst := fun locs toks => hst locs toks hok0
    rw [hstep] at hst
    simp -implicitDefEqProofs (disch := decide +kernel) only [go_sem, ↓reduceIte, Nat.reduceSub, Nat.reduceAdd, Nat.reduceMul, Nat.reduceBEq, Nat.reduceLT, Nat.reduceLeDiff, Nat.reduceEqDiff, reduceCtorEq, Int.reduceToNat, Int.reduceLE, Int.reduceLT, Int.reduceBEq, Int.reduceBNe, mCall, hst]
  | ok s' =>
    have hst := fun locs toks => hst locs toks hok0
    rw [hstep] at hst
    simp -implicitDefEqProofs (disch := decide +kernel) only [go_sem, ↓reduceIte, Nat.reduceSub, Nat.reduceAdd, Nat.reduceMul, Nat.reduceBEq, Nat.reduceLT, Nat.reduceLeDiff, Nat.reduceEqDiff, reduceCtorEq, Int.reduceToNat, Int.reduceLE, Int.reduceLT, Int.reduceBEq, Int.reduceBNe, mCall, hst]
    have hloop := walk_loop (H := H) (E := E) (y := y) (step := step) hs ⟨hn1, hn2⟩ hok (fun x hx m s h1 h2 h3 => ih x hx (by have := size_arg hx; omega) m s h1 h2 h3) t.args.length 0 s' (by omega)
    cases hrun : runL step (preF pre t n t.args.length 0) s' with
    | ok s2 =>
      rw [hrun] at hloop
      rw [loop_at hloop ?hb ?hs]
      case hb => rfl
      case hs => rfl
      simp -implicitDefEqProofs (disch := decide +kernel) only [go_sem, ↓reduceIte, Nat.reduceSub, Nat.reduceAdd, Nat.reduceMul, Nat.reduceBEq, Nat.reduceLT, Nat.reduceLeDiff, Nat.reduceEqDiff, reduceCtorEq, Int.reduceToNat, Int.reduceLE, Int.reduceLT, Int.reduceBEq, Int.reduceBNe, mCall]
    | error r =>
      rw [hrun] at hloop
      rw [loop_at hloop ?hb ?hs]
      case hb => rfl
      case hs => rfl
      simp -implicitDefEqProofs (disch := decide +kernel) only [go_sem, ↓reduceIte, Nat.reduceSub, Nat.reduceAdd, Nat.reduceMul, Nat.reduceBEq, Nat.reduceLT, Nat.reduceLeDiff, Nat.reduceEqDiff, reduceCtorEq, Int.reduceToNat, Int.reduceLE, Int.reduceLT, Int.reduceBEq, Int.reduceBNe, mCall]
end Go.Proofs.Ytmmhpmfgcenngaa
/- The program's functions of layer 1: Size, Depth, all, May, Scoped, Same. -/
set_option linter.unusedSimpArgs false
set_option linter.unusedVariables false
set_option maxRecDepth 100000
namespace Go.Proofs.Ytmmhpmfgcenngaa
open Go.Proofs
theorem getApp0 {α : Type} (h l : List α) : (h ++ l)[h.length]? = l[0]? := by rw [List.getElem?_append_right (Nat.le_refl _), Nat.sub_self]
theorem getApp {α : Type} (h l : List α) (k : Nat) : (h ++ l)[h.length + k]? = l[k]? := by rw [List.getElem?_append_right (by omega)]; congr 1; omega
theorem setApp0 {α : Type} (h l : List α) (v : α) : (h ++ l).set h.length v = h ++ l.set 0 v := by rw [List.set_append_right _ _ (Nat.le_refl _), Nat.sub_self]
theorem setApp {α : Type} (h l : List α) (k : Nat) (v : α) : (h ++ l).set (h.length + k) v = h ++ l.set k v := by
  rw [List.set_append_right _ _ (by omega)]; congr 2; omega
theorem tnodes_spec [N0] (t : Tm) (h : List HO) : (lim C).call 19 [dT t] h = some (.ret (.fn 28 [] [.href h.length 0]), h ++ [.var 0 (cel3 t)]) := by
  rw [ev_fn 19 Try.f19 _ _ _ rfl Try.func19 rfl Try.ntmps19 rfl]
  simp -implicitDefEqProofs (disch := decide +kernel) only [go_sem, ↓reduceIte, Nat.reduceSub, Nat.reduceAdd, Nat.reduceMul, Nat.reduceBEq, Nat.reduceLT, Nat.reduceLeDiff, Nat.reduceEqDiff, reduceCtorEq, Int.reduceToNat, Int.reduceLE, Int.reduceLT, Int.reduceBEq, Int.reduceBNe, mCall]
theorem tnodes1_spec [N0] {S R : Type} {y i : Nat} {H : S → List HO} {E : R → List HO} {step : S → Int × Tm → Except R S} {ok : Int × Tm → Prop} (hy : Yields y H E step ok) (t : Tm) (hs : t.size < room) (s : S) (hi : (H s)[i]? = some (.var 0 (cel3 t)))
    (hok : ∀ p ∈ pre t 0, ok p) : (lim C).call 28 [.yld y, .href i 0] (H s) = some (match runL step (pre t 0) s with | .ok s' => (.ret (.tup []), H s') | .error r => (.ret (.tup []), E r)) := by
  have hr : room = 1099511627776 := rfl
  have hw := walk_spec hy t hs 0 s (by omega) (by omega) hok
  simp only [cel3] at hi
  rw [ev_fn 28 Try.f28 _ _ _ rfl Try.func28 rfl Try.ntmps28 rfl]
  cases hrun : runL step (pre t 0) s with
  | ok s' =>
    rw [hrun] at hw
    simp -implicitDefEqProofs (disch := decide +kernel) only [go_sem, ↓reduceIte, Nat.reduceSub, Nat.reduceAdd, Nat.reduceMul, Nat.reduceBEq, Nat.reduceLT, Nat.reduceLeDiff, Nat.reduceEqDiff, reduceCtorEq, Int.reduceToNat, Int.reduceLE, Int.reduceLT, Int.reduceBEq, Int.reduceBNe, mCall, hi, hw]
  | error r =>
    rw [hrun] at hw
    simp -implicitDefEqProofs (disch := decide +kernel) only [go_sem, ↓reduceIte, Nat.reduceSub, Nat.reduceAdd, Nat.reduceMul, Nat.reduceBEq, Nat.reduceLT, Nat.reduceLeDiff, Nat.reduceEqDiff, reduceCtorEq, Int.reduceToNat, Int.reduceLE, Int.reduceLT, Int.reduceBEq, Int.reduceBNe, mCall, hi, hw]
noncomputable def size_L [N0] : LoopA := { fn := 9, tmps := tl 11 [(2, dI 0), (3, .href 0 0), (5, .fn 28 [] [.href 1 0])], params := [6, 7], assign := cf (cf (cs (cf (cs (cs (bodyOf Try.f9)))))), body := cs (cf (cs (cf (cs (cs (bodyOf Try.f9)))))) }
noncomputable def size_H [N0] (t : Tm) (z : Int) : List HO := [.var 0 [dI z], .var 0 (cel3 t), .loop .ready none size_L]
theorem size_yields [N0] (t : Tm) : Yields (R := Empty) 2 (size_H t) (fun _ => []) (fun z _ => .ok (IntKind.wrap .i64 (z + 1))) (fun _ => True) := by
  intro z n x locs toks _
  simp only
  simp -implicitDefEqProofs (disch := decide +kernel) only [cf, cs, bodyOf, Try.f9, Option.getD_some, go_sem, ↓reduceIte, Nat.reduceSub, Nat.reduceAdd, Nat.reduceMul, Nat.reduceBEq, Nat.reduceLT, Nat.reduceLeDiff, Nat.reduceEqDiff, reduceCtorEq, Int.reduceToNat, Int.reduceLE, Int.reduceLT, Int.reduceBEq, Int.reduceBNe, mCall, size_H, size_L, mYld_K]
theorem run_count (t : Tm) : ∀ (l : List (Int × Tm)) (k : Nat), k + l.length < 9223372036854775807 → runL (R := Empty) (fun (z : Int) (_ : Int × Tm) => .ok (IntKind.wrap .i64 (z + 1))) l (k : Int) = .ok ((k + l.length : Nat) : Int)
  | [], k, h => rfl
  | x :: l, k, h => by
    simp only [List.length_cons] at h
    rw [runL]
    simp only [wrap_succ (n := k) (by omega)]
    rw [run_count t l (k + 1) (by omega)]
    congr 2
    simp only [List.length_cons]
    omega
theorem tsize_spec [N0] (t : Tm) (hs : t.size < room) : (lim C).call 9 [dT t] [] = some (.ret (dI t.size), [.var 0 [dI t.size], .var 0 (cel3 t), .dead]) := by
  have hr : room = 1099511627776 := rfl
  rw [ev_fn 9 Try.f9 _ _ _ rfl Try.func9 rfl Try.ntmps9 rfl]
  simp -implicitDefEqProofs (disch := decide +kernel) only [go_sem, ↓reduceIte, Nat.reduceSub, Nat.reduceAdd, Nat.reduceMul, Nat.reduceBEq, Nat.reduceLT, Nat.reduceLeDiff, Nat.reduceEqDiff, reduceCtorEq, Int.reduceToNat, Int.reduceLE, Int.reduceLT, Int.reduceBEq, Int.reduceBNe, mCall, tnodes_spec]
  have h1 := tnodes1_spec (size_yields t) t hs (i := 1) 0 rfl (fun _ _ => trivial)
  rw [show (0 : Int) = ((0 : Nat) : Int) from rfl, run_count t _ 0 (by rw [pre_len]; omega), pre_len] at h1
  rw [call_at h1 ?hh]
  case hh => rfl
  simp -implicitDefEqProofs (disch := decide +kernel) only [go_sem, ↓reduceIte, Nat.reduceSub, Nat.reduceAdd, Nat.reduceMul, Nat.reduceBEq, Nat.reduceLT, Nat.reduceLeDiff, Nat.reduceEqDiff, reduceCtorEq, Int.reduceToNat, Int.reduceLE, Int.reduceLT, Int.reduceBEq, Int.reduceBNe, mCall, size_H]

def tdepth_S (t : Tm) (i : Nat) : St := mk 20 [(3, dI (deps' t i)), (7, dL t.args), (8, dI t.args.length), (9, dI i)] [] [] []
theorem maxI (a b : Nat) : (if (b : Int) > (a : Int) then (b : Int) else (a : Int)) = ((max a b : Nat) : Int) := by split <;> omega
theorem tdepth_loop [N0] {b : Code} {σ : St} {t : Tm} (hb : b = cf (cf (cs (cf (cs (cs (bodyOf Try.f14))))))) (hσ : σ = tdepth_S t 0) (ih : ∀ x ∈ t.args, (lim C).call 14 [dT x] [] = retI x.depth) (hs : t.size < room) :
    (lim C).code 14 (.loop b) σ = some (.exit 0, mk 20 [(3, dI (deps' t t.args.length)), (7, dL t.args), (8, dI t.args.length), (9, dI t.args.length), (10, dB false)] [] [] []) := by
  subst hb hσ
  have hr : room = 1099511627776 := rfl
  have hl := len_size t
  refine loop_run (tdepth_S t) t.args.length ?_ ?_ (by simp)
  · intro i hi
    have hc := ih _ (arg_mem hi)
    simp -implicitDefEqProofs (disch := decide +kernel) only [cf, cs, bodyOf, Try.f14, Option.getD_some, go_sem, ↓reduceIte, Nat.reduceSub, Nat.reduceAdd, Nat.reduceMul, Nat.reduceBEq, Nat.reduceLT, Nat.reduceLeDiff, Nat.reduceEqDiff, reduceCtorEq, Int.reduceToNat, Int.reduceLE, Int.reduceLT, Int.reduceBEq, Int.reduceBNe, mCall, tdepth_S, lt_true hi, arg_get hi, hc, wrap_succ (n := i) (by omega), maxI, deps_succ hi]
  · simp -implicitDefEqProofs (disch := decide +kernel) only [cf, cs, bodyOf, Try.f14, Option.getD_some, go_sem, ↓reduceIte, Nat.reduceSub, Nat.reduceAdd, Nat.reduceMul, Nat.reduceBEq, Nat.reduceLT, Nat.reduceLeDiff, Nat.reduceEqDiff, reduceCtorEq, Int.reduceToNat, Int.reduceLE, Int.reduceLT, Int.reduceBEq, Int.reduceBNe, mCall, tdepth_S, lt_false (Nat.le_refl t.args.length)]
theorem tdepth_spec [N0] : ∀ t : Tm, t.size < room → (lim C).call 14 [dT t] [] = retI t.depth := by
  refine Tm.ind fun t ih hs => ?_
  have hr : room = 1099511627776 := rfl
  rw [ev_fn 14 Try.f14 _ _ _ rfl Try.func14 rfl Try.ntmps14 rfl]
  simp -implicitDefEqProofs (disch := decide +kernel) only [go_sem, ↓reduceIte, Nat.reduceSub, Nat.reduceAdd, Nat.reduceMul, Nat.reduceBEq, Nat.reduceLT, Nat.reduceLeDiff, Nat.reduceEqDiff, reduceCtorEq, Int.reduceToNat, Int.reduceLE, Int.reduceLT, Int.reduceBEq, Int.reduceBNe, mCall]
  rw [tdepth_loop (t := t) ?hb ?hs (fun x hx => ih x hx (by have := size_arg hx; omega)) hs]
  case hb => rfl
  case hs => rfl
  have h1 := deps_all t
  have h2 := depth_size t
  simp -implicitDefEqProofs (disch := decide +kernel) only [go_sem, ↓reduceIte, Nat.reduceSub, Nat.reduceAdd, Nat.reduceMul, Nat.reduceBEq, Nat.reduceLT, Nat.reduceLeDiff, Nat.reduceEqDiff, reduceCtorEq, Int.reduceToNat, Int.reduceLE, Int.reduceLT, Int.reduceBEq, Int.reduceBNe, mCall, wrap_succ (n := deps' t t.args.length) (by omega), h1]
theorem tmay_spec [N0] (t : Tm) : (lim C).call 22 [dT t] [] = retB (nodeOk t) := by
  rw [ev_fn 22 Try.f22 _ _ _ rfl Try.func22 rfl Try.ntmps22 rfl]
  rcases kinds t with hk | hk | hk | hk | hk
  · have hn : nodeOk t = (t.head == 0 && t.args.length == 0) := by simp [nodeOk, hk]
    rw [hn]
    have k0 : (t.kind == 0) = true := by rw [hk]; rfl
    have k1 : (t.kind == 1) = false := by rw [hk]; rfl
    have k3 : (t.kind == 3) = false := by rw [hk]; rfl
    have e2 : ((t.args.length : Int) == 0) = (t.args.length == 0) := by rw [Bool.eq_iff_iff]; simp <;> omega
    cases h1 : (t.head == 0)
    · simp -implicitDefEqProofs (disch := decide +kernel) only [go_sem, ↓reduceIte, Nat.reduceSub, Nat.reduceAdd, Nat.reduceMul, Nat.reduceBEq, Nat.reduceLT, Nat.reduceLeDiff, Nat.reduceEqDiff, reduceCtorEq, Int.reduceToNat, Int.reduceLE, Int.reduceLT, Int.reduceBEq, Int.reduceBNe, mCall, k0, k1, k3, h1, e2]
    · simp -implicitDefEqProofs (disch := decide +kernel) only [go_sem, ↓reduceIte, Nat.reduceSub, Nat.reduceAdd, Nat.reduceMul, Nat.reduceBEq, Nat.reduceLT, Nat.reduceLeDiff, Nat.reduceEqDiff, reduceCtorEq, Int.reduceToNat, Int.reduceLE, Int.reduceLT, Int.reduceBEq, Int.reduceBNe, mCall, k0, k1, k3, h1, e2]
  · have hn : nodeOk t = (t.head == 0 && t.args.length == 2) := by simp [nodeOk, hk]
    rw [hn]
    have k0 : (t.kind == 0) = false := by rw [hk]; rfl
    have k1 : (t.kind == 1) = true := by rw [hk]; rfl
    have k3 : (t.kind == 3) = false := by rw [hk]; rfl
    have e2 : ((t.args.length : Int) == 2) = (t.args.length == 2) := by rw [Bool.eq_iff_iff]; simp <;> omega
    cases h1 : (t.head == 0)
    · simp -implicitDefEqProofs (disch := decide +kernel) only [go_sem, ↓reduceIte, Nat.reduceSub, Nat.reduceAdd, Nat.reduceMul, Nat.reduceBEq, Nat.reduceLT, Nat.reduceLeDiff, Nat.reduceEqDiff, reduceCtorEq, Int.reduceToNat, Int.reduceLE, Int.reduceLT, Int.reduceBEq, Int.reduceBNe, mCall, k0, k1, k3, h1, e2]
    · simp -implicitDefEqProofs (disch := decide +kernel) only [go_sem, ↓reduceIte, Nat.reduceSub, Nat.reduceAdd, Nat.reduceMul, Nat.reduceBEq, Nat.reduceLT, Nat.reduceLeDiff, Nat.reduceEqDiff, reduceCtorEq, Int.reduceToNat, Int.reduceLE, Int.reduceLT, Int.reduceBEq, Int.reduceBNe, mCall, k0, k1, k3, h1, e2]
  · have hn : nodeOk t = decide (t.head ≥ 0) := by simp [nodeOk, hk]
    rw [hn]
    have k0 : (t.kind == 0) = false := by rw [hk]; rfl
    have k1 : (t.kind == 1) = false := by rw [hk]; rfl
    have k3 : (t.kind == 3) = false := by rw [hk]; rfl
    have e1 : decide (t.kind ≥ 0) = true := by simp [hk]
    have e2 : decide (t.kind < 7) = true := by simp [hk]
    simp -implicitDefEqProofs (disch := decide +kernel) only [go_sem, ↓reduceIte, Nat.reduceSub, Nat.reduceAdd, Nat.reduceMul, Nat.reduceBEq, Nat.reduceLT, Nat.reduceLeDiff, Nat.reduceEqDiff, reduceCtorEq, Int.reduceToNat, Int.reduceLE, Int.reduceLT, Int.reduceBEq, Int.reduceBNe, mCall, k0, k1, k3, e1, e2]
  · have hn : nodeOk t = (t.head == 0 && t.args.length == 1) := by simp [nodeOk, hk]
    rw [hn]
    have k0 : (t.kind == 0) = false := by rw [hk]; rfl
    have k1 : (t.kind == 1) = false := by rw [hk]; rfl
    have k3 : (t.kind == 3) = true := by rw [hk]; rfl
    have e2 : ((t.args.length : Int) == 1) = (t.args.length == 1) := by rw [Bool.eq_iff_iff]; simp <;> omega
    cases h1 : (t.head == 0)
    · simp -implicitDefEqProofs (disch := decide +kernel) only [go_sem, ↓reduceIte, Nat.reduceSub, Nat.reduceAdd, Nat.reduceMul, Nat.reduceBEq, Nat.reduceLT, Nat.reduceLeDiff, Nat.reduceEqDiff, reduceCtorEq, Int.reduceToNat, Int.reduceLE, Int.reduceLT, Int.reduceBEq, Int.reduceBNe, mCall, k0, k1, k3, h1, e2]
    · simp -implicitDefEqProofs (disch := decide +kernel) only [go_sem, ↓reduceIte, Nat.reduceSub, Nat.reduceAdd, Nat.reduceMul, Nat.reduceBEq, Nat.reduceLT, Nat.reduceLeDiff, Nat.reduceEqDiff, reduceCtorEq, Int.reduceToNat, Int.reduceLE, Int.reduceLT, Int.reduceBEq, Int.reduceBNe, mCall, k0, k1, k3, h1, e2]
  · have k0 : (t.kind == 0) = false := by simp; omega
    have k1 : (t.kind == 1) = false := by simp; omega
    have k3 : (t.kind == 3) = false := by simp; omega
    have hn : nodeOk t = (decide (t.kind ≥ 0) && decide (t.kind < 7) && decide (t.head ≥ 0)) := by
      unfold nodeOk
      rw [if_neg (by omega), if_neg (by omega), if_neg (by omega)]
    rw [hn]
    cases e1 : decide (t.kind ≥ 0)
    · simp -implicitDefEqProofs (disch := decide +kernel) only [go_sem, ↓reduceIte, Nat.reduceSub, Nat.reduceAdd, Nat.reduceMul, Nat.reduceBEq, Nat.reduceLT, Nat.reduceLeDiff, Nat.reduceEqDiff, reduceCtorEq, Int.reduceToNat, Int.reduceLE, Int.reduceLT, Int.reduceBEq, Int.reduceBNe, mCall, k0, k1, k3, e1]
    · cases e2 : decide (t.kind < 7)
      · simp -implicitDefEqProofs (disch := decide +kernel) only [go_sem, ↓reduceIte, Nat.reduceSub, Nat.reduceAdd, Nat.reduceMul, Nat.reduceBEq, Nat.reduceLT, Nat.reduceLeDiff, Nat.reduceEqDiff, reduceCtorEq, Int.reduceToNat, Int.reduceLE, Int.reduceLT, Int.reduceBEq, Int.reduceBNe, mCall, k0, k1, k3, e1, e2]
      · simp -implicitDefEqProofs (disch := decide +kernel) only [go_sem, ↓reduceIte, Nat.reduceSub, Nat.reduceAdd, Nat.reduceMul, Nat.reduceBEq, Nat.reduceLT, Nat.reduceLeDiff, Nat.reduceEqDiff, reduceCtorEq, Int.reduceToNat, Int.reduceLE, Int.reduceLT, Int.reduceBEq, Int.reduceBNe, mCall, k0, k1, k3, e1, e2]
theorem tmay1_spec [N0] (n : Int) (t : Tm) : (lim C).call 21 [dI n, dT t] [] = retB (nodeOk t) := by
  rw [ev_fn 21 Try.f21 _ _ _ rfl Try.func21 rfl Try.ntmps21 rfl]
  simp -implicitDefEqProofs (disch := decide +kernel) only [go_sem, ↓reduceIte, Nat.reduceSub, Nat.reduceAdd, Nat.reduceMul, Nat.reduceBEq, Nat.reduceLT, Nat.reduceLeDiff, Nat.reduceEqDiff, reduceCtorEq, Int.reduceToNat, Int.reduceLE, Int.reduceLT, Int.reduceBEq, Int.reduceBNe, mCall, tmay_spec t]
end Go.Proofs.Ytmmhpmfgcenngaa
/- The program's functions of layer 1: all, May, Scoped, Same. -/
set_option linter.unusedSimpArgs false
set_option linter.unusedVariables false
set_option maxRecDepth 100000
namespace Go.Proofs.Ytmmhpmfgcenngaa
open Go.Proofs
noncomputable def all_L [N0] (n : Nat) (so : AV) : LoopA := { fn := 20, tmps := tl 16 [(3, .href n 0), (4, .href (n + 1) 0), (8, .fn 28 [] [.href (n + 2) 0])], params := [9, 10], assign := cf (cf (cs (cf (cs (bodyOf Try.f20))))), body := cs (cf (cs (cf (cs (bodyOf Try.f20))))) }
noncomputable def all_H [N0] (h : List HO) (so : AV) (t : Tm) : List HO := h ++ [.var 0 [so], .var 0 [dB false], .var 0 (cel3 t), .loop .ready none (all_L h.length so)]
noncomputable def all_E [N0] (h : List HO) (so : AV) (t : Tm) : List HO := h ++ [.var 0 [so], .var 0 [dB false], .var 0 (cel3 t), .loop .done (some .ret) (all_L h.length so)]
def stepB (p : Int → Tm → Bool) : Unit → Int × Tm → Except Unit Unit := fun _ q => if p q.1 q.2 then .ok () else .error ()
/-- A function that answers of each node, and leaves the shared variables alone. -/
def Answers [N0] (g : Nat) (caps : List AV) (h : List HO) (p : Int → Tm → Bool) (ok : Int × Tm → Prop) : Prop :=
  ∀ (n : Int) (x : Tm) (locs : List (Option (List AV))) (hp : List HO) (toks : List (Option Nat)), ok (n, x) → mCall C (lim C) g (dI n :: dT x :: caps) { locs := locs, heap := h ++ hp, toks := toks } = some (.v (dB (p n x)), { locs := locs, heap := h ++ hp, toks := toks })
theorem all_yields [N0] {g : Nat} {caps : List AV} {h : List HO} {p : Int → Tm → Bool} {ok : Int × Tm → Prop} (ha : Answers g caps h p ok) (t : Tm) :
    Yields (h.length + 3) (fun _ : Unit => all_H h (.fn g [] caps) t) (fun _ : Unit => all_E h (.fn g [] caps) t) (stepB p) ok := by
  intro z n x locs toks hok
  have h1 := fun locs hp toks => ha n x locs hp toks hok
  simp only [stepB]
  cases hp : p n x
  · rw [hp] at h1
    simp -implicitDefEqProofs (disch := decide +kernel) only [cf, cs, bodyOf, Try.f20, Option.getD_some, go_sem, ↓reduceIte, Nat.reduceSub, Nat.reduceAdd, Nat.reduceMul, Nat.reduceBEq, Nat.reduceLT, Nat.reduceLeDiff, Nat.reduceEqDiff, reduceCtorEq, Int.reduceToNat, Int.reduceLE, Int.reduceLT, Int.reduceBEq, Int.reduceBNe, all_H, all_E, all_L, mYld_K, getApp, getApp0, setApp, setApp0, h1]
  · rw [hp] at h1
    simp -implicitDefEqProofs (disch := decide +kernel) only [cf, cs, bodyOf, Try.f20, Option.getD_some, go_sem, ↓reduceIte, Nat.reduceSub, Nat.reduceAdd, Nat.reduceMul, Nat.reduceBEq, Nat.reduceLT, Nat.reduceLeDiff, Nat.reduceEqDiff, reduceCtorEq, Int.reduceToNat, Int.reduceLE, Int.reduceLT, Int.reduceBEq, Int.reduceBNe, all_H, all_E, all_L, mYld_K, getApp, getApp0, setApp, setApp0, h1]

theorem run_stepB (p : Int → Tm → Bool) : ∀ l : List (Int × Tm), runL (stepB p) l () = if (l.all fun q => p q.1 q.2) then .ok () else .error ()
  | [] => rfl
  | q :: l => by
    rw [runL]
    have ih := run_stepB p l
    cases hp : p q.1 q.2
    · simp [stepB, hp]
    · simp only [stepB, hp, if_true, List.all_cons, Bool.true_and]; exact ih
theorem all_spec [N0] {g : Nat} {caps : List AV} {h : List HO} {p : Int → Tm → Bool} {ok : Int × Tm → Prop} (ha : Answers g caps h p ok) (hc1 : okL caps = true) (hc2 : eraseL caps = caps) (t : Tm) (hs : t.size < room) (hok : ∀ q ∈ pre t 0, ok q) :
    (lim C).call 20 [dT t, .fn g [] caps] h = some (.ret (dB ((pre t 0).all fun q => p q.1 q.2)), h ++ [.var 0 [.fn g [] caps], .var 0 [dB ((pre t 0).all fun q => p q.1 q.2)], .var 0 (cel3 t), .dead]) := by
  rw [ev_fn 20 Try.f20 _ _ _ rfl Try.func20 rfl Try.ntmps20 rfl]
  simp -implicitDefEqProofs (disch := decide +kernel) only [go_sem, ↓reduceIte, Nat.reduceSub, Nat.reduceAdd, Nat.reduceMul, Nat.reduceBEq, Nat.reduceLT, Nat.reduceLeDiff, Nat.reduceEqDiff, reduceCtorEq, Int.reduceToNat, Int.reduceLE, Int.reduceLT, Int.reduceBEq, Int.reduceBNe, mCall, hc1, hc2, tnodes_spec, List.length_append]
  have h1 := tnodes1_spec (all_yields ha t) t hs (i := h.length + 2) () (by simp only [all_H, getApp]; rfl) hok
  rw [run_stepB] at h1
  rw [call_at h1 ?hh]
  case hh => rfl
  cases hall : (pre t 0).all fun q => p q.1 q.2
  · simp -implicitDefEqProofs (disch := decide +kernel) only [go_sem, ↓reduceIte, Nat.reduceSub, Nat.reduceAdd, Nat.reduceMul, Nat.reduceBEq, Nat.reduceLT, Nat.reduceLeDiff, Nat.reduceEqDiff, reduceCtorEq, Int.reduceToNat, Int.reduceLE, Int.reduceLT, Int.reduceBEq, Int.reduceBNe, mCall, hc1, hc2, List.length_append, all_H, all_E, getApp, getApp0, setApp, setApp0]
  · simp -implicitDefEqProofs (disch := decide +kernel) only [go_sem, ↓reduceIte, Nat.reduceSub, Nat.reduceAdd, Nat.reduceMul, Nat.reduceBEq, Nat.reduceLT, Nat.reduceLeDiff, Nat.reduceEqDiff, reduceCtorEq, Int.reduceToNat, Int.reduceLE, Int.reduceLT, Int.reduceBEq, Int.reduceBNe, mCall, hc1, hc2, List.length_append, all_H, all_E, getApp, getApp0, setApp, setApp0]
theorem all_pre {p : Int × Tm → Bool} {t : Tm} {n : Int} : (pre t n).all p = (p (n, t) && allB t.args.length fun i => (pre (t.arg i) (n + bnd t i)).all p) := by
  rw [pre_eq, List.all_cons]
  congr 1
  rw [preF_flat, Bool.eq_iff_iff, allB_iff]
  simp only [List.all_eq_true, List.mem_flatMap, List.mem_range'_1]
  constructor
  · intro h i hi x hx
    exact h x ⟨i, by omega, hx⟩
  · rintro h x ⟨i, hi, hx⟩
    exact h i (by omega) x hx
theorem pre_nodes : ∀ (t : Tm) (n : Int), ((pre t n).all fun q => nodeOk q.2) = nodesB t := by
  refine Tm.ind fun t ih n => ?_
  rw [all_pre, nodesB_eq]
  congr 1
  exact allB_congr fun i hi => ih _ (arg_mem hi) _
def scopeB (v m : Int) (n : Int) (x : Tm) : Bool := (x.kind != 4 || decide (x.head - n < v)) && (x.kind != 6 || decide (x.head < m))
theorem pre_scoped (v m : Int) : ∀ (t : Tm) (n : Int), ((pre t n).all fun q => scopeB v m q.1 q.2) = scopedB t (v + n) m := by
  refine Tm.ind fun t ih n => ?_
  rw [all_pre, scopedB_eq]
  congr 1
  · have e : decide (t.head - n < v) = !decide (t.head ≥ v + n) := by rw [Bool.eq_iff_iff]; simp; omega
    have e2 : decide (t.head < m) = !decide (t.head ≥ m) := by rw [Bool.eq_iff_iff]; simp
    simp only [scopeB, e, e2, bne]
    cases (t.kind == 4) <;> cases (t.kind == 6) <;> simp
  · refine allB_congr fun i hi => ?_
    rw [ih _ (arg_mem hi)]
    congr 1
    omega
theorem may_answers [N0] : Answers 21 [] [] (fun _ x => nodeOk x) (fun _ => True) := by
  intro n x locs hp toks _
  simp only [mCall, callsPure, pureL, AV.pure, C_thr, eraseL, AV.erase, tmay1_spec, Bool.and_true, Bool.true_and, List.contains_cons, List.contains_nil, Nat.reduceBEq, Bool.or_false, Bool.not_false, if_true, Option.bind_some, pureRes_ret, AV.keepE, AV.retE, retL]
theorem tmay_all [N0] (t : Tm) (hs : t.size < room) : (lim C).call 20 [dT t, .fn 21 [] []] [] = some (.ret (dB (nodesB t)), [.var 0 [.fn 21 [] []], .var 0 [dB (nodesB t)], .var 0 (cel3 t), .dead]) := by
  have := all_spec may_answers rfl rfl t hs (fun _ _ => trivial)
  rw [pre_nodes] at this
  exact this
theorem tMay_spec [N0] (t : Tm) (hs : t.size < room) : (lim C).call 11 [dT t] [] = retB (mayB t) := by
  have e1 : decide ((t.depth : Int) ≤ 60) = decide (t.depth ≤ 60) := by simp only [decide_eq_decide]; omega
  have e2 : decide ((t.size : Int) ≤ 4000) = decide (t.size ≤ 4000) := by simp only [decide_eq_decide]; omega
  rw [ev_fn 11 Try.f11 _ _ _ rfl Try.func11 rfl Try.ntmps11 rfl]
  unfold mayB
  cases h1 : decide (t.depth ≤ 60)
  · rw [h1] at e1
    simp -implicitDefEqProofs (disch := decide +kernel) only [go_sem, ↓reduceIte, Nat.reduceSub, Nat.reduceAdd, Nat.reduceMul, Nat.reduceBEq, Nat.reduceLT, Nat.reduceLeDiff, Nat.reduceEqDiff, reduceCtorEq, Int.reduceToNat, Int.reduceLE, Int.reduceLT, Int.reduceBEq, Int.reduceBNe, mCall, tdepth_spec t hs, e1]
  · rw [h1] at e1
    cases h2 : decide (t.size ≤ 4000)
    · rw [h2] at e2
      simp -implicitDefEqProofs (disch := decide +kernel) only [go_sem, ↓reduceIte, Nat.reduceSub, Nat.reduceAdd, Nat.reduceMul, Nat.reduceBEq, Nat.reduceLT, Nat.reduceLeDiff, Nat.reduceEqDiff, reduceCtorEq, Int.reduceToNat, Int.reduceLE, Int.reduceLT, Int.reduceBEq, Int.reduceBNe, mCall, tdepth_spec t hs, tsize_spec t hs, e1, e2]
    · rw [h2] at e2
      cases h3 : nodesB t
      · have h4 := tmay_all t hs
        rw [h3] at h4
        simp -implicitDefEqProofs (disch := decide +kernel) only [go_sem, ↓reduceIte, Nat.reduceSub, Nat.reduceAdd, Nat.reduceMul, Nat.reduceBEq, Nat.reduceLT, Nat.reduceLeDiff, Nat.reduceEqDiff, reduceCtorEq, Int.reduceToNat, Int.reduceLE, Int.reduceLT, Int.reduceBEq, Int.reduceBNe, mCall, tdepth_spec t hs, tsize_spec t hs, e1, e2, h4]
      · have h4 := tmay_all t hs
        rw [h3] at h4
        simp -implicitDefEqProofs (disch := decide +kernel) only [go_sem, ↓reduceIte, Nat.reduceSub, Nat.reduceAdd, Nat.reduceMul, Nat.reduceBEq, Nat.reduceLT, Nat.reduceLeDiff, Nat.reduceEqDiff, reduceCtorEq, Int.reduceToNat, Int.reduceLE, Int.reduceLT, Int.reduceBEq, Int.reduceBNe, mCall, tdepth_spec t hs, tsize_spec t hs, e1, e2, h4]
/-- No variable's number goes round. -/
def calm (q : Int × Tm) : Prop := q.2.kind = 4 → -9223372036854775808 ≤ q.2.head - q.1 ∧ q.2.head - q.1 ≤ 9223372036854775807
theorem tscoped1_spec [N0] (n v m : Int) (x : Tm) (hp : List HO) (hc : calm (n, x)) : (lim C).call 27 [dI n, dT x, .href 0 0, .href 1 0] (.var 0 [dI v] :: .var 0 [dI m] :: hp) = some (.ret (dB (scopeB v m n x)), .var 0 [dI v] :: .var 0 [dI m] :: hp) := by
  rw [ev_fn 27 Try.f27 _ _ _ rfl Try.func27 rfl Try.ntmps27 rfl]
  unfold scopeB
  cases h1 : (x.kind != 4)
  · have hc := hc (by simpa using h1)
    have hw : IntKind.wrap .i64 (x.head - n) = x.head - n := wrap_ok hc.1 hc.2
    have h2 : (x.kind != 6) = true := by simp at h1 ⊢; omega
    cases h3 : decide (x.head - n < v)
    · simp -implicitDefEqProofs (disch := decide +kernel) only [go_sem, ↓reduceIte, Nat.reduceSub, Nat.reduceAdd, Nat.reduceMul, Nat.reduceBEq, Nat.reduceLT, Nat.reduceLeDiff, Nat.reduceEqDiff, reduceCtorEq, Int.reduceToNat, Int.reduceLE, Int.reduceLT, Int.reduceBEq, Int.reduceBNe, mCall, h1, hw, h3]
    · simp -implicitDefEqProofs (disch := decide +kernel) only [go_sem, ↓reduceIte, Nat.reduceSub, Nat.reduceAdd, Nat.reduceMul, Nat.reduceBEq, Nat.reduceLT, Nat.reduceLeDiff, Nat.reduceEqDiff, reduceCtorEq, Int.reduceToNat, Int.reduceLE, Int.reduceLT, Int.reduceBEq, Int.reduceBNe, mCall, h1, hw, h2, h3]
  · cases h2 : (x.kind != 6)
    · simp -implicitDefEqProofs (disch := decide +kernel) only [go_sem, ↓reduceIte, Nat.reduceSub, Nat.reduceAdd, Nat.reduceMul, Nat.reduceBEq, Nat.reduceLT, Nat.reduceLeDiff, Nat.reduceEqDiff, reduceCtorEq, Int.reduceToNat, Int.reduceLE, Int.reduceLT, Int.reduceBEq, Int.reduceBNe, mCall, h1, h2]
    · simp -implicitDefEqProofs (disch := decide +kernel) only [go_sem, ↓reduceIte, Nat.reduceSub, Nat.reduceAdd, Nat.reduceMul, Nat.reduceBEq, Nat.reduceLT, Nat.reduceLeDiff, Nat.reduceEqDiff, reduceCtorEq, Int.reduceToNat, Int.reduceLE, Int.reduceLT, Int.reduceBEq, Int.reduceBNe, mCall, h1, h2]
theorem scoped_answers [N0] (v m : Int) : Answers 27 [.href 0 0, .href 1 0] [.var 0 [dI v], .var 0 [dI m]] (scopeB v m) calm := by
  intro n x locs hp toks hc
  simp only [mCall, callsPure, pureL, AV.pure, okL, AV.okA, C_thr, eraseL, AV.erase, List.cons_append, List.nil_append, tscoped1_spec n v m x hp hc, Bool.and_true, Bool.true_and, Bool.and_false, Bool.false_and, Bool.false_eq_true, if_false, if_true, Option.bind_some, heapRes_ret, AV.keepE, AV.retE, retL]
theorem tscoped_spec [N0] (t : Tm) (v m : Int) (hs : t.size < room) (hc : ∀ q ∈ pre t 0, calm q) : ∃ h, (lim C).call 15 [dT t, dI v, dI m] [] = some (.ret (dB (scopedB t v m)), h) := by
  have h1 := all_spec (scoped_answers v m) rfl rfl t hs hc
  rw [pre_scoped, Int.add_zero] at h1
  refine ⟨[.var 0 [dI v], .var 0 [dI m]] ++ [.var 0 [.fn 27 [] [.href 0 0, .href 1 0]], .var 0 [dB (scopedB t v m)], .var 0 (cel3 t), .dead], ?_⟩
  rw [ev_fn 15 Try.f15 _ _ _ rfl Try.func15 rfl Try.ntmps15 rfl]
  simp -implicitDefEqProofs (disch := decide +kernel) only [go_sem, ↓reduceIte, Nat.reduceSub, Nat.reduceAdd, Nat.reduceMul, Nat.reduceBEq, Nat.reduceLT, Nat.reduceLeDiff, Nat.reduceEqDiff, reduceCtorEq, Int.reduceToNat, Int.reduceLE, Int.reduceLT, Int.reduceBEq, Int.reduceBNe, mCall, h1]
def tsame_S (t u : Tm) (i : Nat) : St := mk 45 [(3, .lref 3 0), (29, dL t.args), (30, dI t.args.length), (31, dI i)] [(3, cel3 u)] [] []
theorem tsame_loop [N0] {b : Code} {σ : St} {t u : Tm} (hb : b = cf (cf (cs (cf (cs (cs (bodyOf Try.f8))))))) (hσ : σ = tsame_S t u 0) (hlu : u.args.length = t.args.length) (ih : ∀ x ∈ t.args, ∀ y ∈ u.args, (lim C).call 8 [dT x, dT y] [] = retB (sameB x y)) (hl : t.args.length < room) :
    (lim C).code 8 (.loop b) σ = some (if allB t.args.length (fun i => sameB (t.arg i) (u.arg i)) then (.exit 0, mk 45 [(3, .lref 3 0), (29, dL t.args), (30, dI t.args.length), (31, dI t.args.length), (32, dB false)] [(3, cel3 u)] [] []) else (.ret, mk 45 [(4, dB false)] [] [] [])) := by
  subst hb hσ
  have hr : room = 1099511627776 := rfl
  refine loop_all (tsame_S t u) t.args.length _ ?_ ?_ ?_ (by simp) (by simp)
  · intro i hi hp
    have hiu : i < u.args.length := by omega
    have hc := ih _ (arg_mem hi) _ (arg_mem hiu)
    rw [hp] at hc
    simp -implicitDefEqProofs (disch := decide +kernel) only [cf, cs, bodyOf, Try.f8, Option.getD_some, go_sem, ↓reduceIte, Nat.reduceSub, Nat.reduceAdd, Nat.reduceMul, Nat.reduceBEq, Nat.reduceLT, Nat.reduceLeDiff, Nat.reduceEqDiff, reduceCtorEq, Int.reduceToNat, Int.reduceLE, Int.reduceLT, Int.reduceBEq, Int.reduceBNe, mCall, tsame_S, lt_true hi, arg_get hi, arg_get hiu, hc, wrap_succ (n := i) (by omega)]
  · intro i hi hp
    have hiu : i < u.args.length := by omega
    have hc := ih _ (arg_mem hi) _ (arg_mem hiu)
    rw [hp] at hc
    simp -implicitDefEqProofs (disch := decide +kernel) only [cf, cs, bodyOf, Try.f8, Option.getD_some, go_sem, ↓reduceIte, Nat.reduceSub, Nat.reduceAdd, Nat.reduceMul, Nat.reduceBEq, Nat.reduceLT, Nat.reduceLeDiff, Nat.reduceEqDiff, reduceCtorEq, Int.reduceToNat, Int.reduceLE, Int.reduceLT, Int.reduceBEq, Int.reduceBNe, mCall, tsame_S, lt_true hi, arg_get hi, arg_get hiu, hc]
  · simp -implicitDefEqProofs (disch := decide +kernel) only [cf, cs, bodyOf, Try.f8, Option.getD_some, go_sem, ↓reduceIte, Nat.reduceSub, Nat.reduceAdd, Nat.reduceMul, Nat.reduceBEq, Nat.reduceLT, Nat.reduceLeDiff, Nat.reduceEqDiff, reduceCtorEq, Int.reduceToNat, Int.reduceLE, Int.reduceLT, Int.reduceBEq, Int.reduceBNe, mCall, tsame_S, lt_false (Nat.le_refl t.args.length)]
theorem tsame_spec [N0] : ∀ t : Tm, t.size < room → ∀ u : Tm, (lim C).call 8 [dT t, dT u] [] = retB (sameB t u) := by
  refine Tm.ind fun t ih hs u => ?_
  have hl := len_size t
  rw [ev_fn 8 Try.f8 _ _ _ rfl Try.func8 rfl Try.ntmps8 rfl]
  rw [sameB_eq]
  cases h1 : (t.kind == u.kind)
  · have e1 : (t.kind != u.kind) = true := by simpa using h1
    simp -implicitDefEqProofs (disch := decide +kernel) only [go_sem, ↓reduceIte, Nat.reduceSub, Nat.reduceAdd, Nat.reduceMul, Nat.reduceBEq, Nat.reduceLT, Nat.reduceLeDiff, Nat.reduceEqDiff, reduceCtorEq, Int.reduceToNat, Int.reduceLE, Int.reduceLT, Int.reduceBEq, Int.reduceBNe, mCall, e1]
  · have e1 : (t.kind != u.kind) = false := by simpa using h1
    cases h2 : (t.head == u.head)
    · have e2 : (t.head != u.head) = true := by simpa using h2
      simp -implicitDefEqProofs (disch := decide +kernel) only [go_sem, ↓reduceIte, Nat.reduceSub, Nat.reduceAdd, Nat.reduceMul, Nat.reduceBEq, Nat.reduceLT, Nat.reduceLeDiff, Nat.reduceEqDiff, reduceCtorEq, Int.reduceToNat, Int.reduceLE, Int.reduceLT, Int.reduceBEq, Int.reduceBNe, mCall, e1, e2]
    · have e2 : (t.head != u.head) = false := by simpa using h2
      by_cases h3 : u.args.length = t.args.length
      · have e3 : ((t.args.length : Int) != (u.args.length : Int)) = false := by simp [h3]
        simp -implicitDefEqProofs (disch := decide +kernel) only [go_sem, ↓reduceIte, Nat.reduceSub, Nat.reduceAdd, Nat.reduceMul, Nat.reduceBEq, Nat.reduceLT, Nat.reduceLeDiff, Nat.reduceEqDiff, reduceCtorEq, Int.reduceToNat, Int.reduceLE, Int.reduceLT, Int.reduceBEq, Int.reduceBNe, mCall, e1, e2, e3]
        rw [tsame_loop (t := t) (u := u) ?hb ?hs h3 (fun x hx y hy => ih x hx (by have := size_arg hx; omega) y) (by omega)]
        case hb => rfl
        case hs => rfl
        have h4 : (t.args.length == u.args.length) = true := by simp [h3]
        cases hall : allB t.args.length (fun i => sameB (t.arg i) (u.arg i)) <;> simp -implicitDefEqProofs (disch := decide +kernel) only [go_sem, ↓reduceIte, Nat.reduceSub, Nat.reduceAdd, Nat.reduceMul, Nat.reduceBEq, Nat.reduceLT, Nat.reduceLeDiff, Nat.reduceEqDiff, reduceCtorEq, Int.reduceToNat, Int.reduceLE, Int.reduceLT, Int.reduceBEq, Int.reduceBNe, mCall, h4]
      · have e3 : ((t.args.length : Int) != (u.args.length : Int)) = true := bne_iff_ne.2 (by omega)
        simp -implicitDefEqProofs (disch := decide +kernel) only [go_sem, ↓reduceIte, Nat.reduceSub, Nat.reduceAdd, Nat.reduceMul, Nat.reduceBEq, Nat.reduceLT, Nat.reduceLeDiff, Nat.reduceEqDiff, reduceCtorEq, Int.reduceToNat, Int.reduceLE, Int.reduceLT, Int.reduceBEq, Int.reduceBNe, mCall, e1, e2, e3]
        have h4 : (t.args.length == u.args.length) = false := by simp; omega
        simp [h4]
end Go.Proofs.Ytmmhpmfgcenngaa
set_option linter.unusedSimpArgs false
set_option linter.unusedVariables false
set_option maxRecDepth 100000
namespace Go.Proofs.Ytmmhpmfgcenngaa
open Go.Proofs
theorem own_loop [N0] {b : Code} {σ : St} {t : Tm} (hb : b = cf (cf (cs (cf (cs (cs (bodyOf Try.f7))))))) (hσ : σ = mk 25 [(1, .lref 1 0), (2, .lref 2 0), (3, .clip []), (7, .d (.slc (encs t.args))), (8, .d (.int .i64 t.args.length)), (9, .d (.int .i64 0))]
    [(1, [.d (.int .i64 t.kind), .d (.int .i64 t.head), .d (.slc (encs t.args))]), (2, [.d (.int .i64 0), .d (.int .i64 0), .clip []])] [] [])
    (ih : ∀ x ∈ t.args, (lim C).call 7 [.d (enc x)] [] = some (.ret (nT x), [])) (hl : t.args.length < room) :
    (lim C).code 7 (.loop b) σ = some (.exit 0, mk 25 [(1, .lref 1 0), (2, .lref 2 0), (3, acc 0 (encs t.args)), (7, .d (.slc (encs t.args))), (8, .d (.int .i64 t.args.length)), (9, .d (.int .i64 t.args.length)), (10, .d (.bool false))]
    [(1, [.d (.int .i64 t.kind), .d (.int .i64 t.head), .d (.slc (encs t.args))]), (2, [.d (.int .i64 0), .d (.int .i64 0), .clip []])] [] (accT t.args.length)) := by
  subst hb hσ
  have hr : room = 1099511627776 := rfl
  refine loop_run (fun i => mk 25 [(1, .lref 1 0), (2, .lref 2 0), (3, acc 0 (encs (t.args.take i))), (7, .d (.slc (encs t.args))), (8, .d (.int .i64 t.args.length)), (9, .d (.int .i64 i))]
    [(1, [.d (.int .i64 t.kind), .d (.int .i64 t.head), .d (.slc (encs t.args))]), (2, [.d (.int .i64 0), .d (.int .i64 0), .clip []])] [] (accT i)) t.args.length ?_ ?_ (by simp)
  · intro i hi
    have hli : t.args[i]? = some t.args[i] := List.getElem?_eq_getElem hi
    have hln := encs_take_len (l := t.args) (i := i) (by omega)
    have hap := fun locs heap => mApp_acc (encs (t.args.take i)) (enc t.args[i]) 3 locs heap (by rw [hln]; omega) (encs_all _) (enc_width _)
    rw [hln, encs_snoc hi] at hap
    have hih := ih t.args[i] (List.getElem_mem hi)
    simp -implicitDefEqProofs (disch := decide +kernel) only [cf, cs, bodyOf, Try.f7, Option.getD_some, go_sem, ↓reduceIte, Nat.reduceSub, Nat.reduceAdd, Nat.reduceMul, Nat.reduceBEq, Nat.reduceLT, Nat.reduceLeDiff, Nat.reduceEqDiff, reduceCtorEq, Int.reduceToNat, Int.reduceLE, Int.reduceLT, Int.reduceBEq, Int.reduceBNe, mCall, lt_true hi, hli, hih, hap, nT, (enc_eq t.args[i]).symm, wrap_succ (n := i) (by omega)]
  · simp -implicitDefEqProofs (disch := decide +kernel) only [cf, cs, bodyOf, Try.f7, Option.getD_some, go_sem, ↓reduceIte, Nat.reduceSub, Nat.reduceAdd, Nat.reduceMul, Nat.reduceBEq, Nat.reduceLT, Nat.reduceLeDiff, Nat.reduceEqDiff, reduceCtorEq, Int.reduceToNat, Int.reduceLE, Int.reduceLT, Int.reduceBEq, Int.reduceBNe, mCall, lt_false (Nat.le_refl t.args.length)]
    simp
theorem own_spec [N0] : ∀ t : Tm, t.size < room → (lim C).call 7 [.d (enc t)] [] = some (.ret (nT t), []) := by
  refine Tm.ind fun t ih hs => ?_
  have hl := len_size t
  rw [ev_fn 7 Try.f7 _ _ _ rfl Try.func7 rfl Try.ntmps7 rfl]
  simp -implicitDefEqProofs (disch := decide +kernel) only [go_sem, ↓reduceIte, Nat.reduceSub, Nat.reduceAdd, Nat.reduceMul, Nat.reduceBEq, Nat.reduceLT, Nat.reduceLeDiff, Nat.reduceEqDiff, reduceCtorEq, Int.reduceToNat, Int.reduceLE, Int.reduceLT, Int.reduceBEq, Int.reduceBNe, mCall]
  rw [own_loop (t := t) ?hb ?hs (fun x hx => ih x hx (by have := size_arg hx; omega)) (by omega)]
  case hb => rfl
  case hs => rfl
  have har := acc_ret (encs t.args)
  rw [encs_length] at har
  simp -implicitDefEqProofs (disch := decide +kernel) only [go_sem, ↓reduceIte, Nat.reduceSub, Nat.reduceAdd, Nat.reduceMul, Nat.reduceBEq, Nat.reduceLT, Nat.reduceLeDiff, Nat.reduceEqDiff, reduceCtorEq, Int.reduceToNat, Int.reduceLE, Int.reduceLT, Int.reduceBEq, Int.reduceBNe, mCall, har, nT]
end Go.Proofs.Ytmmhpmfgcenngaa
/- The laws of layer 1: awake, TermSame. -/
set_option linter.unusedSimpArgs false
set_option linter.unusedVariables false
set_option maxRecDepth 100000
namespace Go.Proofs.Ytmmhpmfgcenngaa
open Go.Proofs
def aw : Tm := .mk 3 0 [.mk 4 0 []]
theorem aw_enc : Dv.agg [.int .i64 3, .int .i64 0, .slc [enc (.mk 4 0 [])]] = enc aw := by
  simp [aw, enc_mk, encs]
theorem aw_fold : Dv.agg [.int .i64 aw.kind, .int .i64 aw.head, .slc [enc (.mk 4 0 [])]] = enc aw := aw_enc
theorem aw_arg : Dv.agg [.int .i64 4, .int .i64 0, .slc []] = enc (.mk 4 0 []) := by
  simp [enc_mk, encs]
theorem aw_size : aw.size = 2 := by simp [aw, Tm.size]
theorem aw_depth : aw.depth = 2 := by simp [aw, Tm.depth]
theorem aw_may : mayB aw = true := by
  simp [mayB, aw_size, aw_depth]
  simp [aw, nodesB, allB, nodeOk, Tm.kind, Tm.head, Tm.args]
theorem aw_scoped : scopedB aw 0 0 = true := by
  simp [aw, scopedB, allB, bnd, Tm.kind, Tm.args]
theorem aw_scoped' : scopedB (.mk 4 0 []) 0 0 = false := by
  simp [scopedB]
theorem awake1_spec [N0] : (lim C).call 5 [] [] = retB true := by
  have hr : room = 1099511627776 := rfl
  have hs : aw.size < room := by rw [aw_size]; omega
  have hs' : (Tm.mk 4 0 []).size < room := by simp [Tm.size, room]
  have h1 := tsize_spec aw hs
  have h2 := tdepth_spec aw hs
  have h3 := tMay_spec aw hs
  rw [aw_size] at h1
  rw [aw_depth] at h2
  rw [aw_may] at h3
  obtain ⟨x4, h4⟩ := tscoped_spec aw 0 0 hs (fun q hq => by
    simp [aw, pre, bnd, Tm.kind, Tm.args, List.range, List.range.loop] at hq
    rcases hq with rfl | rfl <;> simp [calm, Tm.head])
  obtain ⟨x5, h5⟩ := tscoped_spec (.mk 4 0 []) 0 0 hs' (fun q hq => by
    simp [pre] at hq
    subst hq
    simp [calm, Tm.head])
  rw [aw_scoped] at h4
  rw [aw_scoped'] at h5
  rw [show ((2 : Nat) : Int) = 2 from rfl] at h1 h2
  have ha : encs aw.args = [enc (.mk 4 0 [])] := rfl
  rw [ev_fn 5 Try.f5 _ _ _ rfl Try.func5 rfl Try.ntmps5 rfl]
  simp -implicitDefEqProofs (disch := decide +kernel) only [go_sem, ↓reduceIte, Nat.reduceSub, Nat.reduceAdd, Nat.reduceMul, Nat.reduceBEq, Nat.reduceLT, Nat.reduceLeDiff, Nat.reduceEqDiff, reduceCtorEq, Int.reduceToNat, Int.reduceLE, Int.reduceLT, Int.reduceBEq, Int.reduceBNe, mCall, aw_enc, aw_fold, aw_arg, ha, h1, h2, h3, h4, h5]
theorem low_light {t : Tm} {s d : Int} (h : lightB t s d = true) : lowB t = true := by
  unfold lightB at h
  simp only [Bool.and_eq_true] at h
  exact h.1.1
end Go.Proofs.Ytmmhpmfgcenngaa
/- Arguments of a law: terms, as they are read. -/
set_option linter.unusedVariables false
set_option linter.unusedSimpArgs false
namespace Go.Proofs.Ytmmhpmfgcenngaa
open Go.Proofs Go.ChangeShapes
def in64 (n : Int) : Prop := -9223372036854775808 ≤ n ∧ n ≤ 9223372036854775807
inductive Wf : Tm → Prop where
  | mk {t : Tm} : in64 t.kind → in64 t.head → (∀ x ∈ t.args, Wf x) → Wf t
theorem Wf.args {t : Tm} (h : Wf t) : ∀ x ∈ t.args, Wf x := by cases h; assumption
theorem Wf.kind {t : Tm} (h : Wf t) : in64 t.kind := by cases h; assumption
theorem Wf.head {t : Tm} (h : Wf t) : in64 t.head := by cases h; assumption
theorem Wf.pre {t : Tm} (h : Wf t) : ∀ (n : Int), ∀ q ∈ pre t n, Wf q.2 := by
  induction h with
  | mk h1 h2 h3 ih =>
    intro n
    refine pre_ind (.mk h1 h2 h3) fun i hi p hp => ih _ (arg_mem hi) _ p hp
theorem int_wf {n : Int} (h : (Lit.int .i64 n).wf = true) : in64 n := by
  simpa [Lit.wf, IntKind.min, IntKind.max, IntKind.signed, IntKind.bits, in64] using h
section
variable {H : Type} {enc' : TypeId × Value → H} {W : World} {held : Bool}
theorem list_of {α β : Type} {P : α → β → Prop} : ∀ l : List α, (∀ x ∈ l, ∃ y, P x y) → ∃ r : List β, r.length = l.length ∧ ∀ (i : Nat) (x : α) (y : β), l[i]? = some x → r[i]? = some y → P x y
  | [], _ => ⟨[], rfl, fun i x y h => by simp at h⟩
  | x :: l, h => by
    obtain ⟨y, hy⟩ := h x (by simp)
    obtain ⟨r, h1, h2⟩ := list_of l fun z hz => h z (by simp [hz])
    refine ⟨y :: r, by simp [h1], fun i a b ha hb => ?_⟩
    cases i with
    | zero => simp at ha hb; subst ha hb; exact hy
    | succ i => exact h2 i a b (by simpa using ha) (by simpa using hb)
theorem int_read [N0] {fuel : Nat} {cs : List Value} {x : DataW H × List MemPlace} (h : DataW.trod enc' Try.prog W 0 (fun _ => true) held fuel 3 cs = some x) : ∃ n, dv x.1 = .int .i64 n ∧ in64 n ∧ x.1 = .lit (.int .i64 n) := by
  obtain ⟨n, _, rfl, hw⟩ := DataW.trod_int Try.underlying3 h
  exact ⟨n, rfl, int_wf hw, rfl⟩
theorem tms_read [N0] {fuel : Nat} (ih : ∀ m, m < fuel → ∀ (cs : List Value) (x : DataW H × List MemPlace), DataW.trod enc' Try.prog W 0 (fun _ => true) held m 24 cs = some x → ∃ t : Tm, dv x.1 = enc t ∧ Wf t ∧ t.size ≤ Rows.uptoBulk x.1)
    {cs : List Value} {x : DataW H × List MemPlace} (h : DataW.trod enc' Try.prog W 0 (fun _ => true) held fuel 22 cs = some x) : ∃ l : List Tm, dv x.1 = .slc (encs l) ∧ (∀ t ∈ l, Wf t) ∧ (l.map Tm.size).sum + 1 ≤ Rows.uptoBulk x.1 := by
  rcases DataW.trod_slice Try.underlying22 h with ⟨rfl, rfl⟩ | ⟨a, len, cap, elems, rest, n, hn, rfl, rfl, _, hlc, _, hel, hget, _, _⟩
  · exact ⟨[], rfl, by simp, by simp [Rows.uptoBulk]⟩
  · obtain ⟨l, h1, h2⟩ := list_of (P := fun (y : DataW H × List MemPlace) (t : Tm) => dv y.1 = enc t ∧ Wf t ∧ t.size ≤ Rows.uptoBulk y.1) elems fun y hy => by
      obtain ⟨i, hi⟩ := List.mem_iff_getElem?.1 hy
      have hlt := (List.getElem?_eq_some_iff.1 hi).1
      have := hget i (by omega)
      rw [hi] at this
      obtain ⟨cs, _, hx⟩ := Option.bind_eq_some_iff.1 this
      exact ih n (by omega) cs y hx
    have key : ∀ (es : List (DataW H × List MemPlace)) (l : List Tm), l.length = es.length → (∀ (i : Nat) y t, es[i]? = some y → l[i]? = some t → dv y.1 = enc t ∧ Wf t ∧ t.size ≤ Rows.uptoBulk y.1) →
        dvs (es.map (·.1)) = encs l ∧ (∀ t ∈ l, Wf t) ∧ (l.map Tm.size).sum ≤ Rows.uptoBulkAll (es.map (·.1)) := by
      intro es
      induction es with
      | nil =>
        intro l hl _
        obtain rfl : l = [] := List.eq_nil_of_length_eq_zero (by simpa using hl)
        exact ⟨rfl, by simp, by simp⟩
      | cons y es ih =>
        intro l hl hp
        cases l with
        | nil => simp at hl
        | cons t l =>
          obtain ⟨k1, k2, k3⟩ := hp 0 y t rfl rfl
          obtain ⟨j1, j2, j3⟩ := ih l (by simpa using hl) fun i a b ha hb => hp (i + 1) a b (by simpa using ha) (by simpa using hb)
          refine ⟨?_, fun x hx => ?_, ?_⟩
          · simp only [List.map_cons, dvs, k1, j1]; rfl
          · rcases List.mem_cons.1 hx with rfl | hx
            · exact k2
            · exact j2 x hx
          · simp only [List.map_cons, List.sum_cons, Rows.uptoBulkAll]
            omega
    obtain ⟨k1, k2, k3⟩ := key elems l h1 h2
    refine ⟨l, by simp only [dv, k1], k2, ?_⟩
    simp only [Rows.uptoBulk]
    omega
theorem tm_read [N0] : ∀ (fuel : Nat) (cs : List Value) (x : DataW H × List MemPlace), DataW.trod enc' Try.prog W 0 (fun _ => true) held fuel 24 cs = some x → ∃ t : Tm, dv x.1 = enc t ∧ Wf t ∧ t.size ≤ Rows.uptoBulk x.1 := by
  intro fuel
  induction fuel using Nat.strongRecOn with
  | ind fuel ih =>
    intro cs x h
    obtain ⟨xs, n, hn, rfl, hl, hxl, hg⟩ := DataW.trod_struct Try.underlying24 h
    obtain ⟨a, b, c, rfl⟩ : ∃ a b c, xs = [a, b, c] := by
      match xs, hxl with
      | [a, b, c], _ => exact ⟨a, b, c, rfl⟩
    have h0 := hg 0 _ rfl
    have h1 := hg 1 _ rfl
    have h2 := hg 2 _ rfl
    simp only [List.getElem?_cons_zero, List.getElem?_cons_succ] at h0 h1 h2
    obtain ⟨k, k1, k2, k3⟩ := int_read h0
    obtain ⟨d, d1, d2, d3⟩ := int_read h1
    obtain ⟨l, l1, l2, l3⟩ := tms_read (fuel := n) (fun m hm => ih m (by omega)) h2
    refine ⟨.mk k d l, ?_, .mk k2 d2 l2, ?_⟩
    · rw [enc_mk]
      simp only [List.map_cons, List.map_nil, dv, dcs, k1, d1, l1, Dv.cells, List.cons_append, List.nil_append]
    · rw [size_eq]
      simp only [List.map_cons, List.map_nil, Rows.uptoBulk, Rows.uptoBulkAll, Tm.args]
      omega
theorem tm_arg [N0] {v : Value} {d : DataW H} {ps : List MemPlace} (h : DataW.Trod enc' Try.prog W 0 (fun _ => true) held 24 v d ps) : ∃ t : Tm, dv d = enc t ∧ Wf t ∧ t.size ≤ Rows.uptoBulk d := by
  obtain ⟨fuel, h⟩ := h
  exact tm_read fuel _ _ h
theorem tms_arg [N0] {v : Value} {d : DataW H} {ps : List MemPlace} (h : DataW.Trod enc' Try.prog W 0 (fun _ => true) held 22 v d ps) : ∃ l : List Tm, dv d = .slc (encs l) ∧ (∀ t ∈ l, Wf t) ∧ (l.map Tm.size).sum + 1 ≤ Rows.uptoBulk d := by
  obtain ⟨fuel, h⟩ := h
  exact tms_read (fun m _ => tm_read m) h
theorem int_arg [N0] {v : Value} {d : DataW H} {ps : List MemPlace} (h : DataW.Trod enc' Try.prog W 0 (fun _ => true) held 3 v d ps) : ∃ n, dv d = .int .i64 n ∧ in64 n := by
  obtain ⟨fuel, h⟩ := h
  obtain ⟨n, h1, h2, _⟩ := int_read h
  exact ⟨n, h1, h2⟩
end
theorem own_knob : ownKnob Try.prog.godebug = none := by kernel_rfl
theorem small_bulk {H : Type} {l : List (DataW H)} (hk : Rows.uptoSmall H l = true) : Rows.uptoBulkAll l ≤ 1048576 := of_decide_eq_true hk
end Go.Proofs.Ytmmhpmfgcenngaa
/- The law TermOwn. -/
set_option linter.unusedSimpArgs false
set_option linter.unusedVariables false
set_option maxRecDepth 100000
namespace Go.Proofs.Ytmmhpmfgcenngaa
open Go.Proofs
attribute [go_sem] unum List.head?_cons
noncomputable def tow_S (t x : Tm) (K0 K1 : Value → Prop) : St := mk 67 [(1, .lref 1 0), (5, dI x.head), (6, .lref 6 0), (36, dB false)] [(1, [dI t.kind, dI t.head, .kn K0 (encs t.args)]), (6, [dI t.kind, dI t.head, .kn K1 (encs t.args)])] [] []
theorem town_pre [N0] {t x : Tm} {l : List Tm} (ha : t.args = x :: l) (hs : t.size < room) (h1 : lightB t 9000 200 = true) (S : Value) :
    (lim C).code 3 (cpre 7 (bodyOf Try.f3)) (mk 67 (unum 0 [oT S t]) [] [] []) = some (.nor, tow_S t x (fun V => V = S) newV) := by
  have h0 := encs_at0 ha
  have hl0 : ((t.args.length : Int) == 0) = false := by rw [ha]; simp; omega
  have hne : ((t.args.length : Int) != (t.args.length : Int)) = false := by simp
  have hho := own_spec t hs
  have hli := light_spec t 9000 200 hs
  rw [h1] at hli
  simp -implicitDefEqProofs (disch := decide +kernel) only [cpre, bodyOf, Try.f3, Option.getD_some, go_sem, ↓reduceIte, Nat.reduceSub, Nat.reduceAdd, Nat.reduceMul, Nat.reduceBEq, Nat.reduceLT, Nat.reduceLeDiff, Nat.reduceEqDiff, reduceCtorEq, Int.reduceToNat, Int.reduceLE, Int.reduceLT, Int.reduceBEq, Int.reduceBNe, mCall, oT, nT, tow_S, awake1_spec, hli, hho, h0, hl0, hne, (enc_eq t).symm]
noncomputable def tow_O [N0] : Array Oper := opsOf (cf (cpost 7 (bodyOf Try.f3)))
theorem tow_code [N0] : cpost 7 (bodyOf Try.f3) = .seq (.region 9 tow_O true) (cs (cpost 7 (bodyOf Try.f3))) := by kernel_rfl
theorem tow_store [N0] : ∃ o, tow_O[10]? = some o ∧ o.op = .store 3 (.tmp 46) (.tmp 44) ∧ o.dst = none ∧ o.guard = none := ⟨_, rfl, rfl, rfl, rfl⟩
theorem tow_alloc [N0] : allocs (C.esc 3) (calmed tow_O 10) = [] := by kernel_rfl
theorem tow_stat [N0] : statOk [0, 1, 2, 3, 4, 5, 6, 7, 8, 9, 10] (calmed tow_O 10) = true := by kernel_rfl
theorem tow_hang [N0] : ∀ x, x < tow_O.size → x ≠ 10 → Hang tow_O 10 x := hang_of (by kernel_rfl)
noncomputable def tow_M (t x : Tm) (S Sc : Value) : St := mk 67 [(1, .lref 1 0), (5, dI x.head), (6, .lref 6 0), (36, dB false), (37, .lref 6 2),
  (38, .kn (fun V => V = Sc) (encs t.args)), (39, .lref 6 2), (40, .kn (fun V => V = Sc) (encs t.args)), (41, .kp (fun V => V = Sc) 0 [.int .i64 x.kind, .int .i64 x.head, .slc (encs x.args)]),
  (42, .kp (fun V => V = Sc) 1 [.int .i64 x.head, .slc (encs x.args)]), (43, dI x.head), (44, dI (IntKind.i64.wrap (x.head + 1))), (45, .kp (fun V => V = Sc) 0 [.int .i64 x.kind, .int .i64 x.head, .slc (encs x.args)]),
  (46, .kp (fun V => V = Sc) 1 [.int .i64 x.head, .slc (encs x.args)])] [(1, [dI t.kind, dI t.head, .kn (fun V => V = S) (encs t.args)]), (6, [dI t.kind, dI t.head, .kn (fun V => V = Sc) (encs t.args)])] [] []
theorem town_mid [N0] {t x : Tm} {l : List Tm} (ha : t.args = x :: l) (S Sc : Value) :
    runP C (lim C) (C.esc 3) (calmed tow_O 10) [0, 1, 2, 3, 4, 5, 6, 7, 8, 9, 10] (tow_S t x (fun V => V = S) (fun V => V = Sc)) = some (.nor, tow_M t x S Sc) := by
  have h0 := encs_at0 ha
  simp -implicitDefEqProofs (disch := decide +kernel) only [tow_O, opsOf, calmed_get, cf, cpost, bodyOf, Try.f3, Option.getD_some, go_sem, ↓reduceIte, Nat.reduceSub, Nat.reduceAdd, Nat.reduceMul, Nat.reduceBEq, Nat.reduceLT, Nat.reduceLeDiff, Nat.reduceEqDiff, reduceCtorEq, Int.reduceToNat, Int.reduceLE, Int.reduceLT, Int.reduceBEq, Int.reduceBNe, mCall, tow_S, tow_M, h0]
noncomputable def tow_E (t x : Tm) (S Sc : Value) (m : List Tm) : St := mk 67 [(1, .lref 1 0), (5, dI x.head), (6, .lref 6 0)] [(1, [dI t.kind, dI t.head, .kn (fun V => V = S) (encs t.args)]), (6, [dI t.kind, dI t.head, .kn (fun V => V = Sc) (encs m)])] [] []
theorem town_end [N0] {t x : Tm} {l : List Tm} (ha : t.args = x :: l) (hs : t.size < room) (S Sc : Value) {m : List Tm} (hm : (Tm.mk t.kind t.head m).size = t.size) (hd : sameB (.mk t.kind t.head m) t = false) :
    (lim C).code 3 (cs (cpost 7 (bodyOf Try.f3))) (tow_E t x S Sc m) = some (.ret, mk 67 [(2, dB true)] [] [] []) := by
  have h0 := encs_at0 ha
  have hc := (enc_mk t.kind t.head m).symm
  have h1 := tsame_spec (.mk t.kind t.head m) (by omega) t
  have h2 := tsize_spec (.mk t.kind t.head m) (by omega)
  have h3 := tsize_spec t hs
  rw [hd] at h1
  rw [hm] at h2
  simp -implicitDefEqProofs (disch := decide +kernel) only [cs, cpost, bodyOf, Try.f3, Option.getD_some, go_sem, ↓reduceIte, Nat.reduceSub, Nat.reduceAdd, Nat.reduceMul, Nat.reduceBEq, Nat.reduceLT, Nat.reduceLeDiff, Nat.reduceEqDiff, reduceCtorEq, Int.reduceToNat, Int.reduceLE, Int.reduceLT, Int.reduceBEq, Int.reduceBNe, mCall, tow_E, h0, hc, (enc_eq t).symm, h1, h2, h3]
theorem wrap_ne {n : Int} (h : in64 n) : IntKind.wrap .i64 (n + 1) ≠ n := by
  unfold in64 at h
  simp only [IntKind.wrap, IntKind.signed, IntKind.bits]
  simp
  omega
section
variable {w : World}
/-- The head of the first one of what is written. -/
theorem head_at [N0] {h : Array Obj} {M : Nat → Nat → Prop} {x : Tm} {m : List Tm} {b o mm cp : Nat} (e : rep h M (.slc (encs (x :: m))) (.slice (some ⟨b, o, none⟩) mm cp)) : cel h b o = some (.int .i64 x.kind) ∧ cel h b (o + 1) = some (.int .i64 x.head) := by
  simp only [rep] at e
  obtain ⟨A, c, e1, e2, e3, e4⟩ := e
  simp only [Value.slice.injEq] at e1
  obtain ⟨rfl, _, _⟩ := e1
  rcases e4 _ rfl with h0 | ⟨_, sz, hr⟩
  · simp [encs] at h0
  · simp only [encs, List.map_cons, rows] at hr
    obtain ⟨⟨V, v1, v2, v3⟩, _⟩ := hr
    rw [enc_eq] at v1
    simp only [rep, reps] at v1
    obtain ⟨Vs, rfl, V1, Vs1, rfl, rfl, _, V2, Vs2, rfl, rfl, _, _⟩ := v1
    exact ⟨by have := (v3 0 (.int .i64 x.kind) rfl).1; rwa [Nat.add_zero] at this, (v3 1 (.int .i64 x.head) rfl).1⟩
theorem same_ne {k hd : Int} {t x y : Tm} {l m : List Tm} (ha : t.args = x :: l) (h : y.head ≠ x.head) : sameB (.mk k hd (y :: m)) t = false := by
  cases hq : sameB (.mk k hd (y :: m)) t with
  | false => rfl
  | true =>
    rw [sameB_eq] at hq
    simp only [Bool.and_eq_true] at hq
    have h0 := (allB_iff _ _).1 hq.2 0 (by simp [Tm.args])
    rw [sameB_eq] at h0
    simp only [Bool.and_eq_true, beq_iff_eq] at h0
    have e1 : (Tm.mk k hd (y :: m)).arg 0 = y := rfl
    have e2 : t.arg 0 = x := by unfold Tm.arg; rw [ha]; rfl
    rw [e1, e2] at h0
    exact absurd h0.1.1.2 h
set_option maxHeartbeats 1000000 in
theorem town_hand [N0] (hn : N0.n0 = w.heap.size) {t x : Tm} {l : List Tm} (ha : t.args = x :: l) (hw : Wf t) (hs : t.size < room) (h1 : lightB t 9000 200 = true) {S : Value} (hS : rep w.heap (fun _ _ => False) (.slc (encs t.args)) S) :
    Calls C.P 3 ([Value.agg #[.int .i64 t.kind, .int .i64 t.head, S]] : List Value).toArray w fun e w' => e = .returned (.bool true) ∧ Io w w' ∧ w.heap.size ≤ w'.heap.size ∧ ∀ k, k < w.heap.size → w'.heap[k]? = w.heap[k]? := by
  have hS1 : S.oneCell' = true := (rep_one hS (by simp)).1
  refine hand_calls fine (fn := Try.f3) (c := bodyOf Try.f3) Try.func3 rfl (args := [oT S t]) hn rfl ?_ fun G a hta fr => ?_
  · refine ⟨_, [], rfl, ?_, rfl⟩
    unfold oT
    simp only [ar]
    refine ⟨[.int .i64 t.kind, .int .i64 t.head, S], rfl, rfl, ⟨_, _, rfl, by simp [ar, rep], _, _, rfl, by simp [ar, rep], _, _, rfl, by simp only [ar]; exact ⟨hS, trivial⟩, rfl⟩, ?_⟩
    intro U hU
    simp only [List.mem_cons, List.not_mem_nil, or_false] at hU
    rcases hU with rfl | rfl | rfl
    · rfl
    · rfl
    · exact hS1
  rw [entry_mk Try.f3 [oT S t] [] Try.ntmps3 rfl] at fr
  refine cpre_wp fine 7 _ (town_pre ha hs h1 S) fr fun a1 w1 dm1 G1 io1 f1 => ?_
  obtain ⟨b6, Vs6, T6, k1, k2, k3, k4, k5⟩ := f1.fl.lc 6 _ rfl
  have k3' := k3
  simp only [ars, ar] at k3
  obtain ⟨V1, Vs1, rfl, q1, V2, Vs2, rfl, q2, Sc, Vs3, rfl, ⟨q3, q4⟩, rfl⟩ := k3
  have f1' : FR (ent0 w.heap) dm1 G1 (tow_S t x (fun V => V = S) (fun V => V = Sc)) a1 w1.heap := by
    refine ⟨f1.ft, ⟨f1.fl.ll, fun p cs hp => ?_⟩, f1.fk, f1.hr, f1.ow, f1.ev, f1.df⟩
    simp only [tow_S, mk, ll_get] at hp
    split at hp
    · simp only [lookL, Option.some.injEq] at hp
      split at hp
      · rename_i e
        subst e
        exact f1.fl.lc 1 cs (by rw [← hp]; rfl)
      · split at hp
        · rename_i e
          subst e
          cases hp
          exact ⟨b6, _, T6, k1, k2, ⟨V1, _, rfl, by simpa only [ar] using q1, V2, _, rfl, by simpa only [ar] using q2, Sc, _, rfl, by simp only [ar]; exact ⟨q3, trivial⟩, rfl⟩, rfl, k5⟩
        · cases hp
    · cases hp
  rw [tow_code]
  obtain ⟨o, o1, o2, o3, o4⟩ := tow_store
  refine wpIn_seq (draw_hand (lim_sound fine) fine.mix f1' o1 o3 o4 tow_alloc tow_stat (town_mid ha S Sc) tow_hang fun a2 w2 dm2 G2 io2 f2 => ?_)
  simp only [wpOpsIn, o1]
  have hwant : Region.wanted o (yielded tow_O a2.tmps) = true := by unfold Region.wanted; rw [o4]
  rw [if_pos hwant]
  have e46 := f2.ft.opv (.tmp 46)
  have e44 := f2.ft.opv (.tmp 44)
  have h46 : opv (tow_M t x S Sc).tmps (.tmp 46) = .kp (fun V => V = Sc) 1 [.int .i64 x.head, .slc (encs x.args)] := rfl
  have h44 : opv (tow_M t x S Sc).tmps (.tmp 44) = dI (IntKind.i64.wrap (x.head + 1)) := rfl
  rw [h46] at e46
  rw [h44] at e44
  simp only [ar, rep] at e44
  obtain ⟨b, off, c, T, s⟩ := f2.spot hn e46 q4
  obtain ⟨c', p⟩ := poked_row s (IntKind.i64.wrap (x.head + 1))
  refine store_wp o2 tsz_3 s.ptr (by rw [e44]; rfl) s.obj s.lt ?_
  rw [e44, o3]
  generalize hw3 : w2.setRow b (List.take off c.toList ++ [Value.int IntKind.i64 (IntKind.i64.wrap (x.head + 1))] ++ List.drop (off + 1) c.toList).toArray = w3 at p ⊢
  have io3 : Io w2 w3 := by rw [← hw3]; exact ⟨rfl, rfl⟩
  -- what the copy is now
  obtain ⟨b6', Vs6', T6', r1, r2, r3, r4, r5⟩ := f2.fl.lc 6 _ rfl
  simp only [ars, ar] at r3
  obtain ⟨U1, Us1, rfl, g1, U2, Us2, rfl, g2, U3, Us3, rfl, ⟨g3, rfl⟩, rfl⟩ := r3
  obtain ⟨y, y1, y2⟩ := rep_patch (p.turns s.cel) _ _ g3
  simp only [sh] at y1
  obtain ⟨ys, rfl, y3⟩ := y1
  obtain ⟨m, rfl, m1, m2⟩ := shs_terms _ _ y3
  obtain ⟨x', m', rfl⟩ : ∃ x' m', m = x' :: m' := by
    cases m with
    | nil => rw [ha] at m1; simp at m1
    | cons x' m' => exact ⟨x', m', rfl⟩
  obtain ⟨o0, mm, cp, hsl, hoff⟩ := s.sl
  have hx' : x'.head = IntKind.i64.wrap (x.head + 1) := by
    have y2' := y2
    rw [hsl] at y2'
    have := (head_at y2').2
    rw [← hoff, p.at_] at this
    simpa using this.symm
  have hne : x'.head ≠ x.head := by rw [hx']; exact wrap_ne (hw.args x (by rw [ha]; simp)).head
  have hsz : (Tm.mk t.kind t.head (x' :: m')).size = t.size := by rw [size_eq, size_eq t]; show 1 + ((x' :: m').map Tm.size).sum = _; rw [m2]
  have old := p.old s f2
  have f3 : FR (ent0 w.heap) dm2 G2 (tow_E t x S U3 (x' :: m')) a2 w3.heap := by
    refine fr_poked f2 s p (fun kv hkv => ?_) (fun q cs hq hl => ?_)
    · simp only [List.mem_cons, List.not_mem_nil, or_false] at hkv
      rcases hkv with rfl | rfl | rfl <;> exact ⟨rfl, rfl⟩
    · simp only [lookL] at hl
      split at hl
      · rename_i e
        subst e
        cases hl
        refine ⟨rfl, _, rfl, fun Vs hv => ?_⟩
        simp only [ars, ar] at hv ⊢
        obtain ⟨A1, As1, rfl, a1', A2, As2, rfl, a2', A3, As3, rfl, ⟨a3', rfl⟩, rfl⟩ := hv
        exact ⟨A1, _, rfl, a1', A2, _, rfl, a2', A3, _, rfl, ⟨rep_stay old _ _ hS, rfl⟩, rfl⟩
      · split at hl
        · rename_i e
          subst e
          cases hl
          refine ⟨rfl, _, rfl, fun Vs hv => ?_⟩
          simp only [ars, ar] at hv ⊢
          obtain ⟨A1, As1, rfl, a1', A2, As2, rfl, a2', A3, As3, rfl, ⟨a3', rfl⟩, rfl⟩ := hv
          exact ⟨A1, _, rfl, a1', A2, _, rfl, a2', A3, _, rfl, ⟨y2, rfl⟩, rfl⟩
        · cases hl
  refine wpIn_mono ((lim_sound fine).code none _ _ _ _ _ (town_end ha hs S U3 hsz (same_ne ha hne)) (.inl rfl) _ _ _ _ _ f3) fun e a4 w4 q => ⟨_, [], q.mono ((io1.trans io2).trans io3), rfl⟩
theorem town_else [N0] {t : Tm} (hs : t.size < room) (h : lightB t 9000 200 = false ∨ t.args = []) : ∃ hp, (lim C).call 3 [dT t] [] = some (.ret (dB true), hp) := by
  have hli := light_spec t 9000 200 hs
  refine ⟨[], ?_⟩
  rw [ev_fn 3 Try.f3 _ _ _ rfl Try.func3 rfl Try.ntmps3 rfl]
  cases h1 : lightB t 9000 200
  · rw [h1] at hli
    simp -implicitDefEqProofs (disch := decide +kernel) only [go_sem, ↓reduceIte, Nat.reduceSub, Nat.reduceAdd, Nat.reduceMul, Nat.reduceBEq, Nat.reduceLT, Nat.reduceLeDiff, Nat.reduceEqDiff, reduceCtorEq, Int.reduceToNat, Int.reduceLE, Int.reduceLT, Int.reduceBEq, Int.reduceBNe, mCall, awake1_spec, hli]
  · rw [h1] at hli h
    have ha : t.args = [] := by simpa using h
    have hl0 : ((t.args.length : Int) == 0) = true := by rw [ha]; rfl
    simp -implicitDefEqProofs (disch := decide +kernel) only [go_sem, ↓reduceIte, Nat.reduceSub, Nat.reduceAdd, Nat.reduceMul, Nat.reduceBEq, Nat.reduceLT, Nat.reduceLeDiff, Nat.reduceEqDiff, reduceCtorEq, Int.reduceToNat, Int.reduceLE, Int.reduceLT, Int.reduceBEq, Int.reduceBNe, mCall, awake1_spec, hli, hl0]
theorem termOwn_calls [N0] (hn : N0.n0 = w.heap.size) {t : Tm} (hw : Wf t) (hs : t.size ≤ 1048576) {v : Value} (hv : rep w.heap (fun _ _ => False) (enc t) v) :
    Calls C.P 3 #[v] w fun e w' => e = .returned (.bool true) ∧ Io w w' ∧ w.heap.size ≤ w'.heap.size ∧ ∀ k, k < w.heap.size → w'.heap[k]? = w.heap[k]? := by
  have hr : room = 1099511627776 := rfl
  by_cases h : lightB t 9000 200 = false ∨ t.args = []
  · obtain ⟨hp, hl⟩ := town_else (by omega) h
    exact lim_true fine hn hl rfl (As := [v]) ⟨v, [], rfl, hv, rfl⟩
  · simp only [not_or, Bool.not_eq_false] at h
    obtain ⟨x, l, ha⟩ : ∃ x l, t.args = x :: l := by
      cases ht : t.args with
      | nil => exact absurd ht h.2
      | cons x l => exact ⟨x, l, rfl⟩
    rw [enc_eq] at hv
    simp only [rep, reps] at hv
    obtain ⟨Vs, rfl, V1, Vs1, rfl, rfl, _, V2, Vs2, rfl, rfl, _, S, Vs3, rfl, hS, _, rfl⟩ := hv
    exact town_hand hn ha hw (by omega) h.1 (by simp only [rep]; exact hS)
end
end Go.Proofs.Ytmmhpmfgcenngaa
/- Terms whose variables are renumbered: in plain words. -/
set_option linter.unusedVariables false
namespace Go.Proofs.Ytmmhpmfgcenngaa
theorem mk_kind (k h : Int) (l : List Tm) : (Tm.mk k h l).kind = k := rfl
theorem mk_head (k h : Int) (l : List Tm) : (Tm.mk k h l).head = h := rfl
theorem mk_args (k h : Int) (l : List Tm) : (Tm.mk k h l).args = l := rfl
theorem mk_size (k h : Int) (l : List Tm) : (Tm.mk k h l).size = 1 + (l.map Tm.size).sum := by rw [size_eq]; rfl
theorem mk_self (t : Tm) : Tm.mk t.kind t.head t.args = t := by cases t; rfl
theorem tm_ext {t u : Tm} (h1 : t.kind = u.kind) (h2 : t.head = u.head) (h3 : t.args.length = u.args.length) (h4 : ∀ i, i < t.args.length → t.arg i = u.arg i) : t = u := by
  rw [← mk_self t, ← mk_self u, h1, h2]
  congr 1
  refine List.ext_getElem h3 fun i hi hj => ?_
  rw [arg_eq hi, arg_eq hj]
  exact h4 i hi
theorem may_parts {t : Tm} (h : mayB t = true) : nodesB t = true ∧ t.size ≤ 4000 ∧ t.depth ≤ 60 := by
  unfold mayB at h
  simp only [Bool.and_eq_true, decide_eq_true_eq] at h
  exact ⟨h.1.1, h.1.2, h.2⟩
theorem may_of {t : Tm} (h1 : nodesB t = true) (h2 : t.size ≤ 4000) (h3 : t.depth ≤ 60) : mayB t = true := by
  unfold mayB
  simp [h1, h2, h3]
theorem depth_arg {t x : Tm} (h : x ∈ t.args) : x.depth < t.depth := by
  rw [depth_eq t]
  have : ∀ l : List Tm, x ∈ l → x.depth ≤ (l.map Tm.depth).foldr max 0 := by
    intro l
    induction l with
    | nil => intro h; cases h
    | cons a l ih =>
      intro h
      simp only [List.map_cons, List.foldr_cons]
      rcases List.mem_cons.1 h with rfl | h
      · omega
      · have := ih h; omega
  have := this _ h
  omega
theorem node_args {t : Tm} (h : nodesB t = true) : ∀ i, i < t.args.length → nodesB (t.arg i) = true := by
  rw [nodesB_eq, Bool.and_eq_true, allB_iff] at h
  exact h.2
theorem node_here {t : Tm} (h : nodesB t = true) : nodeOk t = true := by
  rw [nodesB_eq, Bool.and_eq_true] at h
  exact h.1
theorem low_args {t : Tm} (h : lowB t = true) : ∀ i, i < t.args.length → lowB (t.arg i) = true := by
  rw [lowB_eq, Bool.and_eq_true, allB_iff] at h
  exact h.2
theorem low_here {t : Tm} (h : lowB t = true) : t.head ≤ 1099511627776 := by
  rw [lowB_eq, Bool.and_eq_true] at h
  exact of_decide_eq_true h.1
theorem node_head {t : Tm} (h : nodeOk t = true) : 0 ≤ t.head := by
  unfold nodeOk at h
  split at h
  · simp at h; omega
  · split at h
    · simp at h; omega
    · split at h
      · simp at h; omega
      · simp at h; omega
/-- A term whose variables are others: by how many bind around. -/
def mapT (g : Int → Int → Int) : Tm → Int → Tm
  | .mk k h l, n => .mk k (if k == 4 then g h n else h) ((List.range l.length).map fun i => if hi : i < l.length then mapT g l[i] (n + bnd (.mk k h l) i) else default)
decreasing_by
  have := List.sizeOf_lt_of_mem (List.getElem_mem hi)
  simp only [Tm.mk.sizeOf_spec]
  omega
theorem mapT_eq (g : Int → Int → Int) (t : Tm) (n : Int) : mapT g t n = .mk t.kind (if t.kind == 4 then g t.head n else t.head) ((List.range t.args.length).map fun i => mapT g (t.arg i) (n + bnd t i)) := by
  obtain ⟨k, h, l⟩ := t
  rw [mapT]
  congr 1
  refine List.map_congr_left fun i hi => ?_
  have hi' : i < l.length := by simpa using hi
  have := arg_eq (t := .mk k h l) hi'
  simp only [Tm.args] at this
  simp [hi', this]
theorem mapT_kind (g : Int → Int → Int) (t : Tm) (n : Int) : (mapT g t n).kind = t.kind := by rw [mapT_eq]; rfl
theorem mapT_head (g : Int → Int → Int) (t : Tm) (n : Int) : (mapT g t n).head = if t.kind == 4 then g t.head n else t.head := by rw [mapT_eq]; rfl
theorem mapT_len (g : Int → Int → Int) (t : Tm) (n : Int) : (mapT g t n).args.length = t.args.length := by rw [mapT_eq, mk_args]; simp
theorem mapT_arg (g : Int → Int → Int) {t : Tm} (n : Int) {i : Nat} (hi : i < t.args.length) : (mapT g t n).arg i = mapT g (t.arg i) (n + bnd t i) := by
  rw [mapT_eq]
  simp [Tm.arg, mk_args, List.getD, hi]
theorem mapT_bnd (g : Int → Int → Int) (t : Tm) (n : Int) (i : Nat) : bnd (mapT g t n) i = bnd t i := by
  unfold bnd
  rw [mapT_kind, mapT_len]
theorem mapT_args (g : Int → Int → Int) (t : Tm) (n : Int) : (mapT g t n).args = (List.range t.args.length).map fun i => mapT g (t.arg i) (n + bnd t i) := by rw [mapT_eq, mk_args]
theorem range_map {α β : Type} {f : α → β} {l : List α} {d : Nat → α} (h : ∀ i (hi : i < l.length), l[i] = d i) : (List.range l.length).map (fun i => f (d i)) = l.map f := by
  refine List.ext_getElem (by simp) fun i h1 h2 => ?_
  simp only [List.getElem_map, List.getElem_range]
  rw [h i (by simpa using h2)]
theorem args_map {β : Type} (f : Tm → β) (t : Tm) : (List.range t.args.length).map (fun i => f (t.arg i)) = t.args.map f := range_map fun i hi => arg_eq hi
theorem mapT_size (g : Int → Int → Int) : ∀ (t : Tm) (n : Int), (mapT g t n).size = t.size := by
  refine Tm.ind fun t ih n => ?_
  rw [size_eq, size_eq t, mapT_args, List.map_map, ← args_map]
  congr 2
  refine List.map_congr_left fun i hi => ?_
  exact ih _ (arg_mem (by simpa using hi)) _
theorem mapT_depth (g : Int → Int → Int) : ∀ (t : Tm) (n : Int), (mapT g t n).depth = t.depth := by
  refine Tm.ind fun t ih n => ?_
  rw [depth_eq, depth_eq t, mapT_args, List.map_map, ← args_map]
  congr 2
  refine List.map_congr_left fun i hi => ?_
  exact ih _ (arg_mem (by simpa using hi)) _
/-- Whether all variables of a term are so. -/
def canB (p : Int → Int → Bool) : Tm → Int → Bool
  | .mk k h l, n => (k != 4 || p h n) && allB l.length fun i => if hi : i < l.length then canB p l[i] (n + bnd (.mk k h l) i) else true
decreasing_by
  have := List.sizeOf_lt_of_mem (List.getElem_mem hi)
  simp only [Tm.mk.sizeOf_spec]
  omega
theorem canB_eq (p : Int → Int → Bool) (t : Tm) (n : Int) : canB p t n = ((t.kind != 4 || p t.head n) && allB t.args.length fun i => canB p (t.arg i) (n + bnd t i)) := by
  obtain ⟨k, h, l⟩ := t
  rw [canB]
  congr 1
  refine allB_congr fun i hi => ?_
  have := arg_eq (t := .mk k h l) hi
  simp only [Tm.args] at this
  simp [hi, this]
theorem canB_iff {p : Int → Int → Bool} {t : Tm} {n : Int} : canB p t n = true ↔ (t.kind = 4 → p t.head n = true) ∧ ∀ i, i < t.args.length → canB p (t.arg i) (n + bnd t i) = true := by
  rw [canB_eq, Bool.and_eq_true, allB_iff, Bool.or_eq_true, bne_iff_ne, ne_eq]
  constructor
  · rintro ⟨h1, h2⟩
    exact ⟨fun h => h1.resolve_left fun e => e h, h2⟩
  · rintro ⟨h1, h2⟩
    refine ⟨?_, h2⟩
    by_cases h : t.kind = 4
    · exact .inr (h1 h)
    · exact .inl h
theorem canB_mono {p q : Int → Int → Bool} (n0 : Int) (h : ∀ x m, n0 ≤ m → p x m = true → q x m = true) : ∀ (t : Tm) (n : Int), n0 ≤ n → canB p t n = true → canB q t n = true := by
  refine Tm.ind fun t ih n hn hc => ?_
  rw [canB_iff] at hc ⊢
  exact ⟨fun hk => h _ _ hn (hc.1 hk), fun i hi => ih _ (arg_mem hi) _ (by omega) (hc.2 i hi)⟩
theorem canB_and {p q : Int → Int → Bool} : ∀ (t : Tm) (n : Int), canB p t n = true → canB q t n = true → canB (fun x m => p x m && q x m) t n = true := by
  refine Tm.ind fun t ih n hc hd => ?_
  rw [canB_iff] at hc hd ⊢
  exact ⟨fun hk => by rw [hc.1 hk, hd.1 hk]; rfl, fun i hi => ih _ (arg_mem hi) _ (hc.2 i hi) (hd.2 i hi)⟩
/-- All variables of what may be are at least 0, and at most so great. -/
theorem canB_low : ∀ (t : Tm) (n : Int), nodesB t = true → lowB t = true → canB (fun x m => decide (0 ≤ x) && decide (x ≤ 1099511627776) && decide (n ≤ m)) t n = true := by
  have key : ∀ (t : Tm) (n0 n : Int), n0 ≤ n → nodesB t = true → lowB t = true → canB (fun x m => decide (0 ≤ x) && decide (x ≤ 1099511627776) && decide (n0 ≤ m)) t n = true := by
    refine Tm.ind fun t ih n0 n hn hc hl => ?_
    rw [canB_iff]
    refine ⟨fun _ => ?_, fun i hi => ih _ (arg_mem hi) _ _ (by omega) (node_args hc i hi) (low_args hl i hi)⟩
    have h1 := node_head (node_here hc)
    have h2 := low_here hl
    simp [h1, h2, hn]
  exact fun t n => key t n n (Int.le_refl n)
theorem mapT_congr {g g' : Int → Int → Int} {p : Int → Int → Bool} (h : ∀ x m, p x m = true → g x m = g' x m) : ∀ (t : Tm) (n : Int), canB p t n = true → mapT g t n = mapT g' t n := by
  refine Tm.ind fun t ih n hc => ?_
  rw [canB_iff] at hc
  rw [mapT_eq, mapT_eq g']
  congr 1
  · cases hk : (t.kind == 4)
    · rfl
    · rw [if_pos rfl, if_pos rfl, h _ _ (hc.1 (by simpa using hk))]
  · refine List.map_congr_left fun i hi => ?_
    have hi' : i < t.args.length := by simpa using hi
    exact ih _ (arg_mem hi') _ (hc.2 i hi')
theorem mapT_id {g : Int → Int → Int} {p : Int → Int → Bool} (h : ∀ x m, p x m = true → g x m = x) : ∀ (t : Tm) (n : Int), canB p t n = true → mapT g t n = t := by
  refine Tm.ind fun t ih n hc => ?_
  rw [canB_iff] at hc
  refine tm_ext (mapT_kind g t n) ?_ (mapT_len g t n) fun i hi => ?_
  · rw [mapT_head]
    cases hk : (t.kind == 4)
    · rfl
    · rw [if_pos rfl, h _ _ (hc.1 (by simpa using hk))]
  · rw [mapT_len] at hi
    rw [mapT_arg g n hi]
    exact ih _ (arg_mem hi) _ (hc.2 i hi)
theorem canB_true : ∀ (t : Tm) (n : Int), canB (fun _ _ => true) t n = true := by
  refine Tm.ind fun t ih n => ?_
  rw [canB_iff]
  exact ⟨fun _ => rfl, fun i hi => ih _ (arg_mem hi) _⟩
theorem mapT_map (g f : Int → Int → Int) : ∀ (t : Tm) (n : Int), mapT g (mapT f t n) n = mapT (fun x m => g (f x m) m) t n := by
  refine Tm.ind fun t ih n => ?_
  refine tm_ext (by simp only [mapT_kind]) ?_ (by simp only [mapT_len]) fun i hi => ?_
  · simp only [mapT_head, mapT_kind]
    cases (t.kind == 4) <;> rfl
  · simp only [mapT_len] at hi
    rw [mapT_arg _ _ hi, mapT_arg _ _ (by rw [mapT_len]; exact hi), mapT_arg _ _ hi, mapT_bnd]
    exact ih _ (arg_mem hi) _
theorem canB_map (p : Int → Int → Bool) (f : Int → Int → Int) : ∀ (t : Tm) (n : Int), canB p (mapT f t n) n = canB (fun x m => p (f x m) m) t n := by
  refine Tm.ind fun t ih n => ?_
  rw [canB_eq, canB_eq _ t, mapT_kind, mapT_head, mapT_len]
  congr 1
  · cases hk : (t.kind == 4)
    · simp [bne, hk]
    · simp
  · refine allB_congr fun i hi => ?_
    rw [mapT_arg _ _ hi, mapT_bnd]
    exact ih _ (arg_mem hi) _
theorem canB_ext {p q : Int → Int → Bool} (h : ∀ x m, p x m = q x m) (t : Tm) (n : Int) : canB p t n = canB q t n := by
  have : p = q := funext fun x => funext fun m => h x m
  rw [this]
theorem nodeOk_map {g : Int → Int → Int} {t : Tm} {n : Int} (h : nodeOk t = true) (hg : t.kind = 4 → 0 ≤ g t.head n) : nodeOk (mapT g t n) = true := by
  unfold nodeOk at h ⊢
  rw [mapT_kind, mapT_head, mapT_len]
  cases hk : (t.kind == 4)
  · exact h
  · have hk' : t.kind = 4 := by simpa using hk
    have := hg hk'
    simp [hk', this]
theorem nodesB_map {g : Int → Int → Int} {p : Int → Int → Bool} (hg : ∀ x m, p x m = true → 0 ≤ g x m) : ∀ (t : Tm) (n : Int), canB p t n = true → nodesB t = true → nodesB (mapT g t n) = true := by
  refine Tm.ind fun t ih n hc hn => ?_
  rw [canB_iff] at hc
  rw [nodesB_eq, Bool.and_eq_true, allB_iff, mapT_len]
  refine ⟨nodeOk_map (node_here hn) fun hk => hg _ _ (hc.1 hk), fun i hi => ?_⟩
  rw [mapT_arg _ _ hi]
  exact ih _ (arg_mem hi) _ (hc.2 i hi) (node_args hn i hi)
theorem scoped_iff {t : Tm} {v m : Int} : scopedB t v m = true ↔ (t.kind = 4 → t.head < v) ∧ (t.kind = 6 → t.head < m) ∧ ∀ i, i < t.args.length → scopedB (t.arg i) (v + bnd t i) m = true := by
  rw [scopedB_eq, Bool.and_eq_true, allB_iff]
  simp only [Bool.not_eq_true', Bool.or_eq_false_iff, Bool.and_eq_false_iff, beq_eq_false_iff_ne, decide_eq_false_iff_not, ne_eq]
  constructor
  · rintro ⟨⟨h1, h2⟩, h3⟩
    refine ⟨fun e => ?_, fun e => ?_, h3⟩
    · have := h1.resolve_left fun k => k e
      omega
    · have := h2.resolve_left fun k => k e
      omega
  · rintro ⟨h1, h2, h3⟩
    refine ⟨⟨?_, ?_⟩, h3⟩
    · by_cases e : t.kind = 4
      · have := h1 e; right; omega
      · exact .inl e
    · by_cases e : t.kind = 6
      · have := h2 e; right; omega
      · exact .inl e
/-- The variables of a scoped term are so. -/
theorem scoped_can {v M : Int} {n0 : Int} {p : Int → Int → Bool} (h : ∀ x d, 0 ≤ d → x < v + d → p x (n0 + d) = true) {t : Tm} (hs : scopedB t v M = true) : canB p t n0 = true := by
  have key : ∀ (t : Tm) (d : Int), 0 ≤ d → scopedB t (v + d) M = true → canB p t (n0 + d) = true := by
    refine Tm.ind fun t ih d hd hs => ?_
    rw [scoped_iff] at hs
    rw [canB_iff]
    refine ⟨fun hk => h _ _ hd (hs.1 hk), fun i hi => ?_⟩
    have := ih _ (arg_mem hi) (d + bnd t i) (by omega) (by rw [← Int.add_assoc]; exact hs.2.2 i hi)
    rw [Int.add_assoc]; exact this
  have := key t 0 (by omega) (by rw [Int.add_zero]; exact hs)
  rw [Int.add_zero] at this
  exact this
/-- What is scoped, and renumbered, is scoped. -/
theorem scoped_map {v v' M : Int} {n0 : Int} {p : Int → Int → Bool} {g : Int → Int → Int} (h : ∀ x d, 0 ≤ d → x < v + d → p x (n0 + d) = true → g x (n0 + d) < v' + d) {t : Tm} (hs : scopedB t v M = true) (hc : canB p t n0 = true) :
    scopedB (mapT g t n0) v' M = true := by
  have key : ∀ (t : Tm) (d : Int), 0 ≤ d → scopedB t (v + d) M = true → canB p t (n0 + d) = true → scopedB (mapT g t (n0 + d)) (v' + d) M = true := by
    refine Tm.ind fun t ih d hd hs hc => ?_
    rw [scoped_iff] at hs ⊢
    rw [canB_iff] at hc
    rw [mapT_kind, mapT_head, mapT_len]
    refine ⟨fun hk => ?_, fun hk => ?_, fun i hi => ?_⟩
    · simp only [hk, beq_self_eq_true, if_true]
      exact h _ _ hd (hs.1 hk) (hc.1 hk)
    · simp only [hk]
      exact hs.2.1 hk
    · rw [mapT_arg _ _ hi, mapT_bnd]
      have := ih _ (arg_mem hi) (d + bnd t i) (by omega) (by rw [← Int.add_assoc]; exact hs.2.2 i hi) (by rw [← Int.add_assoc]; exact hc.2 i hi)
      rw [Int.add_assoc, Int.add_assoc]
      exact this
  have := key t 0 (by omega) (by rw [Int.add_zero]; exact hs) (by rw [Int.add_zero]; exact hc)
  rw [Int.add_zero, Int.add_zero] at this
  exact this
/-! ### up and down -/
def gUp (by' : Int) (x m : Int) : Int := if x ≥ m then x + by' else x
def gDn (by' : Int) (x m : Int) : Int := if x < m then x else x - by'
def pDn (by' : Int) (x m : Int) : Bool := decide (x < m) || decide (x ≥ m + by')
abbrev upT (t : Tm) (by' from' : Int) : Tm := mapT (gUp by') t from'
abbrev dnT (t : Tm) (by' from' : Int) : Tm := mapT (gDn by') t from'
abbrev dnB (t : Tm) (by' from' : Int) : Bool := canB (pDn by') t from'
theorem up_zero (t : Tm) (n : Int) : upT t 0 n = t := mapT_id (p := fun _ _ => true) (fun x m _ => by unfold gUp; split <;> omega) t n (canB_true t n)
theorem dn_up_can (t : Tm) {b : Int} (hb : 0 ≤ b) (n : Int) : dnB (upT t b n) b n = true := by
  unfold dnB upT
  rw [canB_map, canB_ext (q := fun _ _ => true), canB_true]
  intro x m
  unfold pDn gUp
  split
  · simp; omega
  · simp; omega
theorem dn_up (t : Tm) {b : Int} (hb : 0 ≤ b) (n : Int) : dnT (upT t b n) b n = t := by
  unfold dnT upT
  rw [mapT_map]
  refine mapT_id (p := fun _ _ => true) (fun x m _ => ?_) t n (canB_true t n)
  unfold gDn gUp
  split <;> split <;> omega
theorem up_up (t : Tm) {b : Int} (hb : 0 ≤ b) (c n : Int) : upT (upT t b n) c n = upT t (b + c) n := by
  unfold upT
  rw [mapT_map]
  refine mapT_congr (p := fun _ _ => true) (fun x m _ => ?_) t n (canB_true t n)
  unfold gUp
  by_cases h : x ≥ m
  · rw [if_pos h, if_pos h, if_pos (by omega)]; omega
  · rw [if_neg h, if_neg h, if_neg h]
theorem up_may {t : Tm} (h : mayB t = true) {b : Int} (hb : 0 ≤ b) (n : Int) : mayB (upT t b n) = true := by
  obtain ⟨h1, h2, h3⟩ := may_parts h
  refine may_of ?_ (by rw [mapT_size]; exact h2) (by rw [mapT_depth]; exact h3)
  have key : ∀ (t : Tm) (n : Int), nodesB t = true → canB (fun x _ => decide (0 ≤ x)) t n = true := by
    refine Tm.ind fun t ih n hn => ?_
    rw [canB_iff]
    exact ⟨fun _ => by simpa using node_head (node_here hn), fun i hi => ih _ (arg_mem hi) _ (node_args hn i hi)⟩
  refine nodesB_map (fun x m hx => ?_) t n (key t n h1) h1
  have := of_decide_eq_true hx
  unfold gUp
  split <;> omega
theorem up_far {t : Tm} {v M : Int} (h : scopedB t v M = true) (b : Int) : upT t b v = t := by
  refine mapT_id (p := fun x m => decide (x < m)) (fun x m hx => ?_) t v (scoped_can (fun x d hd hx => by simpa using hx) h)
  have := of_decide_eq_true hx
  unfold gUp
  rw [if_neg (by omega)]
theorem dn_far {t : Tm} {v M : Int} (h : scopedB t v M = true) (b : Int) : dnT t b v = t := by
  refine mapT_id (p := fun x m => decide (x < m)) (fun x m hx => ?_) t v (scoped_can (fun x d hd hx => by simpa using hx) h)
  have := of_decide_eq_true hx
  unfold gDn
  rw [if_pos (by omega)]
theorem dn_far_can {t : Tm} {v M : Int} (h : scopedB t v M = true) (b : Int) : dnB t b v = true := by
  refine scoped_can (fun x d hd hx => ?_) h
  unfold pDn
  simp [hx]
theorem up_scoped {t : Tm} {v M b n : Int} (h : scopedB t v M = true) (hb : 0 ≤ b) : scopedB (upT t b n) (v + b) M = true := by
  refine scoped_map (p := fun _ _ => true) (fun x d hd hx _ => ?_) h (canB_true t n)
  unfold gUp
  split <;> omega
theorem dn_scoped {t : Tm} {v M b n w : Int} (h : scopedB t v M = true) (hc : dnB t b n = true) (h1 : v - b ≤ w) (h2 : n ≤ w) : scopedB (dnT t b n) w M = true := by
  refine scoped_map (p := pDn b) (fun x d hd hx hp => ?_) h hc
  unfold pDn at hp
  simp only [Bool.or_eq_true, decide_eq_true_eq] at hp
  unfold gDn
  split <;> omega
/-! ### how great variables are -/
theorem canB_const {q : Int → Bool} : ∀ (t : Tm) (n m : Int), canB (fun x _ => q x) t n = canB (fun x _ => q x) t m := by
  refine Tm.ind fun t ih n m => ?_
  rw [canB_eq, canB_eq _ t m]
  congr 1
  exact allB_congr fun i hi => ih _ (arg_mem hi) _ _
def vleB (c : Int) (t : Tm) : Bool := canB (fun x _ => decide (x ≤ c)) t 0
abbrev vlowB (t : Tm) : Bool := vleB 4503599627370496 t
theorem vle_at {c : Int} {t : Tm} (n : Int) : canB (fun x _ => decide (x ≤ c)) t n = vleB c t := canB_const t n 0
theorem vle_args {c : Int} {t : Tm} (h : vleB c t = true) : ∀ i, i < t.args.length → vleB c (t.arg i) = true := fun i hi => by
  unfold vleB at h
  rw [canB_iff] at h
  have := h.2 i hi
  rwa [vle_at] at this
theorem vle_here {c : Int} {t : Tm} (h : vleB c t = true) (hk : t.kind = 4) : t.head ≤ c := by
  unfold vleB at h
  rw [canB_iff] at h
  exact of_decide_eq_true (h.1 hk)
theorem vle_mono {c d : Int} (hd : c ≤ d) {t : Tm} (h : vleB c t = true) : vleB d t = true :=
  canB_mono 0 (fun x m _ hx => by simp at hx ⊢; omega) t 0 (Int.le_refl 0) h
theorem vle_low {t : Tm} (h : lowB t = true) : vleB 1099511627776 t = true := by
  unfold vleB
  have key : ∀ (t : Tm) (n : Int), lowB t = true → canB (fun x _ => decide (x ≤ 1099511627776)) t n = true := by
    refine Tm.ind fun t ih n hl => ?_
    rw [canB_iff]
    exact ⟨fun _ => by simpa using low_here hl, fun i hi => ih _ (arg_mem hi) _ (low_args hl i hi)⟩
  exact key t 0 h
theorem vlow_low {t : Tm} (h : lowB t = true) : vlowB t = true := vle_mono (by omega) (vle_low h)
theorem vle_up {c b : Int} {t : Tm} (h : vleB c t = true) (hb : 0 ≤ b) (n : Int) : vleB (c + b) (upT t b n) = true := by
  rw [← vle_at n]
  unfold upT
  rw [canB_map]
  rw [← vle_at n] at h
  refine canB_mono n (fun x m _ hx => ?_) t n (Int.le_refl n) h
  simp at hx ⊢
  unfold gUp
  split <;> omega
theorem vle_dn {c b : Int} {t : Tm} (h : vleB c t = true) (hb : 0 ≤ b) (n : Int) : vleB c (dnT t b n) = true := by
  rw [← vle_at n]
  unfold dnT
  rw [canB_map]
  rw [← vle_at n] at h
  refine canB_mono n (fun x m _ hx => ?_) t n (Int.le_refl n) h
  simp at hx ⊢
  unfold gDn
  split <;> omega
/-- All heads are at most so great. -/
def hleB (c : Int) : Tm → Bool
  | .mk _ h l => decide (h ≤ c) && allB l.length fun i => if hi : i < l.length then hleB c l[i] else true
decreasing_by
  have := List.sizeOf_lt_of_mem (List.getElem_mem hi)
  simp only [Tm.mk.sizeOf_spec]
  omega
theorem hleB_eq (c : Int) (t : Tm) : hleB c t = (decide (t.head ≤ c) && allB t.args.length fun i => hleB c (t.arg i)) := by
  obtain ⟨k, h, l⟩ := t
  rw [hleB]
  congr 1
  refine allB_congr fun i hi => ?_
  have := arg_eq (t := .mk k h l) hi
  simp only [Tm.args] at this
  simp [hi, this]
theorem hleB_iff {c : Int} {t : Tm} : hleB c t = true ↔ t.head ≤ c ∧ ∀ i, i < t.args.length → hleB c (t.arg i) = true := by
  rw [hleB_eq, Bool.and_eq_true, allB_iff, decide_eq_true_eq]
theorem hle_low : ∀ t : Tm, lowB t = true → hleB 1099511627776 t = true := by
  refine Tm.ind fun t ih h => ?_
  rw [hleB_iff]
  exact ⟨low_here h, fun i hi => ih _ (arg_mem hi) (low_args h i hi)⟩
theorem hle_mono {c d : Int} (hd : c ≤ d) : ∀ t : Tm, hleB c t = true → hleB d t = true := by
  refine Tm.ind fun t ih h => ?_
  rw [hleB_iff] at h ⊢
  exact ⟨by omega, fun i hi => ih _ (arg_mem hi) (h.2 i hi)⟩
theorem hle_vle {c : Int} {t : Tm} (h : hleB c t = true) : vleB c t = true := by
  rw [← vle_at 0]
  have key : ∀ (t : Tm) (n : Int), hleB c t = true → canB (fun x _ => decide (x ≤ c)) t n = true := by
    refine Tm.ind fun t ih n hl => ?_
    rw [hleB_iff] at hl
    rw [canB_iff]
    exact ⟨fun _ => by simpa using hl.1, fun i hi => ih _ (arg_mem hi) _ (hl.2 i hi)⟩
  exact key t 0 h
theorem hle_map {c c' : Int} {g : Int → Int → Int} {p : Int → Int → Bool} (hc : c ≤ c') (hg : ∀ x m, x ≤ c → p x m = true → g x m ≤ c') : ∀ (t : Tm) (n : Int), hleB c t = true → canB p t n = true → hleB c' (mapT g t n) = true := by
  refine Tm.ind fun t ih n hl hp => ?_
  rw [hleB_iff] at hl ⊢
  rw [canB_iff] at hp
  rw [mapT_head, mapT_len]
  refine ⟨?_, fun i hi => ?_⟩
  · cases hk : (t.kind == 4)
    · simp; omega
    · rw [if_pos rfl]; exact hg _ _ hl.1 (hp.1 (by simpa using hk))
  · rw [mapT_arg _ _ hi]
    exact ih _ (arg_mem hi) _ (hl.2 i hi) (hp.2 i hi)
theorem hle_up {c b : Int} {t : Tm} (h : hleB c t = true) (hb : 0 ≤ b) (n : Int) : hleB (c + b) (upT t b n) = true :=
  hle_map (p := fun _ _ => true) (by omega) (fun x m hx _ => by unfold gUp; split <;> omega) t n h (canB_true t n)
theorem hle_dn {c b : Int} {t : Tm} (h : hleB c t = true) (hb : 0 ≤ b) (n : Int) : hleB c (dnT t b n) = true :=
  hle_map (p := fun _ _ => true) (by omega) (fun x m hx _ => by unfold gDn; split <;> omega) t n h (canB_true t n)
theorem dn_nodes {t : Tm} {b n : Int} (h : nodesB t = true) (hb : 0 ≤ b) (hn : 0 ≤ n) (hc : dnB t b n = true) : nodesB (dnT t b n) = true := by
  have h0 : canB (fun x m => decide (0 ≤ x) && decide (n ≤ m)) t n = true := by
    have key : ∀ (t : Tm) (m : Int), n ≤ m → nodesB t = true → canB (fun x m => decide (0 ≤ x) && decide (n ≤ m)) t m = true := by
      refine Tm.ind fun t ih m hm hn => ?_
      rw [canB_iff]
      exact ⟨fun _ => by simpa using ⟨node_head (node_here hn), hm⟩, fun i hi => ih _ (arg_mem hi) _ (by omega) (node_args hn i hi)⟩
    exact key t n (Int.le_refl n) h
  refine nodesB_map (fun x m hx => ?_) t n (canB_and t n h0 hc) h
  simp only [Bool.and_eq_true, decide_eq_true_eq, pDn, Bool.or_eq_true] at hx
  unfold gDn
  split <;> omega
end Go.Proofs.Ytmmhpmfgcenngaa
