/- A frame's state, and what it stands for; steps of it. -/
import Derived.Test.YtmmhpmfgcenngaaKB
import Derived.RangeFuncRecord
namespace Go.Proofs.Ytmmhpmfgcenngaa

def Mh (G : Gh) (b off : Nat) : Prop := (∃ i : Nat, G.hb[i]? = some b) ∨ ∃ (i : Nat) (r : Tok), G.ha[i]? = some (some r) ∧ r.b = some b ∧ r.len * r.sz ≤ off
def Mf (G : Gh) (b off : Nat) : Prop := (∃ p : Nat, G.lb[p]? = some (some b)) ∨ ∃ (t : Nat) (r : Tok), G.tb[t]? = some (some r) ∧ r.b = some b ∧ r.len * r.sz ≤ off
def Mut (X : Nat → Nat → Prop) (G : Gh) (b off : Nat) : Prop := Mh G b off ∨ Mf G b off ∨ X b off

/-- What was when the frame began: memory, the variables that it shares, what it must not rely on. -/
structure Ent where
  h0 : Array Obj
  G0 : Gh
  X : Nat → Nat → Prop
  ds : List Deferred := []

def tokR (h : Array Obj) (r : Tok) : Prop := match r.b with
  | none => r.cap = r.len ∧ r.len = 0
  | some b => r.A = some ⟨b, 0, none⟩ ∧ r.len ≤ r.cap ∧ 0 < r.sz ∧ (0 < r.len ∨ r.sz = 3) ∧ ∃ Vs T, h[b]? = some (.cells Vs T (0, 0)) ∧ Vs.size = r.cap * r.sz

def lsOf : LSt → LoopState
  | .ready => .ready
  | .busy => .busy
  | .done => .done
def varR (G : Gh) (h : Array Obj) (M : Nat → Nat → Prop) (i : Nat) (cs : List AV) (Vs : List Value) : Prop :=
  (∃ xs r, cs = [.hown xs] ∧ Vs = [.slice r.A r.len r.cap] ∧ G.ha[i]? = some (some r) ∧ r.len = xs.length ∧ rep h M (.slc xs) (.slice r.A r.len r.cap) ∧ tokR h r ∧ own1 h M r xs (.slice r.A r.len r.cap)) ∨
  (G.ha[i]? = some none ∧ ars G h M cs Vs ∧ stillL cs = true ∧ ∀ U ∈ Vs, U.oneCell' = true)
def objR (G : Gh) (h : Array Obj) (M : Nat → Nat → Prop) (i : Nat) : HO → Prop
  | .var ver cs => ∃ b, G.hb[i]? = some b ∧ G.hv[i]? = some ver ∧ ∃ Vs T, h[b]? = some (.cells (List.toArray Vs) T (0, 0)) ∧ varR G h M i cs Vs
  | .loop st pend L => ∃ b, G.hb[i]? = some b ∧ G.ha[i]? = some none ∧ L.tmps.all AV.stillK = true ∧ (noRange L.assign && noRange L.body) = true ∧ ∃ Ts D fn', h[b]? = some (.loop { state := lsOf st, pending := pend, fn := fn', tmps := List.toArray Ts, params := L.params.toArray, assign := L.assign, body := L.body, defers := D }) ∧ ars G h M L.tmps Ts
  | .dead => ∃ b, G.hb[i]? = some b ∧ G.ha[i]? = some none ∧ ∃ L, h[b]? = some (.loop L)

structure HR (G : Gh) (h : Array Obj) (M : Nat → Nat → Prop) (heap : List HO) : Prop where
  lb : G.hb.length = heap.length
  lv : G.hv.length = heap.length
  la : G.ha.length = heap.length
  ob : ∀ (i : Nat) (o : HO), heap[i]? = some o → objR G h M i o
structure FL (G : Gh) (h : Array Obj) (M : Nat → Nat → Prop) (locs : List (Option (List AV))) : Prop where
  ll : G.lb.length = locs.length
  lc : ∀ (p : Nat) (cs : List AV), locs[p]? = some (some cs) → ∃ b Vs T, G.lb[p]? = some (some b) ∧ h[b]? = some (.cells (List.toArray Vs) T (0, 0)) ∧ ars G h M cs Vs ∧ okL cs = true ∧ ∀ U ∈ Vs, U.oneCell' = true
structure FK (G : Gh) (h : Array Obj) (toks : List (Option Nat)) : Prop where
  kl : G.tb.length = toks.length
  kt : ∀ (t n : Nat), toks[t]? = some (some n) → ∃ r, G.tb[t]? = some (some r) ∧ r.len = n
  kr : ∀ (t : Nat) (r : Tok), G.tb[t]? = some (some r) → tokR h r
structure FT (G : Gh) (h : Array Obj) (M : Nat → Nat → Prop) (tmps : List AV) (T : Array Value) : Prop where
  tl : tmps.length = T.size
  tm : ∀ (t : Nat) (v : AV), tmps[t]? = some v → ar G h M v (T.getD t undef)
structure OW (G : Gh) (h : Array Obj) (X : Nat → Nat → Prop) (dm : List Nat) : Prop where
  oh : ∀ (i b : Nat), G.hb[i]? = some b → G.ow b = .h i
  oa : ∀ (i b : Nat) (r : Tok), G.ha[i]? = some (some r) → r.b = some b → G.ow b = .a i
  ol : ∀ (p b : Nat), G.lb[p]? = some (some b) → G.ow b = .l p
  ot : ∀ (t b : Nat) (r : Tok), G.tb[t]? = some (some r) → r.b = some b → G.ow b = .t t
  fr : ∀ b : Nat, h.size ≤ b → G.ow b = .no
  xo : ∀ b off : Nat, X b off → G.ow b = .no
  dm : ∀ r ∈ dm, G.ow r = .no ∧ h[r]? = some (.deferred (some []))
/-- No cell of a new block is shut. -/
def NB [N0] (h : Array Obj) : Prop := ∀ b, N0.n0 ≤ b → ∀ c T f, h[b]? = some (.cells c T f) → f = (0, 0)
theorem NB_push [N0] {h : Array Obj} {o : Obj} (ho : nf o) (n : NB h) : NB (h.push o) := fun b hb c T f e => by
  rw [Array.getElem?_push] at e
  split at e
  · cases e; exact ho _ _ _ rfl
  · exact n b hb c T f e
theorem NB_block [N0] {h h' : Array Obj} {b : Nat} (ho : ∀ k, k ≠ b → h'[k]? = h[k]?) (hn : ∀ o, h'[b]? = some o → nf o) (n : NB h) : NB h' := fun k hk c T f e => by
  by_cases hb : k = b
  · subst hb; exact hn _ e _ _ _ rfl
  · rw [ho k hb] at e; exact n k hk c T f e
structure EV [N0] (E : Ent) (G : Gh) (h : Array Obj) : Prop where
  nb : NB h
  es : N0.n0 ≤ E.h0.size
  em : ∀ b off : Nat, Mh E.G0 b off → N0.n0 ≤ b
  sz : E.h0.size ≤ h.size
  xl : ∀ b off : Nat, E.X b off → b < E.h0.size
  bl : ∀ b : Nat, b < E.h0.size → (∀ off, ¬ Mh E.G0 b off) → h[b]? = E.h0[b]?
  ce : ∀ (b off : Nat) (v : Value), ¬ Mh E.G0 b off → cel E.h0 b off = some v → cel h b off = some v
  mu : ∀ b off : Nat, b < E.h0.size → Mh G b off ∨ Mf G b off → Mh E.G0 b off
  hb : ∀ (i b : Nat), E.G0.hb[i]? = some b → G.hb[i]? = some b
  hv : ∀ (i v : Nat), E.G0.hv[i]? = some v → ∃ v', G.hv[i]? = some v' ∧ v ≤ v' ∧ (v' = v → ∀ r, G.ha[i]? = some (some r) → E.G0.ha[i]? = some (some r))

structure FR [N0] (E : Ent) (dm : List Nat) (G : Gh) (σ : St) (a : Act) (h : Array Obj) : Prop where
  ft : FT G h (Mut E.X G) σ.tmps a.tmps
  fl : FL G h (Mut E.X G) σ.mem.locs
  fk : FK G h σ.mem.toks
  hr : HR G h (Mut E.X G) σ.mem.heap
  ow : OW G h E.X dm
  ev : EV E G h
  df : (a.defers = (dm.map fun r => { target := .collected r, args := #[] }) ++ E.ds) ∧ dm.Nodup ∧ ∀ r ∈ dm, E.h0.size ≤ r

/-- A step: which blocks it touches; what it leaves. -/
structure Upd [N0] (X : Nat → Nat → Prop) (ps : List Nat) (T : Nat → Prop) (G : Gh) (h : Array Obj) (G' : Gh) (h' : Array Obj) : Prop where
  nb : NB h → NB h'
  sz : h.size ≤ h'.size
  sm : ∀ b : Nat, b < h.size → ¬ T b → h'[b]? = h[b]?
  cw : ∀ b : Nat, T b → G.ow b ≠ .no ∧ ∃ off, Mh G b off ∨ Mf G b off
  st : Stay h (Mut X G) h' (Mut X G')
  sh : ∀ b off : Nat, b < h.size → Mh G' b off ∨ Mf G' b off → Mh G b off ∨ Mf G b off
  on : Gon ps G G'

section
variable {E : Ent} {X : Nat → Nat → Prop} {dm ps : List Nat} {T : Nat → Prop} {G G' : Gh} {h h' : Array Obj} {M : Nat → Nat → Prop}

theorem cel_same {b off : Nat} (e : h'[b]? = h[b]?) : cel h' b off = cel h b off := by unfold cel; rw [e]

theorem Upd.ft [N0] (u : Upd X ps T G h G' h') {tmps : List AV} {A : Array Value} (f : FT G h (Mut X G) tmps A) (hn : ∀ (t : Nat) (v : AV), tmps[t]? = some v → v.noL ps = true) : FT G' h' (Mut X G') tmps A :=
  ⟨f.tl, fun t v hv => ar_on u.on u.st v _ (hn t v hv) (f.tm t v hv)⟩
theorem Upd.ev [N0] (u : Upd E.X ps T G h G' h') (f : EV E G h) (ow : OW G h E.X dm) : EV E G' h' := by
  refine ⟨u.nb f.nb, f.es, f.em, Nat.le_trans f.sz u.sz, f.xl, fun b hb hn => ?_, fun b off v hn hv => ?_, fun b off hb hm => f.mu b off hb (u.sh b off (Nat.lt_of_lt_of_le hb f.sz) hm), fun i b hb => u.on.hb i b (f.hb i b hb), fun i v hv => ?_⟩
  · have hnt : ¬ T b := fun ht => by
      obtain ⟨_, off, hm⟩ := u.cw b ht
      exact hn off (f.mu b off hb hm)
    rw [u.sm b (Nat.lt_of_lt_of_le hb f.sz) hnt]
    exact f.bl b hb hn
  · have hb : b < E.h0.size := cel_lt hv
    have hv' := f.ce b off v hn hv
    by_cases ht : T b
    · have hno : ¬ Mut E.X G b off := by
        rintro (h1 | h1 | h1)
        · exact hn (f.mu b off hb (.inl h1))
        · exact hn (f.mu b off hb (.inr h1))
        · exact (u.cw b ht).1 (ow.xo b off h1)
      exact (u.st b off v hv' hno).1
    · rw [cel_same (u.sm b (Nat.lt_of_lt_of_le hb f.sz) ht)]
      exact hv'
  · obtain ⟨v1, a1, a2, a3⟩ := f.hv i v hv
    obtain ⟨v2, b1, b2, b3⟩ := u.on.hv i v1 a1
    refine ⟨v2, b1, Nat.le_trans a2 b2, fun e r hr => ?_⟩
    have h12 : v2 = v1 := Nat.le_antisymm (e ▸ a2) b2
    exact a3 (h12.symm.trans e) r (b3 h12 r hr)
theorem Upd.fl [N0] (u : Upd X ps T G h G' h') {locs : List (Option (List AV))} (f : FL G h (Mut X G) locs) (he : G'.lb = G.lb) (hT : ∀ (p b : Nat), G.lb[p]? = some (some b) → ¬ T b) (lt : ∀ (p b : Nat), G.lb[p]? = some (some b) → b < h.size) : FL G' h' (Mut X G') locs := by
  refine ⟨by rw [he]; exact f.ll, fun p cs hp => ?_⟩
  obtain ⟨b, Vs, T', e1, e2, e3, e4, e5⟩ := f.lc p cs hp
  exact ⟨b, Vs, T', by rw [he]; exact e1, by rw [u.sm b (lt p b e1) (hT p b e1)]; exact e2, ars_on u.on u.st cs Vs e4 e3, e4, e5⟩
theorem tokR_same {r : Tok} (hr : tokR h r) (e : ∀ b, r.b = some b → h'[b]? = h[b]?) : tokR h' r := by
  unfold tokR at hr ⊢
  split
  · rename_i hb; simpa [hb] using hr
  · rename_i b hb
    simp only [hb] at hr
    obtain ⟨h1, h2, h3, h6, Vs, T, h4, h5⟩ := hr
    exact ⟨h1, h2, h3, h6, Vs, T, by rw [e b hb]; exact h4, h5⟩
theorem Upd.fk [N0] (u : Upd X ps T G h G' h') {toks : List (Option Nat)} (f : FK G h toks) (he : G'.tb = G.tb) (hT : ∀ (t b : Nat) (r : Tok), G.tb[t]? = some (some r) → r.b = some b → ¬ T b) (lt : ∀ (t b : Nat) (r : Tok), G.tb[t]? = some (some r) → r.b = some b → b < h.size) : FK G' h' toks := by
  refine ⟨by rw [he]; exact f.kl, fun t n ht => by rw [he]; exact f.kt t n ht, fun t r hr => ?_⟩
  rw [he] at hr
  exact tokR_same (f.kr t r hr) fun b hb => u.sm b (lt t b r hr hb) (hT t b r hr hb)

theorem ow_lt (ow : OW G h X dm) {b : Nat} (hb : G.ow b ≠ .no) : b < h.size := by
  rcases Nat.lt_or_ge b h.size with h1 | h1
  · exact h1
  · exact absurd (ow.fr b h1) hb
theorem OW.hb_lt (ow : OW G h X dm) {i b : Nat} (e : G.hb[i]? = some b) : b < h.size := ow_lt ow (by rw [ow.oh i b e]; simp)
theorem OW.lb_lt (ow : OW G h X dm) {i b : Nat} (e : G.lb[i]? = some (some b)) : b < h.size := ow_lt ow (by rw [ow.ol i b e]; simp)
theorem OW.tb_lt (ow : OW G h X dm) {i b : Nat} {r : Tok} (e : G.tb[i]? = some (some r)) (k : r.b = some b) : b < h.size := ow_lt ow (by rw [ow.ot i b r e k]; simp)
theorem OW.ha_lt (ow : OW G h X dm) {i b : Nat} {r : Tok} (e : G.ha[i]? = some (some r)) (k : r.b = some b) : b < h.size := ow_lt ow (by rw [ow.oa i b r e k]; simp)
theorem Mut_lt (ow : OW G h X dm) (hx : ∀ b off, X b off → b < h.size) {b off : Nat} (e : Mut X G b off) : b < h.size := by
  rcases e with (⟨i, e⟩ | ⟨i, r, e1, e2, _⟩) | (⟨p, e⟩ | ⟨t, r, e1, e2, _⟩) | e
  · exact ow.hb_lt e
  · exact ow.ha_lt e1 e2
  · exact ow.lb_lt e
  · exact ow.tb_lt e1 e2
  · exact hx _ _ e

mutual
theorem still_ok : ∀ (v : AV), v.still = true → v.okA = true
  | .d x, e => rfl
  | .own t xs, e => by simp [AV.still] at e
  | .clip xs, e => rfl
  | .kn K xs, e => rfl
  | .hc i w xs, e => by simp [AV.still] at e
  | .hown xs, e => by simp [AV.still] at e
  | .lref p o, e => by simp [AV.still] at e
  | .href p o, e => rfl
  | .eptr cs, e => by simp [AV.still] at e
  | .kp K d cs, e => by simp [AV.still] at e
  | .fn f x y, e => by simp only [AV.still, AV.okA, Bool.and_eq_true] at e ⊢; exact ⟨stills_ok x e.1, stills_ok y e.2⟩
  | .yld i, e => rfl
  | .tup vs, e => by simp only [AV.still, AV.okA] at e ⊢; exact stills_ok vs e
  | .arr vs, e => by simp only [AV.still, AV.okA] at e ⊢; exact stills_ok vs e
  | .iface t x, e => rfl
  | .raw U, e => rfl
  | .undef, e => by simp [AV.still] at e
theorem stills_ok : ∀ (vs : List AV), stillL vs = true → okL vs = true
  | [], e => rfl
  | v :: vs, e => by simp only [stillL, okL, Bool.and_eq_true] at e ⊢; exact ⟨still_ok v e.1, stills_ok vs e.2⟩
end
theorem varR_on [N0] (u : Upd X ps T G h G' h') {i : Nat} {cs : List AV} {Vs : List Value} (ha : G'.ha[i]? = G.ha[i]?) (hT : ∀ (b : Nat) (r : Tok), G.ha[i]? = some (some r) → r.b = some b → h'[b]? = h[b]?) (e : varR G h (Mut X G) i cs Vs) : varR G' h' (Mut X G') i cs Vs := by
  rcases e with ⟨xs, r, e1, e2, e3, e4, e5, e6, e7⟩ | ⟨e1, e2, e3, e4⟩
  · exact .inl ⟨xs, r, e1, e2, by rw [ha]; exact e3, e4, rep_stay u.st _ _ e5, tokR_same e6 fun b hb => hT b r e3 hb, own1_stay u.st e7⟩
  · exact .inr ⟨by rw [ha]; exact e1, ars_on u.on u.st cs Vs (stills_ok cs e3) e2, e3, e4⟩
theorem clr_ok {vs : List AV} (ho : vs.all AV.stillK = true) : ∀ v ∈ vs, v.noL ps = true := by
  intro v hv
  have := List.all_eq_true.1 ho v hv
  cases v <;> simp_all [AV.stillK, AV.still, AV.noL]
theorem ars_noL [N0] (u : Upd X ps T G h G' h') : ∀ (vs : List AV) (Vs : List Value), (∀ v ∈ vs, v.noL ps = true) → ars G h (Mut X G) vs Vs → ars G' h' (Mut X G') vs Vs
  | [], Vs, _, e => by simpa [ars] using e
  | v :: vs, Vs, hn, e => by
    simp only [ars] at e ⊢
    obtain ⟨V, Vs', e1, e2, e3⟩ := e
    exact ⟨V, Vs', e1, ar_on u.on u.st v V (hn v (by simp)) e2, ars_noL u vs Vs' (fun x hx => hn x (by simp [hx])) e3⟩
theorem objR_on [N0] (u : Upd X ps T G h G' h') {i : Nat} {o : HO} (hb : ∀ b, G.hb[i]? = some b → G'.hb[i]? = some b ∧ h'[b]? = h[b]?) (hv : G'.hv[i]? = G.hv[i]?) (ha : G'.ha[i]? = G.ha[i]?)
    (hT : ∀ (b : Nat) (r : Tok), G.ha[i]? = some (some r) → r.b = some b → h'[b]? = h[b]?) (e : objR G h (Mut X G) i o) : objR G' h' (Mut X G') i o := by
  cases o with
  | var ver cs =>
    simp only [objR] at e ⊢
    obtain ⟨b, e1, e2, Vs, T', e3, e4⟩ := e
    exact ⟨b, (hb b e1).1, by rw [hv]; exact e2, Vs, T', by rw [(hb b e1).2]; exact e3, varR_on u ha hT e4⟩
  | loop st pend L =>
    simp only [objR] at e ⊢
    obtain ⟨b, e1, e2, e3, e6, Ts, D, fn', e4, e5⟩ := e
    exact ⟨b, (hb b e1).1, by rw [ha]; exact e2, e3, e6, Ts, D, fn', by rw [(hb b e1).2]; exact e4, ars_noL u _ _ (clr_ok e3) e5⟩
  | dead =>
    simp only [objR] at e ⊢
    obtain ⟨b, e1, e2, L, e3⟩ := e
    exact ⟨b, (hb b e1).1, by rw [ha]; exact e2, L, by rw [(hb b e1).2]; exact e3⟩
theorem Upd.hr [N0] (u : Upd X ps T G h G' h') {heap : List HO} (ow : OW G h X dm) (f : HR G h (Mut X G) heap) (he : G'.hb = G.hb) (hve : G'.hv = G.hv) (hae : G'.ha = G.ha) (hT : ∀ b, T b → (∀ i, G.ow b ≠ .h i) ∧ ∀ i, G.ow b ≠ .a i) : HR G' h' (Mut X G') heap := by
  refine ⟨by rw [he]; exact f.lb, by rw [hve]; exact f.lv, by rw [hae]; exact f.la, fun i o ho => ?_⟩
  refine objR_on u (fun b hb => ⟨by rw [he]; exact hb, u.sm b (ow.hb_lt hb) fun ht => (hT b ht).1 i (ow.oh i b hb)⟩) (by rw [hve]) (by rw [hae]) (fun b r hr hb => u.sm b (ow.ha_lt hr hb) fun ht => (hT b ht).2 i (ow.oa i b r hr hb)) (f.ob i o ho)
end
end Go.Proofs.Ytmmhpmfgcenngaa
/-! Steps of a frame's state: slots, new variables, stores. -/
set_option linter.unusedVariables false
set_option linter.unusedSimpArgs false
namespace Go.Proofs.Ytmmhpmfgcenngaa
section
variable {E : Ent} {X : Nat → Nat → Prop} {dm ps : List Nat} {G : Gh} {h : Array Obj} {M : Nat → Nat → Prop} {σ : St} {a : Act}

theorem FT.put (f : FT G h M σ.tmps a.tmps) (dst : Option Nat) {v : AV} {V : Value} (e : ar G h M v V) : FT G h M (putA σ.tmps dst v) (a.put dst V).tmps := by
  cases dst with
  | none => exact f
  | some d =>
    refine ⟨by simp [putA, Act.put, f.tl], fun t u ht => ?_⟩
    simp only [putA, Act.put] at ht ⊢
    rw [List.getElem?_set] at ht
    by_cases hd : d = t
    · subst hd
      rw [if_pos rfl] at ht
      split at ht
      · rename_i hlt
        cases ht
        have hlt' : d < a.tmps.size := f.tl ▸ hlt
        have : (a.tmps.setIfInBounds d V).getD d undef = V := by simp [Array.getD, hlt']
        rw [this]; exact e
      · cases ht
    · rw [if_neg hd] at ht
      have : (a.tmps.setIfInBounds d V).getD t undef = a.tmps.getD t undef := by simp only [Array.getD_eq_getD_getElem?, Array.getElem?_setIfInBounds, if_neg hd]
      rw [this]; exact f.tm t u ht
theorem FT.opv (f : FT G h M σ.tmps a.tmps) (x : Operand) : ar G h M (opv σ.tmps x) (a.eval x) := by
  cases x with
  | tmp t =>
    simp only [Go.Proofs.Ytmmhpmfgcenngaa.opv, Act.eval]
    cases ht : σ.tmps[t]? with
    | none => simp [List.getD, ht, ar]
    | some v => simpa [List.getD, ht] using f.tm t v ht
  | const V => exact ofV_ar V
  | func g => simp only [Go.Proofs.Ytmmhpmfgcenngaa.opv, Act.eval, ar]; exact ⟨[], [], rfl, rfl, rfl, rfl, rfl⟩
  | global g => simp [Go.Proofs.Ytmmhpmfgcenngaa.opv, ar]

theorem Upd_push [N0] (o : Obj) (hno : nf o) : Upd X ps (fun _ => False) G h G (h.push o) where
  nb := NB_push hno
  sz := by simp
  sm := fun b hb _ => by rw [Array.getElem?_push_lt hb, ← Array.getElem?_eq_getElem hb]
  cw := fun _ h => h.elim
  st := Stay_push h _ o
  sh := fun _ _ _ h => h
  on := .refl _ _
theorem OW.push [N0] (ow : OW G h X dm) (o : Obj) : OW G (h.push o) X dm :=
  ⟨ow.oh, ow.oa, ow.ol, ow.ot, fun b hb => ow.fr b (by simp at hb; omega), ow.xo, fun r hr => ⟨(ow.dm r hr).1, by
    have hlt : r < h.size := by
      rcases Nat.lt_or_ge r h.size with h1 | h1
      · exact h1
      · have := (ow.dm r hr).2; simp [Array.getElem?_eq_none h1] at this
    rw [Array.getElem?_push_lt hlt, ← Array.getElem?_eq_getElem hlt]; exact (ow.dm r hr).2⟩⟩
theorem EV.xlt [N0] (f : EV E G h) (b off : Nat) (e : E.X b off) : b < h.size := Nat.lt_of_lt_of_le (f.xl b off e) f.sz
/-- A new block that is nobody's. -/
theorem FR.push [N0] (f : FR E dm G σ a h) (o : Obj) (hno : nf o) : FR E dm G σ a (h.push o) := by
  have u := Upd_push (X := E.X) (ps := []) (G := G) (h := h) o hno
  exact ⟨u.ft f.ft (fun t v _ => by cases v <;> simp [AV.noL]), u.fl f.fl rfl (fun _ _ _ h => h) (fun p b e => f.ow.lb_lt e), u.fk f.fk rfl (fun _ _ _ _ _ h => h) (fun t b r e k => f.ow.tb_lt e k),
    u.hr f.ow f.hr rfl rfl rfl (fun _ h => h.elim), f.ow.push o, u.ev f.ev f.ow, f.df⟩
theorem FR.heap [N0] (f : FR E dm G σ a h) {h' : Array Obj} (e : h' = h ∨ ∃ o, nf o ∧ h' = h.push o) : FR E dm G σ a h' := by
  rcases e with rfl | ⟨o, hno, rfl⟩
  · exact f
  · exact f.push o hno
theorem FR.put [N0] (f : FR E dm G σ a h) (dst : Option Nat) {v : AV} {V : Value} (e : ar G h (Mut E.X G) v V) : FR E dm G { σ with tmps := putA σ.tmps dst v } (a.put dst V) h :=
  ⟨f.ft.put dst e, f.fl, f.fk, f.hr, f.ow, f.ev, by cases dst <;> simpa [Act.put] using f.df⟩
theorem notMut_new [N0] (f : FR E dm G σ a h) (off : Nat) : ¬ Mut E.X G h.size off := fun e => Nat.lt_irrefl _ (Mut_lt f.ow f.ev.xlt e)

/-- Less is known of the slots. -/
theorem FR.inv [N0] (f : FR E dm G σ a h) (ps : List Nat) : FR E dm G { σ with tmps := σ.tmps.map (AV.inv ps) } a h ∧ ∀ (t : Nat) (v : AV), (σ.tmps.map (AV.inv ps))[t]? = some v → v.noL ps = true := by
  refine ⟨⟨⟨by simpa using f.ft.tl, fun t v hv => ?_⟩, f.fl, f.fk, f.hr, f.ow, f.ev, f.df⟩, fun t v hv => ?_⟩
  · simp only [List.getElem?_map, Option.map_eq_some_iff] at hv
    obtain ⟨u, hu, rfl⟩ := hv
    have := f.ft.tm t u hu
    cases u <;> simp only [AV.inv] <;> try exact this
    split
    · simp [ar]
    · exact this
  · simp only [List.getElem?_map, Option.map_eq_some_iff] at hv
    obtain ⟨u, hu, rfl⟩ := hv
    cases u <;> simp only [AV.inv] <;> try rfl
    split
    · rfl
    · rename_i hp; simpa [AV.noL] using hp

/-- A new local variable. -/
theorem FR.alL [N0] (f : FR E dm G σ a h) (p : Nat) (hp : p < σ.mem.locs.length) (hn : ∀ (t : Nat) (v : AV), σ.tmps[t]? = some v → v.noL [p] = true) {cs : List AV} {Vs : List Value} (T : Nat)
    (hc : ars G h (Mut E.X G) cs Vs) (ho : okL cs = true) (h1 : ∀ U ∈ Vs, U.oneCell' = true) :
    ∃ G', FR E dm G' { σ with mem := { σ.mem with locs := σ.mem.locs.set p (some cs) } } a (h.push (.cells Vs.toArray T)) ∧ G'.lb[p]? = some (some h.size) ∧ ∀ (t : Nat) (v : AV) (V : Value), v.noL [p] = true → ar G h (Mut E.X G) v V → ar G' (h.push (.cells Vs.toArray T)) (Mut E.X G') v V := by
  let G' : Gh := { G with lb := G.lb.set p (some h.size), ow := fun b => if b = h.size then .l p else G.ow b }
  have hpl : p < G.lb.length := by rw [f.fl.ll]; exact hp
  have hlb : ∀ (q b : Nat), G'.lb[q]? = some (some b) → (q = p ∧ b = h.size) ∨ (q ≠ p ∧ G.lb[q]? = some (some b)) := by
    intro q b hq
    simp only [G', List.getElem?_set] at hq
    by_cases e : p = q
    · subst e; rw [if_pos rfl, if_pos hpl] at hq; cases hq; exact .inl ⟨rfl, rfl⟩
    · rw [if_neg e] at hq; exact .inr ⟨fun h => e h.symm, hq⟩
  have hmf : ∀ b off, b < h.size → Mf G' b off → Mf G b off := by
    rintro b off hb (⟨q, hq⟩ | e)
    · rcases hlb q b hq with ⟨_, e⟩ | ⟨_, e⟩
      · omega
      · exact .inl ⟨q, e⟩
    · exact .inr e
  have u : Upd E.X [p] (fun _ => False) G h G' (h.push (.cells Vs.toArray T)) := by
    refine ⟨NB_push (nf_cells _ _), by simp, fun b hb _ => by rw [Array.getElem?_push_lt hb, ← Array.getElem?_eq_getElem hb], fun _ h => h.elim, fun b off v e n => ?_, fun b off hb e => e.imp id (hmf b off hb), ⟨fun _ _ h => h, fun q b hq e => ?_, Nat.le_refl _, fun t r _ hr => ⟨r, hr, Nat.le_refl _, fun _ => rfl⟩, fun i v hv => ⟨v, hv, Nat.le_refl _, fun _ _ h => h⟩⟩⟩
    · have hb := cel_lt e
      refine ⟨by rw [cel_push h _ b off hb]; exact e, ?_⟩
      rintro (k | k | k)
      · exact n (.inl k)
      · exact n (.inr (.inl (hmf b off hb k)))
      · exact n (.inr (.inr k))
    · have hqp : p ≠ q := fun h => by subst h; simp at hq
      simp only [G', List.getElem?_set, if_neg hqp]; exact e
  have ow' : OW G' (h.push (.cells Vs.toArray T)) E.X dm := by
    have hne : ∀ b, b < h.size → G'.ow b = G.ow b := fun b hb => if_neg (Nat.ne_of_lt hb)
    have owp := f.ow.push (.cells Vs.toArray T)
    refine ⟨fun i b hb => ?_, fun i b r hr hb => ?_, fun q b hq => ?_, fun t b r hr hb => ?_, fun b hb => ?_, fun b off hx => ?_, fun r hr => ?_⟩
    · rw [hne b (f.ow.hb_lt hb)]; exact f.ow.oh i b hb
    · rw [hne b (f.ow.ha_lt hr hb)]; exact f.ow.oa i b r hr hb
    · rcases hlb q b hq with ⟨e1, e2⟩ | ⟨_, e2⟩
      · subst e1; subst e2; exact if_pos rfl
      · rw [hne b (f.ow.lb_lt e2)]; exact f.ow.ol q b e2
    · rw [hne b (f.ow.tb_lt hr hb)]; exact f.ow.ot t b r hr hb
    · have hb' : h.size + 1 ≤ b := by simpa using hb
      show (if b = h.size then Ow.l p else G.ow b) = _
      rw [if_neg (by omega)]; exact f.ow.fr b (by omega)
    · rw [hne b (f.ev.xlt b off hx)]; exact f.ow.xo b off hx
    · have hd := owp.dm r hr
      have : r < h.size := by
        rcases Nat.lt_or_ge r h.size with h1 | h1
        · exact h1
        · have := (f.ow.dm r hr).2; simp [Array.getElem?_eq_none h1] at this
      exact ⟨by rw [hne r this]; exact hd.1, hd.2⟩
  refine ⟨G', ⟨u.ft f.ft hn, ⟨by simp [G', f.fl.ll], fun q ds hq => ?_⟩, u.fk f.fk rfl (fun _ _ _ _ _ h => h) (fun t b r e k => f.ow.tb_lt e k), u.hr f.ow f.hr rfl rfl rfl (fun _ h => h.elim), ow', u.ev f.ev f.ow, f.df⟩,
    by simp [G', List.getElem?_set, hpl], fun _ v V hv e => ar_on u.on u.st v V hv e⟩
  by_cases e : p = q
  · subst e
    rw [List.getElem?_set, if_pos rfl, if_pos hp] at hq
    cases hq
    exact ⟨h.size, Vs, T, by simp [G', List.getElem?_set, hpl], by simp, ars_on u.on u.st _ _ ho hc, ho, h1⟩
  · rw [List.getElem?_set, if_neg e] at hq
    obtain ⟨b, Us, T', e1, e2, e3, e4, e5⟩ := f.fl.lc q ds hq
    exact ⟨b, Us, T', by simp only [G', List.getElem?_set, if_neg e]; exact e1, by rw [u.sm b (f.ow.lb_lt e1) (fun h => h)]; exact e2, ars_on u.on u.st _ _ e4 e3, e4, e5⟩

/-- A new shared variable. -/
theorem FR.alH [N0] (f : FR E dm G σ a h) {cs : List AV} {Vs : List Value} (T : Nat) (hc : ars G h (Mut E.X G) cs Vs) (ho : stillL cs = true) (h1 : ∀ U ∈ Vs, U.oneCell' = true) :
    ∃ G', FR E dm G' { σ with mem := { σ.mem with heap := σ.mem.heap ++ [.var 0 cs] } } a (h.push (.cells Vs.toArray T)) ∧ G'.hb[σ.mem.heap.length]? = some h.size ∧ G'.lb = G.lb ∧ G'.tb = G.tb := by
  let G' : Gh := { G with hb := G.hb ++ [h.size], hv := G.hv ++ [0], ha := G.ha ++ [none], ow := fun b => if b = h.size then .h G.hb.length else G.ow b }
  have hhb : ∀ (i b : Nat), G'.hb[i]? = some b → (i = G.hb.length ∧ b = h.size) ∨ G.hb[i]? = some b := by
    intro i b hi
    simp only [G', List.getElem?_append] at hi
    split at hi
    · exact .inr hi
    · rename_i hlt
      have : i - G.hb.length = 0 := by
        rcases Nat.eq_zero_or_pos (i - G.hb.length) with e | e
        · exact e
        · rw [List.getElem?_eq_none (by simp; omega)] at hi; cases hi
      rw [this] at hi
      cases hi
      exact .inl ⟨by omega, rfl⟩
  have hha : ∀ (i : Nat) (r : Tok), G'.ha[i]? = some (some r) → G.ha[i]? = some (some r) := by
    intro i r hi
    simp only [G', List.getElem?_append] at hi
    split at hi
    · exact hi
    · have : i - G.ha.length = 0 ∨ 0 < i - G.ha.length := Nat.eq_zero_or_pos _
      rcases this with e | e
      · rw [e] at hi; cases hi
      · rw [List.getElem?_eq_none (by simp; omega)] at hi; cases hi
  have hmh : ∀ b off, b < h.size → Mh G' b off → Mh G b off := by
    rintro b off hb (⟨i, hi⟩ | ⟨i, r, hr, e1, e2⟩)
    · rcases hhb i b hi with ⟨_, e⟩ | e
      · omega
      · exact .inl ⟨i, e⟩
    · exact .inr ⟨i, r, hha i r hr, e1, e2⟩
  have u : Upd E.X [] (fun _ => False) G h G' (h.push (.cells Vs.toArray T)) := by
    refine ⟨NB_push (nf_cells _ _), by simp, fun b hb _ => by rw [Array.getElem?_push_lt hb, ← Array.getElem?_eq_getElem hb], fun _ h => h.elim, fun b off v e n => ?_, fun b off hb e => e.imp (hmh b off hb) id, ⟨fun i b hi => ?_, fun _ _ _ h => h, Nat.le_refl _, fun t r _ hr => ⟨r, hr, Nat.le_refl _, fun _ => rfl⟩, fun i v hv => ?_⟩⟩
    · have hb := cel_lt e
      refine ⟨by rw [cel_push h _ b off hb]; exact e, ?_⟩
      rintro (k | k | k)
      · exact n (.inl (hmh b off hb k))
      · exact n (.inr (.inl k))
      · exact n (.inr (.inr k))
    · have hlt : i < G.hb.length := by
        rcases Nat.lt_or_ge i G.hb.length with e | e
        · exact e
        · simp [List.getElem?_eq_none e] at hi
      simp only [G', List.getElem?_append_left hlt]; exact hi
    · have hlt : i < G.hv.length := by
        rcases Nat.lt_or_ge i G.hv.length with e | e
        · exact e
        · simp [List.getElem?_eq_none e] at hv
      exact ⟨v, by simp only [G', List.getElem?_append_left hlt]; exact hv, Nat.le_refl _, fun _ r hr => hha i r hr⟩
  have ow' : OW G' (h.push (.cells Vs.toArray T)) E.X dm := by
    have hne : ∀ b, b < h.size → G'.ow b = G.ow b := fun b hb => if_neg (Nat.ne_of_lt hb)
    have owp := f.ow.push (.cells Vs.toArray T)
    refine ⟨fun i b hb => ?_, fun i b r hr hb => ?_, fun q b hq => ?_, fun t b r hr hb => ?_, fun b hb => ?_, fun b off hx => ?_, fun r hr => ?_⟩
    · rcases hhb i b hb with ⟨e1, e2⟩ | e
      · subst e1; subst e2; exact if_pos rfl
      · rw [hne b (f.ow.hb_lt e)]; exact f.ow.oh i b e
    · have hr' := hha i r hr
      rw [hne b (f.ow.ha_lt hr' hb)]; exact f.ow.oa i b r hr' hb
    · rw [hne b (f.ow.lb_lt hq)]; exact f.ow.ol q b hq
    · rw [hne b (f.ow.tb_lt hr hb)]; exact f.ow.ot t b r hr hb
    · have hb' : h.size + 1 ≤ b := by simpa using hb
      show (if b = h.size then Ow.h G.hb.length else G.ow b) = _
      rw [if_neg (by omega)]; exact f.ow.fr b (by omega)
    · rw [hne b (f.ev.xlt b off hx)]; exact f.ow.xo b off hx
    · have hd := owp.dm r hr
      have : r < h.size := by
        rcases Nat.lt_or_ge r h.size with h1 | h1
        · exact h1
        · have := (f.ow.dm r hr).2; simp [Array.getElem?_eq_none h1] at this
      exact ⟨by rw [hne r this]; exact hd.1, hd.2⟩
  refine ⟨G', ⟨u.ft f.ft (fun t v _ => by cases v <;> simp [AV.noL]), u.fl f.fl rfl (fun _ _ _ h => h) (fun p b e => f.ow.lb_lt e), u.fk f.fk rfl (fun _ _ _ _ _ h => h) (fun t b r e k => f.ow.tb_lt e k), ?_, ow', u.ev f.ev f.ow, f.df⟩, by simp [G', f.hr.lb], rfl, rfl⟩
  refine ⟨by simp [G', f.hr.lb], by simp [G', f.hr.lv], by simp [G', f.hr.la], fun i o ho => ?_⟩
  rw [List.getElem?_append] at ho
  split at ho
  · rename_i hlt
    refine objR_on u (fun b hb => ⟨u.on.hb i b hb, u.sm b (f.ow.hb_lt hb) (fun h => h)⟩) ?_ ?_ (fun b r hr hb => u.sm b (f.ow.ha_lt hr hb) (fun h => h)) (f.hr.ob i o ho)
    · simp only [G', List.getElem?_append_left (show i < G.hv.length by rw [f.hr.lv]; exact hlt)]
    · simp only [G', List.getElem?_append_left (show i < G.ha.length by rw [f.hr.la]; exact hlt)]
  · rename_i hge
    have : i - σ.mem.heap.length = 0 := by
      rcases Nat.eq_zero_or_pos (i - σ.mem.heap.length) with e | e
      · exact e
      · rw [List.getElem?_eq_none (by simp; omega)] at ho; cases ho
    rw [this] at ho
    cases ho
    have hi : i = σ.mem.heap.length := by omega
    subst hi
    simp only [objR]
    refine ⟨h.size, by simp [G', f.hr.lb], by simp [G', f.hr.lv], Vs, T, by simp, .inr ⟨by simp [G', f.hr.la], ars_on u.on u.st _ _ (stills_ok _ ho) hc, ho, h1⟩⟩
end
end Go.Proofs.Ytmmhpmfgcenngaa
/-! Steps of a frame's state: stores. -/
set_option linter.unusedVariables false
set_option linter.unusedSimpArgs false
namespace Go.Proofs.Ytmmhpmfgcenngaa
section
variable {P : Program} {E : Ent} {X : Nat → Nat → Prop} {dm ps : List Nat} {G : Gh} {h h' : Array Obj} {M : Nat → Nat → Prop} {σ : St} {a : Act}

theorem kept_ar {v : AV} {V : Value} (e : ar G h M v V) : ar G h M v.kept V := by
  cases v with
  | hc i w xs => simp only [ar, AV.kept] at e ⊢; exact e.1
  | clip xs =>
    cases xs with
    | nil => exact e
    | cons x xs => simp only [ar, AV.kept] at e ⊢; exact e.1
  | hown xs => simp [ar] at e
  | _ => exact e
theorem kepts_ar : ∀ (cs : List AV) (Vs : List Value), ars G h M cs Vs → ars G h M (cs.map AV.kept) Vs
  | [], Vs, e => by simpa [ars] using e
  | c :: cs, Vs, e => by
    simp only [ars, List.map_cons] at e ⊢
    obtain ⟨V, Vs', rfl, e2, e4⟩ := e
    exact ⟨V, Vs', rfl, kept_ar e2, kepts_ar cs Vs' e4⟩
theorem kept_ok (v : AV) (e : v.okA = true) : v.kept.okA = true := by
  cases v with
  | clip xs => cases xs <;> rfl
  | _ => first | exact e | rfl
theorem kepts_ok : ∀ (cs : List AV), okL cs = true → okL (cs.map AV.kept) = true
  | [], _ => rfl
  | c :: cs, e => by simp only [okL, List.map_cons, Bool.and_eq_true] at e ⊢; exact ⟨kept_ok c e.1, kepts_ok cs e.2⟩
mutual
theorem erase_ar : ∀ (v : AV) (V : Value), ar G h M v V → ar G h M v.erase V
  | .d x, V, e => e
  | .own t xs, V, e => by simp only [ar, AV.erase] at e ⊢; exact e.1
  | .clip xs, V, e => by simp only [ar, AV.erase] at e ⊢; exact e.1
  | .kn K xs, V, e => by simp only [ar, AV.erase] at e ⊢; exact e.1
  | .hc i w xs, V, e => by simp only [ar, AV.erase] at e ⊢; exact e.1
  | .hown xs, V, e => by simp [ar] at e
  | .lref p o, V, e => e
  | .href p o, V, e => e
  | .eptr cs, V, e => e
  | .kp K d cs, V, e => by simp only [ar, AV.erase] at e ⊢; exact e.1
  | .fn f x y, V, e => by
    simp only [ar, AV.erase] at e ⊢
    obtain ⟨Fs, Cs, e1, e2, e3, e4, e5⟩ := e
    exact ⟨Fs, Cs, e1, erases_ok x e2, erases_ok y e3, erases_ar x Fs e4, erases_ar y Cs e5⟩
  | .yld i, V, e => e
  | .tup vs, V, e => by
    simp only [ar, AV.erase] at e ⊢
    obtain ⟨Vs, e1, e2, e3⟩ := e
    exact ⟨Vs, e1, erases_ok vs e2, erases_ar vs Vs e3⟩
  | .arr vs, V, e => by
    simp only [ar, AV.erase] at e ⊢
    obtain ⟨Vs, e1, e2, e3, e4⟩ := e
    subst e1
    exact aggOf_ar (erases_ar vs Vs e3) e4 (erases_ok vs e2)
  | .iface t x, V, e => e
  | .raw U, V, e => e
  | .undef, V, e => e
theorem erases_ar : ∀ (vs : List AV) (Vs : List Value), ars G h M vs Vs → ars G h M (eraseL vs) Vs
  | [], Vs, e => e
  | v :: vs, Vs, e => by
    simp only [ars, eraseL] at e ⊢
    obtain ⟨V, Vs', e1, e2, e3⟩ := e
    exact ⟨V, Vs', e1, erase_ar v V e2, erases_ar vs Vs' e3⟩
theorem erase_ok : ∀ (v : AV), v.okA = true → v.erase.okA = true
  | .d x, e => e
  | .own t xs, e => rfl
  | .clip xs, e => rfl
  | .kn K xs, e => rfl
  | .hc i w xs, e => rfl
  | .hown xs, e => rfl
  | .lref p o, e => e
  | .href p o, e => e
  | .eptr cs, e => e
  | .kp K d cs, e => by simp [AV.okA] at e
  | .fn f x y, e => by simp only [AV.okA, AV.erase, Bool.and_eq_true] at e ⊢; exact ⟨erases_ok x e.1, erases_ok y e.2⟩
  | .yld i, e => e
  | .tup vs, e => by simp only [AV.okA, AV.erase] at e ⊢; exact erases_ok vs e
  | .arr vs, e => by simp only [AV.okA, AV.erase] at e ⊢; exact aggOf_okA (erases_ok vs e)
  | .iface t x, e => e
  | .raw U, e => e
  | .undef, e => e
theorem erases_ok : ∀ (vs : List AV), okL vs = true → okL (eraseL vs) = true
  | [], e => e
  | v :: vs, e => by simp only [okL, eraseL, Bool.and_eq_true] at e ⊢; exact ⟨erase_ok v e.1, erases_ok vs e.2⟩
end
theorem erases_ok0 (vs : List AV) (e : okL vs = true) : okL (eraseL vs) = true := erases_ok (G := ⟨fun _ => .no, [], [], [], [], []⟩) (h := #[]) (M := fun _ _ => False) vs e
mutual
theorem retE_ok {K : Value → Prop} {toks : List (Option Nat)} : ∀ (v : AV), v.okA = true → (v.retE K toks).okA = true
  | .d x, e => e
  | .own t xs, e => by simp only [AV.retE]; split <;> rfl
  | .clip [], e => rfl
  | .clip (x :: xs), e => rfl
  | .kn K' xs, e => rfl
  | .hc i w xs, e => rfl
  | .hown xs, e => rfl
  | .lref p o, e => e
  | .href p o, e => e
  | .eptr cs, e => e
  | .kp K' d cs, e => by simp [AV.okA] at e
  | .fn f x y, e => by simp only [AV.okA, AV.retE, Bool.and_eq_true] at e ⊢; exact ⟨erases_ok0 x e.1, erases_ok0 y e.2⟩
  | .yld i, e => e
  | .tup vs, e => by simp only [AV.okA, AV.retE] at e ⊢; exact retL_ok vs e
  | .arr vs, e => by simp only [AV.okA, AV.retE] at e ⊢; exact aggOf_okA (retL_ok vs e)
  | .iface t x, e => e
  | .raw U, e => e
  | .undef, e => e
theorem retL_ok {K : Value → Prop} {toks : List (Option Nat)} : ∀ (vs : List AV), okL vs = true → okL (retL K toks vs) = true
  | [], e => e
  | v :: vs, e => by simp only [okL, retL, Bool.and_eq_true] at e ⊢; exact ⟨retE_ok v e.1, retL_ok vs e.2⟩
end
mutual
/-- What is handed back stands for what it stood for. -/
theorem retE_ar {K : Value → Prop} {toks : List (Option Nat)} (h0 : ∀ (A : Option Addr) (c : Nat), K (.slice A 0 c)) (hT : ∀ (t : Nat) (xs : List Dv) (V : Value), toks[t]? = some (some xs.length) → ar G h M (.own t xs) V → K V) : ∀ (v : AV) (V : Value), ar G h M v V → ar G h M (v.retE K toks) V
  | .d x, V, e => e
  | .own t xs, V, e => by
    simp only [AV.retE]
    split
    · rename_i ht
      have := hT t xs V ht e
      simp only [ar] at e ⊢
      exact ⟨e.1, this⟩
    · simp only [ar] at e ⊢; exact e.1
  | .clip [], V, e => by
    simp only [ar, AV.retE] at e ⊢
    obtain ⟨e1, A, rfl⟩ := e
    exact ⟨e1, h0 A _⟩
  | .clip (x :: xs), V, e => by simp only [ar, AV.retE] at e ⊢; exact e.1
  | .kn K' xs, V, e => e
  | .hc i w xs, V, e => by simp only [ar, AV.retE] at e ⊢; exact e.1
  | .hown xs, V, e => by simp [ar] at e
  | .lref p o, V, e => e
  | .href p o, V, e => e
  | .eptr cs, V, e => e
  | .kp K' d cs, V, e => by simp only [ar, AV.retE] at e ⊢; exact e.1
  | .fn f x y, V, e => by
    simp only [ar, AV.retE] at e ⊢
    obtain ⟨Fs, Cs, e1, e2, e3, e4, e5⟩ := e
    exact ⟨Fs, Cs, e1, erases_ok0 x e2, erases_ok0 y e3, erases_ar x Fs e4, erases_ar y Cs e5⟩
  | .yld i, V, e => e
  | .tup vs, V, e => by
    simp only [ar, AV.retE] at e ⊢
    obtain ⟨Vs, e1, e2, e3⟩ := e
    exact ⟨Vs, e1, retL_ok vs e2, retL_ar h0 hT vs Vs e3⟩
  | .arr vs, V, e => by
    simp only [ar, AV.retE] at e ⊢
    obtain ⟨Vs, e1, e2, e3, e4⟩ := e
    subst e1
    exact aggOf_ar (retL_ar h0 hT vs Vs e3) e4 (retL_ok vs e2)
  | .iface t x, V, e => e
  | .raw U, V, e => e
  | .undef, V, e => e
theorem retL_ar {K : Value → Prop} {toks : List (Option Nat)} (h0 : ∀ (A : Option Addr) (c : Nat), K (.slice A 0 c)) (hT : ∀ (t : Nat) (xs : List Dv) (V : Value), toks[t]? = some (some xs.length) → ar G h M (.own t xs) V → K V) : ∀ (vs : List AV) (Vs : List Value), ars G h M vs Vs → ars G h M (retL K toks vs) Vs
  | [], Vs, e => e
  | v :: vs, Vs, e => by
    simp only [ars, retL] at e ⊢
    obtain ⟨V, Vs', e1, e2, e3⟩ := e
    exact ⟨V, Vs', e1, retE_ar h0 hT v V e2, retL_ar h0 hT vs Vs' e3⟩
end
theorem stillL_mem {l : List AV} (h : stillL l = true) : ∀ x ∈ l, x.still = true := by
  induction l with
  | nil => simp
  | cons y ys ih =>
    simp only [stillL, Bool.and_eq_true] at h
    intro x hx
    rcases List.mem_cons.1 hx with rfl | hx
    · exact h.1
    · exact ih h.2 x hx
theorem stillL_of {l : List AV} (h : ∀ x ∈ l, x.still = true) : stillL l = true := by
  induction l with
  | nil => rfl
  | cons y ys ih => simp only [stillL, Bool.and_eq_true]; exact ⟨h y (by simp), ih fun x hx => h x (by simp [hx])⟩
mutual
theorem erase_still : ∀ (v : AV), v.okA = true → v.erase.still = true
  | .d x, e => rfl
  | .own t xs, e => rfl
  | .clip xs, e => rfl
  | .kn K xs, e => rfl
  | .hc i w xs, e => rfl
  | .hown xs, e => rfl
  | .lref p o, e => by simp [AV.okA] at e
  | .href p o, e => rfl
  | .eptr cs, e => by simp [AV.okA] at e
  | .kp K d cs, e => by simp [AV.okA] at e
  | .fn f x y, e => by simp only [AV.okA, AV.erase, AV.still, Bool.and_eq_true] at e ⊢; exact ⟨erases_still x e.1, erases_still y e.2⟩
  | .yld i, e => rfl
  | .tup vs, e => by simp only [AV.okA, AV.erase, AV.still] at e ⊢; exact erases_still vs e
  | .arr vs, e => by simp only [AV.okA, AV.erase] at e ⊢; unfold aggOf; split; rfl; exact erases_still vs e
  | .iface t x, e => rfl
  | .raw U, e => rfl
  | .undef, e => by simp [AV.okA] at e
theorem erases_still : ∀ (vs : List AV), okL vs = true → stillL (eraseL vs) = true
  | [], e => rfl
  | v :: vs, e => by simp only [okL, eraseL, stillL, Bool.and_eq_true] at e ⊢; exact ⟨erase_still v e.1, erases_still vs e.2⟩
end
mutual
theorem retE_still {K : Value → Prop} {toks : List (Option Nat)} : ∀ (v : AV), v.okA = true → (v.retE K toks).still = true
  | .d x, e => rfl
  | .own t xs, e => by simp only [AV.retE]; split <;> rfl
  | .clip [], e => rfl
  | .clip (x :: xs), e => rfl
  | .kn K' xs, e => rfl
  | .hc i w xs, e => rfl
  | .hown xs, e => rfl
  | .lref p o, e => by simp [AV.okA] at e
  | .href p o, e => rfl
  | .eptr cs, e => by simp [AV.okA] at e
  | .kp K' d cs, e => by simp [AV.okA] at e
  | .fn f x y, e => by simp only [AV.okA, AV.retE, AV.still, Bool.and_eq_true] at e ⊢; exact ⟨erases_still x e.1, erases_still y e.2⟩
  | .yld i, e => rfl
  | .tup vs, e => by simp only [AV.okA, AV.retE, AV.still] at e ⊢; exact retL_still vs e
  | .arr vs, e => by simp only [AV.okA, AV.retE] at e ⊢; unfold aggOf; split; rfl; exact retL_still vs e
  | .iface t x, e => rfl
  | .raw U, e => rfl
  | .undef, e => by simp [AV.okA] at e
theorem retL_still {K : Value → Prop} {toks : List (Option Nat)} : ∀ (vs : List AV), okL vs = true → stillL (retL K toks vs) = true
  | [], e => rfl
  | v :: vs, e => by simp only [okL, retL, stillL, Bool.and_eq_true] at e ⊢; exact ⟨retE_still v e.1, retL_still vs e.2⟩
end
theorem newV_0 [N0] (A : Option Addr) (c : Nat) : newV (.slice A 0 c) := by
  rintro B n d h hn
  simp only [Value.slice.injEq] at h
  omega
theorem keepE_ar [N0] {v : AV} {V : Value} (e : ar G h M v V) : ar G h M v.keepE V := retE_ar newV_0 (fun t xs V ht => by simp at ht) v V e
theorem keepE_ok [N0] (v : AV) (e : v.okA = true) : v.keepE.okA = true := retE_ok v e
theorem keepE_still [N0] (v : AV) (e : v.okA = true) : v.keepE.still = true := retE_still v e
theorem keptH_still (v : AV) (e : v.okA = true) : v.keptH.still = true := by
  unfold AV.keptH
  split
  · rfl
  · exact erase_still _ e
theorem keptHs_still : ∀ (vs : List AV), okL vs = true → stillL (vs.map AV.keptH) = true
  | [], e => rfl
  | v :: vs, e => by simp only [okL, List.map_cons, stillL, Bool.and_eq_true] at e ⊢; exact ⟨keptH_still v e.1, keptHs_still vs e.2⟩
theorem keptH_ar {v : AV} {V : Value} (e : ar G h M v V) : ar G h M v.keptH V := by
  unfold AV.keptH
  split
  · exact e
  · exact erase_ar _ _ e
theorem keptHs_ar : ∀ (vs : List AV) (Vs : List Value), ars G h M vs Vs → ars G h M (vs.map AV.keptH) Vs
  | [], Vs, e => e
  | v :: vs, Vs, e => by
    simp only [ars, List.map_cons] at e ⊢
    obtain ⟨V, Vs', e1, e2, e3⟩ := e
    exact ⟨V, Vs', e1, keptH_ar e2, keptHs_ar vs Vs' e3⟩
mutual
/-- What is still is told of the shared addresses alone. -/
theorem ar_still {G' : Gh} {h' : Array Obj} {M' : Nat → Nat → Prop} (st : Stay h M h' M') (hb : ∀ i b : Nat, G.hb[i]? = some b → G'.hb[i]? = some b) : ∀ (v : AV) (V : Value), v.still = true → ar G h M v V → ar G' h' M' v V
  | .d x, V, _, e => rep_stay st x V e
  | .own t xs, V, hs, e => by simp [AV.still] at hs
  | .clip xs, V, _, e => by
    simp only [ar] at e ⊢
    exact ⟨rep_stay st _ _ e.1, e.2⟩
  | .kn K xs, V, _, e => by
    simp only [ar] at e ⊢
    exact ⟨rep_stay st _ _ e.1, e.2⟩
  | .hc i w xs, V, hs, e => by simp [AV.still] at hs
  | .hown xs, V, hs, e => by simp [AV.still] at hs
  | .lref p o, V, hs, e => by simp [AV.still] at hs
  | .href p o, V, _, e => by
    simp only [ar] at e ⊢
    obtain ⟨b, e1, e2⟩ := e
    exact ⟨b, hb _ _ e1, e2⟩
  | .eptr cs, V, hs, e => by simp [AV.still] at hs
  | .kp K d cs, V, hs, e => by simp [AV.still] at hs
  | .fn f x y, V, hs, e => by
    simp only [ar] at e ⊢
    simp only [AV.still, Bool.and_eq_true] at hs
    obtain ⟨Fs, Cs, e1, e2, e3, e4, e5⟩ := e
    exact ⟨Fs, Cs, e1, e2, e3, ars_still st hb x Fs hs.1 e4, ars_still st hb y Cs hs.2 e5⟩
  | .yld i, V, _, e => by
    simp only [ar] at e ⊢
    obtain ⟨b, e1, e2⟩ := e
    exact ⟨b, hb _ _ e1, e2⟩
  | .tup vs, V, hs, e => by
    simp only [ar] at e ⊢
    simp only [AV.still] at hs
    obtain ⟨Vs, e1, e2, e3⟩ := e
    exact ⟨Vs, e1, e2, ars_still st hb vs Vs hs e3⟩
  | .arr vs, V, hs, e => by
    simp only [ar] at e ⊢
    simp only [AV.still] at hs
    obtain ⟨Vs, e1, e2, e3, e4⟩ := e
    exact ⟨Vs, e1, e2, ars_still st hb vs Vs hs e3, e4⟩
  | .iface t x, V, _, e => by
    simp only [ar] at e ⊢
    obtain ⟨U, e1, e2⟩ := e
    exact ⟨U, e1, rep_stay st x U e2⟩
  | .raw U, V, _, e => e
  | .undef, V, _, e => by simp [ar]
theorem ars_still {G' : Gh} {h' : Array Obj} {M' : Nat → Nat → Prop} (st : Stay h M h' M') (hb : ∀ i b : Nat, G.hb[i]? = some b → G'.hb[i]? = some b) : ∀ (vs : List AV) (Vs : List Value), stillL vs = true → ars G h M vs Vs → ars G' h' M' vs Vs
  | [], Vs, _, e => e
  | v :: vs, Vs, hs, e => by
    simp only [stillL, Bool.and_eq_true] at hs
    simp only [ars] at e ⊢
    obtain ⟨V, Vs', e1, e2, e3⟩ := e
    exact ⟨V, Vs', e1, ar_still st hb v V hs.1 e2, ars_still st hb vs Vs' hs.2 e3⟩
end
theorem stillL_splice {cs vs : List AV} (off : Nat) (h1 : stillL cs = true) (h2 : stillL vs = true) : stillL (splice cs off vs) = true := by
  refine stillL_of fun x hx => ?_
  simp only [splice, List.mem_append] at hx
  rcases hx with (hx | hx) | hx
  · exact stillL_mem h1 x (List.mem_of_mem_take hx)
  · exact stillL_mem h2 x hx
  · exact stillL_mem h1 x (List.mem_of_mem_drop hx)
theorem okL_splice {cs vs : List AV} (off : Nat) (h1 : okL cs = true) (h2 : okL vs = true) : okL (splice cs off vs) = true := by
  refine okL_of fun x hx => ?_
  unfold splice at hx
  rcases List.mem_append.1 hx with hx | hx
  · rcases List.mem_append.1 hx with hx | hx
    · exact okL_mem h1 x (List.mem_of_mem_take hx)
    · exact okL_mem h2 x hx
  · exact okL_mem h1 x (List.mem_of_mem_drop hx)
theorem one_splice {cs vs : List Value} (off : Nat) (h1 : ∀ U ∈ cs, U.oneCell' = true) (h2 : ∀ U ∈ vs, U.oneCell' = true) : ∀ U ∈ splice cs off vs, U.oneCell' = true := by
  intro x hx
  unfold splice at hx
  rcases List.mem_append.1 hx with hx | hx
  · rcases List.mem_append.1 hx with hx | hx
    · exact h1 x (List.mem_of_mem_take hx)
    · exact h2 x hx
  · exact h1 x (List.mem_of_mem_drop hx)

/-- One block's cells change, all of which may. -/
theorem Upd_block [N0] (ow : OW G h X dm) {b : Nat} (hs : h'.size = h.size) (ho : ∀ k, k ≠ b → h'[k]? = h[k]?) (hw : G.ow b ≠ .no) (hm : ∀ off, Mh G b off ∨ Mf G b off) (hno : ∀ o, h'[b]? = some o → nf o) : Upd X ps (fun k => k = b) G h G h' where
  nb := NB_block ho hno
  sz := by omega
  sm := fun k _ hk => ho k hk
  cw := fun k hk => by subst hk; exact ⟨hw, 0, hm 0⟩
  st := fun k off v e n => by
    by_cases hk : k = b
    · subst hk; exact (n ((hm off).elim .inl fun x => .inr (.inl x))).elim
    · exact ⟨by rw [cel_same (ho k hk)]; exact e, n⟩
  sh := fun _ _ _ e => e
  on := .refl _ _
theorem OW.block [N0] (ow : OW G h X dm) {b : Nat} (hs : h'.size = h.size) (ho : ∀ k, k ≠ b → h'[k]? = h[k]?) (hw : G.ow b ≠ .no) : OW G h' X dm :=
  ⟨ow.oh, ow.oa, ow.ol, ow.ot, fun k hk => ow.fr k (by omega), ow.xo, fun r hr => ⟨(ow.dm r hr).1, by
    rw [ho r (fun e => hw (e ▸ (ow.dm r hr).1))]; exact (ow.dm r hr).2⟩⟩

theorem noL_nil (v : AV) : v.noL [] = true := by cases v <;> simp [AV.noL]

/-- A store into a local variable. -/
theorem FR.stL [N0] {w : World} (f : FR E dm G σ a w.heap) (p off : Nat) {old cs : List AV} {Vs : List Value} (hp : σ.mem.locs[p]? = some (some old)) (hle : off + cs.length ≤ old.length)
    (hc : ars G w.heap (Mut E.X G) cs Vs) (hk : okL cs = true) (h1 : ∀ U ∈ Vs, U.oneCell' = true) :
    ∃ b w', G.lb[p]? = some (some b) ∧ (storeCells ⟨b, off, none⟩ Vs).run P w = .ok () w' ∧ Io w w' ∧ FR E dm G { σ with mem := { σ.mem with locs := σ.mem.locs.set p (some (splice old off cs)) } } a w'.heap := by
  obtain ⟨b, Us, T, e1, e2, e3, e4, e5⟩ := f.fl.lc p old hp
  have hl := ars_length _ _ e3
  have hl2 := ars_length _ _ hc
  have hrun := run_storeCells_at P b off T Vs 0 Us.toArray w e2 (by simp; omega) h1
  simp only [Nat.add_zero] at hrun
  refine ⟨b, _, e1, hrun, ⟨rfl, rfl⟩, ?_⟩
  have hnew : (w.setRow b (Us.toArray.toList.take off ++ Vs ++ Us.toArray.toList.drop (off + Vs.length)).toArray).heap[b]? = some (.cells (splice Us off Vs).toArray T (0, 0)) := setRow_heap w b _ _ T _ e2
  have hoth : ∀ k, k ≠ b → (w.setRow b (Us.toArray.toList.take off ++ Vs ++ Us.toArray.toList.drop (off + Vs.length)).toArray).heap[k]? = w.heap[k]? := fun k hk => setRow_other w b k _ hk
  have hsz : (w.setRow b (Us.toArray.toList.take off ++ Vs ++ Us.toArray.toList.drop (off + Vs.length)).toArray).heap.size = w.heap.size := by simp
  have hwb : G.ow b ≠ .no := by rw [f.ow.ol p b e1]; simp
  have u : Upd E.X [] (fun k => k = b) G w.heap G (w.setRow b (Us.toArray.toList.take off ++ Vs ++ Us.toArray.toList.drop (off + Vs.length)).toArray).heap :=
    Upd_block f.ow hsz hoth hwb (fun off => .inr (.inl ⟨p, e1⟩)) (fun o ho => by rw [hnew] at ho; cases ho; exact nf_cells _ _)
  refine ⟨u.ft f.ft (fun t v _ => noL_nil v), ⟨by simp [f.fl.ll], fun q ds hq => ?_⟩, u.fk f.fk rfl (fun t k r hr hk e => ?_) (fun t k r hr hk => f.ow.tb_lt hr hk), u.hr f.ow f.hr rfl rfl rfl (fun k e => ?_), f.ow.block hsz hoth hwb, u.ev f.ev f.ow, f.df⟩
  · have hpl : p < σ.mem.locs.length := by
      rcases Nat.lt_or_ge p σ.mem.locs.length with h | h
      · exact h
      · simp [List.getElem?_eq_none h] at hp
    by_cases e : p = q
    · subst e
      simp only [List.getElem?_set, if_pos rfl, if_pos hpl] at hq
      simp at hq
      subst hq
      exact ⟨b, splice Us off Vs, T, e1, hnew, ars_splice off (ars_on u.on u.st _ _ e4 e3) (ars_on u.on u.st _ _ hk hc), okL_splice off e4 hk, one_splice off e5 h1⟩
    · simp only [List.getElem?_set, if_neg e] at hq
      obtain ⟨k, Ws, T', k1, k2, k3, k4, k5⟩ := f.fl.lc q ds hq
      have hkb : k ≠ b := fun h => by
        subst h
        have := (f.ow.ol p k e1).symm.trans (f.ow.ol q k k1)
        simp at this; exact e this
      exact ⟨k, Ws, T', k1, by rw [hoth k hkb]; exact k2, ars_on u.on u.st _ _ k4 k3, k4, k5⟩
  · subst e
    have := (f.ow.ol p k e1).symm.trans (f.ow.ot t k r hr hk)
    simp at this
  · subst e
    rw [f.ow.ol p k e1]; simp

/-- A store into a shared variable: data, addresses, functions. -/
theorem FR.stH [N0] {w : World} (f : FR E dm G σ a w.heap) (i off : Nat) {ver : Nat} {old cs : List AV} {Vs : List Value} (hi : σ.mem.heap[i]? = some (.var ver old)) (hle : off + cs.length ≤ old.length)
    (hc : ars G w.heap (Mut E.X G) cs Vs) (hk : stillL cs = true) (h1 : ∀ U ∈ Vs, U.oneCell' = true) (hno : (∀ xs, old ≠ [.hown xs]) ∨ cs.length = 1) :
    ∃ b w' G', G.hb[i]? = some b ∧ (storeCells ⟨b, off, none⟩ Vs).run P w = .ok () w' ∧ Io w w' ∧ FR E dm G' { σ with mem := { σ.mem with heap := σ.mem.heap.set i (.var ver (splice old off cs)) } } a w'.heap := by
  have hob := f.hr.ob i _ hi
  simp only [objR] at hob
  obtain ⟨b, e1, ev, Us, T, e2, e3⟩ := hob
  have hil : i < σ.mem.heap.length := by
    rcases Nat.lt_or_ge i σ.mem.heap.length with h | h
    · exact h
    · simp [List.getElem?_eq_none h] at hi
  have hl2 := ars_length _ _ hc
  have hUl : Us.length = old.length := by
    rcases e3 with ⟨xs, r, k1, k2, _⟩ | ⟨_, k2, _⟩
    · simp [k1, k2]
    · exact ars_length _ _ k2
  have hrun := run_storeCells_at P b off T Vs 0 Us.toArray w e2 (by simp; omega) h1
  simp only [Nat.add_zero] at hrun
  have hnew : (w.setRow b (Us.toArray.toList.take off ++ Vs ++ Us.toArray.toList.drop (off + Vs.length)).toArray).heap[b]? = some (.cells (splice Us off Vs).toArray T (0, 0)) := setRow_heap w b _ _ T _ e2
  have hoth : ∀ k, k ≠ b → (w.setRow b (Us.toArray.toList.take off ++ Vs ++ Us.toArray.toList.drop (off + Vs.length)).toArray).heap[k]? = w.heap[k]? := fun k hk => setRow_other w b k _ hk
  have hsz : (w.setRow b (Us.toArray.toList.take off ++ Vs ++ Us.toArray.toList.drop (off + Vs.length)).toArray).heap.size = w.heap.size := by simp
  have hio : Io w (w.setRow b (Us.toArray.toList.take off ++ Vs ++ Us.toArray.toList.drop (off + Vs.length)).toArray) := ⟨rfl, rfl⟩
  generalize w.setRow b (Us.toArray.toList.take off ++ Vs ++ Us.toArray.toList.drop (off + Vs.length)).toArray = w' at hrun hnew hoth hsz hio
  have hwb : G.ow b ≠ .no := by rw [f.ow.oh i b e1]; simp
  let G' : Gh := { G with ha := G.ha.set i none }
  have hha : ∀ (j : Nat) (r : Tok), G'.ha[j]? = some (some r) → G.ha[j]? = some (some r) ∧ j ≠ i := by
    intro j r hj
    simp only [G', List.getElem?_set] at hj
    by_cases e : i = j
    · rw [if_pos e] at hj; split at hj <;> simp at hj
    · rw [if_neg e] at hj; exact ⟨hj, fun h => e h.symm⟩
  have hmh : ∀ k off, Mh G' k off → Mh G k off := by
    rintro k o (⟨j, hj⟩ | ⟨j, r, hr, x1, x2⟩)
    · exact .inl ⟨j, hj⟩
    · exact .inr ⟨j, r, (hha j r hr).1, x1, x2⟩
  have u : Upd E.X [] (fun k => k = b) G w.heap G' w'.heap := by
    refine ⟨NB_block hoth (fun o ho => by rw [hnew] at ho; cases ho; exact nf_cells _ _), by omega, fun k _ hk => hoth k hk, fun k hk => by subst hk; exact ⟨hwb, 0, .inl (.inl ⟨i, e1⟩)⟩, fun k o v e n => ?_, fun k o _ e => e.imp (hmh k o) id, ⟨fun _ _ h => h, fun _ _ _ h => h, Nat.le_refl _, fun t r _ hr => ⟨r, hr, Nat.le_refl _, fun _ => rfl⟩, fun j v hv => ⟨v, hv, Nat.le_refl _, fun _ r hr => (hha j r hr).1⟩⟩⟩
    have hkb : k ≠ b := fun h => by subst h; exact n (.inl (.inl ⟨i, e1⟩))
    refine ⟨by rw [cel_same (hoth k hkb)]; exact e, ?_⟩
    rintro (q | q | q)
    · exact n (.inl (hmh k o q))
    · exact n (.inr (.inl q))
    · exact n (.inr (.inr q))
  have ow0 := f.ow.block hsz hoth hwb
  have ow' : OW G' w'.heap E.X dm := ⟨ow0.oh, fun j k r hr hk => ow0.oa j k r (hha j r hr).1 hk, ow0.ol, ow0.ot, ow0.fr, ow0.xo, ow0.dm⟩
  refine ⟨b, w', G', e1, hrun, hio, u.ft f.ft (fun t v _ => noL_nil v), u.fl f.fl rfl (fun p k hp e => ?_) (fun p k hp => f.ow.lb_lt hp), u.fk f.fk rfl (fun t k r hr hk e => ?_) (fun t k r hr hk => f.ow.tb_lt hr hk), ⟨by simp [G', f.hr.lb], by simp [G', f.hr.lv], by simp [G', f.hr.la], fun j o ho => ?_⟩, ow', u.ev f.ev f.ow, f.df⟩
  · subst e
    have := (f.ow.oh i k e1).symm.trans (f.ow.ol p k hp)
    simp at this
  · subst e
    have := (f.ow.oh i k e1).symm.trans (f.ow.ot t k r hr hk)
    simp at this
  · by_cases e : i = j
    · subst e
      simp only [List.getElem?_set, if_pos rfl, if_pos hil] at ho
      simp at ho
      subst ho
      simp only [objR]
      refine ⟨b, e1, ev, splice Us off Vs, T, hnew, .inr ⟨by simp [G', List.getElem?_set, f.hr.la, hil], ?_⟩⟩
      rcases e3 with ⟨xs, r, k1, k2, _⟩ | ⟨_, k2, k3, k4⟩
      · rcases hno with hno | hno
        · exact absurd k1 (hno xs)
        · subst k1; subst k2
          have hoff : off = 0 := by simp at hle; omega
          subst hoff
          have s1 : splice [AV.hown xs] 0 cs = cs := by simp [splice, hno]
          have s2 : splice [Value.slice r.A r.len r.cap] 0 Vs = Vs := by simp [splice, hl2, hno]
          rw [s1, s2]
          exact ⟨ars_on u.on u.st _ _ (stills_ok _ hk) hc, hk, h1⟩
      · exact ⟨ars_splice off (ars_on u.on u.st _ _ (stills_ok _ k3) k2) (ars_on u.on u.st _ _ (stills_ok _ hk) hc), stillL_splice off k3 hk, one_splice off k4 h1⟩
    · simp only [List.getElem?_set, if_neg e] at ho
      have hne : ∀ k, G.hb[j]? = some k → k ≠ b := fun k hk h => by
        subst h
        have := (f.ow.oh i k e1).symm.trans (f.ow.oh j k hk)
        simp at this; exact e this
      refine objR_on u (fun k hk => ⟨hk, hoth k (hne k hk)⟩) rfl (by simp only [G', List.getElem?_set, if_neg e]) (fun k r hr hk => hoth k fun h => ?_) (f.hr.ob j o ho)
      subst h
      have := (f.ow.oh i k e1).symm.trans (f.ow.oa j k r hr hk)
      simp at this
end
end Go.Proofs.Ytmmhpmfgcenngaa
/-! Steps of a frame's state: loads, slices that change their place. -/
set_option linter.unusedVariables false
set_option linter.unusedSimpArgs false
namespace Go.Proofs.Ytmmhpmfgcenngaa
section
variable {P : Program} {E : Ent} {X : Nat → Nat → Prop} {dm ps : List Nat} {G : Gh} {h h' : Array Obj} {M : Nat → Nat → Prop} {σ : St} {a : Act}

theorem ldc_ar {cs : List AV} {Vs : List Value} {off n : Nat} {ag : Bool} {v : AV} (hn : ag = true ∨ n = 1) (e : ars G h M cs Vs) (ho : okL cs = true) (h1 : ∀ U ∈ Vs, U.oneCell' = true) (hl : ldc cs off n ag = some v) :
    ar G h M v (if ag then .agg ((Vs.drop off).take n).toArray else ((Vs.drop off).take n).headD default) ∧ ((Vs.drop off).take n).length = n ∧ ∀ qs, v.noL qs = true := by
  unfold ldc at hl
  split at hl
  · rename_i hle
    have hlen := ars_length _ _ e
    have hok : okL ((cs.drop off).take n) = true := okL_of fun x hx => okL_mem ho x (List.mem_of_mem_drop (List.mem_of_mem_take hx))
    split at hl
    · rename_i hag
      cases hl
      simp only [hag, if_true]
      refine ⟨aggOf_ar (ars_take n _ _ (ars_drop off _ _ e)) (fun U hU => h1 U (List.mem_of_mem_drop (List.mem_of_mem_take hU))) hok, by simp; omega, fun qs => by unfold aggOf; split <;> rfl⟩
    · rename_i hag
      have hn1 : n = 1 := by simpa [hag] using hn
      subst hn1
      simp only [hag, if_false, Bool.false_eq_true]
      obtain ⟨V, e1, e2⟩ := ars_get cs Vs e off v hl
      refine ⟨?_, by simp; omega, fun qs => AV.noL_of_ok qs v (okL_mem ho v (List.mem_of_getElem? hl))⟩
      have : ((Vs.drop off).take 1).headD default = V := by
        have hd : (Vs.drop off)[0]? = some V := by rw [List.getElem?_drop]; simpa using e1
        cases hx : Vs.drop off with
        | nil => simp [hx] at hd
        | cons x xs => simp [hx] at hd ⊢; exact hd
      rw [this]; exact e2
  · cases hl

theorem FR.ldL [N0] {w : World} (f : FR E dm G σ a w.heap) {T p off n : Nat} {ag : Bool} (hs : tsz P T = some n) (ha : tag P T = some ag) (hn : ag = true ∨ n = 1) {cs : List AV} {v : AV} (hp : σ.mem.locs[p]? = some (some cs)) (hl : ldc cs off n ag = some v) :
    ∃ b V, G.lb[p]? = some (some b) ∧ (loadVar T ⟨b, off, none⟩).run P w = .ok V w ∧ ar G w.heap (Mut E.X G) v V ∧ ∀ qs, v.noL qs = true := by
  obtain ⟨b, Vs, T', e1, e2, e3, e4, e5⟩ := f.fl.lc p cs hp
  obtain ⟨k1, k2, k3⟩ := ldc_ar hn e3 e4 e5 hl
  refine ⟨b, _, e1, run_loadVar_cells hs ha hn w b off _ k2 (fun j u hj => ?_), k1, k3⟩
  have : (Vs.drop off)[j]? = some u := by
    rw [List.getElem?_take] at hj
    split at hj
    · exact hj
    · cases hj
  rw [List.getElem?_drop] at this
  simp [cel, e2, this]
theorem FR.ldH [N0] {w : World} (f : FR E dm G σ a w.heap) {T i off n ver : Nat} {ag : Bool} (hs : tsz P T = some n) (ha : tag P T = some ag) (hn : ag = true ∨ n = 1) {cs : List AV} {v : AV} (hp : σ.mem.heap[i]? = some (.var ver cs)) (hl : ldh i ver cs off n ag = some v) :
    ∃ b V, G.hb[i]? = some b ∧ (loadVar T ⟨b, off, none⟩).run P w = .ok V w ∧ ar G w.heap (Mut E.X G) v V ∧ ∀ qs, v.noL qs = true := by
  have hob := f.hr.ob i _ hp
  simp only [objR] at hob
  obtain ⟨b, e1, ev, Vs, T', e2, e3⟩ := hob
  have hread : ∀ j u, ((Vs.drop off).take n)[j]? = some u → cel w.heap b (off + j) = some u := fun j u hj => by
    have : (Vs.drop off)[j]? = some u := by
      rw [List.getElem?_take] at hj
      split at hj
      · exact hj
      · cases hj
    rw [List.getElem?_drop] at this
    simp [cel, e2, this]
  rcases e3 with ⟨xs, r, k1, k2, k3, k4, k5, k6, k7⟩ | ⟨k1, k2, k3, k4⟩
  · subst k1; subst k2
    unfold ldh at hl
    simp only at hl
    split at hl
    · rename_i hc
      obtain ⟨rfl, rfl, rfl⟩ := hc
      cases hl
      refine ⟨b, .slice r.A r.len r.cap, e1, ?_, ?_, fun qs => rfl⟩
      · simpa using run_loadVar_cells hs ha hn w b 0 [.slice r.A r.len r.cap] rfl (fun j u hj => hread j u (by simpa using hj))
      · simp only [ar]
        refine ⟨k5, ⟨ver, ev, Nat.le_refl _⟩, fun r' hr' _ => ?_⟩
        rw [k3] at hr'
        simp at hr'
        subst hr'
        exact ⟨k7, k4⟩
    · cases hl
  · have hl' : ldc cs off n ag = some v := by
      unfold ldh at hl
      split at hl
      · simp only [ars, ar] at k2
        obtain ⟨V, Vs', _, hf, _⟩ := k2
        exact hf.elim
      · exact hl
    obtain ⟨q1, q2, q3⟩ := ldc_ar hn k2 (stills_ok _ k3) k4 hl'
    exact ⟨b, _, e1, run_loadVar_cells hs ha hn w b off _ q2 hread, q1, q3⟩

/-- A slice of the frame's own becomes a shared variable's own. -/
theorem FR.stO [N0] {w : World} (f : FR E dm G σ a w.heap) (i : Nat) {ver t : Nat} {c : AV} {xs : List Dv} {V : Value} (hi : σ.mem.heap[i]? = some (.var ver [c])) (hv : ar G w.heap (Mut E.X G) (.own t xs) V) (ht : σ.mem.toks[t]? = some (some xs.length)) :
    ∃ b w' G', G.hb[i]? = some b ∧ (storeCells ⟨b, 0, none⟩ [V]).run P w = .ok () w' ∧ Io w w' ∧ FR E dm G' { σ with mem := { σ.mem with heap := σ.mem.heap.set i (.var (ver + 1) [.hown xs]), toks := σ.mem.toks.set t none } } a w'.heap := by
  have hob := f.hr.ob i _ hi
  simp only [objR] at hob
  obtain ⟨b, e1, ev, Us, T, e2, e3⟩ := hob
  have hil : i < σ.mem.heap.length := by
    rcases Nat.lt_or_ge i σ.mem.heap.length with h | h
    · exact h
    · simp [List.getElem?_eq_none h] at hi
  have htl : t < σ.mem.toks.length := by
    rcases Nat.lt_or_ge t σ.mem.toks.length with h | h
    · exact h
    · simp [List.getElem?_eq_none h] at ht
  obtain ⟨r, hr, hrl⟩ := f.fk.kt t _ ht
  simp only [ar] at hv
  obtain ⟨v1, v2, v3⟩ := hv
  have hO := (v3 r hr).2 hrl
  have hV : V = .slice r.A r.len r.cap := hO.1
  have hUl : Us.length = 1 := by
    rcases e3 with ⟨ys, r', k1, k2, _⟩ | ⟨_, k2, _⟩
    · simp [k2]
    · simpa using ars_length _ _ k2
  have hone : ∀ U ∈ [V], U.oneCell' = true := by subst hV; simp [Value.oneCell']
  have hrun := run_storeCells_at P b 0 T [V] 0 Us.toArray w e2 (by simp [hUl]) hone
  simp only [Nat.add_zero] at hrun
  have hnew : (w.setRow b (Us.toArray.toList.take 0 ++ [V] ++ Us.toArray.toList.drop (0 + [V].length)).toArray).heap[b]? = some (.cells [V].toArray T (0, 0)) := by
    have := setRow_heap w b _ (Us.toArray.toList.take 0 ++ [V] ++ Us.toArray.toList.drop (0 + [V].length)).toArray T _ e2
    rw [this]
    obtain ⟨U0, rfl⟩ := List.length_eq_one_iff.1 hUl
    simp
  have hoth : ∀ k, k ≠ b → (w.setRow b (Us.toArray.toList.take 0 ++ [V] ++ Us.toArray.toList.drop (0 + [V].length)).toArray).heap[k]? = w.heap[k]? := fun k hk => setRow_other w b k _ hk
  have hsz : (w.setRow b (Us.toArray.toList.take 0 ++ [V] ++ Us.toArray.toList.drop (0 + [V].length)).toArray).heap.size = w.heap.size := by simp
  have hio : Io w (w.setRow b (Us.toArray.toList.take 0 ++ [V] ++ Us.toArray.toList.drop (0 + [V].length)).toArray) := ⟨rfl, rfl⟩
  generalize w.setRow b (Us.toArray.toList.take 0 ++ [V] ++ Us.toArray.toList.drop (0 + [V].length)).toArray = w' at hrun hnew hoth hsz hio
  have hwb : G.ow b ≠ .no := by rw [f.ow.oh i b e1]; simp
  let G' : Gh := { G with ha := G.ha.set i (some r), hv := G.hv.set i (ver + 1), tb := G.tb.set t none, ow := fun k => if r.b = some k then .a i else G.ow k }
  have htb : ∀ (k : Nat) (q : Tok), G'.tb[k]? = some (some q) → G.tb[k]? = some (some q) ∧ k ≠ t := by
    intro k q hk
    simp only [G', List.getElem?_set] at hk
    by_cases e : t = k
    · rw [if_pos e] at hk; split at hk <;> simp at hk
    · rw [if_neg e] at hk; exact ⟨hk, fun h => e h.symm⟩
  have hha : ∀ (j : Nat) (q : Tok), G'.ha[j]? = some (some q) → (j = i ∧ q = r) ∨ (j ≠ i ∧ G.ha[j]? = some (some q)) := by
    intro j q hj
    simp only [G', List.getElem?_set] at hj
    by_cases e : i = j
    · rw [if_pos e] at hj
      split at hj
      · simp at hj; exact .inl ⟨e.symm, hj.symm⟩
      · cases hj
    · rw [if_neg e] at hj; exact .inr ⟨fun h => e h.symm, hj⟩
  have hm : ∀ k o, Mh G' k o ∨ Mf G' k o → Mh G k o ∨ Mf G k o := by
    rintro k o ((⟨j, hj⟩ | ⟨j, q, hq, x1, x2⟩) | (⟨p, hp⟩ | ⟨s, q, hq, x1, x2⟩))
    · exact .inl (.inl ⟨j, hj⟩)
    · rcases hha j q hq with ⟨_, rfl⟩ | ⟨_, y⟩
      · exact .inr (.inr ⟨t, q, hr, x1, x2⟩)
      · exact .inl (.inr ⟨j, q, y, x1, x2⟩)
    · exact .inr (.inl ⟨p, hp⟩)
    · exact .inr (.inr ⟨s, q, (htb s q hq).1, x1, x2⟩)
  have u : Upd E.X [] (fun k => k = b) G w.heap G' w'.heap := by
    refine ⟨NB_block hoth (fun o ho => by rw [hnew] at ho; cases ho; exact nf_cells _ _), by omega, fun k _ hk => hoth k hk, fun k hk => by subst hk; exact ⟨hwb, 0, .inl (.inl ⟨i, e1⟩)⟩, fun k o v e n => ?_, fun k o _ e => hm k o e, ⟨fun _ _ h => h, fun _ _ _ h => h, by simp [G'], fun s q _ hq => ⟨q, (htb s q hq).1, Nat.le_refl _, fun _ => rfl⟩, fun j v hv => ?_⟩⟩
    · have hkb : k ≠ b := fun h => by subst h; exact n (.inl (.inl ⟨i, e1⟩))
      refine ⟨by rw [cel_same (hoth k hkb)]; exact e, ?_⟩
      rintro (q | q | q)
      · exact n ((hm k o (.inl q)).elim .inl fun x => .inr (.inl x))
      · exact n ((hm k o (.inr q)).elim .inl fun x => .inr (.inl x))
      · exact n (.inr (.inr q))
    · by_cases e : i = j
      · subst e
        have : v = ver := by rw [ev] at hv; simpa using hv.symm
        subst this
        have hvl : i < G.hv.length := by rw [f.hr.lv]; exact hil
        exact ⟨v + 1, by simp [G', List.getElem?_set, hvl], by omega, fun h => by omega⟩
      · exact ⟨v, by simp only [G', List.getElem?_set, if_neg e]; exact hv, Nat.le_refl _, fun _ q hq => by
          rcases hha j q hq with ⟨x, _⟩ | ⟨_, y⟩
          · exact absurd x.symm e
          · exact y⟩
  have ow0 := f.ow.block hsz hoth hwb
  have hown : ∀ k, G.ow k ≠ .t t → G'.ow k = G.ow k := fun k hk => if_neg fun h => hk (f.ow.ot t k r hr h)
  have ow' : OW G' w'.heap E.X dm := by
    refine ⟨fun j k hj => ?_, fun j k q hq hk => ?_, fun p k hp => ?_, fun s k q hq hk => ?_, fun k hk => ?_, fun k o hx => ?_, fun q hq => ?_⟩
    · rw [hown k (by rw [f.ow.oh j k hj]; simp)]; exact f.ow.oh j k hj
    · rcases hha j q hq with ⟨rfl, rfl⟩ | ⟨_, y⟩
      · exact if_pos hk
      · rw [hown k (by rw [f.ow.oa j k q y hk]; simp)]; exact f.ow.oa j k q y hk
    · rw [hown k (by rw [f.ow.ol p k hp]; simp)]; exact f.ow.ol p k hp
    · obtain ⟨y1, y2⟩ := htb s q hq
      rw [hown k (by rw [f.ow.ot s k q y1 hk]; simpa using y2)]; exact f.ow.ot s k q y1 hk
    · have := ow0.fr k hk
      rw [hown k (by rw [this]; simp)]; exact this
    · have := f.ow.xo k o hx
      rw [hown k (by rw [this]; simp)]; exact this
    · have := ow0.dm q hq
      exact ⟨by rw [hown q (by rw [this.1]; simp)]; exact this.1, this.2⟩
  have hrb : ∀ k, r.b = some k → k ≠ b := fun k hk h => by
    subst h
    have := (f.ow.oh i k e1).symm.trans (f.ow.ot t k r hr hk)
    simp at this
  refine ⟨b, w', G', e1, hrun, hio, u.ft f.ft (fun t v _ => noL_nil v), u.fl f.fl rfl (fun p k hp e => ?_) (fun p k hp => f.ow.lb_lt hp), ⟨by simp [G', f.fk.kl], fun s m hs => ?_, fun s q hq => ?_⟩, ⟨by simp [G', f.hr.lb], by simp [G', f.hr.lv], by simp [G', f.hr.la], fun j o ho => ?_⟩, ow', u.ev f.ev f.ow, f.df⟩
  · subst e
    have := (f.ow.oh i k e1).symm.trans (f.ow.ol p k hp)
    simp at this
  · simp only [List.getElem?_set] at hs
    by_cases e : t = s
    · rw [if_pos e] at hs; split at hs <;> simp at hs
    · rw [if_neg e] at hs
      obtain ⟨q, hq, hl⟩ := f.fk.kt s m hs
      exact ⟨q, by simp only [G', List.getElem?_set, if_neg e]; exact hq, hl⟩
  · obtain ⟨y1, y2⟩ := htb s q hq
    refine tokR_same (f.fk.kr s q y1) fun k hk => hoth k fun h => ?_
    subst h
    have := (f.ow.oh i k e1).symm.trans (f.ow.ot s k q y1 hk)
    simp at this
  · by_cases e : i = j
    · subst e
      simp only [List.getElem?_set, if_pos rfl, if_pos hil] at ho
      simp at ho
      subst ho
      simp only [objR]
      refine ⟨b, e1, by simp [G', List.getElem?_set, f.hr.lv, hil], [V], T, hnew, .inl ⟨xs, r, rfl, by rw [hV], by simp [G', List.getElem?_set, f.hr.la, hil], hrl, ?_, tokR_same (f.fk.kr t r hr) fun k hk => hoth k (hrb k hk), ?_⟩⟩
      · rw [← hV]; exact rep_stay u.st _ _ v1
      · rw [← hV]; exact own1_stay u.st hO
    · simp only [List.getElem?_set, if_neg e] at ho
      have hne : ∀ k, G.hb[j]? = some k → k ≠ b := fun k hk h => by
        subst h
        have := (f.ow.oh i k e1).symm.trans (f.ow.oh j k hk)
        simp at this; exact e this
      refine objR_on u (fun k hk => ⟨hk, hoth k (hne k hk)⟩) (by simp only [G', List.getElem?_set, if_neg e]) (by simp only [G', List.getElem?_set, if_neg e]) (fun k q hq hk => hoth k fun h => ?_) (f.hr.ob j o ho)
      subst h
      have := (f.ow.oh i k e1).symm.trans (f.ow.oa j k q hq hk)
      simp at this

/-- A slice that has no room to grow, or a shared variable's own, becomes the frame's own. -/
theorem FR.tight [N0] (f : FR E dm G σ a h) (A : Option Addr) (n : Nat) (hn0 : n = 0) : ∃ G', FR E dm G' { σ with mem := { σ.mem with toks := σ.mem.toks ++ [some n] } } a h ∧ G'.tb[σ.mem.toks.length]? = some (some ⟨none, A, n, n, 1⟩) ∧ σ.mem.toks.length < G'.tb.length ∧ Stay h (Mut E.X G) h (Mut E.X G') := by
  let G' : Gh := { G with tb := G.tb ++ [some ⟨none, A, n, n, 1⟩] }
  have htb : ∀ (k : Nat) (q : Tok), G'.tb[k]? = some (some q) → (k = G.tb.length ∧ q = ⟨none, A, n, n, 1⟩) ∨ G.tb[k]? = some (some q) := by
    intro k q hk
    simp only [G', List.getElem?_append] at hk
    split at hk
    · exact .inr hk
    · have : k - G.tb.length = 0 := by
        rcases Nat.eq_zero_or_pos (k - G.tb.length) with e | e
        · exact e
        · rw [List.getElem?_eq_none (by simp; omega)] at hk; cases hk
      rw [this] at hk
      simp at hk
      exact .inl ⟨by omega, hk.symm⟩
  have hmf : ∀ k o, Mf G' k o → Mf G k o := by
    rintro k o (⟨p, hp⟩ | ⟨s, q, hq, x1, x2⟩)
    · exact .inl ⟨p, hp⟩
    · rcases htb s q hq with ⟨_, rfl⟩ | y
      · simp at x1
      · exact .inr ⟨s, q, y, x1, x2⟩
  have u : Upd E.X [] (fun _ => False) G h G' h := by
    refine ⟨id, Nat.le_refl _, fun _ _ _ => rfl, fun _ h => h.elim, fun k o v e n => ⟨e, ?_⟩, fun k o _ e => e.imp id (hmf k o), ⟨fun _ _ h => h, fun _ _ _ h => h, by simp [G'], fun t r hlt hr => ?_, fun i v hv => ⟨v, hv, Nat.le_refl _, fun _ _ h => h⟩⟩⟩
    · rintro (q | q | q)
      · exact n (.inl q)
      · exact n (.inr (.inl (hmf k o q)))
      · exact n (.inr (.inr q))
    · rcases htb t r hr with ⟨e, _⟩ | y
      · omega
      · exact ⟨r, y, Nat.le_refl _, fun _ => rfl⟩
  refine ⟨G', ⟨u.ft f.ft (fun t v _ => noL_nil v), u.fl f.fl rfl (fun _ _ _ h => h) (fun p k hp => f.ow.lb_lt hp), ⟨by simp [G', f.fk.kl], fun s m hs => ?_, fun s q hq => ?_⟩, u.hr f.ow f.hr rfl rfl rfl (fun _ h => h.elim), ⟨f.ow.oh, f.ow.oa, f.ow.ol, fun s k q hq hk => ?_, f.ow.fr, f.ow.xo, f.ow.dm⟩, u.ev f.ev f.ow, f.df⟩, by simp [G', f.fk.kl], by simp [G', f.fk.kl], u.st⟩
  · rw [List.getElem?_append] at hs
    split at hs
    · rename_i hlt
      obtain ⟨q, hq, hl⟩ := f.fk.kt s m hs
      exact ⟨q, by simp only [G', List.getElem?_append_left (show s < G.tb.length by rw [f.fk.kl]; exact hlt)]; exact hq, hl⟩
    · have : s - σ.mem.toks.length = 0 := by
        rcases Nat.eq_zero_or_pos (s - σ.mem.toks.length) with e | e
        · exact e
        · rw [List.getElem?_eq_none (by simp; omega)] at hs; cases hs
      rw [this] at hs
      have hnm : n = m := by simpa using hs
      have hst : s = G.tb.length := by rw [f.fk.kl]; omega
      exact ⟨⟨none, A, n, n, 1⟩, by rw [hst]; simp [G'], hnm⟩
  · rcases htb s q hq with ⟨_, rfl⟩ | y
    · exact ⟨rfl, hn0⟩
    · exact f.fk.kr s q y
  · rcases htb s q hq with ⟨_, rfl⟩ | y
    · simp at hk
    · exact f.ow.ot s k q y hk
theorem FR.claim [N0] (f : FR E dm G σ a h) (i : Nat) {ver : Nat} {zs : List Dv} (hi : σ.mem.heap[i]? = some (.var ver [.hown zs])) :
    ∃ G' r, FR E dm G' { σ with mem := { σ.mem with toks := σ.mem.toks ++ [some zs.length], heap := σ.mem.heap.set i (.var ver [.d (.slc zs)]) } } a h ∧ G.ha[i]? = some (some r) ∧ G.hv[i]? = some ver ∧ r.len = zs.length ∧
      G'.tb[σ.mem.toks.length]? = some (some r) ∧ σ.mem.toks.length < G'.tb.length ∧ Stay h (Mut E.X G) h (Mut E.X G') := by
  have hob := f.hr.ob i _ hi
  simp only [objR] at hob
  obtain ⟨b, e1, ev, Us, T, e2, e3⟩ := hob
  have hil : i < σ.mem.heap.length := by
    rcases Nat.lt_or_ge i σ.mem.heap.length with h | h
    · exact h
    · simp [List.getElem?_eq_none h] at hi
  rcases e3 with ⟨xs, r, k1, k2, k3, k4, k5, k6, k7⟩ | ⟨_, k2, _⟩
  · obtain rfl : zs = xs := by simpa using k1
    let G' : Gh := { G with tb := G.tb ++ [some r], ha := G.ha.set i none, ow := fun k => if r.b = some k then .t G.tb.length else G.ow k }
    have htb : ∀ (k : Nat) (q : Tok), G'.tb[k]? = some (some q) → (k = G.tb.length ∧ q = r) ∨ (k < G.tb.length ∧ G.tb[k]? = some (some q)) := by
      intro k q hk
      simp only [G', List.getElem?_append] at hk
      split at hk
      · rename_i hlt; exact .inr ⟨hlt, hk⟩
      · have : k - G.tb.length = 0 := by
          rcases Nat.eq_zero_or_pos (k - G.tb.length) with e | e
          · exact e
          · rw [List.getElem?_eq_none (by simp; omega)] at hk; cases hk
        rw [this] at hk
        simp at hk
        exact .inl ⟨by omega, hk.symm⟩
    have hha : ∀ (j : Nat) (q : Tok), G'.ha[j]? = some (some q) → G.ha[j]? = some (some q) ∧ j ≠ i := by
      intro j q hj
      simp only [G', List.getElem?_set] at hj
      by_cases e : i = j
      · rw [if_pos e] at hj; split at hj <;> simp at hj
      · rw [if_neg e] at hj; exact ⟨hj, fun h => e h.symm⟩
    have hm : ∀ k o, Mh G' k o ∨ Mf G' k o → Mh G k o ∨ Mf G k o := by
      rintro k o ((⟨j, hj⟩ | ⟨j, q, hq, x1, x2⟩) | (⟨p, hp⟩ | ⟨s, q, hq, x1, x2⟩))
      · exact .inl (.inl ⟨j, hj⟩)
      · exact .inl (.inr ⟨j, q, (hha j q hq).1, x1, x2⟩)
      · exact .inr (.inl ⟨p, hp⟩)
      · rcases htb s q hq with ⟨_, rfl⟩ | ⟨_, y⟩
        · exact .inl (.inr ⟨i, q, k3, x1, x2⟩)
        · exact .inr (.inr ⟨s, q, y, x1, x2⟩)
    have u : Upd E.X [] (fun _ => False) G h G' h := by
      refine ⟨id, Nat.le_refl _, fun _ _ _ => rfl, fun _ h => h.elim, fun k o v e n => ⟨e, ?_⟩, fun k o _ e => hm k o e, ⟨fun _ _ h => h, fun _ _ _ h => h, by simp [G'], fun t q hlt hq => ?_, fun j v hv => ⟨v, hv, Nat.le_refl _, fun _ q hq => (hha j q hq).1⟩⟩⟩
      · rintro (q | q | q)
        · exact n ((hm k o (.inl q)).elim .inl fun x => .inr (.inl x))
        · exact n ((hm k o (.inr q)).elim .inl fun x => .inr (.inl x))
        · exact n (.inr (.inr q))
      · rcases htb t q hq with ⟨e, _⟩ | ⟨_, y⟩
        · omega
        · exact ⟨q, y, Nat.le_refl _, fun _ => rfl⟩
    have hown : ∀ k, G.ow k ≠ .a i → G'.ow k = G.ow k := fun k hk => if_neg fun h => hk (f.ow.oa i k r k3 h)
    have ow' : OW G' h E.X dm := by
      refine ⟨fun j k hj => ?_, fun j k q hq hk => ?_, fun p k hp => ?_, fun s k q hq hk => ?_, fun k hk => ?_, fun k o hx => ?_, fun q hq => ?_⟩
      · rw [hown k (by rw [f.ow.oh j k hj]; simp)]; exact f.ow.oh j k hj
      · obtain ⟨y1, y2⟩ := hha j q hq
        rw [hown k (by rw [f.ow.oa j k q y1 hk]; simpa using y2)]; exact f.ow.oa j k q y1 hk
      · rw [hown k (by rw [f.ow.ol p k hp]; simp)]; exact f.ow.ol p k hp
      · rcases htb s q hq with ⟨rfl, rfl⟩ | ⟨_, y⟩
        · exact if_pos hk
        · rw [hown k (by rw [f.ow.ot s k q y hk]; simp)]; exact f.ow.ot s k q y hk
      · have := f.ow.fr k hk
        rw [hown k (by rw [this]; simp)]; exact this
      · have := f.ow.xo k o hx
        rw [hown k (by rw [this]; simp)]; exact this
      · have := f.ow.dm q hq
        exact ⟨by rw [hown q (by rw [this.1]; simp)]; exact this.1, this.2⟩
    refine ⟨G', r, ⟨u.ft f.ft (fun t v _ => noL_nil v), u.fl f.fl rfl (fun _ _ _ h => h) (fun p k hp => f.ow.lb_lt hp), ⟨by simp [G', f.fk.kl], fun s m hs => ?_, fun s q hq => ?_⟩, ⟨by simp [G', f.hr.lb], by simp [G', f.hr.lv], by simp [G', f.hr.la], fun j o ho => ?_⟩, ow', u.ev f.ev f.ow, f.df⟩, k3, ev, k4, by simp [G', f.fk.kl], by simp [G', f.fk.kl], u.st⟩
    · rw [List.getElem?_append] at hs
      split at hs
      · rename_i hlt
        obtain ⟨q, hq, hl⟩ := f.fk.kt s m hs
        exact ⟨q, by simp only [G', List.getElem?_append_left (show s < G.tb.length by rw [f.fk.kl]; exact hlt)]; exact hq, hl⟩
      · have : s - σ.mem.toks.length = 0 := by
          rcases Nat.eq_zero_or_pos (s - σ.mem.toks.length) with e | e
          · exact e
          · rw [List.getElem?_eq_none (by simp; omega)] at hs; cases hs
        rw [this] at hs
        have hnm : zs.length = m := by simpa using hs
        have hst : s = G.tb.length := by rw [f.fk.kl]; omega
        exact ⟨r, by rw [hst]; simp [G'], k4.trans hnm⟩
    · rcases htb s q hq with ⟨_, rfl⟩ | ⟨_, y⟩
      · exact k6
      · exact f.fk.kr s q y
    · by_cases e : i = j
      · subst e
        simp only [List.getElem?_set, if_pos rfl, if_pos hil] at ho
        simp at ho
        subst ho
        simp only [objR]
        refine ⟨b, e1, ev, Us, T, e2, .inr ⟨by simp [G', List.getElem?_set, f.hr.la, hil], ?_, rfl, ?_⟩⟩
        · subst k2
          simp only [ars, ar]
          exact ⟨_, [], rfl, rep_stay u.st _ _ k5, rfl⟩
        · subst k2; simp [Value.oneCell']
      · simp only [List.getElem?_set, if_neg e] at ho
        refine objR_on u (fun k hk => ⟨hk, rfl⟩) rfl (by simp only [G', List.getElem?_set, if_neg e]) (fun _ _ _ _ => rfl) (f.hr.ob j o ho)
  · simp only [ars, ar] at k2
    obtain ⟨V, Vs', _, hf, _⟩ := k2
    exact hf.elim
end
end Go.Proofs.Ytmmhpmfgcenngaa
/-! Steps of a frame's state: what is appended to its own slices. -/
set_option linter.unusedVariables false
set_option linter.unusedSimpArgs false
namespace Go.Proofs.Ytmmhpmfgcenngaa

/-- The cells of a row, and that they are a row wherever they lie. -/
theorem rows_news {h : Array Obj} {M : Nat → Nat → Prop} {sz b : Nat} : ∀ (ys : List Dv) (o : Nat), rows h M sz ys b o →
    ∃ Us : List Value, Us.length = ys.length * sz ∧ (∀ (j : Nat) (u : Value), Us[j]? = some u → cel h b (o + j) = some u ∧ u.oneCell' = true) ∧
      ∀ (h' : Array Obj) (M' : Nat → Nat → Prop) (b' o' : Nat), Stay h M h' M' → (∀ (j : Nat) (u : Value), Us[j]? = some u → cel h' b' (o' + j) = some u ∧ ¬ M' b' (o' + j)) → rows h' M' sz ys b' o'
  | [], o, _ => ⟨[], by simp, by simp, fun _ _ _ _ _ _ => by simp [rows]⟩
  | y :: ys, o, e => by
    simp only [rows] at e
    obtain ⟨⟨V, e1, e2, e3⟩, e4⟩ := e
    obtain ⟨Us, u1, u2, u3⟩ := rows_news ys (o + sz) e4
    have hlen : V.cells.toList.length = sz := by simpa using e2
    have hone := reps_one _ _ (rep_cells e1)
    refine ⟨V.cells.toList ++ Us, by simp [hlen, u1, Nat.succ_mul]; omega, fun j u hj => ?_, fun h' M' b' o' st hc => ?_⟩
    · rcases Nat.lt_or_ge j sz with hl | hl
      · rw [List.getElem?_append_left (by omega)] at hj
        exact ⟨(e3 j u (by simpa using hj)).1, hone u (List.mem_of_getElem? hj)⟩
      · rw [List.getElem?_append_right (by omega), hlen] at hj
        have := u2 (j - sz) u hj
        rw [show o + sz + (j - sz) = o + j by omega] at this
        exact this
    · simp only [rows]
      refine ⟨⟨V, rep_stay st _ _ e1, e2, fun j u hj => hc j u ?_⟩, u3 h' M' b' (o' + sz) st fun j u hj => ?_⟩
      · have hjl : j < V.cells.toList.length := by
          rcases Nat.lt_or_ge j V.cells.size with h | h
          · simpa using h
          · simp [Array.getElem?_eq_none h] at hj
        rw [List.getElem?_append_left hjl]
        simpa using hj
      · rw [show o' + sz + j = o' + (sz + j) by omega]
        refine hc (sz + j) u ?_
        rw [List.getElem?_append_right (by omega), hlen, show sz + j - sz = j by omega]
        exact hj

section
variable {P : Program} (w : World)
/-- Appending into room, whatever type the block was made for. -/
theorem run_append_fit [N0] (t ty e T : TypeId) (i : TypeInfo) (ht : P.underlying t = some (.slice e)) (hi : P.info? e = some i)
    (g sLen sCap : Nat) (cur : Array Value) (hg : w.heap[g]? = some (.cells cur T (0, 0)))
    (a : Addr) (m c : Nat) (news : List Value) (hl : news.length = m * i.size) (hnews : ∀ j u, news[j]? = some u → w.cell? (a.add j) = some u) (h1 : ∀ u ∈ news, u.oneCell' = true)
    (hroom : sLen + m ≤ sCap) (hfit : sLen * i.size + news.length ≤ cur.size) :
    (Builtin.append_ #[t, t] ty #[.slice (some ⟨g, 0, none⟩) sLen sCap, .slice (some a) m c]).run P w =
      .ok (.slice (some ⟨g, 0, none⟩) (sLen + m) sCap) (w.setRow g (cur.toList.take (sLen * i.size) ++ news ++ cur.toList.drop (sLen * i.size + news.length)).toArray) := by
  have hf := run_firstCells_some (P := P) w i.size m a m c news hl hnews
  have hst := run_storeCells_at P g (sLen * i.size) T news 0 cur w hg (by simpa using hfit) h1
  simp only [Nat.add_zero] at hst
  simp [Builtin.append_, run_underlying ht, sizeOf, typeInfo, hi, Builtin.lenOf, hroom, hf, Addr.add_lit, hst]
/-- Appending nothing. -/
theorem run_append_zero (t ty e : TypeId) (i : TypeInfo) (ht : P.underlying t = some (.slice e)) (hi : P.info? e = some i) (A B : Option Addr) (n cap c : Nat) (hn : n ≤ cap) :
    (Builtin.append_ #[t, t] ty #[.slice A n cap, .slice B 0 c]).run P w = .ok (.slice A n cap) w := by
  have hf : (Builtin.firstCells i.size 0 (.slice B 0 c)).run P w = .ok #[] w := by
    cases B with
    | none => exact run_firstCells_none w i.size 0 0 c
    | some b => exact run_firstCells_some w i.size 0 b 0 c [] (by simp) (by simp)
  cases A with
  | none => simp [Builtin.append_, run_underlying ht, sizeOf, typeInfo, hi, Builtin.lenOf, hn, hf]
  | some b => simp [Builtin.append_, run_underlying ht, sizeOf, typeInfo, hi, Builtin.lenOf, hn, hf, storeCells]
end

section
variable {E : Ent} {X : Nat → Nat → Prop} {dm ps : List Nat} {G : Gh} {h : Array Obj} {M : Nat → Nat → Prop} {σ : St} {a : Act} {P : Program}

theorem own_noL (t : Nat) (xs : List Dv) (ps : List Nat) : (AV.own t xs).noL ps = true := rfl
theorem set_same {α : Type} (l : List α) (t : Nat) (x : α) (h : l[t]? = some x) : l.set t x = l := by
  refine List.ext_getElem? fun k => ?_
  rw [List.getElem?_set]
  split
  · rename_i e; subst e
    split
    · exact h.symm
    · rename_i hl; simp at hl; simp [List.getElem?_eq_none hl] at h
  · rfl

/-- In its own block there is room. -/
theorem FR.grow1 [N0] {w : World} (f : FR E dm G σ a w.heap) {t b : Nat} {xs ys : List Dv} {S : Value} {r : Tok} {Us Vs : List Value} {T : Nat} (hr : G.tb[t]? = some (some r)) (hb : r.b = some b) (hl : r.len = xs.length) (hy : 0 < ys.length)
    (hO : own1 w.heap (Mut E.X G) r xs S) (hc : w.heap[b]? = some (.cells Vs.toArray T (0, 0))) (hVs : Vs.length = r.cap * r.sz) (hfit : xs.length + ys.length ≤ r.cap) (hA : r.A = some ⟨b, 0, none⟩) (hpos : 0 < r.sz) (hU : Us.length = ys.length * r.sz)
    (hmv : ∀ (h' : Array Obj) (M' : Nat → Nat → Prop) (b' o' : Nat), Stay w.heap (Mut E.X G) h' M' → (∀ (j : Nat) (u : Value), Us[j]? = some u → cel h' b' (o' + j) = some u ∧ ¬ M' b' (o' + j)) → rows h' M' r.sz ys b' o') :
    ∃ G', FR E dm G' { σ with mem := { σ.mem with toks := σ.mem.toks.set t (some (xs.length + ys.length)) } } a (w.setRow b (Vs.take (xs.length * r.sz) ++ Us ++ Vs.drop (xs.length * r.sz + Us.length)).toArray).heap ∧
      ar G' (w.setRow b (Vs.take (xs.length * r.sz) ++ Us ++ Vs.drop (xs.length * r.sz + Us.length)).toArray).heap (Mut E.X G') (.own t (xs ++ ys)) (.slice (some ⟨b, 0, none⟩) (xs.length + ys.length) r.cap) := by
  have hmul : xs.length * r.sz + ys.length * r.sz ≤ Vs.length := by rw [hVs, ← Nat.add_mul]; exact Nat.mul_le_mul_right _ hfit
  have hposy : 0 < ys.length * r.sz := Nat.mul_pos hy hpos
  have hnew : (w.setRow b (Vs.take (xs.length * r.sz) ++ Us ++ Vs.drop (xs.length * r.sz + Us.length)).toArray).heap[b]? = some (.cells (Vs.take (xs.length * r.sz) ++ Us ++ Vs.drop (xs.length * r.sz + Us.length)).toArray T (0, 0)) := setRow_heap w b _ _ T _ hc
  have hoth : ∀ k, k ≠ b → (w.setRow b (Vs.take (xs.length * r.sz) ++ Us ++ Vs.drop (xs.length * r.sz + Us.length)).toArray).heap[k]? = w.heap[k]? := fun k hk => setRow_other w b k _ hk
  have hsz : (w.setRow b (Vs.take (xs.length * r.sz) ++ Us ++ Vs.drop (xs.length * r.sz + Us.length)).toArray).heap.size = w.heap.size := by simp
  generalize (w.setRow b (Vs.take (xs.length * r.sz) ++ Us ++ Vs.drop (xs.length * r.sz + Us.length)).toArray).heap = h' at hnew hoth hsz
  have htl : t < G.tb.length := by
    rcases Nat.lt_or_ge t G.tb.length with h | h
    · exact h
    · simp [List.getElem?_eq_none h] at hr
  have hwb : G.ow b = .t t := f.ow.ot t b r hr hb
  let r' : Tok := { r with len := xs.length + ys.length }
  let G' : Gh := { G with tb := G.tb.set t (some r') }
  have htb : ∀ (k : Nat) (q : Tok), G'.tb[k]? = some (some q) → (k = t ∧ q = r') ∨ (k ≠ t ∧ G.tb[k]? = some (some q)) := by
    intro k q hk
    simp only [G', List.getElem?_set] at hk
    by_cases e : t = k
    · rw [if_pos e, if_pos htl] at hk
      exact .inl ⟨e.symm, by simpa using hk.symm⟩
    · rw [if_neg e] at hk; exact .inr ⟨fun h => e h.symm, hk⟩
  have hmf : ∀ k o, Mf G' k o → Mf G k o := by
    rintro k o (⟨p, hp⟩ | ⟨s, q, hq, x1, x2⟩)
    · exact .inl ⟨p, hp⟩
    · rcases htb s q hq with ⟨rfl, rfl⟩ | ⟨_, y⟩
      · refine .inr ⟨s, r, hr, x1, ?_⟩
        simp only [r', Nat.add_mul] at x2
        rw [hl]; omega
      · exact .inr ⟨s, q, y, x1, x2⟩
  have hcel : ∀ o v, o < xs.length * r.sz → cel w.heap b o = some v → cel h' b o = some v := by
    intro o v ho hv
    unfold cel at hv ⊢
    rw [hc] at hv; rw [hnew]
    simp only [List.getElem?_toArray] at hv ⊢
    rw [List.append_assoc, List.getElem?_append_left (by simp; omega), List.getElem?_take, if_pos ho]
    exact hv
  have hnc : ∀ j u, Us[j]? = some u → cel h' b (xs.length * r.sz + j) = some u := by
    intro j u hj
    have hjl : j < Us.length := by
      rcases Nat.lt_or_ge j Us.length with h | h
      · exact h
      · simp [List.getElem?_eq_none h] at hj
    unfold cel
    rw [hnew]
    simp only [List.getElem?_toArray]
    have ht : (Vs.take (xs.length * r.sz)).length = xs.length * r.sz := by simp; omega
    rw [List.append_assoc, List.getElem?_append_right (by omega), ht, Nat.add_sub_cancel_left, List.getElem?_append_left hjl]
    exact hj
  have u : Upd E.X [] (fun k => k = b) G w.heap G' h' := by
    refine ⟨NB_block hoth (fun o ho => by rw [hnew] at ho; cases ho; exact nf_cells _ _), by omega, fun k _ hk => hoth k hk, fun k hk => by subst hk; exact ⟨by rw [hwb]; simp, _, .inr (.inr ⟨t, r, hr, hb, Nat.le_refl _⟩)⟩, fun k o v e n => ?_, fun k o _ e => e.imp id (hmf k o), ⟨fun _ _ h => h, fun _ _ _ h => h, by simp [G'], fun s q _ hq => ?_, fun j v hv => ⟨v, hv, Nat.le_refl _, fun _ _ h => h⟩⟩⟩
    · refine ⟨?_, ?_⟩
      · by_cases ek : k = b
        · subst ek
          refine hcel o v ?_ e
          rcases Nat.lt_or_ge o (xs.length * r.sz) with h | h
          · exact h
          · exact absurd (.inr (.inl (.inr ⟨t, r, hr, hb, by rw [hl]; exact h⟩))) n
        · rw [cel_same (hoth k ek)]; exact e
      · rintro (q | q | q)
        · exact n (.inl q)
        · exact n (.inr (.inl (hmf k o q)))
        · exact n (.inr (.inr q))
    · rcases htb s q hq with ⟨rfl, rfl⟩ | ⟨_, y⟩
      · exact ⟨r, hr, by simp only [r']; omega, fun e => by simp only [r'] at e; omega⟩
      · exact ⟨q, y, Nat.le_refl _, fun _ => rfl⟩
  have ow0 := f.ow.block hsz hoth (by rw [hwb]; simp)
  have ow' : OW G' h' E.X dm := by
    refine ⟨ow0.oh, ow0.oa, ow0.ol, fun s k q hq hk => ?_, ow0.fr, ow0.xo, ow0.dm⟩
    rcases htb s q hq with ⟨rfl, rfl⟩ | ⟨_, y⟩
    · exact ow0.ot s k r hr hk
    · exact ow0.ot s k q y hk
  have hnm : ∀ j, j < Us.length → ¬ Mut E.X G' b (xs.length * r.sz + j) := by
    intro j hj
    rintro ((⟨i, q⟩ | ⟨i, q, q1, q2, _⟩) | (⟨p, q⟩ | ⟨s, q, q1, q2, q3⟩) | q)
    · have := hwb.symm.trans (f.ow.oh i b q); simp at this
    · have := hwb.symm.trans (f.ow.oa i b q q1 q2); simp at this
    · have := hwb.symm.trans (f.ow.ol p b q); simp at this
    · rcases htb s q q1 with ⟨rfl, rfl⟩ | ⟨y0, y⟩
      · simp only [r', Nat.add_mul] at q3; omega
      · have := hwb.symm.trans (f.ow.ot s b q y q2); simp at this; exact y0 this.symm
    · have := hwb.symm.trans (f.ow.xo b _ q); simp at this
  have hrow : rows h' (Mut E.X G') r.sz (xs ++ ys) b 0 := by
    refine rows_append xs ys b 0 (rows_stay u.st _ _ _ _ (hO.2 b hb)) (hmv h' _ b _ u.st fun j v hj => ?_)
    have hjl : j < Us.length := by
      rcases Nat.lt_or_ge j Us.length with h | h
      · exact h
      · simp [List.getElem?_eq_none h] at hj
    rw [Nat.zero_add]
    exact ⟨hnc j v hj, hnm j hjl⟩
  refine ⟨G', ⟨u.ft f.ft (fun t v _ => noL_nil v), u.fl f.fl rfl (fun p k hp e => ?_) (fun p k hp => f.ow.lb_lt hp), ⟨by simp [G', f.fk.kl], fun s m hs => ?_, fun s q hq => ?_⟩, u.hr f.ow f.hr rfl rfl rfl (fun k e => ?_), ow', u.ev f.ev f.ow, f.df⟩, ?_⟩
  · subst e
    have := hwb.symm.trans (f.ow.ol p k hp)
    simp at this
  · simp only [List.getElem?_set] at hs
    by_cases e : t = s
    · subst e
      rw [if_pos rfl] at hs
      split at hs
      · simp at hs; exact ⟨r', by simp [G', List.getElem?_set, htl], by simp only [r']; omega⟩
      · cases hs
    · rw [if_neg e] at hs
      obtain ⟨q, hq, hl⟩ := f.fk.kt s m hs
      exact ⟨q, by simp only [G', List.getElem?_set, if_neg e]; exact hq, hl⟩
  · rcases htb s q hq with ⟨rfl, rfl⟩ | ⟨y0, y⟩
    · simp only [tokR, r', hb]
      exact ⟨hA, hfit, hpos, .inl (by omega), _, T, hnew, by simp; omega⟩
    · refine tokR_same (f.fk.kr s q y) fun k hk => hoth k fun h => ?_
      subst h
      have := hwb.symm.trans (f.ow.ot s k q y hk)
      simp at this; exact y0 this.symm
  · subst e
    rw [hwb]; simp
  · simp only [ar]
    have hlen : (xs ++ ys).length = xs.length + ys.length := List.length_append
    refine ⟨?_, by simp [G']; exact htl, fun q hq => ?_⟩
    · simp only [rep]
      refine ⟨some ⟨b, 0, none⟩, r.cap, by rw [hlen], by omega, by simp, fun ad h => ?_⟩
      cases h
      exact .inr ⟨rfl, r.sz, hrow⟩
    · rcases htb t q hq with ⟨_, rfl⟩ | ⟨y0, _⟩
      · refine ⟨by simp [r'], fun _ => ⟨by simp [r', hA], fun b' hb' => ?_⟩⟩
        simp only [r', hb] at hb'
        cases hb'
        exact hrow
      · exact absurd rfl y0

/-- In a block that is new. -/
theorem FR.grow2 [N0] (f : FR E dm G σ a h) {t : Nat} {xs ys : List Dv} {r : Tok} {Vs : List Value} {T sz cap : Nat} (hr : G.tb[t]? = some (some r)) (hl : r.len = xs.length) (hy : 0 < ys.length)
    (hVs : Vs.length = cap * sz) (hcap : xs.length + ys.length ≤ cap) (hpos : 0 < sz)
    (hrow : ∀ (h' : Array Obj) (M' : Nat → Nat → Prop) (b : Nat), Stay h (Mut E.X G) h' M' → (∀ (j : Nat) (u : Value), j < (xs.length + ys.length) * sz → Vs[j]? = some u → cel h' b j = some u ∧ ¬ M' b j) → rows h' M' sz (xs ++ ys) b 0) :
    ∃ G', FR E dm G' { σ with mem := { σ.mem with toks := σ.mem.toks.set t (some (xs.length + ys.length)) } } a (h.push (.cells Vs.toArray T (0, 0))) ∧
      ar G' (h.push (.cells Vs.toArray T (0, 0))) (Mut E.X G') (.own t (xs ++ ys)) (.slice (some ⟨h.size, 0, none⟩) (xs.length + ys.length) cap) := by
  have htl : t < G.tb.length := by
    rcases Nat.lt_or_ge t G.tb.length with h | h
    · exact h
    · simp [List.getElem?_eq_none h] at hr
  let r' : Tok := ⟨some h.size, some ⟨h.size, 0, none⟩, xs.length + ys.length, cap, sz⟩
  let G' : Gh := { G with tb := G.tb.set t (some r'), ow := fun k => if k = h.size then .t t else G.ow k }
  have htb : ∀ (k : Nat) (q : Tok), G'.tb[k]? = some (some q) → (k = t ∧ q = r') ∨ (k ≠ t ∧ G.tb[k]? = some (some q)) := by
    intro k q hk
    simp only [G', List.getElem?_set] at hk
    by_cases e : t = k
    · rw [if_pos e, if_pos htl] at hk
      exact .inl ⟨e.symm, by simpa using hk.symm⟩
    · rw [if_neg e] at hk; exact .inr ⟨fun h => e h.symm, hk⟩
  have hmf : ∀ k o, k < h.size → Mf G' k o → Mf G k o := by
    rintro k o hk (⟨p, hp⟩ | ⟨s, q, hq, x1, x2⟩)
    · exact .inl ⟨p, hp⟩
    · rcases htb s q hq with ⟨rfl, rfl⟩ | ⟨_, y⟩
      · simp only [r'] at x1; cases x1; exact absurd hk (Nat.lt_irrefl _)
      · exact .inr ⟨s, q, y, x1, x2⟩
  have hold : ∀ k, k < h.size → (h.push (.cells Vs.toArray T (0, 0)))[k]? = h[k]? := fun k hk => by rw [Array.getElem?_push_lt hk, ← Array.getElem?_eq_getElem hk]
  have hnew : (h.push (.cells Vs.toArray T (0, 0)))[h.size]? = some (.cells Vs.toArray T (0, 0)) := by simp
  have u : Upd E.X [] (fun _ => False) G h G' (h.push (.cells Vs.toArray T (0, 0))) := by
    refine ⟨NB_push (nf_cells _ _), by simp, fun k hk _ => hold k hk, fun _ h => h.elim, fun k o v e n => ?_, fun k o hk e => e.imp id (hmf k o hk), ⟨fun _ _ h => h, fun _ _ _ h => h, by simp [G'], fun s q _ hq => ?_, fun j v hv => ⟨v, hv, Nat.le_refl _, fun _ _ h => h⟩⟩⟩
    · refine ⟨by rw [cel_same (hold k (cel_lt e))]; exact e, ?_⟩
      rintro (q | q | q)
      · exact n (.inl q)
      · exact n (.inr (.inl (hmf k o (cel_lt e) q)))
      · exact n (.inr (.inr q))
    · rcases htb s q hq with ⟨rfl, rfl⟩ | ⟨_, y⟩
      · exact ⟨r, hr, by simp only [r']; omega, fun e => by simp only [r'] at e; omega⟩
      · exact ⟨q, y, Nat.le_refl _, fun _ => rfl⟩
  have hown : ∀ k, G.ow k ≠ .no → G'.ow k = G.ow k := fun k hk => if_neg fun e => hk (by subst e; exact f.ow.fr _ (Nat.le_refl _))
  have ow' : OW G' (h.push (.cells Vs.toArray T (0, 0))) E.X dm := by
    refine ⟨fun j k hj => ?_, fun j k q hq hk => ?_, fun p k hp => ?_, fun s k q hq hk => ?_, fun k hk => ?_, fun k o hx => ?_, fun q hq => ?_⟩
    · rw [hown k (by rw [f.ow.oh j k hj]; simp)]; exact f.ow.oh j k hj
    · rw [hown k (by rw [f.ow.oa j k q hq hk]; simp)]; exact f.ow.oa j k q hq hk
    · rw [hown k (by rw [f.ow.ol p k hp]; simp)]; exact f.ow.ol p k hp
    · rcases htb s q hq with ⟨rfl, rfl⟩ | ⟨_, y⟩
      · simp only [r'] at hk; cases hk; exact if_pos rfl
      · rw [hown k (by rw [f.ow.ot s k q y hk]; simp)]; exact f.ow.ot s k q y hk
    · simp at hk
      have : k ≠ h.size := by omega
      show (if k = h.size then Ow.t t else G.ow k) = .no
      rw [if_neg this]; exact f.ow.fr k (by omega)
    · have : k ≠ h.size := Nat.ne_of_lt (f.ev.xlt k o hx)
      show (if k = h.size then Ow.t t else G.ow k) = .no
      rw [if_neg this]; exact f.ow.xo k o hx
    · have := ((f.ow.push (.cells Vs.toArray T (0, 0))).dm q hq)
      have hlt : q < h.size := by
        rcases Nat.lt_or_ge q h.size with h1 | h1
        · exact h1
        · have := (f.ow.dm q hq).2; simp [Array.getElem?_eq_none h1] at this
      refine ⟨?_, this.2⟩
      show (if q = h.size then Ow.t t else G.ow q) = .no
      rw [if_neg (Nat.ne_of_lt hlt)]; exact this.1
  have hnm : ∀ j, j < (xs.length + ys.length) * sz → ¬ Mut E.X G' h.size j := by
    intro j hj
    have hno : G.ow h.size = .no := f.ow.fr _ (Nat.le_refl _)
    rintro ((⟨i, q⟩ | ⟨i, q, q1, q2, _⟩) | (⟨p, q⟩ | ⟨s, q, q1, q2, q3⟩) | q)
    · have := hno.symm.trans (f.ow.oh i _ q); simp at this
    · have := hno.symm.trans (f.ow.oa i _ q q1 q2); simp at this
    · have := hno.symm.trans (f.ow.ol p _ q); simp at this
    · rcases htb s q q1 with ⟨rfl, rfl⟩ | ⟨y0, y⟩
      · simp only [r'] at q3; omega
      · have := hno.symm.trans (f.ow.ot s _ q y q2); simp at this
    · exact absurd (f.ev.xlt _ _ q) (Nat.lt_irrefl _)
  have hrow' : rows (h.push (.cells Vs.toArray T (0, 0))) (Mut E.X G') sz (xs ++ ys) h.size 0 :=
    hrow _ _ _ u.st fun j v hj hv => ⟨by rw [cel_new]; simpa using hv, hnm j hj⟩
  refine ⟨G', ⟨u.ft f.ft (fun t v _ => noL_nil v), u.fl f.fl rfl (fun _ _ _ h => h) (fun p k hp => f.ow.lb_lt hp), ⟨by simp [G', f.fk.kl], fun s m hs => ?_, fun s q hq => ?_⟩, u.hr f.ow f.hr rfl rfl rfl (fun _ h => h.elim), ow', u.ev f.ev f.ow, f.df⟩, ?_⟩
  · simp only [List.getElem?_set] at hs
    by_cases e : t = s
    · subst e
      rw [if_pos rfl] at hs
      split at hs
      · simp at hs; exact ⟨r', by simp [G', List.getElem?_set, htl], by simp only [r']; omega⟩
      · cases hs
    · rw [if_neg e] at hs
      obtain ⟨q, hq, hl⟩ := f.fk.kt s m hs
      exact ⟨q, by simp only [G', List.getElem?_set, if_neg e]; exact hq, hl⟩
  · rcases htb s q hq with ⟨rfl, rfl⟩ | ⟨y0, y⟩
    · simp only [tokR, r']
      exact ⟨trivial, hcap, hpos, .inl (by omega), _, T, hnew, by simp; omega⟩
    · exact tokR_same (f.fk.kr s q y) fun k hk => hold k (f.ow.tb_lt y hk)
  · simp only [ar]
    have hlen : (xs ++ ys).length = xs.length + ys.length := List.length_append
    refine ⟨?_, by simp [G']; exact htl, fun q hq => ?_⟩
    · simp only [rep]
      refine ⟨some ⟨h.size, 0, none⟩, cap, by rw [hlen], by omega, by simp, fun ad h => ?_⟩
      cases h
      exact .inr ⟨rfl, sz, hrow'⟩
    · rcases htb t q hq with ⟨_, rfl⟩ | ⟨y0, _⟩
      · refine ⟨by simp [r'], fun _ => ⟨by simp [r'], fun b' hb' => ?_⟩⟩
        simp only [r'] at hb'
        cases hb'
        exact hrow'
      · exact absurd rfl y0

/-- A block that is new and all the frame's own, nothing of it in use yet. -/
theorem FR.fresh [N0] (f : FR E dm G σ a h) {Vs : List Value} {T cap : Nat} (hVs : Vs.length = cap * 3) :
    ∃ G', FR E dm G' { σ with mem := { σ.mem with toks := σ.mem.toks ++ [some 0] } } a (h.push (.cells Vs.toArray T (0, 0))) ∧
      ar G' (h.push (.cells Vs.toArray T (0, 0))) (Mut E.X G') (.own σ.mem.toks.length []) (.slice (some ⟨h.size, 0, none⟩) 0 cap) := by
  let r' : Tok := ⟨some h.size, some ⟨h.size, 0, none⟩, 0, cap, 3⟩
  let G' : Gh := { G with tb := G.tb ++ [some r'], ow := fun k => if k = h.size then .t G.tb.length else G.ow k }
  have htb : ∀ (k : Nat) (q : Tok), G'.tb[k]? = some (some q) → (k = G.tb.length ∧ q = r') ∨ (k < G.tb.length ∧ G.tb[k]? = some (some q)) := by
    intro k q hk
    simp only [G', List.getElem?_append] at hk
    split at hk
    · rename_i hlt; exact .inr ⟨hlt, hk⟩
    · have : k - G.tb.length = 0 := by
        rcases Nat.eq_zero_or_pos (k - G.tb.length) with e | e
        · exact e
        · rw [List.getElem?_eq_none (by simp; omega)] at hk; cases hk
      rw [this] at hk
      simp at hk
      exact .inl ⟨by omega, hk.symm⟩
  have hmf : ∀ k o, k < h.size → Mf G' k o → Mf G k o := by
    rintro k o hk (⟨p, hp⟩ | ⟨s, q, hq, x1, x2⟩)
    · exact .inl ⟨p, hp⟩
    · rcases htb s q hq with ⟨_, rfl⟩ | ⟨_, y⟩
      · simp only [r'] at x1; cases x1; exact absurd hk (Nat.lt_irrefl _)
      · exact .inr ⟨s, q, y, x1, x2⟩
  have hold : ∀ k, k < h.size → (h.push (.cells Vs.toArray T (0, 0)))[k]? = h[k]? := fun k hk => by rw [Array.getElem?_push_lt hk, ← Array.getElem?_eq_getElem hk]
  have hnew : (h.push (.cells Vs.toArray T (0, 0)))[h.size]? = some (.cells Vs.toArray T (0, 0)) := by simp
  have u : Upd E.X [] (fun _ => False) G h G' (h.push (.cells Vs.toArray T (0, 0))) := by
    refine ⟨NB_push (nf_cells _ _), by simp, fun k hk _ => hold k hk, fun _ h => h.elim, fun k o v e n => ?_, fun k o hk e => e.imp id (hmf k o hk), ⟨fun _ _ h => h, fun _ _ _ h => h, by simp [G'], fun s q hlt hq => ?_, fun j v hv => ⟨v, hv, Nat.le_refl _, fun _ _ h => h⟩⟩⟩
    · refine ⟨by rw [cel_same (hold k (cel_lt e))]; exact e, ?_⟩
      rintro (q | q | q)
      · exact n (.inl q)
      · exact n (.inr (.inl (hmf k o (cel_lt e) q)))
      · exact n (.inr (.inr q))
    · rcases htb s q hq with ⟨e, _⟩ | ⟨_, y⟩
      · omega
      · exact ⟨q, y, Nat.le_refl _, fun _ => rfl⟩
  have hown : ∀ k, G.ow k ≠ .no → G'.ow k = G.ow k := fun k hk => if_neg fun e => hk (by subst e; exact f.ow.fr _ (Nat.le_refl _))
  have ow' : OW G' (h.push (.cells Vs.toArray T (0, 0))) E.X dm := by
    refine ⟨fun j k hj => ?_, fun j k q hq hk => ?_, fun p k hp => ?_, fun s k q hq hk => ?_, fun k hk => ?_, fun k o hx => ?_, fun q hq => ?_⟩
    · rw [hown k (by rw [f.ow.oh j k hj]; simp)]; exact f.ow.oh j k hj
    · rw [hown k (by rw [f.ow.oa j k q hq hk]; simp)]; exact f.ow.oa j k q hq hk
    · rw [hown k (by rw [f.ow.ol p k hp]; simp)]; exact f.ow.ol p k hp
    · rcases htb s q hq with ⟨rfl, rfl⟩ | ⟨_, y⟩
      · simp only [r'] at hk; cases hk; exact if_pos rfl
      · rw [hown k (by rw [f.ow.ot s k q y hk]; simp)]; exact f.ow.ot s k q y hk
    · simp at hk
      have : k ≠ h.size := by omega
      show (if k = h.size then Ow.t G.tb.length else G.ow k) = .no
      rw [if_neg this]; exact f.ow.fr k (by omega)
    · have : k ≠ h.size := Nat.ne_of_lt (f.ev.xlt k o hx)
      show (if k = h.size then Ow.t G.tb.length else G.ow k) = .no
      rw [if_neg this]; exact f.ow.xo k o hx
    · have := ((f.ow.push (.cells Vs.toArray T (0, 0))).dm q hq)
      have hlt : q < h.size := by
        rcases Nat.lt_or_ge q h.size with h1 | h1
        · exact h1
        · have := (f.ow.dm q hq).2; simp [Array.getElem?_eq_none h1] at this
      refine ⟨?_, this.2⟩
      show (if q = h.size then Ow.t G.tb.length else G.ow q) = .no
      rw [if_neg (Nat.ne_of_lt hlt)]; exact this.1
  refine ⟨G', ⟨u.ft f.ft (fun t v _ => noL_nil v), u.fl f.fl rfl (fun _ _ _ h => h) (fun p b e => f.ow.lb_lt e), ⟨by simp [G', f.fk.kl], fun s m hs => ?_, fun s q hq => ?_⟩, u.hr f.ow f.hr rfl rfl rfl (fun _ h => h.elim), ow', u.ev f.ev f.ow, f.df⟩, ?_⟩
  · rw [List.getElem?_append] at hs
    split at hs
    · rename_i hlt
      obtain ⟨q, hq, hl⟩ := f.fk.kt s m hs
      exact ⟨q, by simp only [G', List.getElem?_append_left (show s < G.tb.length by rw [f.fk.kl]; exact hlt)]; exact hq, hl⟩
    · have : s - σ.mem.toks.length = 0 := by
        rcases Nat.eq_zero_or_pos (s - σ.mem.toks.length) with e | e
        · exact e
        · rw [List.getElem?_eq_none (by simp; omega)] at hs; cases hs
      rw [this] at hs
      have hnm : 0 = m := by simpa using hs
      have hst : s = G.tb.length := by rw [f.fk.kl]; omega
      exact ⟨r', by rw [hst]; simp [G'], hnm⟩
  · rcases htb s q hq with ⟨rfl, rfl⟩ | ⟨y0, y⟩
    · simp only [tokR, r']
      exact ⟨trivial, Nat.zero_le _, by decide, .inr trivial, _, T, hnew, by simpa using hVs⟩
    · exact tokR_same (f.fk.kr s q y) fun k hk => hold k (f.ow.tb_lt y hk)
  · simp only [ar]
    refine ⟨?_, by simp [G', f.fk.kl], fun q hq => ?_⟩
    · simp only [rep]
      exact ⟨some ⟨h.size, 0, none⟩, cap, rfl, Nat.zero_le _, by simp, fun ad h => .inl (by first | rfl | trivial)⟩
    · rcases htb _ q hq with ⟨_, rfl⟩ | ⟨y0, _⟩
      · exact ⟨by simp [r'], fun _ => ⟨by simp [r'], fun b' hb' => by simp [rows]⟩⟩
      · rw [← f.fk.kl] at y0; exact absurd y0 (Nat.lt_irrefl _)
end
end Go.Proofs.Ytmmhpmfgcenngaa
/-! Steps of a frame's state: append, as the interpreter says it. -/
set_option linter.unusedVariables false
set_option linter.unusedSimpArgs false
namespace Go.Proofs.Ytmmhpmfgcenngaa
section
variable {E : Ent} {X : Nat → Nat → Prop} {dm ps : List Nat} {G : Gh} {h : Array Obj} {M : Nat → Nat → Prop} {σ : St} {a : Act} {P : Program}

theorem tby_info {t n : Nat} {i : TypeInfo} (hi : P.info? t = some i) (e : tby P t = some n) : i.bytes = n := by simpa [tby, hi] using e
theorem getElem_lt {α : Type} {l : List α} {j : Nat} {u : α} (h : l[j]? = some u) : j < l.length := by
  rcases Nat.lt_or_ge j l.length with k | k
  · exact k
  · simp [List.getElem?_eq_none k] at h

theorem FR.appOwn [N0] {w : World} (f : FR E dm G σ a w.heap) {t : Nat} {xs ys : List Dv} {sz : Nat} {S V : Value} {tt e by_ : Nat} {z : List AV}
    (ht : tslc P tt = some e) (hs : tsz P e = some sz) (hz : tzr P e = some z) (hb : tby P e = some by_) (h0 : 0 < sz) (h128 : by_ ≤ 128) (hzl : z.length = sz)
    (hS : ar G w.heap (Mut E.X G) (.own t xs) S) (hV : rep w.heap (Mut E.X G) (.slc ys) V) {r : OR} {m' : Mem} (happ : appOwn t xs ys sz σ.mem = some (r, m')) (hg : xs = [] → sz = 3 ∨ ∀ r, G.tb[t]? = some (some r) → r.b = none) (ty : Nat) :
    ∃ v V' w' G', r = .v v ∧ (Builtin.append_ #[tt, tt] ty #[S, V]).run P w = .ok V' w' ∧ Io w w' ∧ FR E dm G' { σ with mem := m' } a w'.heap ∧ ar G' w'.heap (Mut E.X G') v V' ∧ ∀ qs, v.noL qs = true := by
  unfold Go.Proofs.Ytmmhpmfgcenngaa.appOwn at happ
  split at happ
  case isFalse => cases happ
  rename_i hc
  obtain ⟨hroom, htok, hwx, hwy⟩ := hc
  cases happ
  obtain ⟨i, hi, rfl⟩ := tsz_info hs
  obtain ⟨i', z', hi', hz', rfl⟩ := tzr_info hz
  obtain rfl : i = i' := by rw [hi] at hi'; simpa using hi'
  obtain rfl := tby_info hi hb
  have hu := tslc_under ht
  obtain ⟨r, hr, hrl⟩ := f.fk.kt t _ htok
  simp only [ar] at hS
  obtain ⟨s1, s2, s3⟩ := hS
  have hO := (s3 r hr).2 hrl
  obtain ⟨hSe, hrows⟩ := hO
  have htr := f.fk.kr t r hr
  simp only [rep] at hV
  obtain ⟨B, c, rfl, hyc, hBn, hBs⟩ := hV
  simp only [rep] at s1
  obtain ⟨A, cap, hSe', hxc, hAn, hAs⟩ := s1
  obtain rfl : A = r.A := by rw [hSe] at hSe'; simp at hSe'; exact hSe'.1.symm
  obtain rfl : cap = r.cap := by rw [hSe] at hSe'; simp at hSe'; exact hSe'.2.symm
  clear hSe'
  subst hSe
  rcases Nat.eq_zero_or_pos ys.length with hy0 | hy
  · obtain rfl : ys = [] := List.eq_nil_of_length_eq_zero hy0
    refine ⟨.own t (xs ++ []), .slice r.A r.len r.cap, w, G, rfl, ?_, Io.rfl, ?_, ?_, fun _ => rfl⟩
    · exact run_append_zero w tt ty e i hu hi r.A B r.len r.cap c (by omega)
    · have : σ.mem.toks.set t (some (xs.length + ([] : List Dv).length)) = σ.mem.toks := by simp only [List.length_nil, Nat.add_zero]; exact set_same _ _ _ htok
      rw [this]; exact f
    · simp only [List.append_nil, ar, rep]
      refine ⟨⟨r.A, r.cap, by rw [hrl], hxc, hAn, hAs⟩, s2, fun q hq => ?_⟩
      obtain rfl : r = q := by
        rw [hr] at hq; simpa using hq
      exact ⟨by omega, fun _ => ⟨rfl, hrows⟩⟩
  · obtain ⟨ad, rfl⟩ : ∃ ad, B = some ad := by
      cases B with
      | none => have := hBn rfl; omega
      | some ad => exact ⟨ad, rfl⟩
    obtain ⟨hsp, sz0, hyr⟩ := (hBs ad rfl).resolve_left (by rintro rfl; simp at hy)
    obtain ⟨b0, o0, sp⟩ := ad
    simp only at hsp hyr
    subst hsp
    have hyne : ys ≠ [] := fun e => by simp [e] at hy
    obtain rfl : sz0 = i.size := rows_size hyr hyne hwy
    obtain ⟨Us, u1, u2, u3⟩ := rows_news ys o0 hyr
    have hnews : ∀ (j : Nat) (u : Value), Us[j]? = some u → w.cell? ((⟨b0, o0, none⟩ : Addr).add j) = some u := fun j u hj => by
      rw [Addr.add_lit, cell_cel]; exact (u2 j u hj).1
    have hone : ∀ u ∈ Us, u.oneCell' = true := fun u hu => by
      obtain ⟨j, hj⟩ := List.mem_iff_getElem?.1 hu
      exact (u2 j u hj).2
    have hbig : (xs.length + ys.length) * i.bytes ≤ 140737488355328 := by
      have h1 : (xs.length + ys.length) * i.bytes ≤ room * 128 := Nat.mul_le_mul hroom h128
      simp only [room] at h1; omega
    have hroom' : xs.length + ys.length ≤ 1099511627776 := hroom
    have hzs : z'.cells.size = i.size := by simpa using hzl
    by_cases hfit : xs.length + ys.length ≤ r.cap
    · obtain ⟨b, hbb⟩ : ∃ b, r.b = some b := by
        cases hbb : r.b with
        | none => simp only [tokR, hbb] at htr; omega
        | some b => exact ⟨b, rfl⟩
      simp only [tokR, hbb] at htr
      obtain ⟨hA, _, hpos, hpl, Vs, T, hcl, hVs⟩ := htr
      have hrs : r.sz = i.size := by
        by_cases hxe : xs = []
        · rcases hg hxe with h3 | h3
          · have hl0 : r.len = 0 := by rw [hrl, hxe]; rfl
            have := hpl.resolve_left (by omega)
            omega
          · have := h3 r hr; rw [this] at hbb; cases hbb
        · exact rows_size (hrows b hbb) hxe hwx
      have hmul : xs.length * i.size + ys.length * i.size ≤ Vs.size := by rw [hVs, hrs, ← Nat.add_mul]; exact Nat.mul_le_mul_right _ hfit
      have hrun := run_append_fit (P := P) w tt ty e T i hu hi b r.len r.cap Vs hcl ⟨b0, o0, none⟩ ys.length c Us u1 hnews hone (by omega) (by rw [u1, hrl]; exact hmul)
      obtain ⟨G', q1, q2⟩ := f.grow1 (Us := Us) (Vs := Vs.toList) (T := T) (ys := ys) hr hbb hrl hy ⟨rfl, hrows⟩ (by simpa using hcl) (by simpa using hVs) hfit hA hpos (by rw [hrs]; exact u1)
        (fun h' M' b' o' st hc => by rw [hrs]; exact u3 h' M' b' o' st hc)
      rw [hA, hrun]
      rw [hrl, ← hrs]
      exact ⟨_, _, _, G', rfl, rfl, ⟨rfl, rfl⟩, q1, q2, fun _ => rfl⟩
    · have hfin : ∀ (olds : List Value) (old : Nat), olds.length = xs.length * i.size →
          (∀ (h' : Array Obj) (M' : Nat → Nat → Prop) (b' o' : Nat), Stay w.heap (Mut E.X G) h' M' → (∀ (j : Nat) (u : Value), olds[j]? = some u → cel h' b' (o' + j) = some u ∧ ¬ M' b' (o' + j)) → rows h' M' i.size xs b' o') →
          ∃ G', FR E dm G' { σ with mem := { σ.mem with toks := σ.mem.toks.set t (some (xs.length + ys.length)) } } a (w.heap.push (.cells (olds.toArray ++ Us.toArray ++ Builtin.zeroCells z'.cells (grownCap w (xs.length + ys.length) old e - (xs.length + ys.length))) e (0, 0))) ∧
            ar G' (w.heap.push (.cells (olds.toArray ++ Us.toArray ++ Builtin.zeroCells z'.cells (grownCap w (xs.length + ys.length) old e - (xs.length + ys.length))) e (0, 0))) (Mut E.X G') (.own t (xs ++ ys)) (.slice (some ⟨w.heap.size, 0, none⟩) (xs.length + ys.length) (grownCap w (xs.length + ys.length) old e)) := by
        intro olds old ho hmv
        have hge := grownCap_ge w (xs.length + ys.length) old e
        generalize grownCap w (xs.length + ys.length) old e = cp at hge ⊢
        have hVl : (olds ++ Us ++ (Builtin.zeroCells z'.cells (cp - (xs.length + ys.length))).toList).length = cp * i.size := by
          simp only [List.length_append, Array.length_toList, size_zeroCells, hzs, ho, u1, ← Nat.add_mul]
          congr 1; omega
        have := f.grow2 (Vs := olds ++ Us ++ (Builtin.zeroCells z'.cells (cp - (xs.length + ys.length))).toList) (T := e) (sz := i.size) (cap := cp) hr hrl hy hVl hge h0 (fun h' M' b st hc => by
          refine rows_append xs ys b 0 (hmv h' M' b 0 st fun j u hj => ?_) (u3 h' M' b _ st fun j u hj => ?_)
          · have hjl := getElem_lt hj
            rw [Nat.zero_add]
            refine hc j u (by rw [Nat.add_mul]; omega) ?_
            rw [List.append_assoc, List.getElem?_append_left hjl]; exact hj
          · have hjl := getElem_lt hj
            rw [Nat.zero_add]
            refine hc _ u (by rw [Nat.add_mul]; omega) ?_
            rw [List.append_assoc, List.getElem?_append_right (by omega), List.getElem?_append_left (by omega), show xs.length * i.size + j - olds.length = j by omega]; exact hj)
        have he : (olds ++ Us ++ (Builtin.zeroCells z'.cells (cp - (xs.length + ys.length))).toList).toArray = olds.toArray ++ Us.toArray ++ Builtin.zeroCells z'.cells (cp - (xs.length + ys.length)) := by simp
        rw [he] at this
        exact this
      cases hA : r.A with
      | none =>
        have hc0 := hAn hA
        have hx0 : xs = [] := List.eq_nil_of_length_eq_zero (by omega)
        have hl0 : r.len = 0 := by rw [hrl, hx0]; rfl
        have hrun := run_append_nil (P := P) w tt ty e i z' hu hi hz' ⟨b0, o0, none⟩ ys.length c Us u1 hnews hy (by omega) (by subst hx0; simp only [List.length_nil, Nat.zero_add] at hbig; omega)
        obtain ⟨G', q1, q2⟩ := hfin [] 0 (by simp [hx0]) (fun _ _ _ _ _ _ => by subst hx0; simp [rows])
        rw [hc0, hl0, hrun]
        subst hx0
        simp only [List.length_nil, Nat.zero_add, Array.empty_append, List.nil_append] at q1 q2 ⊢
        exact ⟨_, _, _, G', rfl, rfl, ⟨rfl, rfl⟩, q1, q2, fun _ => rfl⟩
      | some ad =>
        obtain ⟨olds, ho1, ho2, ho3⟩ : ∃ olds : List Value, olds.length = xs.length * i.size ∧ (∀ (j : Nat) (u : Value), olds[j]? = some u → w.cell? (ad.add j) = some u ∧ u.oneCell' = true) ∧
            (∀ (h' : Array Obj) (M' : Nat → Nat → Prop) (b' o' : Nat), Stay w.heap (Mut E.X G) h' M' → (∀ (j : Nat) (u : Value), olds[j]? = some u → cel h' b' (o' + j) = some u ∧ ¬ M' b' (o' + j)) → rows h' M' i.size xs b' o') := by
          rcases hAs ad hA with hx | ⟨hsp, sz1, hxr⟩
          · subst hx; exact ⟨[], by simp, by simp, fun _ _ _ _ _ _ => by simp [rows]⟩
          · by_cases hx : xs = []
            · subst hx; exact ⟨[], by simp, by simp, fun _ _ _ _ _ _ => by simp [rows]⟩
            · obtain ⟨b1, o1, sp⟩ := ad
              simp only at hsp hxr
              subst hsp
              obtain rfl : sz1 = i.size := rows_size hxr hx hwx
              obtain ⟨olds, q1, q2, q3⟩ := rows_news xs o1 hxr
              exact ⟨olds, q1, fun j u hj => ⟨by rw [Addr.add_lit, cell_cel]; exact (q2 j u hj).1, (q2 j u hj).2⟩, q3⟩
        have hrun := run_append_grow (P := P) w tt ty e i z' hu hi hz' ad r.len r.cap olds (by rw [ho1, hrl]) (fun j u hj => (ho2 j u hj).1) ⟨b0, o0, none⟩ ys.length c Us u1 hnews
          (by omega) (by omega) (growslice_fits (by omega) (by rw [hrl]; exact hbig))
        obtain ⟨G', q1, q2⟩ := hfin olds r.cap ho1 ho3
        rw [hrun, hrl]
        exact ⟨_, _, _, G', rfl, rfl, ⟨rfl, rfl⟩, q1, q2, fun _ => rfl⟩

/-- Append, of all that may grow. -/
theorem FR.app [N0] {w : World} (f : FR E dm G σ a w.heap) {s : AV} {ys : List Dv} {sz : Nat} {S V : Value} {tt e by_ : Nat} {z : List AV}
    (ht : tslc P tt = some e) (hs : tsz P e = some sz) (hz : tzr P e = some z) (hb : tby P e = some by_) (h0 : 0 < sz) (h128 : by_ ≤ 128) (hzl : z.length = sz)
    (hS : ar G w.heap (Mut E.X G) s S) (hV : rep w.heap (Mut E.X G) (.slc ys) V) {r : OR} {m' : Mem} (happ : mApp s ys sz σ.mem = some (r, m')) (ty : Nat) :
    ∃ v V' w' G', r = .v v ∧ (Builtin.append_ #[tt, tt] ty #[S, V]).run P w = .ok V' w' ∧ Io w w' ∧ FR E dm G' { σ with mem := m' } a w'.heap ∧ ar G' w'.heap (Mut E.X G') v V' ∧ ∀ qs, v.noL qs = true := by
  cases s with
  | own t xs =>
    simp only [mApp] at happ
    split at happ
    · cases happ
    · rename_i hgd
      refine f.appOwn ht hs hz hb h0 h128 hzl hS hV happ (fun e => .inl ?_) ty
      subst e
      simpa using hgd
  | clip xs =>
    simp only [mApp] at happ
    split at happ
    · rename_i hgd
      cases happ
      simp only [Bool.and_eq_true, List.isEmpty_iff] at hgd
      obtain ⟨⟨rfl, rfl⟩, _⟩ := hgd
      have hS' := hS
      simp only [ar] at hS'
      obtain ⟨s1, A, rfl⟩ := hS'
      simp only [rep] at hV
      obtain ⟨B, c, rfl, hyc, _, _⟩ := hV
      obtain ⟨i, hi, rfl⟩ := tsz_info hs
      exact ⟨.clip [], _, w, G, rfl, run_append_zero w tt ty e i (tslc_under ht) hi A B 0 0 c (Nat.le_refl _), Io.rfl, f, hS, fun _ => rfl⟩
    split at happ
    case isFalse => cases happ
    rename_i hxe
    have hx0 : xs.length = 0 := by simpa using hxe
    simp only [ar] at hS
    obtain ⟨s1, A, rfl⟩ := hS
    obtain ⟨G', f', t1, t2, st⟩ := f.tight A xs.length hx0
    refine f'.appOwn (t := σ.mem.toks.length) (xs := xs) ht hs hz hb h0 h128 hzl ?_ (rep_stay st _ _ hV) happ (fun _ => .inr fun q hq => ?_) ty
    rotate_left
    · rw [t1] at hq
      obtain rfl : (⟨none, A, xs.length, xs.length, 1⟩ : Tok) = q := by simpa using hq
      rfl
    simp only [ar]
    refine ⟨rep_stay st _ _ s1, t2, fun q hq => ?_⟩
    rw [t1] at hq
    obtain rfl : (⟨none, A, xs.length, xs.length, 1⟩ : Tok) = q := by simpa using hq
    exact ⟨Nat.le_refl _, fun _ => ⟨rfl, by simp⟩⟩
  | hc i ver xs =>
    simp only [mApp] at happ
    split at happ
    · rename_i ver' zs hh
      split at happ
      · rename_i hcc
        obtain ⟨rfl, hlen, hgd⟩ := hcc
        simp only [ar] at hS
        obtain ⟨s1, _, s3⟩ := hS
        obtain ⟨G', r0, f', k1, k2, k3, t1, t2, st⟩ := f.claim i hh
        obtain ⟨o1, o2⟩ := s3 r0 k1 k2
        have happ' : Go.Proofs.Ytmmhpmfgcenngaa.appOwn σ.mem.toks.length xs ys sz { σ.mem with toks := σ.mem.toks ++ [some zs.length], heap := σ.mem.heap.set i (.var ver' [.d (.slc zs)]) } = some (r, m') := by rw [← hlen]; exact happ
        refine f'.appOwn (t := σ.mem.toks.length) (xs := xs) ht hs hz hb h0 h128 hzl ?_ (rep_stay st _ _ hV) happ' (fun e => .inl (by subst e; simpa using hgd)) ty
        simp only [ar]
        refine ⟨rep_stay st _ _ s1, t2, fun q hq => ?_⟩
        rw [t1] at hq
        obtain rfl : r0 = q := by simpa using hq
        exact ⟨by omega, fun _ => own1_stay st o1⟩
      · cases happ
    · cases happ
  | _ => cases happ
end
end Go.Proofs.Ytmmhpmfgcenngaa
/-! A frame and what it calls: what it hands over, what it gets back. -/
set_option linter.unusedVariables false
set_option linter.unusedSimpArgs false
namespace Go.Proofs.Ytmmhpmfgcenngaa

section
variable {E : Ent} {X X' : Nat → Nat → Prop} {dm ps : List Nat} {G G' : Gh} {h h' : Array Obj} {M M' : Nat → Nat → Prop} {σ : St} {a : Act} {P : Program}

mutual
/-- What is pure and still leads to no variable. -/
theorem ar_pure (st : Stay h M h' M') : ∀ (v : AV) (V : Value), v.pure = true → v.still = true → ar G h M v V → ar G' h' M' v V
  | .d x, V, _, _, e => rep_stay st x V e
  | .own t xs, V, _, hs, e => by simp [AV.still] at hs
  | .clip xs, V, _, _, e => by
    simp only [ar] at e ⊢
    exact ⟨rep_stay st _ _ e.1, e.2⟩
  | .kn K xs, V, _, _, e => by
    simp only [ar] at e ⊢
    exact ⟨rep_stay st _ _ e.1, e.2⟩
  | .hc i w xs, V, _, hs, e => by simp [AV.still] at hs
  | .hown xs, V, _, hs, e => by simp [AV.still] at hs
  | .lref p o, V, hp, _, e => by simp [AV.pure] at hp
  | .href p o, V, hp, _, e => by simp [AV.pure] at hp
  | .eptr cs, V, hp, _, e => by simp [AV.pure] at hp
  | .kp K d cs, V, hp, _, e => by simp [AV.pure] at hp
  | .fn f x y, V, hp, hs, e => by
    simp only [ar] at e ⊢
    simp only [AV.still, AV.pure, Bool.and_eq_true] at hs hp
    obtain ⟨Fs, Cs, e1, e2, e3, e4, e5⟩ := e
    exact ⟨Fs, Cs, e1, e2, e3, ars_pure st x Fs hp.1 hs.1 e4, ars_pure st y Cs hp.2 hs.2 e5⟩
  | .yld i, V, hp, _, e => by simp [AV.pure] at hp
  | .tup vs, V, hp, hs, e => by
    simp only [ar] at e ⊢
    simp only [AV.still, AV.pure] at hs hp
    obtain ⟨Vs, e1, e2, e3⟩ := e
    exact ⟨Vs, e1, e2, ars_pure st vs Vs hp hs e3⟩
  | .arr vs, V, hp, hs, e => by
    simp only [ar] at e ⊢
    simp only [AV.still, AV.pure] at hs hp
    obtain ⟨Vs, e1, e2, e3, e4⟩ := e
    exact ⟨Vs, e1, e2, ars_pure st vs Vs hp hs e3, e4⟩
  | .iface t x, V, _, _, e => by
    simp only [ar] at e ⊢
    obtain ⟨U, e1, e2⟩ := e
    exact ⟨U, e1, rep_stay st x U e2⟩
  | .raw U, V, _, _, e => e
  | .undef, V, _, _, e => by simp [ar]
theorem ars_pure (st : Stay h M h' M') : ∀ (vs : List AV) (Vs : List Value), pureL vs = true → stillL vs = true → ars G h M vs Vs → ars G' h' M' vs Vs
  | [], Vs, _, _, e => e
  | v :: vs, Vs, hp, hs, e => by
    simp only [stillL, pureL, Bool.and_eq_true] at hs hp
    simp only [ars] at e ⊢
    obtain ⟨V, Vs', e1, e2, e3⟩ := e
    exact ⟨V, Vs', e1, ar_pure st v V hp.1 hs.1 e2, ars_pure st vs Vs' hp.2 hs.2 e3⟩
end
mutual
theorem pure_ok : ∀ (v : AV), v.pure = true → v.okA = true
  | .d x, e => rfl
  | .own t xs, e => rfl
  | .clip xs, e => rfl
  | .kn K xs, e => rfl
  | .hc i w xs, e => rfl
  | .hown xs, e => by simp [AV.pure] at e
  | .lref p o, e => by simp [AV.pure] at e
  | .href p o, e => rfl
  | .eptr cs, e => by simp [AV.pure] at e
  | .kp K d cs, e => by simp [AV.pure] at e
  | .fn f x y, e => by simp only [AV.pure, AV.okA, Bool.and_eq_true] at e ⊢; exact ⟨pures_ok x e.1, pures_ok y e.2⟩
  | .yld i, e => rfl
  | .tup vs, e => by simp only [AV.pure, AV.okA] at e ⊢; exact pures_ok vs e
  | .arr vs, e => by simp only [AV.pure, AV.okA] at e ⊢; exact pures_ok vs e
  | .iface t x, e => rfl
  | .raw U, e => rfl
  | .undef, e => by simp [AV.pure] at e
theorem pures_ok : ∀ (vs : List AV), pureL vs = true → okL vs = true
  | [], e => rfl
  | v :: vs, e => by simp only [pureL, okL, Bool.and_eq_true] at e ⊢; exact ⟨pure_ok v e.1, pures_ok vs e.2⟩
end
mutual
theorem erase_pure : ∀ (v : AV), v.pure = true → v.erase.pure = true
  | .d x, e => rfl
  | .own t xs, e => rfl
  | .clip xs, e => rfl
  | .kn K xs, e => rfl
  | .hc i w xs, e => rfl
  | .hown xs, e => rfl
  | .lref p o, e => e
  | .href p o, e => e
  | .eptr cs, e => e
  | .kp K d cs, e => by simp [AV.pure] at e
  | .fn f x y, e => by simp only [AV.pure, AV.erase, Bool.and_eq_true] at e ⊢; exact ⟨erases_pure x e.1, erases_pure y e.2⟩
  | .yld i, e => e
  | .tup vs, e => by simp only [AV.pure, AV.erase] at e ⊢; exact erases_pure vs e
  | .arr vs, e => by simp only [AV.pure, AV.erase] at e ⊢; unfold aggOf; split; rfl; exact erases_pure vs e
  | .iface t x, e => rfl
  | .raw U, e => rfl
  | .undef, e => e
theorem erases_pure : ∀ (vs : List AV), pureL vs = true → pureL (eraseL vs) = true
  | [], e => rfl
  | v :: vs, e => by simp only [pureL, eraseL, Bool.and_eq_true] at e ⊢; exact ⟨erase_pure v e.1, erases_pure vs e.2⟩
end
/-- What a range over a function keeps of a slot. -/
theorem clr_ar {v : AV} {V : Value} (e : ar G h M v V) : ar G h M v.clr V ∧ v.clr.stillK = true := by
  cases v with
  | lref p o => simp [AV.clr, ar, AV.stillK]
  | eptr cs => simpa [AV.clr, AV.erase, AV.stillK] using e
  | kp K d cs => exact ⟨erase_ar _ _ e, rfl⟩
  | undef => simp [AV.clr, AV.erase, AV.stillK, ar]
  | hown xs => simp [ar] at e
  | fn f x y =>
    have hk : (AV.fn f x y).okA = true := by simp only [ar] at e; obtain ⟨_, _, _, e2, e3, _⟩ := e; simp [AV.okA, e2, e3]
    exact ⟨erase_ar _ _ e, erase_still _ hk⟩
  | tup vs =>
    have hk : (AV.tup vs).okA = true := by simp only [ar] at e; obtain ⟨_, _, e2, _⟩ := e; simp [AV.okA, e2]
    exact ⟨erase_ar _ _ e, erase_still _ hk⟩
  | arr vs =>
    have hk : (AV.arr vs).okA = true := by simp only [ar] at e; obtain ⟨_, _, e2, _⟩ := e; simp [AV.okA, e2]
    have hs := erase_still _ hk
    refine ⟨erase_ar _ _ e, ?_⟩
    show (AV.arr vs).erase.stillK = true
    revert hs
    cases (AV.arr vs).erase <;> simp [AV.stillK, AV.still]
  | _ => exact ⟨erase_ar _ _ e, erase_still _ rfl⟩
theorem stillK_ar (st : Stay h M h' M') (hb : ∀ i b : Nat, G.hb[i]? = some b → G'.hb[i]? = some b) {v : AV} {V : Value} (hk : v.stillK = true) (e : ar G h M v V) : ar G' h' M' v V := by
  cases v with
  | undef => simp [ar]
  | eptr cs =>
    simp only [ar] at e ⊢
    obtain ⟨b, o, Vs, e1, e2, e3⟩ := e
    exact ⟨b, o, Vs, e1, reps_stay st cs Vs e2, fun j v hj => let ⟨p, q⟩ := e3 j v hj; st _ _ _ p q⟩
  | _ => exact ar_still st hb _ _ (by simpa [AV.stillK] using hk) e
theorem stillKs_ar (st : Stay h M h' M') (hb : ∀ i b : Nat, G.hb[i]? = some b → G'.hb[i]? = some b) : ∀ (vs : List AV) (Vs : List Value), vs.all AV.stillK = true → ars G h M vs Vs → ars G' h' M' vs Vs
  | [], Vs, _, e => e
  | v :: vs, Vs, hk, e => by
    simp only [List.all_cons, Bool.and_eq_true] at hk
    simp only [ars] at e ⊢
    obtain ⟨V, Vs', e1, e2, e3⟩ := e
    exact ⟨V, Vs', e1, stillK_ar st hb hk.1 e2, stillKs_ar st hb vs Vs' hk.2 e3⟩

/-- Shared variables, seen from another frame. -/
theorem objR_same (st : Stay h M h' M') (e1 : G'.hb = G.hb) (e2 : G'.hv = G.hv) (e3 : G'.ha = G.ha) {i : Nat} {o : HO} (hs : ∀ b, G.hb[i]? = some b → h'[b]? = h[b]?)
    (hT : ∀ (b : Nat) (r : Tok), G.ha[i]? = some (some r) → r.b = some b → h'[b]? = h[b]?) (e : objR G h M i o) : objR G' h' M' i o := by
  have hb : ∀ i b : Nat, G.hb[i]? = some b → G'.hb[i]? = some b := fun i b h => by rw [e1]; exact h
  cases o with
  | var ver cs =>
    simp only [objR] at e ⊢
    obtain ⟨b, k1, k2, Vs, T, k3, k4⟩ := e
    refine ⟨b, hb _ _ k1, by rw [e2]; exact k2, Vs, T, by rw [hs b k1]; exact k3, ?_⟩
    rcases k4 with ⟨xs, r, q1, q2, q3, q4, q5, q6, q7⟩ | ⟨q1, q2, q3, q4⟩
    · exact .inl ⟨xs, r, q1, q2, by rw [e3]; exact q3, q4, rep_stay st _ _ q5, tokR_same q6 fun b hb => hT b r q3 hb, own1_stay st q7⟩
    · exact .inr ⟨by rw [e3]; exact q1, ars_still st hb cs Vs q3 q2, q3, q4⟩
  | loop s pend L =>
    simp only [objR] at e ⊢
    obtain ⟨b, k1, k2, k3, k4, Ts, D, fn', k5, k6⟩ := e
    exact ⟨b, hb _ _ k1, by rw [e3]; exact k2, k3, k4, Ts, D, fn', by rw [hs b k1]; exact k5, stillKs_ar st hb _ _ k3 k6⟩
  | dead =>
    simp only [objR] at e ⊢
    obtain ⟨b, k1, k2, L, k3⟩ := e
    exact ⟨b, hb _ _ k1, by rw [e3]; exact k2, L, by rw [hs b k1]; exact k3⟩
theorem HR.same [N0] {heap : List HO} (st : Stay h M h' M') (e1 : G'.hb = G.hb) (e2 : G'.hv = G.hv) (e3 : G'.ha = G.ha) (hs : ∀ (i b : Nat), G.hb[i]? = some b → h'[b]? = h[b]?)
    (hT : ∀ (i b : Nat) (r : Tok), G.ha[i]? = some (some r) → r.b = some b → h'[b]? = h[b]?) (f : HR G h M heap) : HR G' h' M' heap :=
  ⟨by rw [e1]; exact f.lb, by rw [e2]; exact f.lv, by rw [e3]; exact f.la, fun i o ho => objR_same st e1 e2 e3 (fun b hb => hs i b hb) (fun b r hr hb => hT i b r hr hb) (f.ob i o ho)⟩

/-- What belongs to the shared variables alone. -/
def shr (G : Gh) : Gh := { G with lb := [], tb := [], ow := fun b => match G.ow b with
  | .h i => .h i
  | .a i => .a i
  | _ => .no }
/-- What a frame's callees must not rely on. -/
def hid (E : Ent) (G : Gh) (dm : List Nat) (b off : Nat) : Prop := E.X b off ∨ Mf G b off ∨ b ∈ dm
def nogh : Gh := { ow := fun _ => .no, hb := [], hv := [], ha := [], lb := [], tb := [] }
def hidP (E : Ent) (G : Gh) (dm : List Nat) (b off : Nat) : Prop := Mut E.X G b off ∨ b ∈ dm

theorem Mf_nil {b off : Nat} (h1 : G.lb = []) (h2 : G.tb = []) : ¬ Mf G b off := by
  rintro (⟨p, e⟩ | ⟨t, r, e, _⟩)
  · rw [h1] at e; simp at e
  · rw [h2] at e; simp at e
theorem dm_cel (ow : OW G h X dm) {b off : Nat} {v : Value} (e : cel h b off = some v) : b ∉ dm := fun hb => by
  have := (ow.dm b hb).2
  simp [cel, this] at e

/-- At a call's entry: shared variables, values handed over. -/
structure CE [N0] (X : Nat → Nat → Prop) (G : Gh) (h : Array Obj) (args : List AV) (As : List Value) (heap : List HO) : Prop where
  nb : NB h
  es : N0.n0 ≤ h.size
  em : ∀ b off : Nat, Mh G b off → N0.n0 ≤ b
  hr : HR G h (Mut X G) heap
  ow : OW G h X []
  xl : ∀ b off, X b off → b < h.size
  st : stillL args = true
  ag : ars G h (Mut X G) args As
  lb : G.lb = []
  tb : G.tb = []
def CRel (X : Nat → Nat → Prop) (G : Gh) (h : Array Obj) (e : Ending) : CR → Prop
  | .ret v => v.still = true ∧ ∃ V, e = .returned V ∧ ar G h (Mut X G) v V
  | .pan x => x.still = true ∧ x.pure = true ∧ ∃ V, e = .panicked [{ v := V, recovered := false }] ∧ ar G h (Mut X G) x V
/-- At its end. -/
def CQ [N0] (X : Nat → Nat → Prop) (G : Gh) (w : World) (cr : CR) (heap' : List HO) (e : Ending) (w' : World) : Prop :=
  Io w w' ∧ ∃ G', G'.lb = [] ∧ G'.tb = [] ∧ HR G' w'.heap (Mut X G') heap' ∧ OW G' w'.heap X [] ∧ EV { h0 := w.heap, G0 := G, X := X } G' w'.heap ∧ CRel X G' w'.heap e cr

theorem shr_Mf (b off : Nat) : ¬ Mf (shr G) b off := Mf_nil rfl rfl
theorem hid_stay [N0] (f : FR E dm G σ a h) : Stay h (Mut E.X G) h (Mut (hid E G dm) (shr G)) := fun b o v e n => ⟨e, by
  rintro (q | q | q | q | q)
  · exact n (.inl q)
  · exact shr_Mf _ _ q
  · exact n (.inr (.inr q))
  · exact n (.inr (.inl q))
  · exact dm_cel f.ow e q⟩
theorem shr_ow [N0] (f : OW G h X dm) (hX : ∀ b off, X' b off → (∀ i, G.ow b ≠ .h i) ∧ ∀ i, G.ow b ≠ .a i) : OW (shr G) h X' [] := by
  refine ⟨fun i b hb => by simp [shr, f.oh i b hb], fun i b r hr hb => by simp [shr, f.oa i b r hr hb], fun p b hp => by simp [shr] at hp, fun t b r hr hb => by simp [shr] at hr, fun b hb => by simp [shr, f.fr b hb], fun b off hx => ?_, by simp⟩
  have := hX b off hx
  simp only [shr]
  split
  · rename_i i h; exact absurd h (this.1 i)
  · rename_i i h; exact absurd h (this.2 i)
  · rfl
theorem FR.ne_h [N0] (f : FR E dm G σ a h) {b off : Nat} (e : hid E G dm b off) : (∀ i, G.ow b ≠ .h i) ∧ ∀ i, G.ow b ≠ .a i := by
  rcases e with e | (⟨p, e⟩ | ⟨t, r, e, e2, _⟩) | e
  · rw [f.ow.xo b off e]; simp
  · rw [f.ow.ol p b e]; simp
  · rw [f.ow.ot t b r e e2]; simp
  · rw [(f.ow.dm b e).1]; simp
theorem dm_lt (ow : OW G h X dm) {b : Nat} (e : b ∈ dm) : b < h.size := by
  rcases Nat.lt_or_ge b h.size with h1 | h1
  · exact h1
  · have := (ow.dm b e).2; simp [Array.getElem?_eq_none h1] at this
theorem FR.hid_lt [N0] (f : FR E dm G σ a h) {b off : Nat} (e : hid E G dm b off) : b < h.size := by
  rcases e with e | e | e
  · exact f.ev.xlt b off e
  · exact Mut_lt f.ow f.ev.xlt (.inr (.inl e))
  · exact dm_lt f.ow e
/-- What a frame owns is new. -/
theorem FR.own_new [N0] (f : FR E dm G σ a h) {b off : Nat} (e : Mh G b off ∨ Mf G b off) : N0.n0 ≤ b := by
  rcases Nat.lt_or_ge b E.h0.size with h1 | h1
  · exact f.ev.em b off (f.ev.mu b off h1 e)
  · exact Nat.le_trans f.ev.es h1
/-- What a frame hands over. -/
theorem FR.out [N0] (f : FR E dm G σ a h) {args : List AV} {As : List Value} (hs : stillL args = true) (ha : ars G h (Mut E.X G) args As) : CE (hid E G dm) (shr G) h args As σ.mem.heap where
  nb := f.ev.nb
  es := Nat.le_trans f.ev.es f.ev.sz
  em := fun b off e => f.own_new (off := off) (.inl e)
  hr := HR.same (G := G) (G' := shr G) (hid_stay f) rfl rfl rfl (fun _ _ _ => rfl) (fun _ _ _ _ _ => rfl) f.hr
  ow := shr_ow f.ow fun b off e => f.ne_h e
  xl := fun b off e => f.hid_lt e
  st := hs
  ag := ars_still (G := G) (G' := shr G) (hid_stay f) (fun _ _ h => h) _ _ hs ha
  lb := rfl
  tb := rfl
theorem hidP_lt [N0] (f : FR E dm G σ a h) {b off : Nat} (e : hidP E G dm b off) : b < h.size := by
  rcases e with e | e
  · exact Mut_lt f.ow f.ev.xlt e
  · exact dm_lt f.ow e
theorem hidP_stay [N0] (f : FR E dm G σ a h) : Stay h (Mut E.X G) h (Mut (hidP E G dm) nogh) := fun b o v e n => ⟨e, by
  rintro ((⟨i, q⟩ | ⟨i, r, q, _⟩) | q | q | q)
  · simp [nogh] at q
  · simp [nogh] at q
  · exact Mf_nil (G := nogh) rfl rfl q
  · exact n q
  · exact dm_cel f.ow e q⟩
theorem FR.outP [N0] (f : FR E dm G σ a h) {args : List AV} {As : List Value} (hp : pureL args = true) (hs : stillL args = true) (ha : ars G h (Mut E.X G) args As) : CE (hidP E G dm) nogh h args As [] where
  nb := f.ev.nb
  es := Nat.le_trans f.ev.es f.ev.sz
  em := fun b off e => by rcases e with ⟨i, q⟩ | ⟨i, r, q, _⟩ <;> simp [nogh] at q
  hr := ⟨rfl, rfl, rfl, fun i o h => by simp at h⟩
  ow := ⟨fun i b h => by simp [nogh] at h, fun i b r h => by simp [nogh] at h, fun i b h => by simp [nogh] at h, fun i b r h => by simp [nogh] at h, fun _ _ => rfl, fun _ _ _ => rfl, by simp⟩
  xl := fun b off e => hidP_lt f e
  st := hs
  ag := ars_pure (G := G) (hidP_stay f) _ _ hp hs ha
  lb := rfl
  tb := rfl

/-- Back from a call that led to shared variables. -/
def priv (G : Gh) (b : Nat) : Prop := (∃ p : Nat, G.lb[p]? = some (some b)) ∨ ∃ (t : Nat) (r : Tok), G.tb[t]? = some (some r) ∧ r.b = some b
open Classical in
noncomputable def mix (G G' : Gh) : Gh := { G' with lb := G.lb, tb := G.tb, ow := fun b => if priv G b then G.ow b else G'.ow b }
theorem priv_hid {b : Nat} (e : priv G b) : ∃ off, hid E G dm b off := by
  rcases e with ⟨p, e⟩ | ⟨t, r, e, e2⟩
  · exact ⟨0, .inr (.inl (.inl ⟨p, e⟩))⟩
  · exact ⟨r.len * r.sz, .inr (.inl (.inr ⟨t, r, e, e2, Nat.le_refl _⟩))⟩
theorem FR.back [N0] (f : FR E dm G σ a h) {heap' : List HO} (hr : HR G' h' (Mut (hid E G dm) G') heap') (ow : OW G' h' (hid E G dm) []) (ev : EV { h0 := h, G0 := shr G, X := hid E G dm } G' h') (hl : G'.lb = []) (ht : G'.tb = []) :
    FR E dm (mix G G') { σ with mem := { σ.mem with heap := heap' } } a h' ∧ Stay h' (Mut (hid E G dm) G') h' (Mut E.X (mix G G')) := by
  have hmut : ∀ b o, Mut E.X (mix G G') b o → Mut (hid E G dm) G' b o := by
    rintro b o (q | q | q)
    · exact .inl q
    · exact .inr (.inr (.inr (.inl q)))
    · exact .inr (.inr (.inl q))
  have st' : Stay h' (Mut (hid E G dm) G') h' (Mut E.X (mix G G')) := fun b o v e n => ⟨e, fun q => n (hmut b o q)⟩
  have hnh : ∀ b, ((∀ i, G.ow b ≠ .h i) ∧ ∀ i, G.ow b ≠ .a i) → ∀ off, ¬ Mh (shr G) b off := by
    rintro b ⟨h1, h2⟩ off (⟨i, q⟩ | ⟨i, r, q, q2, _⟩)
    · exact h1 i (f.ow.oh i b q)
    · exact h2 i (f.ow.oa i b r q q2)
  have hlt : ∀ b off, hid E G dm b off → h'[b]? = h[b]? := fun b off e => ev.bl b (f.hid_lt e) (hnh b (f.ne_h e))
  have u : Upd E.X [] (fun b => ∃ off, Mh G b off) G h (mix G G') h' := by
    refine ⟨fun _ => ev.nb, ev.sz, fun b hb hn => ev.bl b hb fun off q => hn ⟨off, q⟩, fun b ⟨off, q⟩ => ⟨?_, off, .inl q⟩, fun b o v e n => ⟨?_, ?_⟩, fun b o hb e => ?_, ⟨fun i b hb => ev.hb i b hb, fun _ _ _ h => h, Nat.le_refl _, fun t r _ h => ⟨r, h, Nat.le_refl _, fun _ => rfl⟩, fun i v hv => ev.hv i v hv⟩⟩
    · rcases q with ⟨i, q⟩ | ⟨i, r, q, q2, _⟩
      · rw [f.ow.oh i b q]; simp
      · rw [f.ow.oa i b r q q2]; simp
    · exact ev.ce b o v (fun q => n (.inl q)) e
    · rintro (q | q | q)
      · exact n (.inl (ev.mu b o (cel_lt e) (.inl q)))
      · exact n (.inr (.inl q))
      · exact n (.inr (.inr q))
    · rcases e with q | q
      · exact .inl (ev.mu b o hb (.inl q))
      · exact .inr q
  have hnp : ∀ b, G'.ow b ≠ .no → (mix G G').ow b = G'.ow b := fun b hb => if_neg fun q => by
    obtain ⟨off, q⟩ := priv_hid (E := E) (dm := dm) q
    exact hb (ow.xo b off q)
  have hpp : ∀ b, priv G b → (mix G G').ow b = G.ow b := fun b hb => if_pos hb
  have ow' : OW (mix G G') h' E.X dm := by
    refine ⟨fun i b hb => ?_, fun i b r hr hb => ?_, fun p b hp => ?_, fun t b r hr hb => ?_, fun b hb => ?_, fun b off hx => ?_, fun r hr => ?_⟩
    · have := ow.oh i b hb
      rw [hnp b (by rw [this]; simp)]; exact this
    · have := ow.oa i b r hr hb
      rw [hnp b (by rw [this]; simp)]; exact this
    · rw [hpp b (.inl ⟨p, hp⟩)]; exact f.ow.ol p b hp
    · rw [hpp b (.inr ⟨t, r, hr, hb⟩)]; exact f.ow.ot t b r hr hb
    · by_cases hp : priv G b
      · obtain ⟨off, q⟩ := priv_hid (E := E) (dm := dm) hp
        have h1 := f.hid_lt q
        have h2 : h.size ≤ h'.size := ev.sz
        omega
      · simp only [mix, if_neg hp]; exact ow.fr b hb
    · by_cases hp : priv G b
      · rw [hpp b hp]; exact f.ow.xo b off hx
      · simp only [mix, if_neg hp]; exact ow.xo b off (.inl hx)
    · have hh : hid E G dm r 0 := .inr (.inr hr)
      refine ⟨?_, by rw [hlt r 0 hh]; exact (f.ow.dm r hr).2⟩
      by_cases hp : priv G r
      · rw [hpp r hp]; exact (f.ow.dm r hr).1
      · simp only [mix, if_neg hp]; exact ow.xo r 0 hh
  refine ⟨⟨u.ft f.ft (fun t v _ => noL_nil v), u.fl f.fl rfl (fun p b e k => ?_) (fun p b e => f.ow.lb_lt e), u.fk f.fk rfl (fun t b r e e2 k => ?_) (fun t b r e e2 => f.ow.tb_lt e e2), HR.same (G := G') (G' := mix G G') st' rfl rfl rfl (fun _ _ _ => rfl) (fun _ _ _ _ _ => rfl) hr, ow', u.ev f.ev f.ow, f.df⟩, st'⟩
  · obtain ⟨off, q⟩ := k
    exact hnh b (by rw [f.ow.ol p b e]; simp) off q
  · obtain ⟨off, q⟩ := k
    exact hnh b (by rw [f.ow.ot t b r e e2]; simp) off q
/-- Back from a call that led to none. -/
theorem FR.backP [N0] (f : FR E dm G σ a h) (ev : EV { h0 := h, G0 := nogh, X := hidP E G dm } G' h') : FR E dm G σ a h' ∧ Stay h' (Mut (hidP E G dm) G') h' (Mut E.X G) := by
  have hno : ∀ b off, ¬ Mh nogh b off := by
    rintro b off (⟨i, q⟩ | ⟨i, r, q, _⟩) <;> simp [nogh] at q
  have hall : ∀ b, b < h.size → h'[b]? = h[b]? := fun b hb => ev.bl b hb (hno b)
  have u : Upd E.X [] (fun _ => False) G h G h' :=
    ⟨fun _ => ev.nb, ev.sz, fun b hb _ => hall b hb, fun _ h => h.elim, fun b o v e n => ⟨by rw [cel_same (hall b (cel_lt e))]; exact e, n⟩, fun _ _ _ h => h, .refl _ _⟩
  have ow' : OW G h' E.X dm := ⟨f.ow.oh, f.ow.oa, f.ow.ol, f.ow.ot, fun b hb => f.ow.fr b (Nat.le_trans ev.sz hb), f.ow.xo, fun r hr => ⟨(f.ow.dm r hr).1, by rw [hall r (dm_lt f.ow hr)]; exact (f.ow.dm r hr).2⟩⟩
  exact ⟨⟨u.ft f.ft (fun t v _ => noL_nil v), u.fl f.fl rfl (fun _ _ _ h => h) (fun p b e => f.ow.lb_lt e), u.fk f.fk rfl (fun _ _ _ _ _ h => h) (fun t b r e k => f.ow.tb_lt e k), u.hr f.ow f.hr rfl rfl rfl (fun _ h => h.elim), ow', u.ev f.ev f.ow, f.df⟩,
    fun b o v e n => ⟨e, fun q => n (.inr (.inr (.inl q)))⟩⟩

/-- A frame begins. -/
theorem FR.enter [N0] {heap : List HO} (nb : NB h) (es : N0.n0 ≤ h.size) (em : ∀ b off : Nat, Mh G b off → N0.n0 ≤ b) (hr : HR G h (Mut X G) heap) (ow : OW G h X []) (xl : ∀ b off, X b off → b < h.size) (hl : G.lb = []) (ht : G.tb = []) {tmps : List AV} {T : Array Value} (hT : tmps.length = T.size)
    (hm : ∀ (t : Nat) (v : AV), tmps[t]? = some v → v.stillK = true ∧ ar G h (Mut X G) v (T.getD t undef)) (locs : List (Option (List AV))) (hL : ∀ x ∈ locs, x = none) :
    FR { h0 := h, G0 := G, X := X } [] { G with lb := locs.map fun _ => none } { tmps := tmps, mem := { locs := locs, heap := heap, toks := [] } } { tmps := T, defers := [] } h := by
  let G' : Gh := { G with lb := locs.map fun _ => none }
  have hlb : ∀ p b : Nat, G'.lb[p]? ≠ some (some b) := fun p b e => by
    simp only [G', List.getElem?_map, Option.map_eq_some_iff] at e
    obtain ⟨_, _, e⟩ := e
    cases e
  have hmf : ∀ b off, ¬ Mf G' b off := by
    rintro b off (⟨p, e⟩ | ⟨t, r, e, _⟩)
    · exact hlb p b e
    · simp only [G', ht] at e; simp at e
  have st : Stay h (Mut X G) h (Mut X G') := fun b o v e n => ⟨e, by
    rintro (q | q | q)
    · exact n (.inl q)
    · exact hmf _ _ q
    · exact n (.inr (.inr q))⟩
  refine ⟨⟨hT, fun t v hv => stillK_ar (G := G) (G' := G') st (fun _ _ h => h) (hm t v hv).1 (hm t v hv).2⟩, ⟨by simp, fun p cs hp => ?_⟩, ⟨by simp [ht], by simp, fun t r hr => by simp [ht] at hr⟩, HR.same (G := G) (G' := G') st rfl rfl rfl (fun _ _ _ => rfl) (fun _ _ _ _ _ => rfl) hr,
    ⟨ow.oh, ow.oa, fun p b e => absurd e (hlb p b), fun t b r e => ?_, ow.fr, ow.xo, by simp⟩, ⟨nb, es, em, Nat.le_refl _, xl, fun _ _ _ => rfl, fun _ _ _ _ e => e, fun b off _ e => e.elim id fun q => absurd q (hmf b off), fun _ _ h => h, fun i v hv => ⟨v, hv, Nat.le_refl _, fun _ _ h => h⟩⟩, ⟨rfl, by simp, by simp⟩⟩
  · have := hL _ (List.mem_of_getElem? hp)
    cases this
  · simp only [ht] at e; simp at e
/-- A frame ends. -/
theorem FR.drop [N0] {ds : List Deferred} (f : FR { h0 := h', G0 := G', X := X, ds := ds } dm G σ a h) (hx : ∀ b off, X b off → b < h'.size) : HR (shr G) h (Mut X (shr G)) σ.mem.heap ∧ OW (shr G) h X [] ∧ EV { h0 := h', G0 := G', X := X } (shr G) h ∧ Stay h (Mut X G) h (Mut X (shr G)) := by
  have st : Stay h (Mut X G) h (Mut X (shr G)) := fun b o v e n => ⟨e, by
    rintro (q | q | q)
    · exact n (.inl q)
    · exact shr_Mf _ _ q
    · exact n (.inr (.inr q))⟩
  exact ⟨HR.same (G := G) (G' := shr G) st rfl rfl rfl (fun _ _ _ => rfl) (fun _ _ _ _ _ => rfl) f.hr, shr_ow f.ow (fun b off e => by rw [f.ow.xo b off e]; simp),
    ⟨f.ev.nb, f.ev.es, f.ev.em, f.ev.sz, f.ev.xl, f.ev.bl, f.ev.ce, fun b off hb e => f.ev.mu b off hb (.inl (e.elim id fun q => absurd q (shr_Mf b off))), f.ev.hb, f.ev.hv⟩, st⟩
end
end Go.Proofs.Ytmmhpmfgcenngaa
/-! What an operation asks of the memory, and by which operation it asks. -/
set_option linter.unusedVariables false
set_option linter.unusedSimpArgs false
namespace Go.Proofs.Ytmmhpmfgcenngaa

def Inv [N0] (P : Program) (E : List Nat) (dst : Option Nat) (ρ : Operand → AV) (op : Op) : MA → Prop
  | .val _ => True
  | .ldL p off n ag => ∃ T x, op = .load T x ∧ tsz P T = some n ∧ tag P T = some ag ∧ (ag = true ∨ n = 1) ∧ ρ x = .lref p off
  | .ldH i off n ag => ∃ T x, op = .load T x ∧ tsz P T = some n ∧ tag P T = some ag ∧ (ag = true ∨ n = 1) ∧ ρ x = .href i off
  | .stL p off cs => ∃ T x v, op = .store T x v ∧ tsz P T = some cs.length ∧ 0 < cs.length ∧ (ρ v).okA = true ∧ ((ρ v).cells.all AV.flat) = true ∧ cs = (ρ v).cells ∧ ρ x = .lref p off
  | .stH i off cs => ∃ T x v, op = .store T x v ∧ tsz P T = some cs.length ∧ 0 < cs.length ∧ (ρ v).okA = true ∧ ((ρ v).cells.all AV.flat) = true ∧ cs = (ρ v).cells ∧ ρ x = .href i off
  | .alL p cs => dst = some p ∧ E.contains p = false ∧ ((∃ T, op = .alloc T ∧ tzr P T = some cs ∧ okL cs = true ∧ (cs.all AV.flat) = true) ∨ ∃ T x, op = .box T x ∧ (ρ x).okA = true ∧ ((ρ x).cells.all AV.flat) = true ∧ cs = (ρ x).cells)
  | .alH cs => (∃ T, op = .alloc T ∧ tzr P T = some cs ∧ okL cs = true ∧ (cs.all AV.flat) = true) ∨ ∃ T x, op = .box T x ∧ (ρ x).okA = true ∧ ((ρ x).cells.all AV.flat) = true ∧ cs = (ρ x).cells
  | .app s ys sz => ∃ c s0 x t e by_ z, op = .call c ∧ c.callee = .builtin .append ∧ c.args.toList = [s0, x] ∧ c.argTypes.toList = [t, t] ∧ tslc P t = some e ∧ tsz P e = some sz ∧ tzr P e = some z ∧ tby P e = some by_ ∧ 0 < sz ∧ by_ ≤ 128 ∧ z.length = sz ∧ s = ρ s0 ∧ (ρ x).sl = some ys
  | .call f args => ∃ c g first caps, op = .call c ∧ c.callee = .value g ∧ ρ g = .fn f first caps ∧ args = first ++ c.args.toList.map ρ ++ caps
  | .yld i args => ∃ c g, op = .call c ∧ c.callee = .value g ∧ ρ g = .yld i ∧ args = c.args.toList.map ρ
  | .pan x => ∃ x0 t v, op = .panic x0 ∧ ρ x0 = x ∧ x = .iface t v

theorem ma_map [N0] {α : Type} {o : Option α} {g : α → AV} {ma : MA} {P : Program} {E : List Nat} {dst : Option Nat} {ρ : Operand → AV} {op : Op} (h : (o.map fun x => MA.val (g x)) = some ma) : Inv P E dst ρ op ma := by
  simp only [Option.map_eq_some_iff] at h
  obtain ⟨x, _, rfl⟩ := h
  trivial
theorem dec_inv [N0] {P : Program} {E : List Nat} {dst : Option Nat} {ρ : Operand → AV} {op : Op} {ma : MA} (h : decode P E dst ρ op = some ma) : Inv P E dst ρ op ma := by
  cases op with
  | load T a =>
    simp only [decode] at h
    split at h
    · rename_i n ag hn hag
      split at h
      · rename_i hc
        split at h
        · rename_i p off hp; cases h; exact ⟨T, a, rfl, hn, hag, hc, hp⟩
        · rename_i p off hp; cases h; exact ⟨T, a, rfl, hn, hag, hc, hp⟩
        · split at h
          · split at h
            · cases h; trivial
            · exact ma_map h
          · cases h
        · split at h
          · split at h
            · cases h; trivial
            · exact ma_map h
          · cases h
        · cases h
      · cases h
    · cases h
  | store T a v =>
    simp only [decode] at h
    split at h
    · rename_i n hn
      split at h
      · rename_i hc
        obtain ⟨c1, c2, c3, c4⟩ := hc
        subst c3
        split at h
        · rename_i p off hp; cases h; exact ⟨T, a, v, rfl, hn, c4, c1, c2, rfl, hp⟩
        · rename_i p off hp; cases h; exact ⟨T, a, v, rfl, hn, c4, c1, c2, rfl, hp⟩
        · cases h
      · cases h
    · cases h
  | alloc T =>
    simp only [decode] at h
    split at h
    · rename_i p cs hd hz
      split at h
      · rename_i hc
        split at h
        · cases h; exact .inl ⟨T, rfl, hz, hc.1, hc.2⟩
        · rename_i he; cases h; exact ⟨rfl, by simpa using he, .inl ⟨T, rfl, hz, hc.1, hc.2⟩⟩
      · cases h
    · cases h
  | box T x =>
    simp only [decode] at h
    split at h
    · rename_i p hd
      split at h
      · rename_i hc
        split at h
        · cases h; exact .inr ⟨T, x, rfl, hc.1, hc.2, rfl⟩
        · rename_i he; cases h; exact ⟨rfl, by simpa using he, .inr ⟨T, x, rfl, hc.1, hc.2, rfl⟩⟩
      · cases h
    · cases h
  | panic x =>
    simp only [decode] at h
    split at h
    · rename_i t v hx; cases h; exact ⟨x, t, v, rfl, hx, rfl⟩
    · cases h
  | call c =>
    simp only [decode, decC] at h
    split at h
    · rename_i g hg
      split at h
      · rename_i f first caps hf; cases h; exact ⟨c, g, first, caps, rfl, hg, hf, rfl⟩
      · rename_i i hf; cases h; exact ⟨c, g, rfl, hg, hf, rfl⟩
      · cases h
    · split at h
      · split at h
        · split at h
          · cases h; trivial
          · cases h
        · split at h
          · cases h; trivial
          · cases h
      · cases h
    · split at h
      · split at h
        · split at h
          · cases h; trivial
          · cases h
        · cases h
      · cases h
    · split at h
      · split at h
        · split at h
          · cases h; trivial
          · cases h
        · cases h
      · cases h
    · rename_i hg
      split at h
      · rename_i s x t u ha ht
        split at h
        · rename_i e e' ys h1 h2 h3
          split at h
          · rename_i sz z by_ h4 h5 h6
            split at h
            · rename_i hc
              obtain ⟨rfl, c2, c3, c4⟩ := hc
              cases h
              exact ⟨c, s, x, u, e, by_, z, rfl, hg, ha, ht, h1, h4, h5, h6, c2, c3, c4, rfl, h3⟩
            · cases h
          · cases h
        · cases h
      · cases h
    · cases h
  | move x => simp only [decode] at h; cases h; trivial
  | assign x => simp only [decode] at h; cases h; trivial
  | pick c a b => simp only [decode] at h; split at h <;> cases h; trivial
  | build T parts =>
    simp only [decode] at h
    split at h
    · simp only [Option.bind_eq_some_iff] at h
      obtain ⟨cs, _, h⟩ := h
      split at h <;> cases h; trivial
    · cases h
  | buildSlice T n parts =>
    simp only [decode] at h
    split at h
    · split at h
      · split at h
        · exact ma_map h
        · cases h
      · cases h
    · cases h
  | makeSlice T l c =>
    simp only [decode, mkDec] at h
    split at h
    · split at h
      · split at h
        · split at h
          · cases h; trivial
          · cases h
        · cases h
      · cases h
    · cases h
  | nilCheck x => simp only [decode] at h; split at h <;> cases h <;> trivial
  | binOp op T x y s => simp only [decode] at h; exact ma_map (g := id) (by simpa using h)
  | unOp op T x =>
    cases op with
    | not => simp only [decode] at h; split at h <;> cases h; trivial
    | _ => cases h
  | makeInterface T x =>
    simp only [decode] at h
    split at h
    · split at h <;> cases h; trivial
    · cases h
  | makeFunc g first caps =>
    cases g with
    | func g => simp only [decode] at h; split at h <;> cases h; trivial
    | _ => cases h
  | slice T x lo hi mx =>
    simp only [decode] at h
    split at h
    · split at h
      · split at h
        · split at h
          · cases h; trivial
          · split at h <;> cases h; trivial
        · cases h
      · cases h
    · cases h
  | fieldAddr S x f =>
    simp only [decode] at h
    split at h
    · split at h
      · split at h
        · cases h; trivial
        · cases h; trivial
        · split at h <;> cases h; trivial
        · split at h <;> cases h; trivial
        · cases h
      · cases h
    · cases h
  | field S x f =>
    simp only [decode] at h
    split at h
    · split at h
      · split at h
        · cases h; trivial
        · exact ma_map h
        · cases h
      · cases h
    · cases h
  | indexAddr T x i =>
    simp only [decode] at h
    split at h
    · split at h
      · split at h
        · split at h
          · split at h <;> cases h; trivial
          · cases h
        · split at h
          · split at h
            · split at h <;> cases h; trivial
            · cases h
          · cases h
      · cases h
    · cases h
  | extract x i =>
    simp only [decode] at h
    split at h
    · exact ma_map (g := id) (by simpa using h)
    · cases h
  | _ => cases h
end Go.Proofs.Ytmmhpmfgcenngaa
/-! The records of ranges over functions; guards; what soundness means. -/
set_option linter.unusedVariables false
set_option linter.unusedSimpArgs false
namespace Go.Proofs.Ytmmhpmfgcenngaa

section
variable {E : Ent} {X X' : Nat → Nat → Prop} {dm ps : List Nat} {G G' : Gh} {h h' : Array Obj} {M M' : Nat → Nat → Prop} {σ : St} {a : Act} {P : Program}

/-- A loop's record is written. -/
theorem FR.setHO [N0] {w : World} (f : FR E dm G σ a w.heap) (i : Nat) {b : Nat} {o : HO} {L0 : Loop} (hi : σ.mem.heap.length > i) (hb : G.hb[i]? = some b) (hl : w.heap[b]? = some (.loop L0)) (ha : G.ha[i]? = some none) (L1 : Loop)
    (ho : objR G w.heap (Mut E.X G) i o → True) (hn : ∀ h', h'[b]? = some (.loop L1) → Stay w.heap (Mut E.X G) h' (Mut E.X G) → objR G h' (Mut E.X G) i o) :
    FR E dm G { σ with mem := { σ.mem with heap := σ.mem.heap.set i o } } a (w.putObj b (.loop L1)).heap := by
  have hlt := f.ow.hb_lt hb
  have hnew : (w.putObj b (.loop L1)).heap[b]? = some (.loop L1) := World.putObj_heap_same hlt
  have hoth : ∀ k, k ≠ b → (w.putObj b (.loop L1)).heap[k]? = w.heap[k]? := fun k hk => World.putObj_heap_other hk
  have hsz : (w.putObj b (.loop L1)).heap.size = w.heap.size := World.putObj_size
  generalize (w.putObj b (.loop L1)).heap = h' at hnew hoth hsz
  have hwb : G.ow b ≠ .no := by rw [f.ow.oh i b hb]; simp
  have u : Upd E.X [] (fun k => k = b) G w.heap G h' := Upd_block f.ow hsz hoth hwb (fun off => .inl (.inl ⟨i, hb⟩)) (fun o ho => by rw [hnew] at ho; cases ho; exact fun _ _ _ e => by cases e)
  refine ⟨u.ft f.ft (fun t v _ => noL_nil v), u.fl f.fl rfl (fun p k hp e => ?_) (fun p k hp => f.ow.lb_lt hp), u.fk f.fk rfl (fun t k r hr hk e => ?_) (fun t k r hr hk => f.ow.tb_lt hr hk), ⟨by simp [f.hr.lb], by simp [f.hr.lv], by simp [f.hr.la], fun j o' ho' => ?_⟩, f.ow.block hsz hoth hwb, u.ev f.ev f.ow, f.df⟩
  · subst e
    have := (f.ow.oh i k hb).symm.trans (f.ow.ol p k hp)
    simp at this
  · subst e
    have := (f.ow.oh i k hb).symm.trans (f.ow.ot t k r hr hk)
    simp at this
  · by_cases e : i = j
    · subst e
      simp only [List.getElem?_set, if_pos rfl, if_pos hi] at ho'
      simp at ho'
      subst ho'
      exact hn h' hnew u.st
    · simp only [List.getElem?_set, if_neg e] at ho'
      have hne : ∀ k, G.hb[j]? = some k → k ≠ b := fun k hk h => by
        subst h
        have := (f.ow.oh i k hb).symm.trans (f.ow.oh j k hk)
        simp at this; exact e this
      refine objR_on u (fun k hk => ⟨hk, hoth k (hne k hk)⟩) rfl rfl (fun k r hr hk => hoth k fun h => ?_) (f.hr.ob j o' ho')
      subst h
      have := (f.ow.oh i k hb).symm.trans (f.ow.oa j k r hr hk)
      simp at this
theorem FR.loopAt [N0] (f : FR E dm G σ a h) {i : Nat} {st : LSt} {pend : Option Code} {L : LoopA} (hi : σ.mem.heap[i]? = some (.loop st pend L)) :
    ∃ b Ts D fn', G.hb[i]? = some b ∧ G.ha[i]? = some none ∧ L.tmps.all AV.stillK = true ∧ (noRange L.assign && noRange L.body) = true ∧
      h[b]? = some (.loop { state := lsOf st, pending := pend, fn := fn', tmps := List.toArray Ts, params := L.params.toArray, assign := L.assign, body := L.body, defers := D }) ∧ ars G h (Mut E.X G) L.tmps Ts := by
  have := f.hr.ob i _ hi
  simp only [objR] at this
  obtain ⟨b, e1, e2, e3, e4, Ts, D, fn', e5, e6⟩ := this
  exact ⟨b, Ts, D, fn', e1, e2, e3, e4, e5, e6⟩
/-- Its state is written. -/
theorem FR.setLoop [N0] {w : World} (f : FR E dm G σ a w.heap) {i : Nat} {st : LSt} {pend : Option Code} {L : LoopA} (hi : σ.mem.heap[i]? = some (.loop st pend L)) {b : Nat} (hb : G.hb[i]? = some b) :
    ∃ L0 : Loop, w.heap[b]? = some (.loop L0) ∧ L0.state = lsOf st ∧ L0.pending = pend ∧ ∀ st' pend', FR E dm G { σ with mem := { σ.mem with heap := σ.mem.heap.set i (.loop st' pend' L) } } a (w.putObj b (.loop { L0 with state := lsOf st', pending := pend' })).heap := by
  obtain ⟨b', Ts, D, fn', e1, e2, e3, e4, e5, e6⟩ := f.loopAt hi
  obtain rfl : b = b' := by rw [hb] at e1; simpa using e1
  refine ⟨_, e5, rfl, rfl, fun st' pend' => f.setHO i (getElem_lt hi) hb e5 e2 _ (fun _ => trivial) fun h' hh st => ?_⟩
  simp only [objR]
  exact ⟨b, hb, e2, e3, e4, Ts, D, fn', hh, stillKs_ar st (fun _ _ h => h) _ _ e3 e6⟩

/-! ### slots of variables that are made anew -/
def NL (ps : List Nat) (tm : List AV) : Prop := ∀ (t : Nat) (v : AV), tm[t]? = some v → v.noL ps = true
theorem NL.put {tm : List AV} (h : NL ps tm) (dst : Option Nat) {v : AV} (hv : v.noL ps = true) : NL ps (putA tm dst v) := by
  cases dst with
  | none => exact h
  | some d =>
    intro t u ht
    simp only [putA, List.getElem?_set] at ht
    split at ht
    · split at ht
      · cases ht; exact hv
      · cases ht
    · exact h t u ht
theorem NL.opv {tm : List AV} (h : NL ps tm) (x : Operand) : (opv tm x).noL ps = true := by
  cases x with
  | tmp t =>
    simp only [Go.Proofs.Ytmmhpmfgcenngaa.opv]
    cases ht : tm[t]? with
    | none => simp [List.getD, ht, AV.noL]
    | some v => simpa [List.getD, ht] using h t v ht
  | const V =>
    simp only [Go.Proofs.Ytmmhpmfgcenngaa.opv, ofV]
    split <;> rfl
  | func g => rfl
  | global g => rfl

/-! ### guards -/
theorem want_ok (f : FT G h M σ.tmps a.tmps) (ops : Array Oper) (o : Oper) {b : Bool} (hw : wantA ops σ.tmps o = some b) : Region.wanted o (yielded ops a.tmps) = b := by
  unfold wantA at hw
  unfold Region.wanted
  split at hw
  · rename_i hg; simp only [hg]; simpa using hw
  · rename_i j want hg
    simp only [hg]
    split at hw
    · rename_i d hd
      split at hw
      · rename_i b' hb
        have ht : σ.tmps[d]? = some (.d (.bool b')) := by
          cases hx : σ.tmps[d]? with
          | none => simp [List.getD, hx] at hb
          | some v => simp [List.getD, hx] at hb; rw [hb]
        have hv := f.tm d _ ht
        simp only [ar, rep] at hv
        have hlt : d < a.tmps.size := f.tl ▸ getElem_lt ht
        have hy : yielded ops a.tmps j = some b' := by
          unfold yielded
          rw [hd]
          simp only [Option.bind_some]
          have : a.tmps[d]? = some (.bool b') := by
            rw [Array.getElem?_eq_getElem hlt]
            simp [Array.getD, hlt] at hv
            rw [hv]
          rw [this]
        rw [hy]
        simp only [Option.some.injEq] at hw
        rw [← hw]
        cases b' <;> cases want <;> rfl
      · rename_i hb
        have ht : σ.tmps[d]? = some (.tup []) := by
          cases hx : σ.tmps[d]? with
          | none => simp [List.getD, hx] at hb
          | some v => simp [List.getD, hx] at hb; rw [hb]
        have hv := f.tm d _ ht
        simp only [ar] at hv
        obtain ⟨Vs, hv, _, hVs⟩ := hv
        simp only [ars] at hVs
        subst hVs
        have hlt : d < a.tmps.size := f.tl ▸ getElem_lt ht
        have hy : yielded ops a.tmps j = none := by
          unfold yielded
          rw [hd]
          simp only [Option.bind_some]
          have : a.tmps[d]? = some (.tuple #[]) := by
            rw [Array.getElem?_eq_getElem hlt]
            simp [Array.getD, hlt] at hv
            rw [hv]
          rw [this]
        rw [hy]
        simp only [Option.some.injEq] at hw
        rw [← hw]
        rfl
      · cases hw
    · cases hw

/-! ### what soundness means -/
def fen (rd : Option Nat) : Fence := { Fence.wide with round := rd }
def Enters (P : Program) (f : Nat) : Prop := ∃ fn, P.funcs[f]? = some fn ∧ fn.body.isSome = true ∧ (fn.name == "runtime.NumGoroutine") = false
def XRel (E : Ent) (G : Gh) (h : Array Obj) (e : Exit) : Ex → Prop
  | .nor => e = .normal
  | .ret => e = .ret
  | .exit id => e = .exit id
  | .pan x => ∃ V, e = .panic [{ v := V, recovered := false }] ∧ ar G h (Mut E.X G) x V
/-- Behind a panic only the shared variables count. -/
def Like0 [N0] : Ex × St → Ex × St → Prop
  | (.pan x, σ), r => ∃ σ', r = (.pan x, σ') ∧ σ'.mem.heap = σ.mem.heap
  | r, r' => r' = r
/-- And slots that lead to shared variables. -/
def keepH (σ σ' : St) : Prop := ∀ (t i o : Nat), σ.tmps[t]? = some (.href i o) → σ'.tmps[t]? = some (.href i o)
def Like [N0] : Ex × St → Ex × St → Prop
  | (.pan x, σ), r => ∃ σ', r = (.pan x, σ') ∧ σ'.mem.heap = σ.mem.heap ∧ keepH σ σ'
  | r, r' => r' = r
def EQ [N0] (E : Ent) (w : World) (ex : Ex) (σ' : St) (e : Exit) (a' : Act) (w' : World) : Prop :=
  Io w w' ∧ ∃ dm' G' σ'', FR E dm' G' σ'' a' w'.heap ∧ XRel E G' w'.heap e ex ∧ Like (ex, σ') (ex, σ'')
/-- A loop's rounds, from behind the loop's own step. -/
def LoopIn (F : Fence) (P : Program) (c : Code) (Q : Exit → Act → World → Prop) (a : Act) (w : World) : Prop :=
  ∀ (b : Frame) (k : List Item) (cs : List Frame), b.roundOf = F.round → F.fn b.fn → F.room (cs.length + 1 + 0) →
    ∃ e a' w', Q e a' w' ∧ ArrivesIn (Machine.fenced P F) P (lone (b.atR a (.code c :: .inLoop c :: k)) cs w) b k cs e a' w'
structure Sound [N0] (C : Cfg) (O : Orc) : Prop where
  fnd : ∀ f args heap r, O.call f args heap = some r → Enters C.P f
  call : ∀ f args heap cr heap', O.call f args heap = some (cr, heap') → ∀ (X : Nat → Nat → Prop) (G : Gh) (w : World) (As : List Value), CE X G w.heap args As heap →
    CallsIn Fence.wide 0 C.P f As.toArray w (CQ X G w cr heap')
  code : ∀ rd f c σ ex σ', O.code f c σ = some (ex, σ') → rd = none ∨ noRange c = true → ∀ (E : Ent) (dm : List Nat) (G : Gh) (a : Act) (w : World), FR E dm G σ a w.heap →
    c.wpIn (fen rd) 0 C.P (EQ E w ex σ') a w
  loop : ∀ rd f b σ ex σ', O.code f (.loop b) σ = some (ex, σ') → rd = none ∨ noRange b = true → ∀ (E : Ent) (dm : List Nat) (G : Gh) (a : Act) (w : World), FR E dm G σ a w.heap →
    LoopIn (fen rd) C.P b (EQ E w ex σ') a w

theorem run_callFunc [N0] {f : Nat} (he : Enters P f) (args : Array Value) (w : World) : (callFunc f args).run P w = .ok (.enter f args) w := by
  obtain ⟨fn, h1, h2, h3⟩ := he
  have h4 : fn.body.isNone = false := by cases hb : fn.body <;> simp_all
  unfold callFunc
  simp only [Sem.run_bind]
  have hp : (program).run P w = .ok P w := rfl
  rw [hp]
  simp only [Result.andThen, h1, h3, h4]
  rfl
end
end Go.Proofs.Ytmmhpmfgcenngaa
/-! One operation: what the interpreter says of it is what the machine does. -/
set_option linter.unusedVariables false
set_option linter.unusedSimpArgs false
namespace Go.Proofs.Ytmmhpmfgcenngaa

section
variable {E : Ent} {X X' : Nat → Nat → Prop} {dm ps : List Nat} {G G' : Gh} {h h' : Array Obj} {M M' : Nat → Nat → Prop} {σ : St} {a : Act} {P : Program}

theorem cells_ok {v : AV} (e : v.okA = true) : okL v.cells = true := by
  cases v with
  | d x =>
    cases x with
    | agg cs => exact okL_of fun y hy => by simp only [AV.cells, List.mem_map] at hy; obtain ⟨c, _, rfl⟩ := hy; rfl
    | _ => rfl
  | arr vs => exact e
  | _ => simp_all [AV.cells, okL, AV.okA]
theorem cells_size {v : AV} {V : Value} (e : ar G h M v V) (hf : (v.cells.all AV.flat) = true) : V.cells.size = v.cells.length := by
  have := ars_length _ _ (cells_ar e hf).1
  simpa using this

/-- A frame's slots with what yield is handed. -/
theorem setAll_ft : ∀ (ps : List Nat) (xs : List AV) (Xs : List Value) (tm : List AV) (T : Array Value), ps.length = xs.length → ars G h M xs Xs → (∀ x ∈ xs, x.stillK = true) →
    (tm.length = T.size ∧ ∀ (t : Nat) (v : AV), tm[t]? = some v → v.stillK = true ∧ ar G h M v (T.getD t undef)) →
    (setAll tm ps xs).length = ((ps.zip Xs).foldl (fun tmps x => tmps.setIfInBounds x.1 x.2) T).size ∧
      ∀ (t : Nat) (v : AV), (setAll tm ps xs)[t]? = some v → v.stillK = true ∧ ar G h M v (((ps.zip Xs).foldl (fun tmps x => tmps.setIfInBounds x.1 x.2) T).getD t undef)
  | [], xs, Xs, tm, T, _, _, _, hT => by simpa [setAll] using hT
  | p :: ps, [], Xs, tm, T, hl, _, _, _ => by simp at hl
  | p :: ps, x :: xs, Xs, tm, T, hl, hx, hk, hT => by
    simp only [ars] at hx
    obtain ⟨V, Vs, rfl, e1, e2⟩ := hx
    simp only [setAll, List.zip_cons_cons, List.foldl_cons]
    refine setAll_ft ps xs Vs _ _ (by simpa using hl) e2 (fun y hy => hk y (by simp [hy])) ⟨by simp [hT.1], fun t v ht => ?_⟩
    rw [List.getElem?_set] at ht
    by_cases hd : p = t
    · subst hd
      rw [if_pos rfl] at ht
      split at ht
      · rename_i hlt
        cases ht
        have hlt' : p < T.size := hT.1 ▸ hlt
        have : (T.setIfInBounds p V).getD p undef = V := by simp [Array.getD, hlt']
        rw [this]
        exact ⟨hk _ (by simp), e1⟩
      · cases ht
    · rw [if_neg hd] at ht
      have : (T.setIfInBounds p V).getD t undef = T.getD t undef := by simp only [Array.getD_eq_getD_getElem?, Array.getElem?_setIfInBounds, if_neg hd]
      rw [this]; exact hT.2 t v ht
theorem still_K {v : AV} (e : v.still = true) : v.stillK = true := by cases v <;> simp_all [AV.stillK, AV.still]

/-- What is asked behind an operation. -/
structure Then [N0] (C : Cfg) (E : Ent) (ps : List Nat) (σ : St) (a : Act) (w : World) (dst : Option Nat) (r : OR) (m' : Mem) (K : Act → World → Prop) (Q : Exit → Act → World → Prop) : Prop where
  v : ∀ v V w' dm' G', r = .v v → Io w w' → FR E dm' G' { σ with mem := m' } a w'.heap → ar G' w'.heap (Mut E.X G') v V → v.noL ps = true → K (a.put dst V) w'
  u : ∀ w' dm' G', r = .u → Io w w' → FR E dm' G' { σ with mem := m' } a w'.heap → K (a.put dst undef) w'
  p : ∀ x V w' dm' G', r = .pan x → Io w w' → FR E dm' G' { σ with mem := m' } a w'.heap → ar G' w'.heap (Mut E.X G') x V → Q (.panic [{ v := V, recovered := false }]) a w'

variable {C : Cfg} {O : Orc} {rd : Option Nat} {w : World} {K : Act → World → Prop} {Q : Exit → Act → World → Prop}
theorem act_call [N0] (hs : Sound C O) (f : FR E dm G σ a w.heap) {g : Nat} {args : List AV} {As : List Value} {r : OR} {m' : Mem} (ha : ars G w.heap (Mut E.X G) args As) (hm : mCall C O g args σ.mem = some (r, m')) {dst : Option Nat} (T : Then C E ps σ a w dst r m' K Q) :
    Enters C.P g ∧ CallsIn Fence.wide 0 C.P g As.toArray w fun
      | .returned v, w'' => K (a.put dst v) w''
      | .panicked chain, w'' => Q (.panic chain) a w''
      | .outgrown, _ => LetsOut Q := by
  unfold mCall at hm
  split at hm
  · rename_i hp
    simp only [callsPure, Bool.and_eq_true] at hp
    simp only [Option.bind_eq_some_iff] at hm
    obtain ⟨⟨cr, hp'⟩, hc, hr⟩ := hm
    refine ⟨hs.fnd _ _ _ _ hc, (hs.call _ _ _ _ _ hc _ _ w As (f.outP (erases_pure _ hp.1) (erases_still _ (pures_ok _ hp.1)) (erases_ar _ _ ha))).mono fun e w' q => ?_⟩
    obtain ⟨io, G', _, _, _, _, ev, cr'⟩ := q
    obtain ⟨f', st⟩ := f.backP ev
    cases cr with
    | ret v =>
      simp only [pureRes] at hr
      split at hr
      · rename_i hv
        cases hr
        obtain ⟨c1, V, rfl, c2⟩ := cr'
        exact T.v v.keepE V w' _ G rfl io f' (keepE_ar (ar_pure (G := G') st v V hv c1 c2)) (AV.noL_of_ok _ _ (keepE_ok _ (pure_ok _ hv)))
      · cases hr
    | pan x =>
      simp only [pureRes] at hr
      split at hr
      · rename_i hv
        cases hr
        obtain ⟨c1, c3, V, rfl, c2⟩ := cr'
        exact T.p x.erase V w' _ G rfl io f' (erase_ar _ _ (ar_pure (G := G') st x V hv c1 c2))
      · cases hr
  · split at hm
    · rename_i hp
      simp only [Option.bind_eq_some_iff] at hm
      obtain ⟨⟨cr, hp'⟩, hc, hr⟩ := hm
      refine ⟨hs.fnd _ _ _ _ hc, (hs.call _ _ _ _ _ hc _ _ w As (f.out (erases_still _ hp) (erases_ar _ _ ha))).mono fun e w' q => ?_⟩
      obtain ⟨io, G', hl, ht, hr', ow', ev, cr'⟩ := q
      obtain ⟨f', st⟩ := f.back hr' ow' ev hl ht
      cases cr with
      | ret v =>
        simp only [heapRes] at hr
        split at hr
        · rename_i hv
          cases hr
          obtain ⟨c1, V, rfl, c2⟩ := cr'
          exact T.v v.keepE V w' _ (mix G G') rfl io f' (keepE_ar (ar_still (G := G') (G' := mix G G') st (fun _ _ h => h) v V c1 c2)) (AV.noL_of_ok _ _ (keepE_ok _ hv))
        · cases hr
      | pan x =>
        simp only [heapRes] at hr
        split at hr
        · rename_i hv
          cases hr
          obtain ⟨c1, c3, V, rfl, c2⟩ := cr'
          exact T.p x.erase V w' _ (mix G G') rfl io f' (erase_ar _ _ (ar_still (G := G') (G' := mix G G') st (fun _ _ h => h) x V c1 c2))
        · cases hr
    · cases hm

/-- A round of a range over a function. -/
theorem act_yld [N0] (hs : Sound C O) (f : FR E dm G σ a w.heap) {i b : Nat} {args : List AV} {As : List Value} {r : OR} {m' : Mem} (hb : G.hb[i]? = some b) (ha : ars G w.heap (Mut E.X G) args As) (hm : mYld O i args σ.mem = some (r, m')) {dst : Option Nat} (T : Then C E ps σ a w dst r m' K Q) :
    ∃ fn tmps asg body, (Instr.yield b As.toArray).run C.P w = .ok (.round b fn tmps asg body) w ∧ RoundIn (fen rd) 0 C.P b fn tmps asg body w fun
      | .returned v, w'' => K (a.put dst v) w''
      | .panicked chain, w'' => Q (.panic chain) a w''
      | .outgrown, _ => LetsOut Q := by
  unfold mYld at hm
  split at hm
  case h_2 => cases hm
  rename_i pend L hi
  split at hm
  case isFalse => cases hm
  rename_i hc
  obtain ⟨hok, hlen⟩ := hc
  simp only [Option.bind_eq_some_iff] at hm
  obtain ⟨⟨ex1, σ1⟩, hasg, hm⟩ := hm
  obtain ⟨b', Ts, D, fn', e1, e2, e3, e4, e5, e6⟩ := f.loopAt hi
  obtain rfl : b = b' := by rw [hb] at e1; simpa using e1
  have hlA := ars_length _ _ ha
  refine ⟨_, _, _, _, run_yield e5 (by simp [hlA, hlen]), roundIn_of_wpIn (F := fen rd) trivial ?_⟩
  simp only [Bool.and_eq_true] at e4
  have hce := f.out (dm := dm) (args := eraseL args) (As := As) (erases_still _ hok) (erases_ar _ _ ha)
  have hTs : L.tmps.length = Ts.length := (ars_length _ _ e6).symm
  have hft := setAll_ft (G := shr G) (h := w.heap) (M := Mut (hid E G dm) (shr G)) L.params (eraseL args) As L.tmps Ts.toArray (by
      have : (eraseL args).length = args.length := by
        have h1 := ars_length _ _ (erases_ar _ _ ha); omega
      omega) hce.ag (fun x hx => still_K (stillL_mem hce.st x hx)) ⟨by simpa using hTs, fun t v ht => by
    refine ⟨List.all_eq_true.1 e3 v (List.mem_of_getElem? ht), stillK_ar (G := G) (G' := shr G) (hid_stay f) (fun _ _ h => h) (List.all_eq_true.1 e3 v (List.mem_of_getElem? ht)) ?_⟩
    obtain ⟨V, hV, hr⟩ := ars_get _ _ e6 t v ht
    simpa [Array.getD_eq_getD_getElem?, hV] using hr⟩
  have ff := FR.enter hce.nb hce.es hce.em hce.hr hce.ow hce.xl rfl rfl (T := (L.params.zip As).foldl (fun tmps x => tmps.setIfInBounds x.1 x.2) Ts.toArray) hft.1 hft.2 (L.tmps.map fun _ => none) (by simp)
  have hfold : ((L.params.toArray.zip As.toArray).foldl (fun tmps (x : Nat × Value) => tmps.setIfInBounds x.1 x.2) Ts.toArray) = (L.params.zip As).foldl (fun tmps x => tmps.setIfInBounds x.1 x.2) Ts.toArray := by simp
  have hasg' := hs.code (some b) _ _ _ _ _ hasg (.inr e4.1) _ _ _ _ w ff
  have hasg2 : L.assign.wpIn ((fen rd).inRound b) 0 C.P (EQ { h0 := w.heap, G0 := shr G, X := hid E G dm } w ex1 σ1) { tmps := (L.params.toArray.zip As.toArray).foldl (fun tmps (x : Nat × Value) => tmps.setIfInBounds x.1 x.2) Ts.toArray, defers := [] } w := by
    rw [hfold]; exact hasg'
  refine wpIn_mono hasg2 fun e a1 w1 q => ?_
  obtain ⟨io1, dm1, G1, σ1', f1, x1, lk1⟩ := q
  cases ex1 with
  | nor =>
    obtain rfl : σ1 = σ1' := by simp only [Like] at lk1; exact ((Prod.mk.inj lk1).2).symm
    simp only [yBody] at hm
    split at hm
    case h_2 => cases hm
    rename_i pend' L' hi'
    simp only [Option.bind_eq_some_iff] at hm
    obtain ⟨⟨ex2, σ2⟩, hbody, hm⟩ := hm
    simp only [XRel] at x1
    subst x1
    have hb1 : G1.hb[i]? = some b := f1.ev.hb i b hb
    obtain ⟨L0, k1, k2, k3, k4⟩ := f1.setLoop hi' hb1
    refine ⟨_, run_beginRound k1 k2, ?_⟩
    have f2 := k4 .busy pend'
    have : { L0 with state := lsOf LSt.busy, pending := pend' } = { L0 with state := LoopState.busy } := by rw [← k3]; rfl
    rw [this] at f2
    refine wpIn_mono (hs.code (some b) _ _ _ _ _ hbody (.inr e4.2) _ _ _ _ _ f2) fun e a2 w2 q => ?_
    obtain ⟨io2, dm2, G2, σ2', f3, x2, lk2⟩ := q
    have io1' : Io w w2 := io1.trans (Io.trans (b := w1.putObj b (.loop { L0 with state := LoopState.busy })) ⟨rfl, rfl⟩ io2)
    have hb2 : G2.hb[i]? = some b := f3.ev.hb i b hb
    have lk3 : (∀ x, ex2 ≠ .pan x) → σ2' = σ2 := fun hx => by
      cases ex2 with
      | pan x => exact absurd rfl (hx x)
      | _ => simp only [Like] at lk2; exact (Prod.mk.inj lk2).2
    by_cases hpan : ∃ x, ex2 = .pan x
    · obtain ⟨x, rfl⟩ := hpan
      simp only [yEnd] at hm
      split at hm <;> cases hm
    obtain rfl : σ2 = σ2' := (lk3 fun x e => hpan ⟨x, e⟩).symm
    clear lk2 lk3
    simp only [yEnd] at hm
    split at hm
    case h_2 => cases hm
    rename_i pend2 L2 hi2
    obtain ⟨L3, q1, q2, q3, q4⟩ := f3.setLoop hi2 hb2
    have fin : ∀ (st' : LSt) (pend'' : Option Code) (bv : Bool), r = .v (.d (.bool bv)) → m' = { σ.mem with heap := σ2.mem.heap.set i (.loop st' pend'' L2) } →
        K (a.put dst (.bool bv)) (w2.putObj b (.loop { L3 with state := lsOf st', pending := pend'' })) := by
      rintro st' pend'' bv rfl rfl
      have f4 := q4 st' pend''
      obtain ⟨d1, d2, d3, d4⟩ := f4.drop hce.xl
      obtain ⟨g1, g2⟩ := f.back d1 d2 d3 rfl rfl
      exact T.v (.d (.bool bv)) (.bool bv) _ _ _ rfl (io1'.trans ⟨rfl, rfl⟩) g1 (by simp [ar, rep]) rfl
    cases ex2 with
    | nor =>
      simp only [XRel] at x2
      subst x2
      simp only [Option.some.injEq, Prod.mk.injEq] at hm
      exact ⟨_, _, run_endRound none q1, fin .ready none true hm.1.symm hm.2.symm⟩
    | ret =>
      simp only [XRel] at x2
      subst x2
      simp only [Option.some.injEq, Prod.mk.injEq] at hm
      exact ⟨_, _, run_endRound (some .ret) q1, fin .done (some .ret) false hm.1.symm hm.2.symm⟩
    | exit id =>
      simp only [XRel] at x2
      subst x2
      simp only [Option.some.injEq, Prod.mk.injEq] at hm
      exact ⟨_, _, run_endRound (some (.exit id)) q1, fin .done (some (.exit id)) false hm.1.symm hm.2.symm⟩
    | pan x => cases hm
  | _ => cases hm
end
end Go.Proofs.Ytmmhpmfgcenngaa
/-! One operation, of whatever kind. -/
set_option linter.unusedVariables false
set_option linter.unusedSimpArgs false
namespace Go.Proofs.Ytmmhpmfgcenngaa
section
variable {E : Ent} {X X' : Nat → Nat → Prop} {dm ps : List Nat} {G G' : Gh} {h h' : Array Obj} {M M' : Nat → Nat → Prop} {σ : St} {a : Act} {P : Program}
variable {C : Cfg} {O : Orc} {rd : Option Nat} {w : World} {K : Act → World → Prop} {Q : Exit → Act → World → Prop}

theorem run_store [N0] {T n : Nat} (hs : tsz P T = some n) {b off : Nat} {V : Value} (hV : V.cells.size = n) {w w' : World} (hr : (storeCells ⟨b, off, none⟩ V.cells.toList).run P w = .ok () w') :
    (Instr.storeAt T (.pointer (some ⟨b, off, none⟩)) V).run P w = .ok () w' := by
  simp [Instr.storeAt, Instr.sureAddr, storeVar, run_sizeOf' hs, hV, hr]
theorem tzr_ars {T : Nat} {cs : List AV} (hz : tzr P T = some cs) (hf : (cs.all AV.flat) = true) : ∃ z, (zeroValue T).run P w = .ok z w ∧ ars G h M cs z.cells.toList ∧ ∀ U ∈ z.cells.toList, U.oneCell' = true := by
  obtain ⟨i, z, h1, h2, rfl⟩ := tzr_info hz
  have hc : ars G h M (z.cells.toList.map ofV) z.cells.toList := by
    have := ars_map (G := G) (h := h) (M := M) ofV id z.cells.toList (fun x _ => ofV_ar x)
    simpa using this
  exact ⟨z, by simp [zeroValue, typeInfo, h1, h2], hc, flats_one _ _ hc hf⟩

theorem act_sound [N0] (hs : Sound C O) (f : FR E dm G σ a w.heap) {Es : List Nat} {o : Oper} {ma : MA} {r : OR} {m' : Mem} (hd : decode C.P Es o.dst (opv σ.tmps) o.op = some ma) (hm : mact C O σ.mem ma = some (r, m')) (hps : NL ps σ.tmps)
    (hal : ∀ p cs, ma = .alL p cs → NL [p] σ.tmps ∧ p ∉ ps) (T : Then C E ps σ a w o.dst r m' K Q) :
    o.uponIn (fen rd) 0 C.P a K Q ((execOp a.eval o).run C.P w) := by
  have hρ : ∀ x, ar G w.heap (Mut E.X G) (opv σ.tmps x) (a.eval x) := f.ft.opv
  have hi := dec_inv hd
  cases ma with
  | val v =>
    obtain ⟨V, w', h1, h2, h3⟩ := dec_val hρ (fun off => notMut_new f off) Es o v hd
    have h4 := dec_noL hρ Es ps (fun x => hps.opv x) o.dst o.op v hd
    simp only [mact] at hm
    cases hm
    rw [h1]
    exact T.v v V w' dm G rfl h2.1 (f.heap h2.2) h3 h4
  | ldL p off n ag =>
    obtain ⟨t, x, ho, hs1, ha1, hn, hx⟩ := hi
    simp only [mact] at hm
    split at hm
    · rename_i cs hcs
      simp only [Option.map_eq_some_iff] at hm
      obtain ⟨v, hl, hm⟩ := hm
      cases hm
      obtain ⟨b, V, e1, e2, e3, e4⟩ := f.ldL hs1 ha1 hn hcs hl
      have hv := hρ x
      rw [hx] at hv
      simp only [ar] at hv
      obtain ⟨b', q1, q2⟩ := hv
      obtain rfl : b = b' := by rw [e1] at q1; simpa using q1
      have : (execOp a.eval o).run C.P w = .ok (.value V) w := by
        simp only [execOp, ho, q2, Instr.loadAt, Instr.sureAddr, Sem.run_bind, Sem.run_pure, Result.andThen_ok, e2]
      rw [this]
      exact T.v v V w dm G rfl Io.rfl f e3 (e4 ps)
    · cases hm
  | ldH i off n ag =>
    obtain ⟨t, x, ho, hs1, ha1, hn, hx⟩ := hi
    simp only [mact] at hm
    split at hm
    · rename_i ver cs hcs
      simp only [Option.map_eq_some_iff] at hm
      obtain ⟨v, hl, hm⟩ := hm
      cases hm
      obtain ⟨b, V, e1, e2, e3, e4⟩ := f.ldH hs1 ha1 hn hcs hl
      have hv := hρ x
      rw [hx] at hv
      simp only [ar] at hv
      obtain ⟨b', q1, q2⟩ := hv
      obtain rfl : b = b' := by rw [e1] at q1; simpa using q1
      have : (execOp a.eval o).run C.P w = .ok (.value V) w := by
        simp only [execOp, ho, q2, Instr.loadAt, Instr.sureAddr, Sem.run_bind, Sem.run_pure, Result.andThen_ok, e2]
      rw [this]
      exact T.v v V w dm G rfl Io.rfl f e3 (e4 ps)
    · cases hm
  | stL p off cs =>
    obtain ⟨t, x, v, ho, hs1, h0, hok, hf, rfl, hx⟩ := hi
    simp only [mact] at hm
    split at hm
    · rename_i old hold
      split at hm
      · rename_i hle
        cases hm
        have hc := cells_ar (hρ v) hf
        obtain ⟨b, w', e1, e2, io, f'⟩ := f.stL (cs := (opv σ.tmps v).cells.map AV.kept) (P := C.P) p off hold (by simpa using hle) (kepts_ar _ _ hc.1) (kepts_ok _ (cells_ok hok)) hc.2
        have hv := hρ x
        rw [hx] at hv
        simp only [ar] at hv
        obtain ⟨b', q1, q2⟩ := hv
        obtain rfl : b = b' := by rw [e1] at q1; simpa using q1
        have : (execOp a.eval o).run C.P w = .ok .skip w' := by
          simp only [execOp, ho, q2, Sem.run_bind, run_store hs1 (cells_size (hρ v) hf) e2, Result.andThen_ok, Sem.run_pure]
        rw [this]
        exact T.u w' dm G rfl io f'
      · cases hm
    · cases hm
  | stH i off cs =>
    obtain ⟨t, x, v, ho, hs1, h0, hok, hf, rfl, hx⟩ := hi
    have hv := hρ x
    rw [hx] at hv
    simp only [ar] at hv
    obtain ⟨b', q1, q2⟩ := hv
    have hc := cells_ar (hρ v) hf
    simp only [mact, mSt] at hm
    split at hm
    case h_2 => cases hm
    rename_i ver old hold
    split at hm
    case isFalse => cases hm
    rename_i hle
    have gen : (∀ xs, old ≠ [.hown xs]) ∨ (opv σ.tmps v).cells.length = 1 → r = .u → m' = { σ.mem with heap := σ.mem.heap.set i (.var ver (splice old off ((opv σ.tmps v).cells.map AV.keptH))) } → o.uponIn (fen rd) 0 C.P a K Q ((execOp a.eval o).run C.P w) := by
      rintro hno rfl rfl
      obtain ⟨b, w', G', e1, e2, io, f'⟩ := f.stH (cs := (opv σ.tmps v).cells.map AV.keptH) (P := C.P) i off hold (by simpa using hle) (keptHs_ar _ _ hc.1) (keptHs_still _ (cells_ok hok)) hc.2 (hno.imp id (by simp))
      obtain rfl : b = b' := by rw [e1] at q1; simpa using q1
      have : (execOp a.eval o).run C.P w = .ok .skip w' := by
        simp only [execOp, ho, q2, Sem.run_bind, run_store hs1 (cells_size (hρ v) hf) e2, Result.andThen_ok, Sem.run_pure]
      rw [this]
      exact T.u w' dm G' rfl io f'
    have hno : (∀ xs, old ≠ [.hown xs]) ∨ (opv σ.tmps v).cells.length = 1 := by
      by_cases hx : ∃ xs, old = [.hown xs]
      · obtain ⟨xs, rfl⟩ := hx
        simp at hle
        exact .inr (by omega)
      · exact .inl fun xs e => hx ⟨xs, e⟩
    split at hm
    · rename_i c t' xs hcells
      split at hm
      · rename_i htok
        cases hm
        have hc1 := hc.1
        rw [hcells] at hc1
        simp only [ars] at hc1
        obtain ⟨U, Us, hU, hU1, hU2⟩ := hc1
        subst hU2
        have hoff : off = 0 := by rw [hcells] at hle; simp at hle; exact hle
        subst hoff
        obtain ⟨b, w', G', e1, e2, io, f'⟩ := f.stO (P := C.P) i hold hU1 htok
        obtain rfl : b = b' := by rw [e1] at q1; simpa using q1
        have : (execOp a.eval o).run C.P w = .ok .skip w' := by
          simp only [execOp, ho, q2, Sem.run_bind, run_store hs1 (cells_size (hρ v) hf) (by rw [hU]; exact e2), Result.andThen_ok, Sem.run_pure]
        rw [this]
        exact T.u w' dm G' rfl io f'
      · cases hm
    · cases hm; exact gen hno rfl rfl
  | alL p cs =>
    obtain ⟨hdst, _, hop⟩ := hi
    obtain ⟨hn, hnp⟩ := hal p cs rfl
    simp only [mact] at hm
    split at hm
    case isFalse => cases hm
    rename_i hlt
    cases hm
    obtain ⟨t, z, h1, hc, ho, h1c⟩ : ∃ t z, (execOp a.eval o).run C.P w = .ok (.value (.pointer (some ⟨w.heap.size, 0, none⟩))) { w with heap := w.heap.push (.cells z t) } ∧ ars G w.heap (Mut E.X G) cs z.toList ∧ okL cs = true ∧ ∀ U ∈ z.toList, U.oneCell' = true := by
      rcases hop with ⟨t, ho, hz, hok, hf⟩ | ⟨t, x, ho, hok, hf, rfl⟩
      · obtain ⟨z, z1, z2, z3⟩ := tzr_ars (P := C.P) (G := G) (h := w.heap) (M := Mut E.X G) (w := w) hz hf
        exact ⟨t, z.cells, by simp [execOp, ho, Instr.alloc, z1, newVar, newRow], z2, hok, z3⟩
      · have hc := cells_ar (hρ x) hf
        exact ⟨t, (a.eval x).cells, by simp [execOp, ho, Instr.box, newVar, newRow], hc.1, cells_ok hok, hc.2⟩
    obtain ⟨G', f', e1, _⟩ := f.alL p hlt hn t (kepts_ar _ _ hc) (kepts_ok _ ho) h1c
    rw [h1]
    refine T.v (.lref p 0) _ _ dm G' rfl ⟨rfl, rfl⟩ (by simpa using f') (by simp only [ar]; exact ⟨_, e1, rfl⟩) (by simpa [AV.noL] using hnp)
  | alH cs =>
    simp only [mact] at hm
    split at hm
    case isFalse => cases hm
    rename_i hok'
    cases hm
    obtain ⟨t, z, h1, hc, ho, h1c⟩ : ∃ t z, (execOp a.eval o).run C.P w = .ok (.value (.pointer (some ⟨w.heap.size, 0, none⟩))) { w with heap := w.heap.push (.cells z t) } ∧ ars G w.heap (Mut E.X G) cs z.toList ∧ okL cs = true ∧ ∀ U ∈ z.toList, U.oneCell' = true := by
      rcases hi with ⟨t, ho, hz, hok, hf⟩ | ⟨t, x, ho, hok, hf, rfl⟩
      · obtain ⟨z, z1, z2, z3⟩ := tzr_ars (P := C.P) (G := G) (h := w.heap) (M := Mut E.X G) (w := w) hz hf
        exact ⟨t, z.cells, by simp [execOp, ho, Instr.alloc, z1, newVar, newRow], z2, hok, z3⟩
      · have hc := cells_ar (hρ x) hf
        exact ⟨t, (a.eval x).cells, by simp [execOp, ho, Instr.box, newVar, newRow], hc.1, cells_ok hok, hc.2⟩
    obtain ⟨G', f', e1, _, _⟩ := f.alH t (keptHs_ar _ _ hc) (keptHs_still _ ho) h1c
    rw [h1]
    refine T.v (.href σ.mem.heap.length 0) _ _ dm G' rfl ⟨rfl, rfl⟩ (by simpa using f') (by simp only [ar]; exact ⟨_, e1, rfl⟩) rfl
  | app s ys sz =>
    obtain ⟨c, s0, x, t, e, by_, z, ho, hcal, hargs, hty, h1, h2, h3, h4, h5, h6, h7, rfl, hys⟩ := hi
    simp only [mact] at hm
    have ha' : c.args = #[s0, x] := by rw [← Array.toArray_toList (xs := c.args), hargs]
    have ht' : c.argTypes = #[t, t] := by rw [← Array.toArray_toList (xs := c.argTypes), hty]
    obtain ⟨v, V', w', G', rfl, hrun, io, f', hv, hn⟩ := f.app (P := C.P) h1 h2 h3 h4 h5 h6 h7 (hρ s0) (sl_rep (hρ x) hys) hm o.type
    have : (execOp a.eval o).run C.P w = .ok (.value V') w' := by
      obtain ⟨callee, args, argTypes⟩ := c
      simp only at hcal ha' ht'
      subst hcal; subst ha'; subst ht'
      simp only [execOp, ho, resolve, invoke, builtin, Sem.run_bind, Sem.run_pure, Result.andThen_ok, List.map_toArray, List.map_cons, List.map_nil, hrun]
    rw [this]
    exact T.v v V' w' dm G' rfl io f' hv (hn ps)
  | call g args =>
    obtain ⟨c, g0, first, caps, ho, hcal, hg, rfl⟩ := hi
    simp only [mact] at hm
    have hv := hρ g0
    rw [hg] at hv
    simp only [ar] at hv
    obtain ⟨Fs, Cs, e1, e2, e3, e4, e5⟩ := hv
    have ha : ars G w.heap (Mut E.X G) (first ++ c.args.toList.map (opv σ.tmps) ++ caps) (Fs ++ c.args.toList.map a.eval ++ Cs) :=
      ars_append _ _ _ _ (ars_append _ _ _ _ e4 (ars_map _ _ _ fun x _ => hρ x)) e5
    obtain ⟨en, hcall⟩ := act_call hs f ha hm T
    have : (execOp a.eval o).run C.P w = .ok (.enter g (Fs ++ c.args.toList.map a.eval ++ Cs).toArray) w := by
      obtain ⟨callee, cargs, argTypes⟩ := c
      simp only at hcal
      subst hcal
      have harr : (Fs.toArray ++ cargs.map a.eval) ++ Cs.toArray = (Fs ++ cargs.toList.map a.eval ++ Cs).toArray := by simp
      simp only [execOp, ho, resolve, Deferred.ofValue, e1, invoke, Sem.run_bind, Sem.run_pure, Result.andThen_ok, harr, run_callFunc en]
    rw [this]
    exact ⟨fun h => by simp [fen, Fence.wide] at h, hcall⟩
  | yld i args =>
    obtain ⟨c, g0, ho, hcal, hg, rfl⟩ := hi
    simp only [mact] at hm
    have hv := hρ g0
    rw [hg] at hv
    simp only [ar] at hv
    obtain ⟨b, e1, e2⟩ := hv
    have ha : ars G w.heap (Mut E.X G) (c.args.toList.map (opv σ.tmps)) (c.args.toList.map a.eval) := ars_map _ _ _ fun x _ => hρ x
    obtain ⟨fn, tmps, asg, body, hrun, hround⟩ := act_yld (rd := rd) hs f e1 ha hm T
    have : (execOp a.eval o).run C.P w = .ok (.round b fn tmps asg body) w := by
      obtain ⟨callee, cargs, argTypes⟩ := c
      simp only at hcal
      subst hcal
      have harr : (#[] ++ cargs.map a.eval) = (cargs.toList.map a.eval).toArray := by apply Array.ext'; simp
      simp only [execOp, ho, resolve, Deferred.ofValue, e2, invoke, Sem.run_bind, Sem.run_pure, Result.andThen_ok, harr, hrun]
    rw [this]
    exact ⟨fun h => by simp [fen, Fence.wide] at h, hround⟩
  | pan x =>
    obtain ⟨x0, t, v, ho, hx, rfl⟩ := hi
    simp only [mact] at hm
    cases hm
    have hv := hρ x0
    rw [hx] at hv
    have hv' := hv
    simp only [ar] at hv
    obtain ⟨U, e1, e2⟩ := hv
    have : (execOp a.eval o).run C.P w = .halt (.panic (.iface t U)) w := by
      simp only [execOp, ho, e1, Instr.panic, goPanic, Sem.run_bind]
      rfl
    rw [this]
    rw [e1] at hv'
    exact T.p _ _ w dm G rfl Io.rfl f hv'

/-- One operation of a region: guard and all. -/
theorem step_sound [N0] (hs : Sound C O) (f : FR E dm G σ a w.heap) {Es : List Nat} {ops : Array Oper} {o : Oper} {r : OR} {σ' : St} (hst : stepO C O Es ops o σ = some (r, σ')) (hps : NL ps σ.tmps)
    (hal : ∀ p, allocP Es o = some p → NL [p] σ.tmps ∧ p ∉ ps)
    (hK : ∀ a' w' dm' G', r = .u → Io w w' → FR E dm' G' σ' a' w'.heap → NL ps σ'.tmps → K a' w')
    (hQ : ∀ x V w' dm' G', r = .pan x → Io w w' → FR E dm' G' σ' a w'.heap → ar G' w'.heap (Mut E.X G') x V → Q (.panic [{ v := V, recovered := false }]) a w') :
    if Region.wanted o (yielded ops a.tmps) then o.wpIn (fen rd) 0 C.P a w K Q else (∀ g, o.about C.P w a.eval = some g → (fen rd).fn g) ∧ K (a.put o.dst undef) w := by
  unfold stepO at hst
  split at hst
  · rename_i hw
    rw [want_ok f.ft ops o hw]
    split at hst
    case h_2 => cases hst
    rename_i ma hd
    simp only [Option.bind_eq_some_iff] at hst
    obtain ⟨⟨r1, m1⟩, hm, hst⟩ := hst
    refine ⟨fun _ _ => trivial, ?_⟩
    rw [Oper.semAt_eq _ _ _ (fun c hc => by rw [hc] at hd; cases hd)]
    refine act_sound (ps := ps) hs f hd hm hps (fun p cs e => hal p ?_) ⟨fun v V w' dm' G' e io f' hv hn => ?_, fun w' dm' G' e io f' => ?_, fun x V w' dm' G' e io f' hv => ?_⟩
    · subst e
      have := dec_inv hd
      obtain ⟨h1, h2, h3⟩ := this
      unfold allocP
      rcases h3 with ⟨t, ho, _⟩ | ⟨t, x, ho, _⟩ <;> simp only [ho, h1, h2] <;> rfl
    · subst e
      simp only [stepE, Option.some.injEq, Prod.mk.injEq] at hst
      obtain ⟨rfl, rfl⟩ := hst
      exact hK _ w' dm' G' rfl io (f'.put o.dst hv) (hps.put _ hn)
    · subst e
      simp only [stepE, Option.some.injEq, Prod.mk.injEq] at hst
      obtain ⟨rfl, rfl⟩ := hst
      exact hK _ w' dm' G' rfl io (f'.put (v := .undef) o.dst (by simp [ar])) (hps.put _ rfl)
    · subst e
      simp only [stepE, Option.some.injEq, Prod.mk.injEq] at hst
      obtain ⟨rfl, rfl⟩ := hst
      exact hQ x V w' dm' G' rfl io f' hv
  · rename_i hw
    rw [want_ok f.ft ops o hw]
    cases hst
    exact ⟨fun _ _ => trivial, hK _ w dm G rfl Io.rfl (f.put (v := .tup []) o.dst ⟨[], rfl, rfl, rfl⟩) (hps.put _ rfl)⟩
  · cases hst
end
end Go.Proofs.Ytmmhpmfgcenngaa
/-! A region's operations, one behind the other. -/
set_option linter.unusedVariables false
set_option linter.unusedSimpArgs false
namespace Go.Proofs.Ytmmhpmfgcenngaa
section
variable {E : Ent} {X X' : Nat → Nat → Prop} {dm ps : List Nat} {G G' : Gh} {h h' : Array Obj} {M M' : Nat → Nat → Prop} {σ : St} {a : Act} {P : Program}
variable {C : Cfg} {O : Orc} {rd : Option Nat} {w : World}

/-- The variables that are made anew along a list. -/
def lp (Es : List Nat) (ops : Array Oper) (l : List Nat) : List Nat := l.filterMap fun i => (ops[i]?).bind (allocP Es)
theorem NL.sub {ps qs : List Nat} {tm : List AV} (h : NL ps tm) (hs : ∀ p ∈ qs, p ∈ ps) : NL qs tm := fun t v ht => by
  have := h t v ht
  cases v <;> simp_all [AV.noL]
  exact fun hq => this (hs _ hq)

theorem run_sound [N0] (hs : Sound C O) {Es : List Nat} {ops : Array Oper} : ∀ (l : List Nat) {σ : St} {a : Act} {w : World} {dm : List Nat} {G : Gh} {ex : Ex} {σ' : St}, FR E dm G σ a w.heap → NL (lp Es ops l) σ.tmps → (lp Es ops l).Nodup →
    runO C O Es ops l σ = some (ex, σ') → ∀ {Q : Exit → Act → World → Prop}, (∀ e a' w', EQ E w ex σ' e a' w' → Q e a' w') → wpOpsIn (fen rd) 0 C.P ops Q l a w
  | [], σ, a, w, dm, G, ex, σ', f, hn, hd, hr, Q, hq => by
    simp only [runO, Option.some.injEq, Prod.mk.injEq] at hr
    obtain ⟨rfl, rfl⟩ := hr
    exact hq _ _ _ ⟨Io.rfl, dm, G, σ, f, rfl, rfl⟩
  | i :: rest, σ, a, w, dm, G, ex, σ', f, hn, hd, hr, Q, hq => by
    simp only [runO] at hr
    cases ho : ops[i]? with
    | none => rw [ho] at hr; cases hr
    | some o =>
      rw [ho] at hr
      simp only [Option.bind_eq_some_iff] at hr
      obtain ⟨⟨r, σ1⟩, hst, hr⟩ := hr
      have hsub : ∀ p ∈ lp Es ops rest, p ∈ lp Es ops (i :: rest) := fun p hp => by
        simp only [lp, List.filterMap_cons]
        split
        · exact hp
        · exact List.mem_cons_of_mem _ hp
      have hal : ∀ p, allocP Es o = some p → NL [p] σ.tmps ∧ p ∉ lp Es ops rest := fun p hp => by
        have hl : lp Es ops (i :: rest) = p :: lp Es ops rest := by simp [lp, List.filterMap_cons, ho, hp]
        rw [hl] at hn hd
        exact ⟨hn.sub (by simp), (List.nodup_cons.1 hd).1⟩
      have hd' : (lp Es ops rest).Nodup := by
        cases hp : allocP Es o with
        | none => have hl : lp Es ops (i :: rest) = lp Es ops rest := by simp [lp, List.filterMap_cons, ho, hp]
                  rw [← hl]; exact hd
        | some p => have hl : lp Es ops (i :: rest) = p :: lp Es ops rest := by simp [lp, List.filterMap_cons, ho, hp]
                    rw [hl] at hd; exact (List.nodup_cons.1 hd).2
      simp only [wpOpsIn, ho]
      refine step_sound (rd := rd) (K := wpOpsIn (fen rd) 0 C.P ops Q rest) (Q := Q) hs f hst (hn.sub hsub) hal (fun a' w' dm' G' e io f' hn' => ?_) (fun x V w' dm' G' e io f' hv => ?_)
      · subst e
        exact run_sound hs rest f' hn' hd' hr fun e a'' w'' q => hq e a'' w'' ⟨io.trans q.1, q.2⟩
      · subst e
        simp only [Option.some.injEq, Prod.mk.injEq] at hr
        obtain ⟨rfl, rfl⟩ := hr
        exact hq _ _ _ ⟨io, dm', G', σ1, f', ⟨V, rfl, hv⟩, ⟨σ1, rfl, rfl, fun _ _ _ h => h⟩⟩

theorem nodupB_iff : ∀ (l : List Nat), nodupB l = true → l.Nodup
  | [], _ => List.nodup_nil
  | x :: xs, h => by
    simp only [nodupB, Bool.and_eq_true, Bool.not_eq_true', List.contains_eq_mem, decide_eq_false_iff_not] at h
    exact List.nodup_cons.2 ⟨h.1, nodupB_iff xs h.2⟩
theorem range_filterMap {α β : Type} (g : α → Option β) : ∀ l : List α, (List.range l.length).filterMap (fun i => (l[i]?).bind g) = l.filterMap g
  | [] => rfl
  | x :: xs => by
    rw [List.length_cons, List.range_succ_eq_map, List.filterMap_cons]
    have := range_filterMap g xs
    simp only [List.filterMap_map, Function.comp_def, List.getElem?_cons_succ, List.getElem?_cons_zero, Option.bind_some, List.filterMap_cons, this]
theorem lp_range (Es : List Nat) (ops : Array Oper) : lp Es ops (List.range ops.size) = allocs Es ops := by
  unfold lp allocs
  rw [← range_filterMap (allocP Es) ops.toList]
  simp
theorem prep_ok [N0] (f : FR E dm G σ a h) (Es : List Nat) (ops : Array Oper) : FR E dm G (prep Es ops σ) a h ∧ NL (allocs Es ops) (prep Es ops σ).tmps := by
  unfold prep
  split
  · rename_i he; rw [he]; exact ⟨f, fun t v _ => noL_nil v⟩
  · exact f.inv _

/-- What is needed no more. -/
theorem clrT_get : ∀ (ps : List Nat) (tm : List AV) (t : Nat) (v : AV), (clrT ps tm)[t]? = some v → v = .undef ∨ tm[t]? = some v
  | [], tm, t, v, h => .inr h
  | p :: ps, tm, t, v, h => by
    rcases clrT_get ps _ t v h with e | e
    · exact .inl e
    · rw [List.getElem?_set] at e
      split at e
      · split at e
        · cases e; exact .inl rfl
        · cases e
      · exact .inr e
theorem clrT_len : ∀ (ps : List Nat) (tm : List AV), (clrT ps tm).length = tm.length
  | [], tm => rfl
  | p :: ps, tm => by rw [clrT, clrT_len ps]; simp
theorem clrT_href : ∀ (ps : List Nat) (tm tm' : List AV), (∀ (t i o : Nat), tm[t]? = some (AV.href i o) → tm'[t]? = some (AV.href i o)) → ∀ (t i o : Nat), (clrT ps tm)[t]? = some (AV.href i o) → (clrT ps tm')[t]? = some (AV.href i o)
  | [], tm, tm', h, t, i, o, k => h t i o k
  | p :: ps, tm, tm', h, t, i, o, k => clrT_href ps _ _ (fun t i o k => by
      rw [List.getElem?_set] at k ⊢
      split at k
      · split at k <;> cases k
      · rename_i hn; rw [if_neg hn]; exact h t i o k) t i o k
theorem clrM_get : ∀ (ps : List Nat) (l : List (Option (List AV))) (p : Nat) (cs : List AV), (clrM ps l)[p]? = some (some cs) → l[p]? = some (some cs)
  | [], l, t, v, h => h
  | p :: ps, l, t, v, h => by
    have e := clrM_get ps _ t v h
    rw [List.getElem?_set] at e
    split at e
    · split at e <;> simp at e
    · exact e
theorem clrM_len : ∀ (ps : List Nat) (l : List (Option (List AV))), (clrM ps l).length = l.length
  | [], l => rfl
  | p :: ps, l => by rw [clrM, clrM_len ps]; simp
theorem FR.clear [N0] (f : FR E dm G σ a h) (ps : List Nat) : FR E dm G { tmps := clrT ps σ.tmps, mem := { σ.mem with locs := clrM ps σ.mem.locs } } a h := by
  refine ⟨⟨by rw [clrT_len]; exact f.ft.tl, fun t v ht => ?_⟩, ⟨by rw [clrM_len]; exact f.fl.ll, fun p cs hp => f.fl.lc p cs (clrM_get _ _ _ _ hp)⟩, f.fk, f.hr, f.ow, f.ev, f.df⟩
  rcases clrT_get _ _ _ _ ht with e | e
  · subst e; simp [ar]
  · exact f.ft.tm t v e
theorem EQ.clear [N0] {ex : Ex} {σ' : St} {e : Exit} {a' : Act} {w' : World} (q : EQ E w ex σ' e a' w') (ps : List Nat) : EQ E w (clear ps (ex, σ')).1 (clear ps (ex, σ')).2 e a' w' := by
  obtain ⟨io, dm', G', σ'', f, x, lk⟩ := q
  refine ⟨io, dm', G', _, f.clear ps, x, ?_⟩
  cases ex with
  | pan x =>
    simp only [Like] at lk
    obtain ⟨s, e1, e2, e3⟩ := lk
    obtain ⟨_, rfl⟩ := Prod.mk.inj e1
    exact ⟨_, rfl, e2, fun t i o h => clrT_href ps _ _ (fun t i o => e3 t i o) t i o h⟩
  | _ => simp only [Like] at lk; obtain ⟨_, rfl⟩ := Prod.mk.inj lk; rfl

theorem region_list [N0] (hs : Sound C O) (f : FR E dm G σ a w.heap) {Es : List Nat} {id : Nat} {ops : Array Oper} {l : List Nat} {ro : Bool} {ex : Ex} {σ' : St} (hr : regionA C O Es l ro ops false σ = some (ex, σ')) :
    (Code.region id ops false).wpIn (fen rd) 0 C.P (EQ E w ex σ') a w := by
  unfold regionA at hr
  split at hr
  · rename_i hn
    simp only [Bool.false_eq_true, if_false] at hr
    obtain ⟨f', hl⟩ := prep_ok f Es ops
    refine wpIn_region (run_sound hs _ f' (by rw [lp_range]; exact hl) (by rw [lp_range]; exact nodupB_iff _ hn) hr fun e a' w' q => q)
  · cases hr
end
end Go.Proofs.Ytmmhpmfgcenngaa
