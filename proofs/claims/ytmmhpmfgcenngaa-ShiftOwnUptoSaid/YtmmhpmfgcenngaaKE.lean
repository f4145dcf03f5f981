/- Calls: sound. -/
import Derived.Test.YtmmhpmfgcenngaaKD
import Derived.Test.YtmmhpmfgcenngaaKA
import Derived.ChangeArms
import Derived.ChangeShapes
import Derived.ChangeOld
import Derived.ChangeReads
import Derived.DataReads
import Derived.ChangeStays
import Derived.ChangeSame
import Derived.RowKit3
set_option linter.unusedVariables false
set_option linter.unusedSimpArgs false
namespace Go.Proofs.Ytmmhpmfgcenngaa
section
variable {E : Ent} {X : Nat → Nat → Prop} {dm ps : List Nat} {G : Gh} {h : Array Obj} {M : Nat → Nat → Prop} {σ : St} {a : Act} {C : Cfg} {O : Orc} {rd : Option Nat} {w : World} {P : Program}

/-- A mark goes. -/
theorem FR.unmark [N0] {r : Nat} (f : FR E (r :: dm) G σ a h) : FR E dm G σ { a with defers := (dm.map fun r => { target := .collected r, args := #[] }) ++ E.ds } (h.setIfInBounds r (.deferred none)) ∧ Stay h (Mut E.X G) (h.setIfInBounds r (.deferred none)) (Mut E.X G) := by
  have hr := (f.ow.dm r (by simp)).2
  have hlt : r < h.size := dm_lt f.ow (by simp)
  have hne : ∀ b, b ≠ r → (h.setIfInBounds r (.deferred none))[b]? = h[b]? := fun b hb => by simp [Array.getElem?_setIfInBounds, Ne.symm hb]
  have hcel : ∀ b o, cel (h.setIfInBounds r (.deferred none)) b o = cel h b o := fun b o => by
    by_cases hb : b = r
    · subst hb
      unfold cel
      rw [hr]
      simp [Array.getElem?_setIfInBounds, hlt]
    · exact cel_same (hne b hb)
  have st : Stay h (Mut E.X G) (h.setIfInBounds r (.deferred none)) (Mut E.X G) := fun b o v e n => ⟨by rw [hcel]; exact e, n⟩
  have own : ∀ b, G.ow b ≠ .no → (h.setIfInBounds r (.deferred none))[b]? = h[b]? := fun b hb => hne b fun e => hb (e ▸ (f.ow.dm r (by simp)).1)
  have nd := List.nodup_cons.1 f.df.2.1
  refine ⟨⟨⟨f.ft.tl, fun t v hv => ar_on (Gon.refl [] G) st v _ (noL_nil v) (f.ft.tm t v hv)⟩, ⟨f.fl.ll, fun p cs hp => ?_⟩, ⟨f.fk.kl, f.fk.kt, fun t q hq => tokR_same (f.fk.kr t q hq) fun b hb => own b (by rw [f.ow.ot t b q hq hb]; simp)⟩,
    HR.same (G := G) (G' := G) st rfl rfl rfl (fun i b hb => own b (by rw [f.ow.oh i b hb]; simp)) (fun i b q hq hb => own b (by rw [f.ow.oa i b q hq hb]; simp)) f.hr,
    ⟨f.ow.oh, f.ow.oa, f.ow.ol, f.ow.ot, fun b hb => f.ow.fr b (by simpa using hb), f.ow.xo, fun q hq => ⟨(f.ow.dm q (by simp [hq])).1, by rw [hne q (fun e => nd.1 (e ▸ hq))]; exact (f.ow.dm q (by simp [hq])).2⟩⟩,
    ⟨NB_block hne (fun o ho => by simp [Array.getElem?_setIfInBounds, hlt] at ho; subst ho; exact fun _ _ _ e => by cases e) f.ev.nb, f.ev.es, f.ev.em, by simpa using f.ev.sz, f.ev.xl, fun b hb hn => ?_, fun b o v hn hv => by rw [hcel]; exact f.ev.ce b o v hn hv, f.ev.mu, f.ev.hb, f.ev.hv⟩, rfl, nd.2, fun q hq => f.df.2.2 q (by simp [hq])⟩, st⟩
  · obtain ⟨b, Vs, T, e1, e2, e3, e4, e5⟩ := f.fl.lc p cs hp
    exact ⟨b, Vs, T, e1, by rw [own b (by rw [f.ow.ol p b e1]; simp)]; exact e2, ars_on (Gon.refl [] G) st cs Vs e4 e3, e4, e5⟩
  · have h0 := f.df.2.2 r (by simp)
    rw [hne b (by omega)]
    exact f.ev.bl b hb hn

theorem leave_marks [N0] {fn : Func} {R : Ending → World → Prop} {u : FrameMode} (hu : u ≠ .run) : ∀ (dm : List Nat) (a : Act) (w : World), FR E dm G σ a w.heap →
    (∀ w', Io w w' → ∀ a' : Act, a'.tmps = a.tmps → FR E [] G σ a' w'.heap → Stay w.heap (Mut E.X G) w'.heap (Mut E.X G) → LeavesInM Fence.wide 0 P fn a.tmps R E.ds u w') → LeavesInM Fence.wide 0 P fn a.tmps R a.defers u w
  | [], a, w, f, k => by
    rw [f.df.1]
    simp only [List.map_nil, List.nil_append]
    exact k w Io.rfl a rfl f (Stay.refl _ _)
  | r :: dm, a, w, f, k => by
    rw [f.df.1]
    simp only [List.map_cons, List.cons_append, LeavesInM]
    refine ⟨hu, .inl ⟨r, _, rfl, run_takeDeferred (f.ow.dm r (by simp)).2, ?_⟩⟩
    obtain ⟨f', st⟩ := f.unmark
    have := leave_marks (fn := fn) (R := R) hu dm { a with defers := (dm.map fun r => { target := .collected r, args := #[] }) ++ E.ds } (w.putObj r (.deferred none)) f' fun w' io a' ha f'' st' => k w' (Io.trans ⟨rfl, rfl⟩ io) a' ha f'' (st.trans st')
    exact this

def resS (T : Array Value) : ResultVar → Sem Value
  | .tmp t => pure (T.getD t undef)
  | .cell c t => do loadVar t (← asAddr (T.getD c undef))
/-- A slice that is the frame's own is new. -/
theorem own_newV [N0] (f : FR E dm G σ a w.heap) (t : Nat) (xs : List Dv) (V : Value) (ht : σ.mem.toks[t]? = some (some xs.length)) (e : ar G w.heap (Mut E.X G) (.own t xs) V) : newV V := by
  simp only [ar] at e
  obtain ⟨e1, _, e3⟩ := e
  obtain ⟨r, hr, hl⟩ := f.fk.kt t _ ht
  have ho := (e3 r hr).2 hl
  have hk := f.fk.kr t r hr
  rintro A n c rfl hn
  obtain ⟨h1, _⟩ := ho
  simp only [Value.slice.injEq] at h1
  obtain ⟨h1, h2, h3⟩ := h1
  unfold tokR at hk
  cases hb : r.b with
  | none => rw [hb] at hk; simp only at hk; omega
  | some b =>
    rw [hb] at hk
    simp only at hk
    have hA : A = ⟨b, 0, none⟩ := by have := hk.1; rw [← h1] at this; simpa using this
    subst hA
    exact f.own_new (off := r.len * r.sz) (.inr (.inr ⟨t, r, hr, hb, Nat.le_refl _⟩))
/-- One result. -/
theorem res_sound [N0] (f : FR E dm G σ a w.heap) {r : ResultVar} {v : AV} (hr : resA P σ r = some v) :
    ∃ V, (resS a.tmps r).run P w = .ok V w ∧ ar G w.heap (Mut E.X G) v V ∧ v.still = true := by
  have slot : ∀ t, (σ.tmps.getD t .undef) ≠ .undef → ar G w.heap (Mut E.X G) (σ.tmps.getD t .undef) (a.tmps.getD t undef) := fun t hne => by
    cases hx : σ.tmps[t]? with
    | none => simp [List.getD, hx] at hne
    | some v =>
      have := f.ft.tm t v hx
      simpa [List.getD, hx] using this
  cases r with
  | tmp t =>
    simp only [resA] at hr
    split at hr
    · rename_i hok
      cases hr
      have hne : (σ.tmps.getD t .undef) ≠ .undef := fun e => by rw [e] at hok; simp [AV.okA] at hok
      exact ⟨_, rfl, retE_ar newV_0 (own_newV f) _ _ (slot t hne), retE_still _ hok⟩
    · cases hr
  | cell c T =>
    simp only [resA] at hr
    split at hr
    case h_2 => cases hr
    rename_i n ag hn hag
    split at hr
    case isFalse => cases hr
    rename_i hc
    split at hr
    · rename_i p off hp
      split at hr
      case h_2 => cases hr
      rename_i cs hcs
      obtain ⟨v', hv', hr⟩ := Option.bind_eq_some_iff.1 hr
      split at hr
      case isFalse => cases hr
      rename_i hok
      cases hr
      have hs := slot c (by rw [hp]; simp)
      rw [hp] at hs
      simp only [ar] at hs
      obtain ⟨b, e1, e2⟩ := hs
      obtain ⟨b', V, k1, k2, k3, _⟩ := f.ldL hn hag hc hcs hv'
      obtain rfl : b = b' := by rw [e1] at k1; simpa using k1
      exact ⟨V, by simp only [resS, e2, Sem.run_bind, asAddr, Sem.run_pure, Result.andThen]; exact k2, retE_ar newV_0 (own_newV f) _ _ k3, retE_still _ hok⟩
    · rename_i i off hp
      split at hr
      case h_2 => cases hr
      rename_i ver cs hcs
      obtain ⟨v', hv', hr⟩ := Option.bind_eq_some_iff.1 hr
      split at hr
      case isFalse => cases hr
      rename_i hok
      cases hr
      have hs := slot c (by rw [hp]; simp)
      rw [hp] at hs
      simp only [ar] at hs
      obtain ⟨b, e1, e2⟩ := hs
      obtain ⟨b', V, k1, k2, k3, _⟩ := f.ldH hn hag hc hcs hv'
      obtain rfl : b = b' := by rw [e1] at k1; simpa using k1
      exact ⟨V, by simp only [resS, e2, Sem.run_bind, asAddr, Sem.run_pure, Result.andThen]; exact k2, retE_ar newV_0 (own_newV f) _ _ k3, retE_still _ hok⟩
    · cases hr

theorem ress_sound [N0] (f : FR E dm G σ a w.heap) : ∀ (rs : List ResultVar) (vs : List AV), ressA P σ rs = some vs →
    ∃ Vs : List Value, (rs.mapM (resS a.tmps)).run P w = .ok Vs w ∧ ars G w.heap (Mut E.X G) vs Vs ∧ stillL vs = true
  | [], vs, h => by
    simp only [ressA, Option.some.injEq] at h
    subst h
    exact ⟨[], rfl, rfl, rfl⟩
  | r :: rs, vs, h => by
    simp only [ressA] at h
    split at h
    case h_2 => cases h
    rename_i v vs' h1 h2
    cases h
    obtain ⟨V, k1, k2, k3⟩ := res_sound f h1
    obtain ⟨Vs, l1, l2, l3⟩ := ress_sound f rs vs' h2
    refine ⟨V :: Vs, ?_, ⟨V, Vs, rfl, k2, l2⟩, by simp [stillL, k3, l3]⟩
    simp only [List.mapM_cons, Sem.run_bind, k1, Result.andThen, l1, Sem.run_pure]

theorem results_sound [N0] (f : FR E dm G σ a w.heap) {fn : Func} {vs : List AV} (h : ressA P σ fn.results.toList = some vs) :
    ∃ V, (results fn a.tmps).run P w = .ok V w ∧ ar G w.heap (Mut E.X G) (oneOf vs) V ∧ (oneOf vs).still = true := by
  obtain ⟨Vs, h1, h2, h3⟩ := ress_sound f _ _ h
  have hm : (results fn a.tmps).run P w = .ok (if h : Vs.toArray.size = 1 then Vs.toArray[0] else .tuple Vs.toArray) w := by
    have e : results fn a.tmps = (fn.results.mapM (resS a.tmps)) >>= fun vs => pure (if h : vs.size = 1 then vs[0] else .tuple vs) := by
      unfold results
      congr 1
    rw [e, Array.mapM_eq_mapM_toList]
    simp only [map_eq_pure_bind, Sem.run_bind, h1, Result.andThen, Sem.run_pure]
  refine ⟨_, hm, ?_⟩
  match vs, Vs, h2, h3 with
  | [], Vs, h2, h3 =>
    simp only [ars] at h2; subst h2
    exact ⟨⟨[], rfl, rfl, rfl⟩, rfl⟩
  | [v], Vs, h2, h3 =>
    simp only [ars] at h2
    obtain ⟨V, Vs', rfl, e1, rfl⟩ := h2
    simp only [stillL, Bool.and_eq_true] at h3
    exact ⟨by simpa [oneOf] using e1, h3.1⟩
  | v :: v' :: vs, Vs, h2, h3 =>
    have hl := ars_length _ _ h2
    have hne : ¬ Vs.toArray.size = 1 := by simp [hl]
    rw [dif_neg hne]
    exact ⟨⟨Vs, rfl, stills_ok _ h3, h2⟩, h3⟩

/-- What else is told of a program: no function is the machine's own; functions that are told besides are told soundly. -/
structure Fine [N0] (C : Cfg) : Prop where
  mix : C.P.follows .mixedOrders = true
  name : ∀ (f : Nat) (fn : Func), C.P.funcs[f]? = some fn → (fn.name == "runtime.NumGoroutine") = false
  ext : ∀ f x, C.ext f = some x → ∀ O, Sound C O → ∀ args heap cr heap', x O args heap = some (cr, heap') → Enters C.P f ∧ ∀ (X : Nat → Nat → Prop) (G : Gh) (w : World) (As : List Value), CE X G w.heap args As heap →
    CallsIn Fence.wide 0 C.P f As.toArray w (CQ X G w cr heap')

theorem getD_append_replicate (As : List Value) (n t : Nat) (h : As.length ≤ t) : (As.toArray ++ Array.replicate n undef).getD t undef = undef := by
  rw [Array.getD_eq_getD_getElem?, Array.getElem?_append_right (by simpa using h)]
  cases hx : (Array.replicate n undef)[t - As.toArray.size]? with
  | none => rfl
  | some v =>
    rw [Array.getElem?_replicate] at hx
    split at hx
    · cases hx; rfl
    · cases hx

theorem body_sound [N0] (hs : Sound C O) {f : Nat} {fn : Func} (hfn : C.P.funcs[f]? = some fn) {args : List AV} {heap heap' : List HO} {cr : CR} (hb : bodyA C O f fn args heap = some (cr, heap'))
    {G : Gh} {As : List Value} (ce : CE X G w.heap args As heap) : CallsIn Fence.wide 0 C.P f As.toArray w (CQ X G w cr heap') := by
  unfold bodyA at hb
  split at hb
  case h_1 => cases hb
  rename_i c hc
  obtain ⟨⟨ex, σ'⟩, hcode, hl⟩ := Option.bind_eq_some_iff.1 hb
  have hlen : As.length = args.length := ars_length _ _ ce.ag
  have fr := FR.enter (X := X) (G := G) (h := w.heap) (heap := heap) ce.nb ce.es ce.em ce.hr ce.ow ce.xl ce.lb ce.tb (tmps := (entry fn args heap).tmps) (T := As.toArray ++ Array.replicate (fn.ntmps - As.toArray.size) undef)
    (by simp [entry, hlen]) (fun t v ht => by
      simp only [entry] at ht
      rcases Nat.lt_or_ge t args.length with hlt | hge
      · rw [List.getElem?_append_left hlt] at ht
        obtain ⟨V, hV, e⟩ := ars_get _ _ ce.ag t v ht
        have : (As.toArray ++ Array.replicate (fn.ntmps - As.toArray.size) undef).getD t undef = V := by
          rw [Array.getD_eq_getD_getElem?, Array.getElem?_append_left (by simpa [hlen] using hlt)]
          simp [hV]
        rw [this]
        exact ⟨still_K (stillL_mem ce.st v (List.mem_of_getElem? ht)), e⟩
      · rw [List.getElem?_append_right hge] at ht
        rw [List.getElem?_replicate] at ht
        split at ht
        · cases ht; exact ⟨rfl, by simp [ar]⟩
        · cases ht) (List.replicate fn.ntmps none) (fun x hx => (List.mem_replicate.1 hx).2)
  have hw := hs.code none f c _ ex σ' hcode (.inl rfl) _ _ _ _ w fr
  refine callsIn_of_wp_marks hfn hc trivial (wpIn_mono hw fun e a' w' q => ?_)
  obtain ⟨io, dm', G', σ'', f', xr, lk⟩ := q
  have hend : ∀ (w2 : World) (a2 : Act) (v : AV) (V : Value) (e : Ending), Io w' w2 → FR { h0 := w.heap, G0 := G, X := X } [] G' σ'' a2 w2.heap → ar G' w2.heap (Mut X G') v V → v.still = true → (cr = .ret v ∧ e = .returned V ∨ cr = .pan v ∧ v.pure = true ∧ e = .panicked [{ v := V, recovered := false }]) → σ''.mem.heap = heap' → CQ X G w cr heap' e w2 := by
    intro w2 a2 v V e io2 f2 hv hst hcr hh
    obtain ⟨d1, d2, d3, d4⟩ := f2.drop (fun b off hx => ce.xl b off hx)
    refine ⟨io.trans io2, shr G', rfl, rfl, hh ▸ d1, d2, d3, ?_⟩
    have hv' := ar_still (G := G') (G' := shr G') d4 (fun _ _ h => h) v V hst hv
    rcases hcr with ⟨rfl, rfl⟩ | ⟨rfl, hp, rfl⟩
    · exact ⟨hst, V, rfl, hv'⟩
    · exact ⟨hst, hp, V, rfl, hv'⟩
  cases ex with
  | nor =>
    simp only [XRel] at xr; subst xr
    simp only [Like] at lk
    obtain ⟨_, rfl⟩ := Prod.mk.inj lk
    simp only [leave, Option.map_eq_some_iff] at hl
    obtain ⟨vs, hvs, he⟩ := hl
    cases he
    refine leave_marks (by simp) dm' a' w' f' fun w2 io2 a2 ha f2 st2 => ?_
    obtain ⟨V, r1, r2, r3⟩ := results_sound f2 hvs
    exact ⟨V, by rw [← ha]; exact r1, hend w2 a2 _ V _ io2 f2 r2 r3 (.inl ⟨rfl, rfl⟩) rfl⟩
  | ret =>
    simp only [XRel] at xr; subst xr
    simp only [Like] at lk
    obtain ⟨_, rfl⟩ := Prod.mk.inj lk
    simp only [leave, Option.map_eq_some_iff] at hl
    obtain ⟨vs, hvs, he⟩ := hl
    cases he
    refine leave_marks (by simp) dm' a' w' f' fun w2 io2 a2 ha f2 st2 => ?_
    obtain ⟨V, r1, r2, r3⟩ := results_sound f2 hvs
    exact ⟨V, by rw [← ha]; exact r1, hend w2 a2 _ V _ io2 f2 r2 r3 (.inl ⟨rfl, rfl⟩) rfl⟩
  | exit id => simp [leave] at hl
  | pan x =>
    simp only [XRel] at xr
    obtain ⟨V, rfl, hx⟩ := xr
    simp only [Like] at lk
    obtain ⟨σ3, e1, e2, _⟩ := lk
    obtain ⟨_, rfl⟩ := Prod.mk.inj e1
    simp only [leave] at hl
    split at hl
    case isFalse => cases hl
    rename_i hp
    cases hl
    refine leave_marks (by simp) dm' a' w' f' fun w2 io2 a2 ha f2 st2 => ?_
    exact hend w2 a2 x.erase V _ io2 f2 (erase_ar _ _ (ar_on (Gon.refl [] G') st2 x V (AV.noL_of_ok _ _ (pure_ok _ hp)) hx)) (erase_still _ (pure_ok _ hp)) (.inr ⟨rfl, erase_pure _ hp, rfl⟩) e2

theorem call_sound [N0] (hF : Fine C) (hs : Sound C O) {f : Nat} {args : List AV} {heap heap' : List HO} {cr : CR} (hc : callA C O f args heap = some (cr, heap')) :
    Enters C.P f ∧ ∀ (X : Nat → Nat → Prop) (G : Gh) (w : World) (As : List Value), CE X G w.heap args As heap → CallsIn Fence.wide 0 C.P f As.toArray w (CQ X G w cr heap') := by
  unfold callA at hc
  split at hc
  · rename_i x hx
    exact hF.ext f x hx O hs args heap cr heap' hc
  · split at hc
    · cases hc
    · rename_i fn hfn
      refine ⟨⟨fn, hfn, ?_, hF.name f fn hfn⟩, fun X G w As ce => body_sound hs hfn hc ce⟩
      unfold bodyA at hc
      split at hc
      · cases hc
      · rename_i c hb; simp [hb]
theorem fuel_sound [N0] (hF : Fine C) : ∀ k, Sound C (fuel C k)
  | 0 => ⟨fun f a h r e => by simp [fuel] at e, fun f a h cr hp e => by simp [fuel] at e, fun rd f c σ ex σ' e => by simp [fuel] at e, fun rd f c σ ex σ' e => by simp [fuel] at e⟩
  | k + 1 => ⟨fun f a h r e => (call_sound hF (fuel_sound hF k) (cr := r.1) (heap' := r.2) e).1, fun f a h cr hp e => (call_sound hF (fuel_sound hF k) e).2,
      fun rd f c σ ex σ' e hr E dm G a w fr => code_sound (fuel_sound hF k) hF.mix e hr fr, fun rd f b σ ex σ' e hr E dm G a w fr => loop_sound (fuel_sound hF k) e hr fr⟩

/-- THE TIE: what the interpreter says of a call is what the machine does. -/
theorem lim_calls [N0] [hx : ExtC C] (hF : Fine C) {f : Nat} {args : List AV} {cr : CR} {heap' : List HO} (hn : N0.n0 = w.heap.size) (h : (lim C).call f args [] = some (cr, heap')) (hst : stillL args = true) {As : List Value}
    (ha : ars nogh w.heap (fun _ _ => False) args As) : Calls C.P f As.toArray w (CQ (fun _ _ => False) nogh w cr heap') := by
  obtain ⟨k, hk⟩ := ((lim_is C hx.out).call _ _ _ _).1 h
  have hm : Mut (fun _ _ => False) nogh = fun _ _ => False := by
    funext b o
    simp only [Mut, Mh, Mf, nogh, eq_iff_iff, iff_false]
    rintro ((⟨i, e⟩ | ⟨i, r, e, _⟩) | (⟨p, e⟩ | ⟨t, r, e, _⟩) | e) <;> simp at e
  have ce : CE (fun _ _ => False) nogh w.heap args As [] := ⟨(fun b hb c T f e => by rw [Array.getElem?_eq_none (by omega)] at e; cases e), Nat.le_of_eq hn, fun b off e => by rcases e with ⟨i, q⟩ | ⟨i, r, q, _⟩ <;> simp [nogh] at q, ⟨rfl, rfl, rfl, fun i o h => by simp at h⟩, ⟨fun i b h => by simp [nogh] at h, fun i b r h => by simp [nogh] at h, fun i b h => by simp [nogh] at h, fun i b r h => by simp [nogh] at h, fun _ _ => rfl, fun _ _ _ => rfl, by simp⟩,
    fun _ _ h => h.elim, hst, by rw [hm]; exact ha, rfl, rfl⟩
  exact callsIn_wide.1 ((fuel_sound hF k).call _ _ _ _ _ hk _ _ w As ce)

/-- What a law comes to. -/
theorem lim_true [N0] [hx : ExtC C] (hF : Fine C) {f : Nat} {args : List AV} {b : Bool} {heap' : List HO} (hn : N0.n0 = w.heap.size) (h : (lim C).call f args [] = some (.ret (.d (.bool b)), heap')) (hst : stillL args = true) {As : List Value}
    (ha : ars nogh w.heap (fun _ _ => False) args As) : Calls C.P f As.toArray w fun e w' => e = .returned (.bool b) ∧ Io w w' ∧ w.heap.size ≤ w'.heap.size ∧ ∀ k, k < w.heap.size → w'.heap[k]? = w.heap[k]? := by
  refine (lim_calls hF hn h hst ha).mono fun e w' q => ?_
  obtain ⟨io, G', _, _, _, _, ev, cr⟩ := q
  obtain ⟨_, V, rfl, hV⟩ := cr
  simp only [ar, rep] at hV
  subst hV
  refine ⟨rfl, io, ev.sz, fun k hk => ev.bl k hk fun off => ?_⟩
  rintro (⟨i, e⟩ | ⟨i, r, e, _⟩) <;> simp [nogh] at e
end
end Go.Proofs.Ytmmhpmfgcenngaa
/-! What is read as data is data: the arguments of a law, as the interpreter takes them. -/
set_option linter.unusedVariables false
set_option linter.unusedSimpArgs false
namespace Go.Proofs.Ytmmhpmfgcenngaa

mutual
def dv {H : Type} : DataW H → Dv
  | .lit (.int k n) => .int k n
  | .lit (.bool b) => .bool b
  | .lit (.string bs) => .str ⟨bs.toArray⟩
  | .slice es _ => .slc (dvs es)
  | .agg ps => .agg (dcs ps)
  | _ => .slc []
def dvs {H : Type} : List (DataW H) → List Dv
  | [] => []
  | p :: ps => dv p :: dvs ps
def dcs {H : Type} : List (DataW H) → List Dv
  | [] => []
  | p :: ps => (dv p).cells ++ dcs ps
end
theorem dvs_map {H : Type} : ∀ l : List (DataW H), dvs l = l.map dv
  | [] => rfl
  | _ :: l => by rw [dvs, dvs_map l]; rfl
theorem dcs_flat {H : Type} : ∀ l : List (DataW H), dcs l = l.flatMap fun d => (dv d).cells
  | [] => rfl
  | _ :: l => by rw [dcs, dcs_flat l]; rfl

/-- Fields one behind the other. -/
def fieldsOk (P : Program) : Nat → List Field → Option Nat
  | o, [] => some o
  | o, f :: fs => if f.offset = o then fieldsOk P (o + P.cellsOf f.type) fs else none
/-- Types of plain data, closed under what they are made of. -/
def plainT (P : Program) (S : List Nat) : Bool := S.all fun t => match P.underlying t with
  | some .bool => true
  | some (.int _) => true
  | some .string => true
  | some (.slice e) => S.contains e && decide (0 < P.cellsOf e)
  | some (.struct fs) => (fs.toList.all fun f => S.contains f.type) && fieldsOk P 0 fs.toList == some (P.cellsOf t)
  | _ => false

section
variable {H : Type} {enc : TypeId × Value → H} {P : Program} {w : World} {M : Nat → Nat → Prop}

theorem rep_of_reps [N0] {x : Dv} {Vs : List Value} (e : reps w.heap M x.cells Vs) : ∃ V, rep w.heap M x V ∧ V.cells.toList = Vs ∧ ((∃ cs, x = .agg cs) → V = .agg Vs.toArray) ∧ ((∀ cs, x ≠ .agg cs) → Vs = [V]) := by
  cases x with
  | agg cs => exact ⟨.agg Vs.toArray, ⟨Vs, rfl, e⟩, by simp [Value.cells], fun _ => rfl, fun h => absurd rfl (h cs)⟩
  | int k n =>
    obtain ⟨V, Vs', rfl, e1, e2, e3⟩ := e
    simp only [reps] at e3; subst e3
    exact ⟨V, e1, by rw [(rep_one e1 (by simp)).2], by simp, fun _ => rfl⟩
  | bool b =>
    obtain ⟨V, Vs', rfl, e1, e2, e3⟩ := e
    simp only [reps] at e3; subst e3
    exact ⟨V, e1, by rw [(rep_one e1 (by simp)).2], by simp, fun _ => rfl⟩
  | str s =>
    obtain ⟨V, Vs', rfl, e1, e2, e3⟩ := e
    simp only [reps] at e3; subst e3
    exact ⟨V, e1, by rw [(rep_one e1 (by simp)).2], by simp, fun _ => rfl⟩
  | slc xs =>
    obtain ⟨V, Vs', rfl, e1, e2, e3⟩ := e
    simp only [reps] at e3; subst e3
    exact ⟨V, e1, by rw [(rep_one e1 (by simp)).2], by simp, fun _ => rfl⟩
theorem reps1 [N0] {x : Dv} {V : Value} (h : rep w.heap M x V) (ho : V.oneCell' = true) (hx : x.cells = [x]) : reps w.heap M x.cells [V] := by
  rw [hx]; exact ⟨V, [], rfl, h, ho, rfl⟩

/-- A row's elements, read one by one. -/
theorem rows_read [N0] {sz b o : Nat} (go : List Value → Option (DataW H × List MemPlace)) (a : Addr) (ha : a = ⟨b, o, none⟩) (hM : ∀ b o, ¬ M b o)
    (hgo : ∀ cs x, go cs = some x → cs.length = sz → reps w.heap M (dv x.1).cells cs) :
    ∀ (es : List (DataW H × List MemPlace)) (i : Nat), (∀ k, k < es.length → (w.cells? 0 (a.add ((i + k) * sz)) sz).bind go = es[k]?) → rows w.heap M sz (dvs (es.map (·.1))) b (o + i * sz)
  | [], i, h => trivial
  | x :: es, i, h => by
    have h0 := h 0 (by simp)
    simp only [Nat.add_zero, List.getElem?_cons_zero] at h0
    obtain ⟨cs, hc, hx⟩ := Option.bind_eq_some_iff.1 h0
    have hcs : cs.length = sz ∧ ∀ j v, cs[j]? = some v → cel w.heap b (o + i * sz + j) = some v := by
      unfold World.cells? at hc
      rw [if_pos (Nat.zero_le _)] at hc
      refine ⟨by simpa using mapM_some_length hc, fun j v hj => ?_⟩
      have hlt : j < sz := by
        have := (List.getElem?_eq_some_iff.1 hj).1
        have hl : cs.length = sz := by simpa using mapM_some_length hc
        omega
      have := mapM_some_get hc j j (by simp [hlt])
      rw [hj] at this
      rw [ha, Addr.add_lit, Addr.add_lit, cell_cel] at this
      exact this
    obtain ⟨V, v1, v2, _, _⟩ := rep_of_reps (hgo cs x hx hcs.1)
    refine ⟨⟨V, v1, by rw [← hcs.1, ← v2]; simp, fun j v hj => ⟨hcs.2 j v (by rw [← v2]; simpa using hj), hM _ _⟩⟩, ?_⟩
    have := rows_read go a ha hM hgo es (i + 1) fun k hk => by
      have := h (k + 1) (by simpa using hk)
      rw [List.getElem?_cons_succ] at this
      rw [← this, show i + 1 + k = i + (k + 1) by omega]
    rw [Nat.add_mul, Nat.one_mul, ← Nat.add_assoc] at this
    exact this

theorem fields_read [N0] {S : List Nat} (go : Nat → List Value → Option (DataW H × List MemPlace)) (cs : List Value) (hgo : ∀ t ∈ S, ∀ cs x, go t cs = some x → reps w.heap M (dv x.1).cells cs) :
    ∀ (fs : List Field) (xs : List (DataW H × List MemPlace)) (o e : Nat), (∀ f ∈ fs, f.type ∈ S) → fieldsOk P o fs = some e → e = cs.length → xs.length = fs.length →
      (∀ (i : Nat) (f : Field), fs[i]? = some f → go f.type ((cs.drop f.offset).take (P.cellsOf f.type)) = xs[i]?) → reps w.heap M (dcs (xs.map (·.1))) (cs.drop o)
  | [], xs, o, e, _, ho, he, hl, _ => by
    obtain rfl : xs = [] := List.eq_nil_of_length_eq_zero (by simpa using hl)
    simp only [fieldsOk, Option.some.injEq] at ho
    rw [List.drop_eq_nil_of_le (by omega)]
    rfl
  | f :: fs, [], o, e, _, _, _, hl, _ => by simp at hl
  | f :: fs, x :: xs, o, e, hS, ho, he, hl, hg => by
    simp only [fieldsOk] at ho
    split at ho
    case isFalse => cases ho
    rename_i hoff
    have h0 := hg 0 f rfl
    rw [hoff] at h0
    have h1 := hgo _ (hS f (by simp)) _ _ h0
    have h2 := fields_read go cs hgo fs xs (o + P.cellsOf f.type) e (fun g hg => hS g (by simp [hg])) ho he (by simpa using hl) fun i g hi => by
      have := hg (i + 1) g (by simpa using hi)
      simpa using this
    have h3 := reps_append _ _ _ _ h1 h2
    rw [← List.drop_drop, List.take_append_drop] at h3
    exact h3

theorem read_reps [N0] (hM : ∀ b o, ¬ M b o) {S : List Nat} (hS : plainT P S = true) {held : Bool} : ∀ (fuel : Nat) (t : Nat) (cs : List Value) (x : DataW H × List MemPlace), t ∈ S → DataW.trod enc P w 0 (fun _ => true) held fuel t cs = some x → reps w.heap M (dv x.1).cells cs
  | 0, t, cs, x, _, h => by simp [DataW.trod] at h
  | fuel + 1, t, cs, x, ht, h => by
    have hp := List.all_eq_true.1 hS t ht
    cases hu : P.underlying t with
    | none => rw [hu] at hp; simp at hp
    | some u =>
      rw [hu] at hp
      cases u with
      | bool =>
        obtain ⟨b, rfl, rfl⟩ := DataW.trod_bool hu h
        exact reps1 (V := .bool b) rfl rfl rfl
      | int k =>
        obtain ⟨n, rfl, rfl, _⟩ := DataW.trod_int hu h
        exact reps1 (V := .int k n) rfl rfl rfl
      | string =>
        obtain ⟨s, rfl, rfl, _⟩ := DataW.trod_string hu h
        exact reps1 (V := .string s) rfl rfl rfl
      | slice e =>
        simp only [Bool.and_eq_true, List.contains_iff_mem, decide_eq_true_eq] at hp
        rcases DataW.trod_slice hu h with ⟨rfl, rfl⟩ | ⟨a, len, cap, elems, rest, n, hn, rfl, rfl, _, hlc, _, hel, hget, _, _⟩
        · exact reps1 (x := .slc []) (V := .slice none 0 0) ⟨none, 0, rfl, Nat.le_refl _, fun _ => rfl, fun ad h => by cases h⟩ rfl rfl
        · obtain rfl : fuel = n := by omega
          have hdl : (dvs (elems.map (·.1))).length = len := by rw [dvs_map]; simp [hel]
          refine reps1 (x := .slc (dvs (elems.map (·.1)))) (V := .slice (some a) len cap) ⟨some a, cap, by rw [hdl], by rw [hdl]; exact hlc, by simp, fun ad had => ?_⟩ rfl rfl
          cases had
          rcases Nat.eq_zero_or_pos len with hz | hz
          · left
            rw [hz] at hel
            obtain rfl : elems = [] := List.eq_nil_of_length_eq_zero hel
            rfl
          · right
            have hsp : a.spot = none := by
              have h0 := hget 0 hz
              have hlt : 0 < elems.length := by omega
              rw [List.getElem?_eq_getElem hlt] at h0
              obtain ⟨c0, hc0, _⟩ := Option.bind_eq_some_iff.1 h0
              unfold World.cells? at hc0
              rw [if_pos (Nat.zero_le _)] at hc0
              have := mapM_some_get hc0 0 0 (by simp [hp.2])
              have hl0 : c0.length = P.cellsOf e := by simpa using mapM_some_length hc0
              rw [List.getElem?_eq_getElem (by omega)] at this
              simp only [Nat.zero_mul, Addr.add, if_true] at this
              unfold World.cell? at this
              split at this
              · split at this
                · cases this
                · rename_i hs; simpa using hs
              · cases this
            refine ⟨hsp, P.cellsOf e, ?_⟩
            have := rows_read (w := w) (M := M) (sz := P.cellsOf e) (b := a.block) (o := a.off) (DataW.trod enc P w 0 (fun _ => true) held fuel e) a (by obtain ⟨b, o, s⟩ := a; simp at hsp; rw [hsp]) hM
              (fun cs x hx _ => read_reps hM hS fuel e cs x hp.1 hx) elems 0 (fun k hk => by
                have := hget k (by omega)
                rw [Nat.zero_add]; exact this)
            simpa using this
      | struct fs =>
        simp only [Bool.and_eq_true, beq_iff_eq] at hp
        obtain ⟨xs, n, hn, rfl, hl, hxl, hg⟩ := DataW.trod_struct hu h
        obtain rfl : fuel = n := by omega
        have := fields_read (P := P) (w := w) (M := M) (S := S) (DataW.trod enc P w 0 (fun _ => true) held fuel) cs (fun t ht cs x hx => read_reps hM hS fuel t cs x ht hx) fs.toList xs 0 _
          (fun f hf => by
            have := List.all_eq_true.1 hp.1 f hf
            simpa using this) hp.2 hl.symm (by simpa using hxl) (fun i f hi => hg i f (by simpa using hi))
        simpa [Dv.cells, dv] using this
      | _ => simp at hp
/-- An argument. -/
theorem read_rep [N0] (hM : ∀ b o, ¬ M b o) {S : List Nat} (hS : plainT P S = true) {held : Bool} {t : Nat} (ht : t ∈ S) {v : Value} {d : DataW H} {ps : List MemPlace} (h : DataW.Trod enc P w 0 (fun _ => true) held t v d ps)
    {r : Reach} {base : Nat} (hv : Value.okWide P w r base t v) : rep w.heap M (dv d) v := by
  obtain ⟨fuel, h⟩ := h
  have h1 := read_reps hM hS fuel t _ _ ht h
  obtain ⟨V, v1, v2, v3, v4⟩ := rep_of_reps h1
  have hp := List.all_eq_true.1 hS t ht
  cases fuel with
  | zero => simp [DataW.trod] at h
  | succ n =>
  suffices hVv : V = v by rw [← hVv]; exact v1
  unfold Value.okWide at hv
  cases hu : P.underlying t with
  | none => rw [hu] at hp; simp at hp
  | some u =>
    rw [hu] at hp hv
    cases u with
    | struct fs =>
      obtain ⟨xs, m, _, he, _⟩ := DataW.trod_struct hu h
      have hd : d = .agg (xs.map (·.1)) := congrArg Prod.fst he
      simp only at hv
      obtain ⟨cs, rfl, _⟩ := hv
      rw [v3 ⟨_, by rw [hd]; rfl⟩]
      simp [Value.cells]
    | bool =>
      obtain ⟨b, hc, he⟩ := DataW.trod_bool hu h
      have hd : d = .lit (.bool b) := congrArg Prod.fst he
      simp only [Cell.okWide, Cell.ok, hu] at hv
      have := v4 (by rw [hd]; simp [dv])
      cases v <;> simp_all [Value.cells]
    | int k =>
      obtain ⟨b, hc, he, _⟩ := DataW.trod_int hu h
      have hd : d = .lit (.int k b) := congrArg Prod.fst he
      simp only [Cell.okWide, Cell.ok, hu] at hv
      have := v4 (by rw [hd]; simp [dv])
      cases v <;> simp_all [Value.cells]
    | string =>
      obtain ⟨b, hc, he, _⟩ := DataW.trod_string hu h
      have hd : d = .lit (.string b.data.toList) := congrArg Prod.fst he
      simp only [Cell.okWide, Cell.ok, hu] at hv
      have := v4 (by rw [hd]; simp [dv])
      cases v <;> simp_all [Value.cells]
    | slice e =>
      have hd : ∀ cs, dv d ≠ .agg cs := by
        rcases DataW.trod_slice hu h with ⟨_, he⟩ | ⟨a, len, cap, elems, rest, n, _, _, he, _⟩
        · have hd : d = .nil := congrArg Prod.fst he
          rw [hd]; simp [dv]
        · have hd : d = _ := congrArg Prod.fst he
          rw [hd]; simp [dv]
      simp only [Cell.okWide, Cell.ok, hu] at hv
      have := v4 hd
      cases v <;> simp_all [Value.cells]
    | _ => simp at hp
end
end Go.Proofs.Ytmmhpmfgcenngaa
/-! A law's contract, from what the interpreter says of it. -/
set_option linter.unusedVariables false
set_option linter.unusedSimpArgs false
namespace Go.Proofs.Ytmmhpmfgcenngaa
open Go.ChangeShapes Go.RowKit
section
variable {H : Type} {enc : TypeId × Value → H} {P : Program} {C : Cfg} {W W' : World} {base : Nat}

theorem plain_kids {S : List Nat} (hS : plainT P S = true) : ∀ t ∈ S, (∃ k, P.underlying t = some (.int k)) ∨ P.underlying t = some .bool ∨ P.underlying t = some .string ∨ (∃ e, P.underlying t = some (.slice e) ∧ e ∈ S ∧ 0 < P.cellsOf e) ∨
    ∃ fs, P.underlying t = some (.struct fs) ∧ (∀ f ∈ fs.toList, f.type ∈ S) ∧ fieldsOk P 0 fs.toList = some (P.cellsOf t) := by
  intro t ht
  have hp := List.all_eq_true.1 hS t ht
  cases hu : P.underlying t with
  | none => rw [hu] at hp; simp at hp
  | some u =>
    rw [hu] at hp
    cases u with
    | int k => exact .inl ⟨k, rfl⟩
    | bool => exact .inr (.inl rfl)
    | string => exact .inr (.inr (.inl rfl))
    | slice e =>
      simp only [Bool.and_eq_true, List.contains_iff_mem, decide_eq_true_eq] at hp
      exact .inr (.inr (.inr (.inl ⟨e, rfl, hp.1, hp.2⟩)))
    | struct fs =>
      simp only [Bool.and_eq_true, beq_iff_eq] at hp
      exact .inr (.inr (.inr (.inr ⟨fs, rfl, fun f hf => by
        have := List.all_eq_true.1 hp.1 f hf
        simpa using this, hp.2⟩)))
    | _ => simp at hp
theorem fieldsOk_sum : ∀ (fs : List Field) (o e : Nat), fieldsOk P o fs = some e → e = o + (fs.map fun f => P.cellsOf f.type).sum ∧ ∀ (j : Nat) f, fs[j]? = some f → f.offset = o + ((fs.take j).map fun f => P.cellsOf f.type).sum
  | [], o, e, h => by
    simp only [fieldsOk, Option.some.injEq] at h
    exact ⟨by simp [h], fun j f hj => by simp at hj⟩
  | g :: fs, o, e, h => by
    simp only [fieldsOk] at h
    split at h
    case isFalse => cases h
    rename_i ho
    obtain ⟨h1, h2⟩ := fieldsOk_sum fs _ _ h
    refine ⟨by rw [h1]; simp; omega, fun j f hj => ?_⟩
    cases j with
    | zero => simp at hj; subst hj; simp [ho]
    | succ j =>
      have := h2 j f (by simpa using hj)
      rw [this]; simp; omega
theorem plain_Kids {S : List Nat} (hS : plainT P S = true) : Kids P (· ∈ S) where
  pointer := fun {t e} ht hu => by rcases plain_kids hS t ht with ⟨k, h⟩ | h | h | ⟨e', h, _⟩ | ⟨fs, h, _⟩ <;> rw [h] at hu <;> cases hu
  slice := fun {t e} ht hu => by
    rcases plain_kids hS t ht with ⟨k, h⟩ | h | h | ⟨e', h, h1, _⟩ | ⟨fs, h, _⟩ <;> rw [h] at hu <;> cases hu
    exact h1
  array := fun {t e n} ht hu => by rcases plain_kids hS t ht with ⟨k, h⟩ | h | h | ⟨e', h, _⟩ | ⟨fs, h, _⟩ <;> rw [h] at hu <;> cases hu
  struct := fun {t fs} ht hu => by
    rcases plain_kids hS t ht with ⟨k, h⟩ | h | h | ⟨e', h, h1, _⟩ | ⟨fs', h, h1, h2⟩ <;> rw [h] at hu <;> cases hu
    obtain ⟨h3, h4⟩ := fieldsOk_sum _ _ _ h2
    exact ⟨h1, by rw [h3]; simp, fun j f hj => by rw [h4 j f hj]; simp⟩
  map := fun {t k e} ht hu => by rcases plain_kids hS t ht with ⟨k, h⟩ | h | h | ⟨e', h, _⟩ | ⟨fs, h, _⟩ <;> rw [h] at hu <;> cases hu

theorem keep_args [N0] {S : List Nat} (hS : plainT P S = true) {sp : Nat → Bool} (hh : ∀ k, k < W.heap.size → W'.heap[k]? = W.heap[k]?) : ∀ {ts : List TypeId} {vs : List Value} {ds : List (DataW H)} {ps : List MemPlace}, (∀ t ∈ ts, t ∈ S) →
    DataW.TrodAll enc P W 0 (fun _ => true) true ts vs ds ps → (∀ p ∈ ps, sp p.block = true) → (∀ p ∈ ps, p.block < W.heap.size) → DataW.TrodAll enc P W' 0 sp true ts vs ds ps
  | [], vs, ds, ps, _, h, _, _ => by
    obtain ⟨rfl, rfl, rfl⟩ := trodAll_nil h
    exact rfl
  | t :: ts, vs, ds, ps, ht, h, hp, hlt => by
    obtain ⟨v, vs1, d, ds1, a, b, rfl, rfl, rfl, ⟨n, h1⟩, h2⟩ := trodAll_cons h
    refine ⟨a, b, ⟨n, ?_⟩, keep_args hS hh (fun t h => ht t (by simp [h])) h2 (fun p h => hp p (by simp [h])) (fun p h => hlt p (by simp [h])), rfl⟩
    refine DataW.trod_stays (plain_Kids hS) (fun {t e} ht hu => ?_) (fun h => by cases h) (ht t (by simp)) h1 (fun p hp' => ?_) (fun p hp' => hp p (by simp [hp']))
    · rcases plain_kids hS t ht with ⟨k, h⟩ | h | h | ⟨e', h, _, h1⟩ | ⟨fs, h, _⟩ <;> rw [h] at hu <;> cases hu
      exact h1
    · have hl := hlt p (by simp [hp'])
      cases p with
      | cell b off =>
        simp only [World.sameAt, World.cell?]
        rw [hh b hl]
      | map b => exact hh b hl

theorem args_rep [N0] {S : List Nat} (hS : plainT P S = true) {M : Nat → Nat → Prop} (hM : ∀ b o, ¬ M b o) {G : Gh} : ∀ {ts : List TypeId} {vs : List Value} {ds : List (DataW H)} {ps : List MemPlace}, (∀ t ∈ ts, t ∈ S) →
    DataW.TrodAll enc P W 0 (fun _ => true) true ts vs ds ps → (∀ (j : Nat) t v, ts[j]? = some t → vs[j]? = some v → ∃ r base, Value.okWide P W r base t v) → ars G W.heap M (ds.map fun d => .d (dv d)) vs
  | [], vs, ds, ps, _, h, _ => by
    obtain ⟨rfl, rfl, rfl⟩ := trodAll_nil h
    exact rfl
  | t :: ts, vs, ds, ps, ht, h, hv => by
    obtain ⟨v, vs1, d, ds1, a, b, rfl, rfl, rfl, h1, h2⟩ := trodAll_cons h
    obtain ⟨r, base, hv0⟩ := hv 0 t v rfl rfl
    exact ⟨v, vs1, rfl, read_rep hM hS (ht t (by simp)) h1 hv0, args_rep hS hM (fun t h => ht t (by simp [h])) h2 fun j t v h1 h2 => hv (j + 1) t v (by simpa using h1) (by simpa using h2)⟩

/-- Nothing that was there turns: the row's word. -/
theorem post_kept [N0] {f : Func} {s : ChangeSpec} {args : Array Value} {b : Bool} {ds gs : List (DataW H)} {before : List MemPlace} {S : List Nat} (hS : plainT P S = true) (hts : ∀ t ∈ f.params.toList, t ∈ S)
    (hW : DataW.Whole enc P f.params.toList s.vars false W args.toList ds gs before) (hvars : s.vars = []) {bt : Nat} (hrt : f.resultTypes = #[bt]) (hb : P.underlying bt = some .bool)
    (hspec : (s.fn H (ds ++ gs)) = { results := [.lit (.bool b)], args := ds })
    (hio : W'.os = W.os ∧ W'.output = W.output) (hsz : W.heap.size ≤ W'.heap.size) (hh : ∀ k, k < W.heap.size → W'.heap[k]? = W.heap[k]?) :
    s.post enc P f false true false false W args (.bool b) W' := by
  have hW' := hW
  obtain ⟨p, q, h1, h2, rfl, h3, _⟩ := hW'
  rw [hvars] at h2
  obtain ⟨rfl, rfl⟩ := trodVars_none h2
  have hlt := hW.lt
  refine ⟨ds, [], p ++ [], [], p, [], hW, ?_, ?_, ?_, ?_, fun h => by cases h⟩
  · rw [hspec, hrt]
    have hr : (Value.bool b).resultList 1 = [.bool b] := rfl
    exact ⟨[], [], shut_bool hb _, rfl, rfl⟩
  · rw [hspec]
    exact keep_args hS hh hts h1 (fun x hx => by simpa using hlt x (by simp [hx])) fun x hx => hlt x (by simp [hx])
  · rw [hspec, hvars]; exact rfl
  · refine ⟨hio.1, hio.2, fun i hi => ?_⟩
    rw [hh i hi]
    have : i < W.heap.size := hi
    cases hx : W.heap[i]? with
    | none => rfl
    | some o => cases o <;> simp

/-- What has been gone through by hand is the row's word. -/
theorem law_done [N0] {f : Nat} {fn : Func} {s : ChangeSpec} {S : List Nat} (hS : plainT C.P S = true) (hts : ∀ t ∈ fn.params.toList, t ∈ S) (hvars : s.vars = []) {bt : Nat} (hrt : fn.resultTypes = #[bt]) (hb : C.P.underlying bt = some .bool)
    {args : Array Value} {ds gs : List (DataW H)} {before : List MemPlace} (hW : DataW.Whole enc C.P fn.params.toList s.vars false W args.toList ds gs before) (hspec : (s.fn H (ds ++ gs)) = { results := [.lit (.bool true)], args := ds })
    (hc : Calls C.P f args W fun e w' => e = .returned (.bool true) ∧ Io W w' ∧ W.heap.size ≤ w'.heap.size ∧ ∀ k, k < W.heap.size → w'.heap[k]? = W.heap[k]?) :
    Calls C.P f args W fun e W' => ∃ v, e = .returned v ∧ s.post enc C.P fn false true false false W args v W' :=
  hc.mono fun e W' ⟨he, hio, hsz, hh⟩ => ⟨_, he, post_kept hS hts hW hvars hrt hb hspec ⟨hio.1, hio.2⟩ hsz hh⟩
/-- THE CONTRACT. -/
theorem law_calls [N0] [ExtC C] (hF : Fine C) {f : Nat} {fn : Func} {s : ChangeSpec} {S : List Nat} (hS : plainT C.P S = true) (hts : ∀ t ∈ fn.params.toList, t ∈ S) (hvars : s.vars = []) {bt : Nat} (hrt : fn.resultTypes = #[bt]) (hb : C.P.underlying bt = some .bool)
    {args : Array Value} {ds gs : List (DataW H)} {before : List MemPlace} (hval : ∀ (j : Nat) t v, fn.params[j]? = some t → args[j]? = some v → Value.okWide C.P W .any base t v)
    (hW : DataW.Whole enc C.P fn.params.toList s.vars false W args.toList ds gs before) (hspec : (s.fn H (ds ++ gs)) = { results := [.lit (.bool true)], args := ds })
    {heap' : List HO} (hn : N0.n0 = W.heap.size) (hlaw : (lim C).call f (ds.map fun d => .d (dv d)) [] = some (.ret (.d (.bool true)), heap')) :
    Calls C.P f args W fun e W' => ∃ v, e = .returned v ∧ s.post enc C.P fn false true false false W args v W' := by
  have hW' := hW
  obtain ⟨p, q, h1, _, rfl, _, _⟩ := hW'
  have har := args_rep (G := nogh) (M := fun _ _ => False) hS (fun _ _ h => h) hts h1 fun j t v h1 h2 => ⟨.any, base, hval j t v (by simpa using h1) (by simpa using h2)⟩
  have hst : stillL (ds.map fun d => AV.d (dv d)) = true := stillL_of fun x hx => by
    obtain ⟨d, _, rfl⟩ := List.mem_map.1 hx
    rfl
  have := lim_true hF hn hlaw hst har
  simp only [Array.toArray_toList] at this
  refine this.mono fun e W' ⟨he, hio, hsz, hh⟩ => ⟨_, he, post_kept hS hts hW hvars hrt hb hspec ⟨hio.1, hio.2⟩ hsz hh⟩
end
end Go.Proofs.Ytmmhpmfgcenngaa
namespace Go.Proofs.Ytmmhpmfgcenngaa
/-! ### places in a function's code -/
def bodyOf (f : Func) : Code := f.body.getD .skip
def cf [N0] : Code → Code
  | .seq a _ => a
  | .cond _ a _ => a
  | .block _ a => a
  | .loop a => a
  | .rangeFunc _ _ a _ => a
  | c => c
def cs : Code → Code
  | .seq _ b => b
  | .cond _ _ b => b
  | .rangeFunc _ _ _ b => b
  | c => c

end Go.Proofs.Ytmmhpmfgcenngaa
