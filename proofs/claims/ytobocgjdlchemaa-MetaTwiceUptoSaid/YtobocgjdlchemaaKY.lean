/- Functions that are told besides: what is told is what the machine does. -/
import Derived.Test.YtobocgjdlchemaaCf
set_option linter.unusedVariables false
set_option linter.unusedSimpArgs false
namespace Go.Proofs.Ytobocgjdlchemaa
open Go.Proofs

instance : ExtC C := ⟨fun f x h args heap => extT_cts f x h args heap⟩
theorem name_ok : (Try.prog.funcs.all fun fn => !(fn.name == "runtime.NumGoroutine")) = true := by kernel_rfl
theorem name_of (f : Nat) (fn : Func) (h : C.P.funcs[f]? = some fn) : (fn.name == "runtime.NumGoroutine") = false := by
  have := Array.all_eq_true_iff_forall_mem.1 name_ok fn (Array.mem_of_getElem? h)
  simpa using this
section
variable {E : Ent} {X : Nat → Nat → Prop} {dm ps : List Nat} {G : Gh} {h : Array Obj} {M : Nat → Nat → Prop} {σ : St} {a : Act} {O : Orc} {rd : Option Nat} {w : World} {P : Program}
theorem enter_fr (fn : Func) {args : List AV} {heap : List HO} {As : List Value} (ce : CE X G w.heap args As heap) :
    ∃ G', FR { h0 := w.heap, G0 := G, X := X } [] G' (entry fn args heap) { tmps := As.toArray ++ Array.replicate (fn.ntmps - As.toArray.size) undef, defers := [] } w.heap ∧ (∀ p b : Nat, G'.lb[p]? ≠ some (some b)) ∧ G'.tb = [] := by
  have hlen : As.length = args.length := ars_length _ _ ce.ag
  refine ⟨_, FR.enter (X := X) (G := G) (h := w.heap) (heap := heap) ce.hr ce.ow ce.xl ce.lb ce.tb (tmps := (entry fn args heap).tmps) (T := As.toArray ++ Array.replicate (fn.ntmps - As.toArray.size) undef)
    (by simp [entry, hlen]) (fun t v ht => by
      simp only [entry] at ht
      rcases Nat.lt_or_ge t args.length with hlt | hge
      · rw [List.getElem?_append_left hlt] at ht
        obtain ⟨V, hV, e⟩ := ars_get _ _ ce.ag t v ht
        have : (As.toArray ++ Array.replicate (fn.ntmps - As.toArray.size) undef).getD t undef = V := by
          rw [Array.getD_eq_getD_getElem?, Array.getElem?_append_left (by simpa [hlen] using hlt)]
          simp [hV]
        rw [this]
        exact ⟨still_K (stillL_mem ce.st v (List.mem_of_getElem? ht)), e⟩
      · rw [List.getElem?_append_right hge] at ht
        rw [List.getElem?_replicate] at ht
        split at ht
        · cases ht; exact ⟨rfl, by simp [ar]⟩
        · cases ht) (List.replicate fn.ntmps none) (fun x hx => (List.mem_replicate.1 hx).2), fun p b e => ?_, ce.tb⟩
  simp only [List.getElem?_map, Option.map_eq_some_iff] at e
  obtain ⟨_, _, e⟩ := e
  cases e
theorem EV.trans {h0 h1 h2 : Array Obj} {G0 G1 G2 : Gh} {ds ds' ds'' : List Deferred} (f : EV { h0 := h0, G0 := G0, X := X, ds := ds } G1 h1) (g : EV { h0 := h1, G0 := G1, X := X, ds := ds' } G2 h2) : EV { h0 := h0, G0 := G0, X := X, ds := ds'' } G2 h2 where
  sz := Nat.le_trans f.sz g.sz
  xl := f.xl
  bl := fun b hb hn => (g.bl b (Nat.lt_of_lt_of_le hb f.sz) fun off e => hn off (f.mu b off hb (.inl e))).trans (f.bl b hb hn)
  ce := fun b off v hn e => g.ce b off v (fun k => hn (f.mu b off (cel_lt e) (.inl k))) (f.ce b off v hn e)
  mu := fun b off hb e => f.mu b off hb (.inl (g.mu b off (Nat.lt_of_lt_of_le hb f.sz) e))
  hb := fun i b e => g.hb i b (f.hb i b e)
  hv := fun i v e => by
    obtain ⟨v1, e1, l1, k1⟩ := f.hv i v e
    obtain ⟨v2, e2, l2, k2⟩ := g.hv i v1 e1
    exact ⟨v2, e2, Nat.le_trans l1 l2, fun he r hr => k1 (by omega) r (k2 (by omega) r hr)⟩
/-- A deferred call is laid down. -/
theorem FR.defer {h0 : Array Obj} {G0 : Gh} (f : FR { h0 := h0, G0 := G0, X := X } [] G σ a h) (hl : ∀ p b : Nat, G.lb[p]? ≠ some (some b)) (ht : G.tb = []) (d : Deferred) :
    FR { h0 := h, G0 := G, X := X, ds := [d] } [] G σ { a with defers := [d] } h :=
  ⟨f.ft, f.fl, f.fk, f.hr, f.ow, ⟨Nat.le_refl _, fun b off hx => Nat.lt_of_lt_of_le (f.ev.xl b off hx) f.ev.sz, fun _ _ _ => rfl, fun _ _ _ _ e => e, fun b off _ e => e.elim id fun q => by
      rcases q with ⟨p, q⟩ | ⟨t, r, q, _⟩
      · exact absurd q (hl p b)
      · rw [ht] at q; simp at q, fun _ _ h => h, fun i v hv => ⟨v, hv, Nat.le_refl _, fun _ _ h => h⟩⟩, ⟨rfl, List.nodup_nil, by simp⟩⟩

section
variable {ops : Array Oper} {Q : Exit → Act → World → Prop} {i : Nat} {rest : List Nat} {w' : World}
theorem opI_value (o : Oper) {v : Value} (ho : ops[i]? = some o) (hg : o.guard = none) (hr : (execOp a.eval o).run P w = .ok (.value v) w') (h : wpOpsIn Fence.wide 0 P ops Q rest (a.put o.dst v) w') : wpOpsIn Fence.wide 0 P ops Q (i :: rest) a w := by
  simp only [wpOpsIn, ho]
  have : Region.wanted o (yielded ops a.tmps) = true := by simp [Region.wanted, hg]
  rw [if_pos this]
  refine ⟨fun _ _ => trivial, ?_⟩
  rw [show Fence.wide.round = none from rfl, Oper.semAt_none, hr]
  exact h
theorem opI_defer (o : Oper) {d : Deferred} (ho : ops[i]? = some o) (hg : o.guard = none) (hr : (execOp a.eval o).run P w = .ok (.defer d) w') (h : wpOpsIn Fence.wide 0 P ops Q rest ({ a with defers := d :: a.defers }.put o.dst undef) w') : wpOpsIn Fence.wide 0 P ops Q (i :: rest) a w := by
  simp only [wpOpsIn, ho]
  have : Region.wanted o (yielded ops a.tmps) = true := by simp [Region.wanted, hg]
  rw [if_pos this]
  refine ⟨fun _ _ => trivial, ?_⟩
  rw [show Fence.wide.round = none from rfl, Oper.semAt_none, hr]
  exact h
theorem opI_call (o : Oper) {f : Nat} {args : Array Value} (ho : ops[i]? = some o) (hg : o.guard = none) (hr : (execOp a.eval o).run P w = .ok (.enter f args) w') (h : CallsIn Fence.wide 0 P f args w' fun
      | .returned v, w'' => wpOpsIn Fence.wide 0 P ops Q rest (a.put o.dst v) w''
      | .panicked chain, w'' => Q (.panic chain) a w''
      | .outgrown, _ => LetsOut Q) : wpOpsIn Fence.wide 0 P ops Q (i :: rest) a w := by
  simp only [wpOpsIn, ho]
  have : Region.wanted o (yielded ops a.tmps) = true := by simp [Region.wanted, hg]
  rw [if_pos this]
  refine ⟨fun _ _ => trivial, ?_⟩
  rw [show Fence.wide.round = none from rfl, Oper.semAt_none, hr]
  exact ⟨fun h => by simp [Fence.wide] at h, h⟩
end
theorem eval_put {t : Nat} {V : Value} (ht : t < a.tmps.size) : (a.put (some t) V).eval (.tmp t) = V := by
  simp [Act.put, Act.eval, Array.getD_eq_getD_getElem?, Array.getElem?_setIfInBounds, ht]
theorem opv_set_ne {tm : List AV} {t s : Nat} {v : AV} (hne : s ≠ t) : (tm.set t v).getD s .undef = tm.getD s .undef := by
  simp [List.getD, List.getElem?_set, Ne.symm hne]
theorem opv_set {tm : List AV} {t : Nat} {v : AV} (h : t < tm.length) : (tm.set t v).getD t .undef = v := by
  simp [List.getD, List.getElem?_set, h]
/-- A piece of code that comes through. -/
theorem step_piece (hs : Sound C O) {f : Nat} {c : Code} {σ' : St} {Q : Exit → Act → World → Prop} {K : Act → World → Prop} (hc : O.code f c σ = some (.nor, σ')) (fr : FR E dm G σ a w.heap)
    (k : ∀ a' w' dm' G', Io w w' → FR E dm' G' σ' a' w'.heap → K a' w') : c.wpIn Fence.wide 0 C.P (Exit.then K Q) a w := by
  refine wpIn_mono (hs.code none _ _ _ _ _ hc (.inl rfl) _ _ _ _ _ fr) fun e a' w' q => ?_
  obtain ⟨io, dm', G', σ'', f', xr, lk⟩ := q
  simp only [XRel] at xr; subst xr
  simp only [Like] at lk
  obtain ⟨_, rfl⟩ := Prod.mk.inj lk
  exact k _ _ _ _ io f'
theorem enters_of (f : Nat) (fn : Func) (h : C.P.funcs[f]? = some fn) (hb : fn.body.isSome = true) : Enters C.P f := ⟨fn, h, hb, name_of f fn h⟩

theorem res_done {n u v : Nat} {e : Int} (h2 : σ.tmps.getD 2 .undef = .href n 0) (h3 : σ.tmps.getD 3 .undef = .href (n + 1) 0) (hn : σ.mem.heap[n]? = some (.var u zTerm)) (hm : σ.mem.heap[n + 1]? = some (.var v [.d (.int .i64 e)])) :
    ressA C.P σ Try.f48.results.toList = some [.d (.agg [.int .i64 0, .int .i64 0, .slc []]), .d (.int .i64 e)] := by
  rw [res_48]
  simp only [ressA, resA, C_P, tsz_24, tag_24, tsz_36, tag_36, h2, h3, hn, hm]
  rfl

theorem done_sound (hs : Sound C O) {args : List AV} {heap heap' : List HO} {cr : CR} (h : doneX O args heap = some (cr, heap')) :
    Enters C.P 48 ∧ ∀ (X : Nat → Nat → Prop) (G : Gh) (w : World) (As : List Value), CE X G w.heap args As heap → CallsIn Fence.wide 0 C.P 48 As.toArray w (CQ X G w cr heap') := by
  refine ⟨enters_of _ _ Try.func48 rfl, fun X G w As ce => ?_⟩
  unfold doneX at h
  split at h
  case h_2 => cases h
  rename_i x
  obtain ⟨⟨ex, σ2⟩, hcode, hend⟩ := Option.bind_eq_some_iff.1 h
  obtain ⟨G1, f0, hl1, ht1⟩ := enter_fr Try.f48 ce
  have hlen : As.length = 1 := ars_length _ _ ce.ag
  refine callsIn_of_wp_marks (fn := Try.f48) Try.func48 rfl trivial ?_
  show (Code.seq (cf (bodyOf Try.f48)) (.seq (cf (cs (bodyOf Try.f48))) (cs (cs (bodyOf Try.f48))))).wpIn _ _ _ _ _ _
  generalize cs (cs (bodyOf Try.f48)) = post at hcode ⊢
  generalize ha0 : ({ tmps := As.toArray ++ Array.replicate (Try.f48.ntmps - As.toArray.size) undef, defers := [] } : Act) = a0 at f0 ⊢
  obtain ⟨z, z1, z2, z3⟩ := tzr_ars (P := C.P) (G := G1) (h := w.heap) (M := Mut X G1) (w := w) tzr_24 rfl
  obtain ⟨G2, f1, e1, l1, t1⟩ := f0.alH 24 (cs := zTerm) z2 rfl z3
  have f1p := f1.put (some 2) (v := .href heap.length 0) (V := .pointer (some ⟨w.heap.size, 0, none⟩)) (by simp only [ar]; exact ⟨_, e1, rfl⟩)
  refine wpIn_seq (wpIn_region ?_)
  refine opI_value (v := .pointer (some ⟨w.heap.size, 0, none⟩)) (w' := { w with heap := w.heap.push (.cells z.cells 24) }) _ rfl rfl (by simp [execOp, Instr.alloc, z1, newVar, newRow]) ?_
  generalize hw1 : ({ w with heap := w.heap.push (.cells z.cells 24) } : World) = w1
  have hw1h : w1.heap = w.heap.push (.cells z.cells.toList.toArray 24) := by rw [← hw1]
  rw [← hw1h] at f1p
  have io1 : Io w w1 := by rw [← hw1]; exact ⟨rfl, rfl⟩
  obtain ⟨y, y1, y2, y3⟩ := tzr_ars (P := C.P) (G := G2) (h := w1.heap) (M := Mut X G2) (w := w1) tzr_36 rfl
  obtain ⟨G3, f2, e2, l2, t2⟩ := f1p.alH 36 (cs := [.d (.int .i64 0)]) y2 rfl y3
  have e2' : G3.hb[heap.length + 1]? = some w1.heap.size := by
    have hl : (heap ++ [HO.var 0 zTerm]).length = heap.length + 1 := by simp
    rw [← hl]; exact e2
  have f2p := f2.put (some 3) (v := .href (heap.length + 1) 0) (V := .pointer (some ⟨w1.heap.size, 0, none⟩)) (by simp only [ar]; exact ⟨_, e2', rfl⟩)
  refine opI_value (v := .pointer (some ⟨w1.heap.size, 0, none⟩)) (w' := { w1 with heap := w1.heap.push (.cells y.cells 36) }) _ rfl rfl (by simp [execOp, Instr.alloc, y1, newVar, newRow]) ?_
  generalize hw2 : ({ w1 with heap := w1.heap.push (.cells y.cells 36) } : World) = w2
  have hw2h : w2.heap = w1.heap.push (.cells y.cells.toList.toArray 36) := by rw [← hw2]
  rw [← hw2h] at f2p
  have io2 : Io w w2 := by rw [← hw2]; exact io1.trans ⟨rfl, rfl⟩
  show ((Code.seq (cf (cs (bodyOf Try.f48))) post)).wpIn _ _ _ _ ((a0.put (some 2) (.pointer (some ⟨w.heap.size, 0, none⟩))).put (some 3) (.pointer (some ⟨w1.heap.size, 0, none⟩))) w2
  generalize ha2 : (a0.put (some 2) (.pointer (some ⟨w.heap.size, 0, none⟩))).put (some 3) (.pointer (some ⟨w1.heap.size, 0, none⟩)) = a2
  rw [ha2] at f2p
  have htl : (entry Try.f48 [x] heap).tmps.length = 14 := rfl
  have hp2 := f2p.ft.opv (.tmp 2)
  have hp3 := f2p.ft.opv (.tmp 3)
  have ho2 : opv (((entry Try.f48 [x] heap).tmps.set 2 (.href heap.length 0)).set 3 (.href (heap.length + 1) 0)) (.tmp 2) = .href heap.length 0 := by
    show List.getD _ 2 AV.undef = _
    rw [opv_set_ne (by decide), opv_set (by rw [htl]; decide)]
  have ho3 : opv (((entry Try.f48 [x] heap).tmps.set 2 (.href heap.length 0)).set 3 (.href (heap.length + 1) 0)) (.tmp 3) = .href (heap.length + 1) 0 := by
    show List.getD _ 3 AV.undef = _
    rw [opv_set (by simp [htl])]
  simp only [putA] at hp2 hp3
  rw [ho2] at hp2
  rw [ho3] at hp3
  simp only [ar] at hp2 hp3
  obtain ⟨b2, g2, p2⟩ := hp2
  obtain ⟨b3, g3, p3⟩ := hp3
  have hsz : a2.tmps.size = 14 := by
    have := f2p.ft.tl
    simp only [putA, List.length_set] at this
    rw [← this]; exact htl
  have hd2 : a2.defers = [] := by simpa using f2p.df.1
  have hV : Value.func (.func 52) (Array.map a2.eval #[]) (Array.map a2.eval #[.tmp 2, .tmp 3]) = .func (.func 52) #[] #[.pointer (some ⟨b2, 0, none⟩), .pointer (some ⟨b3, 0, none⟩)] := by simp [p2, p3]
  refine wpIn_seq (wpIn_region ?_)
  refine opI_value (v := .func (.func 52) #[] #[.pointer (some ⟨b2, 0, none⟩), .pointer (some ⟨b3, 0, none⟩)]) (w' := w2) _ rfl rfl (by rw [← hV]; rfl) ?_
  have f3 := f2p.put (some 4) (v := .undef) (V := .func (.func 52) #[] #[.pointer (some ⟨b2, 0, none⟩), .pointer (some ⟨b3, 0, none⟩)]) (by simp [ar])
  have hev := eval_put (a := a2) (t := 4) (V := .func (.func 52) #[] #[.pointer (some ⟨b2, 0, none⟩), .pointer (some ⟨b3, 0, none⟩)]) (by rw [hsz]; decide)
  have hd3 : (a2.put (some 4) (.func (.func 52) #[] #[.pointer (some ⟨b2, 0, none⟩), .pointer (some ⟨b3, 0, none⟩)])).defers = [] := hd2
  show wpOpsIn _ _ _ _ _ [1] (a2.put (some 4) (.func (.func 52) #[] #[.pointer (some ⟨b2, 0, none⟩), .pointer (some ⟨b3, 0, none⟩)])) w2
  generalize a2.put (some 4) (.func (.func 52) #[] #[.pointer (some ⟨b2, 0, none⟩), .pointer (some ⟨b3, 0, none⟩)]) = a3 at f3 hev hd3 ⊢
  refine opI_defer (d := { target := .fn (.func 52) #[.pointer (some ⟨b2, 0, none⟩), .pointer (some ⟨b3, 0, none⟩)], args := #[] }) (w' := w2) _ rfl rfl (by
    simp [execOp, resolve, hev, Deferred.ofValue]) ?_
  rw [hd3]
  have f4 := f3.defer (by rw [l2, l1]; exact hl1) (by rw [t2, t1]; exact ht1) { target := .fn (.func 52) #[.pointer (some ⟨b2, 0, none⟩), .pointer (some ⟨b3, 0, none⟩)], args := #[] }
  generalize hdd : ({ target := .fn (.func 52) #[.pointer (some ⟨b2, 0, none⟩), .pointer (some ⟨b3, 0, none⟩)], args := #[] } : Deferred) = d at f4 ⊢
  have ev0 := f3.ev
  show post.wpIn _ _ _ _ { a3 with defers := [d] } w2
  have hw := hs.code none _ _ _ _ _ hcode (.inl rfl) _ _ _ _ w2 (show FR { h0 := w2.heap, G0 := G3, X := X, ds := [d] } [] G3 (done0 x heap) { a3 with defers := [d] } w2.heap from by
    have : done0 x heap = { tmps := putA (putA (putA (entry Try.f48 [x] heap).tmps (some 2) (.href heap.length 0)) (some 3) (.href (heap.length + 1) 0)) (some 4) .undef, mem := { locs := List.replicate Try.f48.ntmps none, heap := (heap ++ [.var 0 zTerm]) ++ [.var 0 [.d (.int .i64 0)]], toks := [] } } := by
      simp [done0, putA]
    rw [this]; exact f4)
  refine wpIn_mono hw fun e a' w' q => ?_
  obtain ⟨io, dm', G', σ'', f', xr, lk⟩ := q
  have en := enters_of _ _ Try.func52 rfl
  have hinv : ∀ w, (invoke d.target d.args).run C.P w = .ok (.enter 52 #[.pointer (some ⟨b2, 0, none⟩), .pointer (some ⟨b3, 0, none⟩)]) w := fun w => by
    rw [← hdd]
    simp [invoke, run_callFunc en]
  have fin : ∀ (w5 : World) (σe : St) (Ge : Gh) (ae : Act) (vs : List AV), Io w2 w5 → FR { h0 := w2.heap, G0 := G3, X := X, ds := [d] } [] Ge σe ae w5.heap → ressA C.P σe Try.f48.results.toList = some vs → ae.tmps = a'.tmps → cr = .ret (oneOf vs) → σe.mem.heap = heap' →
      LeavesInM Fence.wide 0 C.P Try.f48 a'.tmps (CQ X G w cr heap') [] .returning w5 := by
    intro w5 σe Ge ae vs io5 f5 hvs ha hcr hh
    obtain ⟨V, r1, r2, r3⟩ := results_sound f5 hvs
    obtain ⟨d1, d2, d3, d4⟩ := f5.drop (fun b off hx => Nat.lt_of_lt_of_le (ce.xl b off hx) ev0.sz)
    refine ⟨V, by rw [← ha]; exact r1, io2.trans io5, shr Ge, rfl, rfl, hh ▸ d1, d2, ev0.trans d3, ?_⟩
    subst hcr
    exact ⟨r3, V, rfl, ar_still (G := Ge) (G' := shr Ge) d4 (fun _ _ h => h) _ V r3 r2⟩
  have deferred : ∀ (u u' : FrameMode) (w4 w5 : World), u ≠ .run → settle u' = .returning → CallsDIn Fence.wide 0 C.P 52 #[.pointer (some ⟨b2, 0, none⟩), .pointer (some ⟨b3, 0, none⟩)] u w4 (fun e u1 w1 => e = .returned (.tuple #[]) ∧ u1 = u' ∧ w1 = w5) →
      LeavesInM Fence.wide 0 C.P Try.f48 a'.tmps (CQ X G w cr heap') [] .returning w5 → LeavesInM Fence.wide 0 C.P Try.f48 a'.tmps (CQ X G w cr heap') [d] u w4 := by
    intro u u' w4 w5 hu hset hcall hk
    refine ⟨hu, .inr ⟨fun h => by simp [Fence.wide] at h, .func 52, #[.pointer (some ⟨b2, 0, none⟩), .pointer (some ⟨b3, 0, none⟩)], 52, #[.pointer (some ⟨b2, 0, none⟩), .pointer (some ⟨b3, 0, none⟩)], by rw [← hdd], hinv w4, fun _ _ => trivial, hcall.mono ?_⟩⟩
    rintro e u1 w1 ⟨rfl, rfl, rfl⟩
    show LeavesInM _ _ _ _ _ _ [] (settle u1) w1
    rw [hset]; exact hk
  cases ex with
  | nor =>
    simp only [XRel] at xr; subst xr
    simp only [Like] at lk
    obtain ⟨_, rfl⟩ := Prod.mk.inj lk
    simp only [doneEnd, leave, Option.map_eq_some_iff] at hend
    obtain ⟨vs, hvs, he⟩ := hend
    cases he
    refine leave_marks (by simp) dm' a' w' f' fun w5 io5 a5 ha5 f5 st5 => ?_
    exact deferred _ _ _ _ (by simp) rfl (rec_ret _ _ _ _) (fin w5 σ'' G' a5 vs (io.trans io5) f5 hvs ha5 rfl rfl)
  | ret =>
    simp only [XRel] at xr; subst xr
    simp only [Like] at lk
    obtain ⟨_, rfl⟩ := Prod.mk.inj lk
    simp only [doneEnd, leave, Option.map_eq_some_iff] at hend
    obtain ⟨vs, hvs, he⟩ := hend
    cases he
    refine leave_marks (by simp) dm' a' w' f' fun w5 io5 a5 ha5 f5 st5 => ?_
    exact deferred _ _ _ _ (by simp) rfl (rec_ret _ _ _ _) (fin w5 σ'' G' a5 vs (io.trans io5) f5 hvs ha5 rfl rfl)
  | exit id => simp [doneEnd] at hend
  | pan x =>
    simp only [doneEnd] at hend
    unfold panK at hend
    split at hend
    case h_2 => cases hend
    rename_i t n
    split at hend
    case isFalse => cases hend
    rename_i ht
    subst ht
    unfold recK at hend
    split at hend
    case h_2 => cases hend
    rename_i i j u o1 o2 o3 v o4 k2 k3 k4 k5
    split at hend
    case isFalse => cases hend
    rename_i hij
    obtain ⟨rfl, rfl⟩ := hij
    cases hend
    simp only [XRel] at xr
    obtain ⟨V, rfl, hx⟩ := xr
    simp only [ar, rep] at hx
    obtain ⟨U, rfl, rfl⟩ := hx
    simp only [Like] at lk
    obtain ⟨σ3, e3, hh, hk⟩ := lk
    obtain ⟨_, rfl⟩ := Prod.mk.inj e3
    have getH : ∀ (t k : Nat), σ2.tmps.getD t .undef = .href k 0 → σ''.tmps.getD t .undef = .href k 0 := fun t k ht => by
      have : σ2.tmps[t]? = some (.href k 0) := by
        rw [List.getD_eq_getElem?_getD] at ht
        cases hx : σ2.tmps[t]? with
        | none => rw [hx] at ht; simp at ht
        | some v => rw [hx] at ht; simp at ht; rw [ht]
      rw [List.getD_eq_getElem?_getD, hk t k 0 this]
      rfl
    have q2 := getH _ _ k2
    have q3 := getH _ _ k3
    refine leave_marks (by simp) dm' a' w' f' fun w4 io4 a4 ha4 f4 st4 => ?_
    obtain ⟨c2, w5, G5, m1, m2, io5, f5⟩ := f4.stH (P := C.P) (cs := zTerm) (Vs := [.int .i64 0, .int .i64 0, .slice none 0 0]) heap.length 0 (by rw [hh]; exact k4) (by simp [zTerm]) (by
      simp only [zTerm, ars, ar, rep]
      exact ⟨_, _, rfl, rfl, _, _, rfl, rfl, _, _, rfl, ⟨⟨none, 0, rfl, Nat.le_refl _, fun _ => rfl, by simp⟩, none, rfl⟩, rfl⟩) rfl (by simp [Value.oneCell']) (.inl (by simp))
    obtain rfl : b2 = c2 := by
      have := f4.ev.hb heap.length b2 g2
      rw [m1] at this; simpa using this.symm
    obtain ⟨c3, w6, G6, m3, m4, io6, f6⟩ := f5.stH (P := C.P) (cs := [.d (.int .i64 n)]) (Vs := [.int .i64 n]) (heap.length + 1) 0 (by
      simp only [List.getElem?_set]
      rw [if_neg (by omega), hh]; exact k5) (by simp) (by
      simp only [ars, ar, rep]
      exact ⟨_, _, rfl, rfl, rfl⟩) rfl (by simp [Value.oneCell']) (.inr rfl)
    obtain rfl : b3 = c3 := by
      have := f5.ev.hb (heap.length + 1) b3 g3
      rw [m3] at this; simpa using this.symm
    refine deferred _ _ _ _ (by simp) ?_ (rec_pan b2 b3 n _ _ _ _ m2 m4) (fin w6 _ G6 a4 _ (io.trans (io4.trans (io5.trans io6))) f6 (res_done (n := heap.length) (u := u) (v := v) (e := n) q2 q3 ?_ ?_) ha4 rfl ?_)
    · rfl
    · have hlt : heap.length < σ2.mem.heap.length := getElem_lt k4
      simp only [hh, List.getElem?_set, splice, zTerm]
      rw [if_neg (by omega), if_pos trivial, if_pos (by omega)]
      rfl
    · have hlt : heap.length + 1 < σ2.mem.heap.length := getElem_lt k5
      simp only [hh, List.getElem?_set, List.length_set, splice]
      rw [if_pos trivial, if_pos (by omega)]
      rfl
    · simp only [hh, splice, zTerm]
      rfl

def opsOf : Code → Array Oper
  | .region _ ops _ => ops
  | _ => #[]
theorem end_sound {C : Cfg} {fn : Func} {w5 w' : World} {ex : Ex} {σ' : St} {e : Exit} {a' : Act} {cr : CR} {heap' : List HO} (q : EQ { h0 := w.heap, G0 := G, X := X } w5 ex σ' e a' w') (io0 : Io w w5) (hl : leave C.P fn (ex, σ') = some (cr, heap')) (xl : ∀ b off, X b off → b < w.heap.size) :
    bodyPostM Fence.wide 0 C.P fn (CQ X G w cr heap') e a' w' := by
  obtain ⟨io, dm', G', σ'', f', xr, lk⟩ := q
  have hend : ∀ (w2 : World) (a2 : Act) (v : AV) (V : Value) (e : Ending), Io w' w2 → FR { h0 := w.heap, G0 := G, X := X } [] G' σ'' a2 w2.heap → ar G' w2.heap (Mut X G') v V → v.still = true → (cr = .ret v ∧ e = .returned V ∨ cr = .pan v ∧ v.pure = true ∧ e = .panicked [{ v := V, recovered := false }]) → σ''.mem.heap = heap' → CQ X G w cr heap' e w2 := by
    intro w2 a2 v V e io2 f2 hv hst hcr hh
    obtain ⟨d1, d2, d3, d4⟩ := f2.drop xl
    refine ⟨io0.trans (io.trans io2), shr G', rfl, rfl, hh ▸ d1, d2, d3, ?_⟩
    have hv' := ar_still (G := G') (G' := shr G') d4 (fun _ _ h => h) v V hst hv
    rcases hcr with ⟨rfl, rfl⟩ | ⟨rfl, hp, rfl⟩
    · exact ⟨hst, V, rfl, hv'⟩
    · exact ⟨hst, hp, V, rfl, hv'⟩
  cases ex with
  | nor =>
    simp only [XRel] at xr; subst xr
    simp only [Like] at lk
    obtain ⟨_, rfl⟩ := Prod.mk.inj lk
    simp only [leave, Option.map_eq_some_iff] at hl
    obtain ⟨vs, hvs, he⟩ := hl
    cases he
    refine leave_marks (by simp) dm' a' w' f' fun w2 io2 a2 ha f2 st2 => ?_
    obtain ⟨V, r1, r2, r3⟩ := results_sound f2 hvs
    exact ⟨V, by rw [← ha]; exact r1, hend w2 a2 _ V _ io2 f2 r2 r3 (.inl ⟨rfl, rfl⟩) rfl⟩
  | ret =>
    simp only [XRel] at xr; subst xr
    simp only [Like] at lk
    obtain ⟨_, rfl⟩ := Prod.mk.inj lk
    simp only [leave, Option.map_eq_some_iff] at hl
    obtain ⟨vs, hvs, he⟩ := hl
    cases he
    refine leave_marks (by simp) dm' a' w' f' fun w2 io2 a2 ha f2 st2 => ?_
    obtain ⟨V, r1, r2, r3⟩ := results_sound f2 hvs
    exact ⟨V, by rw [← ha]; exact r1, hend w2 a2 _ V _ io2 f2 r2 r3 (.inl ⟨rfl, rfl⟩) rfl⟩
  | exit id => simp [leave] at hl
  | pan x =>
    simp only [XRel] at xr
    obtain ⟨V, rfl, hx⟩ := xr
    simp only [Like] at lk
    obtain ⟨σ3, e1, e2, _⟩ := lk
    obtain ⟨_, rfl⟩ := Prod.mk.inj e1
    simp only [leave] at hl
    split at hl
    case isFalse => cases hl
    rename_i hp
    cases hl
    refine leave_marks (by simp) dm' a' w' f' fun w2 io2 a2 ha f2 st2 => ?_
    exact hend w2 a2 x.erase V _ io2 f2 (erase_ar _ _ (ar_on (Gon.refl [] G') st2 x V (AV.noL_of_ok _ _ (pure_ok _ hp)) hx)) (erase_still _ (pure_ok _ hp)) (.inr ⟨rfl, erase_pure _ hp, rfl⟩) e2
theorem concat_sound (hs : Sound C O) {args : List AV} {heap heap' : List HO} {cr : CR} (h : concatX O args heap = some (cr, heap')) :
    Enters C.P CC ∧ ∀ (X : Nat → Nat → Prop) (G : Gh) (w : World) (As : List Value), CE X G w.heap args As heap → CallsIn Fence.wide 0 C.P CC As.toArray w (CQ X G w cr heap') := by
  refine ⟨enters_of _ _ Try.func57 rfl, fun X G w As ce => ?_⟩
  unfold concatX at h
  obtain ⟨x5, h, hend⟩ := Option.bind_eq_some_iff.1 h
  obtain ⟨x4, h, h5⟩ := Option.bind_eq_some_iff.1 h
  obtain ⟨x3, h, h4⟩ := Option.bind_eq_some_iff.1 h
  obtain ⟨x2, h, h3⟩ := Option.bind_eq_some_iff.1 h
  obtain ⟨x1, h1, h2⟩ := Option.bind_eq_some_iff.1 h
  have cont : ∀ {c : Code} {x : Ex × St} {y : Ex × St}, contX O c x = some y → ∃ σ, x = (.nor, σ) ∧ O.code CC c σ = some y := fun {c x y} hc => by
    obtain ⟨ex, σ⟩ := x
    cases ex with
    | nor => exact ⟨σ, rfl, hc⟩
    | _ => cases hc
  obtain ⟨σ4, rfl, k5⟩ := cont h5
  obtain ⟨σ2, rfl, k3⟩ := cont h3
  obtain ⟨σ1, rfl, k2⟩ := cont h2
  obtain ⟨ex3, σ3⟩ := x3
  cases ex3 with
  | nor =>
    simp only [growK] at h4
    unfold growV at h4
    split at h4
    case h_2 => cases h4
    rename_i n hn
    split at h4
    case isFalse => cases h4
    rename_i hb
    simp only [Option.some.injEq, Prod.mk.injEq, true_and] at h4
    obtain ⟨G1, f0, hl1, ht1⟩ := enter_fr Try.f57 ce
    refine callsIn_of_wp_marks (fn := Try.f57) Try.func57 rfl trivial ?_
    show (Code.seq (cf (bodyOf Try.f57)) (.seq (cf (cs (bodyOf Try.f57))) (.seq (cf (cs (cs (bodyOf Try.f57)))) (.seq (cf (cs (cs (cs (bodyOf Try.f57))))) (cs (cs (cs (cs (bodyOf Try.f57))))))))).wpIn _ _ _ _ _ _
    refine wpIn_seq (step_piece hs h1 f0 fun a1 w1 dm1 G2 io1 f1 => ?_)
    refine wpIn_seq (step_piece hs k2 f1 fun a2 w2 dm2 G3 io2 f2 => ?_)
    refine wpIn_seq (step_piece hs k3 f2 fun a3 w3 dm3 G4 io3 f3 => ?_)
    generalize cs (cs (cs (cs (bodyOf Try.f57)))) = post at k5 ⊢
    have hv := f3.ft.opv (.tmp 3)
    have ho : opv σ3.tmps (.tmp 3) = .d (.int .i64 n) := hn
    rw [ho] at hv
    simp only [ar, rep] at hv
    have hsz : 24 < a3.tmps.size := by rw [← f3.ft.tl]; exact hb.2.2
    refine wpIn_seq (wpIn_region ?_)
    refine opI_value (v := .int .i64 n) (w' := w3) _ rfl rfl (by simp [execOp, hv]) ?_
    have f4 := f3.put (some 23) (v := .undef) (V := .int .i64 n) (by simp [ar])
    have hev := eval_put (a := a3) (t := 23) (V := .int .i64 n) (by omega)
    have hsz4 : (a3.put (some 23) (.int .i64 n)).tmps.size = a3.tmps.size := by simp [Act.put]
    show wpOpsIn _ _ _ (opsOf (cf (cs (cs (cs (bodyOf Try.f57)))))) _ [1, 2] (a3.put (some 23) (.int .i64 n)) w3
    generalize a3.put (some 23) (.int .i64 n) = a4 at f4 hev hsz4 ⊢
    have en := enters_of _ _ Try.func58 rfl
    refine opI_call (f := 58) (args := #[.slice none 0 0, .int .i64 n]) (w' := w3) _ rfl rfl (by
      have e1 : a4.eval (.func 58) = .func (.func 58) #[] #[] := rfl
      have e2 : a4.eval (.const (.slice none 0 0)) = .slice none 0 0 := rfl
      show (execOp a4.eval { dst := some 24, op := .call { callee := .value (.func 58), args := #[.const (.slice none 0 0), .tmp 23], argTypes := #[] }, type := 22, pos := "", after := #[], guard := none }).run C.P w3 = _
      simp [execOp, resolve, Deferred.ofValue, invoke, hev, e1, e2, run_callFunc en]) ?_
    -- what comes back
    have key : ∀ (cap : Nat) (A : Option Addr) (w5 : World) (G5 : Gh), Io w3 w5 → FR { h0 := w.heap, G0 := G, X := X } dm3 G5 { σ3 with tmps := putA σ3.tmps (some 23) .undef, mem := { σ3.mem with toks := σ3.mem.toks ++ [some 0] } } a4 w5.heap →
        ar G5 w5.heap (Mut X G5) (.own σ3.mem.toks.length []) (.slice A 0 cap) →
        wpOpsIn Fence.wide 0 C.P (opsOf (cf (cs (cs (cs (bodyOf Try.f57)))))) (Exit.then (post.wpIn Fence.wide 0 C.P (bodyPostM Fence.wide 0 C.P Try.f57 (CQ X G w cr heap'))) (bodyPostM Fence.wide 0 C.P Try.f57 (CQ X G w cr heap'))) [2] (a4.put (some 24) (.slice A 0 cap)) w5 := by
      intro cap A w5 G5 io5 f5 hown
      have f6 := f5.put (some 24) (v := .undef) (V := .slice A 0 cap) (by simp [ar])
      have hev6 := eval_put (a := a4) (t := 24) (V := .slice A 0 cap) (by omega)
      generalize a4.put (some 24) (.slice A 0 cap) = a6 at f6 hev6 ⊢
      refine opI_value (v := .slice A 0 cap) (w' := w5) _ rfl rfl (by
        show (execOp a6.eval { dst := some 6, op := .assign (.tmp 24), type := 22, pos := "", after := #[], guard := none }).run C.P w5 = _
        simp [execOp, hev6]) ?_
      have f7 := f6.put (some 6) (v := .own σ3.mem.toks.length []) (V := .slice A 0 cap) hown
      have hσ : σ4 = { tmps := clrT [3, 9, 10, 11, 12, 23, 24] (putA (putA (putA σ3.tmps (some 23) .undef) (some 24) .undef) (some 6) (.own σ3.mem.toks.length [])), mem := { locs := clrM [3, 9, 10, 11, 12, 23, 24] σ3.mem.locs, heap := σ3.mem.heap, toks := σ3.mem.toks ++ [some 0] } } := h4.symm
      show post.wpIn _ _ _ _ (a6.put (some 6) (.slice A 0 cap)) w5
      obtain ⟨ex, σ5⟩ := x5
      refine wpIn_mono (hs.code none _ _ _ _ _ k5 (.inl rfl) _ _ _ _ w5 (show FR { h0 := w.heap, G0 := G, X := X } dm3 G5 σ4 _ w5.heap from by rw [hσ]; exact f7.clear _)) fun e a' w' q => ?_
      exact end_sound q (io1.trans (io2.trans (io3.trans io5))) hend ce.xl
    obtain ⟨m, rfl⟩ : ∃ m : Nat, n = m := ⟨n.toNat, by omega⟩
    rcases Nat.eq_zero_or_pos m with hm | hm
    · subst hm
      refine ((callsIn_wide.2 (grow_zero w3)).mono ?_)
      rintro e w5 ⟨rfl, rfl⟩
      obtain ⟨G5, f5, t1, t2, st⟩ := f4.tight none 0
      refine key 0 none w5 G5 Io.rfl f5 ?_
      simp only [ar, rep]
      refine ⟨⟨none, 0, rfl, Nat.le_refl _, fun _ => rfl, by simp⟩, t2, fun q hq => ?_⟩
      rw [t1] at hq
      obtain rfl : (⟨none, none, 0, 0, 1⟩ : Tok) = q := by simpa using hq
      exact ⟨Nat.le_refl _, fun _ => ⟨rfl, by simp⟩⟩
    · refine ((callsIn_wide.2 (grow_pos m w3 hm (by omega))).mono ?_)
      rintro e w5 ⟨cap, Vs, rfl, rfl, hVs⟩
      obtain ⟨G5, f5, hown⟩ := f4.fresh (Vs := Vs.toList) (T := 24) (cap := cap) (by simpa using hVs)
      have hheap : (w3.drew.alloc (.cells Vs 24)).heap = w3.heap.push (.cells Vs.toList.toArray 24) := rfl
      rw [← hheap] at f5 hown
      exact key cap _ _ G5 ⟨rfl, rfl⟩ f5 hown
  | _ => cases h4
theorem extT_sound (f : Nat) (x : Orc → List AV → List HO → Option (CR × List HO)) (h : C.ext f = some x) (O : Orc) (hs : Sound C O) (args : List AV) (heap : List HO) (cr : CR) (heap' : List HO) (hx : x O args heap = some (cr, heap')) :
    Enters C.P f ∧ ∀ (X : Nat → Nat → Prop) (G : Gh) (w : World) (As : List Value), CE X G w.heap args As heap → CallsIn Fence.wide 0 C.P f As.toArray w (CQ X G w cr heap') := by
  have h' : extT f = some x := h
  unfold extT at h'
  split at h'
  · cases h'; exact done_sound hs hx
  · cases h'; exact concat_sound hs hx
  · cases h'
end
theorem fine : Fine C where
  mix := by kernel_rfl
  name := name_of
  ext := extT_sound
end Go.Proofs.Ytobocgjdlchemaa
