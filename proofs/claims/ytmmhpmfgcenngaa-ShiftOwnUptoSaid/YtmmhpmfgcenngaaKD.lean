/- Regions that draw their order: what an operation looks at, what it changes. -/
import Derived.Test.YtmmhpmfgcenngaaKC
import Derived.OrdersIn
set_option linter.unusedVariables false
set_option linter.unusedSimpArgs false
namespace Go.Proofs.Ytmmhpmfgcenngaa

theorem map_op_congr {α : Type} {l : List α} {g : α → Operand} {ρ ρ' : Operand → AV} (h : ∀ x ∈ l.map g, ρ x = ρ' x) : (l.map fun x => ρ (g x)) = l.map fun x => ρ' (g x) :=
  List.map_congr_left fun x hx => h _ (List.mem_map.2 ⟨x, hx, rfl⟩)
theorem decC_congr {P : Program} {ρ ρ' : Operand → AV} (c : Call) (h : ∀ x ∈ c.operands, ρ x = ρ' x) : decC P ρ c = decC P ρ' c := by
  obtain ⟨callee, args, argTypes⟩ := c
  have ha : ∀ x ∈ args.toList, ρ x = ρ' x := fun x hx => h x (by simp [Call.operands]; exact .inr (by simpa using hx))
  have hm : args.toList.map ρ = args.toList.map ρ' := List.map_congr_left ha
  cases callee with
  | value g =>
    have hg : ρ g = ρ' g := h g (by simp [Call.operands])
    simp only [decC, hg, hm]
  | invoke r m => rfl
  | builtin b =>
    cases b <;> simp only [decC]
    all_goals first | rfl | skip
    · generalize hl : args.toList = l at ha
      generalize argTypes.toList = tl
      match l, tl, ha with
      | [], _, _ => rfl
      | [x], _, _ => rfl
      | [x, y], [], _ => rfl
      | [x, y], [t], _ => rfl
      | [x, y], [t, u], ha => simp only [ha x (by simp), ha y (by simp)]
      | [x, y], t :: u :: v :: r, _ => rfl
      | x :: y :: z :: r, _, _ => rfl
    · generalize hl : args.toList = l at ha
      generalize argTypes.toList = tl
      match l, tl, ha with
      | [], _, _ => rfl
      | [x], [], _ => rfl
      | [x], [t], ha => simp only [ha x (by simp)]
      | [x], t :: u :: r, _ => rfl
      | x :: y :: r, _, _ => rfl
    · generalize hl : args.toList = l at ha
      match l, ha with
      | [], _ => rfl
      | [x], _ => rfl
      | [x, y], ha => simp only [ha x (by simp), ha y (by simp)]
      | x :: y :: z :: r, _ => rfl
    · generalize hl : args.toList = l at ha
      match l, ha with
      | [], _ => rfl
      | [x], _ => rfl
      | [x, y], ha => simp only [ha x (by simp), ha y (by simp)]
      | x :: y :: z :: r, _ => rfl
theorem decode_congr {P : Program} {E : List Nat} {dst : Option Nat} {ρ ρ' : Operand → AV} (op : Op) (h : ∀ x ∈ op.operands, ρ x = ρ' x) : decode P E dst ρ op = decode P E dst ρ' op := by
  cases op with
  | build T parts =>
    have : (parts.toList.map fun x => (x.1, ρ x.2)) = parts.toList.map fun x => (x.1, ρ' x.2) := List.map_congr_left fun x hx => by
      rw [h x.2 (by simp [Op.operands]; exact ⟨x.1, by simpa using hx⟩)]
    simp only [decode, this]
  | buildSlice T n parts =>
    have : (parts.toList.map fun x => (x.1, ρ x.2)) = parts.toList.map fun x => (x.1, ρ' x.2) := List.map_congr_left fun x hx => by
      rw [h x.2 (by simp [Op.operands]; exact ⟨x.1, by simpa using hx⟩)]
    simp only [decode, this]
  | makeFunc g first caps =>
    have h1 : first.toList.map ρ = first.toList.map ρ' := List.map_congr_left fun x hx => h x (by simp [Op.operands]; exact .inl (by simpa using hx))
    have h2 : caps.toList.map ρ = caps.toList.map ρ' := List.map_congr_left fun x hx => h x (by simp [Op.operands]; exact .inr (by simpa using hx))
    cases g <;> simp only [decode, h1, h2]
  | slice T x lo hi mx =>
    have hx : ρ x = ρ' x := h x (by simp [Op.operands])
    have hl : ∀ d, slB ρ d lo = slB ρ' d lo := fun d => by cases lo with
      | none => rfl
      | some o => simp only [slB, h o (by simp [Op.operands])]
    have hh : ∀ d, slB ρ d hi = slB ρ' d hi := fun d => by cases hi with
      | none => rfl
      | some o => simp only [slB, h o (by simp [Op.operands])]
    have hm : ∀ d, slB ρ d mx = slB ρ' d mx := fun d => by cases mx with
      | none => rfl
      | some o => simp only [slB, h o (by simp [Op.operands])]
    simp only [decode, hx, hl, hh, hm]
  | call c => simp only [decode]; exact decC_congr c (by simpa [Op.operands] using h)
  | unOp op T x => have hx : ρ x = ρ' x := h x (by simp [Op.operands])
                   cases op <;> simp only [decode, hx]
  | binOp op T x y s =>
    have hx : ρ x = ρ' x := h x (by simp [Op.operands])
    have hy : ρ y = ρ' y := h y (by simp [Op.operands])
    simp only [decode, hx, hy]
  | pick c x y =>
    have hx : ρ x = ρ' x := h x (by simp [Op.operands])
    have hy : ρ y = ρ' y := h y (by simp [Op.operands])
    have hc : ρ c = ρ' c := h c (by simp [Op.operands])
    simp only [decode, hx, hy, hc]
  | store T x y =>
    have hx : ρ x = ρ' x := h x (by simp [Op.operands])
    have hy : ρ y = ρ' y := h y (by simp [Op.operands])
    simp only [decode, hx, hy]
  | indexAddr T x y =>
    have hx : ρ x = ρ' x := h x (by simp [Op.operands])
    have hy : ρ y = ρ' y := h y (by simp [Op.operands])
    simp only [decode, hx, hy]
  | makeSlice T x y =>
    have hx : ρ x = ρ' x := h x (by simp [Op.operands])
    have hy : ρ y = ρ' y := h y (by simp [Op.operands])
    simp only [decode, hx, hy]
  | move x => have hx : ρ x = ρ' x := h x (by simp [Op.operands])
              simp only [decode, hx]
  | assign x => have hx : ρ x = ρ' x := h x (by simp [Op.operands])
                simp only [decode, hx]
  | box T x => have hx : ρ x = ρ' x := h x (by simp [Op.operands])
               simp only [decode, hx]
  | load T x => have hx : ρ x = ρ' x := h x (by simp [Op.operands])
                simp only [decode, hx]
  | nilCheck x => have hx : ρ x = ρ' x := h x (by simp [Op.operands])
                  simp only [decode, hx]
  | makeInterface T x => have hx : ρ x = ρ' x := h x (by simp [Op.operands])
                         simp only [decode, hx]
  | fieldAddr S x f => have hx : ρ x = ρ' x := h x (by simp [Op.operands])
                       simp only [decode, hx]
  | field S x f => have hx : ρ x = ρ' x := h x (by simp [Op.operands])
                   simp only [decode, hx]
  | extract x i => have hx : ρ x = ρ' x := h x (by simp [Op.operands])
                   simp only [decode, hx]
  | panic x => have hx : ρ x = ρ' x := h x (by simp [Op.operands])
               simp only [decode, hx]
  | _ => rfl

/-- What an operation changes. -/
structure Eff where
  lw : Option (Nat × List AV)
  hw : Option (List HO)
  tw : Option (List (Option Nat))
def Eff.on [N0] (e : Eff) (m : Mem) : Mem where
  locs := match e.lw with
    | some (p, cs) => m.locs.set p (some cs)
    | none => m.locs
  heap := e.hw.getD m.heap
  toks := e.tw.getD m.toks
structure Eff.under (e : Eff) (f : FP) : Prop where
  l : ∀ p cs, e.lw = some (p, cs) → p ∈ f.wl
  h : e.hw.isSome = true → f.wh = true
  t : e.tw.isSome = true → f.tk = true
structure Agree [N0] (f : FP) (m m' : Mem) : Prop where
  ln : m.locs.length = m'.locs.length
  rl : ∀ p ∈ f.rl, m.locs[p]? = m'.locs[p]?
  wl : ∀ p ∈ f.wl, m.locs[p]? = m'.locs[p]?
  hp : f.rh = true ∨ f.wh = true → m.heap = m'.heap
  tk : f.tk = true → m.toks = m'.toks
def noEff : Eff := ⟨none, none, none⟩
theorem noEff_on [N0] (m : Mem) : noEff.on m = m := rfl
theorem noEff_under (f : FP) : noEff.under f := ⟨fun _ _ h => by simp [noEff] at h, fun h => by simp [noEff] at h, fun h => by simp [noEff] at h⟩

theorem pureRes_ok [N0] {m m1 : Mem} {r : OR} {x : CR × List HO} (h : pureRes m x = some (r, m1)) : m1 = m ∧ ∀ m', pureRes m' x = some (r, m') := by
  obtain ⟨cr, hp⟩ := x
  cases cr <;> simp only [pureRes] at h ⊢ <;> split at h <;> cases h
  · rename_i hv; exact ⟨rfl, fun m' => by simp [hv]⟩
  · rename_i hv; exact ⟨rfl, fun m' => by simp [hv]⟩
theorem heapRes_ok [N0] {m m1 : Mem} {r : OR} {x : CR × List HO} (h : heapRes m x = some (r, m1)) : m1 = { m with heap := x.2 } ∧ ∀ m', heapRes m' x = some (r, { m' with heap := x.2 }) := by
  obtain ⟨cr, hp⟩ := x
  cases cr <;> simp only [heapRes] at h ⊢ <;> split at h <;> cases h
  · rename_i hv; exact ⟨rfl, fun m' => by simp [hv]⟩
  · rename_i hv; exact ⟨rfl, fun m' => by simp [hv]⟩
theorem appOwn_ok [N0] {t : Nat} {xs ys : List Dv} {sz : Nat} {m m1 : Mem} {r : OR} (h : appOwn t xs ys sz m = some (r, m1)) :
    ∃ tk, m1 = { m with toks := tk } ∧ ∀ m', m'.toks = m.toks → appOwn t xs ys sz m' = some (r, { m' with toks := tk }) := by
  unfold appOwn at h
  split at h
  · rename_i hc
    cases h
    refine ⟨_, rfl, fun m' e => ?_⟩
    unfold appOwn
    rw [if_pos (by rw [e]; exact hc), e]
  · cases h

theorem mact_eff [N0] {C : Cfg} {O : Orc} {m m1 : Mem} {ma : MA} {r : OR} (h : mact C O m ma = some (r, m1)) :
    ∃ e : Eff, m1 = e.on m ∧ e.under (ma.fp C) ∧ ∀ m', Agree (ma.fp C) m m' → mact C O m' ma = some (r, e.on m') := by
  cases ma with
  | val v => simp only [mact] at h; cases h; exact ⟨noEff, rfl, noEff_under _, fun m' _ => rfl⟩
  | pan v => simp only [mact] at h; cases h; exact ⟨noEff, rfl, noEff_under _, fun m' _ => rfl⟩
  | ldL p off n ag =>
    simp only [mact] at h
    split at h
    · rename_i cs hcs
      simp only [Option.map_eq_some_iff] at h
      obtain ⟨v, hv, h⟩ := h
      cases h
      refine ⟨noEff, rfl, noEff_under _, fun m' ag' => ?_⟩
      have := ag'.rl p (by simp [MA.fp])
      simp only [mact, ← this, hcs, hv]; rfl
    · cases h
  | ldH i off n ag =>
    simp only [mact] at h
    split at h
    · rename_i cs hcs
      simp only [Option.map_eq_some_iff] at h
      obtain ⟨v, hv, h⟩ := h
      cases h
      refine ⟨noEff, rfl, noEff_under _, fun m' ag' => ?_⟩
      have := ag'.hp (.inl rfl)
      simp only [mact, ← this, hcs, hv]; rfl
    · cases h
  | stL p off cs =>
    simp only [mact] at h
    split at h
    · rename_i old hcs
      split at h
      · rename_i hle
        cases h
        refine ⟨⟨some (p, splice old off (cs.map AV.kept)), none, none⟩, rfl, ⟨fun q c e => by cases e; simp [MA.fp], fun h => by simp at h, fun h => by simp at h⟩, fun m' ag' => ?_⟩
        have := ag'.wl p (by simp [MA.fp])
        simp only [mact, ← this, hcs, hle, if_true]; rfl
      · cases h
    · cases h
  | alL p cs =>
    simp only [mact] at h
    split at h
    · rename_i hle
      cases h
      refine ⟨⟨some (p, cs.map AV.kept), none, none⟩, rfl, ⟨fun q c e => by cases e; simp [MA.fp], fun h => by simp at h, fun h => by simp at h⟩, fun m' ag' => ?_⟩
      simp only [mact, ← ag'.ln, hle, if_true]; rfl
    · cases h
  | alH cs =>
    simp only [mact] at h
    split at h
    · rename_i hle
      cases h
      refine ⟨⟨none, some (m.heap ++ [.var 0 (cs.map AV.keptH)]), none⟩, rfl, ⟨fun q c e => by simp at e, fun h => rfl, fun h => by simp at h⟩, fun m' ag' => ?_⟩
      simp only [mact, ← ag'.hp (.inr rfl), hle, if_true]; rfl
    · cases h
  | stH i off cs =>
    simp only [mact] at h
    refine ⟨⟨none, some m1.heap, some m1.toks⟩, ?_, ⟨fun q c e => by simp at e, fun h => rfl, fun h => rfl⟩, fun m' ag' => ?_⟩
    · have : m1.locs = m.locs := by
        unfold mSt at h
        split at h
        · split at h
          · split at h
            · split at h <;> cases h; rfl
            · cases h; rfl
          · cases h
        · cases h
      cases m1; simp only at this; subst this; rfl
    · have e1 := ag'.hp (.inr rfl)
      have e2 := ag'.tk rfl
      simp only [mact]
      unfold mSt at h ⊢
      rw [← e1, ← e2]
      split at h
      · rename_i ver old ho
        split at h
        · rename_i hle
          simp only [ho, hle, if_true]
          split at h
          · split at h
            · rename_i ht; cases h; simp only [ht, if_true]; rfl
            · cases h
          · cases h; rfl
        · cases h
      · cases h
  | app s ys sz =>
    simp only [mact] at h
    cases s with
    | own t xs =>
      simp only [mApp] at h
      split at h
      · cases h
      rename_i hgd
      obtain ⟨tk, e1, e2⟩ := appOwn_ok (show appOwn t xs ys sz m = some (r, m1) from h)
      refine ⟨⟨none, none, some tk⟩, by rw [e1]; rfl, ⟨fun q c e => by simp at e, fun h => by simp at h, fun h => rfl⟩, fun m' ag' => ?_⟩
      simp only [mact, mApp, if_neg hgd]
      exact e2 m' (ag'.tk rfl).symm
    | clip xs =>
      simp only [mApp] at h
      split at h
      · rename_i hgd
        cases h
        refine ⟨noEff, rfl, noEff_under _, fun m' ag' => ?_⟩
        simp only [mact, mApp, if_pos hgd]
        rfl
      rename_i hgd
      split at h
      case isFalse => cases h
      rename_i hxe
      obtain ⟨tk, e1, e2⟩ := appOwn_ok (show appOwn m.toks.length xs ys sz { m with toks := m.toks ++ [some xs.length] } = some (r, m1) from h)
      refine ⟨⟨none, none, some tk⟩, by rw [e1]; rfl, ⟨fun q c e => by simp at e, fun h => by simp at h, fun h => rfl⟩, fun m' ag' => ?_⟩
      have et := ag'.tk rfl
      have := e2 { m' with toks := m'.toks ++ [some xs.length] } (by simp only [← et])
      simp only [mact, mApp, if_neg hgd, if_pos hxe]
      show appOwn m'.toks.length xs ys sz { m' with toks := m'.toks ++ [some xs.length] } = _
      rw [← et] at this ⊢
      exact this
    | hc i ver xs =>
      simp only [mApp] at h
      split at h
      · rename_i ver' zs hh
        split at h
        · rename_i hcc
          obtain ⟨tk, e1, e2⟩ := appOwn_ok h
          refine ⟨⟨none, some m1.heap, some tk⟩, by rw [e1]; rfl, ⟨fun q c e => by simp at e, fun h => rfl, fun h => rfl⟩, fun m' ag' => ?_⟩
          have et := ag'.tk rfl
          have eh := ag'.hp (.inr rfl)
          have := e2 { m' with toks := m.toks ++ [some xs.length], heap := m.heap.set i (.var ver [.d (.slc zs)]) } rfl
          simp only [mact, mApp, ← eh, ← et, hh, hcc, if_true]
          obtain ⟨rfl, hz, hgd⟩ := hcc
          simp only [true_and, if_true, hz] at this ⊢
          rw [hz] at e1
          rw [this, e1]; rfl
        · cases h
      · cases h
    | _ => cases h
  | call f args =>
    simp only [mact, mCall] at h
    by_cases hp : callsPure C f args = true
    · rw [if_pos hp] at h
      simp only [Option.bind_eq_some_iff] at h
      obtain ⟨x, hx, h⟩ := h
      obtain ⟨e1, e2⟩ := pureRes_ok h
      refine ⟨noEff, e1, noEff_under _, fun m' ag' => ?_⟩
      simp only [mact, mCall, if_pos hp, hx, Option.bind_some]
      exact e2 m'
    · rw [if_neg hp] at h
      split at h
      · rename_i hok
        simp only [Option.bind_eq_some_iff] at h
        obtain ⟨x, hx, h⟩ := h
        obtain ⟨e1, e2⟩ := heapRes_ok h
        have hw : ((MA.call f args).fp C).wh = true := by simp [MA.fp, hp]
        refine ⟨⟨none, some x.2, none⟩, e1, ⟨fun q c e => by simp at e, fun _ => hw, fun h => by simp at h⟩, fun m' ag' => ?_⟩
        have eh := ag'.hp (.inr hw)
        simp only [mact, mCall, if_neg hp, hok, if_true, ← eh, hx, Option.bind_some]
        exact e2 m'
      · cases h
  | yld i args =>
    simp only [mact, mYld] at h
    split at h
    · rename_i pend L hL
      split at h
      · rename_i hc
        simp only [Option.bind_eq_some_iff] at h
        obtain ⟨⟨ex1, σ1⟩, hx, h⟩ := h
        cases ex1 with
        | nor =>
          simp only [yBody] at h
          split at h
          · rename_i pend' L' hL'
            simp only [Option.bind_eq_some_iff] at h
            obtain ⟨⟨ex2, σ2⟩, hy, h⟩ := h
            have key : m1 = { m with heap := m1.heap } ∧ ∀ m', yEnd i m' (ex2, σ2) = some (r, { m' with heap := m1.heap }) := by
              simp only [yEnd] at h ⊢
              split at h
              · split at h <;> cases h <;> exact ⟨rfl, fun m' => rfl⟩
              · cases h
            refine ⟨⟨none, some m1.heap, none⟩, key.1, ⟨fun q c e => by simp at e, fun _ => rfl, fun h => by simp at h⟩, fun m' ag' => ?_⟩
            have eh := ag'.hp (.inr rfl)
            simp only [mact, mYld, ← eh, hL, hc, and_self, if_true, hx, Option.bind_some, yBody, hL', hy]
            exact key.2 m'
          · cases h
        | _ => cases h
      · cases h
    · cases h
end Go.Proofs.Ytmmhpmfgcenngaa
/-! Regions that draw their order: neighbours change places. -/
set_option linter.unusedVariables false
set_option linter.unusedSimpArgs false
namespace Go.Proofs.Ytmmhpmfgcenngaa
section
variable {C : Cfg} {O : Orc} {Es : List Nat} {ops : Array Oper}

def newT (r : OR) (tm : List AV) (dst : Option Nat) (v : AV) : List AV := match r with
  | .pan _ => tm
  | _ => putA tm dst v
theorem getD_put {tm : List AV} {dst : Option Nat} {v : AV} {t : Nat} (h : dst ≠ some t) : (putA tm dst v).getD t .undef = tm.getD t .undef := by
  cases dst with
  | none => rfl
  | some d =>
    have : d ≠ t := fun e => h (by rw [e])
    simp only [putA, List.getD_eq_getElem?_getD, List.getElem?_set, if_neg this]
theorem opv_same {tm tm' : List AV} {x : Operand} (h : ∀ t, x = .tmp t → tm'.getD t .undef = tm.getD t .undef) : opv tm' x = opv tm x := by
  cases x with
  | tmp t => exact h t rfl
  | _ => rfl
theorem stepO_eff [N0] {o : Oper} {σ σ1 : St} {r : OR} (h : stepO C O Es ops o σ = some (r, σ1)) :
    ∃ (e : Eff) (v : AV), σ1 = ⟨newT r σ.tmps o.dst v, e.on σ.mem⟩ ∧ e.under (fpO C Es ops o σ) ∧ (r = .u ∨ ∃ x, r = .pan x) ∧ ∀ σ' : St, (∀ t ∈ opTmps ops o, σ'.tmps.getD t .undef = σ.tmps.getD t .undef) → Agree (fpO C Es ops o σ) σ.mem σ'.mem →
      fpO C Es ops o σ' = fpO C Es ops o σ ∧ stepO C O Es ops o σ' = some (r, ⟨newT r σ'.tmps o.dst v, e.on σ'.mem⟩) := by
  have hw' : ∀ σ' : St, (∀ t ∈ opTmps ops o, σ'.tmps.getD t .undef = σ.tmps.getD t .undef) → wantA ops σ'.tmps o = wantA ops σ.tmps o := fun σ' ht => by
    unfold wantA
    cases hg : o.guard with
    | none => rfl
    | some jw =>
      obtain ⟨j, want⟩ := jw
      simp only
      cases hd : (ops[j]?).bind (·.dst) with
      | none => rfl
      | some d =>
        simp only
        rw [ht d (by simp [opTmps, hg, hd])]
  have hd' : ∀ σ' : St, (∀ t ∈ opTmps ops o, σ'.tmps.getD t .undef = σ.tmps.getD t .undef) → decode C.P Es o.dst (opv σ'.tmps) o.op = decode C.P Es o.dst (opv σ.tmps) o.op := fun σ' ht =>
    decode_congr o.op fun x hx => opv_same fun t e => ht t (by
      subst e
      exact List.mem_append_left _ (List.mem_filterMap.2 ⟨.tmp t, by simpa using hx, rfl⟩))
  unfold stepO at h
  cases hw : wantA ops σ.tmps o with
  | none => rw [hw] at h; cases h
  | some b =>
    rw [hw] at h
    cases b with
    | false =>
      cases h
      refine ⟨noEff, .tup [], rfl, noEff_under _, .inl rfl, fun σ' ht _ => ⟨?_, ?_⟩⟩
      · simp only [fpO, hw' σ' ht, hw]
      · simp only [stepO, hw' σ' ht, hw]; rfl
    | true =>
      simp only at h
      cases hd : decode C.P Es o.dst (opv σ.tmps) o.op with
      | none => rw [hd] at h; cases h
      | some ma =>
        rw [hd] at h
        simp only [Option.bind_eq_some_iff] at h
        obtain ⟨⟨r1, m1⟩, hm, h⟩ := h
        obtain ⟨e, e1, e2, e3⟩ := mact_eff hm
        have hf : fpO C Es ops o σ = ma.fp C := by simp only [fpO, hw, hd]
        rw [hf]
        have gen : ∀ v, (∀ tm m, stepE tm o.dst (r1, m) = some (r, ⟨newT r tm o.dst v, m⟩)) → (r = .u ∨ ∃ x, r = .pan x) → ∃ (e : Eff) (v : AV), σ1 = ⟨newT r σ.tmps o.dst v, e.on σ.mem⟩ ∧ e.under (ma.fp C) ∧ (r = .u ∨ ∃ x, r = .pan x) ∧ ∀ σ' : St, (∀ t ∈ opTmps ops o, σ'.tmps.getD t .undef = σ.tmps.getD t .undef) → Agree (ma.fp C) σ.mem σ'.mem →
            fpO C Es ops o σ' = ma.fp C ∧ stepO C O Es ops o σ' = some (r, ⟨newT r σ'.tmps o.dst v, e.on σ'.mem⟩) := fun v hv hr => by
          refine ⟨e, v, ?_, e2, hr, fun σ' ht ag => ⟨?_, ?_⟩⟩
          · have := hv σ.tmps m1
            rw [h] at this
            cases this
            rw [e1]
          · simp only [fpO, hw' σ' ht, hw, hd' σ' ht, hd]
          · simp only [stepO, hw' σ' ht, hw, hd' σ' ht, hd, e3 σ'.mem ag, Option.bind_some]
            exact hv _ _
        cases r1 with
        | v v =>
          obtain rfl : r = .u := by simp only [stepE] at h; cases h; rfl
          exact gen v (fun tm m => rfl) (.inl rfl)
        | u =>
          obtain rfl : r = .u := by simp only [stepE] at h; cases h; rfl
          exact gen .undef (fun tm m => rfl) (.inl rfl)
        | pan x =>
          obtain rfl : r = .pan x := by simp only [stepE] at h; cases h; rfl
          exact gen .undef (fun tm m => rfl) (.inr ⟨x, rfl⟩)

theorem disj_iff {a b : List Nat} (h : disj a b = true) {x : Nat} (ha : x ∈ a) : x ∉ b := by
  simp only [disj, List.all_eq_true] at h
  simpa using h x ha
/-- What one leaves is what the other met. -/
theorem agree_on [N0] {e : Eff} {f g : FP} (hu : e.under f) (hap : f.apart g = true) (m : Mem) : Agree g (e.on m) m ∧ Agree g m (e.on m) := by
  simp only [FP.apart, Bool.and_eq_true] at hap
  obtain ⟨⟨⟨⟨⟨⟨a1, a2⟩, a3⟩, a4⟩, a5⟩, a6⟩, a7⟩ := hap
  have hl : ∀ p, (p ∈ g.rl ∨ p ∈ g.wl) → (e.on m).locs[p]? = m.locs[p]? := fun p hp => by
    unfold Eff.on
    split
    · rename_i q cs hq
      have := hu.l q cs hq
      have hne : q ≠ p := fun e => by
        subst e
        rcases hp with hp | hp
        · exact disj_iff a1 this hp
        · exact disj_iff a2 this hp
      simp only [List.getElem?_set, if_neg hne]
    · rfl
  have hln : (e.on m).locs.length = m.locs.length := by
    unfold Eff.on; split <;> simp
  have hh : g.rh = true ∨ g.wh = true → (e.on m).heap = m.heap := fun hg => by
    unfold Eff.on
    cases hw : e.hw with
    | none => rfl
    | some x =>
      have := hu.h (by rw [hw]; rfl)
      rcases hg with hg | hg <;> simp_all
  have ht : g.tk = true → (e.on m).toks = m.toks := fun hg => by
    unfold Eff.on
    cases hw : e.tw with
    | none => rfl
    | some x =>
      have := hu.t (by rw [hw]; rfl)
      simp_all
  exact ⟨⟨hln, fun p hp => hl p (.inl hp), fun p hp => hl p (.inr hp), hh, ht⟩, ⟨hln.symm, fun p hp => (hl p (.inl hp)).symm, fun p hp => (hl p (.inr hp)).symm, fun h => (hh h).symm, fun h => (ht h).symm⟩⟩
theorem disj_symm {a b : List Nat} (h : disj a b = true) : disj b a = true := by
  simp only [disj, List.all_eq_true]
  intro x hx
  have : x ∉ a := fun ha => disj_iff h ha hx
  simpa using this
theorem FP.apart_symm {f g : FP} (h : f.apart g = true) : g.apart f = true := by
  simp only [FP.apart, Bool.and_eq_true] at h ⊢
  obtain ⟨⟨⟨⟨⟨⟨a1, a2⟩, a3⟩, a4⟩, a5⟩, a6⟩, a7⟩ := h
  refine ⟨⟨⟨⟨⟨⟨disj_symm a3, disj_symm a2⟩, disj_symm a1⟩, ?_⟩, ?_⟩, ?_⟩, ?_⟩ <;>
    (cases hfw : f.wh <;> cases hgw : g.wh <;> cases hfr : f.rh <;> cases hgr : g.rh <;> cases hft : f.tk <;> cases hgt : g.tk <;> simp_all)
theorem Eff.comm [N0] {e e' : Eff} {f g : FP} (hu : e.under f) (hu' : e'.under g) (hap : f.apart g = true) (m : Mem) : e.on (e'.on m) = e'.on (e.on m) := by
  simp only [FP.apart, Bool.and_eq_true] at hap
  obtain ⟨⟨⟨⟨⟨⟨a1, a2⟩, a3⟩, a4⟩, a5⟩, a6⟩, a7⟩ := hap
  have h1 : e.hw = none ∨ e'.hw = none := by
    cases h1 : e.hw with
    | none => exact .inl rfl
    | some x => cases h2 : e'.hw with
      | none => exact .inr rfl
      | some y => have := hu.h (by rw [h1]; rfl); have := hu'.h (by rw [h2]; rfl); simp_all
  have h2 : e.tw = none ∨ e'.tw = none := by
    cases h1 : e.tw with
    | none => exact .inl rfl
    | some x => cases h2 : e'.tw with
      | none => exact .inr rfl
      | some y => have := hu.t (by rw [h1]; rfl); have := hu'.t (by rw [h2]; rfl); simp_all
  have hl : (e.on (e'.on m)).locs = (e'.on (e.on m)).locs := by
    unfold Eff.on
    cases h1 : e.lw with
    | none => rfl
    | some x => cases h2 : e'.lw with
      | none => rfl
      | some y =>
        obtain ⟨p, cs⟩ := x
        obtain ⟨q, ds⟩ := y
        have hne : q ≠ p := fun e => by
          subst e
          exact disj_iff a2 (hu.l _ _ h1) (hu'.l _ _ h2)
        exact List.set_comm _ _ hne
  have hh : (e.on (e'.on m)).heap = (e'.on (e.on m)).heap := by
    unfold Eff.on
    rcases h1 with h | h <;> simp [h]
  have ht : (e.on (e'.on m)).toks = (e'.on (e.on m)).toks := by
    unfold Eff.on
    rcases h2 with h | h <;> simp [h]
  cases hx : e.on (e'.on m); cases hy : e'.on (e.on m)
  rw [hx, hy] at hl hh ht
  simp only at hl hh ht
  subst hl; subst hh; subst ht; rfl
theorem putA_comm {tm : List AV} {d d' : Option Nat} {v v' : AV} (h : ∀ t, d = some t → d' ≠ some t) : putA (putA tm d v) d' v' = putA (putA tm d' v') d v := by
  cases d with
  | none => cases d' <;> rfl
  | some a => cases d' with
    | none => rfl
    | some b =>
      have hne : a ≠ b := fun e => h a rfl (by rw [e])
      exact List.set_comm _ _ hne

theorem swap [N0] {oi oj : Oper} {σ σ1 σ2 : St} {r : OR} (hj : stepO C O Es ops oj σ = some (.u, σ1)) (hi : stepO C O Es ops oi σ1 = some (r, σ2)) (hap : (fpO C Es ops oj σ).apart (fpO C Es ops oi σ1) = true) (ht : tmpsApart ops oj oi = true) :
    ∃ σ1', stepO C O Es ops oi σ = some (r, σ1') ∧ fpO C Es ops oi σ = fpO C Es ops oi σ1 ∧
      (r = .u → stepO C O Es ops oj σ1' = some (.u, σ2) ∧ fpO C Es ops oj σ1' = fpO C Es ops oj σ) ∧ ((∃ x, r = .pan x) → (fpO C Es ops oj σ).wh = false → σ1'.mem.heap = σ2.mem.heap) := by
  have t1 : ∀ t, oj.dst = some t → t ∉ opTmps ops oi ∧ oi.dst ≠ some t := fun t h => by
    simp only [tmpsApart, h, Bool.and_eq_true] at ht
    simpa using ht.1
  have t2 : ∀ t, oi.dst = some t → t ∉ opTmps ops oj := fun t h => by
    simp only [tmpsApart, h, Bool.and_eq_true] at ht
    simpa using ht.2
  obtain ⟨ej, vj, a1, a2, _, a3⟩ := stepO_eff hj
  obtain ⟨ei, vi, b1, b2, b0, b3⟩ := stepO_eff hi
  subst a1
  obtain ⟨c1, c2⟩ := b3 σ (fun t h => (getD_put (fun e => (t1 t e).1 h)).symm) (agree_on a2 hap σ.mem).1
  refine ⟨_, c2, c1, fun hr => ?_, fun hr hw => ?_⟩
  · subst hr
    have hap' : (fpO C Es ops oi ⟨newT .u σ.tmps oj.dst vj, ej.on σ.mem⟩).apart (fpO C Es ops oj σ) = true := FP.apart_symm hap
    obtain ⟨d1, d2⟩ := a3 ⟨putA σ.tmps oi.dst vi, ei.on σ.mem⟩ (fun t h => getD_put (fun e => t2 t e h)) (agree_on b2 hap' σ.mem).2
    refine ⟨?_, d1⟩
    show stepO C O Es ops oj ⟨putA σ.tmps oi.dst vi, ei.on σ.mem⟩ = _
    rw [d2, b1]
    simp only [newT]
    rw [putA_comm (fun t h => (t1 t h).2), Eff.comm a2 b2 hap]
  · rw [b1]
    simp only
    have : ej.hw = none := by
      cases h : ej.hw with
      | none => rfl
      | some x => have := a2.h (by rw [h]; rfl); rw [hw] at this; cases this
    simp only [Eff.on, this]
    rfl
end
end Go.Proofs.Ytmmhpmfgcenngaa
/-! Regions that draw their order: every order comes to the same. -/
set_option linter.unusedVariables false
set_option linter.unusedSimpArgs false
namespace Go.Proofs.Ytmmhpmfgcenngaa
section
variable {C : Cfg} {O : Orc} {Es : List Nat} {ops : Array Oper}

def Dn [N0] (C : Cfg) (O : Orc) (Es : List Nat) (ops : Array Oper) (Φ : Nat → FP) (S : Nat → Prop) : List Nat → St → Ex × St → Prop
  | [], σ, res => res = (.nor, σ)
  | i :: rest, σ, res => S i ∧ ∃ o r σ1, ops[i]? = some o ∧ stepO C O Es ops o σ = some (r, σ1) ∧ fpO C Es ops o σ = Φ i ∧
      ((r = .u ∧ Dn C O Es ops Φ S rest σ1 res) ∨ ∃ x, r = .pan x ∧ Like0 res (.pan x, σ1) ∧ (∀ j ∈ rest, linked ops j i = true) ∧ ∀ j, S j → j ≠ i → (Φ j).wh = false ∨ linked ops i j = true)
def PW (ops : Array Oper) (Φ : Nat → FP) (S : Nat → Prop) : Prop := ∀ i k, S i → S k → i ≠ k → (Φ i).apart (Φ k) = true ∨ linked ops i k = true
def TA (ops : Array Oper) : Prop := ∀ i j oi oj, ops[i]? = some oi → ops[j]? = some oj → i ≠ j → linked ops i j = true ∨ tmpsApart ops oi oj = true
theorem linked_symm (i j : Nat) : linked ops i j = linked ops j i := by simp only [linked, linked0, linkedT, Bool.or_comm]

theorem front [N0] {Φ : Nat → FP} {S : Nat → Prop} (pw : PW ops Φ S) (ta : TA ops) {i : Nat} {l2 : List Nat} {res : Ex × St} : ∀ (l1 : List Nat) {σ : St}, Dn C O Es ops Φ S (l1 ++ i :: l2) σ res → (∀ j ∈ l1, linked ops i j = false) → i ∉ l1 →
    S i ∧ ∃ o r σ1, ops[i]? = some o ∧ stepO C O Es ops o σ = some (r, σ1) ∧ fpO C Es ops o σ = Φ i ∧
      ((r = .u ∧ Dn C O Es ops Φ S (l1 ++ l2) σ1 res) ∨ ∃ x, r = .pan x ∧ Like0 res (.pan x, σ1) ∧ ∀ j, S j → j ≠ i → (Φ j).wh = false ∨ linked ops i j = true)
  | [], σ, d, _, _ => by
    obtain ⟨h0, o, r, σ1, h1, h2, h3, h4⟩ := d
    refine ⟨h0, o, r, σ1, h1, h2, h3, h4.imp id ?_⟩
    rintro ⟨x, e1, e2, _, e4⟩
    exact ⟨x, e1, e2, e4⟩
  | j :: l1, σ, d, hu, hn => by
    simp only [List.cons_append, Dn] at d
    obtain ⟨h0, oj, rj, σ1, h1, h2, h3, h4⟩ := d
    have huj := hu j (by simp)
    rcases h4 with ⟨rfl, h4⟩ | ⟨x, _, _, h5, _⟩
    · obtain ⟨k0, oi, r, σ2, k1, k2, k3, k4⟩ := front pw ta l1 h4 (fun k hk => hu k (by simp [hk])) (fun h => hn (by simp [h]))
      have hne : j ≠ i := fun e => hn (by simp [e])
      have hap : (fpO C Es ops oj σ).apart (fpO C Es ops oi σ1) = true := by
        rw [h3, k3]
        rcases pw j i h0 k0 hne with h | h
        · exact h
        · rw [linked_symm, huj] at h; cases h
      have htm : tmpsApart ops oj oi = true := by
        rcases ta j i oj oi h1 k1 hne with h | h
        · rw [linked_symm, huj] at h; cases h
        · exact h
      obtain ⟨σ1', s1, s2, s3, s4⟩ := swap h2 k2 hap htm
      refine ⟨k0, oi, r, σ1', k1, s1, by rw [s2]; exact k3, ?_⟩
      rcases k4 with ⟨rfl, k4⟩ | ⟨x, rfl, k5, k6⟩
      · obtain ⟨q1, q2⟩ := s3 rfl
        exact .inl ⟨rfl, h0, oj, .u, σ2, h1, q1, by rw [q2]; exact h3, .inl ⟨rfl, k4⟩⟩
      · refine .inr ⟨x, rfl, ?_, k6⟩
        have hw : (Φ j).wh = false := by
          rcases k6 j h0 hne with h | h
          · exact h
          · rw [huj] at h; cases h
        have := s4 ⟨x, rfl⟩ (by rw [h3]; exact hw)
        obtain ⟨ex, σr⟩ := res
        cases ex with
        | pan y =>
          simp only [Like0] at k5 ⊢
          obtain ⟨σ', e1, e2⟩ := k5
          cases e1
          exact ⟨σ1', rfl, this.trans e2⟩
        | _ => simp only [Like0] at k5; cases k5
    · have := h5 i (by simp)
      have hl : linked ops i j = true := this
      rw [huj] at hl; cases hl

theorem hangs_iff {i j : Nat} : hangs ops i j = true ↔ ∃ o, ops[i]? = some o ∧ j ∈ deps o := by
  unfold hangs deps
  split
  · rename_i o ho
    simp only [List.any_eq_true, Bool.and_eq_true, beq_iff_eq, ho, Option.some.injEq, exists_eq_left', List.mem_map, List.mem_filter]
    constructor
    · rintro ⟨e, h1, h2, h3⟩; exact ⟨e, ⟨h1, h2⟩, h3⟩
    · rintro ⟨e, ⟨h1, h2⟩, h3⟩; exact ⟨e, h1, h2, h3⟩
  · rename_i hn
    simp [hn]
/-- To hang on, through others. -/
inductive Hang (ops : Array Oper) : Nat → Nat → Prop where
  | one {i j : Nat} : hangs ops i j = true → Hang ops i j
  | step {i k j : Nat} : hangs ops i k = true → Hang ops k j → Hang ops i j
theorem addTo_mem {x : Nat} : ∀ (ks s : List Nat), x ∈ addTo s ks → x ∈ s ∨ x ∈ ks
  | [], s, h => .inl h
  | k :: ks, s, h => by
    simp only [addTo] at h
    split at h
    · exact (addTo_mem ks s h).imp id (List.mem_cons_of_mem _)
    · rcases addTo_mem ks _ h with h | h
      · rcases List.mem_cons.1 h with rfl | h
        · exact .inr (by simp)
        · exact .inl h
      · exact .inr (List.mem_cons_of_mem _ h)
theorem union_mem {acc : List (List Nat)} {x : Nat} : ∀ (ks s : List Nat), x ∈ union acc s ks → x ∈ s ∨ x ∈ ks ∨ ∃ k ∈ ks, x ∈ acc.getD k []
  | [], s, h => .inl h
  | k :: ks, s, h => by
    rcases union_mem ks _ h with h | h | ⟨q, hq, h⟩
    · rcases addTo_mem _ _ h with h | h
      · rcases addTo_mem _ _ h with h | h
        · exact .inl h
        · exact .inr (.inl (by simpa using .inl (by simpa using h)))
      · exact .inr (.inr ⟨k, by simp, h⟩)
    · exact .inr (.inl (List.mem_cons_of_mem _ h))
    · exact .inr (.inr ⟨q, List.mem_cons_of_mem _ hq, h⟩)
theorem reach_hang : ∀ (os : List Oper) (acc : List (List Nat)), (∀ (i : Nat) (o : Oper), os[i]? = some o → ops[acc.length + i]? = some o) → (∀ i j, j ∈ acc.getD i [] → Hang ops i j) →
    ∀ i j, j ∈ (os.foldl (fun acc o => acc ++ [union acc [] (deps o)]) acc).getD i [] → Hang ops i j
  | [], acc, _, h => h
  | o :: os, acc, ho, h => by
    simp only [List.foldl_cons]
    refine reach_hang os _ (fun i q hi => ?_) fun i j hj => ?_
    · have := ho (i + 1) q (by simpa using hi)
      rw [← this]; congr 1; simp; omega
    · rcases Nat.lt_trichotomy i acc.length with hlt | heq | hgt
      · refine h i j ?_
        simpa [List.getD, List.getElem?_append_left hlt] using hj
      · subst heq
        have h0 := ho 0 o rfl
        have hj' : j ∈ union acc [] (deps o) := by simpa [List.getD] using hj
        rcases union_mem _ _ hj' with hm | hm | ⟨k, hk, hm⟩
        · cases hm
        · exact .one (hangs_iff.2 ⟨o, h0, hm⟩)
        · exact .step (hangs_iff.2 ⟨o, h0, hk⟩) (h k j hm)
      · rw [List.getD, List.getElem?_eq_none (by simp; omega)] at hj
        cases hj
theorem linked_hang {i j : Nat} (h : linked ops i j = true) : Hang ops i j ∨ Hang ops j i := by
  have key : ∀ i j, j ∈ (reach ops).getD i [] → Hang ops i j := reach_hang ops.toList [] (fun i o hi => by simpa using hi) (fun i j h => by simp at h)
  simp only [linked, linked0, linkedT, Bool.or_eq_true, List.contains_iff_mem] at h
  rcases h with (h | h) | (h | h)
  · exact .inl (.one h)
  · exact .inr (.one h)
  · exact .inl (key _ _ h)
  · exact .inr (key _ _ h)
theorem mem_ready {listed : Array Bool} {i : Nat} (h : i ∈ Region.ready .any ops listed) : i < ops.size ∧ listed.getD i true = false ∧ ∀ j, hangs ops i j = true → listed.getD j false = true := by
  simp only [Region.ready, List.mem_filter, List.mem_range, Bool.and_eq_true, Bool.not_eq_true'] at h
  obtain ⟨h1, h2, h3⟩ := h
  refine ⟨h1, h2, fun j hj => ?_⟩
  obtain ⟨o, ho, hd⟩ := hangs_iff.1 hj
  rw [ho] at h3
  simp only [Option.map_some, Option.getD_some, Array.all_eq_true'] at h3
  simp only [deps, List.mem_map, List.mem_filter] at hd
  obtain ⟨e, ⟨he, hb⟩, rfl⟩ := hd
  have := h3 e (by simpa using he)
  rw [hb] at this
  simpa using this
theorem ready_mem [N0] {listed : Array Bool} {i : Nat} (h1 : i < ops.size) (h2 : listed.getD i true = false) (h3 : ∀ j, hangs ops i j = true → listed.getD j false = true) : i ∈ Region.ready .any ops listed := by
  simp only [Region.ready, List.mem_filter, List.mem_range, Bool.and_eq_true, Bool.not_eq_true']
  refine ⟨h1, h2, ?_⟩
  have ho : ops[i]? = some ops[i] := Array.getElem?_eq_getElem h1
  rw [ho]
  simp only [Option.map_some, Option.getD_some, Array.all_eq_true']
  intro e he
  cases hb : Region.binds .any e with
  | false => simp
  | true =>
    have := h3 e.on (hangs_iff.2 ⟨_, ho, List.mem_map.2 ⟨e, List.mem_filter.2 ⟨by simpa using he, hb⟩, rfl⟩⟩)
    simp [this]
theorem getD_set {listed : Array Bool} {i k : Nat} : (listed.setIfInBounds i true).getD k true = (listed.getD k true || decide (k = i)) := by
  simp only [Array.getD_eq_getD_getElem?, Array.getElem?_setIfInBounds]
  by_cases e : i = k
  · subst e
    by_cases hlt : i < listed.size <;> simp [hlt]
  · have : ¬ k = i := fun h => e h.symm
    simp [e, this]

/-- What an order lists. -/
theorem go_list [N0] : ∀ (fuel t : Nat) (listed : Array Bool), (Region.linearise.go .any ops fuel t listed []).Nodup ∧ ∀ i ∈ Region.linearise.go .any ops fuel t listed [], i < ops.size ∧ listed.getD i true = false
  | 0, t, listed => by simp [Region.linearise.go]
  | fuel + 1, t, listed => by
    have hgo : Region.linearise.go .any ops (fuel + 1) t listed [] = match (Region.ready .any ops listed)[t % (Region.ready .any ops listed).length]? with
      | some i => Region.linearise.go .any ops fuel (t / (Region.ready .any ops listed).length) (listed.setIfInBounds i true) [i]
      | none => [] := rfl
    rw [hgo]
    split
    · rename_i i hi
      have hr := mem_ready (List.mem_of_getElem? hi)
      rw [linearise_go_acc]
      obtain ⟨n1, n2⟩ := go_list fuel (t / (Region.ready .any ops listed).length) (listed.setIfInBounds i true)
      have hne : i ∉ Region.linearise.go .any ops fuel (t / (Region.ready .any ops listed).length) (listed.setIfInBounds i true) [] := fun h => by
        have := (n2 i h).2
        rw [getD_set] at this
        simp at this
      refine ⟨by simpa using ⟨hne, n1⟩, fun k hk => ?_⟩
      simp only [List.reverse_cons, List.reverse_nil, List.nil_append, List.cons_append, List.mem_cons] at hk
      rcases hk with rfl | hk
      · exact ⟨hr.1, hr.2.1⟩
      · have := n2 k hk
        rw [getD_set] at this
        simp only [Bool.or_eq_false_iff] at this
        exact ⟨this.1, this.2.1⟩
    · simp

theorem sched [N0] {Φ : Nat → FP} {S : Nat → Prop} (pw : PW ops Φ S) (ta : TA ops) {res : Ex × St} : ∀ (fuel t : Nat) (listed : Array Bool) (l : List Nat) (σ : St), Dn C O Es ops Φ S l σ res → l.Nodup → (∀ i, i ∈ l ↔ i < ops.size ∧ listed.getD i true = false) →
    l.Pairwise (fun j i => hangs ops j i = false) → (∀ i ∈ l, ∀ j, hangs ops i j = true → j < ops.size ∧ j ≠ i) → listed.size = ops.size → l.length ≤ fuel → (∀ k, listed.getD k false = true → ∀ j, hangs ops k j = true → listed.getD j false = true) →
    ∃ res', runO C O Es ops (Region.linearise.go .any ops fuel t listed []) σ = some res' ∧ Like0 res res'
  | 0, t, listed, l, σ, d, hn, hm, hp, hb, hsz, hf, hcl => by
    obtain rfl : l = [] := List.eq_nil_of_length_eq_zero (by omega)
    simp only [Dn] at d
    subst d
    exact ⟨_, rfl, rfl⟩
  | fuel + 1, t, listed, l, σ, d, hn, hm, hp, hb, hsz, hf, hcl => by
    have hgo : Region.linearise.go .any ops (fuel + 1) t listed [] = match (Region.ready .any ops listed)[t % (Region.ready .any ops listed).length]? with
      | some i => Region.linearise.go .any ops fuel (t / (Region.ready .any ops listed).length) (listed.setIfInBounds i true) [i]
      | none => [] := rfl
    rw [hgo]
    have hlist : ∀ j, j < ops.size → j ∉ l → listed.getD j false = true := fun j hj hjl => by
      have h1 : listed.getD j true = true := by
        cases h : listed.getD j true with
        | true => rfl
        | false => exact absurd ((hm j).2 ⟨hj, h⟩) hjl
      have hlt : j < listed.size := by omega
      simp only [Array.getD_eq_getD_getElem?, Array.getElem?_eq_getElem hlt, Option.getD_some] at h1 ⊢
      exact h1
    split
    · rename_i i hi
      have hr := mem_ready (List.mem_of_getElem? hi)
      have hil : i ∈ l := (hm i).2 ⟨hr.1, hr.2.1⟩
      obtain ⟨l1, l2, rfl⟩ := List.append_of_mem hil
      have hnd := hn
      rw [List.nodup_append] at hnd
      obtain ⟨nd1, nd2, nd3⟩ := hnd
      have hi1 : i ∉ l1 := fun h => nd3 i h i (by simp) rfl
      have hi2 : i ∉ l2 := (List.nodup_cons.1 nd2).1
      have down : ∀ {a b : Nat}, Hang ops a b → listed.getD a false = true → listed.getD b false = true := by
        intro a b h
        induction h with
        | one h => exact fun ha => hcl _ ha _ h
        | step h _ ih => exact fun ha => ih (hcl _ ha _ h)
      have unl : ∀ k, k ∈ l1 ++ i :: l2 → listed.getD k false = true → False := fun k hk h1 => by
        have h2 := ((hm k).1 hk).2
        have hlt : k < listed.size := by
          rcases Nat.lt_or_ge k listed.size with h | h
          · exact h
          · simp [Array.getD_eq_getD_getElem?, Array.getElem?_eq_none h] at h1
        simp only [Array.getD_eq_getD_getElem?, Array.getElem?_eq_getElem hlt, Option.getD_some] at h1 h2
        rw [h1] at h2; cases h2
      have up : ∀ {a b : Nat}, Hang ops a b → b = i → a ∈ l1 → False := by
        intro a b h
        induction h with
        | @one a b h =>
          intro e ha
          subst e
          have := (List.pairwise_append.1 hp).2.2 a ha b (by simp)
          rw [h] at this; cases this
        | @step a k b h h2 ih =>
          intro e ha
          have hk := hb a (by simp [ha]) k h
          by_cases hkl : k ∈ l1 ++ i :: l2
          · rcases List.mem_append.1 hkl with hk1 | hk2
            · exact ih e hk1
            · have := (List.pairwise_append.1 hp).2.2 a ha k hk2
              rw [h] at this; cases this
          · have h1 := hlist k hk.1 hkl
            subst e
            exact unl b (by simp) (down h2 h1)
      have hun : ∀ j ∈ l1, linked ops i j = false := fun j hj => by
        cases hh : linked ops i j with
        | false => rfl
        | true =>
          rcases linked_hang hh with h | h
          · cases h with
            | one h => exact (unl j (by simp [hj]) (hr.2.2 j h)).elim
            | step h h2 => exact (unl j (by simp [hj]) (down h2 (hr.2.2 _ h))).elim
          · exact (up h rfl hj).elim
      obtain ⟨k0, o, r, σ1, k1, k2, k3, k4⟩ := front pw ta l1 d hun hi1
      rw [linearise_go_acc]
      simp only [List.reverse_cons, List.reverse_nil, List.nil_append, List.cons_append, runO, k1, k2, Option.bind_some]
      rcases k4 with ⟨rfl, k4⟩ | ⟨x, rfl, k5, _⟩
      · simp only
        have hsub : (l1 ++ l2).Sublist (l1 ++ i :: l2) := List.Sublist.append_left (List.sublist_cons_self i l2) l1
        refine sched pw ta fuel _ (listed.setIfInBounds i true) (l1 ++ l2) σ1 k4 (hn.sublist hsub) (fun k => ?_) (hp.sublist hsub) (fun k hk => hb k (hsub.subset hk)) (by simp [hsz]) (by simp at hf ⊢; omega) (fun k hk j hj => ?_)
        rotate_left
        · have gs : ∀ q, (listed.setIfInBounds i true).getD q false = (listed.getD q false || decide (q = i)) := fun q => by
            simp only [Array.getD_eq_getD_getElem?, Array.getElem?_setIfInBounds]
            have hlt : i < listed.size := by rw [hsz]; exact hr.1
            by_cases e : i = q
            · subst e; simp [hlt]
            · have : ¬ q = i := fun h => e h.symm
              simp [e, this]
          rw [gs, Bool.or_eq_true, decide_eq_true_eq] at hk ⊢
          rcases hk with hk | rfl
          · exact .inl (hcl k hk j hj)
          · exact .inl (hr.2.2 j hj)
        rw [getD_set]
        have := hm k
        simp only [List.mem_append, List.mem_cons] at this ⊢
        simp only [Bool.or_eq_false_iff, decide_eq_false_iff_not]
        constructor
        · intro hk
          have h1 := this.1 (hk.imp id .inr)
          refine ⟨h1.1, h1.2, fun e => ?_⟩
          subst e
          rcases hk with hk | hk
          · exact hi1 hk
          · exact hi2 hk
        · rintro ⟨h1, h2, h3⟩
          rcases this.2 ⟨h1, h2⟩ with h | h | h
          · exact .inl h
          · exact absurd h h3
          · exact .inr h
      · exact ⟨_, rfl, k5⟩
    · rename_i hnone
      cases l with
      | nil => simp only [Dn] at d; subst d; exact ⟨_, rfl, rfl⟩
      | cons x tl =>
        have hx := (hm x).1 (by simp)
        have hxr : x ∈ Region.ready .any ops listed := ready_mem hx.1 hx.2 fun j hj => by
          have hbj := hb x (by simp) j hj
          refine hlist j hbj.1 fun hjl => ?_
          rcases List.mem_cons.1 hjl with e | e
          · exact hbj.2 e
          · have := (List.pairwise_cons.1 hp).1 j e
            rw [hj] at this; cases this
        have hlen : 0 < (Region.ready .any ops listed).length := List.length_pos_of_mem hxr
        have := Nat.mod_lt t hlen
        rw [List.getElem?_eq_getElem this] at hnone
        cases hnone

/-- The canonical order, as a plan. -/
theorem runD_Dn [N0] : ∀ (l : List Nat) (acc : List (Nat × FP)) (σ : St) (res : Ex × St) (K : Nat → Prop) (Φ0 : Nat → FP), runD C O Es ops l acc σ = some res → l.Nodup → (∀ k, K k → k ∉ l) →
    (∀ k, K k → (Φ0 k).none = true ∨ (k, Φ0 k) ∈ acc) → PW ops Φ0 K → ∃ Φ S, (∀ k, K k → S k ∧ Φ k = Φ0 k) ∧ PW ops Φ S ∧ Dn C O Es ops Φ S l σ res
  | [], acc, σ, res, K, Φ0, h, _, _, _, pw => by
    simp only [runD, Option.some.injEq] at h
    exact ⟨Φ0, K, fun k hk => ⟨hk, rfl⟩, pw, h.symm⟩
  | i :: rest, acc, σ, res, K, Φ0, h, hn, hK, hacc, pw => by
    simp only [runD] at h
    cases ho : ops[i]? with
    | none => rw [ho] at h; cases h
    | some o =>
      rw [ho] at h
      simp only at h
      split at h
      case isFalse => cases h
      rename_i hc
      simp only [Option.bind_eq_some_iff] at h
      obtain ⟨⟨r, σ1⟩, hst, h⟩ := h
      obtain ⟨e, v, _, _, hr0, _⟩ := stepO_eff hst
      have hiK : ¬ K i := fun hk => hK i hk (by simp)
      generalize hfi : fpO C Es ops o σ = fi at hc h
      let Φ1 : Nat → FP := fun k => if k = i then fi else Φ0 k
      have hΦi : Φ1 i = fi := if_pos rfl
      have hΦk : ∀ k, K k → Φ1 k = Φ0 k := fun k hk => if_neg fun (e : k = i) => hiK (e ▸ hk)
      have hnone : ∀ {f g : FP}, f.none = true → g.apart f = true := fun {f g} hf => by
        simp only [FP.none, Bool.and_eq_true, List.isEmpty_iff, Bool.not_eq_true'] at hf
        obtain ⟨⟨⟨⟨h1, h2⟩, h3⟩, h4⟩, h5⟩ := hf
        simp [FP.apart, h1, h2, h3, h4, h5, disj]
      have hik : ∀ k, K k → fi.apart (Φ0 k) = true ∨ linked ops i k = true := fun k hk => by
        rcases hacc k hk with h0 | h0
        · exact .inl (hnone h0)
        · have := List.all_eq_true.1 hc _ h0
          simpa using this
      have pw1 : PW ops Φ1 (fun k => k = i ∨ K k) := by
        intro a b ha hb hne
        rcases ha with rfl | ha
        · rcases hb with rfl | hb
          · exact absurd rfl hne
          · rw [hΦi, hΦk b hb]; exact hik b hb
        · rcases hb with rfl | hb
          · rw [hΦi, hΦk a ha, linked_symm]; exact (hik a ha).imp FP.apart_symm id
          · rw [hΦk a ha, hΦk b hb]; exact pw a b ha hb hne
      rcases hr0 with rfl | ⟨x, rfl⟩
      · simp only at h
        have hn' := List.nodup_cons.1 hn
        obtain ⟨Φ, S, q1, q2, q3⟩ := runD_Dn rest _ σ1 res (fun k => k = i ∨ K k) Φ1 h hn'.2 (fun k hk hkr => by
            rcases hk with rfl | hk
            · exact hn'.1 hkr
            · exact hK k hk (by simp [hkr])) (fun k hk => by
            rcases hk with rfl | hk
            · rw [hΦi]
              by_cases hz : fi.none = true
              · exact .inl hz
              · exact .inr (by rw [if_neg hz]; simp)
            · rw [hΦk k hk]
              refine (hacc k hk).imp id fun hm => ?_
              split
              · exact hm
              · exact List.mem_cons_of_mem _ hm) pw1
        have hSi := q1 i (.inl rfl)
        exact ⟨Φ, S, fun k hk => ⟨(q1 k (.inr hk)).1, by rw [(q1 k (.inr hk)).2, hΦk k hk]⟩, q2, hSi.1, o, .u, σ1, ho, hst, by rw [hSi.2, hΦi]; exact hfi, .inl ⟨rfl, q3⟩⟩
      · simp only at h
        split at h
        · rename_i hrest
          simp only [Bool.and_eq_true] at hrest
          cases h
          refine ⟨Φ1, fun k => k = i ∨ K k, fun k hk => ⟨.inr hk, hΦk k hk⟩, pw1, .inl rfl, o, .pan x, σ1, ho, hst, by rw [hΦi]; exact hfi, .inr ⟨x, rfl, ⟨σ1, rfl, rfl⟩, fun j hj => List.all_eq_true.1 hrest.1 j hj, fun j hj hne => ?_⟩⟩
          rcases hj with rfl | hj
          · exact absurd rfl hne
          · rw [hΦk j hj]
            rcases hacc j hj with h0 | h0
            · simp only [FP.none, Bool.and_eq_true, Bool.not_eq_true'] at h0
              exact .inl h0.1.2
            · have := List.all_eq_true.1 hrest.2 _ h0
              simpa using this
        · cases h
end
end Go.Proofs.Ytmmhpmfgcenngaa
/-! Regions that draw their order: sound. -/
set_option linter.unusedVariables false
set_option linter.unusedSimpArgs false
namespace Go.Proofs.Ytmmhpmfgcenngaa
section
variable {E : Ent} {dm : List Nat} {G : Gh} {σ : St} {a : Act} {C : Cfg} {O : Orc} {rd : Option Nat} {w : World} {ops : Array Oper}

theorem linExt_ok : ∀ (L l0 : List Nat), linExt ops l0 L = true → L.Nodup → (∀ x ∈ l0, x ∉ L) →
    L.Pairwise (fun j i => hangs ops j i = false) ∧ ∀ i ∈ L, ∀ j, hangs ops i j = true → (j ∈ l0 ∨ j ∈ L) ∧ j ≠ i
  | [], l0, _, _, _ => ⟨List.Pairwise.nil, by simp⟩
  | i :: rest, l0, h, hn, hd => by
    simp only [linExt, Bool.and_eq_true] at h
    have hn' := List.nodup_cons.1 hn
    have hdi : ∀ j, hangs ops i j = true → j ∈ l0 := fun j hj => by
      obtain ⟨o, ho, hdj⟩ := hangs_iff.1 hj
      have := h.1
      rw [ho] at this
      simpa using List.all_eq_true.1 this j hdj
    obtain ⟨p1, p2⟩ := linExt_ok rest (i :: l0) h.2 hn'.2 (fun x hx hxr => by
      rcases List.mem_cons.1 hx with rfl | hx
      · exact hn'.1 hxr
      · exact hd x hx (by simp [hxr]))
    refine ⟨List.pairwise_cons.2 ⟨fun k hk => ?_, p1⟩, fun k hk j hj => ?_⟩
    · cases hh : hangs ops i k with
      | false => rfl
      | true => exact absurd (by simp [hk] : k ∈ i :: rest) (hd k (hdi k hh))
    · rcases List.mem_cons.1 hk with rfl | hk
      · exact ⟨.inl (hdi j hj), fun e => by subst e; exact hd j (hdi j hj) (by simp)⟩
      · obtain ⟨q1, q2⟩ := p2 k hk j hj
        refine ⟨?_, q2⟩
        rcases q1 with q | q
        · rcases List.mem_cons.1 q with rfl | q
          · exact .inr (by simp)
          · exact .inl q
        · exact .inr (by simp [q])
theorem lp_nodup {Es : List Nat} : ∀ (l : List Nat), (allocs Es ops).Nodup → l.Nodup → (lp Es ops l).Nodup
  | [], _, _ => List.nodup_nil
  | i :: rest, ha, hn => by
    have hn' := List.nodup_cons.1 hn
    have ih := lp_nodup rest ha hn'.2
    cases hp : (ops[i]?).bind (allocP Es) with
    | none => simpa [lp, List.filterMap_cons, hp] using ih
    | some p =>
      have hl : lp Es ops (i :: rest) = p :: lp Es ops rest := by simp [lp, List.filterMap_cons, hp]
      rw [hl]
      refine List.nodup_cons.2 ⟨fun hm => ?_, ih⟩
      simp only [lp, List.mem_filterMap] at hm
      obtain ⟨k, hk, hkp⟩ := hm
      rw [← lp_range] at ha
      have hne : i ≠ k := fun e => hn'.1 (e ▸ hk)
      have key : ∀ (L : List Nat), (lp Es ops L).Nodup → ∀ i k, i ∈ L → k ∈ L → i ≠ k → (ops[i]?).bind (allocP Es) = some p → (ops[k]?).bind (allocP Es) = some p → False := by
        intro L
        induction L with
        | nil => intro _ i k hi; cases hi
        | cons x xs ih =>
          intro hnd i k hi hk hne h1 h2
          cases hx : (ops[x]?).bind (allocP Es) with
          | none =>
            have hl : lp Es ops (x :: xs) = lp Es ops xs := by simp [lp, List.filterMap_cons, hx]
            rw [hl] at hnd
            rcases List.mem_cons.1 hi with rfl | hi
            · rw [hx] at h1; cases h1
            · rcases List.mem_cons.1 hk with rfl | hk
              · rw [hx] at h2; cases h2
              · exact ih hnd i k hi hk hne h1 h2
          | some q =>
            have hl : lp Es ops (x :: xs) = q :: lp Es ops xs := by simp [lp, List.filterMap_cons, hx]
            rw [hl] at hnd
            have hnd' := List.nodup_cons.1 hnd
            rcases List.mem_cons.1 hi with ei | hi'
            · rcases List.mem_cons.1 hk with ek | hk'
              · exact hne (ei.trans ek.symm)
              · subst ei
                rw [h1] at hx; cases hx
                exact hnd'.1 (List.mem_filterMap.2 ⟨k, hk', h2⟩)
            · rcases List.mem_cons.1 hk with ek | hk'
              · subst ek
                rw [h2] at hx; cases hx
                exact hnd'.1 (List.mem_filterMap.2 ⟨i, hi', h1⟩)
              · exact ih hnd'.2 i k hi' hk' hne h1 h2
      have hlt : ∀ x, (ops[x]?).bind (allocP Es) = some p → x ∈ List.range ops.size := fun x hx => by
        rcases Nat.lt_or_ge x ops.size with h | h
        · simpa using h
        · simp [Array.getElem?_eq_none h] at hx
      exact key _ ha i k (hlt i hp) (hlt k hkp) hne hp hkp
theorem Like0.trans [N0] {x y z : Ex × St} (h : Like0 x y) (k : Like0 y z) : Like0 x z := by
  obtain ⟨e, s⟩ := x
  cases e with
  | pan v =>
    simp only [Like0] at h
    obtain ⟨s', rfl, e1⟩ := h
    simp only [Like0] at k ⊢
    obtain ⟨s'', rfl, e2⟩ := k
    exact ⟨s'', rfl, e2.trans e1⟩
  | _ => simp only [Like0] at h; subst h; exact k
theorem EQ.like [N0] {ex ex' : Ex} {σ1 σ2 : St} {e : Exit} {a' : Act} {w' : World} (h : Like0 (ex, σ1) (ex', σ2)) (q : EQ E w ex' σ2 e a' w') : EQ E w (dropT (ex, σ1)).1 (dropT (ex, σ1)).2 e a' w' := by
  obtain ⟨io, dm', G', σ'', f, x, lk⟩ := q
  cases ex with
  | pan v =>
    simp only [Like0] at h
    obtain ⟨s, e1, e2⟩ := h
    obtain ⟨rfl, rfl⟩ := Prod.mk.inj e1
    simp only [Like] at lk
    obtain ⟨s2, e3, e4, _⟩ := lk
    obtain ⟨_, rfl⟩ := Prod.mk.inj e3
    exact ⟨io, dm', G', σ'', f, x, σ'', rfl, e4.trans e2, fun t i o hh => by simp [dropT] at hh⟩
  | _ =>
    simp only [Like0] at h
    obtain ⟨rfl, rfl⟩ := Prod.mk.inj h
    exact ⟨io, dm', G', σ'', f, x, lk⟩

theorem ro_apart {a b : FP} (ha : a.wl = [] ∧ a.wh = false ∧ a.tk = false) (hb : b.wl = [] ∧ b.wh = false ∧ b.tk = false) : a.apart b = true := by
  simp [FP.apart, ha.1, ha.2.1, ha.2.2, hb.1, hb.2.1, hb.2.2, disj]
theorem runP_D [N0] {Es : List Nat} {ops : Array Oper} {res : Ex × St} : ∀ (l : List Nat) (σ : St) (acc : List (Nat × FP)), (∀ x ∈ acc, x.2.wl = [] ∧ x.2.wh = false ∧ x.2.tk = false) → runP C O Es ops l σ = some res → runD C O Es ops l acc σ = some res
  | [], σ, acc, _, h => h
  | i :: rest, σ, acc, ha, h => by
    simp only [runP] at h
    simp only [runD]
    cases ho : ops[i]? with
    | none => rw [ho] at h; cases h
    | some o =>
      rw [ho] at h
      simp only at h ⊢
      obtain ⟨⟨r, σ1⟩, hg, h⟩ := Option.bind_eq_some_iff.1 h
      obtain ⟨b, hb, hg⟩ := Option.bind_eq_some_iff.1 hg
      have key : ((fpO C Es ops o σ).wl = [] ∧ (fpO C Es ops o σ).wh = false ∧ (fpO C Es ops o σ).tk = false) ∧ stepO C O Es ops o σ = some (r, σ1) := by
        unfold fpO stepO
        rw [hb]
        cases b with
        | false => exact ⟨⟨rfl, rfl, rfl⟩, hg⟩
        | true =>
          simp only [guardP] at hg
          obtain ⟨a, hd, hg⟩ := Option.bind_eq_some_iff.1 hg
          simp only [hd]
          unfold actP at hg
          split at hg
          case isFalse => cases hg
          rename_i hro
          refine ⟨?_, hg⟩
          cases a <;> simp_all [MA.ro, MA.fp]
      rw [if_pos (by
        refine List.all_eq_true.2 fun x hx => ?_
        rw [ro_apart key.1 (ha x hx)]; rfl), key.2]
      simp only [Option.bind_some]
      have hacc : ∀ x ∈ (if (fpO C Es ops o σ).none then acc else (i, fpO C Es ops o σ) :: acc), x.2.wl = [] ∧ x.2.wh = false ∧ x.2.tk = false := fun x hx => by
        split at hx
        · exact ha x hx
        · rcases List.mem_cons.1 hx with rfl | hx
          · exact key.1
          · exact ha x hx
      cases r with
      | pan x =>
        simp only at h ⊢
        split at h
        · rename_i hh
          have hb2 : (acc.all fun x => !x.2.wh || linked ops i x.1) = true := List.all_eq_true.2 fun y hy => by simp [(ha y hy).2.1]
          rw [if_pos (by simp only [hh, hb2, Bool.and_self])]
          exact h
        · cases h
      | v x => exact runP_D rest σ1 _ hacc h
      | u => exact runP_D rest σ1 _ hacc h

theorem region_draw [N0] (hs : Sound C O) (hmix : C.P.follows .mixedOrders = true) (f : FR E dm G σ a w.heap) {Es : List Nat} {l : List Nat} {ro : Bool} {id : Nat} {ex : Ex} {σ' : St} (hr : regionA C O Es l ro ops true σ = some (ex, σ')) :
    (Code.region id ops true).wpIn (fen rd) 0 C.P (EQ E w ex σ') a w := by
  unfold regionA at hr
  split at hr
  case isFalse => cases hr
  rename_i hnd
  simp only [if_true] at hr
  split at hr
  case isFalse => cases hr
  rename_i hst
  simp only [statOk, Bool.and_eq_true] at hst
  obtain ⟨⟨⟨⟨⟨h0, h1⟩, h2⟩, h3⟩, h4⟩, h5⟩ := hst
  have canon_lt : ∀ {i : Nat}, i ∈ l → i < ops.size := fun {i} hi => by simpa using List.all_eq_true.1 h0 i hi
  have hr2 : ((runD C O Es ops l [] (prep Es ops σ)).map dropT) = some (ex, σ') := by
    split at hr
    · rw [Option.map_eq_some_iff] at hr ⊢
      obtain ⟨x, h1, h2⟩ := hr
      exact ⟨x, runP_D _ _ _ (by simp) h1, h2⟩
    · exact hr
  rw [Option.map_eq_some_iff] at hr2
  obtain ⟨⟨ex0, σ0⟩, hr3, hdrop⟩ := hr2
  clear hr
  have hr := hr3
  clear hr3
  obtain rfl : (dropT (ex0, σ0)).1 = ex := by rw [hdrop]
  obtain rfl : (dropT (ex0, σ0)).2 = σ' := by rw [hdrop]
  have hcn := nodupB_iff _ h2
  obtain ⟨f', hl⟩ := prep_ok f Es ops
  have ta : TA ops := fun i j oi oj hi hj hne => by
    have li : i < ops.size := (Array.getElem?_eq_some_iff.1 hi).1
    have lj : j < ops.size := (Array.getElem?_eq_some_iff.1 hj).1
    have := List.all_eq_true.1 (List.all_eq_true.1 h5 i (by simpa using li)) j (by simpa using lj)
    simp only [hi, hj, Bool.or_eq_true, beq_iff_eq] at this
    rcases this with ((h | h) | h) | h
    · exact absurd h hne
    · exact .inl (by simp [linked, h])
    · exact .inr h
    · exact .inl (by simp [linked, h])
  obtain ⟨Φ, S, _, pw, d⟩ := runD_Dn (C := C) (O := O) (Es := Es) (l) [] _ _ (fun _ => False) (fun _ => {}) hr hcn (fun _ h => h.elim) (fun _ h => h.elim) (fun _ _ h => h.elim)
  obtain ⟨l1, l2⟩ := linExt_ok (l) [] h1 hcn (by simp)
  refine wpIn_region_draw fun t => ?_
  simp only [Region.schedule, hmix, Bool.true_or, if_true, Region.linearise]
  obtain ⟨⟨ex', σ2⟩, r1, r2⟩ := sched pw ta ops.size t (Array.replicate ops.size false) (l) _ d hcn (fun i => by
      constructor
      · intro hi
        have := canon_lt hi
        exact ⟨this, by simp [Array.getD_eq_getD_getElem?, this]⟩
      · rintro ⟨hi, _⟩
        have := List.all_eq_true.1 h3 i (by simpa using hi)
        simpa using this) l1 (fun i hi j hj => by
      obtain ⟨q1, q2⟩ := l2 i hi j hj
      exact ⟨canon_lt (q1.resolve_left (by simp)), q2⟩) (by simp) (by
      have : (l).length = ops.size := by simpa using h4
      omega) (fun k hk => by
      rw [Array.getD_eq_getD_getElem?, Array.getElem?_replicate] at hk
      split at hk <;> simp at hk)
  obtain ⟨g1, g2⟩ := go_list (ops := ops) ops.size t (Array.replicate ops.size false)
  have hsub : ∀ p ∈ lp Es ops (Region.linearise.go .any ops ops.size t (Array.replicate ops.size false) []), p ∈ allocs Es ops := fun p hp => by
    simp only [lp, List.mem_filterMap] at hp
    obtain ⟨i, hi, hp⟩ := hp
    rw [← lp_range]
    exact List.mem_filterMap.2 ⟨i, by simpa using (g2 i hi).1, hp⟩
  refine run_sound hs _ (w := { w with drawn := w.drawn + 1 }) f' (hl.sub hsub) (lp_nodup _ (nodupB_iff _ hnd) g1) r1 fun e a' w' q => ?_
  have q' := q.like r2
  exact ⟨⟨q'.1.1, q'.1.2⟩, q'.2⟩
end
end Go.Proofs.Ytmmhpmfgcenngaa
/-! Code: sound, construct by construct. -/
set_option linter.unusedVariables false
set_option linter.unusedSimpArgs false
namespace Go.Proofs.Ytmmhpmfgcenngaa
section
variable {E : Ent} {X : Nat → Nat → Prop} {dm ps : List Nat} {G : Gh} {h : Array Obj} {M : Nat → Nat → Prop} {σ : St} {a : Act} {C : Cfg} {O : Orc} {rd : Option Nat} {w : World} {P : Program}

/-- A new object among the shared ones. -/
theorem FR.alO [N0] (f : FR E dm G σ a h) (o : Obj) (hno : nf o) (ho : HO)
    (hnew : ∀ G' : Gh, G'.hb[σ.mem.heap.length]? = some h.size → G'.hv[σ.mem.heap.length]? = some 0 → G'.ha[σ.mem.heap.length]? = some none → Upd E.X [] (fun _ => False) G h G' (h.push o) → objR G' (h.push o) (Mut E.X G') σ.mem.heap.length ho) :
    ∃ G', FR E dm G' { σ with mem := { σ.mem with heap := σ.mem.heap ++ [ho] } } a (h.push o) ∧ G'.hb[σ.mem.heap.length]? = some h.size ∧ Upd E.X [] (fun _ => False) G h G' (h.push o) := by
  let G' : Gh := { G with hb := G.hb ++ [h.size], hv := G.hv ++ [0], ha := G.ha ++ [none], ow := fun b => if b = h.size then .h G.hb.length else G.ow b }
  have hhb : ∀ (i b : Nat), G'.hb[i]? = some b → (i = G.hb.length ∧ b = h.size) ∨ G.hb[i]? = some b := by
    intro i b hi
    simp only [G', List.getElem?_append] at hi
    split at hi
    · exact .inr hi
    · rename_i hlt
      have : i - G.hb.length = 0 := by
        rcases Nat.eq_zero_or_pos (i - G.hb.length) with e | e
        · exact e
        · rw [List.getElem?_eq_none (by simp; omega)] at hi; cases hi
      rw [this] at hi
      cases hi
      exact .inl ⟨by omega, rfl⟩
  have hha : ∀ (i : Nat) (r : Tok), G'.ha[i]? = some (some r) → G.ha[i]? = some (some r) := by
    intro i r hi
    simp only [G', List.getElem?_append] at hi
    split at hi
    · exact hi
    · have : i - G.ha.length = 0 ∨ 0 < i - G.ha.length := Nat.eq_zero_or_pos _
      rcases this with e | e
      · rw [e] at hi; cases hi
      · rw [List.getElem?_eq_none (by simp; omega)] at hi; cases hi
  have hmh : ∀ b off, b < h.size → Mh G' b off → Mh G b off := by
    rintro b off hb (⟨i, hi⟩ | ⟨i, r, hr, e1, e2⟩)
    · rcases hhb i b hi with ⟨_, e⟩ | e
      · omega
      · exact .inl ⟨i, e⟩
    · exact .inr ⟨i, r, hha i r hr, e1, e2⟩
  have u : Upd E.X [] (fun _ => False) G h G' (h.push o) := by
    refine ⟨NB_push hno, by simp, fun b hb _ => by rw [Array.getElem?_push_lt hb, ← Array.getElem?_eq_getElem hb], fun _ h => h.elim, fun b off v e n => ?_, fun b off hb e => e.imp (hmh b off hb) id, ⟨fun i b hi => ?_, fun _ _ _ h => h, Nat.le_refl _, fun t r _ hr => ⟨r, hr, Nat.le_refl _, fun _ => rfl⟩, fun i v hv => ?_⟩⟩
    · have hb := cel_lt e
      refine ⟨by rw [cel_push h _ b off hb]; exact e, ?_⟩
      rintro (k | k | k)
      · exact n (.inl (hmh b off hb k))
      · exact n (.inr (.inl k))
      · exact n (.inr (.inr k))
    · simp only [G', List.getElem?_append_left (getElem_lt hi)]; exact hi
    · exact ⟨v, by simp only [G', List.getElem?_append_left (getElem_lt hv)]; exact hv, Nat.le_refl _, fun _ r hr => hha i r hr⟩
  have ow' : OW G' (h.push o) E.X dm := by
    have hne : ∀ b, b < h.size → G'.ow b = G.ow b := fun b hb => if_neg (Nat.ne_of_lt hb)
    have owp := f.ow.push o
    refine ⟨fun i b hb => ?_, fun i b r hr hb => ?_, fun q b hq => ?_, fun t b r hr hb => ?_, fun b hb => ?_, fun b off hx => ?_, fun r hr => ?_⟩
    · rcases hhb i b hb with ⟨e1, e2⟩ | e
      · subst e1; subst e2; exact if_pos rfl
      · rw [hne b (f.ow.hb_lt e)]; exact f.ow.oh i b e
    · have hr' := hha i r hr
      rw [hne b (f.ow.ha_lt hr' hb)]; exact f.ow.oa i b r hr' hb
    · rw [hne b (f.ow.lb_lt hq)]; exact f.ow.ol q b hq
    · rw [hne b (f.ow.tb_lt hr hb)]; exact f.ow.ot t b r hr hb
    · have hb' : h.size + 1 ≤ b := by simpa using hb
      show (if b = h.size then Ow.h G.hb.length else G.ow b) = _
      rw [if_neg (by omega)]; exact f.ow.fr b (by omega)
    · rw [hne b (f.ev.xlt b off hx)]; exact f.ow.xo b off hx
    · exact ⟨by rw [hne r (dm_lt f.ow hr)]; exact (owp.dm r hr).1, (owp.dm r hr).2⟩
  refine ⟨G', ⟨u.ft f.ft (fun t v _ => noL_nil v), u.fl f.fl rfl (fun _ _ _ h => h) (fun p b e => f.ow.lb_lt e), u.fk f.fk rfl (fun _ _ _ _ _ h => h) (fun t b r e k => f.ow.tb_lt e k), ?_, ow', u.ev f.ev f.ow, f.df⟩, by simp [G', f.hr.lb], u⟩
  refine ⟨by simp [G', f.hr.lb], by simp [G', f.hr.lv], by simp [G', f.hr.la], fun i ho' hi => ?_⟩
  rw [List.getElem?_append] at hi
  split at hi
  · rename_i hlt
    refine objR_on u (fun b hb => ⟨u.on.hb i b hb, u.sm b (f.ow.hb_lt hb) (fun h => h)⟩) ?_ ?_ (fun b r hr hb => u.sm b (f.ow.ha_lt hr hb) (fun h => h)) (f.hr.ob i ho' hi)
    · simp only [G', List.getElem?_append_left (show i < G.hv.length by rw [f.hr.lv]; exact hlt)]
    · simp only [G', List.getElem?_append_left (show i < G.ha.length by rw [f.hr.la]; exact hlt)]
  · rename_i hge
    have : i - σ.mem.heap.length = 0 := by
      rcases Nat.eq_zero_or_pos (i - σ.mem.heap.length) with e | e
      · exact e
      · rw [List.getElem?_eq_none (by simp; omega)] at hi; cases hi
    rw [this] at hi
    cases hi
    have hi : i = σ.mem.heap.length := by omega
    subst hi
    exact hnew G' (by simp [G', f.hr.lb]) (by simp [G', f.hr.lv]) (by simp [G', f.hr.la]) u

/-- A block for deferred calls, that nothing else leads to. -/
theorem FR.mark [N0] (f : FR E dm G σ a h) : FR E (h.size :: dm) G σ { a with defers := { target := .collected h.size, args := #[] } :: a.defers } (h.push (.deferred (some []))) := by
  have f' := f.push (.deferred (some [])) (fun _ _ _ e => by cases e)
  refine ⟨f'.ft, f'.fl, f'.fk, f'.hr, ⟨f'.ow.oh, f'.ow.oa, f'.ow.ol, f'.ow.ot, f'.ow.fr, f'.ow.xo, fun r hr => ?_⟩, f'.ev, ?_, ?_, ?_⟩
  · rcases List.mem_cons.1 hr with rfl | hr
    · exact ⟨f.ow.fr _ (Nat.le_refl _), by simp⟩
    · exact f'.ow.dm r hr
  · simp [f.df.1]
  · exact List.nodup_cons.2 ⟨fun h1 => Nat.lt_irrefl _ (dm_lt f.ow h1), f.df.2.1⟩
  · intro r hr
    rcases List.mem_cons.1 hr with rfl | hr
    · exact f.ev.sz
    · exact f.df.2.2 r hr
theorem ars_of [N0] : ∀ (vs : List AV) (Vs : List Value), vs.length = Vs.length → (∀ (t : Nat) (v : AV), vs[t]? = some v → ar G h M v (Vs.getD t undef)) → ars G h M vs Vs
  | [], [], _, _ => rfl
  | [], _ :: _, hl, _ => by simp at hl
  | _ :: _, [], hl, _ => by simp at hl
  | v :: vs, V :: Vs, hl, hr => by
    simp only [ars]
    exact ⟨V, Vs, rfl, by simpa using hr 0 v rfl, ars_of vs Vs (by simpa using hl) fun t u ht => by simpa using hr (t + 1) u (by simpa using ht)⟩
theorem FT.ars [N0] (f : FT G h M σ.tmps a.tmps) : ars G h M σ.tmps a.tmps.toList :=
  ars_of _ _ (by simpa using f.tl) fun t v ht => by
    have := f.tm t v ht
    simpa [Array.getD_eq_getD_getElem?, List.getD_eq_getElem?_getD] using this
theorem clrs_ar [N0] : ∀ (vs : List AV) (Vs : List Value), Go.Proofs.Ytmmhpmfgcenngaa.ars G h M vs Vs → Go.Proofs.Ytmmhpmfgcenngaa.ars G h M (vs.map AV.clr) Vs ∧ (vs.map AV.clr).all AV.stillK = true
  | [], Vs, e => ⟨e, rfl⟩
  | v :: vs, Vs, e => by
    simp only [Go.Proofs.Ytmmhpmfgcenngaa.ars, List.map_cons, List.all_cons, Bool.and_eq_true] at e ⊢
    obtain ⟨V, Vs', e1, e2, e3⟩ := e
    have h1 := clr_ar e2
    have h2 := clrs_ar vs Vs' e3
    exact ⟨⟨V, Vs', e1, h1.1, h2.1⟩, h1.2, h2.2⟩

/-- The loop's record is laid. -/
theorem FR.enterLoop [N0] (f : FR E dm G σ a h) (ff fn' : Nat) (ps : List Nat) (asg body : Code) (hn : noRange asg = true ∧ noRange body = true) :
    ∃ G', FR E (h.size :: dm) G' { σ with mem := { σ.mem with heap := σ.mem.heap ++ [.loop .ready none { fn := ff, tmps := σ.tmps.map AV.clr, params := ps, assign := asg, body := body }] } } { a with defers := { target := .collected h.size, args := #[] } :: a.defers }
        ((h.push (.deferred (some []))).push (.loop { state := .ready, pending := none, fn := fn', tmps := a.tmps, params := ps.toArray, assign := asg, body := body, defers := h.size })) ∧
      G'.hb[σ.mem.heap.length]? = some (h.size + 1) ∧ ∀ (v : AV) (V : Value), v.okA = true → ar G h (Mut E.X G) v V → ar G' ((h.push (.deferred (some []))).push (.loop { state := .ready, pending := none, fn := fn', tmps := a.tmps, params := ps.toArray, assign := asg, body := body, defers := h.size })) (Mut E.X G') v V := by
  have f1 := f.mark
  have st1 : Stay h (Mut E.X G) (h.push (.deferred (some []))) (Mut E.X G) := Stay_push h _ _
  obtain ⟨G', f2, e1, u⟩ := f1.alO (.loop { state := .ready, pending := none, fn := fn', tmps := a.tmps, params := ps.toArray, assign := asg, body := body, defers := h.size }) (fun _ _ _ e => by cases e) (.loop .ready none { fn := ff, tmps := σ.tmps.map AV.clr, params := ps, assign := asg, body := body })
    (fun G' h1 h2 h3 u => by
      have hc := clrs_ar _ _ f1.ft.ars
      simp only [objR]
      refine ⟨_, h1, h3, hc.2, by simp [hn.1, hn.2], a.tmps.toList, h.size, fn', by simp only [lsOf]; exact Array.getElem?_push_size, stillKs_ar u.st (fun i b hb => u.on.hb i b hb) _ _ hc.2 hc.1⟩)
  exact ⟨G', f2, by simpa using e1, fun v V hv e => ar_on u.on u.st v V (AV.noL_of_ok _ _ hv) (ar_on (Gon.refl [] G) st1 v V (AV.noL_of_ok _ _ hv) e)⟩
end
end Go.Proofs.Ytmmhpmfgcenngaa
/-! Code: sound by the oracle's soundness. -/
set_option linter.unusedVariables false
set_option linter.unusedSimpArgs false
namespace Go.Proofs.Ytmmhpmfgcenngaa
section
variable {E : Ent} {X : Nat → Nat → Prop} {dm ps : List Nat} {G : Gh} {h : Array Obj} {M : Nat → Nat → Prop} {σ : St} {a : Act} {C : Cfg} {O : Orc} {rd : Option Nat} {w : World} {P : Program}

theorem EQ.mono [N0] {ex : Ex} {σ' : St} {e : Exit} {a' : Act} {w w1 w' : World} (io : Io w w1) (q : EQ E w1 ex σ' e a' w') : EQ E w ex σ' e a' w' := ⟨io.trans q.1, q.2⟩

theorem seq_sound [N0] (hs : Sound C O) {f : Nat} {b : Code} {x : Ex × St} {ex : Ex} {σ' : St} (hk : seqK O f b x = some (ex, σ')) (hr : rd = none ∨ noRange b = true) {e : Exit} {a1 : Act} {w1 : World} (q : EQ E w x.1 x.2 e a1 w1) :
    (e = .normal ∧ b.wpIn (fen rd) 0 C.P (EQ E w ex σ') a1 w1) ∨ (e ≠ .normal ∧ EQ E w ex σ' e a1 w1) := by
  obtain ⟨ex1, σ1⟩ := x
  obtain ⟨io, dm', G', σ'', f', xr, lk⟩ := q
  cases ex1 with
  | nor =>
    simp only [seqK] at hk
    simp only [XRel] at xr
    simp only [Like] at lk
    obtain ⟨_, rfl⟩ := Prod.mk.inj lk
    exact .inl ⟨xr, wpIn_mono (hs.code rd _ _ _ _ _ hk hr _ _ _ _ _ f') fun e a w q => q.mono io⟩
  | ret =>
    simp only [seqK] at hk
    cases hk
    simp only [XRel] at xr
    subst xr
    exact .inr ⟨by simp, io, dm', G', σ'', f', rfl, lk⟩
  | exit id =>
    simp only [seqK] at hk
    cases hk
    simp only [XRel] at xr
    subst xr
    exact .inr ⟨by simp, io, dm', G', σ'', f', rfl, lk⟩
  | pan v =>
    simp only [seqK] at hk
    cases hk
    have xr' := xr
    simp only [XRel] at xr
    obtain ⟨V, rfl, _⟩ := xr
    exact .inr ⟨by simp, io, dm', G', σ'', f', xr', lk⟩

theorem wpIn_loop1 [N0] {F : Fence} {c : Code} {Q : Exit → Act → World → Prop} {a : Act} {w : World} (h : LoopIn F P c Q a w) : (Code.loop c).wpIn F 0 P Q a w :=
  fun b k cs hro hb hr => let ⟨e, a', w', q, r⟩ := h b k cs hro hb hr; ⟨e, a', w', q, .of_steps (.one (fenced_calm hb hr rfl) stepR_loop) r⟩
theorem loopIn_of [N0] {F : Fence} {c : Code} {Q : Exit → Act → World → Prop} {a : Act} {w : World} (h : c.wpIn F 0 P (Exit.then (LoopIn F P c Q) Q) a w) : LoopIn F P c Q a w := by
  intro b k cs hro hb hr
  obtain ⟨e, a₁, w₁, hq, harr⟩ := h b (.inLoop c :: k) cs hro hb hr
  cases e with
  | normal =>
    obtain ⟨e₂, a₂, w₂, hq₂, harr₂⟩ := hq b k cs hro hb hr
    exact ⟨e₂, a₂, w₂, hq₂, .of_steps (StepsIn.trans harr (.one (fenced_calm hb hr rfl) stepR_inLoop)) harr₂⟩
  | exit id => exact ⟨_, a₁, w₁, hq, .pass (x := .inLoop c) rfl (fun _ _ => .inl (by simp)) harr⟩
  | goto l => exact ⟨_, a₁, w₁, hq, .pass (x := .inLoop c) rfl (fun _ _ => .inl (by simp)) harr⟩
  | ret => exact ⟨_, a₁, w₁, hq, .pass (x := .inLoop c) rfl (fun _ _ => .inl (by simp)) harr⟩
  | panic ch => exact ⟨_, a₁, w₁, hq, .pass (x := .inLoop c) rfl (fun _ _ => .inl (by simp)) harr⟩
  | outgrown => exact ⟨_, a₁, w₁, hq, .pass (x := .inLoop c) rfl (fun _ _ => .inl (by simp)) harr⟩

theorem loop_sound [N0] (hs : Sound C O) {f : Nat} {b : Code} {ex : Ex} {σ' : St} (hc : codeA C O f (.loop b) σ = some (ex, σ')) (hr : rd = none ∨ noRange b = true) (fr : FR E dm G σ a w.heap) :
    LoopIn (fen rd) C.P b (EQ E w ex σ') a w := by
  simp only [codeA, Option.bind_eq_some_iff] at hc
  obtain ⟨⟨ex1, σ1⟩, hb, hk⟩ := hc
  refine loopIn_of (wpIn_mono (hs.code rd _ _ _ _ _ hb hr _ _ _ _ _ fr) fun e a1 w1 q => ?_)
  obtain ⟨io, dm', G', σ'', f', xr, lk⟩ := q
  cases ex1 with
  | nor =>
    simp only [seqK] at hk
    simp only [XRel] at xr
    subst xr
    simp only [Like] at lk
    obtain ⟨_, rfl⟩ := Prod.mk.inj lk
    have := hs.loop rd _ _ _ _ _ hk hr _ _ _ _ _ f'
    intro b' k cs hro hb' hr'
    obtain ⟨e, a', w', q, r⟩ := this b' k cs hro hb' hr'
    exact ⟨e, a', w', q.mono io, r⟩
  | ret =>
    simp only [seqK] at hk
    cases hk
    simp only [XRel] at xr
    subst xr
    exact ⟨io, dm', G', σ'', f', rfl, lk⟩
  | exit id =>
    simp only [seqK] at hk
    cases hk
    simp only [XRel] at xr
    subst xr
    exact ⟨io, dm', G', σ'', f', rfl, lk⟩
  | pan v =>
    simp only [seqK] at hk
    cases hk
    have xr' := xr
    simp only [XRel] at xr
    obtain ⟨V, rfl, _⟩ := xr
    exact ⟨io, dm', G', σ'', f', xr', lk⟩

theorem range_sound [N0] (hs : Sound C O) {f : Nat} {g : Operand} {ps : Array Tmp} {asg body : Code} {ex : Ex} {σ' : St} (hc : rangeA O f g ps asg body σ = some (ex, σ')) (fr : FR E dm G σ a w.heap) :
    (Code.rangeFunc g ps asg body).wpIn Fence.wide 0 C.P (EQ E w ex σ') a w := by
  unfold rangeA at hc
  split at hc
  case h_2 => cases hc
  rename_i hf first caps hg
  split at hc
  case isFalse => cases hc
  rename_i hok
  simp only [Bool.and_eq_true] at hok
  obtain ⟨⟨⟨ok1, ok2⟩, nr1⟩, nr2⟩ := hok
  simp only [Option.bind_eq_some_iff] at hc
  obtain ⟨⟨cr, hp⟩, hcall, hend⟩ := hc
  have hv := fr.ft.opv g
  rw [hg] at hv
  simp only [ar] at hv
  obtain ⟨Fs, Cs, e1, e2, e3, e4, e5⟩ := hv
  refine wpIn_rangeFunc fun fn' _ => ?_
  obtain ⟨G1, f1, hb1, up⟩ := fr.enterLoop f fn' ps.toList asg body ⟨nr1, nr2⟩
  simp only [Array.toArray_toList] at f1 up
  let w1 : World := (w.alloc (.deferred (some []))).alloc (.loop { state := .ready, pending := none, fn := fn', tmps := a.tmps, params := ps, assign := asg, body := body, defers := w.heap.size })
  have hyld : ar G1 w1.heap (Mut E.X G1) (.yld σ.mem.heap.length) (.func (.yield (w.heap.size + 1)) #[] #[]) := by
    simp only [ar]; exact ⟨_, hb1, rfl⟩
  have upL : ∀ (vs : List AV) (Vs : List Value), okL vs = true → ars G w.heap (Mut E.X G) vs Vs → ars G1 w1.heap (Mut E.X G1) (eraseL vs) Vs := by
    intro vs
    induction vs with
    | nil => intro Vs _ h; exact h
    | cons v vs ih =>
      intro Vs hk h
      simp only [okL, Bool.and_eq_true] at hk
      simp only [ars, eraseL] at h ⊢
      obtain ⟨V, Vs', q1, q2, q3⟩ := h
      exact ⟨V, Vs', q1, erase_ar _ _ (up v V hk.1 q2), ih Vs' hk.2 q3⟩
  have hce := f1.out (args := eraseL first ++ (.yld σ.mem.heap.length :: eraseL caps)) (As := Fs ++ (.func (.yield (w.heap.size + 1)) #[] #[] :: Cs))
    (stillL_of fun x hx => by
      rcases List.mem_append.1 hx with hx | hx
      · exact stillL_mem (erases_still _ ok1) x hx
      · rcases List.mem_cons.1 hx with rfl | hx
        · rfl
        · exact stillL_mem (erases_still _ ok2) x hx)
    (ars_append _ _ _ _ (upL _ _ ok1 e4) (by
      have := upL _ _ ok2 e5
      simp only [ars]
      exact ⟨_, Cs, rfl, hyld, this⟩))
  have hen := hs.fnd _ _ _ _ hcall
  have hcalls := hs.call _ _ _ _ _ hcall _ _ w1 _ hce
  refine ⟨w.heap.size + 1, [{ target := .collected w.heap.size, args := #[] }], w1, { target := .fn (.func hf) Cs.toArray, args := Fs.toArray ++ #[.func (.yield (w.heap.size + 1)) #[] #[]] }, w1, hf, (Fs ++ (.func (.yield (w.heap.size + 1)) #[] #[] :: Cs)).toArray, w1, run_enterLoop_outer _ _ _ _ _, ?_, fun _ _ => trivial, ?_, fun h => by simp [Fence.wide] at h, ?_⟩
  · have harg : (#[Operand.const (.func (.yield (w.heap.size + 1)) #[] #[])] : Array Operand).map a.eval = #[.func (.yield (w.heap.size + 1)) #[] #[]] := by simp [Act.eval]
    simp only [resolve, rangeCall, Deferred.ofValue, e1, harg, Sem.run_pure]
  · have harr : (Fs.toArray ++ #[.func (.yield (w.heap.size + 1)) #[] #[]]) ++ Cs.toArray = (Fs ++ (.func (.yield (w.heap.size + 1)) #[] #[] :: Cs)).toArray := by apply Array.ext'; simp
    simp only [invoke, harr, run_callFunc hen]
  · refine hcalls.mono fun e w3 q => ?_
    obtain ⟨io, G', hl, ht, hr', ow', ev, cr'⟩ := q
    have io' : Io w w3 := Io.trans (b := w1) ⟨rfl, rfl⟩ io
    obtain ⟨f3, st⟩ := f1.back hr' ow' ev hl ht
    cases cr with
    | ret v =>
      obtain ⟨c1, V, rfl, c2⟩ := cr'
      simp only [rangeEnd] at hend
      split at hend
      case h_2 => cases hend
      rename_i st' pend L hL
      split at hend
      case isTrue => cases hend
      rename_i hbusy
      obtain ⟨b', Ts, D, fn2, q1, q2, q3, q4, q5, q6⟩ := f3.loopAt hL
      obtain rfl : w.heap.size + 1 = b' := by
        have h1 := ev.hb σ.mem.heap.length (w.heap.size + 1) hb1
        have h2 : G'.hb[σ.mem.heap.length]? = some b' := q1
        rw [h1] at h2; simpa using h2
      have f4 := f3.setHO (o := .dead) σ.mem.heap.length (getElem_lt hL) q1 q5 q2 { state := .exhausted, pending := pend, fn := fn2, tmps := Ts.toArray, params := L.params.toArray, assign := L.assign, body := L.body, defers := D } (fun _ => trivial)
        (fun h' hh _ => by simp only [objR]; exact ⟨_, q1, q2, _, hh⟩)
      refine ⟨pend, _, run_endLoop q5 (by cases st' <;> simp_all [lsOf]), ?_⟩
      cases pend with
      | none =>
        simp only [Option.some.injEq, Prod.mk.injEq] at hend
        obtain ⟨rfl, rfl⟩ := hend
        exact ⟨io'.trans ⟨rfl, rfl⟩, _, _, _, f4, rfl, rfl⟩
      | some c =>
        simp only at hend
        exact wpIn_mono (hs.code none _ _ _ _ _ hend (.inl rfl) _ _ _ _ _ f4) fun e a w q => q.mono (io'.trans ⟨rfl, rfl⟩)
    | pan x =>
      obtain ⟨c1, c3, V, rfl, c2⟩ := cr'
      simp only [rangeEnd] at hend
      rw [if_pos c3] at hend
      cases hend
      exact ⟨io', _, _, _, f3, ⟨V, rfl, erase_ar _ _ (ar_still (G := G') (G' := mix G1 G') st (fun _ _ h => h) x V c1 c2)⟩, ⟨_, rfl, rfl, fun _ _ _ h => h⟩⟩

theorem code_sound [N0] (hs : Sound C O) (hmix : C.P.follows .mixedOrders = true) {f : Nat} {c : Code} {ex : Ex} {σ' : St} (hc : codeA C O f c σ = some (ex, σ')) (hr : rd = none ∨ noRange c = true) (fr : FR E dm G σ a w.heap) :
    c.wpIn (fen rd) 0 C.P (EQ E w ex σ') a w := by
  cases c with
  | skip => simp only [codeA] at hc; cases hc; exact wpIn_skip ⟨Io.rfl, dm, G, σ, fr, rfl, rfl⟩
  | ret => simp only [codeA] at hc; cases hc; exact wpIn_ret ⟨Io.rfl, dm, G, σ, fr, rfl, rfl⟩
  | exit id => simp only [codeA] at hc; cases hc; exact wpIn_exit ⟨Io.rfl, dm, G, σ, fr, rfl, rfl⟩
  | region id ops draw =>
    simp only [codeA, Option.map_eq_some_iff] at hc
    obtain ⟨⟨ex1, σ1⟩, hreg, hcl⟩ := hc
    have e1 : ex = (clear (C.clr f id) (ex1, σ1)).1 := by rw [hcl]
    have e2 : σ' = (clear (C.clr f id) (ex1, σ1)).2 := by rw [hcl]
    rw [e1, e2]
    cases draw with
    | false => exact wpIn_mono (region_list hs fr hreg) fun e a w q => q.clear _
    | true => exact wpIn_mono (region_draw hs hmix fr hreg) fun e a w q => q.clear _
  | seq x y =>
    simp only [codeA, Option.bind_eq_some_iff] at hc
    obtain ⟨⟨ex1, σ1⟩, hx, hk⟩ := hc
    simp only [noRange, Bool.and_eq_true] at hr
    refine wpIn_seq (wpIn_mono (hs.code rd _ _ _ _ _ hx (hr.imp id (·.1)) _ _ _ _ _ fr) fun e a1 w1 q => ?_)
    rcases seq_sound hs hk (hr.imp id (·.2)) q with ⟨rfl, h⟩ | ⟨hne, h⟩
    · exact h
    · cases e <;> first | exact h | exact absurd rfl hne
  | cond c t e =>
    simp only [codeA] at hc
    simp only [noRange, Bool.and_eq_true] at hr
    split at hc
    · rename_i b hb
      have hv := fr.ft.opv c
      rw [hb] at hv
      simp only [ar, rep] at hv
      refine wpIn_cond hv ?_
      cases b with
      | true => exact hs.code rd _ _ _ _ _ (by simpa using hc) (hr.imp id (·.1)) _ _ _ _ _ fr
      | false => exact hs.code rd _ _ _ _ _ (by simpa using hc) (hr.imp id (·.2)) _ _ _ _ _ fr
    · cases hc
  | block id b =>
    simp only [codeA, Option.bind_eq_some_iff] at hc
    obtain ⟨⟨ex1, σ1⟩, hx, hk⟩ := hc
    refine wpIn_block (wpIn_mono (hs.code rd _ _ _ _ _ hx (hr.imp (fun h => h) (by simp [noRange])) _ _ _ _ _ fr) fun e a1 w1 q => ?_)
    obtain ⟨io, dm', G', σ'', f', xr, lk⟩ := q
    cases ex1 with
    | nor =>
      simp only [blockK] at hk; cases hk
      simp only [XRel] at xr; subst xr
      exact ⟨io, dm', G', σ'', f', rfl, lk⟩
    | ret =>
      simp only [blockK] at hk; cases hk
      simp only [XRel] at xr; subst xr
      exact ⟨io, dm', G', σ'', f', rfl, lk⟩
    | exit j =>
      simp only [XRel] at xr; subst xr
      simp only [Like] at lk
      obtain ⟨_, rfl⟩ := Prod.mk.inj lk
      simp only [blockK] at hk
      simp only [Exit.inBlock]
      split at hk
      · rename_i e
        cases hk
        rw [if_pos e]
        exact ⟨io, dm', G', _, f', rfl, rfl⟩
      · rename_i e
        cases hk
        rw [if_neg e]
        exact ⟨io, dm', G', _, f', rfl, rfl⟩
    | pan v =>
      simp only [blockK] at hk; cases hk
      have xr' := xr
      simp only [XRel] at xr
      obtain ⟨V, rfl, _⟩ := xr
      exact ⟨io, dm', G', σ'', f', xr', lk⟩
  | loop b => exact wpIn_loop1 (loop_sound hs hc (hr.imp (fun h => h) (by simp [noRange])) fr)
  | rangeFunc g ps asg body =>
    simp only [codeA] at hc
    rcases hr with rfl | hr
    · exact range_sound hs hc fr
    · simp [noRange] at hr
  | _ => cases hc
end
end Go.Proofs.Ytmmhpmfgcenngaa
