/- slices.Grow of the nil slice, and recover. -/
import Derived.Test.YtobocgjdlchemaaKE
import Derived.Test.YtobocgjdlchemaaProg
import Derived.WalkKit
import Derived.Lib.Walk
import Derived.Lib.SliceRun
import Derived.Lib.AppendZerosOnto
import Derived.RecoverIn
import Derived.KernelRfl
set_option linter.unusedVariables false
set_option linter.unusedSimpArgs false
namespace Go.Proofs.Ytobocgjdlchemaa
open Go.Proofs Go.RowKit Go.Lib
set_option maxHeartbeats 2000000 in
set_option maxRecDepth 100000 in
theorem grow_zero (w : World) : Calls Try.prog 58 #[.slice none 0 0, .int .i64 0] w fun e w' => e = .returned (.slice none 0 0) ∧ w' = w := by
  go_enter Try.func58, Try.ntmps58
  go_wp2
  go_ret
  exact ⟨rfl, rfl⟩
set_option maxHeartbeats 4000000 in
set_option maxRecDepth 100000 in
theorem grow_pos (n : Nat) (w : World) (h0 : 0 < n) (hn : n ≤ 1099511627776) : Calls Try.prog 58 #[.slice none 0 0, .int .i64 n] w fun e w' =>
    ∃ (cap : Nat) (Vs : Array Value), e = .returned (.slice (some ⟨w.heap.size, 0, none⟩) 0 cap) ∧ w' = w.drew.alloc (.cells Vs 24) ∧ Vs.size = cap * 3 := by
  have h1 : ¬ ((n : Int) < 0) := by omega
  have h2 : wrap64 ((0 : Int) - (0 : Int)) = (0 : Int) - (0 : Int) := by unfold wrap64; omega
  have h3 : wrap64 ((n : Int) - ((0 : Int) - (0 : Int))) = (n : Int) - ((0 : Int) - (0 : Int)) := by unfold wrap64; omega
  have h4 : (n : Int) - ((0 : Int) - (0 : Int)) > 0 := by omega
  obtain ⟨i0, z, hi0, hz0, hs0, hb0, hzs⟩ : ∃ i0 z, Try.prog.info? 24 = some i0 ∧ i0.zero = some z ∧ i0.size = 3 ∧ i0.bytes = 40 ∧ z.cells.size = 3 := ⟨_, _, rfl, rfl, rfl, rfl, rfl⟩
  have hbig : (0 + n) * i0.bytes ≤ 140737488355328 := by rw [hb0]; omega
  have hold : (Builtin.firstCells i0.size 0 (.slice none 0 0)).run Try.prog w.drew = .ok #[] w.drew := run_firstCells_none w.drew i0.size 0 0 0
  have ht22 : Try.prog.underlying 22 = some (.slice 24) := by kernel_rfl
  have ht3 : Try.prog.underlying 3 = some (.int .i64) := by kernel_rfl
  have hrz : ∀ ty, (Builtin.append_ #[22, 3] ty #[.slice none 0 0, .int .i64 ((n : Int) - ((0 : Int) - (0 : Int)))]).run Try.prog w =
      .ok (.slice (some ⟨w.heap.size, 0, none⟩) n (grownCap w n 0 24)) (w.drew.alloc (.cells (#[] ++ Builtin.zeroCells z.cells n ++ Builtin.zeroCells z.cells (grownCap w n 0 24 - n)) 24)) := fun ty => by
    have h := Lib.run_append_grow_zeros w 22 3 ty 24 i0 z .i64 .i64 ht22 ht3 hi0 hz0 none 0 0 [] (by simpa using hold) n h0 (by omega) (by omega) (by omega)
      (by have : n * i0.bytes ≤ (0 + n) * i0.bytes := Nat.mul_le_mul_right _ (by omega)
          omega)
      (growslice_fits (by omega) hbig)
    simp only [Nat.zero_add] at h
    rw [show (n : Int) - ((0 : Int) - (0 : Int)) = (n : Int) by omega]
    exact h
  have hGn : n ≤ grownCap w n 0 24 := grownCap_ge w _ _ _
  obtain ⟨G, hG⟩ : ∃ G, G = grownCap w n 0 24 := ⟨_, rfl⟩
  rw [← hG] at hrz hGn
  have hG63 : G ≤ 9223372036854775807 := by
    have := grownCap_le_maxLen w n 0 24 (by unfold maxLen; omega)
    rw [← hG] at this
    unfold maxLen at this
    omega
  have hfin : (#[] ++ Builtin.zeroCells z.cells n ++ Builtin.zeroCells z.cells (G - n)).size = G * 3 := by
    simp only [Array.size_append, size_zeroCells, hzs]; simp; omega
  generalize #[] ++ Builtin.zeroCells z.cells n ++ Builtin.zeroCells z.cells (G - n) = Vs at hrz hfin
  clear hold hG
  go_enter Try.func58, Try.ntmps58
  go_wp2_with (at_builtin; refine Lib.wpList_append_run _ rfl _ _ _ _ rfl _ _ rfl rfl _ _ (hrz _) ?_)
  all_goals (go_ret; exact ⟨G, rfl, Vs, rfl, hfin⟩)

theorem under_errno : Try.prog.underlying 36 = some (.int .i64) := by kernel_rfl
theorem under_any : ∃ ms, Try.prog.underlying 20 = some (.interface ms) := ⟨#[], by kernel_rfl⟩
set_option maxRecDepth 100000 in
theorem info_errno : ∃ i, Try.prog.info? 36 = some i ∧ i.zero = some (.int .i64 0) ∧ i.size = 1 := ⟨_, rfl, rfl, rfl⟩
set_option maxRecDepth 100000 in
theorem info_term : ∃ i, Try.prog.info? 24 = some i ∧ i.zero = some (.agg #[.int .i64 0, .int .i64 0, .slice none 0 0]) ∧ i.size = 3 := ⟨_, rfl, rfl, rfl⟩
theorem run_equalIn_nil {T : Nat} {ms : Array (String × TypeId)} (hu : Try.prog.underlying T = some (.interface ms)) (w : World) (d : Nat) : (Op.equalIn (d + 1) T .nilIface .nilIface).run Try.prog w = .ok true w := by
  simp [Op.equalIn, run_underlying hu]
theorem run_neq_nil (ev : Operand → Value) (o : Oper) (x : Operand) (ho : o.op = .binOp .neq 20 x (.const .nilIface) 20) (h1 : ev x = .nilIface) (h2 : ev (.const .nilIface) = .nilIface) (w : World) :
    (execOp ev o).run Try.prog w = .ok (.value (.bool false)) w := by
  obtain ⟨ms, hms⟩ := under_any
  simp [execOp, ho, h1, h2, eqGuard, binOp, Op.equal, Op.maxDepth, run_equalIn_nil hms w 9999]
theorem results_none (T : Array Value) (w : World) : (results Try.f52 T).run Try.prog w = .ok (.tuple #[]) w := by
  have : Try.f52.results = #[] := rfl
  simp [results, this]
theorem opS_value {m : Nat} {P : Program} {ops : Array Oper} {Q : Exit → Act → List Frame → World → Prop} {i : Nat} {rest : List Nat} {a : Act} {cs : List Frame} {w w' : World} (o : Oper) {v : Value} (ho : ops[i]? = some o) (hg : o.guard = none)
    (hr : (execOp a.eval o).run P w = .ok (.value v) w') (h : wpOpsSIn Fence.wide m P ops Q rest (a.put o.dst v) cs w') : wpOpsSIn Fence.wide m P ops Q (i :: rest) a cs w := by
  simp only [wpOpsSIn, ho]
  refine ⟨fun _ _ => trivial, ?_⟩
  have : Region.wanted o (yielded ops a.tmps) = true := by simp [Region.wanted, hg]
  rw [if_pos this, hr]
  exact h
theorem opS_skip {m : Nat} {P : Program} {ops : Array Oper} {Q : Exit → Act → List Frame → World → Prop} {i : Nat} {rest : List Nat} {a : Act} {cs : List Frame} {w w' : World} (o : Oper) (ho : ops[i]? = some o) (hg : o.guard = none)
    (hr : (execOp a.eval o).run P w = .ok .skip w') (h : wpOpsSIn Fence.wide m P ops Q rest (a.put o.dst undef) cs w') : wpOpsSIn Fence.wide m P ops Q (i :: rest) a cs w := by
  simp only [wpOpsSIn, ho]
  refine ⟨fun _ _ => trivial, ?_⟩
  have : Region.wanted o (yielded ops a.tmps) = true := by simp [Region.wanted, hg]
  rw [if_pos this, hr]
  exact h
/-- The deferred call, where nothing has panicked: nothing is done. -/
theorem rec_ret (p q : Value) (m : Nat) (w : World) : CallsDIn Fence.wide m Try.prog 52 #[p, q] .returning w fun e u' w' => e = .returned (.tuple #[]) ∧ u' = .returning ∧ w' = w := by
  refine callsDIn_of_wpSIn (F := Fence.wide) (fn := Try.f52) Try.func52 rfl trivial (fun c₀ cs hu => ?_)
  obtain ⟨i, hi, hz, hs⟩ := info_errno
  obtain ⟨ms, hms⟩ := under_any
  have hT : ({ tmps := #[p, q] ++ Array.replicate (Try.f52.ntmps - (#[p, q] : Array Value).size) undef, defers := [] } : Act) = { tmps := #[p, q, undef, undef, undef, undef, undef, undef, undef, undef, undef, undef, undef, undef, undef, undef, undef], defers := [] } := rfl
  rw [hT]
  refine wpSIn_seq (wpSIn_region ?_)
  simp [wpOpsSIn, List.range_succ, Region.wanted, execOp, resolve, invoke, builtin, recoverD, hu, Act.put, Act.eval, Fence.wide, Exit.thenS]
  refine wpSIn_seq (wpSIn_region ?_)
  simp [wpOpsSIn, List.range_succ, Region.wanted, execOp, Instr.typeAssert, run_underlying under_errno, zeroValue, typeInfo, hi, hz, Instr.extract, Act.put, Act.eval, Fence.wide, Exit.thenS]
  refine wpSIn_seq (wpSIn_region ?_)
  simp [wpOpsSIn, List.range_succ, Region.wanted, execOp, Act.put, Act.eval, Fence.wide, Exit.thenS]
  refine wpSIn_cond (t := false) (by simp [Act.eval]) ?_
  simp only [Bool.false_eq_true, if_false]
  refine wpSIn_seq (wpSIn_region ?_)
  refine opS_value _ rfl rfl rfl ?_
  refine opS_value _ rfl rfl (run_neq_nil _ _ (.tmp 14) rfl rfl rfl _) ?_
  simp only [Act.put, wpOpsSIn, Exit.thenS]
  refine wpSIn_cond (t := false) (by simp [Act.eval]) ?_
  simp only [Bool.false_eq_true, if_false]
  refine wpSIn_of_wpIn rfl (wpIn_skip ?_)
  exact ⟨rfl, .returning, by rw [← hu], _, results_none _ _, rfl, rfl, rfl⟩

/-- The deferred call, where an error's number has panicked: it is stored, and the panic is over. -/
theorem rec_pan (b1 b2 : Nat) (n : Int) (m : Nat) (w w1 w2 : World) (h1 : (storeCells ⟨b1, 0, none⟩ [.int .i64 0, .int .i64 0, .slice none 0 0]).run Try.prog w = .ok () w1) (h2 : (storeCells ⟨b2, 0, none⟩ [.int .i64 n]).run Try.prog w1 = .ok () w2) :
    CallsDIn Fence.wide m Try.prog 52 #[.pointer (some ⟨b1, 0, none⟩), .pointer (some ⟨b2, 0, none⟩)] (.panicking [{ v := .iface 36 (.int .i64 n), recovered := false }]) w fun e u' w' => e = .returned (.tuple #[]) ∧ u' = .panicking [{ v := .iface 36 (.int .i64 n), recovered := true }] ∧ w' = w2 := by
  refine callsDIn_of_wpSIn (F := Fence.wide) (fn := Try.f52) Try.func52 rfl trivial (fun c₀ cs hu => ?_)
  obtain ⟨i, hi, hz, hs⟩ := info_errno
  obtain ⟨j, hj, hzj, hsj⟩ := info_term
  have s1 : tsz Try.prog 24 = some 3 := by simp [tsz, hj, hsj]
  have s2 : tsz Try.prog 36 = some 1 := by simp [tsz, hi, hs]
  have r1 := run_store (P := Try.prog) s1 (V := .agg #[.int .i64 0, .int .i64 0, .slice none 0 0]) (b := b1) (off := 0) (w := w) (w' := w1) rfl h1
  have r2 := run_store (P := Try.prog) s2 (V := .int .i64 n) (b := b2) (off := 0) (w := w1) (w' := w2) rfl h2
  generalize hp : Value.pointer (some ⟨b1, 0, none⟩) = p at r1
  generalize hq : Value.pointer (some ⟨b2, 0, none⟩) = q at r2
  have hT : ({ tmps := #[p, q] ++ Array.replicate (Try.f52.ntmps - (#[p, q] : Array Value).size) undef, defers := [] } : Act) = { tmps := #[p, q, undef, undef, undef, undef, undef, undef, undef, undef, undef, undef, undef, undef, undef, undef, undef], defers := [] } := rfl
  rw [hT]
  refine wpSIn_seq (wpSIn_region ?_)
  simp [wpOpsSIn, List.range_succ, Region.wanted, execOp, resolve, invoke, builtin, recoverD, hu, Act.put, Act.eval, Fence.wide, Exit.thenS]
  refine wpSIn_seq (wpSIn_region ?_)
  simp [wpOpsSIn, List.range_succ, Region.wanted, execOp, Instr.typeAssert, run_underlying under_errno, zeroValue, typeInfo, hi, hz, Instr.extract, Act.put, Act.eval, Fence.wide, Exit.thenS]
  refine wpSIn_seq (wpSIn_region ?_)
  simp [wpOpsSIn, List.range_succ, Region.wanted, execOp, Act.put, Act.eval, Fence.wide, Exit.thenS]
  refine wpSIn_cond (t := true) (by simp [Act.eval]) ?_
  simp only [if_true]
  refine wpSIn_region ?_
  refine opS_value (v := .agg #[.int .i64 0, .int .i64 0, .slice none 0 0]) (w' := w) _ rfl rfl ?_ ?_
  · simp [execOp, Instr.build, zeroValue, typeInfo, hj, hzj, Instr.fill, Value.cells]
  refine opS_value _ rfl rfl rfl ?_
  refine opS_skip (w' := w1) _ rfl rfl ?_ ?_
  · simp [execOp, Act.put, Act.eval, r1]
  refine opS_skip (w' := w2) _ rfl rfl ?_ ?_
  · simp [execOp, Act.put, Act.eval, r2]
  simp only [Act.put, wpOpsSIn, Exit.thenS]
  exact ⟨rfl, _, rfl, _, results_none _ _, rfl, rfl, rfl⟩

/-! ### functions that are told besides -/
noncomputable def zTerm : List AV := [.d (.int .i64 0), .d (.int .i64 0), .clip []]
/-- subst.done, its variables made and its deferred call laid down. -/
noncomputable def done0 (x : AV) (heap : List HO) : St :=
  { tmps := (((entry Try.f48 [x] heap).tmps.set 2 (.href heap.length 0)).set 3 (.href (heap.length + 1) 0)).set 4 .undef,
    mem := { locs := List.replicate Try.f48.ntmps none, heap := heap ++ [.var 0 zTerm, .var 0 [.d (.int .i64 0)]], toks := [] } }
/-- The variables of a panic that is caught. -/
noncomputable def recK (n : Nat) (e : Int) (h : List HO) (i j : AV) (a b : Option HO) : Option (CR × List HO) := match i, j, a, b with
  | .href i 0, .href j 0, some (.var u [_, _, _]), some (.var v [_]) => if i = n ∧ j = n + 1 then
      some (.ret (.tup [.d (.agg [.int .i64 0, .int .i64 0, .slc []]), .d (.int .i64 e)]), (h.set n (.var u zTerm)).set (n + 1) (.var v [.d (.int .i64 e)])) else none
  | _, _, _, _ => none
noncomputable def panK (n : Nat) (σ : St) : AV → Option (CR × List HO)
  | .iface t (.int .i64 e) => if t = 36 then recK n e σ.mem.heap (σ.tmps.getD 2 .undef) (σ.tmps.getD 3 .undef) (σ.mem.heap[n]?) (σ.mem.heap[n + 1]?) else none
  | _ => none
/-- Its end. -/
noncomputable def doneEnd (n : Nat) : Ex × St → Option (CR × List HO)
  | (.nor, σ) => leave Try.prog Try.f48 (.nor, σ)
  | (.ret, σ) => leave Try.prog Try.f48 (.ret, σ)
  | (.pan x, σ) => panK n σ x
  | _ => none
noncomputable def doneX (O : Orc) : List AV → List HO → Option (CR × List HO)
  | [x], heap => (O.code 48 (cs (cs (bodyOf Try.f48))) (done0 x heap)).bind (doneEnd heap.length)
  | _, _ => none

abbrev CC : Nat := 57
noncomputable def contX (O : Orc) (c : Code) : Ex × St → Option (Ex × St)
  | (.nor, σ) => O.code CC c σ
  | _ => none
noncomputable def growV (σ : St) : AV → Option (Ex × St)
  | .d (.int .i64 n) => if 0 ≤ n ∧ n ≤ 1099511627776 ∧ 24 < σ.tmps.length then
      some (.nor, { tmps := clrT [3, 9, 10, 11, 12, 23, 24] (((σ.tmps.set 23 .undef).set 24 .undef).set 6 (.own σ.mem.toks.length [])), mem := { σ.mem with locs := clrM [3, 9, 10, 11, 12, 23, 24] σ.mem.locs, toks := σ.mem.toks ++ [some 0] } }) else none
  | _ => none
noncomputable def growK : Ex × St → Option (Ex × St)
  | (.nor, σ) => growV σ (σ.tmps.getD 3 .undef)
  | _ => none
noncomputable def concatX (O : Orc) (args : List AV) (heap : List HO) : Option (CR × List HO) :=
  (((((O.code CC (cf (bodyOf Try.f57)) (entry Try.f57 args heap)).bind
    (contX O (cf (cs (bodyOf Try.f57))))).bind
    (contX O (cf (cs (cs (bodyOf Try.f57)))))).bind growK).bind
    (contX O (cs (cs (cs (cs (bodyOf Try.f57))))))).bind (leave Try.prog Try.f57)
noncomputable def extT : Nat → Option (Orc → List AV → List HO → Option (CR × List HO))
  | 48 => some doneX
  | 57 => some concatX
  | _ => none
theorem doneX_cts (args : List AV) (heap : List HO) : Cts (fun O => doneX O args heap) := by
  match args with
  | [] => exact .const _
  | [x] => exact Cts.bind (.code _ _ _) (fun _ => .const _)
  | _ :: _ :: _ => exact .const _
theorem contX_cts (c : Code) (x : Ex × St) : Cts (fun O => contX O c x) := by
  obtain ⟨ex, σ⟩ := x
  cases ex with
  | nor => exact .code _ _ _
  | _ => exact .const _
theorem concatX_cts (args : List AV) (heap : List HO) : Cts (fun O => concatX O args heap) :=
  Cts.bind (Cts.bind (Cts.bind (Cts.bind (Cts.bind (.code _ _ _) (fun x => contX_cts _ x)) (fun x => contX_cts _ x)) (fun _ => .const _)) (fun x => contX_cts _ x)) (fun _ => .const _)
theorem extT_cts (f : Nat) (x : Orc → List AV → List HO → Option (CR × List HO)) (h : extT f = some x) (args : List AV) (heap : List HO) : Cts (fun O => x O args heap) := by
  unfold extT at h
  split at h
  · cases h; exact doneX_cts args heap
  · cases h; exact concatX_cts args heap
  · cases h
end Go.Proofs.Ytobocgjdlchemaa
