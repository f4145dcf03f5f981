/- The abstract interpreter: pure values, and what the loaded code does with them. -/
import Derived.CallsIn
import Derived.RangeFuncLeaves
import Derived.Laws.AppendOwn
import Derived.Attr
namespace Go.Proofs.Ytmmhpmfgcenngaa

/-- Data: numbers, bools, strings, lists, structs (by their cells). -/
inductive Dv where
  | int (k : IntKind) (n : Int)
  | bool (b : Bool)
  | str (s : ByteArray)
  | slc (xs : List Dv)
  | agg (cs : List Dv)
  deriving Inhabited

def Dv.cells : Dv → List Dv
  | .agg cs => cs
  | x => [x]
def Dv.width (x : Dv) : Nat := x.cells.length

/-- What a slot may hold: data; slices that may be appended to; addresses; functions. -/
inductive AV where
  | d (x : Dv)
  | own (t : Nat) (xs : List Dv)
  | clip (xs : List Dv)
  | hc (i ver : Nat) (xs : List Dv)
  | hown (xs : List Dv)
  | lref (p off : Nat)
  | href (i off : Nat)
  | eptr (cs : List Dv)
  | kn (K : Value → Prop) (xs : List Dv)
  | kp (K : Value → Prop) (d : Nat) (cs : List Dv)
  | fn (f : Nat) (first caps : List AV)
  | yld (i : Nat)
  | tup (vs : List AV)
  | arr (vs : List AV)
  | iface (t : Nat) (x : Dv)
  | raw (V : Value)
  | undef
  deriving Inhabited

def AV.toDv : AV → Option Dv
  | .d x => some x
  | .hc _ _ xs | .hown xs => some (.slc xs)
  | _ => none
def AV.sl : AV → Option (List Dv)
  | .d (.slc xs) => some xs
  | .own _ xs | .clip xs | .hc _ _ xs | .kn _ xs => some xs
  | _ => none
def toDvs : List AV → Option (List Dv)
  | [] => some []
  | x :: xs => match x.toDv, toDvs xs with
    | some y, some ys => some (y :: ys)
    | _, _ => none
def aggOf (cs : List AV) : AV := match toDvs cs with
  | some ds => .d (.agg ds)
  | none => .arr cs
/-- A slice that is nil. -/
def AV.nil0 : AV → Bool
  | .clip [] => true
  | _ => false
/-- What is built: data, but where a part is nil that is kept in mind. -/
def aggN (b : Bool) (cs : List AV) : AV := if b then .arr cs else aggOf cs
def AV.cells : AV → List AV
  | .d (.agg cs) => cs.map .d
  | .arr vs => vs
  | x => [x]

mutual
def AV.pure : AV → Bool
  | .d _ => true
  | .own _ _ => true
  | .clip _ => true
  | .kn _ _ => true
  | .hc _ _ _ => true
  | .iface _ _ => true
  | .raw _ => true
  | .fn _ a b => pureL a && pureL b
  | .tup vs => pureL vs
  | .arr vs => pureL vs
  | _ => false
def pureL : List AV → Bool
  | [] => true
  | x :: xs => x.pure && pureL xs
end
mutual
def AV.okA : AV → Bool
  | .d _ => true
  | .own _ _ => true
  | .clip _ => true
  | .kn _ _ => true
  | .hc _ _ _ => true
  | .iface _ _ => true
  | .raw _ => true
  | .href _ _ => true
  | .yld _ => true
  | .fn _ a b => okL a && okL b
  | .tup vs => okL vs
  | .arr vs => okL vs
  | _ => false
def okL : List AV → Bool
  | [] => true
  | x :: xs => x.okA && okL xs
end
mutual
/-- Of this a call or a shared variable can be told: it depends on the shared addresses alone. -/
def AV.still : AV → Bool
  | .d _ => true
  | .clip _ => true
  | .kn _ _ => true
  | .iface _ _ => true
  | .raw _ => true
  | .href _ _ => true
  | .yld _ => true
  | .fn _ a b => stillL a && stillL b
  | .tup vs => stillL vs
  | .arr vs => stillL vs
  | _ => false
def stillL : List AV → Bool
  | [] => true
  | x :: xs => x.still && stillL xs
end
def AV.stillK : AV → Bool
  | .undef => true
  | .eptr _ => true
  | x => x.still
mutual
def AV.erase : AV → AV
  | .d x => .d x
  | .own _ xs => .d (.slc xs)
  | .clip xs => .d (.slc xs)
  | .hc _ _ xs => .d (.slc xs)
  | .hown xs => .d (.slc xs)
  | .iface t x => .iface t x
  | .raw V => .raw V
  | .href i o => .href i o
  | .lref i o => .lref i o
  | .eptr cs => .eptr cs
  | .kn _ xs => .d (.slc xs)
  | .kp _ _ cs => .eptr cs
  | .yld i => .yld i
  | .undef => .undef
  | .fn f a b => .fn f (eraseL a) (eraseL b)
  | .tup vs => .tup (eraseL vs)
  | .arr vs => aggOf (eraseL vs)
def eraseL : List AV → List AV
  | [] => []
  | x :: xs => x.erase :: eraseL xs
end

/-- Heap sizes from here on are new. -/
class N0 where
  n0 : Nat
/-- A slice that has elements lies in a new block. -/
def newV [N0] (V : Value) : Prop := ∀ (A : Addr) (n c : Nat), V = .slice (some A) n c → 0 < n → N0.n0 ≤ A.block
mutual
/-- What is handed back: a slice that the frame made is new. -/
def AV.retE (K : Value → Prop) (toks : List (Option Nat)) : AV → AV
  | .own t xs => if toks[t]? = some (some xs.length) then .kn K xs else .d (.slc xs)
  | .clip [] => .kn K []
  | .kn K' xs => .kn K' xs
  | .tup vs => .tup (retL K toks vs)
  | .arr vs => aggOf (retL K toks vs)
  | .d x => .d x
  | .clip (x :: xs) => .d (.slc (x :: xs))
  | .hc _ _ xs => .d (.slc xs)
  | .hown xs => .d (.slc xs)
  | .iface t x => .iface t x
  | .raw V => .raw V
  | .href i o => .href i o
  | .lref i o => .lref i o
  | .eptr cs => .eptr cs
  | .kp _ _ cs => .eptr cs
  | .yld i => .yld i
  | .undef => .undef
  | .fn f a b => .fn f (eraseL a) (eraseL b)
def retL (K : Value → Prop) (toks : List (Option Nat)) : List AV → List AV
  | [] => []
  | x :: xs => x.retE K toks :: retL K toks xs
end
/-- What is got back. -/
def AV.keepE [N0] (v : AV) : AV := v.retE newV []

/-- What fits one cell. -/
def AV.flat : AV → Bool
  | .d (.agg _) => false
  | .tup _ => false
  | .arr _ => false
  | .undef => false
  | .raw V => V.oneCell'
  | _ => true
/-- What a cell keeps of a value: a copy of another cell's own slice is data. -/
def AV.kept : AV → AV
  | .hc _ _ xs => .d (.slc xs)
  | .clip [] => .clip []
  | .clip xs => .d (.slc xs)
  | .hown xs => .d (.slc xs)
  | x => x
/-- What a slot of a range-over-func's record keeps. -/
def AV.clr : AV → AV
  | .lref _ _ => .undef
  | x => x.erase
/-- What a shared variable keeps. -/
def AV.keptH : AV → AV
  | .clip [] => .clip []
  | x => x.erase
def AV.inv (ps : List Nat) : AV → AV
  | .lref p off => if ps.contains p then .undef else .lref p off
  | x => x

/-- A literal. -/
def ofV : Value → AV
  | .int k n => .d (.int k n)
  | .bool b => .d (.bool b)
  | .string s => .d (.str s)
  | .slice none 0 0 => .clip []
  | V => .raw V

/-! ### the tables -/
def tsz (P : Program) (t : Nat) : Option Nat := (P.info? t).map (·.size)
def tby (P : Program) (t : Nat) : Option Nat := (P.info? t).map (·.bytes)
def tag (P : Program) (t : Nat) : Option Bool := (P.underlying t).map fun
  | .struct _ => true
  | .array _ _ => true
  | _ => false
def tzr (P : Program) (t : Nat) : Option (List AV) := ((P.info? t).bind (·.zero)).map fun V => V.cells.toList.map ofV
def tfld (P : Program) (s f : Nat) : Option (Nat × Nat × Nat) := match P.underlying s with
  | some (.struct fs) => (fs[f]?).bind fun fd => (tsz P fd.type).map fun n => (fd.offset, n, fd.type)
  | _ => none
def tslc (P : Program) (t : Nat) : Option Nat := match P.underlying t with
  | some (.slice e) => some e
  | _ => none
def tarr (P : Program) (t : Nat) : Option (Nat × Nat) := match P.underlying t with
  | some (.array n e) => some (n, e)
  | _ => none
def tcon (P : Program) (t : Nat) : Bool := match P.underlying t with
  | some (.interface _) => false
  | some _ => true
  | none => false
def tstr (P : Program) (t : Nat) : Bool := match P.underlying t with
  | some .string => true
  | _ => false

/-! ### heap, state, oracle -/
/-- No range over a function stands in it. -/
def noRange : Code → Bool
  | .seq a b => noRange a && noRange b
  | .cond _ a b => noRange a && noRange b
  | .block _ a => noRange a
  | .loop a => noRange a
  | .rangeFunc _ _ _ _ => false
  | _ => true
inductive LSt where
  | ready | busy | done
  deriving DecidableEq
structure LoopA where
  fn : Nat
  tmps : List AV
  params : List Nat
  assign : Code
  body : Code
inductive HO where
  | var (ver : Nat) (cs : List AV)
  | loop (st : LSt) (pend : Option Code) (L : LoopA)
  | dead
structure Mem where
  locs : List (Option (List AV))
  heap : List HO
  toks : List (Option Nat)
structure St where
  tmps : List AV
  mem : Mem
inductive Ex where
  | nor | ret | exit (id : Nat) | pan (x : AV)
inductive CR where
  | ret (v : AV) | pan (x : AV)
structure Orc where
  call : Nat → List AV → List HO → Option (CR × List HO)
  code : Nat → Code → St → Option (Ex × St)
structure Cfg where
  P : Program
  esc : Nat → List Nat
  thr : List Nat
  clr : Nat → Nat → List Nat
  ord : Nat → Nat → List Nat
  ro : Nat → Nat → Bool
  ext : Nat → Option (Orc → List AV → List HO → Option (CR × List HO))

def opv (tm : List AV) : Operand → AV
  | .tmp t => tm.getD t .undef
  | .const V => ofV V
  | .func f => .fn f [] []
  | .global _ => .undef

def splice {α : Type} (cs : List α) (off : Nat) (vs : List α) : List α := cs.take off ++ vs ++ cs.drop (off + vs.length)
def place (P : Program) (T i : Nat) : Option (Nat × Nat) := match P.underlying T with
  | some (.struct _) => (tfld P T i).map fun x => (x.1, x.2.1)
  | some (.array _ e) => (tsz P e).map fun s => (i * s, s)
  | _ => none
def fillA (pl : Nat → Option (Nat × Nat)) (cs : List AV) : List (Nat × AV) → Option (List AV)
  | [] => some cs
  | (i, v) :: rest => match pl i with
    | some (off, n) => if v.cells.length = n ∧ off + n ≤ cs.length ∧ (v.cells.all AV.flat) then fillA pl (splice cs off v.cells) rest else none
    | none => none
/-- Whether a slice is left nil where these parts are built. -/
def nilLeft (pl : Nat → Option (Nat × Nat)) (cs : List AV) : List Nat → Bool
  | [] => cs.any AV.nil0
  | i :: is => match pl i with
    | some (off, n) => nilLeft pl (splice cs off (List.replicate n .undef)) is
    | none => true
def tbld (P : Program) (T : Nat) : Bool := match P.underlying T with
  | some (.struct fs) => fs.toList.all fun f => (tsz P f.type).isSome
  | some (.array _ e) => (tsz P e).isSome
  | _ => false
/-- The elements of a literal slice: place by place, each of the element's width. -/
def bsl (sz : Nat) : Nat → List (Nat × AV) → Option (List Dv)
  | _, [] => some []
  | j, (i, v) :: rest => match v.erase.toDv, bsl sz (j + 1) rest with
    | some x, some xs => if i = j ∧ x.width = sz then some (x :: xs) else none
    | _, _ => none

def tbool (P : Program) (t : Nat) : Bool := P.underlying t matches some .bool
def binA (P : Program) (T : Nat) (op : BinOp) (x y : AV) : Option AV := match op, x, y with
  | .add, .d (.int k a), .d (.int k' b) => if k = k' then some (.d (.int k (k.wrap (a + b)))) else none
  | .sub, .d (.int k a), .d (.int k' b) => if k = k' then some (.d (.int k (k.wrap (a - b)))) else none
  | .eql, .d (.int k a), .d (.int k' b) => if k = k' then some (.d (.bool (a == b))) else none
  | .neq, .d (.int k a), .d (.int k' b) => if k = k' then some (.d (.bool (a != b))) else none
  | .lss, .d (.int k a), .d (.int k' b) => if k = k' then some (.d (.bool (decide (a < b)))) else none
  | .leq, .d (.int k a), .d (.int k' b) => if k = k' then some (.d (.bool (decide (a ≤ b)))) else none
  | .gtr, .d (.int k a), .d (.int k' b) => if k = k' then some (.d (.bool (decide (a > b)))) else none
  | .geq, .d (.int k a), .d (.int k' b) => if k = k' then some (.d (.bool (decide (a ≥ b)))) else none
  | .eql, .d (.bool a), .d (.bool b) => if tbool P T then some (.d (.bool (a == b))) else none
  | .neq, .d (.bool a), .d (.bool b) => if tbool P T then some (.d (.bool (a != b))) else none
  | _, _, _ => none

/-- What an operation asks of the memory. -/
inductive MA where
  | val (v : AV)
  | ldL (p off n : Nat) (ag : Bool)
  | ldH (i off n : Nat) (ag : Bool)
  | stL (p off : Nat) (cs : List AV)
  | stH (i off : Nat) (cs : List AV)
  | alL (p : Nat) (cs : List AV)
  | alH (cs : List AV)
  | app (s : AV) (ys : List Dv) (sz : Nat)
  | call (f : Nat) (args : List AV)
  | yld (i : Nat) (args : List AV)
  | pan (x : AV)

def slB (ρ : Operand → AV) (dflt : Nat) : Option Operand → Option Nat
  | none => some dflt
  | some o => match ρ o with
    | .d (.int _ n) => if 0 ≤ n then some n.toNat else none
    | _ => none

def decC (P : Program) (ρ : Operand → AV) (c : Call) : Option MA :=
  match c.callee with
  | .value g => match ρ g with
    | .fn f first caps => some (.call f (first ++ c.args.toList.map ρ ++ caps))
    | .yld i => some (.yld i (c.args.toList.map ρ))
    | _ => none
  | .builtin .len => match c.args.toList, c.argTypes.toList with
    | [x], [t] => (match ρ x with
      | .d (.str s) => if tstr P t then some (.val (.d (.int .i64 s.size))) else none
      | v => match tslc P t, v.sl with
        | some _, some xs => some (.val (.d (.int .i64 xs.length)))
        | _, _ => none)
    | _, _ => none
  | .builtin .max => match c.args.toList with
    | [x, y] => match ρ x, ρ y with
      | .d (.int k a), .d (.int k' b) => if k = k' then some (.val (.d (.int k (if b > a then b else a)))) else none
      | _, _ => none
    | _ => none
  | .builtin .min => match c.args.toList with
    | [x, y] => match ρ x, ρ y with
      | .d (.int k a), .d (.int k' b) => if k = k' then some (.val (.d (.int k (if b < a then b else a)))) else none
      | _, _ => none
    | _ => none
  | .builtin .append => match c.args.toList, c.argTypes.toList with
    | [s, x], [t, u] => match tslc P t, tslc P u, (ρ x).sl with
      | some e, some _, some ys => match tsz P e, tzr P e, tby P e with
        | some sz, some z, some by_ => if u = t ∧ 0 < sz ∧ by_ ≤ 128 ∧ z.length = sz then some (.app (ρ s) ys sz) else none
        | _, _, _ => none
      | _, _, _ => none
    | _, _ => none
  | _ => none

/-- A new slice of numbers, all 0. -/
def mkDec (P : Program) (T : Nat) : AV → AV → Option MA
  | .d (.int _ n), .d (.int _ m) => match tslc P T with
    | some e => match tsz P e, tby P e, tzr P e with
      | some 1, some b, some [.d (.int k z)] => if 0 ≤ n ∧ n = m ∧ n ≤ 1000000 ∧ b ≤ 128 then some (.val (.d (.slc (List.replicate n.toNat (.int k z))))) else none
      | _, _, _ => none
    | none => none
  | _, _ => none
/-- The address of an element. -/
def eAt (v : AV) (d : Nat) (cs : List Dv) : AV := match v with
  | .kn K _ => .kp K d cs
  | _ => .eptr cs
def decode (P : Program) (E : List Nat) (dst : Option Nat) (ρ : Operand → AV) : Op → Option MA
  | .move x => some (.val (ρ x))
  | .assign x => some (.val (ρ x))
  | .pick c a b => match ρ c with
    | .d (.bool t) => some (.val (if t then ρ a else ρ b))
    | _ => none
  | .alloc T => match dst, tzr P T with
    | some p, some cs => if okL cs ∧ (cs.all AV.flat) then some (if E.contains p then .alH cs else .alL p cs) else none
    | _, _ => none
  | .box _ x => match dst with
    | some p => if (ρ x).okA ∧ ((ρ x).cells.all AV.flat) then some (if E.contains p then .alH (ρ x).cells else .alL p (ρ x).cells) else none
    | none => none
  | .build T parts => match tbld P T, tzr P T with
    | true, some cs => (fillA (place P T) cs (parts.toList.map fun x => (x.1, ρ x.2))).bind fun cs' => if okL cs' ∧ (cs'.all AV.flat) then some (.val (aggN (nilLeft (place P T) cs (parts.toList.map fun x => x.1)) cs')) else none
    | _, _ => none
  | .buildSlice T n parts => match tslc P T with
    | some e => match tsz P e, tzr P e with
      | some sz, some z => if n = parts.size ∧ n * sz ≤ 16777216 ∧ 0 < sz ∧ z.length = sz then (bsl sz 0 (parts.toList.map fun x => (x.1, ρ x.2))).map fun xs => .val (.d (.slc xs)) else none
      | _, _ => none
    | none => none
  | .makeSlice T l c => mkDec P T (ρ l) (ρ c)
  | .load T a => match tsz P T, tag P T with
    | some n, some ag => if ag ∨ n = 1 then (match ρ a with
      | .lref p off => some (.ldL p off n ag)
      | .href i off => some (.ldH i off n ag)
      | .eptr cs => if n ≤ cs.length then (if ag then some (.val (.d (.agg (cs.take n)))) else (cs.head?).map fun x => .val (.d x)) else none
      | .kp _ _ cs => if n ≤ cs.length then (if ag then some (.val (.d (.agg (cs.take n)))) else (cs.head?).map fun x => .val (.d x)) else none
      | _ => none) else none
    | _, _ => none
  | .store T a v => match tsz P T with
    | some n => if (ρ v).okA ∧ ((ρ v).cells.all AV.flat) ∧ (ρ v).cells.length = n ∧ 0 < n then (match ρ a with
      | .lref p off => some (.stL p off (ρ v).cells)
      | .href i off => some (.stH i off (ρ v).cells)
      | _ => none) else none
    | none => none
  | .nilCheck x => match ρ x with
    | .href i off => some (.val (.href i off))
    | .lref p off => some (.val (.lref p off))
    | _ => none
  | .binOp op T x y _ => (binA P T op (ρ x) (ρ y)).map .val
  | .unOp .not _ x => match ρ x with
    | .d (.bool b) => some (.val (.d (.bool (!b))))
    | _ => none
  | .makeInterface T x => match ρ x with
    | .d v => if tcon P T then some (.val (.iface T v)) else none
    | _ => none
  | .makeFunc (.func f) first caps =>
    if okL (first.toList.map ρ) ∧ okL (caps.toList.map ρ) then some (.val (.fn f (first.toList.map ρ) (caps.toList.map ρ))) else none
  | .slice T x lo hi mx => match tslc P T, (ρ x).sl with
    | some e, some xs => match tsz P e, slB ρ 0 lo, slB ρ xs.length hi with
      | some sz, some l, some h => if l ≤ h ∧ h ≤ xs.length ∧ (xs.all fun x => x.width == sz) then (match mx with
        | none => some (.val (.d (.slc ((xs.take h).drop l))))
        | some _ => if slB ρ 0 mx = some h ∧ hi.isSome then some (.val (.clip ((xs.take h).drop l))) else none) else none
      | _, _, _ => none
    | _, _ => none
  | .fieldAddr S x f => match tfld P S f with
    | some (off, n, _) => if 0 < n then (match ρ x with
      | .lref p o => some (.val (.lref p (o + off)))
      | .href i o => some (.val (.href i (o + off)))
      | .eptr cs => if off ≤ cs.length then some (.val (.eptr (cs.drop off))) else none
      | .kp K d cs => if off ≤ cs.length then some (.val (.kp K (d + off) (cs.drop off))) else none
      | _ => none) else none
    | none => none
  | .field S x f => match tfld P S f, ρ x with
    | some (off, n, t), .d (.agg cs) => if off + n ≤ cs.length then (match tag P t with
      | some true => some (.val (.d (.agg ((cs.drop off).take n))))
      | some false => (cs[off]?).map fun x => .val (.d x)
      | none => none) else none
    | _, _ => none
  | .indexAddr T x i => match ρ i with
    | .d (.int _ n) => if 0 ≤ n then (match tslc P T, (ρ x).sl with
      | some e, some xs => match tsz P e, xs[n.toNat]? with
        | some sz, some y => if y.width = sz then some (.val (eAt (ρ x) (n.toNat * sz) y.cells)) else none
        | _, _ => none
      | _, _ => match tarr P T, ρ x with
        | some (len, e), .lref p off => match tsz P e with
          | some sz => if n.toNat < len then some (.val (.lref p (off + n.toNat * sz))) else none
          | none => none
        | _, _ => none) else none
    | _ => none
  | .extract x i => match ρ x with
    | .tup vs => (vs[i]?).map .val
    | _ => none
  | .call c => decC P ρ c
  | .panic x => match ρ x with
    | .iface t v => some (.pan (.iface t v))
    | _ => none
  | _ => none

def ldc (cs : List AV) (off n : Nat) (ag : Bool) : Option AV :=
  if off + n ≤ cs.length then (if ag then some (aggOf ((cs.drop off).take n)) else cs[off]?) else none
/-- What a shared variable's cells read as. -/
def ldh (i ver : Nat) (cs : List AV) (off n : Nat) (ag : Bool) : Option AV := match cs with
  | [.hown xs] => if off = 0 ∧ n = 1 ∧ ag = false then some (.hc i ver xs) else none
  | _ => ldc cs off n ag
def setAll (tm : List AV) : List Nat → List AV → List AV
  | p :: ps, x :: xs => setAll (tm.set p x) ps xs
  | _, _ => tm

/-- A result, or a panic. -/
inductive OR where
  | v (x : AV) | u | pan (x : AV)

/-- How long a slice may grow: far above what comes, far below what memory bears. -/
def room : Nat := 1099511627776

def appOwn (t : Nat) (xs ys : List Dv) (sz : Nat) (m : Mem) : Option (OR × Mem) :=
  if xs.length + ys.length ≤ room ∧ m.toks[t]? = some (some xs.length) ∧ (xs.all fun y => y.width == sz) ∧ (ys.all fun y => y.width == sz) then
    some (.v (.own t (xs ++ ys)), { m with toks := m.toks.set t (some (xs.length + ys.length)) }) else none
def mApp (s : AV) (ys : List Dv) (sz : Nat) (m : Mem) : Option (OR × Mem) := match s with
  | .clip xs => if xs.isEmpty && ys.isEmpty && !(sz == 3) then some (.v (.clip []), m) else if xs.isEmpty then appOwn m.toks.length xs ys sz { m with toks := m.toks ++ [some xs.length] } else none
  | .own t xs => if xs.isEmpty && !(sz == 3) then none else appOwn t xs ys sz m
  | .hc i ver xs => match m.heap[i]? with
    | some (.var ver' [.hown zs]) => if ver' = ver ∧ xs.length = zs.length ∧ (xs.isEmpty && !(sz == 3)) = false then
        appOwn m.toks.length xs ys sz { m with toks := m.toks ++ [some xs.length], heap := m.heap.set i (.var ver [.d (.slc zs)]) } else none
    | _ => none
  | _ => none

def mSt (i off : Nat) (cs : List AV) (m : Mem) : Option (OR × Mem) := match m.heap[i]? with
  | some (.var ver old) => if off + cs.length ≤ old.length then
      (match old, cs with
       | [_], [.own t xs] => if m.toks[t]? = some (some xs.length) then
           some (.u, { m with heap := m.heap.set i (.var (ver + 1) [.hown xs]), toks := m.toks.set t none }) else none
       | _, _ => some (.u, { m with heap := m.heap.set i (.var ver (splice old off (cs.map AV.keptH))) })) else none
  | _ => none

def yEnd (i : Nat) (m : Mem) : Ex × St → Option (OR × Mem)
  | (ex, σ) => match σ.mem.heap[i]? with
    | some (.loop .busy _ L) => (match ex with
      | .nor => some (.v (.d (.bool true)), { m with heap := σ.mem.heap.set i (.loop .ready none L) })
      | .ret => some (.v (.d (.bool false)), { m with heap := σ.mem.heap.set i (.loop .done (some .ret) L) })
      | .exit id => some (.v (.d (.bool false)), { m with heap := σ.mem.heap.set i (.loop .done (some (.exit id)) L) })
      | .pan _ => none)
    | _ => none
def yBody (O : Orc) (i : Nat) (m : Mem) (L : LoopA) : Ex × St → Option (OR × Mem)
  | (.nor, σ) => (match σ.mem.heap[i]? with
    | some (.loop .ready pend L') => (O.code L.fn L.body { σ with mem := { σ.mem with heap := σ.mem.heap.set i (.loop .busy pend L') } }).bind (yEnd i m)
    | _ => none)
  | _ => none
def yFrame (L : LoopA) (args : List AV) (heap : List HO) : St :=
  { tmps := setAll L.tmps L.params (eraseL args), mem := { locs := L.tmps.map fun _ => none, heap := heap, toks := [] } }
def mYld (O : Orc) (i : Nat) (args : List AV) (m : Mem) : Option (OR × Mem) := match m.heap[i]? with
  | some (.loop .ready _ L) => if okL args ∧ args.length = L.params.length then (O.code L.fn L.assign (yFrame L args m.heap)).bind (yBody O i m L) else none
  | _ => none

def callsPure (C : Cfg) (f : Nat) (args : List AV) : Bool := pureL args && !C.thr.contains f

def pureRes [N0] (m : Mem) : CR × List HO → Option (OR × Mem)
  | (.ret v, _) => if v.pure then some (.v v.keepE, m) else none
  | (.pan x, _) => if x.pure then some (.pan x.erase, m) else none
def heapRes [N0] (m : Mem) : CR × List HO → Option (OR × Mem)
  | (.ret v, h) => if v.okA then some (.v v.keepE, { m with heap := h }) else none
  | (.pan x, h) => if x.pure then some (.pan x.erase, { m with heap := h }) else none
def mCall [N0] (C : Cfg) (O : Orc) (f : Nat) (args : List AV) (m : Mem) : Option (OR × Mem) :=
  if callsPure C f args then (O.call f (eraseL args) []).bind (pureRes m)
  else if okL args then (O.call f (eraseL args) m.heap).bind (heapRes m)
  else none

def mact [N0] (C : Cfg) (O : Orc) (m : Mem) : MA → Option (OR × Mem)
  | .val v => some (.v v, m)
  | .ldL p off n ag => match m.locs[p]? with
    | some (some cs) => (ldc cs off n ag).map fun v => (.v v, m)
    | _ => none
  | .ldH i off n ag => match m.heap[i]? with
    | some (.var ver cs) => (ldh i ver cs off n ag).map fun v => (.v v, m)
    | _ => none
  | .stL p off cs => match m.locs[p]? with
    | some (some old) => if off + cs.length ≤ old.length then some (.u, { m with locs := m.locs.set p (some (splice old off (cs.map AV.kept))) }) else none
    | _ => none
  | .stH i off cs => mSt i off cs m
  | .alL p cs => if p < m.locs.length then some (.v (.lref p 0), { m with locs := m.locs.set p (some (cs.map AV.kept)) }) else none
  | .alH cs => if okL cs then some (.v (.href m.heap.length 0), { m with heap := m.heap ++ [.var 0 (cs.map AV.keptH)] }) else none
  | .app s ys sz => mApp s ys sz m
  | .call f args => mCall C O f args m
  | .yld i args => mYld O i args m
  | .pan x => some (.pan x, m)

/-! ### regions -/
def wantA (ops : Array Oper) (tm : List AV) (o : Oper) : Option Bool := match o.guard with
  | none => some true
  | some (j, want) => match (ops[j]?).bind (·.dst) with
    | some d => match tm.getD d .undef with
      | .d (.bool b) => some (b == want)
      | .tup [] => some false
      | _ => none
    | none => none
def putA (tm : List AV) (dst : Option Nat) (v : AV) : List AV := match dst with
  | some d => tm.set d v
  | none => tm

def stepE (tm : List AV) (dst : Option Nat) : OR × Mem → Option (OR × St)
  | (.v v, m) => some (.u, { tmps := putA tm dst v, mem := m })
  | (.u, m) => some (.u, { tmps := putA tm dst .undef, mem := m })
  | (.pan x, m) => some (.pan x, { tmps := tm, mem := m })
def stepO [N0] (C : Cfg) (O : Orc) (E : List Nat) (ops : Array Oper) (o : Oper) (σ : St) : Option (OR × St) :=
  match wantA ops σ.tmps o with
  | some true => (match decode C.P E o.dst (opv σ.tmps) o.op with
    | some a => (mact C O σ.mem a).bind (stepE σ.tmps o.dst)
    | none => none)
  | some false => some (.u, { σ with tmps := putA σ.tmps o.dst (.tup []) })
  | none => none

def runO [N0] (C : Cfg) (O : Orc) (E : List Nat) (ops : Array Oper) : List Nat → St → Option (Ex × St)
  | [], σ => some (.nor, σ)
  | i :: rest, σ => match ops[i]? with
    | none => none
    | some o => (stepO C O E ops o σ).bind fun
      | (.pan x, σ') => some (.pan x, σ')
      | (_, σ') => runO C O E ops rest σ'

/-- The slot that an operation makes a variable at. -/
def allocP (E : List Nat) (o : Oper) : Option Nat := match o.op, o.dst with
  | .alloc _, some p => if E.contains p then none else some p
  | .box _ _, some p => if E.contains p then none else some p
  | _, _ => none
def allocs (E : List Nat) (ops : Array Oper) : List Nat := ops.toList.filterMap (allocP E)
def nodupB : List Nat → Bool
  | [] => true
  | x :: xs => !xs.contains x && nodupB xs
def prep (E : List Nat) (ops : Array Oper) (σ : St) : St := match allocs E ops with
  | [] => σ
  | ps => { σ with tmps := σ.tmps.map (AV.inv ps) }

def clrT (ps : List Nat) (tm : List AV) : List AV := match ps with
  | [] => tm
  | p :: ps => clrT ps (tm.set p .undef)
def clrM (ps : List Nat) (l : List (Option (List AV))) : List (Option (List AV)) := match ps with
  | [] => l
  | p :: ps => clrM ps (l.set p none)
/-- What is needed no more behind a region. -/
def clear (ps : List Nat) : Ex × St → Ex × St
  | (ex, σ) => (ex, { tmps := clrT ps σ.tmps, mem := { σ.mem with locs := clrM ps σ.mem.locs } })

end Go.Proofs.Ytmmhpmfgcenngaa
/-! The abstract interpreter, second part: regions in any order, code, calls; by fuel. -/
namespace Go.Proofs.Ytmmhpmfgcenngaa

/-- What an operation touches of the memory. -/
structure FP where
  rl : List Nat := []
  wl : List Nat := []
  rh : Bool := false
  wh : Bool := false
  tk : Bool := false
def AV.isHc : AV → Bool
  | .hc _ _ _ => true
  | _ => false
def MA.fp (C : Cfg) : MA → FP
  | .val _ => {}
  | .ldL p _ _ _ => { rl := [p] }
  | .ldH _ _ _ _ => { rh := true }
  | .stL p _ _ => { wl := [p] }
  | .stH _ _ _ => { wh := true, tk := true }
  | .alL p _ => { wl := [p] }
  | .alH _ => { wh := true }
  | .app s _ _ => { tk := true, wh := s.isHc }
  | .call f args => { wh := !callsPure C f args }
  | .yld _ _ => { wh := true }
  | .pan _ => {}
def FP.none (a : FP) : Bool := a.rl.isEmpty && a.wl.isEmpty && !a.rh && !a.wh && !a.tk
def disj (a b : List Nat) : Bool := a.all fun x => !b.contains x
def FP.apart (a b : FP) : Bool :=
  disj a.wl b.rl && disj a.wl b.wl && disj a.rl b.wl && !(a.wh && b.rh) && !(a.wh && b.wh) && !(a.rh && b.wh) && !(a.tk && b.tk)

/-- A direct edge, either way. -/
def hangs (ops : Array Oper) (i j : Nat) : Bool := match ops[i]? with
  | some o => o.after.toList.any fun e => Region.binds .any e && e.on == j
  | none => false
def linked0 (ops : Array Oper) (i j : Nat) : Bool := hangs ops i j || hangs ops j i
def deps (o : Oper) : List Nat := (o.after.toList.filter fun e => Region.binds .any e).map (·.on)
def addTo (s : List Nat) : List Nat → List Nat
  | [] => s
  | k :: ks => if s.contains k then addTo s ks else addTo (k :: s) ks
def union (acc : List (List Nat)) : List Nat → List Nat → List Nat
  | s, [] => s
  | s, k :: ks => union acc (addTo (addTo s [k]) (acc.getD k [])) ks
/-- All that each operation hangs on, through others. -/
def reach (ops : Array Oper) : List (List Nat) := ops.toList.foldl (fun acc o => acc ++ [union acc [] (deps o)]) []
def linkedT (ops : Array Oper) (i j : Nat) : Bool := ((reach ops).getD i []).contains j || ((reach ops).getD j []).contains i
def linked (ops : Array Oper) (i j : Nat) : Bool := linked0 ops i j || linkedT ops i j
def opTmps (ops : Array Oper) (o : Oper) : List Nat :=
  (o.op.operands.toList.filterMap fun x => match x with | .tmp t => some t | _ => none) ++
  (match o.guard with | some (j, _) => ((ops[j]?).bind (·.dst)).toList | none => [])
def tmpsApart (ops : Array Oper) (o q : Oper) : Bool :=
  (match o.dst with | some d => !(opTmps ops q).contains d && q.dst != some d | none => true) &&
  (match q.dst with | some d => !(opTmps ops o).contains d | none => true)
/-- Each of a list behind all that it hangs on; 'l': what is behind already. -/
def linExt (ops : Array Oper) : List Nat → List Nat → Bool
  | _, [] => true
  | l, i :: rest => (match ops[i]? with | some o => (deps o).all fun j => l.contains j | none => false) && linExt ops (i :: l) rest
/-- May the operations be gone through in this order? -/
def statOk (l : List Nat) (ops : Array Oper) : Bool :=
  (l.all fun i => decide (i < ops.size)) && linExt ops [] l && nodupB l && ((List.range ops.size).all fun i => l.contains i) && l.length == ops.size &&
  ((List.range ops.size).all fun i => (List.range ops.size).all fun j => i == j || linked0 ops i j ||
    (match ops[i]?, ops[j]? with | some o, some q => tmpsApart ops o q | _, _ => false) || linkedT ops i j)

def fpO (C : Cfg) (E : List Nat) (ops : Array Oper) (o : Oper) (σ : St) : FP := match wantA ops σ.tmps o with
  | some true => match decode C.P E o.dst (opv σ.tmps) o.op with
    | some a => a.fp C
    | none => {}
  | _ => {}

def runD [N0] (C : Cfg) (O : Orc) (E : List Nat) (ops : Array Oper) : List Nat → List (Nat × FP) → St → Option (Ex × St)
  | [], _, σ => some (.nor, σ)
  | i :: rest, acc, σ => match ops[i]? with
    | none => none
    | some o =>
      if (acc.all fun x => (fpO C E ops o σ).apart x.2 || linked ops i x.1) then
        (stepO C O E ops o σ).bind fun
        | (.pan x, σ') => if (rest.all fun j => linked ops j i) && (acc.all fun x => !x.2.wh || linked ops i x.1) then some (.pan x, σ') else none
        | (_, σ') => runD C O E ops rest (if (fpO C E ops o σ).none then acc else (i, fpO C E ops o σ) :: acc) σ'
      else none

/-- What only looks: reads, and calls that lead to no variable. -/
def MA.ro (C : Cfg) : MA → Bool
  | .val _ => true
  | .ldL _ _ _ _ => true
  | .ldH _ _ _ _ => true
  | .call f args => callsPure C f args
  | .pan _ => true
  | _ => false
def actP [N0] (C : Cfg) (O : Orc) (m : Mem) (tm : List AV) (dst : Option Nat) (a : MA) : Option (OR × St) :=
  if a.ro C then (mact C O m a).bind (stepE tm dst) else none
def guardP [N0] (C : Cfg) (O : Orc) (E : List Nat) (o : Oper) (σ : St) : Bool → Option (OR × St)
  | true => (decode C.P E o.dst (opv σ.tmps) o.op).bind (actP C O σ.mem σ.tmps o.dst)
  | false => some (.u, { σ with tmps := putA σ.tmps o.dst (.tup []) })
/-- All of a region only looks: whatever the order. -/
def runP [N0] (C : Cfg) (O : Orc) (E : List Nat) (ops : Array Oper) : List Nat → St → Option (Ex × St)
  | [], σ => some (.nor, σ)
  | i :: rest, σ => match ops[i]? with
    | none => none
    | some o => ((wantA ops σ.tmps o).bind (guardP C O E o σ)).bind fun
      | (.pan x, σ') => if (rest.all fun j => linked ops j i) then some (.pan x, σ') else none
      | (_, σ') => runP C O E ops rest σ'
/-- Behind a panic in a drawn order the slots are not told. -/
def dropT : Ex × St → Ex × St
  | (.pan x, σ) => (.pan x, { σ with tmps := [] })
  | r => r
def clearD (ps : List Nat) (x : Ex × St) : Ex × St := clear ps (dropT x)
def regionA [N0] (C : Cfg) (O : Orc) (E : List Nat) (l : List Nat) (ro : Bool) (ops : Array Oper) (draw : Bool) (σ : St) : Option (Ex × St) :=
  if nodupB (allocs E ops) then
    if draw then (if statOk l ops then (if ro then (runP C O E ops l (prep E ops σ)).map dropT else (runD C O E ops l [] (prep E ops σ)).map dropT) else none)
    else runO C O E ops (List.range ops.size) (prep E ops σ)
  else none

/-! ### code and calls -/
def rangeEnd (O : Orc) (f : Nat) (σ : St) : CR × List HO → Option (Ex × St)
  | (.ret _, hp) => (match hp[σ.mem.heap.length]? with
    | some (.loop st pend _) => if st = .busy then none else (match pend with
      | none => some (.nor, { σ with mem := { σ.mem with heap := hp.set σ.mem.heap.length .dead } })
      | some c => O.code f c { σ with mem := { σ.mem with heap := hp.set σ.mem.heap.length .dead } })
    | _ => none)
  | (.pan x, hp) => if x.pure then some (.pan x.erase, { σ with mem := { σ.mem with heap := hp } }) else none
def rangeA (O : Orc) (f : Nat) (g : Operand) (ps : Array Tmp) (asg body : Code) (σ : St) : Option (Ex × St) :=
  match opv σ.tmps g with
  | .fn h first caps =>
    if okL first && okL caps && noRange asg && noRange body then
      (O.call h (eraseL first ++ (.yld σ.mem.heap.length :: eraseL caps)) (σ.mem.heap ++ [.loop .ready none { fn := f, tmps := σ.tmps.map AV.clr, params := ps.toList, assign := asg, body := body }])).bind (rangeEnd O f σ)
    else none
  | _ => none

def seqK (O : Orc) (f : Nat) (b : Code) : Ex × St → Option (Ex × St)
  | (.nor, σ) => O.code f b σ
  | (.ret, σ) => some (.ret, σ)
  | (.exit j, σ) => some (.exit j, σ)
  | (.pan x, σ) => some (.pan x, σ)
def blockK (id : Nat) : Ex × St → Option (Ex × St)
  | (.exit j, σ) => if j = id then some (.nor, σ) else some (.exit j, σ)
  | (.nor, σ) => some (.nor, σ)
  | (.ret, σ) => some (.ret, σ)
  | (.pan x, σ) => some (.pan x, σ)
def codeA [N0] (C : Cfg) (O : Orc) (f : Nat) (c : Code) (σ : St) : Option (Ex × St) := match c with
  | .skip => some (.nor, σ)
  | .region id ops draw => (regionA C O (C.esc f) (C.ord f id) (C.ro f id) ops draw σ).map (clear (C.clr f id))
  | .seq a b => (O.code f a σ).bind (seqK O f b)
  | .cond c t e => (match opv σ.tmps c with
    | .d (.bool b) => if b then O.code f t σ else O.code f e σ
    | _ => none)
  | .block id b => (O.code f b σ).bind (blockK id)
  | .loop b => (O.code f b σ).bind (seqK O f (.loop b))
  | .exit id => some (.exit id, σ)
  | .ret => some (.ret, σ)
  | .rangeFunc g ps asg body => rangeA O f g ps asg body σ
  | _ => none

def resA [N0] (P : Program) (σ : St) : ResultVar → Option AV
  | .tmp t => let v := σ.tmps.getD t .undef; if v.okA then some (v.retE newV σ.mem.toks) else none
  | .cell a T => match tsz P T, tag P T with
    | some n, some ag => if ag ∨ n = 1 then (match σ.tmps.getD a .undef with
      | .lref p off => (match σ.mem.locs[p]? with
        | some (some cs) => (ldc cs off n ag).bind fun v => if v.okA then some (v.retE newV σ.mem.toks) else none
        | _ => none)
      | .href i off => (match σ.mem.heap[i]? with
        | some (.var ver cs) => (ldh i ver cs off n ag).bind fun v => if v.okA then some (v.retE newV σ.mem.toks) else none
        | _ => none)
      | _ => none) else none
    | _, _ => none
def ressA [N0] (P : Program) (σ : St) : List ResultVar → Option (List AV)
  | [] => some []
  | r :: rs => match resA P σ r, ressA P σ rs with
    | some v, some vs => some (v :: vs)
    | _, _ => none
def oneOf : List AV → AV
  | [v] => v
  | vs => .tup vs

def entry (fn : Func) (args : List AV) (heap : List HO) : St :=
  { tmps := args ++ List.replicate (fn.ntmps - args.length) .undef, mem := { locs := List.replicate fn.ntmps none, heap := heap, toks := [] } }
def leave [N0] (P : Program) (fn : Func) : Ex × St → Option (CR × List HO)
  | (.nor, σ) => (ressA P σ fn.results.toList).map fun vs => (.ret (oneOf vs), σ.mem.heap)
  | (.ret, σ) => (ressA P σ fn.results.toList).map fun vs => (.ret (oneOf vs), σ.mem.heap)
  | (.pan x, σ) => if x.pure then some (.pan x.erase, σ.mem.heap) else none
  | (.exit _, _) => none
def bodyA [N0] (C : Cfg) (O : Orc) (f : Nat) (fn : Func) (args : List AV) (heap : List HO) : Option (CR × List HO) := match fn.body with
  | none => none
  | some c => (O.code f c (entry fn args heap)).bind (leave C.P fn)
def callA [N0] (C : Cfg) (O : Orc) (f : Nat) (args : List AV) (heap : List HO) : Option (CR × List HO) := match C.ext f with
  | some x => x O args heap
  | none => match C.P.funcs[f]? with
    | none => none
    | some fn => bodyA C O f fn args heap

/-- The oracle by fuel. -/
def fuel [N0] (C : Cfg) : Nat → Orc
  | 0 => { call := fun _ _ _ => none, code := fun _ _ _ => none }
  | k + 1 => { call := callA C (fuel C k), code := codeA C (fuel C k) }

end Go.Proofs.Ytmmhpmfgcenngaa
/-! The abstract interpreter, third part: its limit, and the equations that the limit meets. -/
namespace Go.Proofs.Ytmmhpmfgcenngaa

def Orc.le (A B : Orc) : Prop := (∀ f a h r, A.call f a h = some r → B.call f a h = some r) ∧ (∀ f c s r, A.code f c s = some r → B.code f c s = some r)
structure IsLim (s : Nat → Orc) (L : Orc) : Prop where
  mono : ∀ k, (s k).le (s (k + 1))
  call : ∀ f a h r, L.call f a h = some r ↔ ∃ k, (s k).call f a h = some r
  code : ∀ f c t r, L.code f c t = some r ↔ ∃ k, (s k).code f c t = some r

theorem Orc.le.refl (A : Orc) : A.le A := ⟨fun _ _ _ _ h => h, fun _ _ _ _ h => h⟩
theorem Orc.le.trans {A B D : Orc} (h : A.le B) (k : B.le D) : A.le D := ⟨fun _ _ _ _ x => k.1 _ _ _ _ (h.1 _ _ _ _ x), fun _ _ _ _ x => k.2 _ _ _ _ (h.2 _ _ _ _ x)⟩
theorem IsLim.up {s : Nat → Orc} {L : Orc} (h : IsLim s L) {i j : Nat} (hij : i ≤ j) : (s i).le (s j) := by
  induction hij with
  | refl => exact .refl _
  | step _ ih => exact ih.trans (h.mono _)

/-- What depends on the oracle continuously. -/
def Cts {α : Type} (G : Orc → Option α) : Prop :=
  (∀ A B : Orc, A.le B → ∀ r, G A = some r → G B = some r) ∧ ∀ (s : Nat → Orc) (L : Orc), IsLim s L → ∀ r, G L = some r → ∃ k, G (s k) = some r

theorem Cts.const {α : Type} (x : Option α) : Cts (fun _ => x) := ⟨fun _ _ _ _ h => h, fun _ _ _ _ h => ⟨0, h⟩⟩
theorem Cts.call (f : Nat) (a : List AV) (h : List HO) : Cts (fun O => O.call f a h) := ⟨fun _ _ hle _ hr => hle.1 _ _ _ _ hr, fun _ _ hl _ hr => (hl.call _ _ _ _).1 hr⟩
theorem Cts.code (f : Nat) (c : Code) (t : St) : Cts (fun O => O.code f c t) := ⟨fun _ _ hle _ hr => hle.2 _ _ _ _ hr, fun _ _ hl _ hr => (hl.code _ _ _ _).1 hr⟩
theorem Cts.bind {α β : Type} {A : Orc → Option α} {B : α → Orc → Option β} (hA : Cts A) (hB : ∀ x, Cts (B x)) : Cts (fun O => (A O).bind fun x => B x O) := by
  refine ⟨fun O O' hle r h => ?_, fun s L hl r h => ?_⟩
  · obtain ⟨x, hx, hr⟩ := Option.bind_eq_some_iff.1 h
    exact Option.bind_eq_some_iff.2 ⟨x, hA.1 _ _ hle _ hx, (hB x).1 _ _ hle _ hr⟩
  · obtain ⟨x, hx, hr⟩ := Option.bind_eq_some_iff.1 h
    obtain ⟨i, hi⟩ := hA.2 s L hl _ hx
    obtain ⟨j, hj⟩ := (hB x).2 s L hl _ hr
    exact ⟨max i j, Option.bind_eq_some_iff.2 ⟨x, hA.1 _ _ (hl.up (Nat.le_max_left i j)) _ hi, (hB x).1 _ _ (hl.up (Nat.le_max_right i j)) _ hj⟩⟩
theorem Cts.ite {α : Type} {p : Prop} [Decidable p] {A B : Orc → Option α} (hA : Cts A) (hB : Cts B) : Cts (fun O => if p then A O else B O) := by
  by_cases h : p
  · simpa [h] using hA
  · simpa [h] using hB
theorem Cts.congr {α : Type} {A B : Orc → Option α} (hA : Cts A) (h : ∀ O, B O = A O) : Cts B := by
  have : B = A := funext h
  rw [this]; exact hA
theorem Cts.map {α β : Type} {A : Orc → Option α} (g : α → β) (hA : Cts A) : Cts (fun O => (A O).map g) :=
  (hA.bind (fun x => Cts.const (some (g x)))).congr fun O => by cases A O <;> rfl

theorem cts_yld (i : Nat) (args : List AV) (m : Mem) : Cts (fun O => mYld O i args m) := by
  unfold mYld
  split
  · rename_i a L h
    refine Cts.ite (Cts.bind (.code _ _ _) (B := fun x O => yBody O i m L x) ?_) (.const _)
    rintro ⟨ex, σ⟩
    cases ex with
    | nor =>
      simp only [yBody]
      split
      · exact Cts.bind (.code _ _ _) (fun x => .const _)
      · exact .const _
    | _ => exact .const _
  · exact .const _

theorem cts_call [N0] (C : Cfg) (f : Nat) (args : List AV) (m : Mem) : Cts (fun O => mCall C O f args m) :=
  Cts.ite (Cts.bind (.call _ _ _) (fun _ => .const _)) (Cts.ite (Cts.bind (.call _ _ _) (fun _ => .const _)) (.const _))

theorem cts_mact [N0] (C : Cfg) (m : Mem) (a : MA) : Cts (fun O => mact C O m a) := by
  cases a with
  | call f args => exact cts_call C f args m
  | yld i args => exact cts_yld i args m
  | _ => exact .const _

theorem cts_step [N0] (C : Cfg) (E : List Nat) (ops : Array Oper) (o : Oper) (σ : St) : Cts (fun O => stepO C O E ops o σ) := by
  unfold stepO
  split
  · split
    · exact Cts.bind (cts_mact C σ.mem _) (fun _ => .const _)
    · exact .const _
  · exact .const _
  · exact .const _

theorem cts_run [N0] (C : Cfg) (E : List Nat) (ops : Array Oper) : ∀ (l : List Nat) (σ : St), Cts (fun O => runO C O E ops l σ)
  | [], σ => .const _
  | i :: rest, σ => by
    unfold runO
    split
    · exact .const _
    · rename_i o h
      refine Cts.bind (cts_step C E ops o σ) ?_
      rintro ⟨r, σ'⟩
      cases r with
      | pan x => exact .const _
      | v x => exact cts_run C E ops rest σ'
      | u => exact cts_run C E ops rest σ'

theorem cts_runD [N0] (C : Cfg) (E : List Nat) (ops : Array Oper) : ∀ (l : List Nat) (acc : List (Nat × FP)) (σ : St), Cts (fun O => runD C O E ops l acc σ)
  | [], acc, σ => .const _
  | i :: rest, acc, σ => by
    unfold runD
    split
    · exact .const _
    · rename_i o h
      refine Cts.ite (Cts.bind (cts_step C E ops o σ) ?_) (.const _)
      rintro ⟨r, σ'⟩
      cases r with
      | pan x => exact .const _
      | v x => exact cts_runD C E ops rest _ σ'
      | u => exact cts_runD C E ops rest _ σ'

theorem cts_guardP [N0] (C : Cfg) (E : List Nat) (o : Oper) (σ : St) (b : Bool) : Cts (fun O => guardP C O E o σ b) := by
  cases b with
  | true =>
    refine (Cts.bind (A := fun _ => decode C.P E o.dst (opv σ.tmps) o.op) (.const _) (B := fun a O => actP C O σ.mem σ.tmps o.dst a) fun a => ?_).congr fun O => rfl
    exact Cts.ite (Cts.bind (cts_mact C σ.mem a) (fun _ => .const _)) (.const _)
  | false => exact .const _
theorem cts_runP [N0] (C : Cfg) (E : List Nat) (ops : Array Oper) : ∀ (l : List Nat) (σ : St), Cts (fun O => runP C O E ops l σ)
  | [], σ => .const _
  | i :: rest, σ => by
    unfold runP
    split
    · exact .const _
    · rename_i o h
      refine Cts.bind (A := fun O => (wantA ops σ.tmps o).bind (guardP C O E o σ)) ((Cts.bind (A := fun _ => wantA ops σ.tmps o) (.const _) (B := fun b O => guardP C O E o σ b) fun b => cts_guardP C E o σ b).congr fun O => rfl) ?_
      rintro ⟨r, σ'⟩
      cases r with
      | pan x => exact .const _
      | v x => exact cts_runP C E ops rest σ'
      | u => exact cts_runP C E ops rest σ'

theorem cts_range (f : Nat) (g : Operand) (ps : Array Tmp) (asg body : Code) (σ : St) : Cts (fun O => rangeA O f g ps asg body σ) := by
  unfold rangeA
  split
  · refine Cts.ite (Cts.bind (.call _ _ _) (B := fun x O => rangeEnd O f σ x) ?_) (.const _)
    rintro ⟨r, hp⟩
    cases r with
    | pan x => exact .const _
    | ret v =>
      simp only [rangeEnd]
      split
      · refine Cts.ite (.const _) ?_
        split
        · exact .const _
        · exact .code _ _ _
      · exact .const _
  · exact .const _

theorem cts_seqK (f : Nat) (b : Code) (x : Ex × St) : Cts (fun O => seqK O f b x) := by
  obtain ⟨r, σ⟩ := x
  cases r with
  | nor => exact .code _ _ _
  | _ => exact .const _

theorem cts_code [N0] (C : Cfg) (f : Nat) (c : Code) (σ : St) : Cts (fun O => codeA C O f c σ) := by
  cases c with
  | region id ops draw => exact Cts.map _ (Cts.ite (Cts.ite (Cts.ite (Cts.ite (Cts.map _ (cts_runP C _ ops _ _)) (Cts.map _ (cts_runD C _ ops _ _ _))) (.const _)) (cts_run C _ ops _ _)) (.const _))
  | seq a b => exact Cts.bind (.code _ _ _) (B := fun x O => seqK O f b x) (cts_seqK f b)
  | cond c t e =>
    simp only [codeA]
    split
    · exact Cts.ite (.code _ _ _) (.code _ _ _)
    · exact .const _
  | block id b => exact Cts.bind (.code _ _ _) (B := fun x _ => blockK id x) (fun _ => .const _)
  | loop b => exact Cts.bind (.code _ _ _) (B := fun x O => seqK O f (.loop b) x) (cts_seqK f (.loop b))
  | rangeFunc g ps asg body => exact cts_range f g ps asg body σ
  | _ => exact .const _

/-- The functions that are told besides depend on the oracle continuously. -/
def Cfg.ExtCts (C : Cfg) : Prop := ∀ f x, C.ext f = some x → ∀ args heap, Cts (fun O => x O args heap)

theorem cts_callA [N0] (C : Cfg) (hx : C.ExtCts) (f : Nat) (args : List AV) (heap : List HO) : Cts (fun O => callA C O f args heap) := by
  unfold callA
  split
  · rename_i x h
    exact hx f x h args heap
  · split
    · exact .const _
    · unfold bodyA
      split
      · exact .const _
      · exact Cts.bind (.code _ _ _) (fun _ => .const _)

theorem fuel_mono [N0] (C : Cfg) (hx : C.ExtCts) : ∀ k, (fuel C k).le (fuel C (k + 1))
  | 0 => ⟨fun _ _ _ _ h => by simp [fuel] at h, fun _ _ _ _ h => by simp [fuel] at h⟩
  | k + 1 => ⟨fun f a h r hr => (cts_callA C hx f a h).1 _ _ (fuel_mono C hx k) _ hr, fun f c s r hr => (cts_code C f c s).1 _ _ (fuel_mono C hx k) _ hr⟩

open Classical in
/-- The limit. -/
noncomputable def lim [N0] (C : Cfg) : Orc where
  call f a h := if hk : ∃ k r, (fuel C k).call f a h = some r then some (Classical.choose (Classical.choose_spec hk)) else none
  code f c s := if hk : ∃ k r, (fuel C k).code f c s = some r then some (Classical.choose (Classical.choose_spec hk)) else none

theorem lim_is [N0] (C : Cfg) (hx : C.ExtCts) : IsLim (fuel C) (lim C) := by
  have up : ∀ {i j : Nat}, i ≤ j → (fuel C i).le (fuel C j) := by
    intro i j hij
    induction hij with
    | refl => exact .refl _
    | step _ ih => exact ih.trans (fuel_mono C hx _)
  refine ⟨fuel_mono C hx, fun f a h r => ?_, fun f c t r => ?_⟩
  · constructor
    · intro hr
      by_cases hk : ∃ k r, (fuel C k).call f a h = some r
      · have hs := Classical.choose_spec (Classical.choose_spec hk)
        simp only [lim, hk, dif_pos] at hr
        exact ⟨_, by rw [hs]; exact hr⟩
      · simp only [lim] at hr
        rw [dif_neg hk] at hr
        cases hr
    · rintro ⟨k, hr⟩
      have hk : ∃ k r, (fuel C k).call f a h = some r := ⟨k, r, hr⟩
      have hs := Classical.choose_spec (Classical.choose_spec hk)
      simp only [lim, hk, dif_pos]
      have h1 := (up (Nat.le_max_left k (Classical.choose hk))).1 _ _ _ _ hr
      have h2 := (up (Nat.le_max_right k (Classical.choose hk))).1 _ _ _ _ hs
      rw [h1] at h2
      exact h2.symm
  · constructor
    · intro hr
      by_cases hk : ∃ k r, (fuel C k).code f c t = some r
      · have hs := Classical.choose_spec (Classical.choose_spec hk)
        simp only [lim, hk, dif_pos] at hr
        exact ⟨_, by rw [hs]; exact hr⟩
      · simp only [lim] at hr
        rw [dif_neg hk] at hr
        cases hr
    · rintro ⟨k, hr⟩
      have hk : ∃ k r, (fuel C k).code f c t = some r := ⟨k, r, hr⟩
      have hs := Classical.choose_spec (Classical.choose_spec hk)
      simp only [lim, hk, dif_pos]
      have h1 := (up (Nat.le_max_left k (Classical.choose hk))).2 _ _ _ _ hr
      have h2 := (up (Nat.le_max_right k (Classical.choose hk))).2 _ _ _ _ hs
      rw [h1] at h2
      exact h2.symm

theorem opt_ext {α : Type} {a b : Option α} (h : ∀ r, a = some r ↔ b = some r) : a = b := by
  cases a with
  | none => cases b with
    | none => rfl
    | some y => exact ((h y).2 rfl)
  | some x => exact ((h x).1 rfl).symm

/-- THE EQUATIONS. -/
theorem lim_call [N0] (C : Cfg) (hx : C.ExtCts) (f : Nat) (args : List AV) (heap : List HO) : (lim C).call f args heap = callA C (lim C) f args heap := by
  have hl := lim_is C hx
  refine opt_ext fun r => ?_
  constructor
  · intro h
    obtain ⟨k, hk⟩ := (hl.call _ _ _ _).1 h
    cases k with
    | zero => simp [fuel] at hk
    | succ k =>
      have : (fuel C k).le (lim C) := ⟨fun _ _ _ _ h => (hl.call _ _ _ _).2 ⟨k, h⟩, fun _ _ _ _ h => (hl.code _ _ _ _).2 ⟨k, h⟩⟩
      exact (cts_callA C hx f args heap).1 _ _ this _ hk
  · intro h
    obtain ⟨k, hk⟩ := (cts_callA C hx f args heap).2 _ _ hl _ h
    exact (hl.call _ _ _ _).2 ⟨k + 1, hk⟩
theorem lim_code [N0] (C : Cfg) (hx : C.ExtCts) (f : Nat) (c : Code) (σ : St) : (lim C).code f c σ = codeA C (lim C) f c σ := by
  have hl := lim_is C hx
  refine opt_ext fun r => ?_
  constructor
  · intro h
    obtain ⟨k, hk⟩ := (hl.code _ _ _ _).1 h
    cases k with
    | zero => simp [fuel] at hk
    | succ k =>
      have : (fuel C k).le (lim C) := ⟨fun _ _ _ _ h => (hl.call _ _ _ _).2 ⟨k, h⟩, fun _ _ _ _ h => (hl.code _ _ _ _).2 ⟨k, h⟩⟩
      exact (cts_code C f c σ).1 _ _ this _ hk
  · intro h
    obtain ⟨k, hk⟩ := (cts_code C f c σ).2 _ _ hl _ h
    exact (hl.code _ _ _ _).2 ⟨k + 1, hk⟩

end Go.Proofs.Ytmmhpmfgcenngaa
/-! The equations of the limit, construct by construct, for rewriting. -/
namespace Go.Proofs.Ytmmhpmfgcenngaa
class ExtC (C : Cfg) : Prop where
  out : C.ExtCts
def actK [N0] (C : Cfg) (O : Orc) (m : Mem) (tm : List AV) (dst : Option Nat) (a : MA) : Option (OR × St) := (mact C O m a).bind (stepE tm dst)
def guardK [N0] (C : Cfg) (O : Orc) (E : List Nat) (o : Oper) (σ : St) : Bool → Option (OR × St)
  | true => (decode C.P E o.dst (opv σ.tmps) o.op).bind (actK C O σ.mem σ.tmps o.dst)
  | false => some (.u, { σ with tmps := putA σ.tmps o.dst (.tup []) })
def runK [N0] (C : Cfg) (O : Orc) (E : List Nat) (ops : Array Oper) (rest : List Nat) : OR × St → Option (Ex × St)
  | (.pan x, σ') => some (.pan x, σ')
  | (.v _, σ') => runO C O E ops rest σ'
  | (.u, σ') => runO C O E ops rest σ'
def runPK [N0] (C : Cfg) (O : Orc) (E : List Nat) (ops : Array Oper) (i : Nat) (rest : List Nat) : OR × St → Option (Ex × St)
  | (.pan x, σ') => if (rest.all fun j => linked ops j i) then some (.pan x, σ') else none
  | (.v _, σ') => runP C O E ops rest σ'
  | (.u, σ') => runP C O E ops rest σ'
/-- One operation. -/
def opK [N0] (C : Cfg) (O : Orc) (E : List Nat) (ops : Array Oper) (o : Oper) (σ : St) : Option (OR × St) := (wantA ops σ.tmps o).bind (guardK C O E o σ)
theorem opK_eq [N0] (C : Cfg) (O : Orc) (E : List Nat) (ops : Array Oper) (o : Oper) (σ : St) : stepO C O E ops o σ = opK C O E ops o σ := by
  unfold stepO opK
  cases wantA ops σ.tmps o with
  | none => rfl
  | some b =>
    cases b with
    | false => rfl
    | true =>
      simp only [Option.bind_some, guardK]
      cases decode C.P E o.dst (opv σ.tmps) o.op <;> rfl
theorem runO_nil [N0] (C : Cfg) (O : Orc) (E : List Nat) (ops : Array Oper) (σ : St) : runO C O E ops [] σ = some (.nor, σ) := rfl
def runOK [N0] (C : Cfg) (O : Orc) (E : List Nat) (ops : Array Oper) (rest : List Nat) (σ : St) (o : Oper) : Option (Ex × St) := ((wantA ops σ.tmps o).bind (guardK C O E o σ)).bind (runK C O E ops rest)
theorem runO_cons [N0] (C : Cfg) (O : Orc) (E : List Nat) (ops : Array Oper) (i : Nat) (rest : List Nat) (σ : St) :
    runO C O E ops (i :: rest) σ = (ops[i]?).bind (runOK C O E ops rest σ) := by
  simp only [runO]
  cases ops[i]? with
  | none => rfl
  | some o =>
    simp only [runOK, opK_eq, opK, Option.bind_some]
    congr 1
    funext x
    obtain ⟨r, s⟩ := x
    cases r <;> rfl
theorem runP_nil [N0] (C : Cfg) (O : Orc) (E : List Nat) (ops : Array Oper) (σ : St) : runP C O E ops [] σ = some (.nor, σ) := rfl
def runPO [N0] (C : Cfg) (O : Orc) (E : List Nat) (ops : Array Oper) (i : Nat) (rest : List Nat) (σ : St) (o : Oper) : Option (Ex × St) := ((wantA ops σ.tmps o).bind (guardP C O E o σ)).bind (runPK C O E ops i rest)
theorem runP_cons [N0] (C : Cfg) (O : Orc) (E : List Nat) (ops : Array Oper) (i : Nat) (rest : List Nat) (σ : St) :
    runP C O E ops (i :: rest) σ = (ops[i]?).bind (runPO C O E ops i rest σ) := by
  simp only [runP]
  cases ops[i]? with
  | none => rfl
  | some o =>
    simp only [runPO, Option.bind_some]
    congr 1
    funext x
    obtain ⟨r, s⟩ := x
    cases r <;> rfl
section
variable {C : Cfg} [hx : ExtC C]
theorem ev_skip [N0] (f : Nat) (σ : St) : (lim C).code f .skip σ = some (.nor, σ) := by rw [lim_code C hx.out]; rfl
theorem ev_ret [N0] (f : Nat) (σ : St) : (lim C).code f .ret σ = some (.ret, σ) := by rw [lim_code C hx.out]; rfl
theorem ev_exit [N0] (f id : Nat) (σ : St) : (lim C).code f (.exit id) σ = some (.exit id, σ) := by rw [lim_code C hx.out]; rfl
theorem ev_seq [N0] (f : Nat) (a b : Code) (σ : St) : (lim C).code f (.seq a b) σ = ((lim C).code f a σ).bind (seqK (lim C) f b) := by rw [lim_code C hx.out]; rfl
theorem ev_block [N0] (f id : Nat) (b : Code) (σ : St) : (lim C).code f (.block id b) σ = ((lim C).code f b σ).bind (blockK id) := by rw [lim_code C hx.out]; rfl
theorem ev_loop [N0] (f : Nat) (b : Code) (σ : St) : (lim C).code f (.loop b) σ = ((lim C).code f b σ).bind (seqK (lim C) f (.loop b)) := by rw [lim_code C hx.out]; rfl
def condK (O : Orc) (f : Nat) (t e : Code) (σ : St) : AV → Option (Ex × St)
  | .d (.bool b) => if b then O.code f t σ else O.code f e σ
  | _ => none
theorem ev_cond [N0] (f : Nat) (c : Operand) (t e : Code) (σ : St) : (lim C).code f (.cond c t e) σ = condK (lim C) f t e σ (opv σ.tmps c) := by rw [lim_code C hx.out]; rfl
/-- A region, in order. -/
theorem ev_reg [N0] (f id : Nat) (ops : Array Oper) (σ : St) (h : nodupB (allocs (C.esc f) ops) = true) : (lim C).code f (.region id ops false) σ = (runO C (lim C) (C.esc f) ops (List.range ops.size) (prep (C.esc f) ops σ)).map (clear (C.clr f id)) := by
  rw [lim_code C hx.out]
  simp only [codeA, regionA, h, if_true]
  rfl
/-- A region that draws, all of which only looks. -/
theorem ev_drawP [N0] (f id : Nat) (ops : Array Oper) (σ : St) (h : nodupB (allocs (C.esc f) ops) = true) (hs : statOk (C.ord f id) ops = true) (hr : C.ro f id = true) :
    (lim C).code f (.region id ops true) σ = (runP C (lim C) (C.esc f) ops (C.ord f id) (prep (C.esc f) ops σ)).map (clearD (C.clr f id)) := by
  rw [lim_code C hx.out]
  simp only [codeA, regionA, h, hs, hr, if_true, Option.map_map]
  rfl
theorem ev_drawD [N0] (f id : Nat) (ops : Array Oper) (σ : St) (h : nodupB (allocs (C.esc f) ops) = true) (hs : statOk (C.ord f id) ops = true) (hr : C.ro f id = false) :
    (lim C).code f (.region id ops true) σ = (runD C (lim C) (C.esc f) ops (C.ord f id) [] (prep (C.esc f) ops σ)).map (clearD (C.clr f id)) := by
  rw [lim_code C hx.out]
  simp only [codeA, regionA, h, hs, hr, if_true, Bool.false_eq_true, if_false, Option.map_map]
  rfl
theorem ev_range [N0] (f : Nat) (g : Operand) (ps : Array Tmp) (asg body : Code) (σ : St) : (lim C).code f (.rangeFunc g ps asg body) σ = rangeA (lim C) f g ps asg body σ := by rw [lim_code C hx.out]; rfl
/-- A function's call: its body. -/
theorem ev_call [N0] (f : Nat) (fn : Func) (c : Code) (args : List AV) (heap : List HO) (h0 : C.ext f = none) (h1 : C.P.funcs[f]? = some fn) (h2 : fn.body = some c) :
    (lim C).call f args heap = ((lim C).code f c (entry fn args heap)).bind (leave C.P fn) := by
  rw [lim_call C hx.out]
  simp only [callA, h0, h1, bodyA, h2]
/-- A loop: so many rounds, then out. -/
theorem loop_run [N0] {f : Nat} {b : Code} (S : Nat → St) (n : Nat) {x : Ex} {σ' : St} (h : ∀ i, i < n → (lim C).code f b (S i) = some (.nor, S (i + 1))) (he : (lim C).code f b (S n) = some (x, σ')) (hx : x ≠ .nor) :
    (lim C).code f (.loop b) (S 0) = some (x, σ') := by
  have key : ∀ k, k ≤ n → (lim C).code f (.loop b) (S (n - k)) = some (x, σ') := by
    intro k
    induction k with
    | zero =>
      intro _
      rw [ev_loop, Nat.sub_zero, he]
      cases x <;> first | rfl | exact absurd rfl hx
    | succ k ih =>
      intro hk
      rw [ev_loop, h (n - (k + 1)) (by omega)]
      simp only [Option.bind_some, seqK]
      have : n - (k + 1) + 1 = n - k := by omega
      rw [this]
      exact ih (by omega)
  have := key n (Nat.le_refl n)
  rwa [Nat.sub_self] at this
end
end Go.Proofs.Ytmmhpmfgcenngaa
/-! Equations, arm by arm. -/
set_option linter.unusedVariables false
namespace Go.Proofs.Ytmmhpmfgcenngaa
theorem inv_d : ∀ (ps : List Nat) (x : Dv), AV.inv ps (.d x) = .d x := by intros; rfl
theorem inv_own : ∀ (ps : List Nat) (t : Nat) (xs : List Dv), AV.inv ps (.own t xs) = .own t xs := by intros; rfl
theorem inv_clip : ∀ (ps : List Nat) (xs : List Dv), AV.inv ps (.clip xs) = .clip xs := by intros; rfl
theorem inv_hc : ∀ (ps : List Nat) (i v : Nat) (xs : List Dv), AV.inv ps (.hc i v xs) = .hc i v xs := by intros; rfl
theorem inv_hown : ∀ (ps : List Nat) (xs : List Dv), AV.inv ps (.hown xs) = .hown xs := by intros; rfl
theorem inv_href : ∀ (ps : List Nat) (i o : Nat), AV.inv ps (.href i o) = .href i o := by intros; rfl
theorem inv_eptr : ∀ (ps : List Nat) (cs : List Dv), AV.inv ps (.eptr cs) = .eptr cs := by intros; rfl
theorem inv_fn : ∀ (ps : List Nat) (f : Nat) (a b : List AV), AV.inv ps (.fn f a b) = .fn f a b := by intros; rfl
theorem inv_yld : ∀ (ps : List Nat) (i : Nat), AV.inv ps (.yld i) = .yld i := by intros; rfl
theorem inv_tup : ∀ (ps : List Nat) (vs : List AV), AV.inv ps (.tup vs) = .tup vs := by intros; rfl
theorem inv_arr : ∀ (ps : List Nat) (vs : List AV), AV.inv ps (.arr vs) = .arr vs := by intros; rfl
theorem inv_iface : ∀ (ps : List Nat) (t : Nat) (x : Dv), AV.inv ps (.iface t x) = .iface t x := by intros; rfl
theorem inv_undef : ∀ (ps : List Nat) , AV.inv ps (.undef) = .undef := by intros; rfl
theorem inv_lref : ∀ (ps : List Nat) (p o : Nat), AV.inv ps (.lref p o) = if ps.contains p then .undef else .lref p o := by intros; rfl
theorem inv_kn : ∀ (ps : List Nat) (K : Value → Prop) (xs : List Dv), AV.inv ps (.kn K xs) = .kn K xs := by intros; rfl
theorem inv_kp : ∀ (ps : List Nat) (K : Value → Prop) (d : Nat) (cs : List Dv), AV.inv ps (.kp K d cs) = .kp K d cs := by intros; rfl
theorem sl_kn : ∀ (K : Value → Prop) (xs : List Dv), AV.sl (.kn K xs) = some xs := by intros; rfl
theorem toDv_kn : ∀ (K : Value → Prop) (xs : List Dv), AV.toDv (.kn K xs) = none := by intros; rfl
theorem toDv_kp : ∀ (K : Value → Prop) (d : Nat) (cs : List Dv), AV.toDv (.kp K d cs) = none := by intros; rfl
theorem cells_kn : ∀ (K : Value → Prop) (xs : List Dv), AV.cells (.kn K xs) = [.kn K xs] := by intros; rfl
theorem cells_kp : ∀ (K : Value → Prop) (d : Nat) (cs : List Dv), AV.cells (.kp K d cs) = [.kp K d cs] := by intros; rfl
theorem flat_kn : ∀ (K : Value → Prop) (xs : List Dv), AV.flat (.kn K xs) = true := by intros; rfl
theorem kept_kn : ∀ (K : Value → Prop) (xs : List Dv), AV.kept (.kn K xs) = .kn K xs := by intros; rfl
theorem keptH_kn : ∀ (K : Value → Prop) (xs : List Dv), AV.keptH (.kn K xs) = .d (.slc xs) := by intros; rfl
theorem clr_kn : ∀ (K : Value → Prop) (xs : List Dv), AV.clr (.kn K xs) = .d (.slc xs) := by intros; rfl
theorem eAt_kn : ∀ (K : Value → Prop) (xs : List Dv) (d : Nat) (cs : List Dv), eAt (.kn K xs) d cs = .kp K d cs := by intros; rfl
theorem eAt_d : ∀ (x : Dv) (d : Nat) (cs : List Dv), eAt (.d x) d cs = .eptr cs := by intros; rfl
theorem eAt_own : ∀ (t : Nat) (xs : List Dv) (d : Nat) (cs : List Dv), eAt (.own t xs) d cs = .eptr cs := by intros; rfl
theorem eAt_clip : ∀ (xs : List Dv) (d : Nat) (cs : List Dv), eAt (.clip xs) d cs = .eptr cs := by intros; rfl
theorem eAt_hc : ∀ (i v : Nat) (xs : List Dv) (d : Nat) (cs : List Dv), eAt (.hc i v xs) d cs = .eptr cs := by intros; rfl
theorem sl_own : ∀ (t : Nat) (xs : List Dv), AV.sl (.own t xs) = some xs := by intros; rfl
theorem sl_clip : ∀ (xs : List Dv), AV.sl (.clip xs) = some xs := by intros; rfl
theorem sl_hc : ∀ (i v : Nat) (xs : List Dv), AV.sl (.hc i v xs) = some xs := by intros; rfl
theorem sl_d : ∀ (xs : List Dv), AV.sl (.d (.slc xs)) = some xs := by intros; rfl
theorem toDv_d : ∀ (x : Dv), AV.toDv (.d x) = some x := by intros; rfl
theorem toDv_own : ∀ (t : Nat) (xs : List Dv), AV.toDv (.own t xs) = none := by intros; rfl
theorem toDv_clip : ∀ (xs : List Dv), AV.toDv (.clip xs) = none := by intros; rfl
theorem toDv_hc : ∀ (i v : Nat) (xs : List Dv), AV.toDv (.hc i v xs) = some (.slc xs) := by intros; rfl
theorem toDv_hown : ∀ (xs : List Dv), AV.toDv (.hown xs) = some (.slc xs) := by intros; rfl
theorem toDv_lref : ∀ (p o : Nat), AV.toDv (.lref p o) = none := by intros; rfl
theorem toDv_href : ∀ (i o : Nat), AV.toDv (.href i o) = none := by intros; rfl
theorem toDv_eptr : ∀ (cs : List Dv), AV.toDv (.eptr cs) = none := by intros; rfl
theorem toDv_fn : ∀ (f : Nat) (a b : List AV), AV.toDv (.fn f a b) = none := by intros; rfl
theorem toDv_yld : ∀ (i : Nat), AV.toDv (.yld i) = none := by intros; rfl
theorem toDv_tup : ∀ (vs : List AV), AV.toDv (.tup vs) = none := by intros; rfl
theorem toDv_arr : ∀ (vs : List AV), AV.toDv (.arr vs) = none := by intros; rfl
theorem toDv_iface : ∀ (t : Nat) (x : Dv), AV.toDv (.iface t x) = none := by intros; rfl
theorem toDv_undef : AV.toDv (.undef) = none := by intros; rfl
theorem cells_own : ∀ (t : Nat) (xs : List Dv), AV.cells (.own t xs) = [.own t xs] := by intros; rfl
theorem cells_clip : ∀ (xs : List Dv), AV.cells (.clip xs) = [.clip xs] := by intros; rfl
theorem cells_hc : ∀ (i v : Nat) (xs : List Dv), AV.cells (.hc i v xs) = [.hc i v xs] := by intros; rfl
theorem cells_hown : ∀ (xs : List Dv), AV.cells (.hown xs) = [.hown xs] := by intros; rfl
theorem cells_lref : ∀ (p o : Nat), AV.cells (.lref p o) = [.lref p o] := by intros; rfl
theorem cells_href : ∀ (i o : Nat), AV.cells (.href i o) = [.href i o] := by intros; rfl
theorem cells_eptr : ∀ (cs : List Dv), AV.cells (.eptr cs) = [.eptr cs] := by intros; rfl
theorem cells_fn : ∀ (f : Nat) (a b : List AV), AV.cells (.fn f a b) = [.fn f a b] := by intros; rfl
theorem cells_yld : ∀ (i : Nat), AV.cells (.yld i) = [.yld i] := by intros; rfl
theorem cells_tup : ∀ (vs : List AV), AV.cells (.tup vs) = [.tup vs] := by intros; rfl
theorem cells_iface : ∀ (t : Nat) (x : Dv), AV.cells (.iface t x) = [.iface t x] := by intros; rfl
theorem cells_undef : AV.cells (.undef) = [.undef] := by intros; rfl
theorem cells_arr : ∀ vs, AV.cells (.arr vs) = vs := by intros; rfl
theorem cells_d_int : ∀ (k : IntKind) (n : Int), AV.cells (.d (.int k n)) = [.d (.int k n)] := by intros; rfl
theorem flat_d_int : ∀ (k : IntKind) (n : Int), AV.flat (.d (.int k n)) = true := by intros; rfl
theorem dcells_int : ∀ (k : IntKind) (n : Int), Dv.cells (.int k n) = [.int k n] := by intros; rfl
theorem width_int : ∀ (k : IntKind) (n : Int), Dv.width (.int k n) = 1 := by intros; rfl
theorem cells_d_bool : ∀ (b : Bool), AV.cells (.d (.bool b)) = [.d (.bool b)] := by intros; rfl
theorem flat_d_bool : ∀ (b : Bool), AV.flat (.d (.bool b)) = true := by intros; rfl
theorem dcells_bool : ∀ (b : Bool), Dv.cells (.bool b) = [.bool b] := by intros; rfl
theorem width_bool : ∀ (b : Bool), Dv.width (.bool b) = 1 := by intros; rfl
theorem cells_d_str : ∀ (s : ByteArray), AV.cells (.d (.str s)) = [.d (.str s)] := by intros; rfl
theorem flat_d_str : ∀ (s : ByteArray), AV.flat (.d (.str s)) = true := by intros; rfl
theorem dcells_str : ∀ (s : ByteArray), Dv.cells (.str s) = [.str s] := by intros; rfl
theorem width_str : ∀ (s : ByteArray), Dv.width (.str s) = 1 := by intros; rfl
theorem cells_d_slc : ∀ (xs : List Dv), AV.cells (.d (.slc xs)) = [.d (.slc xs)] := by intros; rfl
theorem flat_d_slc : ∀ (xs : List Dv), AV.flat (.d (.slc xs)) = true := by intros; rfl
theorem dcells_slc : ∀ (xs : List Dv), Dv.cells (.slc xs) = [.slc xs] := by intros; rfl
theorem width_slc : ∀ (xs : List Dv), Dv.width (.slc xs) = 1 := by intros; rfl
theorem cells_d_agg : ∀ (cs : List Dv), AV.cells (.d (.agg cs)) = cs.map .d := by intros; rfl
theorem flat_d_agg : ∀ (cs : List Dv), AV.flat (.d (.agg cs)) = false := by intros; rfl
theorem dcells_agg : ∀ (cs : List Dv), Dv.cells (.agg cs) = cs := by intros; rfl
theorem width_agg : ∀ (cs : List Dv), Dv.width (.agg cs) = cs.length := by intros; rfl
theorem flat_own : ∀ (t : Nat) (xs : List Dv), AV.flat (.own t xs) = true := by intros; rfl
theorem flat_clip : ∀ (xs : List Dv), AV.flat (.clip xs) = true := by intros; rfl
theorem flat_hc : ∀ (i v : Nat) (xs : List Dv), AV.flat (.hc i v xs) = true := by intros; rfl
theorem flat_hown : ∀ (xs : List Dv), AV.flat (.hown xs) = true := by intros; rfl
theorem flat_lref : ∀ (p o : Nat), AV.flat (.lref p o) = true := by intros; rfl
theorem flat_href : ∀ (i o : Nat), AV.flat (.href i o) = true := by intros; rfl
theorem flat_eptr : ∀ (cs : List Dv), AV.flat (.eptr cs) = true := by intros; rfl
theorem flat_fn : ∀ (f : Nat) (a b : List AV), AV.flat (.fn f a b) = true := by intros; rfl
theorem flat_yld : ∀ (i : Nat), AV.flat (.yld i) = true := by intros; rfl
theorem flat_tup : ∀ (vs : List AV), AV.flat (.tup vs) = false := by intros; rfl
theorem flat_arr : ∀ (vs : List AV), AV.flat (.arr vs) = false := by intros; rfl
theorem flat_iface : ∀ (t : Nat) (x : Dv), AV.flat (.iface t x) = true := by intros; rfl
theorem flat_undef : AV.flat (.undef) = false := by intros; rfl
theorem kept_d : ∀ (x : Dv), AV.kept (.d x) = .d x := by intros; rfl
theorem keptH_d : ∀ (x : Dv), AV.keptH (.d x) = AV.erase (.d x) := by intros; rfl
theorem clr_d : ∀ (x : Dv), AV.clr (.d x) = AV.erase (.d x) := by intros; rfl
theorem kept_own : ∀ (t : Nat) (xs : List Dv), AV.kept (.own t xs) = .own t xs := by intros; rfl
theorem keptH_own : ∀ (t : Nat) (xs : List Dv), AV.keptH (.own t xs) = AV.erase (.own t xs) := by intros; rfl
theorem clr_own : ∀ (t : Nat) (xs : List Dv), AV.clr (.own t xs) = AV.erase (.own t xs) := by intros; rfl
theorem kept_hc : ∀ (i v : Nat) (xs : List Dv), AV.kept (.hc i v xs) = .d (.slc xs) := by intros; rfl
theorem keptH_hc : ∀ (i v : Nat) (xs : List Dv), AV.keptH (.hc i v xs) = AV.erase (.hc i v xs) := by intros; rfl
theorem clr_hc : ∀ (i v : Nat) (xs : List Dv), AV.clr (.hc i v xs) = AV.erase (.hc i v xs) := by intros; rfl
theorem kept_hown : ∀ (xs : List Dv), AV.kept (.hown xs) = .d (.slc xs) := by intros; rfl
theorem keptH_hown : ∀ (xs : List Dv), AV.keptH (.hown xs) = AV.erase (.hown xs) := by intros; rfl
theorem clr_hown : ∀ (xs : List Dv), AV.clr (.hown xs) = AV.erase (.hown xs) := by intros; rfl
theorem kept_lref : ∀ (p o : Nat), AV.kept (.lref p o) = .lref p o := by intros; rfl
theorem keptH_lref : ∀ (p o : Nat), AV.keptH (.lref p o) = AV.erase (.lref p o) := by intros; rfl
theorem clr_lref : ∀ (p o : Nat), AV.clr (.lref p o) = .undef := by intros; rfl
theorem kept_href : ∀ (i o : Nat), AV.kept (.href i o) = .href i o := by intros; rfl
theorem keptH_href : ∀ (i o : Nat), AV.keptH (.href i o) = AV.erase (.href i o) := by intros; rfl
theorem clr_href : ∀ (i o : Nat), AV.clr (.href i o) = AV.erase (.href i o) := by intros; rfl
theorem kept_eptr : ∀ (cs : List Dv), AV.kept (.eptr cs) = .eptr cs := by intros; rfl
theorem keptH_eptr : ∀ (cs : List Dv), AV.keptH (.eptr cs) = AV.erase (.eptr cs) := by intros; rfl
theorem clr_eptr : ∀ (cs : List Dv), AV.clr (.eptr cs) = AV.erase (.eptr cs) := by intros; rfl
theorem kept_fn : ∀ (f : Nat) (a b : List AV), AV.kept (.fn f a b) = .fn f a b := by intros; rfl
theorem keptH_fn : ∀ (f : Nat) (a b : List AV), AV.keptH (.fn f a b) = AV.erase (.fn f a b) := by intros; rfl
theorem clr_fn : ∀ (f : Nat) (a b : List AV), AV.clr (.fn f a b) = AV.erase (.fn f a b) := by intros; rfl
theorem kept_yld : ∀ (i : Nat), AV.kept (.yld i) = .yld i := by intros; rfl
theorem keptH_yld : ∀ (i : Nat), AV.keptH (.yld i) = AV.erase (.yld i) := by intros; rfl
theorem clr_yld : ∀ (i : Nat), AV.clr (.yld i) = AV.erase (.yld i) := by intros; rfl
theorem kept_tup : ∀ (vs : List AV), AV.kept (.tup vs) = .tup vs := by intros; rfl
theorem keptH_tup : ∀ (vs : List AV), AV.keptH (.tup vs) = AV.erase (.tup vs) := by intros; rfl
theorem clr_tup : ∀ (vs : List AV), AV.clr (.tup vs) = AV.erase (.tup vs) := by intros; rfl
theorem kept_arr : ∀ (vs : List AV), AV.kept (.arr vs) = .arr vs := by intros; rfl
theorem keptH_arr : ∀ (vs : List AV), AV.keptH (.arr vs) = AV.erase (.arr vs) := by intros; rfl
theorem clr_arr : ∀ (vs : List AV), AV.clr (.arr vs) = AV.erase (.arr vs) := by intros; rfl
theorem kept_iface : ∀ (t : Nat) (x : Dv), AV.kept (.iface t x) = .iface t x := by intros; rfl
theorem keptH_iface : ∀ (t : Nat) (x : Dv), AV.keptH (.iface t x) = AV.erase (.iface t x) := by intros; rfl
theorem clr_iface : ∀ (t : Nat) (x : Dv), AV.clr (.iface t x) = AV.erase (.iface t x) := by intros; rfl
theorem kept_undef : AV.kept (.undef) = .undef := by intros; rfl
theorem keptH_undef : AV.keptH (.undef) = AV.erase (.undef) := by intros; rfl
theorem clr_undef : AV.clr (.undef) = AV.erase (.undef) := by intros; rfl
theorem kept_clip0 : AV.kept (.clip []) = .clip [] := rfl
theorem keptH_clip0 : AV.keptH (.clip []) = .clip [] := rfl
theorem clr_clip : ∀ xs, AV.clr (.clip xs) = .d (.slc xs) := by intros; rfl
theorem kept_clip1 : ∀ (x : Dv) (xs : List Dv), AV.kept (.clip (x :: xs)) = .d (.slc (x :: xs)) := by intros; rfl
theorem keptH_clip1 : ∀ (x : Dv) (xs : List Dv), AV.keptH (.clip (x :: xs)) = .d (.slc (x :: xs)) := by intros; rfl
theorem ofV_int : ∀ (k : IntKind) (n : Int), ofV (.int k n) = .d (.int k n) := by intros; rfl
theorem ofV_bool : ∀ (b : Bool), ofV (.bool b) = .d (.bool b) := by intros; rfl
theorem ofV_string : ∀ (s : ByteArray), ofV (.string s) = .d (.str s) := by intros; rfl
theorem ofV_slice : ofV (.slice none 0 0) = .clip [] := rfl
theorem ofV_nilFunc : ofV .nilFunc = .raw .nilFunc := rfl
theorem ofV_nilPtr : ofV (.pointer none) = .raw (.pointer none) := rfl
theorem ofV_nilIface : ofV .nilIface = .raw .nilIface := rfl
theorem guardK_t [N0] : ∀ (C : Cfg) (O : Orc) (E : List Nat) (o : Oper) (σ : St), guardK C O E o σ true = (decode C.P E o.dst (opv σ.tmps) o.op).bind (actK C O σ.mem σ.tmps o.dst) := by intros; rfl
theorem guardK_f [N0] : ∀ (C : Cfg) (O : Orc) (E : List Nat) (o : Oper) (σ : St), guardK C O E o σ false = some (.u, { σ with tmps := putA σ.tmps o.dst (.tup []) }) := by intros; rfl
theorem guardP_t [N0] : ∀ (C : Cfg) (O : Orc) (E : List Nat) (o : Oper) (σ : St), guardP C O E o σ true = (decode C.P E o.dst (opv σ.tmps) o.op).bind (actP C O σ.mem σ.tmps o.dst) := by intros; rfl
theorem guardP_f [N0] : ∀ (C : Cfg) (O : Orc) (E : List Nat) (o : Oper) (σ : St), guardP C O E o σ false = some (.u, { σ with tmps := putA σ.tmps o.dst (.tup []) }) := by intros; rfl
theorem condK_t : ∀ (O : Orc) (f : Nat) (t e : Code) (σ : St), condK O f t e σ (.d (.bool true)) = O.code f t σ := by intros; rfl
theorem condK_f : ∀ (O : Orc) (f : Nat) (t e : Code) (σ : St), condK O f t e σ (.d (.bool false)) = O.code f e σ := by intros; rfl
theorem runK_v [N0] : ∀ (C : Cfg) (O : Orc) (E : List Nat) (ops : Array Oper) (rest : List Nat) (x : AV) (σ : St), runK C O E ops rest (.v x, σ) = runO C O E ops rest σ := by intros; rfl
theorem runK_u [N0] : ∀ (C : Cfg) (O : Orc) (E : List Nat) (ops : Array Oper) (rest : List Nat) (σ : St), runK C O E ops rest (.u, σ) = runO C O E ops rest σ := by intros; rfl
theorem runK_pan [N0] : ∀ (C : Cfg) (O : Orc) (E : List Nat) (ops : Array Oper) (rest : List Nat) (x : AV) (σ : St), runK C O E ops rest (.pan x, σ) = some (.pan x, σ) := by intros; rfl
theorem runPK_v [N0] : ∀ (C : Cfg) (O : Orc) (E : List Nat) (ops : Array Oper) (i : Nat) (rest : List Nat) (x : AV) (σ : St), runPK C O E ops i rest (.v x, σ) = runP C O E ops rest σ := by intros; rfl
theorem runPK_u [N0] : ∀ (C : Cfg) (O : Orc) (E : List Nat) (ops : Array Oper) (i : Nat) (rest : List Nat) (σ : St), runPK C O E ops i rest (.u, σ) = runP C O E ops rest σ := by intros; rfl
theorem seqK_nor : ∀ (O : Orc) (f : Nat) (c : Code) (σ : St), seqK O f c (.nor, σ) = O.code f c σ := by intros; rfl
theorem blockK_nor : ∀ (i : Nat) (σ : St), blockK i (.nor, σ) = some (.nor, σ) := by intros; rfl
theorem seqK_ret : ∀ (O : Orc) (f : Nat) (c : Code) (σ : St), seqK O f c (.ret, σ) = some (.ret, σ) := by intros; rfl
theorem blockK_ret : ∀ (i : Nat) (σ : St), blockK i (.ret, σ) = some (.ret, σ) := by intros; rfl
theorem seqK_exit : ∀ (O : Orc) (f : Nat) (c : Code) (j : Nat) (σ : St), seqK O f c (.exit j, σ) = some (.exit j, σ) := by intros; rfl
theorem blockK_exit : ∀ (i : Nat) (j : Nat) (σ : St), blockK i (.exit j, σ) = if j = i then some (.nor, σ) else some (.exit j, σ) := by intros; rfl
theorem seqK_pan : ∀ (O : Orc) (f : Nat) (c : Code) (x : AV) (σ : St), seqK O f c (.pan x, σ) = some (.pan x, σ) := by intros; rfl
theorem blockK_pan : ∀ (i : Nat) (x : AV) (σ : St), blockK i (.pan x, σ) = some (.pan x, σ) := by intros; rfl
theorem stepE_v : ∀ (tm : List AV) (dst : Option Nat) (v : AV) (m : Mem), stepE tm dst (.v v, m) = some (.u, { tmps := putA tm dst v, mem := m }) := by intros; rfl
theorem stepE_u : ∀ (tm : List AV) (dst : Option Nat) (m : Mem), stepE tm dst (.u, m) = some (.u, { tmps := putA tm dst .undef, mem := m }) := by intros; rfl
theorem stepE_pan : ∀ (tm : List AV) (dst : Option Nat) (x : AV) (m : Mem), stepE tm dst (.pan x, m) = some (.pan x, { tmps := tm, mem := m }) := by intros; rfl
theorem putA_s : ∀ (tm : List AV) (d : Nat) (v : AV), putA tm (some d) v = tm.set d v := by intros; rfl
theorem putA_n : ∀ (tm : List AV) (v : AV), putA tm none v = tm := by intros; rfl
theorem mact_val [N0] : ∀ (C : Cfg) (O : Orc) (m : Mem) (v : AV), mact C O m (.val v) = some (.v v, m) := by intros; rfl
def ldLK (m : Mem) (off n : Nat) (ag : Bool) : Option (List AV) → Option (OR × Mem)
  | some cs => (ldc cs off n ag).map fun v => (.v v, m)
  | none => none
def ldHK (m : Mem) (i off n : Nat) (ag : Bool) : HO → Option (OR × Mem)
  | .var ver cs => (ldh i ver cs off n ag).map fun v => (.v v, m)
  | _ => none
def stLK (m : Mem) (p off : Nat) (cs : List AV) : Option (List AV) → Option (OR × Mem)
  | some old => if off + cs.length ≤ old.length then some (.u, { m with locs := m.locs.set p (some (splice old off (cs.map AV.kept))) }) else none
  | none => none
theorem mact_ldL [N0] : ∀ (C : Cfg) (O : Orc) (m : Mem) (p off n : Nat) (ag : Bool), mact C O m (.ldL p off n ag) = (m.locs[p]?).bind (ldLK m off n ag) := by intro C O m p off n ag; simp only [mact]; cases m.locs[p]? with | none => rfl | some x => cases x <;> rfl
theorem ldLK_s : ∀ (m : Mem) (off n : Nat) (ag : Bool) (cs : List AV), ldLK m off n ag (some cs) = (ldc cs off n ag).map fun v => (.v v, m) := by intros; rfl
theorem mact_ldH [N0] : ∀ (C : Cfg) (O : Orc) (m : Mem) (i off n : Nat) (ag : Bool), mact C O m (.ldH i off n ag) = (m.heap[i]?).bind (ldHK m i off n ag) := by intro C O m i off n ag; simp only [mact]; cases m.heap[i]? with | none => rfl | some x => cases x <;> rfl
theorem ldHK_s : ∀ (m : Mem) (i off n : Nat) (ag : Bool) (ver : Nat) (cs : List AV), ldHK m i off n ag (.var ver cs) = (ldh i ver cs off n ag).map fun v => (.v v, m) := by intros; rfl
theorem mact_stL [N0] : ∀ (C : Cfg) (O : Orc) (m : Mem) (p off : Nat) (cs : List AV), mact C O m (.stL p off cs) = (m.locs[p]?).bind (stLK m p off cs) := by intro C O m p off cs; simp only [mact]; cases m.locs[p]? with | none => rfl | some x => cases x <;> rfl
theorem stLK_s : ∀ (m : Mem) (p off : Nat) (cs old : List AV), stLK m p off cs (some old) = if off + cs.length ≤ old.length then some (.u, { m with locs := m.locs.set p (some (splice old off (cs.map AV.kept))) }) else none := by intros; rfl
theorem mact_stH [N0] : ∀ (C : Cfg) (O : Orc) (m : Mem) (p off : Nat) (cs : List AV), mact C O m (.stH p off cs) = mSt p off cs m := by intros; rfl
theorem mact_alL [N0] : ∀ (C : Cfg) (O : Orc) (m : Mem) (p : Nat) (cs : List AV), mact C O m (.alL p cs) = if p < m.locs.length then some (.v (.lref p 0), { m with locs := m.locs.set p (some (cs.map AV.kept)) }) else none := by intros; rfl
theorem mact_alH [N0] : ∀ (C : Cfg) (O : Orc) (m : Mem) (cs : List AV), mact C O m (.alH cs) = if okL cs then some (.v (.href m.heap.length 0), { m with heap := m.heap ++ [.var 0 (cs.map AV.keptH)] }) else none := by intros; rfl
theorem mact_app [N0] : ∀ (C : Cfg) (O : Orc) (m : Mem) (s : AV) (ys : List Dv) (sz : Nat), mact C O m (.app s ys sz) = mApp s ys sz m := by intros; rfl
theorem mact_call [N0] : ∀ (C : Cfg) (O : Orc) (m : Mem) (f : Nat) (args : List AV), mact C O m (.call f args) = mCall C O f args m := by intros; rfl
theorem mact_yld [N0] : ∀ (C : Cfg) (O : Orc) (m : Mem) (i : Nat) (args : List AV), mact C O m (.yld i args) = mYld O i args m := by intros; rfl
theorem mact_pan [N0] : ∀ (C : Cfg) (O : Orc) (m : Mem) (x : AV), mact C O m (.pan x) = some (.pan x, m) := by intros; rfl
theorem pureRes_ret [N0] : ∀ (m : Mem) (v : AV) (h : List HO), pureRes m (.ret v, h) = if v.pure then some (.v v.keepE, m) else none := by intros; rfl
theorem pureRes_pan [N0] : ∀ (m : Mem) (v : AV) (h : List HO), pureRes m (.pan v, h) = if v.pure then some (.pan v.erase, m) else none := by intros; rfl
theorem heapRes_ret [N0] : ∀ (m : Mem) (v : AV) (h : List HO), heapRes m (.ret v, h) = if v.okA then some (.v v.keepE, { m with heap := h }) else none := by intros; rfl
theorem heapRes_pan [N0] : ∀ (m : Mem) (v : AV) (h : List HO), heapRes m (.pan v, h) = if v.pure then some (.pan v.erase, { m with heap := h }) else none := by intros; rfl
theorem leave_nor [N0] : ∀ (P : Program) (fn : Func) (σ : St), leave P fn (.nor, σ) = (ressA P σ fn.results.toList).map fun vs => (.ret (oneOf vs), σ.mem.heap) := by intros; rfl
theorem leave_ret [N0] : ∀ (P : Program) (fn : Func) (σ : St), leave P fn (.ret, σ) = (ressA P σ fn.results.toList).map fun vs => (.ret (oneOf vs), σ.mem.heap) := by intros; rfl
theorem leave_pan [N0] : ∀ (P : Program) (fn : Func) (x : AV) (σ : St), leave P fn (.pan x, σ) = if x.pure then some (.pan x.erase, σ.mem.heap) else none := by intros; rfl
theorem clear_eq : ∀ (ps : List Nat) (ex : Ex) (σ : St), clear ps (ex, σ) = (ex, { tmps := clrT ps σ.tmps, mem := { σ.mem with locs := clrM ps σ.mem.locs } }) := by intros; rfl
def wantV (want : Bool) : AV → Option Bool
  | .d (.bool b) => some (b == want)
  | .tup [] => some false
  | _ => none
theorem clearD_nor : ∀ (ps : List Nat) (σ : St), clearD ps (.nor, σ) = (.nor, { tmps := clrT ps σ.tmps, mem := { σ.mem with locs := clrM ps σ.mem.locs } }) := by intros; rfl
theorem clearD_pan : ∀ (ps : List Nat) (x : AV) (σ : St), clearD ps (.pan x, σ) = (.pan x, { tmps := clrT ps [], mem := { σ.mem with locs := clrM ps σ.mem.locs } }) := by intros; rfl
theorem wantA_n : ∀ (ops : Array Oper) (tm : List AV) (d : Option Nat) (op : Op) (t : Nat) (pos : String) (af : Array Edge), wantA ops tm { dst := d, op := op, type := t, pos := pos, after := af, guard := none } = some true := by intros; rfl
def tmAt (tm : List AV) (d : Nat) : AV := tm.getD d .undef
theorem tmAt_eq : ∀ (tm : List AV) (d : Nat), tmAt tm d = tm.getD d .undef := by intros; rfl
theorem wantA_s : ∀ (ops : Array Oper) (tm : List AV) (d : Option Nat) (op : Op) (t : Nat) (pos : String) (af : Array Edge) (j : Nat) (w : Bool), wantA ops tm { dst := d, op := op, type := t, pos := pos, after := af, guard := some (j, w) } = (((ops[j]?).bind (·.dst)).map (tmAt tm)).bind (wantV w) := by intro ops tm d op t pos af j w; simp only [wantA]; cases (ops[j]?).bind (·.dst) with | none => rfl | some x => rfl
theorem wantV_s : ∀ (w b : Bool), wantV w (.d (.bool b)) = some (b == w) := by intros; rfl
theorem resA_t [N0] : ∀ (P : Program) (σ : St) (t : Nat), resA P σ (.tmp t) = if (σ.tmps.getD t .undef).okA then some ((σ.tmps.getD t .undef).retE newV σ.mem.toks) else none := by intros; rfl
theorem beq_tf : (true == false) = false := rfl
theorem beq_ft : (false == true) = false := rfl
theorem opv_tmp : ∀ (tm : List AV) (t : Nat), opv tm (.tmp t) = tm.getD t .undef := by intros; rfl
theorem opv_const : ∀ (tm : List AV) (V : Value), opv tm (.const V) = ofV V := by intros; rfl
theorem opv_func : ∀ (tm : List AV) (f : Nat), opv tm (.func f) = .fn f [] [] := by intros; rfl
theorem wantV_0 : ∀ w : Bool, wantV w (.tup []) = some false := by intros; rfl
def rangeK (O : Orc) (f : Nat) (ps : Array Tmp) (asg body : Code) (σ : St) : AV → Option (Ex × St)
  | .fn h first caps =>
    if okL first && okL caps && noRange asg && noRange body then
      (O.call h (eraseL first ++ (.yld σ.mem.heap.length :: eraseL caps)) (σ.mem.heap ++ [.loop .ready none { fn := f, tmps := σ.tmps.map AV.clr, params := ps.toList, assign := asg, body := body }])).bind (rangeEnd O f σ)
    else none
  | _ => none
theorem ev_rangeK [N0] {C : Cfg} [ExtC C] (f : Nat) (g : Operand) (ps : Array Tmp) (asg body : Code) (σ : St) : (lim C).code f (.rangeFunc g ps asg body) σ = rangeK (lim C) f ps asg body σ (opv σ.tmps g) := by
  rw [ev_range]
  unfold rangeA rangeK
  rfl
theorem rangeK_fn : ∀ (O : Orc) (f : Nat) (ps : Array Tmp) (asg body : Code) (σ : St) (h : Nat) (first caps : List AV), rangeK O f ps asg body σ (.fn h first caps) = if okL first && okL caps && noRange asg && noRange body then
      (O.call h (eraseL first ++ (.yld σ.mem.heap.length :: eraseL caps)) (σ.mem.heap ++ [.loop .ready none { fn := f, tmps := σ.tmps.map AV.clr, params := ps.toList, assign := asg, body := body }])).bind (rangeEnd O f σ)
    else none := by intros; rfl
def rendK (O : Orc) (f : Nat) (σ : St) (hp : List HO) (i : Nat) : HO → Option (Ex × St)
  | .loop .ready none _ => some (.nor, { σ with mem := { σ.mem with heap := hp.set i .dead } })
  | .loop .done none _ => some (.nor, { σ with mem := { σ.mem with heap := hp.set i .dead } })
  | .loop .ready (some c) _ => O.code f c { σ with mem := { σ.mem with heap := hp.set i .dead } }
  | .loop .done (some c) _ => O.code f c { σ with mem := { σ.mem with heap := hp.set i .dead } }
  | _ => none
theorem rangeEnd_ret : ∀ (O : Orc) (f : Nat) (σ : St) (v : AV) (hp : List HO), rangeEnd O f σ (.ret v, hp) = (hp[σ.mem.heap.length]?).bind (rendK O f σ hp σ.mem.heap.length) := by
  intro O f σ v hp
  simp only [rangeEnd]
  cases hp[σ.mem.heap.length]? with
  | none => rfl
  | some o =>
    cases o with
    | loop st pend L => cases st <;> cases pend <;> rfl
    | _ => rfl
theorem rangeEnd_pan : ∀ (O : Orc) (f : Nat) (σ : St) (x : AV) (hp : List HO), rangeEnd O f σ (.pan x, hp) = if x.pure then some (.pan x.erase, { σ with mem := { σ.mem with heap := hp } }) else none := by intros; rfl
def yK (O : Orc) (i : Nat) (args : List AV) (m : Mem) : HO → Option (OR × Mem)
  | .loop .ready _ L => if okL args ∧ args.length = L.params.length then (O.code L.fn L.assign (yFrame L args m.heap)).bind (yBody O i m L) else none
  | _ => none
theorem mYld_K : ∀ (O : Orc) (i : Nat) (args : List AV) (m : Mem), mYld O i args m = (m.heap[i]?).bind (yK O i args m) := by
  intro O i args m
  simp only [mYld]
  cases m.heap[i]? with
  | none => rfl
  | some o =>
    cases o with
    | loop st pend L => cases st <;> rfl
    | _ => rfl
theorem yK_s : ∀ (O : Orc) (i : Nat) (args : List AV) (m : Mem) (p : Option Code) (L : LoopA), yK O i args m (.loop .ready p L) = if okL args ∧ args.length = L.params.length then (O.code L.fn L.assign (yFrame L args m.heap)).bind (yBody O i m L) else none := by intros; rfl
def yB2 (O : Orc) (i : Nat) (m : Mem) (L : LoopA) (σ : St) : HO → Option (OR × Mem)
  | .loop .ready pend L' => (O.code L.fn L.body { σ with mem := { σ.mem with heap := σ.mem.heap.set i (.loop .busy pend L') } }).bind (yEnd i m)
  | _ => none
theorem yBody_nor : ∀ (O : Orc) (i : Nat) (m : Mem) (L : LoopA) (σ : St), yBody O i m L (.nor, σ) = (σ.mem.heap[i]?).bind (yB2 O i m L σ) := by
  intro O i m L σ
  simp only [yBody]
  cases σ.mem.heap[i]? with
  | none => rfl
  | some o =>
    cases o with
    | loop st pend L => cases st <;> rfl
    | _ => rfl
theorem yB2_s : ∀ (O : Orc) (i : Nat) (m : Mem) (L : LoopA) (σ : St) (p : Option Code) (L' : LoopA), yB2 O i m L σ (.loop .ready p L') = (O.code L.fn L.body { σ with mem := { σ.mem with heap := σ.mem.heap.set i (.loop .busy p L') } }).bind (yEnd i m) := by intros; rfl
def yE (i : Nat) (m : Mem) (h : List HO) : Ex → HO → Option (OR × Mem)
  | .nor, .loop .busy _ L => some (.v (.d (.bool true)), { m with heap := h.set i (.loop .ready none L) })
  | .ret, .loop .busy _ L => some (.v (.d (.bool false)), { m with heap := h.set i (.loop .done (some .ret) L) })
  | .exit id, .loop .busy _ L => some (.v (.d (.bool false)), { m with heap := h.set i (.loop .done (some (.exit id)) L) })
  | _, _ => none
theorem yEnd_K : ∀ (i : Nat) (m : Mem) (ex : Ex) (σ : St), yEnd i m (ex, σ) = (σ.mem.heap[i]?).bind (yE i m σ.mem.heap ex) := by
  intro i m ex σ
  simp only [yEnd]
  cases σ.mem.heap[i]? with
  | none => rfl
  | some o =>
    cases o with
    | loop st pend L => cases st <;> cases ex <;> rfl
    | _ => cases ex <;> rfl
theorem yE_nor : ∀ (i : Nat) (m : Mem) (h : List HO) (p : Option Code) (L : LoopA), yE i m h .nor (.loop .busy p L) = some (.v (.d (.bool true)), { m with heap := h.set i (.loop .ready none L) }) := by intros; rfl
theorem yE_ret : ∀ (i : Nat) (m : Mem) (h : List HO) (p : Option Code) (L : LoopA), yE i m h .ret (.loop .busy p L) = some (.v (.d (.bool false)), { m with heap := h.set i (.loop .done (some .ret) L) }) := by intros; rfl
theorem yE_exit : ∀ (i : Nat) (m : Mem) (h : List HO) (p : Option Code) (L : LoopA) (id : Nat), yE i m h (.exit id) (.loop .busy p L) = some (.v (.d (.bool false)), { m with heap := h.set i (.loop .done (some (.exit id)) L) }) := by intros; rfl
theorem rendK_r : ∀ (O : Orc) (f : Nat) (σ : St) (hp : List HO) (i : Nat) (L : LoopA), rendK O f σ hp i (.loop .ready none L) = some (.nor, { σ with mem := { σ.mem with heap := hp.set i .dead } }) := by intros; rfl
theorem rendK_d : ∀ (O : Orc) (f : Nat) (σ : St) (hp : List HO) (i : Nat) (L : LoopA) (c : Code), rendK O f σ hp i (.loop .done (some c) L) = O.code f c { σ with mem := { σ.mem with heap := hp.set i .dead } } := by intros; rfl
theorem oneOf_1 : ∀ v : AV, oneOf [v] = v := by intros; rfl
theorem oneOf_0 : oneOf [] = .tup [] := rfl
theorem oneOf_2 : ∀ (a b : AV) (l : List AV), oneOf (a :: b :: l) = .tup (a :: b :: l) := by intros; rfl
end Go.Proofs.Ytmmhpmfgcenngaa
/-! A frame's slots and variables, told by those that are set. -/
namespace Go.Proofs.Ytmmhpmfgcenngaa

def lookA : List (Nat × AV) → Nat → AV
  | [], _ => .undef
  | (k, v) :: r, t => if t = k then v else lookA r t
def lookL : List (Nat × List AV) → Nat → Option (List AV)
  | [], _ => none
  | (k, v) :: r, t => if t = k then some v else lookL r t
def putL {α : Type} : List (Nat × α) → Nat → α → List (Nat × α)
  | [], d, v => [(d, v)]
  | (k, x) :: r, d, v => if d < k then (d, v) :: (k, x) :: r else if d = k then (d, v) :: r else (k, x) :: putL r d v
def isIn : List Nat → Nat → Bool
  | [], _ => false
  | p :: ps, k => if k = p then true else isIn ps k
def dropL {α : Type} : List (Nat × α) → List Nat → List (Nat × α)
  | [], _ => []
  | (k, x) :: r, ps => if isIn ps k = true then dropL r ps else (k, x) :: dropL r ps
def mapL (f : AV → AV) : List (Nat × AV) → List (Nat × AV)
  | [] => []
  | (k, x) :: r => (k, f x) :: mapL f r
def tl (n : Nat) (ts : List (Nat × AV)) : List AV := (List.range n).map (lookA ts)
def ll (n : Nat) (ls : List (Nat × List AV)) : List (Option (List AV)) := (List.range n).map (lookL ls)
def unum : Nat → List AV → List (Nat × AV)
  | _, [] => []
  | i, x :: xs => (i, x) :: unum (i + 1) xs

theorem lookA_put : ∀ (ts : List (Nat × AV)) (d : Nat) (v : AV) (t : Nat), lookA (putL ts d v) t = if t = d then v else lookA ts t
  | [], d, v, t => rfl
  | (k, x) :: r, d, v, t => by
    simp only [putL]
    split
    · rfl
    · split
      · rename_i h; subst h; simp only [lookA]; split <;> rfl
      · rename_i h1 h2
        simp only [lookA, lookA_put r]
        by_cases h : t = k
        · subst h
          simp only [if_true]
          rw [if_neg (fun e => h2 e.symm)]
        · simp only [if_neg h]
theorem lookL_put : ∀ (ts : List (Nat × List AV)) (d : Nat) (v : List AV) (t : Nat), lookL (putL ts d v) t = if t = d then some v else lookL ts t
  | [], d, v, t => rfl
  | (k, x) :: r, d, v, t => by
    simp only [putL]
    split
    · rfl
    · split
      · rename_i h; subst h; simp only [lookL]; split <;> rfl
      · rename_i h1 h2
        simp only [lookL, lookL_put r]
        by_cases h : t = k
        · subst h
          simp only [if_true]
          rw [if_neg (fun e => h2 e.symm)]
        · simp only [if_neg h]
theorem isIn_iff : ∀ (ps : List Nat) (k : Nat), isIn ps k = true ↔ k ∈ ps
  | [], k => by simp [isIn]
  | p :: ps, k => by
    simp only [isIn, List.mem_cons]
    by_cases h : k = p
    · simp [h]
    · simp [h, isIn_iff ps]
theorem lookA_drop : ∀ (ts : List (Nat × AV)) (ps : List Nat) (t : Nat), lookA (dropL ts ps) t = if t ∈ ps then .undef else lookA ts t
  | [], ps, t => by simp [dropL, lookA]
  | (k, x) :: r, ps, t => by
    simp only [dropL]
    split
    · rename_i h
      rw [isIn_iff] at h
      rw [lookA_drop r ps t]
      by_cases ht : t ∈ ps
      · simp only [if_pos ht]
      · simp only [if_neg ht, lookA]
        rw [if_neg (fun (e : t = k) => ht (by rw [e]; exact h))]
    · rename_i h
      rw [isIn_iff] at h
      simp only [lookA, lookA_drop r ps t]
      by_cases ht : t = k
      · subst ht; simp only [if_true, if_neg h]
      · simp only [if_neg ht]
theorem lookL_drop : ∀ (ts : List (Nat × List AV)) (ps : List Nat) (t : Nat), lookL (dropL ts ps) t = if t ∈ ps then none else lookL ts t
  | [], ps, t => by simp [dropL, lookL]
  | (k, x) :: r, ps, t => by
    simp only [dropL]
    split
    · rename_i h
      rw [isIn_iff] at h
      rw [lookL_drop r ps t]
      by_cases ht : t ∈ ps
      · simp only [if_pos ht]
      · simp only [if_neg ht, lookL]
        rw [if_neg (fun (e : t = k) => ht (by rw [e]; exact h))]
    · rename_i h
      rw [isIn_iff] at h
      simp only [lookL, lookL_drop r ps t]
      by_cases ht : t = k
      · subst ht; simp only [if_true, if_neg h]
      · simp only [if_neg ht]
theorem lookA_map {f : AV → AV} (hf : f .undef = .undef) : ∀ (ts : List (Nat × AV)) (t : Nat), lookA (mapL f ts) t = f (lookA ts t)
  | [], t => by simp [mapL, lookA, hf]
  | (k, x) :: r, t => by
    simp only [mapL, lookA]
    split
    · rfl
    · exact lookA_map hf r t
theorem tl_length (n : Nat) (ts : List (Nat × AV)) : (tl n ts).length = n := by simp [tl]
theorem ll_length (n : Nat) (ls : List (Nat × List AV)) : (ll n ls).length = n := by simp [ll]
theorem tl_get (n : Nat) (ts : List (Nat × AV)) (t : Nat) : (tl n ts)[t]? = if t < n then some (lookA ts t) else none := by
  simp only [tl, List.getElem?_map]
  by_cases h : t < n
  · simp [h]
  · simp [h]
theorem ll_get (n : Nat) (ls : List (Nat × List AV)) (t : Nat) : (ll n ls)[t]? = if t < n then some (lookL ls t) else none := by
  simp only [ll, List.getElem?_map]
  by_cases h : t < n
  · simp [h]
  · simp [h]
theorem tl_getD (n : Nat) (ts : List (Nat × AV)) (t : Nat) : (tl n ts).getD t .undef = if t < n then lookA ts t else .undef := by
  rw [List.getD, tl_get]
  split <;> rfl
theorem tl_set (n : Nat) (ts : List (Nat × AV)) (d : Nat) (v : AV) : (tl n ts).set d v = tl n (putL ts d v) := by
  refine List.ext_getElem? fun t => ?_
  rw [List.getElem?_set, tl_get, tl_get, tl_length]
  by_cases h : t < n
  · simp only [if_pos h, lookA_put]
    by_cases ht : d = t
    · subst ht; simp [h]
    · simp [ht, Ne.symm ht]
  · simp only [if_neg h]
    by_cases ht : d = t
    · subst ht; simp [h]
    · simp [ht]
theorem ll_set (n : Nat) (ls : List (Nat × List AV)) (d : Nat) (v : List AV) : (ll n ls).set d (some v) = ll n (putL ls d v) := by
  refine List.ext_getElem? fun t => ?_
  rw [List.getElem?_set, ll_get, ll_get, ll_length]
  by_cases h : t < n
  · simp only [if_pos h, lookL_put]
    by_cases ht : d = t
    · subst ht; simp [h]
    · simp [ht, Ne.symm ht]
  · simp only [if_neg h]
    by_cases ht : d = t
    · subst ht; simp [h]
    · simp [ht]
theorem dropL_nil {α : Type} : ∀ ts : List (Nat × α), dropL ts [] = ts
  | [] => rfl
  | (k, x) :: r => by simp [dropL, isIn, dropL_nil r]
theorem tl_clr : ∀ (ps : List Nat) (n : Nat) (ts : List (Nat × AV)), clrT ps (tl n ts) = tl n (dropL ts ps)
  | [], n, ts => by rw [clrT, dropL_nil]
  | p :: ps, n, ts => by
    rw [clrT, tl_set, tl_clr ps]
    refine List.ext_getElem? fun t => ?_
    rw [tl_get, tl_get, lookA_drop, lookA_drop, lookA_put]
    by_cases h : t < n
    · simp only [if_pos h, List.mem_cons]
      by_cases h1 : t = p
      · simp [h1]
      · simp [h1]
    · simp only [if_neg h]
theorem clrM_get' : ∀ (ps : List Nat) (l : List (Option (List AV))) (t : Nat), (clrM ps l)[t]? = if t ∈ ps then (l[t]?).map (fun _ => none) else l[t]?
  | [], l, t => by simp [clrM]
  | p :: ps, l, t => by
    rw [clrM, clrM_get' ps, List.getElem?_set]
    by_cases h1 : t ∈ ps
    · by_cases h2 : p = t
      · subst h2
        by_cases h3 : p < l.length
        · simp [h1, h3]
        · simp [h1, h3]
      · simp [h1, h2]
    · by_cases h2 : p = t
      · subst h2
        by_cases h3 : p < l.length
        · simp [h1, h3]
        · simp [h1, h3]
      · simp [h1, h2, Ne.symm h2]
theorem ll_clr (ps : List Nat) (n : Nat) (ls : List (Nat × List AV)) : clrM ps (ll n ls) = ll n (dropL ls ps) := by
  refine List.ext_getElem? fun t => ?_
  rw [clrM_get', ll_get, ll_get, lookL_drop]
  by_cases h : t < n
  · by_cases h1 : t ∈ ps <;> simp [h, h1]
  · by_cases h1 : t ∈ ps <;> simp [h, h1]
theorem tl_map {f : AV → AV} (hf : f .undef = .undef) (n : Nat) (ts : List (Nat × AV)) : (tl n ts).map f = tl n (mapL f ts) := by
  refine List.ext_getElem? fun t => ?_
  rw [List.getElem?_map, tl_get, tl_get, lookA_map hf]
  split <;> rfl
theorem tl_inv (ps : List Nat) (n : Nat) (ts : List (Nat × AV)) : (tl n ts).map (AV.inv ps) = tl n (mapL (AV.inv ps) ts) := tl_map rfl n ts
theorem tl_clrA (n : Nat) (ts : List (Nat × AV)) : (tl n ts).map AV.clr = tl n (mapL AV.clr ts) := tl_map rfl n ts
theorem tl_none (n : Nat) (ts : List (Nat × AV)) : (tl n ts).map (fun _ => (none : Option (List AV))) = ll n [] := by
  refine List.ext_getElem? fun t => ?_
  rw [List.getElem?_map, tl_get, ll_get]
  by_cases h : t < n <;> simp [h, lookL]
theorem ll_rep (n : Nat) : List.replicate n (none : Option (List AV)) = ll n [] := by
  refine List.ext_getElem? fun t => ?_
  rw [ll_get, List.getElem?_replicate]
  rfl
theorem lookA_unum : ∀ (xs : List AV) (i t : Nat), lookA (unum i xs) t = if t < i then .undef else (xs[t - i]?).getD .undef
  | [], i, t => by simp [unum, lookA]
  | x :: xs, i, t => by
    simp only [unum, lookA]
    by_cases h : t = i
    · subst h; simp
    · rw [if_neg h, lookA_unum xs]
      by_cases h1 : t < i
      · simp [h1, show t < i + 1 by omega]
      · rw [if_neg (show ¬ t < i + 1 by omega), if_neg h1]
        have : t - i = (t - (i + 1)) + 1 := by omega
        rw [this, List.getElem?_cons_succ]
theorem tl_args (args : List AV) (n : Nat) (h : args.length ≤ n) : args ++ List.replicate (n - args.length) .undef = tl n (unum 0 args) := by
  refine List.ext_getElem? fun t => ?_
  rw [tl_get, lookA_unum]
  by_cases ht : t < args.length
  · rw [List.getElem?_append_left ht, if_pos (by omega)]
    simp [ht]
  · rw [List.getElem?_append_right (by omega), List.getElem?_replicate]
    by_cases hn : t < n
    · rw [if_pos (by omega), if_pos hn]
      simp [List.getElem?_eq_none (by omega : args.length ≤ t)]
    · rw [if_neg (by omega), if_neg hn]
/-- A state: so many slots, of which these are set; these variables; shared ones; tokens. -/
def mk (n : Nat) (ts : List (Nat × AV)) (ls : List (Nat × List AV)) (heap : List HO) (toks : List (Option Nat)) : St :=
  { tmps := tl n ts, mem := { locs := ll n ls, heap := heap, toks := toks } }
theorem entry_mk (fn : Func) (args : List AV) (heap : List HO) {n : Nat} (hn : fn.ntmps = n) (h : Nat.ble args.length n = true) : entry fn args heap = mk n (unum 0 args) [] heap [] := by
  unfold entry mk
  rw [hn, tl_args args n (Nat.le_of_ble_eq_true h), ll_rep]
/-- A function's call, its body entered. -/
theorem ev_fn [N0] {C : Cfg} [hx : ExtC C] (f : Nat) (fn : Func) (c : Code) (args : List AV) (heap : List HO) {n : Nat} (h0 : C.ext f = none) (h1 : C.P.funcs[f]? = some fn) (h2 : fn.body = some c) (hn : fn.ntmps = n) (h : Nat.ble args.length n = true) :
    (lim C).call f args heap = ((lim C).code f c (mk n (unum 0 args) [] heap [])).bind (leave C.P fn) := by
  rw [ev_call f fn c args heap h0 h1 h2, entry_mk fn args heap hn h]
theorem loop_at {O : Orc} {f : Nat} {b b' : Code} {σ σ' : St} {r : Option (Ex × St)} (h : O.code f (.loop b) σ = r) (hb : b' = b) (hs : σ' = σ) : O.code f (.loop b') σ' = r := by
  rw [hb, hs]; exact h
/-! ### drawn regions that write -/
def fpD (C : Cfg) : Option MA → FP
  | some a => a.fp C
  | none => {}
def fpG (C : Cfg) (E : List Nat) (o : Oper) (σ : St) : Option Bool → FP
  | some true => fpD C (decode C.P E o.dst (opv σ.tmps) o.op)
  | _ => {}
theorem fpO_eq : ∀ (C : Cfg) (E : List Nat) (ops : Array Oper) (o : Oper) (σ : St), fpO C E ops o σ = fpG C E o σ (wantA ops σ.tmps o) := by
  intro C E ops o σ
  unfold fpO
  cases wantA ops σ.tmps o with
  | none => rfl
  | some b =>
    cases b with
    | false => rfl
    | true =>
      simp only [fpG]
      cases decode C.P E o.dst (opv σ.tmps) o.op <;> rfl
theorem fpG_t : ∀ (C : Cfg) (E : List Nat) (o : Oper) (σ : St), fpG C E o σ (some true) = fpD C (decode C.P E o.dst (opv σ.tmps) o.op) := by intros; rfl
theorem fpG_f : ∀ (C : Cfg) (E : List Nat) (o : Oper) (σ : St), fpG C E o σ (some false) = {} := by intros; rfl
theorem fpD_s : ∀ (C : Cfg) (a : MA), fpD C (some a) = a.fp C := by intros; rfl
def okD (ops : Array Oper) (i : Nat) (fp : FP) : List (Nat × FP) → Bool
  | [] => true
  | (k, g) :: r => (fp.apart g || linked ops i k) && okD ops i fp r
def okW (ops : Array Oper) (i : Nat) : List (Nat × FP) → Bool
  | [] => true
  | (k, g) :: r => (!g.wh || linked ops i k) && okW ops i r
theorem okD_eq : ∀ (ops : Array Oper) (i : Nat) (fp : FP) (acc : List (Nat × FP)), (acc.all fun x => fp.apart x.2 || linked ops i x.1) = okD ops i fp acc
  | ops, i, fp, [] => rfl
  | ops, i, fp, x :: r => by simp only [List.all_cons, okD, okD_eq ops i fp r]
theorem okW_eq : ∀ (ops : Array Oper) (i : Nat) (acc : List (Nat × FP)), (acc.all fun x => !x.2.wh || linked ops i x.1) = okW ops i acc
  | ops, i, [] => rfl
  | ops, i, x :: r => by simp only [List.all_cons, okW, okW_eq ops i r]
def addD (i : Nat) (fp : FP) (acc : List (Nat × FP)) : List (Nat × FP) := if fp.none then acc else (i, fp) :: acc
def runDK [N0] (C : Cfg) (O : Orc) (E : List Nat) (ops : Array Oper) (i : Nat) (rest : List Nat) (acc : List (Nat × FP)) (fp : FP) : OR × St → Option (Ex × St)
  | (.pan x, σ') => if (rest.all fun j => linked ops j i) && okW ops i acc then some (.pan x, σ') else none
  | (.v _, σ') => runD C O E ops rest (addD i fp acc) σ'
  | (.u, σ') => runD C O E ops rest (addD i fp acc) σ'
def runDO [N0] (C : Cfg) (O : Orc) (E : List Nat) (ops : Array Oper) (i : Nat) (rest : List Nat) (acc : List (Nat × FP)) (σ : St) (o : Oper) : Option (Ex × St) :=
  if okD ops i (fpO C E ops o σ) acc then ((wantA ops σ.tmps o).bind (guardK C O E o σ)).bind (runDK C O E ops i rest acc (fpO C E ops o σ)) else none
theorem runD_nil [N0] : ∀ (C : Cfg) (O : Orc) (E : List Nat) (ops : Array Oper) (acc : List (Nat × FP)) (σ : St), runD C O E ops [] acc σ = some (.nor, σ) := by intros; rfl
theorem runD_cons [N0] : ∀ (C : Cfg) (O : Orc) (E : List Nat) (ops : Array Oper) (i : Nat) (rest : List Nat) (acc : List (Nat × FP)) (σ : St), runD C O E ops (i :: rest) acc σ = (ops[i]?).bind (runDO C O E ops i rest acc σ) := by
  intro C O E ops i rest acc σ
  simp only [runD]
  cases ops[i]? with
  | none => rfl
  | some o =>
    simp only [runDO, Option.bind_some, okD_eq, okW_eq]
    split
    · rw [opK_eq, opK]
      congr 1
      funext x
      obtain ⟨r, s⟩ := x
      cases r <;> rfl
    · rfl
theorem runDK_v [N0] : ∀ (C : Cfg) (O : Orc) (E : List Nat) (ops : Array Oper) (i : Nat) (rest : List Nat) (acc : List (Nat × FP)) (fp : FP) (x : AV) (σ : St), runDK C O E ops i rest acc fp (.v x, σ) = runD C O E ops rest (addD i fp acc) σ := by intros; rfl
theorem runDK_u [N0] : ∀ (C : Cfg) (O : Orc) (E : List Nat) (ops : Array Oper) (i : Nat) (rest : List Nat) (acc : List (Nat × FP)) (fp : FP) (σ : St), runDK C O E ops i rest acc fp (.u, σ) = runD C O E ops rest (addD i fp acc) σ := by intros; rfl
def allLk (ops : Array Oper) (i : Nat) : List Nat → Bool
  | [] => true
  | j :: r => linked ops j i && allLk ops i r
theorem allLk_eq : ∀ (ops : Array Oper) (i : Nat) (r : List Nat), (r.all fun j => linked ops j i) = allLk ops i r
  | ops, i, [] => rfl
  | ops, i, x :: r => by simp only [List.all_cons, allLk, allLk_eq ops i r]
theorem runDK_pan [N0] : ∀ (C : Cfg) (O : Orc) (E : List Nat) (ops : Array Oper) (i : Nat) (rest : List Nat) (acc : List (Nat × FP)) (fp : FP) (x : AV) (σ : St), runDK C O E ops i rest acc fp (.pan x, σ) = if allLk ops i rest && okW ops i acc then some (.pan x, σ) else none := by
  intros
  simp only [runDK, allLk_eq]
theorem runPK_pan [N0] : ∀ (C : Cfg) (O : Orc) (E : List Nat) (ops : Array Oper) (i : Nat) (rest : List Nat) (x : AV) (σ : St), runPK C O E ops i rest (.pan x, σ) = if allLk ops i rest then some (.pan x, σ) else none := by
  intros
  simp only [runPK, allLk_eq]
theorem decode_move (P : Program) (E : List Nat) (dst : Option Nat) (ρ : Operand → AV) (x : Operand) : decode P E dst ρ (.move x) = (some (.val (ρ x))) := rfl
theorem decode_assign (P : Program) (E : List Nat) (dst : Option Nat) (ρ : Operand → AV) (x : Operand) : decode P E dst ρ (.assign x) = (some (.val (ρ x))) := rfl
theorem decode_pick (P : Program) (E : List Nat) (dst : Option Nat) (ρ : Operand → AV) (c : Operand) (a : Operand) (b : Operand) : decode P E dst ρ (.pick c a b) = (match ρ c with
    | .d (.bool t) => some (.val (if t then ρ a else ρ b))
    | _ => none) := rfl
theorem decode_alloc (P : Program) (E : List Nat) (dst : Option Nat) (ρ : Operand → AV) (T : Nat) : decode P E dst ρ (.alloc T) = (match dst, tzr P T with
    | some p, some cs => if okL cs ∧ (cs.all AV.flat) then some (if E.contains p then .alH cs else .alL p cs) else none
    | _, _ => none) := rfl
theorem decode_box (P : Program) (E : List Nat) (dst : Option Nat) (ρ : Operand → AV) (u1 : Nat) (x : Operand) : decode P E dst ρ (.box u1 x) = (match dst with
    | some p => if (ρ x).okA ∧ ((ρ x).cells.all AV.flat) then some (if E.contains p then .alH (ρ x).cells else .alL p (ρ x).cells) else none
    | none => none) := rfl
theorem decode_build (P : Program) (E : List Nat) (dst : Option Nat) (ρ : Operand → AV) (T : Nat) (parts : Array (Nat × Operand)) : decode P E dst ρ (.build T parts) = (match tbld P T, tzr P T with
    | true, some cs => (fillA (place P T) cs (parts.toList.map fun x => (x.1, ρ x.2))).bind fun cs' => if okL cs' ∧ (cs'.all AV.flat) then some (.val (aggN (nilLeft (place P T) cs (parts.toList.map fun x => x.1)) cs')) else none
    | _, _ => none) := rfl
theorem decode_buildSlice (P : Program) (E : List Nat) (dst : Option Nat) (ρ : Operand → AV) (T : Nat) (n : Nat) (parts : Array (Nat × Operand)) : decode P E dst ρ (.buildSlice T n parts) = (match tslc P T with
    | some e => match tsz P e, tzr P e with
      | some sz, some z => if n = parts.size ∧ n * sz ≤ 16777216 ∧ 0 < sz ∧ z.length = sz then (bsl sz 0 (parts.toList.map fun x => (x.1, ρ x.2))).map fun xs => .val (.d (.slc xs)) else none
      | _, _ => none
    | none => none) := rfl
theorem decode_load (P : Program) (E : List Nat) (dst : Option Nat) (ρ : Operand → AV) (T : Nat) (a : Operand) : decode P E dst ρ (.load T a) = (match tsz P T, tag P T with
    | some n, some ag => if ag ∨ n = 1 then (match ρ a with
      | .lref p off => some (.ldL p off n ag)
      | .href i off => some (.ldH i off n ag)
      | .eptr cs => if n ≤ cs.length then (if ag then some (.val (.d (.agg (cs.take n)))) else (cs.head?).map fun x => .val (.d x)) else none
      | .kp _ _ cs => if n ≤ cs.length then (if ag then some (.val (.d (.agg (cs.take n)))) else (cs.head?).map fun x => .val (.d x)) else none
      | _ => none) else none
    | _, _ => none) := rfl
theorem decode_store (P : Program) (E : List Nat) (dst : Option Nat) (ρ : Operand → AV) (T : Nat) (a : Operand) (v : Operand) : decode P E dst ρ (.store T a v) = (match tsz P T with
    | some n => if (ρ v).okA ∧ ((ρ v).cells.all AV.flat) ∧ (ρ v).cells.length = n ∧ 0 < n then (match ρ a with
      | .lref p off => some (.stL p off (ρ v).cells)
      | .href i off => some (.stH i off (ρ v).cells)
      | _ => none) else none
    | none => none) := rfl
theorem decode_nilCheck (P : Program) (E : List Nat) (dst : Option Nat) (ρ : Operand → AV) (x : Operand) : decode P E dst ρ (.nilCheck x) = (match ρ x with
    | .href i off => some (.val (.href i off))
    | .lref p off => some (.val (.lref p off))
    | _ => none) := rfl
theorem decode_binOp (P : Program) (E : List Nat) (dst : Option Nat) (ρ : Operand → AV) (op : BinOp) (T : Nat) (x : Operand) (y : Operand) (u1 : Nat) : decode P E dst ρ (.binOp op T x y u1) = ((binA P T op (ρ x) (ρ y)).map .val) := rfl
theorem decode_unOp (P : Program) (E : List Nat) (dst : Option Nat) (ρ : Operand → AV) (u1 : Nat) (x : Operand) : decode P E dst ρ (.unOp .not u1 x) = (match ρ x with
    | .d (.bool b) => some (.val (.d (.bool (!b))))
    | _ => none) := rfl
theorem decode_makeInterface (P : Program) (E : List Nat) (dst : Option Nat) (ρ : Operand → AV) (T : Nat) (x : Operand) : decode P E dst ρ (.makeInterface T x) = (match ρ x with
    | .d v => if tcon P T then some (.val (.iface T v)) else none
    | _ => none) := rfl
theorem decode_makeFunc (P : Program) (E : List Nat) (dst : Option Nat) (ρ : Operand → AV) (f : Nat) (first : Array Operand) (caps : Array Operand) : decode P E dst ρ (.makeFunc (.func f) first caps) = (if okL (first.toList.map ρ) ∧ okL (caps.toList.map ρ) then some (.val (.fn f (first.toList.map ρ) (caps.toList.map ρ))) else none) := rfl
theorem decode_slice (P : Program) (E : List Nat) (dst : Option Nat) (ρ : Operand → AV) (T : Nat) (x : Operand) (lo : Option Operand) (hi : Option Operand) (mx : Option Operand) : decode P E dst ρ (.slice T x lo hi mx) = (match tslc P T, (ρ x).sl with
    | some e, some xs => match tsz P e, slB ρ 0 lo, slB ρ xs.length hi with
      | some sz, some l, some h => if l ≤ h ∧ h ≤ xs.length ∧ (xs.all fun x => x.width == sz) then (match mx with
        | none => some (.val (.d (.slc ((xs.take h).drop l))))
        | some _ => if slB ρ 0 mx = some h ∧ hi.isSome then some (.val (.clip ((xs.take h).drop l))) else none) else none
      | _, _, _ => none
    | _, _ => none) := rfl
theorem decode_fieldAddr (P : Program) (E : List Nat) (dst : Option Nat) (ρ : Operand → AV) (S : Nat) (x : Operand) (f : Nat) : decode P E dst ρ (.fieldAddr S x f) = (match tfld P S f with
    | some (off, n, _) => if 0 < n then (match ρ x with
      | .lref p o => some (.val (.lref p (o + off)))
      | .href i o => some (.val (.href i (o + off)))
      | .eptr cs => if off ≤ cs.length then some (.val (.eptr (cs.drop off))) else none
      | .kp K d cs => if off ≤ cs.length then some (.val (.kp K (d + off) (cs.drop off))) else none
      | _ => none) else none
    | none => none) := rfl
theorem decode_indexAddr (P : Program) (E : List Nat) (dst : Option Nat) (ρ : Operand → AV) (T : Nat) (x : Operand) (i : Operand) : decode P E dst ρ (.indexAddr T x i) = (match ρ i with
    | .d (.int _ n) => if 0 ≤ n then (match tslc P T, (ρ x).sl with
      | some e, some xs => match tsz P e, xs[n.toNat]? with
        | some sz, some y => if y.width = sz then some (.val (eAt (ρ x) (n.toNat * sz) y.cells)) else none
        | _, _ => none
      | _, _ => match tarr P T, ρ x with
        | some (len, e), .lref p off => match tsz P e with
          | some sz => if n.toNat < len then some (.val (.lref p (off + n.toNat * sz))) else none
          | none => none
        | _, _ => none) else none
    | _ => none) := rfl
theorem decode_extract (P : Program) (E : List Nat) (dst : Option Nat) (ρ : Operand → AV) (x : Operand) (i : Nat) : decode P E dst ρ (.extract x i) = (match ρ x with
    | .tup vs => (vs[i]?).map .val
    | _ => none) := rfl
theorem decode_call (P : Program) (E : List Nat) (dst : Option Nat) (ρ : Operand → AV) (c : Call) : decode P E dst ρ (.call c) = (decC P ρ c) := rfl
theorem decode_panic (P : Program) (E : List Nat) (dst : Option Nat) (ρ : Operand → AV) (x : Operand) : decode P E dst ρ (.panic x) = (match ρ x with
    | .iface t v => some (.pan (.iface t v))
    | _ => none) := rfl
def fieldK (P : Program) : Option (Nat × Nat × Nat) → AV → Option MA
  | some (off, n, t), .d (.agg cs) => if off + n ≤ cs.length then (match tag P t with
      | some true => some (.val (.d (.agg ((cs.drop off).take n))))
      | some false => (cs[off]?).map fun x => .val (.d x)
      | none => none) else none
  | _, _ => none
theorem decode_field : ∀ (P : Program) (E : List Nat) (dst : Option Nat) (ρ : Operand → AV) (S : Nat) (x : Operand) (f : Nat), decode P E dst ρ (.field S x f) = fieldK P (tfld P S f) (ρ x) := by
  intro P E dst ρ S x f
  simp only [decode]
  unfold fieldK
  rfl
theorem isHc_d : ∀ x : Dv, AV.isHc (.d x) = false := by intros; rfl
theorem decode_makeSlice (P : Program) (E : List Nat) (dst : Option Nat) (ρ : Operand → AV) (T : Nat) (l c : Operand) : decode P E dst ρ (.makeSlice T l c) = mkDec P T (ρ l) (ρ c) := rfl
theorem isHc_own : ∀ (t : Nat) (xs : List Dv), AV.isHc (.own t xs) = false := by intros; rfl
theorem isHc_clip : ∀ xs : List Dv, AV.isHc (.clip xs) = false := by intros; rfl
theorem isHc_hc : ∀ (i v : Nat) (xs : List Dv), AV.isHc (.hc i v xs) = true := by intros; rfl
theorem linked_of (ops : Array Oper) (i j : Nat) (h : (linked ops i j == true) = true) : linked ops i j = true := by simpa using h
theorem call_at {O : Orc} {f : Nat} {args : List AV} {hp hp' : List HO} {r : Option (CR × List HO)} (h : O.call f args hp = r) (hh : hp' = hp) : O.call f args hp' = r := by
  rw [hh]; exact h
attribute [go_sem] ev_seq ev_reg ev_block ev_ret ev_skip ev_exit ev_cond ev_drawP runO_nil runO_cons runOK runPO runP_nil runP_cons actK actP ressA resA mk decode_move decode_assign decode_pick decode_alloc decode_box decode_build decode_buildSlice decode_makeSlice decode_load decode_store decode_nilCheck decode_binOp decode_unOp decode_makeInterface decode_makeFunc decode_slice decode_fieldAddr decode_indexAddr decode_extract decode_call decode_panic decode_field decC prep allocs allocP nodupB MA.ro callsPure AV.okA AV.still AV.pure okL pureL stillL toDvs AV.erase eraseL aggOf aggN AV.nil0 nilLeft List.any_cons List.any_nil
attribute [go_sem] splice fillA bsl binA ldc ldh slB List.length_cons List.length_nil List.replicate List.cons_append List.nil_append List.append_nil List.map_cons List.map_nil List.filterMap_cons List.filterMap_nil List.all_cons List.all_nil List.contains_nil List.contains_cons List.size_toArray List.range List.range.loop List.getElem?_toArray List.getElem?_cons_zero List.getElem?_cons_succ List.getD_cons_zero List.getD_cons_succ List.toList_toArray List.take_succ_cons List.take_zero List.drop_succ_cons List.drop_zero List.take_nil List.drop_nil Option.bind_some Option.map_some Option.isSome_some if_true
attribute [go_sem] if_false ite_true ite_false Bool.false_eq_true Bool.not_true Bool.not_false Bool.and_true Bool.true_and Bool.and_false Bool.false_and Bool.or_false Bool.false_or Bool.or_true Bool.true_or and_self and_true true_and or_true true_or or_false false_or decide_true decide_false beq_self_eq_true Nat.add_zero Nat.zero_add Nat.sub_self Nat.lt_add_one Nat.le_refl inv_d inv_own inv_clip inv_hc inv_hown inv_href inv_eptr inv_fn inv_yld inv_tup inv_arr
attribute [go_sem] inv_iface inv_undef inv_lref sl_own sl_clip sl_hc sl_d toDv_d toDv_own toDv_clip toDv_hc toDv_hown toDv_lref toDv_href toDv_eptr toDv_fn toDv_yld toDv_tup toDv_arr toDv_iface toDv_undef cells_own cells_clip cells_hc cells_hown cells_lref cells_href cells_eptr cells_fn cells_yld cells_tup cells_iface cells_undef cells_arr cells_d_int flat_d_int dcells_int width_int cells_d_bool flat_d_bool
attribute [go_sem] dcells_bool width_bool cells_d_str flat_d_str dcells_str width_str cells_d_slc flat_d_slc dcells_slc width_slc cells_d_agg flat_d_agg dcells_agg width_agg flat_own flat_clip flat_hc flat_hown flat_lref flat_href flat_eptr flat_fn flat_yld flat_tup flat_arr flat_iface flat_undef kept_d keptH_d clr_d kept_own keptH_own clr_own kept_hc keptH_hc clr_hc kept_hown keptH_hown clr_hown kept_lref
attribute [go_sem] keptH_lref clr_lref kept_href keptH_href clr_href kept_eptr keptH_eptr clr_eptr kept_fn keptH_fn clr_fn kept_yld keptH_yld clr_yld kept_tup keptH_tup clr_tup kept_arr keptH_arr clr_arr kept_iface keptH_iface clr_iface kept_undef keptH_undef clr_undef kept_clip0 keptH_clip0 clr_clip kept_clip1 keptH_clip1 ofV_int ofV_bool ofV_string ofV_slice ofV_nilFunc ofV_nilPtr ofV_nilIface guardK_t guardK_f
attribute [go_sem] guardP_t guardP_f condK_t condK_f runK_v runK_u runK_pan runPK_v runPK_u runPK_pan seqK_nor blockK_nor seqK_ret blockK_ret seqK_exit blockK_exit seqK_pan blockK_pan stepE_v stepE_u stepE_pan putA_s putA_n mact_val mact_ldL ldLK_s mact_ldH ldHK_s mact_stL stLK_s mact_stH mact_alL mact_alH mact_app mact_call mact_yld mact_pan pureRes_ret pureRes_pan heapRes_ret
attribute [go_sem] heapRes_pan leave_nor leave_ret leave_pan clear_eq clearD_nor clearD_pan wantA_n wantA_s wantV_s resA_t Int.toNat_natCast Int.natCast_nonneg List.append_assoc oneOf_0 oneOf_1 oneOf_2 beq_tf beq_ft tl_getD tl_set ll_set ll_get tl_clr ll_clr tl_inv tl_clrA tl_none ll_length tl_length lookA lookL putL isIn dropL mapL unum opv_tmp opv_const opv_func tmAt_eq wantV_0
attribute [go_sem] ev_rangeK rangeK_fn rangeEnd_ret rangeEnd_pan yK_s yBody_nor yB2_s yEnd_K yE_nor yE_ret yE_exit rendK_r rendK_d noRange yFrame setAll mSt List.set_cons_zero List.set_cons_succ Int.le_refl
attribute [go_sem] inv_kn inv_kp sl_kn toDv_kn toDv_kp cells_kn cells_kp flat_kn kept_kn keptH_kn clr_kn eAt_kn eAt_d eAt_own eAt_clip eAt_hc AV.retE retL AV.keepE
attribute [go_sem] ev_drawD runD_nil runD_cons runDO runDK_v runDK_u runDK_pan runPK_pan allLk fpO_eq fpG_t fpG_f fpD_s okD okW addD MA.fp FP.none FP.apart disj linked_of List.isEmpty_nil List.isEmpty_cons isHc_d isHc_own isHc_clip isHc_hc
end Go.Proofs.Ytmmhpmfgcenngaa
