/- A part of the proof (an executor, and what it computes). -/
import Derived.Calls
set_option linter.all false
/-! An abstract executor over plain data. -/
namespace Go.Ab
open Go

/-- Plain data: no names of variables in it. -/
inductive PV where
  | int (k : IntKind) (n : Int)
  | bool (b : Bool)
  | str (s : ByteArray)
  | agg (cs : List PV)
  | sl (z : Nat) (es : List PV)
  | nilp
  | nilf
  deriving Inhabited

def PV.cells : PV → List PV
  | .agg cs => cs
  | v => [v]

/-- Names of variables: those that came in, those that a frame made. -/
inductive Nm where
  | ext (k : Nat)
  | loc (r i j : Nat)
  deriving DecidableEq, Inhabited

def Nm.isLoc : Nm → Bool
  | .loc .. => true
  | .ext _ => false

inductive AV where
  | undef
  | ub
  | p (v : PV)
  | agg (cs : List AV)
  | tup (vs : List AV)
  | nils (z : Nat)
  | hsl (x : Nm) (off len : Nat)
  | ptr (x : Nm) (off : Nat)
  | eptr (x : Nm) (i off : Nat)
  | rptr (cs : List PV)
  | fn (f : FuncId) (first caps : List AV)
  | yld (l : Nat)
  deriving Inhabited

inductive AObj where
  | box (cs : List AV)
  | parr (es : List PV) (esz : Nat) (fz : Bool)
  | arr (es : List AV)
  deriving Inhabited

def AV.cells : AV → List AV
  | .agg cs => cs
  | .p (.agg cs) => cs.map .p
  | v => [v]

def allP : List AV → Option (List PV)
  | [] => some []
  | .p v :: r => match allP r with
    | some vs => some (v :: vs)
    | none => none
  | _ :: _ => none

/-- A struct's value out of its cells. -/
def mkAgg (cs : List AV) : AV :=
  match allP cs with
  | some vs => .p (.agg vs)
  | none => .agg cs

/-- A value that can lie in a variable. -/
def AV.okv : AV → Bool
  | .undef => false
  | .ub => false
  | .tup _ => false
  | _ => true

/-! ### Temporaries and heap -/
abbrev Tm := List (Nat × AV)
abbrev Hp := List (Nm × Option AObj)

def tget : Tm → Nat → AV
  | [], _ => .undef
  | (j, v) :: r, i => if j = i then v else tget r i

def hget : Hp → Nm → Option AObj
  | [], _ => none
  | (y, o) :: r, x => if y = x then o else hget r x

mutual
def AV.names : AV → List Nm
  | .agg cs => namesL cs
  | .tup cs => namesL cs
  | .hsl x _ _ => [x]
  | .ptr x _ => [x]
  | .eptr x _ _ => [x]
  | .fn _ a b => namesL a ++ namesL b
  | _ => []
def namesL : List AV → List Nm
  | [] => []
  | v :: r => v.names ++ namesL r
end

def AObj.names : AObj → List Nm
  | .box cs => namesL cs
  | .parr .. => []
  | .arr es => namesL es

mutual
/-- Other names; none where one is not told. -/
def AV.ren (f : Nm → Option Nm) : AV → Option AV
  | .agg cs => (renL f cs).map .agg
  | .tup cs => (renL f cs).map .tup
  | .hsl x o l => (f x).map (.hsl · o l)
  | .ptr x o => (f x).map (.ptr · o)
  | .eptr x i o => (f x).map (.eptr · i o)
  | .fn g a b => match renL f a, renL f b with
    | some a, some b => some (.fn g a b)
    | _, _ => none
  | v => some v
def renL (f : Nm → Option Nm) : List AV → Option (List AV)
  | [] => some []
  | v :: r => match v.ren f, renL f r with
    | some v, some r => some (v :: r)
    | _, _ => none
end

def AObj.ren (f : Nm → Option Nm) : AObj → Option AObj
  | .box cs => (renL f cs).map .box
  | .parr es z b => some (.parr es z b)
  | .arr es => (renL f es).map .arr

def renOs (f : Nm → Option Nm) : List AObj → Option (List AObj)
  | [] => some []
  | v :: r => match v.ren f, renOs f r with
    | some v, some r => some (v :: r)
    | _, _ => none

mutual
/-- What mentions a name that is gone is unknown. -/
def AV.purge (x : Nm) : AV → AV
  | .agg cs => .agg (purgeL x cs)
  | .tup cs => .tup (purgeL x cs)
  | .hsl y o l => if y = x then .undef else .hsl y o l
  | .ptr y o => if y = x then .undef else .ptr y o
  | .eptr y i o => if y = x then .undef else .eptr y i o
  | .fn g a b => .fn g (purgeL x a) (purgeL x b)
  | v => v
def purgeL (x : Nm) : List AV → List AV
  | [] => []
  | v :: r => v.purge x :: purgeL x r
end

def AObj.purge (x : Nm) : AObj → AObj
  | .box cs => .box (purgeL x cs)
  | .parr es z b => .parr es z b
  | .arr es => .arr (purgeL x es)

def purgeT (x : Nm) : Tm → Tm
  | [] => []
  | (i, v) :: r => (i, v.purge x) :: purgeT x r
def purgeH (x : Nm) : Hp → Hp
  | [] => []
  | (y, o) :: r => (y, o.map (AObj.purge x)) :: purgeH x r

/-! ### Code -/
inductive Opd where
  | t (i : Nat)
  | c (v : PV)
  | nils (z : Nat)
  | f (n : FuncId)
  deriving Inhabited

/-- A cell of a new variable: plain, a nil slice, or a slice that will be appended to. -/
inductive ZC where
  | c (v : PV)
  | nils (z : Nat)
  | new (esz : Nat)
  deriving Inhabited

/-- Kinds of cells that can be compared. -/
inductive CK where
  | i (k : IntKind)
  | s
  | b
  deriving DecidableEq

/-- Rows of whole numbers, strings and bools are equal. -/
def eqCells : List CK → List PV → List PV → Option Bool
  | [], [], [] => some true
  | .i k :: ks, .int k1 a :: x, .int k2 b :: y => if k1 = k ∧ k2 = k then (eqCells ks x y).map (decide (a = b) && ·) else none
  | .s :: ks, .str a :: x, .str b :: y => (eqCells ks x y).map (decide (a = b) && ·)
  | .b :: ks, .bool a :: x, .bool b :: y => (eqCells ks x y).map ((a == b) && ·)
  | _, _, _ => none

inductive SOp where
  | mv (x : Opd)
  | nnew (esz : Nat)
  | pick (c a b : Opd)
  | alloc (zs : List ZC)
  | box (x : Opd)
  | build (zero : List ZC) (parts : List (Nat × Nat × Opd))
  | bslice (own : Bool) (esz : Nat) (parts : List Opd)
  | load (agg : Bool) (size : Nat) (x : Opd)
  | store (size : Nat) (x v : Opd)
  | nilck (x : Opd)
  | bin (op : BinOp) (x y : Opd)
  | bbin (neq : Bool) (x y : Opd)
  | isnil (x : Opd)
  | eqs (neq : Bool) (ks : List CK) (x y : Opd)
  | un (op : UnOp) (x : Opd)
  | conv (k : IntKind) (x : Opd)
  | mkfn (f : FuncId) (first caps : List Opd)
  | mkslice (zero : PV) (len : Opd)
  | slice (z : Nat) (x : Opd) (lo hi mx : Option Opd)
  | substr (x : Opd) (lo hi : Option Opd)
  | faddr (off : Nat) (x : Opd)
  | fld (agg : Bool) (size off : Nat) (x : Opd)
  | iaddr (esz : Nat) (x i : Opd)
  | sidx (x i : Opd)
  | aidx (agg : Bool) (n esz : Nat) (x i : Opd)
  | ext (x : Opd) (i : Nat)
  | call (f : Opd) (args : List Opd)
  | len (s : Bool) (x : Opd)
  | append (esz : Nat) (x y : Opd)
  | mx (x y : Opd)
  | mn (x y : Opd)
  | clear (zero : PV) (x : Opd)
  | shrink (z : Nat) (x hi : Opd)
  deriving Inhabited

structure SOper where
  dst : Option Nat
  op : SOp
  guard : Option (Nat × Bool) := none
  deriving Inhabited

inductive SCode where
  | skip
  | reg (id : Nat) (ops : List SOper)
  | draw (id : Nat) (ops : List SOper) (pairs : List (Nat × Nat))
  | seq (a b : SCode)
  | cond (c : Opd) (a b : SCode)
  | blk (id : Nat) (b : SCode)
  | loop (kt : List Nat) (kh : List Nm) (b : SCode)
  | exit (id : Nat)
  | ret
  | cut (kt : List Nat) (kh : List Nm)
  | trim (kn kr : List Nat) (ke : List (Nat × List Nat)) (kh : List Nm) (b : SCode)
  | rback (g : FuncId) (x : Opd) (p q : Nat) (kt : List Nat) (kh : List Nm) (a b : SCode)
  deriving Inhabited

inductive RV where
  | tmp (t : Nat)
  | cell (a : Nat) (agg : Bool) (size : Nat)
  deriving Inhabited

structure SFn where
  body : SCode
  rv : List RV
  rawA : Bool := false
  rawR : Bool := false
  deriving Inhabited

/-- What a call comes to: the result, what became of the variables that were handed over, new ones. -/
structure CR where
  v : AV
  outs : List AObj
  news : List AObj

structure St where
  T : Tm
  H : Hp

/-- What an operation does. -/
structure Dl where
  v : AV
  up : Hp := []
  pg : Option Nm := none

def ev (T : Tm) : Opd → AV
  | .t i => tget T i
  | .c v => .p v
  | .nils z => .nils z
  | .f n => .fn n [] []

def evL (T : Tm) : List Opd → List AV
  | [] => []
  | x :: r => ev T x :: evL T r

def zcells (r i : Nat) : Nat → List ZC → List AV
  | _, [] => []
  | j, .c v :: zs => .p v :: zcells r i (j + 1) zs
  | j, .nils z :: zs => .nils z :: zcells r i (j + 1) zs
  | j, .new _ :: zs => .hsl (.loc r i (j + 1)) 0 0 :: zcells r i (j + 1) zs
def znews (r i : Nat) : Nat → List ZC → Hp
  | _, [] => []
  | j, .new z :: zs => (.loc r i (j + 1), some (.parr [] z false)) :: znews r i (j + 1) zs
  | j, _ :: zs => znews r i (j + 1) zs

/-- All of these names are free. -/
def freeH (H : Hp) : Hp → Bool
  | [] => true
  | (x, _) :: r => (hget H x).isNone && freeH H r

def fillA (cells : List AV) : List (Nat × Nat × AV) → Option (List AV)
  | [] => some cells
  | (off, size, v) :: r =>
    if v.okv = true ∧ v.cells.length = size ∧ off + size ≤ cells.length then fillA (cells.take off ++ v.cells ++ cells.drop (off + size)) r else none

def evParts (T : Tm) : List (Nat × Nat × Opd) → List (Nat × Nat × AV)
  | [] => []
  | (o, s, x) :: r => (o, s, ev T x) :: evParts T r

/-- A part of a row of cells. -/
def partP (agg : Bool) (size off : Nat) (cs : List PV) : Option PV :=
  if agg then (if off + size ≤ cs.length then some (.agg ((cs.drop off).take size)) else none) else cs[off]?
def partA (agg : Bool) (size off : Nat) (cs : List AV) : Option AV :=
  if agg then (if off + size ≤ cs.length then some (mkAgg ((cs.drop off).take size)) else none) else cs[off]?

def shlI (k : IntKind) (a b : Int) : Int := k.wrap (a * 2 ^ (min b.toNat k.bits))
def shrI (k : IntKind) (a b : Int) : Int := a.fdiv (2 ^ (min b.toNat k.bits))
def andI (k : IntKind) (a b : Int) : Int := k.wrap ((BitVec.ofInt k.bits a &&& BitVec.ofInt k.bits b).toNat)
def orI (k : IntKind) (a b : Int) : Int := k.wrap ((BitVec.ofInt k.bits a ||| BitVec.ofInt k.bits b).toNat)
def xorI (k : IntKind) (a b : Int) : Int := k.wrap ((BitVec.ofInt k.bits a ^^^ BitVec.ofInt k.bits b).toNat)
def andNotI (k : IntKind) (a b : Int) : Int := k.wrap ((BitVec.ofInt k.bits a &&& ~~~BitVec.ofInt k.bits b).toNat)

def binP (op : BinOp) : PV → PV → Option PV
  | .int k a, .int k' b =>
    match op with
    | .shl => if b < 0 then none else some (.int k (shlI k a b))
    | .shr => if b < 0 then none else some (.int k (shrI k a b))
    | .add => if k = k' then some (.int k (k.wrap (a + b))) else none
    | .sub => if k = k' then some (.int k (k.wrap (a - b))) else none
    | .mul => if k = k' then some (.int k (k.wrap (a * b))) else none
    | .quo => if k = k' ∧ b ≠ 0 then some (.int k (k.wrap (a.tdiv b))) else none
    | .rem => if k = k' ∧ b ≠ 0 then some (.int k (a.tmod b)) else none
    | .and => if k = k' then some (.int k (andI k a b)) else none
    | .or => if k = k' then some (.int k (orI k a b)) else none
    | .xor => if k = k' then some (.int k (xorI k a b)) else none
    | .andNot => if k = k' then some (.int k (andNotI k a b)) else none
    | .eql => if k = k' then some (.bool (decide (a = b))) else none
    | .neq => if k = k' then some (.bool (decide (a ≠ b))) else none
    | .lss => if k = k' then some (.bool (decide (a < b))) else none
    | .leq => if k = k' then some (.bool (decide (a ≤ b))) else none
    | .gtr => if k = k' then some (.bool (decide (b < a))) else none
    | .geq => if k = k' then some (.bool (decide (b ≤ a))) else none
  | .str a, .str b =>
    match op with
    | .eql => some (.bool (decide (a = b)))
    | .neq => some (.bool (decide (a ≠ b)))
    | .lss => some (.bool (Op.bytesLess a.toList b.toList))
    | .leq => some (.bool (Op.bytesLess a.toList b.toList || decide (a = b)))
    | .gtr => some (.bool (!(Op.bytesLess a.toList b.toList || decide (a = b))))
    | .geq => some (.bool (!Op.bytesLess a.toList b.toList))
    | _ => none
  | _, _ => none

def unP (op : UnOp) : PV → Option PV
  | .int k n => match op with
    | .neg => some (.int k (k.wrap (0 - n)))
    | _ => none
  | .bool b => match op with
    | .not => some (.bool !b)
    | _ => none
  | _ => none

/-- A whole number, from 0 to a bound. -/
def natOf (v : AV) (n : Nat) : Option Nat :=
  match v with
  | .p (.int _ i) => if 0 ≤ i ∧ i ≤ n then some i.toNat else none
  | _ => none
def natOr (v : Option AV) (d n : Nat) : Option Nat :=
  match v with
  | none => some d
  | some v => natOf v n

/-- The most that a slice of one's own holds. -/
def most : Nat := 2147483648

/-- The size of the elements of a slice of one's own. -/
def eszOf (H : Hp) (x : Nm) : Option Nat :=
  match hget H x with
  | some (.parr _ z _) => some z
  | some (.arr _) => some 1
  | _ => none

def sliceA (H : Hp) (z0 : Nat) (x : AV) (lo hi mx : Option AV) : Option AV :=
  match x with
  | .p (.str s) => match mx, natOr hi s.size s.size with
    | none, some h => match natOr lo 0 h with
      | some l => some (.p (.str (s.extract l h)))
      | none => none
    | _, _ => none
  | .p (.sl z es) => if z = z0 then match natOr mx es.length es.length with
    | some m => match natOr hi es.length m with
      | some h => match natOr lo 0 h with
        | some l => if mx.isSome && decide (l = m) then some (.nils z) else some (.p (.sl z ((es.drop l).take (h - l))))
        | none => none
      | none => none
    | none => none
    else none
  | .nils z => match natOr mx 0 0, natOr hi 0 0, natOr lo 0 0 with
    | some _, some _, some _ => some (.nils z)
    | _, _, _ => none
  | .hsl y off len => if eszOf H y = some z0 then match mx, natOr hi len len with
    | none, some h => match natOr lo 0 h with
      | some l => some (.hsl y (off + l) (h - l))
      | none => none
    | _, _ => none
    else none
  | _ => none

/-- A slice's elements, if they are plain; how many cells each has. -/
def elems (H : Hp) : AV → Option (Nat × List PV)
  | .p (.sl z es) => some (z, es)
  | .nils z => some (z, [])
  | .hsl x off len => match hget H x with
    | some (.parr es z _) => if off + len ≤ es.length then some (z, (es.drop off).take len) else none
    | _ => none
  | _ => none

/-- Slices of one's own become plain ones. -/
def frz1 (H : Hp) : AV → Option AV
  | .nils z => some (.p (.sl z []))
  | .hsl x off len => match elems H (.hsl x off len) with
    | some (z, es) => some (.p (.sl z es))
    | none => none
  | v => some v
def frzL1 (H : Hp) : List AV → Option (List AV)
  | [] => some []
  | v :: r => match frz1 H v, frzL1 H r with
    | some v, some r => some (v :: r)
    | _, _ => none
def frz (H : Hp) : AV → Option AV
  | .agg cs => match frzL1 H cs with
    | some cs => some (mkAgg cs)
    | none => none
  | .tup cs => match frzL1 H cs with
    | some cs => some (.tup cs)
    | none => none
  | v => frz1 H v
def frzL (H : Hp) : List AV → Option (List AV)
  | [] => some []
  | v :: r => match frz H v, frzL H r with
    | some v, some r => some (v :: r)
    | _, _ => none

/-- The names of the slices that are frozen so. -/
def hslN : AV → List Nm
  | .hsl x _ _ => [x]
  | _ => []
def frzNs : List AV → List Nm
  | [] => []
  | .agg cs :: r => cs.flatMap hslN ++ frzNs r
  | .tup cs :: r => cs.flatMap hslN ++ frzNs r
  | v :: r => hslN v ++ frzNs r

def frzUp (H : Hp) : List Nm → Hp
  | [] => []
  | x :: r => match hget H x with
    | some (.parr es z _) => (x, some (.parr es z true)) :: frzUp H r
    | _ => frzUp H r

/-- Plain cells of a value, to be put into a row. -/
def pcells (H : Hp) (v : AV) : Option (List PV) :=
  match frzL1 H v.cells with
  | some cs => allP cs
  | none => none

/-- A value as an element of a row. -/
def pelem (H : Hp) (z : Nat) (v : AV) : Option PV :=
  match frz H v with
  | some (.p v) => if v.cells.length = z then some v else none
  | _ => none
def pelems (H : Hp) (z : Nat) : List AV → Option (List PV)
  | [] => some []
  | v :: r => match pelem H z v, pelems H z r with
    | some v, some r => some (v :: r)
    | _, _ => none

/-- All names that are reached. -/
def reach (H : Hp) : Nat → List Nm → List Nm → Option (List Nm)
  | _, [], acc => some acc
  | 0, _ :: _, _ => none
  | n + 1, x :: todo, acc =>
    if x ∈ acc then reach H n todo acc
    else match hget H x with
      | some o => reach H n (todo ++ o.names) (acc ++ [x])
      | none => none

def nidx (x : Nm) : List Nm → Nat → Option Nat
  | [], _ => none
  | y :: r, k => if y = x then some k else nidx x r (k + 1)
def toExt (ns : List Nm) (x : Nm) : Option Nm := (nidx x ns 0).map .ext
def fromExt (ns : List Nm) (r i : Nat) : Nm → Option Nm
  | .ext k => if k < ns.length then ns[k]? else some (.loc r i (k - ns.length))
  | .loc .. => none

def hgets (H : Hp) : List Nm → Option (List AObj)
  | [] => some []
  | x :: r => match hget H x, hgets H r with
    | some o, some os => some (o :: os)
    | _, _ => none

def zipUp : List Nm → List AObj → Hp
  | x :: ns, o :: os => (x, some o) :: zipUp ns os
  | _, _ => []
def newUp (r i : Nat) : Nat → List AObj → Hp
  | _, [] => []
  | j, o :: os => (.loc r i j, some o) :: newUp r i (j + 1) os

/-- Variables that are handed over: their slices are frozen. -/
def boxUps (H : Hp) : List Nm → Option Hp
  | [] => some []
  | x :: r => match hget H x, boxUps H r with
    | some (.box cs), some u => match frzL1 H cs with
      | some cs' => some ((x, some (.box cs')) :: (frzUp H (cs.flatMap hslN) ++ u))
      | none => none
    | some _, some u => some u
    | _, _ => none

/-- Behind a call. -/
def callEnd (H : Hp) (r i : Nat) (ns : List Nm) (ups : Hp) : Option CR → Option Dl
  | none => none
  | some c =>
    match c.v, c.outs, c.news, ns with
    | .p v, [], [], [] => some { v := .p v, up := ups }
    | v, outs, news, ns =>
      if outs.length = ns.length ∧ freeH (ups ++ H) (newUp r i 0 news) = true then
        match v.ren (fromExt ns r i), renOs (fromExt ns r i) outs, renOs (fromExt ns r i) news with
        | some v, some outs, some news => some { v, up := zipUp ns outs ++ (newUp r i 0 news ++ ups) }
        | _, _, _ => none
      else none

abbrev CF := FuncId → List AV → List AObj → Option CR

/-- A call whose arguments hold names. -/
def callNs (cf : CF) (H : Hp) (r i : Nat) (f : FuncId) (args : List AV) (ups : Hp) : Option Dl :=
  match reach (ups ++ H) 64 (namesL args) [] with
  | none => none
  | some ns =>
    match renL (toExt ns) args, hgets (ups ++ H) ns with
    | some args, some os => match renOs (toExt ns) os with
      | some os => callEnd H r i ns ups (cf f args os)
      | none => none
    | _, _ => none

/-- Values that hold no slices. -/
def scalL : List AV → Bool
  | [] => true
  | .p (.int ..) :: r => scalL r
  | .p (.bool _) :: r => scalL r
  | .p (.str _) :: r => scalL r
  | _ => false
/-- Behind a call that was handed nothing but plain data: if it hands back nothing that holds a slice, then what it was handed is as free as before. -/
def lendEnd (H : Hp) (r i : Nat) (u : Hp) (x : Option CR) : Option Dl :=
  match x with
  | some ⟨.tup vs, outs, news⟩ => if scalL vs = true then some { v := .tup vs } else callEnd H r i [] u (some ⟨.tup vs, outs, news⟩)
  | x => callEnd H r i [] u x
def callD (cf : CF) (raw : Bool) (H : Hp) (r i : Nat) (f : FuncId) (args : List AV) : Option Dl :=
  match allP args with
  | some _ => callEnd H r i [] [] (cf f args [])
  | none =>
    if raw then callNs cf H r i f args []
    else match frzL H args with
      | none => none
      | some args' =>
        let u := frzUp H (frzNs args)
        match allP args' with
        | some _ => lendEnd H r i u (cf f args' [])
        | none => match reach (u ++ H) 64 (namesL args') [] with
          | none => none
          | some ns => match boxUps (u ++ H) ns with
            | none => none
            | some b => callNs cf H r i f args' (b ++ u)

/-- What may lie in a row of other things than plain data. -/
def okArr : AV → Bool
  | .fn .. => true
  | .ptr .. => true
  | _ => false

def setL (cs : List AV) (off : Nat) (vs : List AV) : List AV := cs.take off ++ vs ++ cs.drop (off + vs.length)
/-- An element some cells of which are written. -/
def setE (e : PV) (off : Nat) (vs : List PV) : PV :=
  match e with
  | .agg cs => .agg (cs.take off ++ vs ++ cs.drop (off + vs.length))
  | _ => match vs with
    | [v] => v
    | _ => e

def loadD (H : Hp) (agg : Bool) (size : Nat) : AV → Option AV
  | .rptr cs => (partP agg size 0 cs).map .p
  | .ptr x off => match hget H x with
    | some (.box cs) => partA agg size off cs
    | _ => none
  | .eptr x i off => match hget H x with
    | some (.parr es _ _) => match es[i]? with
      | some e => (partP agg size off e.cells).map .p
      | none => none
    | some (.arr es) => if agg = false ∧ off = 0 then es[i]? else none
    | _ => none
  | _ => none

def storeD (H : Hp) (size : Nat) (a v : AV) : Option Dl :=
  match a with
  | .ptr x off => match hget H x with
    | some (.box cs) => if v.okv = true ∧ v.cells.length = size ∧ off + size ≤ cs.length then some { v := .undef, up := [(x, some (.box (setL cs off v.cells)))] } else none
    | _ => none
  | .eptr x i off => match hget H x, pcells H v with
    | some (.parr es z false), some vs => match es[i]? with
      | some e => if v.okv = true ∧ vs.length = size ∧ off + size ≤ z ∧ x ∉ v.cells.flatMap hslN then
          some { v := .undef, up := (x, some (.parr (es.set i (setE e off vs)) z false)) :: frzUp H (v.cells.flatMap hslN) } else none
      | none => none
    | _, _ => none
  | _ => none

def partOf (agg : Bool) (size off : Nat) : AV → Option AV
  | .p (.agg cs) => (partP agg size off cs).map .p
  | .agg cs => partA agg size off cs
  | _ => none

def iaddrD (H : Hp) (z : Nat) (x : AV) (n : Nat) : Option AV :=
  match x with
  | .p (.sl z' es) => match es[n]? with
    | some e => if z' = z then some (.rptr e.cells) else none
    | none => none
  | .hsl y off len => match hget H y with
    | some (.parr es z' _) => if n < len ∧ off + len ≤ es.length ∧ z' = z then some (.eptr y (off + n) 0) else none
    | some (.arr es) => if n < len ∧ off + len ≤ es.length ∧ 1 = z then some (.eptr y (off + n) 0) else none
    | _ => none
  | _ => none

def ptrQ : AV → Bool
  | .ptr .. | .eptr .. | .rptr _ => true
  | _ => false

/-- As Option.bind; what follows is left alone until the first part is there. -/
def obind {α β : Type} (x : Option α) (f : α → Option β) : Option β := x.bind f
@[congr] theorem obind_congr {α β : Type} {x y : Option α} {f : α → Option β} (h : x = y) : obind x f = obind y f := by rw [h]
theorem obind_some {α β : Type} (a : α) (f : α → Option β) : obind (some a) f = f a := rfl
theorem obind_none {α β : Type} (f : α → Option β) : obind none f = none := rfl

/-- What an operation does (the i-th of the region r). -/
def opD (cf : CF) (raw : FuncId → Bool) (r i : Nat) (T : Tm) (H : Hp) : SOp → Option Dl
  | .mv x => some { v := ev T x }
  | .nnew z => if (hget H (.loc r i 0)).isNone then some { v := .hsl (.loc r i 0) 0 0, up := [(.loc r i 0, some (.parr [] z false))] } else none
  | .pick c a b => match ev T c with
    | .p (.bool c) => some { v := if c then ev T a else ev T b }
    | _ => none
  | .alloc zs =>
    let n := (Nm.loc r i 0, some (AObj.box (zcells r i 0 zs))) :: znews r i 0 zs
    if freeH H n then some { v := .ptr (.loc r i 0) 0, up := n } else none
  | .box x => if (hget H (.loc r i 0)).isNone ∧ (ev T x).okv = true then some { v := .ptr (.loc r i 0) 0, up := [(.loc r i 0, some (.box (ev T x).cells))] } else none
  | .build zs ps =>
    match znews r i 0 zs with
    | [] => match fillA (zcells r i 0 zs) (evParts T ps) with
      | some cs => some { v := mkAgg cs }
      | none => none
    | _ => none
  | .bslice own z ps => match pelems H z (evL T ps) with
    | some es =>
      if own then (if (hget H (.loc r i 0)).isNone then some { v := .hsl (.loc r i 0) 0 es.length, up := (.loc r i 0, some (.parr es z false)) :: frzUp H (frzNs (evL T ps)) } else none)
      else some { v := .p (.sl z es), up := frzUp H (frzNs (evL T ps)) }
    | none => if z = 1 ∧ (hget H (.loc r i 0)).isNone ∧ (evL T ps).all okArr = true then some { v := .hsl (.loc r i 0) 0 ps.length, up := [(.loc r i 0, some (.arr (evL T ps)))] } else none
  | .load agg size x => match loadD H agg size (ev T x) with
    | some v => some { v }
    | none => none
  | .store size a v => storeD H size (ev T a) (ev T v)
  | .nilck x => if ptrQ (ev T x) then some { v := ev T x } else none
  | .bin op x y => match ev T x, ev T y with
    | .p a, .p b => match binP op a b with
      | some v => some { v := .p v }
      | none => none
    | _, _ => none
  | .bbin neq x y => match ev T x, ev T y with
    | .p (.bool a), .p (.bool b) => some { v := .p (.bool (if neq then !(a == b) else a == b)) }
    | _, _ => none
  | .isnil x => match ev T x with
    | .p (.sl _ (_ :: _)) => some { v := .p (.bool false) }
    | .p (.sl _ []) => some { v := .ub }
    | .nils _ => some { v := .ub }
    | _ => none
  | .eqs neq ks x y => match ev T x, ev T y with
    | .p (.agg a), .p (.agg b) => match eqCells ks a b with
      | some c => some { v := .p (.bool (if neq then !c else c)) }
      | none => none
    | _, _ => none
  | .un op x => match ev T x with
    | .p a => match unP op a with
      | some v => some { v := .p v }
      | none => none
    | _ => none
  | .conv k x => match ev T x with
    | .p (.int _ n) => some { v := .p (.int k (k.wrap n)) }
    | _ => none
  | .mkfn f a b => some { v := .fn f (evL T a) (evL T b) }
  | .mkslice z n => match natOf (ev T n) most with
    | some n => if (hget H (.loc r i 0)).isNone then some { v := .hsl (.loc r i 0) 0 n, up := [(.loc r i 0, some (.parr (List.replicate n z) z.cells.length false))] } else none
    | none => none
  | .slice z x lo hi mx => match ev T x with
    | .p (.str _) => none
    | _ => match sliceA H z (ev T x) (lo.map (ev T)) (hi.map (ev T)) (mx.map (ev T)) with
      | some v => some { v }
      | none => none
  | .substr x lo hi => match ev T x with
    | .p (.str s) => match sliceA H 0 (.p (.str s)) (lo.map (ev T)) (hi.map (ev T)) none with
      | some v => some { v }
      | none => none
    | _ => none
  | .faddr off x => match ev T x with
    | .ptr x o => some { v := .ptr x (o + off) }
    | .eptr x i o => some { v := .eptr x i (o + off) }
    | .rptr cs => some { v := .rptr (cs.drop off) }
    | _ => none
  | .fld agg size off x => match partOf agg size off (ev T x) with
    | some v => some { v }
    | none => none
  | .iaddr z x i => match ev T i with
    | .p (.int _ n) => if 0 ≤ n then match iaddrD H z (ev T x) n.toNat with
        | some v => some { v }
        | none => none
      else none
    | _ => none
  | .sidx x i => match ev T x, ev T i with
    | .p (.str s), .p (.int _ n) => if 0 ≤ n then match s[n.toNat]? with
        | some b => some { v := .p (.int .u8 b.toNat) }
        | none => none
      else none
    | _, _ => none
  | .aidx agg n z x i => match ev T i with
    | .p (.int _ k) => if 0 ≤ k ∧ k < n then match partOf agg z (k.toNat * z) (ev T x) with
        | some v => some { v }
        | none => none
      else none
    | _ => none
  | .ext x i => match ev T x with
    | .tup vs => match vs[i]? with
      | some v => some { v }
      | none => none
    | _ => none
  | .call f args => match ev T f with
    | .fn f a b => callD cf (raw f) H r i f (a ++ evL T args ++ b)
    | _ => none
  | .len true x => match ev T x with
    | .p (.str s) => some { v := .p (.int .i64 s.size) }
    | _ => none
  | .len false x => match ev T x with
    | .p (.sl _ es) => some { v := .p (.int .i64 es.length) }
    | .nils _ => some { v := .p (.int .i64 0) }
    | .hsl _ _ n => some { v := .p (.int .i64 n) }
    | _ => none
  | .append z x y => match elems H (ev T y) with
    | some (z', ys) =>
      if z' = z then match ev T x with
        | .nils _ => if (hget H (.loc r i 0)).isNone ∧ ys.length ≤ most then
            some { v := .hsl (.loc r i 0) 0 ys.length, up := [(.loc r i 0, some (.parr ys z false))] } else none
        | .hsl n o len => match hget H n with
          | some (.parr es z'' false) =>
            if o = 0 ∧ len = es.length ∧ z'' = z ∧ len + ys.length ≤ most ∧ n.isLoc = true ∧ n ∉ hslN (ev T y) then
              some { v := .hsl n 0 (len + ys.length), up := [(n, some (.parr (es ++ ys) z false))], pg := some n } else none
          | _ => none
        | _ => none
      else none
    | none => none
  | .mx x y => match ev T x, ev T y with
    | .p (.int k a), .p (.int k' b) => if k = k' then some { v := .p (.int k (if a < b then b else a)) } else none
    | _, _ => none
  | .mn x y => match ev T x, ev T y with
    | .p (.int k a), .p (.int k' b) => if k = k' then some { v := .p (.int k (if b < a then b else a)) } else none
    | _, _ => none
  | .clear zp x => match ev T x with
    | .hsl y off n => match hget H y with
      | some (.parr es z false) =>
        if n ≠ 0 ∧ off + n ≤ es.length ∧ zp.cells.length = z ∧ 0 < z then
          some { v := .tup [], up := [(y, some (.parr (es.take off ++ List.replicate n zp ++ es.drop (off + n)) z false))] } else none
      | _ => none
    | _ => none
  | .shrink z x hi => match sliceA H z (ev T x) none (some (ev T hi)) none with
    | some (.hsl y 0 k) => match hget H y with
      | some (.parr es z' false) => some { v := .hsl y 0 k, up := [(y, some (.parr (es.take k) z' false))] }
      | _ => none
    | _ => none

/-- Behind an operation. -/
def putD (dst : Option Nat) (d : Dl) (T : Tm) (H : Hp) : St :=
  let T1 := match d.pg with
    | some x => purgeT x T
    | none => T
  let H1 := match d.pg with
    | some x => purgeH x H
    | none => H
  { T := match dst with
      | some t => (t, d.v) :: T1
      | none => T1
    H := d.up ++ H1 }

def wantedG (T : Tm) : Option (Nat × Bool) → Option Bool
  | none => some true
  | some (t, b) => match tget T t with
    | .p (.bool c) => some (c == b)
    | .tup [] => some false
    | _ => none

def operX (cf : CF) (raw : FuncId → Bool) (r i : Nat) (o : SOper) (st : St) : Option St :=
  match wantedG st.T o.guard with
  | some true => obind (opD cf raw r i st.T st.H o.op) fun d => some (putD o.dst d st.T st.H)
  | some false => some (putD o.dst { v := .tup [] } st.T st.H)
  | none => none

def opsX (cf : CF) (raw : FuncId → Bool) (r : Nat) : Nat → List SOper → St → Option St
  | _, [], st => some st
  | i, o :: rest, st => obind (operX cf raw r i o st) fun st => opsX cf raw r (i + 1) rest st

/-! ### Only these temporaries and variables are kept -/
def keepT (T : Tm) : List Nat → Tm
  | [] => []
  | i :: r => (i, tget T i) :: keepT T r
def exts (H : Hp) : Nat → Nat → Hp
  | _, 0 => []
  | k, n + 1 => (.ext k, hget H (.ext k)) :: exts H (k + 1) n
def keepH (H : Hp) : List Nm → Hp
  | [] => []
  | x :: r => (x, hget H x) :: keepH H r
def namesT : Tm → List Nm
  | [] => []
  | (_, v) :: r => v.names ++ namesT r
def namesH : Hp → List Nm
  | [] => []
  | (_, some o) :: r => o.names ++ namesH r
  | (_, none) :: r => namesH r
def allIn (H : Hp) : List Nm → Bool
  | [] => true
  | x :: r => (hget H x).isSome && allIn H r

def cutX (n : Nat) (kt : List Nat) (kh : List Nm) (st : St) : Option St :=
  let T := keepT st.T kt
  let H := exts st.H 0 n ++ keepH st.H kh
  if allIn H (namesT T) && allIn H (namesH H) then some { T, H } else none

inductive Ex where
  | nrm
  | ex (id : Nat)
  | ret
  deriving DecidableEq

def loopN (f : St → Option (Ex × St)) : Nat → St → Option (Ex × St)
  | 0, _ => none
  | n + 1, st => match f st with
    | some (.nrm, st) => loopN f n st
    | r => r

/-- The operands of an operation. -/
def opds : SOp → List Opd
  | .mv x => [x]
  | .nnew _ => []
  | .pick c a b => [c, a, b]
  | .alloc _ => []
  | .box x => [x]
  | .build _ ps => ps.map (·.2.2)
  | .bslice _ _ ps => ps
  | .load _ _ x => [x]
  | .store _ x v => [x, v]
  | .nilck x => [x]
  | .bin _ x y => [x, y]
  | .bbin _ x y => [x, y]
  | .isnil x => [x]
  | .eqs _ _ x y => [x, y]
  | .un _ x => [x]
  | .conv _ x => [x]
  | .mkfn _ a b => a ++ b
  | .mkslice _ n => [n]
  | .slice _ x lo hi mx => x :: (lo.toList ++ hi.toList ++ mx.toList)
  | .substr x lo hi => x :: (lo.toList ++ hi.toList)
  | .faddr _ x => [x]
  | .fld _ _ _ x => [x]
  | .iaddr _ x i => [x, i]
  | .sidx x i => [x, i]
  | .aidx _ _ _ x i => [x, i]
  | .ext x _ => [x]
  | .call f args => f :: args
  | .len _ x => [x]
  | .append _ x y => [x, y]
  | .mx x y => [x, y]
  | .mn x y => [x, y]
  | .clear _ x => [x]
  | .shrink _ x h => [x, h]

/-- Operations that neither look at variables nor make any. -/
def pureS : SOp → Bool
  | .mv _ | .pick .. | .build .. | .nilck _ | .bin .. | .bbin .. | .isnil _ | .eqs .. | .un .. | .conv .. | .mkfn .. | .substr .. | .faddr .. | .fld .. | .sidx .. | .aidx .. | .ext .. | .len .. | .mx .. | .mn .. => true
  | _ => false
/-- Operations that move no slice. -/
def noPgS : SOp → Bool
  | .append .. => false
  | _ => true

def objNs (H : Hp) : List Nm → List Nm
  | [] => []
  | x :: r => match hget H x with
    | some o => o.names ++ objNs H r
    | none => objNs H r

/-- What a call may look at. -/
def callFp (raw : Bool) (H : Hp) (args : List AV) : List Nm :=
  match allP args with
  | some _ => []
  | none =>
    if raw then match reach H 64 (namesL args) [] with
      | some ns => ns
      | none => []
    else match frzL H args with
      | none => []
      | some args' =>
        match reach (frzUp H (frzNs args) ++ H) 64 (namesL args') [] with
        | none => []
        | some ns => match boxUps (frzUp H (frzNs args) ++ H) ns with
          | none => []
          | some b => match reach ((b ++ frzUp H (frzNs args)) ++ H) 64 (namesL args') [] with
            | none => []
            | some ns2 => namesL args ++ (ns ++ (objNs (frzUp H (frzNs args) ++ H) ns ++ ns2))

/-- What an operation may look at (of a region that draws). -/
def fp (raw : FuncId → Bool) (T : Tm) (H : Hp) : SOp → List Nm
  | .load _ _ x => (ev T x).names
  | .store _ a v => (ev T a).names ++ (ev T v).names
  | .slice _ x _ _ _ => (ev T x).names
  | .iaddr _ x _ => (ev T x).names
  | .bslice _ _ ps => namesL (evL T ps)
  | .append _ x y => (ev T x).names ++ (ev T y).names
  | .clear _ x => (ev T x).names
  | .shrink _ x _ => (ev T x).names
  | .call f args => match ev T f with
    | .fn g a b => callFp (raw g) H (a ++ evL T args ++ b)
    | _ => []
  | _ => []

end Go.Ab

/-! The executor of code, and its limit. -/
namespace Go.Ab
open Go

def upNames : Hp → List Nm
  | [] => []
  | (x, _) :: r => x :: upNames r

def opdT : Opd → List Nat
  | .t i => [i]
  | _ => []
def guardT : Option (Nat × Bool) → List Nat
  | some (t, _) => [t]
  | none => []
def readsT (o : SOper) : List Nat := (opds o.op).flatMap opdT ++ guardT o.guard
mutual
/-- Nothing of it is unknown. -/
def AV.whole : AV → Bool
  | .undef => false
  | .agg cs => wholeL cs
  | .tup cs => wholeL cs
  | .fn _ a b => wholeL a && wholeL b
  | _ => true
def wholeL : List AV → Bool
  | [] => true
  | v :: r => v.whole && wholeL r
end
def objWhole : Option AObj → Bool
  | some (.box cs) => wholeL cs
  | some (.arr cs) => wholeL cs
  | _ => true
def footV (T : Tm) (o : SOper) : List AV := (readsT o).map (tget T)
def footO (H : Hp) (ns : List Nm) : List (Option AObj) := ns.map (hget H)
/-- What an operation may have read: names; the values it was given, the variables of those names. -/
structure Foot where
  ns : List Nm
  vs : List AV
  os : List (Option AObj)
/-- What an executed operation met: what it may have read, what it wrote, whether it moved nothing. -/
structure Ent where
  rd : Foot
  wr : List Nm
  st : Bool
  v : AV
  up : Hp
abbrev Log := List Ent

/-- An operation, if it is wanted; what it met. -/
def outX (cf : CF) (raw : FuncId → Bool) (r i : Nat) (o : SOper) (st : St) : Option (Dl × Foot) :=
  match wantedG st.T o.guard with
  | some true => obind (opD cf raw r i st.T st.H o.op) fun d => some (d, ⟨fp raw st.T st.H o.op, footV st.T o, footO st.H (fp raw st.T st.H o.op)⟩)
  | some false => some ({ v := .tup [] }, ⟨[], footV st.T o, []⟩)
  | none => none

def opsLX (cf : CF) (raw : FuncId → Bool) (r : Nat) : Nat → List SOper → St → Log → Option (St × Log)
  | _, [], st, l => some (st, l)
  | i, o :: rest, st, l => obind (outX cf raw r i o st) fun x =>
    opsLX cf raw r (i + 1) rest (putD o.dst x.1 st.T st.H) (l ++ [⟨x.2, upNames x.1.up, x.1.pg.isNone, x.1.v, x.1.up⟩])

def disj (a b : List Nm) : Bool := a.all fun x => !b.contains x
/-- Not one of those that the i-th operation makes. -/
def offNm (r i : Nat) : Nm → Bool
  | .loc r' i' _ => !(r == r' && i == i')
  | .ext _ => true

def entOk (r i j : Nat) (a b : Ent) : Bool :=
  a.st && b.st && disj a.wr (b.rd.ns ++ b.wr) && disj b.wr a.rd.ns && a.wr.all (offNm r j) && b.wr.all (offNm r i)
/-- The first one moves a slice of its own; the second one writes nothing and meets nothing of it. -/
def entPg (r j : Nat) (a b : Ent) : Bool :=
  b.st && b.wr.isEmpty && disj a.wr b.rd.ns && disj a.wr b.v.names && a.wr.all (offNm r j) && b.rd.vs.all AV.whole && b.rd.os.all objWhole
/-- Two values that are the same (told of plain ones alone). -/
def sameV : AV → AV → Bool
  | .p (.int k n), .p (.int k' n') => if k = k' then (if n = n' then true else false) else false
  | .p (.str a), .p (.str b) => if a = b then true else false
  | .p (.bool a), .p (.bool b) => if a = b then true else false
  | _, _ => false
def sameVL : List AV → List AV → Bool
  | [], [] => true
  | a :: x, b :: y => sameV a b && sameVL x y
  | _, _ => false
def sameO : Option AObj → Option AObj → Bool
  | some (.box a), some (.box b) => sameVL a b
  | _, _ => false
def look : List Nm → List (Option AObj) → Nm → Option AObj
  | x :: ns, o :: os, y => if x = y then o else look ns os y
  | _, _, _ => none
/-- The second one writes nothing, and of what it meets the first one leaves all as it was. -/
def entRd (r j : Nat) (a b : Ent) : Bool :=
  a.st && b.st && b.wr.isEmpty && a.wr.all (offNm r j) && b.rd.ns.all fun x => !a.wr.contains x || sameO (look a.rd.ns a.rd.os x) (hget a.up x)
def pairOk (r : Nat) (l : Log) (p : Nat × Nat) : Bool :=
  match l[p.1]?, l[p.2]? with
  | some a, some b => entOk r p.1 p.2 a b || entPg r p.2 a b || entRd r p.2 a b
  | _, _ => false

def drawX (cf : CF) (raw : FuncId → Bool) (r : Nat) (ops : List SOper) (pairs : List (Nat × Nat)) (st : St) : Option St :=
  match pairs with
  | [] => opsX cf raw r 0 ops st
  | p :: ps => obind (opsLX cf raw r 0 ops st []) fun x => if (p :: ps).all (pairOk r x.2) = true then some x.1 else none

/-- One piece of code behind another. -/
def seqX (x : Option (Ex × St)) (k : St → Option (Ex × St)) : Option (Ex × St) :=
  match x with
  | some (.nrm, st) => k st
  | r => r
@[congr] theorem seqX_congr {x y : Option (Ex × St)} {k : St → Option (Ex × St)} (h : x = y) : seqX x k = seqX y k := by rw [h]
def blkX (id : Nat) (x : Option (Ex × St)) : Option (Ex × St) :=
  match x with
  | some (.ex id', st) => if id' = id then some (.nrm, st) else some (.ex id', st)
  | r => r

def keepE (id : Nat) : List (Nat × List Nat) → Option (List Nat)
  | [] => none
  | (j, k) :: r => if j = id then some k else keepE id r
/-- Behind some code: only what is wanted later. -/
def trimX (n : Nat) (kn kr : List Nat) (ke : List (Nat × List Nat)) (kh : List Nm) (x : Option (Ex × St)) : Option (Ex × St) :=
  match x with
  | some (.nrm, st) => obind (cutX n kn kh st) fun st => some (.nrm, st)
  | some (.ret, st) => obind (cutX n kr kh st) fun st => some (.ret, st)
  | some (.ex id, st) => match keepE id ke with
    | some k => obind (cutX n k kh st) fun st => some (.ex id, st)
    | none => some (.ex id, st)
  | none => none

def onB {α : Type} (v : AV) (a b : Option α) : Option α :=
  match v with
  | .p (.bool c) => if c = true then a else b
  | _ => none
@[congr] theorem onB_congr {α : Type} {v w : AV} {a b : Option α} (h : v = w) : onB v a b = onB w a b := by rw [h]

def argT : Nat → List AV → Tm
  | _, [] => []
  | i, v :: r => (i, v) :: argT (i + 1) r
def argH : Nat → List AObj → Hp
  | _, [] => []
  | i, o :: r => (.ext i, some o) :: argH (i + 1) r

def rvGet (T : Tm) (H : Hp) : RV → Option AV
  | .tmp t => some (tget T t)
  | .cell a agg size => match tget T a with
    | .ptr x o => loadD H agg size (.ptr x o)
    | _ => none
def rvGets (T : Tm) (H : Hp) : List RV → Option (List AV)
  | [] => some []
  | v :: r => match rvGet T H v, rvGets T H r with
    | some v, some r => some (v :: r)
    | _, _ => none

def tup1 : List AV → AV
  | [v] => v
  | vs => .tup vs

/-- Names at the end: those that came in stay, new ones follow. -/
def outNm (n : Nat) (ns : List Nm) : Nm → Option Nm
  | .ext k => if k < n then some (.ext k) else none
  | .loc r i j => (nidx (.loc r i j) ns 0).map fun k => .ext (n + k)

def extNs : Nat → Nat → List Nm
  | _, 0 => []
  | k, n + 1 => .ext k :: extNs (k + 1) n

/-- The end of a call: results, what came in, what is new. -/
def finish (F : SFn) (n : Nat) (st : St) : Option CR :=
  match rvGets st.T st.H F.rv with
  | none => none
  | some vs =>
    if n = 0 then match allP vs with   -- the common case
      | some _ => some { v := tup1 vs, outs := [], news := [] }
      | none => finishG F n st vs
    else finishG F n st vs
where
  finishG (F : SFn) (n : Nat) (st : St) (vs : List AV) : Option CR :=
    match (if F.rawR then some vs else frzL st.H vs) with
    | none => none
    | some vs' =>
      let H1 := if F.rawR then st.H else frzUp st.H (frzNs vs) ++ st.H
      match reach H1 64 (extNs 0 n ++ namesL vs') [] with
      | none => none
      | some all =>
        let ns := all.drop n
        if all.take n = extNs 0 n then
          match renL (outNm n ns) vs', hgets H1 (extNs 0 n), hgets H1 ns with
          | some vs, some os, some news => match renOs (outNm n ns) os, renOs (outNm n ns) news with
            | some outs, some news => some { v := tup1 vs, outs, news }
            | _, _ => none
          | _, _, _ => none
        else none

/-! ### Rounds over a slice of whole numbers, from its end -/
def renT (f : Nm → Option Nm) : Tm → Option Tm
  | [] => some []
  | (i, v) :: r => match v.ren f, renT f r with
    | some v, some r => some ((i, v) :: r)
    | _, _ => none
/-- What a round is handed. -/
def roundIn (ns : List Nm) (T : Tm) (H : Hp) : Option St :=
  match renT (toExt ns) T, hgets H ns with
  | some T, some os => match renOs (toExt ns) os with
    | some os => some { T := T, H := argH 0 os }
    | none => none
  | _, _ => none
def rvF : SFn := { body := .skip, rv := [] }
/-- These variables have changed so. -/
def updH (u : Hp) : Hp → Hp
  | [] => []
  | (x, o) :: r => (x, if (upNames u).contains x = true then hget u x else o) :: updH u r
/-- What a round has left. -/
def roundOut (ns : List Nm) (H : Hp) (st : St) : Option Hp :=
  match finish rvF ns.length st with
  | some c => match c.news, renOs (fromExt ns 0 0) c.outs with
    | [], some outs => some (updH (zipUp ns outs) H)
    | _, _ => none
  | none => none
def roundX (f : St → Option (Ex × St)) (ns : List Nm) (T : Tm) (p q : Nat) (i z : Int) (H : Hp) : Option (Ex × Hp) :=
  obind (roundIn ns T H) fun st => obind (f { T := (q, .p (.int .i64 z)) :: (p, .p (.int .i64 i)) :: st.T, H := st.H }) fun r =>
    obind (roundOut ns H r.2) fun H' => some (r.1, H')
def intsOf : List PV → Option (List Int)
  | [] => some []
  | .int .i64 n :: r => match intsOf r with
    | some zs => some (n :: zs)
    | none => none
  | _ => none
def capAt (H : Hp) (y : Nm) : Option (List Int) :=
  match hget H y with
  | some (.box [.p (.sl 1 es)]) => intsOf es
  | _ => none
def capOf (g : FuncId) (H : Hp) : AV → Option (Nm × List Int)
  | .fn g' [] [.ptr y 0] => if g' = g then match capAt H y with
      | some zs => if zs.length ≤ most then some (y, zs) else none
      | none => none
    else none
  | _ => none
def nextX (y : Nm) (zs : List Int) (f : Hp → Option (Ex × Hp)) : Ex × Hp → Option (Ex × Hp)
  | (e, H) => if capAt H y = some zs then (match e with
      | .nrm => f H
      | e => some (e, H)) else none
def roundsX (f : Int → Int → Hp → Option (Ex × Hp)) (y : Nm) (zs : List Int) : Nat → Hp → Option (Ex × Hp)
  | 0, H => some (.nrm, H)
  | k + 1, H => obind zs[k]? fun z => obind (f k z H) (nextX y zs (roundsX f y zs k))
/-- Code that must end as it should, and what follows. -/
def nrmX (x : Option (Ex × St)) (k : St → Option (Ex × St)) : Option (Ex × St) :=
  obind x fun r => match r with
    | (.nrm, st) => k st
    | _ => none
def backX (f : Nat → St → Option (Ex × St)) (g : FuncId) (v : AV) (p q : Nat) (T : Tm) (H : Hp) : Option (Ex × St) :=
  obind (capOf g H v) fun c => obind (reach H 64 (namesT T) []) fun ns =>
    obind (roundsX (roundX (f ns.length) ns T p q) c.1 c.2 c.2.length H) fun r => some (r.1, { T := T, H := r.2 })

def sexec (cf : CF) (raw : FuncId → Bool) (n k : Nat) : SCode → St → Option (Ex × St)
  | .skip, st => some (.nrm, st)
  | .reg r ops, st => obind (opsX cf raw r 0 ops st) fun st => some (.nrm, st)
  | .draw r ops pairs, st => obind (drawX cf raw r ops pairs st) fun st => some (.nrm, st)
  | .seq a b, st => seqX (sexec cf raw n k a st) fun st => sexec cf raw n k b st
  | .cond c a b, st => onB (ev st.T c) (sexec cf raw n k a st) (sexec cf raw n k b st)
  | .blk id b, st => blkX id (sexec cf raw n k b st)
  | .loop kt kh b, st => loopN (fun st => obind (cutX n kt kh st) fun st => sexec cf raw n k b st) k st
  | .exit id, st => some (.ex id, st)
  | .ret, st => some (.ret, st)
  | .cut kt kh, st => obind (cutX n kt kh st) fun st => some (.nrm, st)
  | .trim kn kr ke kh b, st => trimX n kn kr ke kh (sexec cf raw n k b st)
  | .rback g x p q kt kh a b, st => obind (cutX n kt kh st) fun st => backX (fun n st => nrmX (sexec cf raw n k a st) fun st => sexec cf raw n k b st) g (ev st.T x) p q st.T st.H

def endX (F : SFn) (n : Nat) (x : Option (Ex × St)) : Option CR :=
  match x with
  | some (.nrm, st) => finish F n st
  | some (.ret, st) => finish F n st
  | _ => none

/-- The functions; what is known of those that have no code here. -/
structure Env where
  fn : FuncId → Option SFn
  ex : CF := fun _ _ _ => none

def Env.raw (E : Env) (f : FuncId) : Bool :=
  match E.fn f with
  | some F => F.rawA
  | none => false

def acall (E : Env) : Nat → CF
  | 0, _, _, _ => none
  | k + 1, f, args, objs => match E.fn f with
    | none => E.ex f args objs
    | some F => endX F objs.length (sexec (acall E k) E.raw objs.length k F.body { T := argT 0 args, H := argH 0 objs })

end Go.Ab

/-! The limit of the executor: no rounds to count. -/
namespace Go.Ab
open Go

/-- Calls that were asked, and what they came to. -/
structure Ask where
  f : FuncId
  a : List AV
  o : List AObj
  c : CR
def Ask.sat (cf : CF) (q : Ask) : Prop := cf q.f q.a q.o = some q.c
def Sats (cf : CF) (Q : List Ask) : Prop := ∀ q ∈ Q, q.sat cf

theorem Sats.nil (cf : CF) : Sats cf [] := fun _ h => by cases h
theorem Sats.append {cf : CF} {Q R : List Ask} : Sats cf (Q ++ R) ↔ Sats cf Q ∧ Sats cf R := by
  unfold Sats
  constructor
  · exact fun h => ⟨fun q hq => h q (List.mem_append_left _ hq), fun q hq => h q (List.mem_append_right _ hq)⟩
  · rintro ⟨h, g⟩ q hq
    rcases List.mem_append.1 hq with h' | h'
    · exact h q h'
    · exact g q h'

/-- What comes out hangs on finitely many calls. -/
structure FinQ {α : Type} (Φ : CF → Option α) : Prop where
  mk :: (out : ∀ cf r, Φ cf = some r → ∃ Q, Sats cf Q ∧ ∀ cf', Sats cf' Q → Φ cf' = some r)

theorem FinQ.const {α : Type} (x : Option α) : FinQ fun _ => x := ⟨fun cf _ h => ⟨[], Sats.nil cf, fun _ _ => h⟩⟩

theorem FinQ.ask (f : FuncId) (a : List AV) (o : List AObj) : FinQ fun cf => cf f a o :=
  ⟨fun _ r h => ⟨[⟨f, a, o, r⟩], by
    refine ⟨fun q hq => ?_, fun cf' h' => h' _ List.mem_cons_self⟩
    rcases List.mem_singleton.1 hq with rfl
    exact h⟩⟩

theorem FinQ.bind {α β : Type} {Φ : CF → Option α} {Ψ : α → CF → Option β} (h : FinQ Φ) (g : ∀ a, FinQ (Ψ a)) :
    FinQ fun cf => obind (Φ cf) fun a => Ψ a cf := by
  refine ⟨fun cf r hr => ?_⟩
  cases hp : Φ cf with
  | none => simp [hp, obind_none] at hr
  | some a =>
    simp only [hp, obind_some] at hr
    obtain ⟨Q, hQ, h1⟩ := h.out cf a hp
    obtain ⟨R, hR, h2⟩ := (g a).out cf r hr
    refine ⟨Q ++ R, Sats.append.2 ⟨hQ, hR⟩, fun cf' hs => ?_⟩
    obtain ⟨s1, s2⟩ := Sats.append.1 hs
    simp only [h1 cf' s1, obind_some]
    exact h2 cf' s2

theorem FinQ.map {α β : Type} {Φ : CF → Option α} (h : FinQ Φ) (g : Option α → Option β) (h0 : g none = none) : FinQ fun cf => g (Φ cf) := by
  refine ⟨fun cf r hr => ?_⟩
  cases hp : Φ cf with
  | none => rw [hp, h0] at hr; cases hr
  | some a =>
    obtain ⟨Q, hQ, h1⟩ := h.out cf a hp
    exact ⟨Q, hQ, fun cf' hs => by rw [h1 cf' hs]; rw [hp] at hr; exact hr⟩

theorem callNs_fin (H : Hp) (r i : Nat) (f : FuncId) (args : List AV) (ups : Hp) : FinQ fun cf => callNs cf H r i f args ups := by
  unfold callNs
  split
  · exact FinQ.const _
  · split
    · split
      · exact (FinQ.ask f _ _).map (callEnd H r i _ ups) rfl
      · exact FinQ.const _
    · exact FinQ.const _

theorem callD_fin (raw : Bool) (H : Hp) (r i : Nat) (f : FuncId) (args : List AV) : FinQ fun cf => callD cf raw H r i f args := by
  unfold callD
  cases allP args with
  | some _ => exact (FinQ.ask f _ _).map (callEnd H r i [] []) rfl
  | none =>
    cases raw with
    | true => exact callNs_fin ..
    | false =>
      cases frzL H args with
      | none => exact FinQ.const _
      | some args' =>
        dsimp only
        cases allP args' with
        | some _ => exact (FinQ.ask f _ _).map (lendEnd H r i _) rfl
        | none =>
          dsimp only
          cases reach (frzUp H (frzNs args) ++ H) 64 (namesL args') [] with
          | none => exact FinQ.const _
          | some ns =>
            dsimp only
            cases boxUps (frzUp H (frzNs args) ++ H) ns with
            | none => exact FinQ.const _
            | some b => exact callNs_fin ..

theorem opD_fin (raw : FuncId → Bool) (r i : Nat) (T : Tm) (H : Hp) (o : SOp) : FinQ fun cf => opD cf raw r i T H o := by
  cases o with
  | call f args =>
    simp only [opD]
    split
    · exact callD_fin ..
    · exact FinQ.const _
  | len s x => cases s <;> exact FinQ.const _
  | _ => exact FinQ.const _

theorem operX_fin (raw : FuncId → Bool) (r i : Nat) (o : SOper) (st : St) : FinQ fun cf => operX cf raw r i o st := by
  unfold operX
  split
  · exact (opD_fin raw r i st.T st.H o.op).bind fun d => FinQ.const (some (putD o.dst d st.T st.H))
  · exact FinQ.const _
  · exact FinQ.const _

theorem opsX_fin (raw : FuncId → Bool) (r : Nat) (ops : List SOper) : ∀ (i : Nat) (st : St), FinQ fun cf => opsX cf raw r i ops st := by
  induction ops with
  | nil => exact fun i st => FinQ.const _
  | cons o rest ih =>
    intro i st
    simp only [opsX]
    exact (operX_fin raw r i o st).bind fun st => ih (i + 1) st

theorem outX_fin (raw : FuncId → Bool) (r i : Nat) (o : SOper) (st : St) : FinQ fun cf => outX cf raw r i o st := by
  unfold outX
  split
  · exact (opD_fin raw r i st.T st.H o.op).bind fun d => FinQ.const (some (d, (⟨fp raw st.T st.H o.op, footV st.T o, footO st.H (fp raw st.T st.H o.op)⟩ : Foot)))
  · exact FinQ.const _
  · exact FinQ.const _

theorem opsLX_fin (raw : FuncId → Bool) (r : Nat) (ops : List SOper) : ∀ (i : Nat) (st : St) (l : Log), FinQ fun cf => opsLX cf raw r i ops st l := by
  induction ops with
  | nil => exact fun i st l => FinQ.const _
  | cons o rest ih =>
    intro i st l
    simp only [opsLX]
    exact (outX_fin raw r i o st).bind fun x => ih (i + 1) _ _

theorem drawX_fin (raw : FuncId → Bool) (r : Nat) (ops : List SOper) (pairs : List (Nat × Nat)) (st : St) : FinQ fun cf => drawX cf raw r ops pairs st := by
  cases pairs with
  | nil => exact opsX_fin raw r ops 0 st
  | cons p ps =>
    unfold drawX
    exact (opsLX_fin raw r ops 0 st []).bind fun x => FinQ.const (if (p :: ps).all (pairOk r x.2) then some x.1 else none)

/-- As FinQ, with rounds. -/
structure FinK {α : Type} (Φ : CF → Nat → Option α) : Prop where
  mk :: (out : ∀ cf k r, Φ cf k = some r → ∃ Q, Sats cf Q ∧ ∀ cf' k', k ≤ k' → Sats cf' Q → Φ cf' k' = some r)

theorem FinQ.toK {α : Type} {Φ : CF → Option α} (h : FinQ Φ) : FinK fun cf _ => Φ cf :=
  ⟨fun cf _ r hr => let ⟨Q, h1, h2⟩ := h.out cf r hr; ⟨Q, h1, fun cf' _ _ hs => h2 cf' hs⟩⟩

theorem loopN_fin {f : CF → Nat → St → Option (Ex × St)} (h : ∀ st, FinK fun cf k => f cf k st) (j : Nat) :
    ∀ (cf : CF) (k : Nat) (st : St) (r : Ex × St), loopN (f cf k) j st = some r →
      ∃ Q, Sats cf Q ∧ ∀ cf' k' j', k ≤ k' → j ≤ j' → Sats cf' Q → loopN (f cf' k') j' st = some r := by
  induction j with
  | zero => intro cf k st r hr; simp [loopN] at hr
  | succ j ih =>
    intro cf k st r hr
    simp only [loopN] at hr
    cases hf : f cf k st with
    | none => simp [hf] at hr
    | some x =>
      obtain ⟨e, st'⟩ := x
      obtain ⟨Q, hQ, h1⟩ := (h st).out cf k _ hf
      cases e with
      | nrm =>
        simp only [hf] at hr
        obtain ⟨R, hR, h2⟩ := ih cf k st' r hr
        refine ⟨Q ++ R, Sats.append.2 ⟨hQ, hR⟩, fun cf' k' j' hk hj hs => ?_⟩
        obtain ⟨s1, s2⟩ := Sats.append.1 hs
        obtain ⟨m, rfl⟩ : ∃ m, j' = m + 1 := ⟨j' - 1, by omega⟩
        simp only [loopN, h1 cf' k' hk s1]
        exact h2 cf' k' m hk (by omega) s2
      | ex id =>
        simp only [hf] at hr
        refine ⟨Q, hQ, fun cf' k' j' hk hj hs => ?_⟩
        obtain ⟨m, rfl⟩ : ∃ m, j' = m + 1 := ⟨j' - 1, by omega⟩
        simp only [loopN, h1 cf' k' hk hs]
        exact hr
      | ret =>
        simp only [hf] at hr
        refine ⟨Q, hQ, fun cf' k' j' hk hj hs => ?_⟩
        obtain ⟨m, rfl⟩ : ∃ m, j' = m + 1 := ⟨j' - 1, by omega⟩
        simp only [loopN, h1 cf' k' hk hs]
        exact hr

theorem FinK.bind {α β : Type} {Φ : CF → Nat → Option α} {Ψ : α → CF → Nat → Option β} (h : FinK Φ) (g : ∀ a, FinK (Ψ a)) :
    FinK fun cf k => obind (Φ cf k) fun a => Ψ a cf k := by
  refine ⟨fun cf k r hr => ?_⟩
  cases hp : Φ cf k with
  | none => simp [hp, obind_none] at hr
  | some a =>
    simp only [hp, obind_some] at hr
    obtain ⟨Q, hQ, h1⟩ := h.out cf k a hp
    obtain ⟨R, hR, h2⟩ := (g a).out cf k r hr
    refine ⟨Q ++ R, Sats.append.2 ⟨hQ, hR⟩, fun cf' k' hk hs => ?_⟩
    obtain ⟨s1, s2⟩ := Sats.append.1 hs
    simp only [h1 cf' k' hk s1, obind_some]
    exact h2 cf' k' hk s2
theorem FinK.const {α : Type} (x : Option α) : FinK fun _ _ => x := (FinQ.const x).toK
theorem FinK.nq {Φ : CF → Nat → Option (Ex × St)} {Ψ : CF → Nat → St → Option (Ex × St)} (h : FinK Φ) (g : ∀ st, FinK fun cf k => Ψ cf k st) :
    FinK fun cf k => nrmX (Φ cf k) fun st => Ψ cf k st := by
  unfold nrmX
  refine h.bind fun x => ?_
  obtain ⟨e, st⟩ := x
  cases e with
  | nrm => exact g st
  | ex id => exact FinK.const _
  | ret => exact FinK.const _
theorem roundX_fin {f : CF → Nat → St → Option (Ex × St)} (h : ∀ st, FinK fun cf k => f cf k st) (ns : List Nm) (T : Tm) (p q : Nat) (i z : Int) (H : Hp) :
    FinK fun cf k => roundX (f cf k) ns T p q i z H := by
  unfold roundX
  refine (FinK.const _).bind fun st => (h _).bind fun r => FinK.const _
theorem nextX_fin {f : CF → Nat → Hp → Option (Ex × Hp)} (h : ∀ H, FinK fun cf k => f cf k H) (y : Nm) (zs : List Int) (x : Ex × Hp) : FinK fun cf k => nextX y zs (f cf k) x := by
  obtain ⟨e, H⟩ := x
  simp only [nextX]
  split
  · cases e with
    | nrm => exact h H
    | ex id => exact FinK.const _
    | ret => exact FinK.const _
  · exact FinK.const _
theorem roundsX_fin {f : CF → Nat → Int → Int → Hp → Option (Ex × Hp)} (h : ∀ i z H, FinK fun cf k => f cf k i z H) (y : Nm) (zs : List Int) : ∀ (j : Nat) (H : Hp), FinK fun cf k => roundsX (f cf k) y zs j H
  | 0, H => FinK.const _
  | j + 1, H => by
    simp only [roundsX]
    exact (FinK.const _).bind fun z => (h _ _ _).bind fun x => nextX_fin (fun H => roundsX_fin h y zs j H) y zs x
theorem backX_fin {f : CF → Nat → Nat → St → Option (Ex × St)} (h : ∀ n st, FinK fun cf k => f cf k n st) (g : FuncId) (v : AV) (p q : Nat) (T : Tm) (H : Hp) : FinK fun cf k => backX (f cf k) g v p q T H := by
  unfold backX
  exact (FinK.const _).bind fun c => (FinK.const _).bind fun ns => (roundsX_fin (fun i z H => roundX_fin (h _) ns T p q i z H) _ _ _ _).bind fun r => FinK.const _

theorem sexec_fin (raw : FuncId → Bool) (n : Nat) (c : SCode) : ∀ st, FinK fun cf k => sexec cf raw n k c st := by
  induction c generalizing n with
  | skip => exact fun st => (FinQ.const _).toK
  | exit id => exact fun st => (FinQ.const _).toK
  | ret => exact fun st => (FinQ.const _).toK
  | cut kt kh => exact fun st => (FinQ.const _).toK
  | reg r ops => exact fun st => ((opsX_fin raw r ops 0 st).bind fun st => FinQ.const (some (Ex.nrm, st))).toK
  | draw r ops pairs => exact fun st => ((drawX_fin raw r ops pairs st).bind fun st => FinQ.const (some (Ex.nrm, st))).toK
  | seq a b iha ihb =>
    refine fun st => ⟨fun cf k r hr => ?_⟩
    simp only [sexec, seqX, blkX] at hr ⊢
    cases ha : sexec cf raw n k a st with
    | none => simp [ha] at hr
    | some x =>
      obtain ⟨e, st'⟩ := x
      obtain ⟨Q, hQ, h1⟩ := (iha n st).out cf k _ ha
      cases e with
      | nrm =>
        simp only [ha] at hr
        obtain ⟨R, hR, h2⟩ := (ihb n st').out cf k r hr
        refine ⟨Q ++ R, Sats.append.2 ⟨hQ, hR⟩, fun cf' k' hk hs => ?_⟩
        obtain ⟨s1, s2⟩ := Sats.append.1 hs
        simp only [h1 cf' k' hk s1]
        exact h2 cf' k' hk s2
      | ex id => simp only [ha] at hr; exact ⟨Q, hQ, fun cf' k' hk hs => by simp only [h1 cf' k' hk hs]; exact hr⟩
      | ret => simp only [ha] at hr; exact ⟨Q, hQ, fun cf' k' hk hs => by simp only [h1 cf' k' hk hs]; exact hr⟩
  | cond c a b iha ihb =>
    refine fun st => ⟨fun cf k r hr => ?_⟩
    simp only [sexec, onB] at hr ⊢
    split at hr
    · rename_i c' hc
      split at hr
      · rename_i ht
        obtain ⟨Q, hQ, h1⟩ := (iha n st).out cf k r hr
        exact ⟨Q, hQ, fun cf' k' hk hs => by simp only [ht, if_true]; exact h1 cf' k' hk hs⟩
      · rename_i ht
        obtain ⟨Q, hQ, h1⟩ := (ihb n st).out cf k r hr
        exact ⟨Q, hQ, fun cf' k' hk hs => by simp only [ht]; exact h1 cf' k' hk hs⟩
    · cases hr
  | blk id b ih =>
    refine fun st => ⟨fun cf k r hr => ?_⟩
    simp only [sexec, seqX, blkX] at hr ⊢
    cases hb : sexec cf raw n k b st with
    | none => simp [hb] at hr
    | some x =>
      obtain ⟨Q, hQ, h1⟩ := (ih n st).out cf k _ hb
      refine ⟨Q, hQ, fun cf' k' hk hs => ?_⟩
      simp only [h1 cf' k' hk hs]
      rw [hb] at hr
      exact hr
  | trim kn kr ke kh b ih =>
    refine fun st => ⟨fun cf k r hr => ?_⟩
    simp only [sexec] at hr ⊢
    cases hb : sexec cf raw n k b st with
    | none => simp [hb, trimX] at hr
    | some x =>
      obtain ⟨Q, hQ, h1⟩ := (ih n st).out cf k _ hb
      refine ⟨Q, hQ, fun cf' k' hk hs => ?_⟩
      simp only [h1 cf' k' hk hs]
      rw [hb] at hr
      exact hr
  | loop kt kh b ih =>
    refine fun st => ⟨fun cf k r hr => ?_⟩
    simp only [sexec, seqX, blkX] at hr ⊢
    have hf : ∀ st, FinK fun cf k => obind (cutX n kt kh st) fun st => sexec cf raw n k b st := by
      intro st
      cases cutX n kt kh st with
      | none => exact (FinQ.const none).toK
      | some st => exact ih n st
    obtain ⟨Q, hQ, h1⟩ := loopN_fin hf k cf k st r hr
    exact ⟨Q, hQ, fun cf' k' hk hs => h1 cf' k' k' hk hk hs⟩
  | rback g x p q kt kh a b iha ihb =>
    exact fun st => (FinK.const (cutX n kt kh st)).bind fun st => backX_fin (f := fun cf k n st => nrmX (sexec cf raw n k a st) fun st => sexec cf raw n k b st) (fun n st => (iha n st).nq fun st => ihb n st) g (ev st.T x) p q st.T st.H

/-! ### The limit -/
def CF.le (a b : CF) : Prop := ∀ f x o r, a f x o = some r → b f x o = some r
theorem CF.le.sats {a b : CF} (h : CF.le a b) {Q : List Ask} (hs : Sats a Q) : Sats b Q := fun q hq => h _ _ _ _ (hs q hq)

theorem acall_le (E : Env) (k : Nat) : CF.le (acall E k) (acall E (k + 1)) := by
  induction k with
  | zero => intro f x o r h; simp [acall] at h
  | succ k ih =>
    intro f x o r h
    simp only [acall, endX] at h ⊢
    cases hF : E.fn f with
    | none => simp only [hF] at h ⊢; exact h
    | some F =>
      simp only [hF] at h ⊢
      cases hs : sexec (acall E k) E.raw o.length k F.body { T := argT 0 x, H := argH 0 o } with
      | none => simp [hs] at h
      | some y =>
        obtain ⟨Q, hQ, h1⟩ := (sexec_fin E.raw o.length F.body _).out _ _ _ hs
        rw [hs] at h
        have h2 := h1 (acall E (k + 1)) (k + 1) (by omega) (ih.sats hQ)
        simp only [acall, endX] at h2
        simp only [h2]
        exact h

theorem acall_mono (E : Env) {j k : Nat} (h : j ≤ k) : CF.le (acall E j) (acall E k) := by
  induction k with
  | zero => obtain rfl : j = 0 := by omega
            exact fun _ _ _ _ h => h
  | succ k ih =>
    rcases Nat.lt_or_ge j (k + 1) with h' | h'
    · exact fun f x o r hr => acall_le E k f x o r (ih (by omega) f x o r hr)
    · obtain rfl : j = k + 1 := by omega
      exact fun _ _ _ _ h => h

open Classical in
noncomputable def lim {α : Type} (g : Nat → Option α) : Option α := if h : ∃ r k, g k = some r then some (Classical.choose h) else none

theorem lim_iff {α : Type} {g : Nat → Option α} (hm : ∀ j k r, j ≤ k → g j = some r → g k = some r) (r : α) : lim g = some r ↔ ∃ k, g k = some r := by
  unfold lim
  constructor
  · intro h
    split at h
    · rename_i hx
      have := Classical.choose_spec hx
      simp only [Option.some.injEq] at h
      rw [h] at this
      exact this
    · cases h
  · rintro ⟨k, hk⟩
    have hx : ∃ r k, g k = some r := ⟨r, k, hk⟩
    rw [dif_pos hx]
    obtain ⟨k', hk'⟩ := Classical.choose_spec hx
    have h1 := hm k (max k k') r (Nat.le_max_left ..) hk
    have h2 := hm k' (max k k') _ (Nat.le_max_right ..) hk'
    rw [h1] at h2
    exact h2.symm

noncomputable def callW (E : Env) : CF := fun f x o => lim fun k => acall E k f x o
noncomputable def sexW (E : Env) (n : Nat) (c : SCode) (st : St) : Option (Ex × St) := lim fun k => sexec (acall E k) E.raw n k c st

theorem callW_iff (E : Env) (f : FuncId) (x : List AV) (o : List AObj) (r : CR) : callW E f x o = some r ↔ ∃ k, acall E k f x o = some r :=
  lim_iff (fun _ _ r h hr => acall_mono E h f x o r hr) r

theorem sexec_up (E : Env) {n : Nat} {c : SCode} {st : St} {r : Ex × St} {j k : Nat} (h : j ≤ k) (hr : sexec (acall E j) E.raw n j c st = some r) :
    sexec (acall E k) E.raw n k c st = some r := by
  obtain ⟨Q, hQ, h1⟩ := (sexec_fin E.raw n c st).out _ _ _ hr
  exact h1 _ _ h ((acall_mono E h).sats hQ)

theorem sexW_iff (E : Env) (n : Nat) (c : SCode) (st : St) (r : Ex × St) : sexW E n c st = some r ↔ ∃ k, sexec (acall E k) E.raw n k c st = some r :=
  lim_iff (fun _ _ _ h hr => sexec_up E h hr) r

theorem sats_limit (E : Env) {Q : List Ask} (h : Sats (callW E) Q) : ∃ k, Sats (acall E k) Q := by
  induction Q with
  | nil => exact ⟨0, Sats.nil _⟩
  | cons q Q ih =>
    obtain ⟨k, hk⟩ := ih fun q' hq => h q' (List.mem_cons_of_mem _ hq)
    obtain ⟨j, hj⟩ := (callW_iff E _ _ _ _).1 (h q List.mem_cons_self)
    refine ⟨max k j, fun q' hq => ?_⟩
    cases hq with
    | head => exact acall_mono E (Nat.le_max_right k j) _ _ _ _ hj
    | tail _ hq => exact acall_mono E (Nat.le_max_left k j) _ _ _ _ (hk q' hq)

theorem le_limit (E : Env) (k : Nat) : CF.le (acall E k) (callW E) := fun f x o r h => (callW_iff E f x o r).2 ⟨k, h⟩

theorem FinQ.limit {α : Type} {Φ : CF → Option α} (h : FinQ Φ) (E : Env) (r : α) : Φ (callW E) = some r ↔ ∃ k, Φ (acall E k) = some r := by
  constructor
  · intro hr
    obtain ⟨Q, hQ, h1⟩ := h.out _ _ hr
    obtain ⟨k, hk⟩ := sats_limit E hQ
    exact ⟨k, h1 _ hk⟩
  · rintro ⟨k, hk⟩
    obtain ⟨Q, hQ, h1⟩ := h.out _ _ hk
    exact h1 _ ((le_limit E k).sats hQ)

theorem opt_ext {α : Type} {x y : Option α} (h : ∀ r, x = some r ↔ y = some r) : x = y := by
  cases x with
  | some a => exact ((h a).1 rfl).symm
  | none => cases y with
    | none => rfl
    | some b => exact (h b).2 rfl

/-! ### The limit's equations -/
section
variable (E : Env) (n : Nat) (st : St)

theorem sexW_const {c : SCode} {x : Option (Ex × St)} (h : ∀ cf k, sexec cf E.raw n k c st = x) : sexW E n c st = x :=
  opt_ext fun r => by
    rw [sexW_iff]
    exact ⟨fun ⟨k, hk⟩ => (h _ k) ▸ hk, fun hr => ⟨0, (h _ 0).trans hr⟩⟩

theorem sexW_skip : sexW E n .skip st = some (.nrm, st) := sexW_const E n st fun _ _ => rfl
theorem sexW_exit (id : Nat) : sexW E n (.exit id) st = some (.ex id, st) := sexW_const E n st fun _ _ => rfl
theorem sexW_ret : sexW E n .ret st = some (.ret, st) := sexW_const E n st fun _ _ => rfl
theorem sexW_cut (kt : List Nat) (kh : List Nm) : sexW E n (.cut kt kh) st = obind (cutX n kt kh st) fun st => some (.nrm, st) := sexW_const E n st fun _ _ => rfl

theorem sexW_reg (r : Nat) (ops : List SOper) : sexW E n (.reg r ops) st = obind (opsX (callW E) E.raw r 0 ops st) fun st => some (.nrm, st) :=
  opt_ext fun x => by
    rw [sexW_iff]
    exact (((opsX_fin E.raw r ops 0 st).bind fun st => FinQ.const (some (Ex.nrm, st))).limit E x).symm

theorem sexW_draw (r : Nat) (ops : List SOper) (pairs : List (Nat × Nat)) : sexW E n (.draw r ops pairs) st = obind (drawX (callW E) E.raw r ops pairs st) fun st => some (.nrm, st) :=
  opt_ext fun x => by
    rw [sexW_iff]
    exact (((drawX_fin E.raw r ops pairs st).bind fun st => FinQ.const (some (Ex.nrm, st))).limit E x).symm

theorem sexW_seq (a b : SCode) : sexW E n (.seq a b) st = seqX (sexW E n a st) fun st => sexW E n b st := by
  refine opt_ext fun x => ?_
  rw [sexW_iff]
  constructor
  · rintro ⟨k, hk⟩
    simp only [sexec, seqX, blkX] at hk
    cases ha : sexec (acall E k) E.raw n k a st with
    | none => simp [ha] at hk
    | some y =>
      obtain ⟨e, st'⟩ := y
      rw [(sexW_iff E n a st _).2 ⟨k, ha⟩]
      rw [ha] at hk
      cases e with
      | nrm => exact (sexW_iff E n b st' x).2 ⟨k, hk⟩
      | _ => exact hk
  · intro h
    cases ha : sexW E n a st with
    | none => simp [ha, seqX, blkX] at h
    | some y =>
      obtain ⟨e, st'⟩ := y
      obtain ⟨k, hk⟩ := (sexW_iff E n a st _).1 ha
      rw [ha] at h
      cases e with
      | nrm =>
        obtain ⟨j, hj⟩ := (sexW_iff E n b st' x).1 h
        refine ⟨max k j, ?_⟩
        simp only [sexec, sexec_up E (Nat.le_max_left k j) hk]
        exact sexec_up E (Nat.le_max_right k j) hj
      | ex id => exact ⟨k, by simp only [sexec, hk]; exact h⟩
      | ret => exact ⟨k, by simp only [sexec, hk]; exact h⟩

theorem sexW_cond (c : Opd) (a b : SCode) : sexW E n (.cond c a b) st = onB (ev st.T c) (sexW E n a st) (sexW E n b st) := by
  refine opt_ext fun x => ?_
  rw [sexW_iff]
  simp only [sexec, seqX, blkX]
  generalize ev st.T c = v
  unfold onB
  split
  · rename_i c'
    cases c' with
    | true => simp only [if_true]; exact (sexW_iff ..).symm
    | false => simp only [Bool.false_eq_true, if_false]; exact (sexW_iff ..).symm
  · simp

theorem sexW_blk (id : Nat) (b : SCode) : sexW E n (.blk id b) st = blkX id (sexW E n b st) := by
  refine opt_ext fun x => ?_
  rw [sexW_iff]
  constructor
  · rintro ⟨k, hk⟩
    simp only [sexec, seqX, blkX] at hk
    cases ha : sexec (acall E k) E.raw n k b st with
    | none => simp [ha] at hk
    | some y =>
      rw [(sexW_iff E n b st _).2 ⟨k, ha⟩]
      rw [ha] at hk
      exact hk
  · intro h
    cases ha : sexW E n b st with
    | none => simp [ha, seqX, blkX] at h
    | some y =>
      obtain ⟨k, hk⟩ := (sexW_iff E n b st _).1 ha
      rw [ha] at h
      exact ⟨k, by simp only [sexec, hk]; exact h⟩

theorem sexW_trim (kn kr : List Nat) (ke : List (Nat × List Nat)) (kh : List Nm) (b : SCode) : sexW E n (.trim kn kr ke kh b) st = trimX n kn kr ke kh (sexW E n b st) := by
  refine opt_ext fun x => ?_
  rw [sexW_iff]
  constructor
  · rintro ⟨k, hk⟩
    simp only [sexec] at hk
    cases ha : sexec (acall E k) E.raw n k b st with
    | none => simp [ha, trimX] at hk
    | some y =>
      rw [(sexW_iff E n b st _).2 ⟨k, ha⟩]
      rw [ha] at hk
      exact hk
  · intro h
    cases ha : sexW E n b st with
    | none => simp [ha, trimX] at h
    | some y =>
      obtain ⟨k, hk⟩ := (sexW_iff E n b st _).1 ha
      rw [ha] at h
      exact ⟨k, by simp only [sexec, hk]; exact h⟩

/-- A round behind a round. -/
theorem sexW_loop (kt : List Nat) (kh : List Nm) (b : SCode) : sexW E n (.loop kt kh b) st = match cutX n kt kh st with
    | none => none
    | some st => match sexW E n b st with
      | some (.nrm, st) => sexW E n (.loop kt kh b) st
      | r => r := by
  refine opt_ext fun x => ?_
  rw [sexW_iff]
  have step : ∀ k j st, loopN (fun st => obind (cutX n kt kh st) fun st => sexec (acall E k) E.raw n k b st) (j + 1) st = match cutX n kt kh st with
      | none => none
      | some st => match sexec (acall E k) E.raw n k b st with
        | some (.nrm, st) => loopN (fun st => obind (cutX n kt kh st) fun st => sexec (acall E k) E.raw n k b st) j st
        | r => r := by
    intro k j st
    simp only [loopN]
    cases cutX n kt kh st with
    | none => rfl
    | some st => rfl
  constructor
  · rintro ⟨k, hk⟩
    simp only [sexec, seqX, blkX] at hk
    cases k with
    | zero => simp [loopN] at hk
    | succ k =>
      rw [step] at hk
      cases hc : cutX n kt kh st with
      | none => simp [hc] at hk
      | some st1 =>
        simp only [hc] at hk ⊢
        cases hb : sexec (acall E (k + 1)) E.raw n (k + 1) b st1 with
        | none => simp [hb] at hk
        | some y =>
          obtain ⟨e, st2⟩ := y
          rw [(sexW_iff E n b st1 _).2 ⟨k + 1, hb⟩]
          rw [hb] at hk
          cases e with
          | nrm =>
            refine (sexW_iff ..).2 ⟨k + 1, ?_⟩
            simp only [sexec, seqX, blkX]
            simp only at hk
            have hf : ∀ st, FinK fun cf k => obind (cutX n kt kh st) fun st => sexec cf E.raw n k b st := by
              intro st
              cases cutX n kt kh st with
              | none => exact (FinQ.const none).toK
              | some st => exact sexec_fin E.raw n b st
            obtain ⟨Q, hQ, h1⟩ := loopN_fin hf k _ _ _ _ hk
            exact h1 _ _ _ (Nat.le_refl _) (by omega) hQ
          | ex id => exact hk
          | ret => exact hk
  · intro h
    cases hc : cutX n kt kh st with
    | none => simp [hc] at h
    | some st1 =>
      simp only [hc] at h
      cases hb : sexW E n b st1 with
      | none => simp [hb] at h
      | some y =>
        obtain ⟨e, st2⟩ := y
        obtain ⟨k, hk⟩ := (sexW_iff E n b st1 _).1 hb
        rw [hb] at h
        cases e with
        | nrm =>
          simp only at h
          obtain ⟨j, hj⟩ := (sexW_iff ..).1 h
          simp only [sexec, seqX, blkX] at hj
          refine ⟨max k j + 1, ?_⟩
          simp only [sexec, seqX, blkX]
          rw [step]
          simp only [hc]
          rw [sexec_up E (show k ≤ max k j + 1 by omega) hk]
          simp only
          have hf : ∀ st, FinK fun cf k => obind (cutX n kt kh st) fun st => sexec cf E.raw n k b st := by
            intro st
            cases cutX n kt kh st with
            | none => exact (FinQ.const none).toK
            | some st => exact sexec_fin E.raw n b st
          obtain ⟨Q, hQ, h1⟩ := loopN_fin hf j _ _ _ _ hj
          exact h1 _ _ _ (by omega) (by omega) ((acall_mono E (by omega)).sats hQ)
        | ex id =>
          refine ⟨k + 1, ?_⟩
          simp only [sexec, seqX, blkX]
          rw [step]
          simp only [hc]
          rw [sexec_up E (show k ≤ k + 1 by omega) hk]
          exact h
        | ret =>
          refine ⟨k + 1, ?_⟩
          simp only [sexec, seqX, blkX]
          rw [step]
          simp only [hc]
          rw [sexec_up E (show k ≤ k + 1 by omega) hk]
          exact h
end

/-- What a row of things comes to. -/
structure LimOf {α : Type} (x : Option α) (Φ : Nat → Option α) : Prop where
  mono : ∀ j k r, j ≤ k → Φ j = some r → Φ k = some r
  iff : ∀ r, x = some r ↔ ∃ k, Φ k = some r
theorem LimOf.const {α : Type} (x : Option α) : LimOf x fun _ => x := ⟨fun _ _ _ _ h => h, fun r => ⟨fun h => ⟨0, h⟩, fun ⟨_, h⟩ => h⟩⟩
theorem LimOf.bind {α β : Type} {x : Option α} {Φ : Nat → Option α} {y : α → Option β} {Ψ : α → Nat → Option β} (h : LimOf x Φ) (g : ∀ a, LimOf (y a) (Ψ a)) :
    LimOf (obind x y) fun k => obind (Φ k) fun a => Ψ a k := by
  constructor
  · intro j k r hjk hr
    cases hp : Φ j with
    | none => simp [hp, obind_none] at hr
    | some a =>
      simp only [hp, obind_some] at hr
      simp only [h.mono j k a hjk hp, obind_some]
      exact (g a).mono j k r hjk hr
  · intro r
    constructor
    · intro hr
      cases hx : x with
      | none => simp [hx, obind_none] at hr
      | some a =>
        simp only [hx, obind_some] at hr
        obtain ⟨j, hj⟩ := (h.iff a).1 hx
        obtain ⟨k, hk⟩ := ((g a).iff r).1 hr
        refine ⟨max j k, ?_⟩
        simp only [h.mono j _ a (Nat.le_max_left j k) hj, obind_some]
        exact (g a).mono k _ r (Nat.le_max_right j k) hk
    · rintro ⟨k, hk⟩
      cases hp : Φ k with
      | none => simp [hp, obind_none] at hk
      | some a =>
        simp only [hp, obind_some] at hk
        rw [(h.iff a).2 ⟨k, hp⟩, obind_some]
        exact ((g a).iff r).2 ⟨k, hk⟩
theorem LimOf.nq {x : Option (Ex × St)} {Φ : Nat → Option (Ex × St)} {y : St → Option (Ex × St)} {Ψ : St → Nat → Option (Ex × St)} (h : LimOf x Φ) (g : ∀ a, LimOf (y a) (Ψ a)) :
    LimOf (nrmX x y) fun k => nrmX (Φ k) fun a => Ψ a k := by
  unfold nrmX
  refine h.bind fun r => ?_
  obtain ⟨e, st⟩ := r
  cases e with
  | nrm => exact g st
  | ex id => exact LimOf.const _
  | ret => exact LimOf.const _
theorem LimOf.sex (E : Env) (n : Nat) (c : SCode) (st : St) : LimOf (sexW E n c st) fun k => sexec (acall E k) E.raw n k c st :=
  ⟨fun _ _ _ h hr => sexec_up E h hr, fun r => sexW_iff E n c st r⟩
theorem roundX_lim {x : St → Option (Ex × St)} {f : Nat → St → Option (Ex × St)} (h : ∀ st, LimOf (x st) fun k => f k st) (ns : List Nm) (T : Tm) (p q : Nat) (i z : Int) (H : Hp) :
    LimOf (roundX x ns T p q i z H) fun k => roundX (f k) ns T p q i z H := by
  unfold roundX
  exact (LimOf.const _).bind fun st => (h _).bind fun r => LimOf.const _
theorem roundsX_lim {x : Int → Int → Hp → Option (Ex × Hp)} {f : Nat → Int → Int → Hp → Option (Ex × Hp)} (h : ∀ i z H, LimOf (x i z H) fun k => f k i z H) (y : Nm) (zs : List Int) : ∀ (j : Nat) (H : Hp), LimOf (roundsX x y zs j H) fun k => roundsX (f k) y zs j H
  | 0, H => LimOf.const _
  | j + 1, H => by
    simp only [roundsX]
    refine (LimOf.const _).bind fun z => (h _ _ _).bind fun r => ?_
    obtain ⟨e, H'⟩ := r
    simp only [nextX]
    split
    · cases e with
      | nrm => exact roundsX_lim h y zs j H'
      | ex id => exact LimOf.const _
      | ret => exact LimOf.const _
    · exact LimOf.const _
theorem sexW_rback (E : Env) (n : Nat) (st : St) (g : FuncId) (x : Opd) (p q : Nat) (kt : List Nat) (kh : List Nm) (a b : SCode) :
    sexW E n (.rback g x p q kt kh a b) st = obind (cutX n kt kh st) fun st => backX (fun n st => nrmX (sexW E n a st) fun st => sexW E n b st) g (ev st.T x) p q st.T st.H := by
  refine opt_ext fun r => ?_
  rw [sexW_iff]
  have h : LimOf (obind (cutX n kt kh st) fun st => backX (fun n st => nrmX (sexW E n a st) fun st => sexW E n b st) g (ev st.T x) p q st.T st.H) fun k => sexec (acall E k) E.raw n k (.rback g x p q kt kh a b) st := by
    simp only [sexec]
    unfold backX
    refine (LimOf.const _).bind fun st => ?_
    exact (LimOf.const _).bind fun c => (LimOf.const _).bind fun ns => (roundsX_lim (fun i z H => roundX_lim (fun st => (LimOf.sex E _ a st).nq fun st => LimOf.sex E _ b st) ns _ p q i z H) _ _ _ _).bind fun r => LimOf.const _
  exact (h.iff r).symm

theorem callW_eq (E : Env) (f : FuncId) (x : List AV) (o : List AObj) : callW E f x o = match E.fn f with
    | none => E.ex f x o
    | some F => endX F o.length (sexW E o.length F.body { T := argT 0 x, H := argH 0 o }) := by
  refine opt_ext fun r => ?_
  rw [callW_iff]
  constructor
  · rintro ⟨k, hk⟩
    cases k with
    | zero => simp [acall] at hk
    | succ k =>
      simp only [acall, endX] at hk
      cases hF : E.fn f with
      | none => simp only [hF] at hk ⊢; exact hk
      | some F =>
        simp only [hF] at hk ⊢
        cases hs : sexec (acall E k) E.raw o.length k F.body { T := argT 0 x, H := argH 0 o } with
        | none => simp [hs] at hk
        | some y =>
          rw [(sexW_iff ..).2 ⟨k, hs⟩]
          rw [hs] at hk
          exact hk
  · intro h
    cases hF : E.fn f with
    | none => simp only [hF] at h; exact ⟨1, by simp only [acall, hF]; exact h⟩
    | some F =>
      simp only [hF] at h
      cases hs : sexW E o.length F.body { T := argT 0 x, H := argH 0 o } with
      | none => simp [hs, endX] at h
      | some y =>
        obtain ⟨k, hk⟩ := (sexW_iff ..).1 hs
        rw [hs] at h
        refine ⟨k + 1, ?_⟩
        simp only [acall, endX, hF, hk]
        exact h

end Go.Ab
