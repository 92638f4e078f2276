/- A part of the proof: an executor over plain data, shown sound for the model, and what it computes of the functions. -/
import Derived.Calls
set_option linter.all false
/-! An abstract executor over plain data. -/
namespace Go.Ab
open Go

/-- Plain data: no names of variables in it. -/
inductive PV where
  | int (k : IntKind) (n : Int)
  | bool (b : Bool)
  | str (s : ByteArray)
  | agg (cs : List PV)
  | sl (z : Nat) (es : List PV)
  | nilp
  | nilf
  deriving Inhabited

def PV.cells : PV → List PV
  | .agg cs => cs
  | v => [v]

/-- Names of variables: those that came in, those that a frame made. -/
inductive Nm where
  | ext (k : Nat)
  | loc (r i j : Nat)
  deriving DecidableEq, Inhabited

def Nm.isLoc : Nm → Bool
  | .loc .. => true
  | .ext _ => false

inductive AV where
  | undef
  | ub
  | p (v : PV)
  | agg (cs : List AV)
  | tup (vs : List AV)
  | nils (z : Nat)
  | hsl (x : Nm) (off len : Nat)
  | ptr (x : Nm) (off : Nat)
  | eptr (x : Nm) (i off : Nat)
  | rptr (cs : List PV)
  | fn (f : FuncId) (first caps : List AV)
  deriving Inhabited

inductive AObj where
  | box (cs : List AV)
  | parr (es : List PV) (esz : Nat) (fz : Bool)
  | arr (es : List AV)
  deriving Inhabited

def AV.cells : AV → List AV
  | .agg cs => cs
  | .p (.agg cs) => cs.map .p
  | v => [v]

def allP : List AV → Option (List PV)
  | [] => some []
  | .p v :: r => match allP r with
    | some vs => some (v :: vs)
    | none => none
  | _ :: _ => none

/-- A struct's value out of its cells. -/
def mkAgg (cs : List AV) : AV :=
  match allP cs with
  | some vs => .p (.agg vs)
  | none => .agg cs

/-- A value that can lie in a variable. -/
def AV.okv : AV → Bool
  | .undef => false
  | .ub => false
  | .tup _ => false
  | _ => true

/-! ### Temporaries and heap -/
abbrev Tm := List (Nat × AV)
abbrev Hp := List (Nm × Option AObj)

def tget : Tm → Nat → AV
  | [], _ => .undef
  | (j, v) :: r, i => if j = i then v else tget r i

def hget : Hp → Nm → Option AObj
  | [], _ => none
  | (y, o) :: r, x => if y = x then o else hget r x

mutual
def AV.names : AV → List Nm
  | .agg cs => namesL cs
  | .tup cs => namesL cs
  | .hsl x _ _ => [x]
  | .ptr x _ => [x]
  | .eptr x _ _ => [x]
  | .fn _ a b => namesL a ++ namesL b
  | _ => []
def namesL : List AV → List Nm
  | [] => []
  | v :: r => v.names ++ namesL r
end

def AObj.names : AObj → List Nm
  | .box cs => namesL cs
  | .parr .. => []
  | .arr es => namesL es

mutual
/-- Other names; none where one is not told. -/
def AV.ren (f : Nm → Option Nm) : AV → Option AV
  | .agg cs => (renL f cs).map .agg
  | .tup cs => (renL f cs).map .tup
  | .hsl x o l => (f x).map (.hsl · o l)
  | .ptr x o => (f x).map (.ptr · o)
  | .eptr x i o => (f x).map (.eptr · i o)
  | .fn g a b => match renL f a, renL f b with
    | some a, some b => some (.fn g a b)
    | _, _ => none
  | v => some v
def renL (f : Nm → Option Nm) : List AV → Option (List AV)
  | [] => some []
  | v :: r => match v.ren f, renL f r with
    | some v, some r => some (v :: r)
    | _, _ => none
end

def AObj.ren (f : Nm → Option Nm) : AObj → Option AObj
  | .box cs => (renL f cs).map .box
  | .parr es z b => some (.parr es z b)
  | .arr es => (renL f es).map .arr

def renOs (f : Nm → Option Nm) : List AObj → Option (List AObj)
  | [] => some []
  | v :: r => match v.ren f, renOs f r with
    | some v, some r => some (v :: r)
    | _, _ => none

mutual
/-- What mentions a name that is gone is unknown. -/
def AV.purge (x : Nm) : AV → AV
  | .agg cs => .agg (purgeL x cs)
  | .tup cs => .tup (purgeL x cs)
  | .hsl y o l => if y = x then .undef else .hsl y o l
  | .ptr y o => if y = x then .undef else .ptr y o
  | .eptr y i o => if y = x then .undef else .eptr y i o
  | .fn g a b => .fn g (purgeL x a) (purgeL x b)
  | v => v
def purgeL (x : Nm) : List AV → List AV
  | [] => []
  | v :: r => v.purge x :: purgeL x r
end

def AObj.purge (x : Nm) : AObj → AObj
  | .box cs => .box (purgeL x cs)
  | .parr es z b => .parr es z b
  | .arr es => .arr (purgeL x es)

def purgeT (x : Nm) : Tm → Tm
  | [] => []
  | (i, v) :: r => (i, v.purge x) :: purgeT x r
def purgeH (x : Nm) : Hp → Hp
  | [] => []
  | (y, o) :: r => (y, o.map (AObj.purge x)) :: purgeH x r

/-! ### Code -/
inductive Opd where
  | t (i : Nat)
  | c (v : PV)
  | nils (z : Nat)
  | f (n : FuncId)
  deriving Inhabited

/-- A cell of a new variable: plain, a nil slice, or a slice that will be appended to. -/
inductive ZC where
  | c (v : PV)
  | nils (z : Nat)
  | new (esz : Nat)
  deriving Inhabited

/-- Kinds of cells that can be compared. -/
inductive CK where
  | i (k : IntKind)
  | s
  | b
  deriving DecidableEq

/-- Rows of whole numbers, strings and bools are equal. -/
def eqCells : List CK → List PV → List PV → Option Bool
  | [], [], [] => some true
  | .i k :: ks, .int k1 a :: x, .int k2 b :: y => if k1 = k ∧ k2 = k then (eqCells ks x y).map (decide (a = b) && ·) else none
  | .s :: ks, .str a :: x, .str b :: y => (eqCells ks x y).map (decide (a = b) && ·)
  | .b :: ks, .bool a :: x, .bool b :: y => (eqCells ks x y).map ((a == b) && ·)
  | _, _, _ => none

inductive SOp where
  | mv (x : Opd)
  | nnew (esz : Nat)
  | pick (c a b : Opd)
  | alloc (zs : List ZC)
  | box (x : Opd)
  | build (zero : List ZC) (parts : List (Nat × Nat × Opd))
  | bslice (own : Bool) (esz : Nat) (parts : List Opd)
  | load (agg : Bool) (size : Nat) (x : Opd)
  | store (size : Nat) (x v : Opd)
  | nilck (x : Opd)
  | bin (op : BinOp) (x y : Opd)
  | bbin (neq : Bool) (x y : Opd)
  | isnil (x : Opd)
  | eqs (neq : Bool) (ks : List CK) (x y : Opd)
  | un (op : UnOp) (x : Opd)
  | conv (k : IntKind) (x : Opd)
  | mkfn (f : FuncId) (first caps : List Opd)
  | mkslice (zero : PV) (len : Opd)
  | slice (z : Nat) (x : Opd) (lo hi mx : Option Opd)
  | substr (x : Opd) (lo hi : Option Opd)
  | faddr (off : Nat) (x : Opd)
  | fld (agg : Bool) (size off : Nat) (x : Opd)
  | iaddr (esz : Nat) (x i : Opd)
  | sidx (x i : Opd)
  | aidx (agg : Bool) (n esz : Nat) (x i : Opd)
  | ext (x : Opd) (i : Nat)
  | call (f : Opd) (args : List Opd)
  | len (s : Bool) (x : Opd)
  | append (esz : Nat) (x y : Opd)
  | mx (x y : Opd)
  | mn (x y : Opd)
  deriving Inhabited

structure SOper where
  dst : Option Nat
  op : SOp
  guard : Option (Nat × Bool) := none
  deriving Inhabited

inductive SCode where
  | skip
  | reg (id : Nat) (ops : List SOper)
  | draw (id : Nat) (ops : List SOper) (pairs : List (Nat × Nat))
  | seq (a b : SCode)
  | cond (c : Opd) (a b : SCode)
  | blk (id : Nat) (b : SCode)
  | loop (kt : List Nat) (kh : List Nm) (b : SCode)
  | exit (id : Nat)
  | ret
  | cut (kt : List Nat) (kh : List Nm)
  | trim (kn kr : List Nat) (ke : List (Nat × List Nat)) (kh : List Nm) (b : SCode)
  deriving Inhabited

inductive RV where
  | tmp (t : Nat)
  | cell (a : Nat) (agg : Bool) (size : Nat)
  deriving Inhabited

structure SFn where
  body : SCode
  rv : List RV
  rawA : Bool := false
  rawR : Bool := false
  deriving Inhabited

/-- What a call comes to: the result, what became of the variables that were handed over, new ones. -/
structure CR where
  v : AV
  outs : List AObj
  news : List AObj

structure St where
  T : Tm
  H : Hp

/-- What an operation does. -/
structure Dl where
  v : AV
  up : Hp := []
  pg : Option Nm := none

def ev (T : Tm) : Opd → AV
  | .t i => tget T i
  | .c v => .p v
  | .nils z => .nils z
  | .f n => .fn n [] []

def evL (T : Tm) : List Opd → List AV
  | [] => []
  | x :: r => ev T x :: evL T r

def zcells (r i : Nat) : Nat → List ZC → List AV
  | _, [] => []
  | j, .c v :: zs => .p v :: zcells r i (j + 1) zs
  | j, .nils z :: zs => .nils z :: zcells r i (j + 1) zs
  | j, .new _ :: zs => .hsl (.loc r i (j + 1)) 0 0 :: zcells r i (j + 1) zs
def znews (r i : Nat) : Nat → List ZC → Hp
  | _, [] => []
  | j, .new z :: zs => (.loc r i (j + 1), some (.parr [] z false)) :: znews r i (j + 1) zs
  | j, _ :: zs => znews r i (j + 1) zs

/-- All of these names are free. -/
def freeH (H : Hp) : Hp → Bool
  | [] => true
  | (x, _) :: r => (hget H x).isNone && freeH H r

def fillA (cells : List AV) : List (Nat × Nat × AV) → Option (List AV)
  | [] => some cells
  | (off, size, v) :: r =>
    if v.okv = true ∧ v.cells.length = size ∧ off + size ≤ cells.length then fillA (cells.take off ++ v.cells ++ cells.drop (off + size)) r else none

def evParts (T : Tm) : List (Nat × Nat × Opd) → List (Nat × Nat × AV)
  | [] => []
  | (o, s, x) :: r => (o, s, ev T x) :: evParts T r

/-- A part of a row of cells. -/
def partP (agg : Bool) (size off : Nat) (cs : List PV) : Option PV :=
  if agg then (if off + size ≤ cs.length then some (.agg ((cs.drop off).take size)) else none) else cs[off]?
def partA (agg : Bool) (size off : Nat) (cs : List AV) : Option AV :=
  if agg then (if off + size ≤ cs.length then some (mkAgg ((cs.drop off).take size)) else none) else cs[off]?

def shlI (k : IntKind) (a b : Int) : Int := k.wrap (a * 2 ^ (min b.toNat k.bits))
def shrI (k : IntKind) (a b : Int) : Int := a.fdiv (2 ^ (min b.toNat k.bits))
def andI (k : IntKind) (a b : Int) : Int := k.wrap ((BitVec.ofInt k.bits a &&& BitVec.ofInt k.bits b).toNat)
def orI (k : IntKind) (a b : Int) : Int := k.wrap ((BitVec.ofInt k.bits a ||| BitVec.ofInt k.bits b).toNat)
def xorI (k : IntKind) (a b : Int) : Int := k.wrap ((BitVec.ofInt k.bits a ^^^ BitVec.ofInt k.bits b).toNat)
def andNotI (k : IntKind) (a b : Int) : Int := k.wrap ((BitVec.ofInt k.bits a &&& ~~~BitVec.ofInt k.bits b).toNat)

def binP (op : BinOp) : PV → PV → Option PV
  | .int k a, .int k' b =>
    match op with
    | .shl => if b < 0 then none else some (.int k (shlI k a b))
    | .shr => if b < 0 then none else some (.int k (shrI k a b))
    | .add => if k = k' then some (.int k (k.wrap (a + b))) else none
    | .sub => if k = k' then some (.int k (k.wrap (a - b))) else none
    | .mul => if k = k' then some (.int k (k.wrap (a * b))) else none
    | .quo => if k = k' ∧ b ≠ 0 then some (.int k (k.wrap (a.tdiv b))) else none
    | .rem => if k = k' ∧ b ≠ 0 then some (.int k (a.tmod b)) else none
    | .and => if k = k' then some (.int k (andI k a b)) else none
    | .or => if k = k' then some (.int k (orI k a b)) else none
    | .xor => if k = k' then some (.int k (xorI k a b)) else none
    | .andNot => if k = k' then some (.int k (andNotI k a b)) else none
    | .eql => if k = k' then some (.bool (decide (a = b))) else none
    | .neq => if k = k' then some (.bool (decide (a ≠ b))) else none
    | .lss => if k = k' then some (.bool (decide (a < b))) else none
    | .leq => if k = k' then some (.bool (decide (a ≤ b))) else none
    | .gtr => if k = k' then some (.bool (decide (b < a))) else none
    | .geq => if k = k' then some (.bool (decide (b ≤ a))) else none
  | .str a, .str b =>
    match op with
    | .eql => some (.bool (decide (a = b)))
    | .neq => some (.bool (decide (a ≠ b)))
    | .lss => some (.bool (Op.bytesLess a.toList b.toList))
    | .leq => some (.bool (Op.bytesLess a.toList b.toList || decide (a = b)))
    | .gtr => some (.bool (!(Op.bytesLess a.toList b.toList || decide (a = b))))
    | .geq => some (.bool (!Op.bytesLess a.toList b.toList))
    | _ => none
  | _, _ => none

def unP (op : UnOp) : PV → Option PV
  | .int k n => match op with
    | .neg => some (.int k (k.wrap (0 - n)))
    | _ => none
  | .bool b => match op with
    | .not => some (.bool !b)
    | _ => none
  | _ => none

/-- A whole number, from 0 to a bound. -/
def natOf (v : AV) (n : Nat) : Option Nat :=
  match v with
  | .p (.int _ i) => if 0 ≤ i ∧ i ≤ n then some i.toNat else none
  | _ => none
def natOr (v : Option AV) (d n : Nat) : Option Nat :=
  match v with
  | none => some d
  | some v => natOf v n

/-- The most that a slice of one's own holds. -/
def most : Nat := 2147483648

/-- The size of the elements of a slice of one's own. -/
def eszOf (H : Hp) (x : Nm) : Option Nat :=
  match hget H x with
  | some (.parr _ z _) => some z
  | some (.arr _) => some 1
  | _ => none

def sliceA (H : Hp) (z0 : Nat) (x : AV) (lo hi mx : Option AV) : Option AV :=
  match x with
  | .p (.str s) => match mx, natOr hi s.size s.size with
    | none, some h => match natOr lo 0 h with
      | some l => some (.p (.str (s.extract l h)))
      | none => none
    | _, _ => none
  | .p (.sl z es) => if z = z0 then match natOr mx es.length es.length with
    | some m => match natOr hi es.length m with
      | some h => match natOr lo 0 h with
        | some l => if mx.isSome && decide (l = m) then some (.nils z) else some (.p (.sl z ((es.drop l).take (h - l))))
        | none => none
      | none => none
    | none => none
    else none
  | .nils z => match natOr mx 0 0, natOr hi 0 0, natOr lo 0 0 with
    | some _, some _, some _ => some (.nils z)
    | _, _, _ => none
  | .hsl y off len => if eszOf H y = some z0 then match mx, natOr hi len len with
    | none, some h => match natOr lo 0 h with
      | some l => some (.hsl y (off + l) (h - l))
      | none => none
    | _, _ => none
    else none
  | _ => none

/-- A slice's elements, if they are plain; how many cells each has. -/
def elems (H : Hp) : AV → Option (Nat × List PV)
  | .p (.sl z es) => some (z, es)
  | .nils z => some (z, [])
  | .hsl x off len => match hget H x with
    | some (.parr es z _) => if off + len ≤ es.length then some (z, (es.drop off).take len) else none
    | _ => none
  | _ => none

/-- Slices of one's own become plain ones. -/
def frz1 (H : Hp) : AV → Option AV
  | .nils z => some (.p (.sl z []))
  | .hsl x off len => match elems H (.hsl x off len) with
    | some (z, es) => some (.p (.sl z es))
    | none => none
  | v => some v
def frzL1 (H : Hp) : List AV → Option (List AV)
  | [] => some []
  | v :: r => match frz1 H v, frzL1 H r with
    | some v, some r => some (v :: r)
    | _, _ => none
def frz (H : Hp) : AV → Option AV
  | .agg cs => match frzL1 H cs with
    | some cs => some (mkAgg cs)
    | none => none
  | .tup cs => match frzL1 H cs with
    | some cs => some (.tup cs)
    | none => none
  | v => frz1 H v
def frzL (H : Hp) : List AV → Option (List AV)
  | [] => some []
  | v :: r => match frz H v, frzL H r with
    | some v, some r => some (v :: r)
    | _, _ => none

/-- The names of the slices that are frozen so. -/
def hslN : AV → List Nm
  | .hsl x _ _ => [x]
  | _ => []
def frzNs : List AV → List Nm
  | [] => []
  | .agg cs :: r => cs.flatMap hslN ++ frzNs r
  | .tup cs :: r => cs.flatMap hslN ++ frzNs r
  | v :: r => hslN v ++ frzNs r

def frzUp (H : Hp) : List Nm → Hp
  | [] => []
  | x :: r => match hget H x with
    | some (.parr es z _) => (x, some (.parr es z true)) :: frzUp H r
    | _ => frzUp H r

/-- Plain cells of a value, to be put into a row. -/
def pcells (H : Hp) (v : AV) : Option (List PV) :=
  match frzL1 H v.cells with
  | some cs => allP cs
  | none => none

/-- A value as an element of a row. -/
def pelem (H : Hp) (z : Nat) (v : AV) : Option PV :=
  match frz H v with
  | some (.p v) => if v.cells.length = z then some v else none
  | _ => none
def pelems (H : Hp) (z : Nat) : List AV → Option (List PV)
  | [] => some []
  | v :: r => match pelem H z v, pelems H z r with
    | some v, some r => some (v :: r)
    | _, _ => none

/-- All names that are reached. -/
def reach (H : Hp) : Nat → List Nm → List Nm → Option (List Nm)
  | _, [], acc => some acc
  | 0, _ :: _, _ => none
  | n + 1, x :: todo, acc =>
    if x ∈ acc then reach H n todo acc
    else match hget H x with
      | some o => reach H n (todo ++ o.names) (acc ++ [x])
      | none => none

def nidx (x : Nm) : List Nm → Nat → Option Nat
  | [], _ => none
  | y :: r, k => if y = x then some k else nidx x r (k + 1)
def toExt (ns : List Nm) (x : Nm) : Option Nm := (nidx x ns 0).map .ext
def fromExt (ns : List Nm) (r i : Nat) : Nm → Option Nm
  | .ext k => if k < ns.length then ns[k]? else some (.loc r i (k - ns.length))
  | .loc .. => none

def hgets (H : Hp) : List Nm → Option (List AObj)
  | [] => some []
  | x :: r => match hget H x, hgets H r with
    | some o, some os => some (o :: os)
    | _, _ => none

def zipUp : List Nm → List AObj → Hp
  | x :: ns, o :: os => (x, some o) :: zipUp ns os
  | _, _ => []
def newUp (r i : Nat) : Nat → List AObj → Hp
  | _, [] => []
  | j, o :: os => (.loc r i j, some o) :: newUp r i (j + 1) os

/-- Variables that are handed over: their slices are frozen. -/
def boxUps (H : Hp) : List Nm → Option Hp
  | [] => some []
  | x :: r => match hget H x, boxUps H r with
    | some (.box cs), some u => match frzL1 H cs with
      | some cs' => some ((x, some (.box cs')) :: (frzUp H (cs.flatMap hslN) ++ u))
      | none => none
    | some _, some u => some u
    | _, _ => none

/-- Behind a call. -/
def callEnd (H : Hp) (r i : Nat) (ns : List Nm) (ups : Hp) : Option CR → Option Dl
  | none => none
  | some c =>
    match c.v, c.outs, c.news, ns with
    | .p v, [], [], [] => some { v := .p v, up := ups }
    | v, outs, news, ns =>
      if outs.length = ns.length ∧ freeH (ups ++ H) (newUp r i 0 news) = true then
        match v.ren (fromExt ns r i), renOs (fromExt ns r i) outs, renOs (fromExt ns r i) news with
        | some v, some outs, some news => some { v, up := zipUp ns outs ++ (newUp r i 0 news ++ ups) }
        | _, _, _ => none
      else none

abbrev CF := FuncId → List AV → List AObj → Option CR

/-- A call whose arguments hold names. -/
def callNs (cf : CF) (H : Hp) (r i : Nat) (f : FuncId) (args : List AV) (ups : Hp) : Option Dl :=
  match reach (ups ++ H) 64 (namesL args) [] with
  | none => none
  | some ns =>
    match renL (toExt ns) args, hgets (ups ++ H) ns with
    | some args, some os => match renOs (toExt ns) os with
      | some os => callEnd H r i ns ups (cf f args os)
      | none => none
    | _, _ => none

def callD (cf : CF) (raw : Bool) (H : Hp) (r i : Nat) (f : FuncId) (args : List AV) : Option Dl :=
  match allP args with
  | some _ => callEnd H r i [] [] (cf f args [])
  | none =>
    if raw then callNs cf H r i f args []
    else match frzL H args with
      | none => none
      | some args' =>
        let u := frzUp H (frzNs args)
        match reach (u ++ H) 64 (namesL args') [] with
        | none => none
        | some ns => match boxUps (u ++ H) ns with
          | none => none
          | some b => callNs cf H r i f args' (b ++ u)

/-- What may lie in a row of other things than plain data. -/
def okArr : AV → Bool
  | .fn .. => true
  | .ptr .. => true
  | _ => false

def setL (cs : List AV) (off : Nat) (vs : List AV) : List AV := cs.take off ++ vs ++ cs.drop (off + vs.length)
/-- An element some cells of which are written. -/
def setE (e : PV) (off : Nat) (vs : List PV) : PV :=
  match e with
  | .agg cs => .agg (cs.take off ++ vs ++ cs.drop (off + vs.length))
  | _ => match vs with
    | [v] => v
    | _ => e

def loadD (H : Hp) (agg : Bool) (size : Nat) : AV → Option AV
  | .rptr cs => (partP agg size 0 cs).map .p
  | .ptr x off => match hget H x with
    | some (.box cs) => partA agg size off cs
    | _ => none
  | .eptr x i off => match hget H x with
    | some (.parr es _ _) => match es[i]? with
      | some e => (partP agg size off e.cells).map .p
      | none => none
    | some (.arr es) => if agg = false ∧ off = 0 then es[i]? else none
    | _ => none
  | _ => none

def storeD (H : Hp) (size : Nat) (a v : AV) : Option Dl :=
  match a with
  | .ptr x off => match hget H x with
    | some (.box cs) => if v.okv = true ∧ v.cells.length = size ∧ off + size ≤ cs.length then some { v := .undef, up := [(x, some (.box (setL cs off v.cells)))] } else none
    | _ => none
  | .eptr x i off => match hget H x, pcells H v with
    | some (.parr es z false), some vs => match es[i]? with
      | some e => if v.okv = true ∧ vs.length = size ∧ off + size ≤ z ∧ x ∉ v.cells.flatMap hslN then
          some { v := .undef, up := (x, some (.parr (es.set i (setE e off vs)) z false)) :: frzUp H (v.cells.flatMap hslN) } else none
      | none => none
    | _, _ => none
  | _ => none

def partOf (agg : Bool) (size off : Nat) : AV → Option AV
  | .p (.agg cs) => (partP agg size off cs).map .p
  | .agg cs => partA agg size off cs
  | _ => none

def iaddrD (H : Hp) (z : Nat) (x : AV) (n : Nat) : Option AV :=
  match x with
  | .p (.sl z' es) => match es[n]? with
    | some e => if z' = z then some (.rptr e.cells) else none
    | none => none
  | .hsl y off len => match hget H y with
    | some (.parr es z' _) => if n < len ∧ off + len ≤ es.length ∧ z' = z then some (.eptr y (off + n) 0) else none
    | some (.arr es) => if n < len ∧ off + len ≤ es.length ∧ 1 = z then some (.eptr y (off + n) 0) else none
    | _ => none
  | _ => none

def ptrQ : AV → Bool
  | .ptr .. | .eptr .. | .rptr _ => true
  | _ => false

/-- As Option.bind; what follows is left alone until the first part is there. -/
def obind {α β : Type} (x : Option α) (f : α → Option β) : Option β := x.bind f
@[congr] theorem obind_congr {α β : Type} {x y : Option α} {f : α → Option β} (h : x = y) : obind x f = obind y f := by rw [h]
theorem obind_some {α β : Type} (a : α) (f : α → Option β) : obind (some a) f = f a := rfl
theorem obind_none {α β : Type} (f : α → Option β) : obind none f = none := rfl

/-- What an operation does (the i-th of the region r). -/
def opD (cf : CF) (raw : FuncId → Bool) (r i : Nat) (T : Tm) (H : Hp) : SOp → Option Dl
  | .mv x => some { v := ev T x }
  | .nnew z => if (hget H (.loc r i 0)).isNone then some { v := .hsl (.loc r i 0) 0 0, up := [(.loc r i 0, some (.parr [] z false))] } else none
  | .pick c a b => match ev T c with
    | .p (.bool c) => some { v := if c then ev T a else ev T b }
    | _ => none
  | .alloc zs =>
    let n := (Nm.loc r i 0, some (AObj.box (zcells r i 0 zs))) :: znews r i 0 zs
    if freeH H n then some { v := .ptr (.loc r i 0) 0, up := n } else none
  | .box x => if (hget H (.loc r i 0)).isNone ∧ (ev T x).okv = true then some { v := .ptr (.loc r i 0) 0, up := [(.loc r i 0, some (.box (ev T x).cells))] } else none
  | .build zs ps =>
    match znews r i 0 zs with
    | [] => match fillA (zcells r i 0 zs) (evParts T ps) with
      | some cs => some { v := mkAgg cs }
      | none => none
    | _ => none
  | .bslice own z ps => match pelems H z (evL T ps) with
    | some es =>
      if own then (if (hget H (.loc r i 0)).isNone then some { v := .hsl (.loc r i 0) 0 es.length, up := (.loc r i 0, some (.parr es z false)) :: frzUp H (frzNs (evL T ps)) } else none)
      else some { v := .p (.sl z es), up := frzUp H (frzNs (evL T ps)) }
    | none => if z = 1 ∧ (hget H (.loc r i 0)).isNone ∧ (evL T ps).all okArr = true then some { v := .hsl (.loc r i 0) 0 ps.length, up := [(.loc r i 0, some (.arr (evL T ps)))] } else none
  | .load agg size x => match loadD H agg size (ev T x) with
    | some v => some { v }
    | none => none
  | .store size a v => storeD H size (ev T a) (ev T v)
  | .nilck x => if ptrQ (ev T x) then some { v := ev T x } else none
  | .bin op x y => match ev T x, ev T y with
    | .p a, .p b => match binP op a b with
      | some v => some { v := .p v }
      | none => none
    | _, _ => none
  | .bbin neq x y => match ev T x, ev T y with
    | .p (.bool a), .p (.bool b) => some { v := .p (.bool (if neq then !(a == b) else a == b)) }
    | _, _ => none
  | .isnil x => match ev T x with
    | .p (.sl _ (_ :: _)) => some { v := .p (.bool false) }
    | .p (.sl _ []) => some { v := .ub }
    | .nils _ => some { v := .ub }
    | _ => none
  | .eqs neq ks x y => match ev T x, ev T y with
    | .p (.agg a), .p (.agg b) => match eqCells ks a b with
      | some c => some { v := .p (.bool (if neq then !c else c)) }
      | none => none
    | _, _ => none
  | .un op x => match ev T x with
    | .p a => match unP op a with
      | some v => some { v := .p v }
      | none => none
    | _ => none
  | .conv k x => match ev T x with
    | .p (.int _ n) => some { v := .p (.int k (k.wrap n)) }
    | _ => none
  | .mkfn f a b => some { v := .fn f (evL T a) (evL T b) }
  | .mkslice z n => match natOf (ev T n) most with
    | some n => if (hget H (.loc r i 0)).isNone then some { v := .hsl (.loc r i 0) 0 n, up := [(.loc r i 0, some (.parr (List.replicate n z) z.cells.length false))] } else none
    | none => none
  | .slice z x lo hi mx => match ev T x with
    | .p (.str _) => none
    | _ => match sliceA H z (ev T x) (lo.map (ev T)) (hi.map (ev T)) (mx.map (ev T)) with
      | some v => some { v }
      | none => none
  | .substr x lo hi => match ev T x with
    | .p (.str s) => match sliceA H 0 (.p (.str s)) (lo.map (ev T)) (hi.map (ev T)) none with
      | some v => some { v }
      | none => none
    | _ => none
  | .faddr off x => match ev T x with
    | .ptr x o => some { v := .ptr x (o + off) }
    | .eptr x i o => some { v := .eptr x i (o + off) }
    | .rptr cs => some { v := .rptr (cs.drop off) }
    | _ => none
  | .fld agg size off x => match partOf agg size off (ev T x) with
    | some v => some { v }
    | none => none
  | .iaddr z x i => match ev T i with
    | .p (.int _ n) => if 0 ≤ n then match iaddrD H z (ev T x) n.toNat with
        | some v => some { v }
        | none => none
      else none
    | _ => none
  | .sidx x i => match ev T x, ev T i with
    | .p (.str s), .p (.int _ n) => if 0 ≤ n then match s[n.toNat]? with
        | some b => some { v := .p (.int .u8 b.toNat) }
        | none => none
      else none
    | _, _ => none
  | .aidx agg n z x i => match ev T i with
    | .p (.int _ k) => if 0 ≤ k ∧ k < n then match partOf agg z (k.toNat * z) (ev T x) with
        | some v => some { v }
        | none => none
      else none
    | _ => none
  | .ext x i => match ev T x with
    | .tup vs => match vs[i]? with
      | some v => some { v }
      | none => none
    | _ => none
  | .call f args => match ev T f with
    | .fn f a b => callD cf (raw f) H r i f (a ++ evL T args ++ b)
    | _ => none
  | .len true x => match ev T x with
    | .p (.str s) => some { v := .p (.int .i64 s.size) }
    | _ => none
  | .len false x => match ev T x with
    | .p (.sl _ es) => some { v := .p (.int .i64 es.length) }
    | .nils _ => some { v := .p (.int .i64 0) }
    | .hsl _ _ n => some { v := .p (.int .i64 n) }
    | _ => none
  | .append z x y => match elems H (ev T y) with
    | some (z', ys) =>
      if z' = z then match ev T x with
        | .nils _ => if (hget H (.loc r i 0)).isNone ∧ ys.length ≤ most then
            some { v := .hsl (.loc r i 0) 0 ys.length, up := [(.loc r i 0, some (.parr ys z false))] } else none
        | .hsl n o len => match hget H n with
          | some (.parr es z'' false) =>
            if o = 0 ∧ len = es.length ∧ z'' = z ∧ len + ys.length ≤ most ∧ n.isLoc = true ∧ n ∉ hslN (ev T y) then
              some { v := .hsl n 0 (len + ys.length), up := [(n, some (.parr (es ++ ys) z false))], pg := some n } else none
          | _ => none
        | _ => none
      else none
    | none => none
  | .mx x y => match ev T x, ev T y with
    | .p (.int k a), .p (.int k' b) => if k = k' then some { v := .p (.int k (if a < b then b else a)) } else none
    | _, _ => none
  | .mn x y => match ev T x, ev T y with
    | .p (.int k a), .p (.int k' b) => if k = k' then some { v := .p (.int k (if b < a then b else a)) } else none
    | _, _ => none

/-- Behind an operation. -/
def putD (dst : Option Nat) (d : Dl) (T : Tm) (H : Hp) : St :=
  let T1 := match d.pg with
    | some x => purgeT x T
    | none => T
  let H1 := match d.pg with
    | some x => purgeH x H
    | none => H
  { T := match dst with
      | some t => (t, d.v) :: T1
      | none => T1
    H := d.up ++ H1 }

def wantedG (T : Tm) : Option (Nat × Bool) → Option Bool
  | none => some true
  | some (t, b) => match tget T t with
    | .p (.bool c) => some (c == b)
    | .tup [] => some false
    | _ => none

def operX (cf : CF) (raw : FuncId → Bool) (r i : Nat) (o : SOper) (st : St) : Option St :=
  match wantedG st.T o.guard with
  | some true => obind (opD cf raw r i st.T st.H o.op) fun d => some (putD o.dst d st.T st.H)
  | some false => some (putD o.dst { v := .tup [] } st.T st.H)
  | none => none

def opsX (cf : CF) (raw : FuncId → Bool) (r : Nat) : Nat → List SOper → St → Option St
  | _, [], st => some st
  | i, o :: rest, st => obind (operX cf raw r i o st) fun st => opsX cf raw r (i + 1) rest st

/-! ### Only these temporaries and variables are kept -/
def keepT (T : Tm) : List Nat → Tm
  | [] => []
  | i :: r => (i, tget T i) :: keepT T r
def exts (H : Hp) : Nat → Nat → Hp
  | _, 0 => []
  | k, n + 1 => (.ext k, hget H (.ext k)) :: exts H (k + 1) n
def keepH (H : Hp) : List Nm → Hp
  | [] => []
  | x :: r => (x, hget H x) :: keepH H r
def namesT : Tm → List Nm
  | [] => []
  | (_, v) :: r => v.names ++ namesT r
def namesH : Hp → List Nm
  | [] => []
  | (_, some o) :: r => o.names ++ namesH r
  | (_, none) :: r => namesH r
def allIn (H : Hp) : List Nm → Bool
  | [] => true
  | x :: r => (hget H x).isSome && allIn H r

def cutX (n : Nat) (kt : List Nat) (kh : List Nm) (st : St) : Option St :=
  let T := keepT st.T kt
  let H := exts st.H 0 n ++ keepH st.H kh
  if allIn H (namesT T) && allIn H (namesH H) then some { T, H } else none

inductive Ex where
  | nrm
  | ex (id : Nat)
  | ret
  deriving DecidableEq

def loopN (f : St → Option (Ex × St)) : Nat → St → Option (Ex × St)
  | 0, _ => none
  | n + 1, st => match f st with
    | some (.nrm, st) => loopN f n st
    | r => r

/-- The operands of an operation. -/
def opds : SOp → List Opd
  | .mv x => [x]
  | .nnew _ => []
  | .pick c a b => [c, a, b]
  | .alloc _ => []
  | .box x => [x]
  | .build _ ps => ps.map (·.2.2)
  | .bslice _ _ ps => ps
  | .load _ _ x => [x]
  | .store _ x v => [x, v]
  | .nilck x => [x]
  | .bin _ x y => [x, y]
  | .bbin _ x y => [x, y]
  | .isnil x => [x]
  | .eqs _ _ x y => [x, y]
  | .un _ x => [x]
  | .conv _ x => [x]
  | .mkfn _ a b => a ++ b
  | .mkslice _ n => [n]
  | .slice _ x lo hi mx => x :: (lo.toList ++ hi.toList ++ mx.toList)
  | .substr x lo hi => x :: (lo.toList ++ hi.toList)
  | .faddr _ x => [x]
  | .fld _ _ _ x => [x]
  | .iaddr _ x i => [x, i]
  | .sidx x i => [x, i]
  | .aidx _ _ _ x i => [x, i]
  | .ext x _ => [x]
  | .call f args => f :: args
  | .len _ x => [x]
  | .append _ x y => [x, y]
  | .mx x y => [x, y]
  | .mn x y => [x, y]

/-- Operations that neither look at variables nor make any. -/
def pureS : SOp → Bool
  | .mv _ | .pick .. | .build .. | .nilck _ | .bin .. | .bbin .. | .isnil _ | .eqs .. | .un .. | .conv .. | .mkfn .. | .substr .. | .faddr .. | .fld .. | .sidx .. | .aidx .. | .ext .. | .len .. | .mx .. | .mn .. => true
  | _ => false
/-- Operations that move no slice. -/
def noPgS : SOp → Bool
  | .append .. => false
  | _ => true

def objNs (H : Hp) : List Nm → List Nm
  | [] => []
  | x :: r => match hget H x with
    | some o => o.names ++ objNs H r
    | none => objNs H r

/-- What a call may look at. -/
def callFp (raw : Bool) (H : Hp) (args : List AV) : List Nm :=
  match allP args with
  | some _ => []
  | none =>
    if raw then match reach H 64 (namesL args) [] with
      | some ns => ns
      | none => []
    else match frzL H args with
      | none => []
      | some args' =>
        match reach (frzUp H (frzNs args) ++ H) 64 (namesL args') [] with
        | none => []
        | some ns => match boxUps (frzUp H (frzNs args) ++ H) ns with
          | none => []
          | some b => match reach ((b ++ frzUp H (frzNs args)) ++ H) 64 (namesL args') [] with
            | none => []
            | some ns2 => namesL args ++ (ns ++ (objNs (frzUp H (frzNs args) ++ H) ns ++ ns2))

/-- What an operation may look at (of a region that draws). -/
def fp (raw : FuncId → Bool) (T : Tm) (H : Hp) : SOp → List Nm
  | .load _ _ x => (ev T x).names
  | .store _ a v => (ev T a).names ++ (ev T v).names
  | .slice _ x _ _ _ => (ev T x).names
  | .iaddr _ x _ => (ev T x).names
  | .bslice _ _ ps => namesL (evL T ps)
  | .append _ x y => (ev T x).names ++ (ev T y).names
  | .call f args => match ev T f with
    | .fn g a b => callFp (raw g) H (a ++ evL T args ++ b)
    | _ => []
  | _ => []

end Go.Ab
