/- A part of the proof: an executor over plain data, shown sound for the model, and what it computes of the functions. -/
import Derived.Test.YtmnjnpgmenigiaaAbs
set_option linter.all false
/-! The executor of code, and its limit. -/
namespace Go.Ab
open Go

def upNames : Hp → List Nm
  | [] => []
  | (x, _) :: r => x :: upNames r

/-- What an executed operation met: what it may have read, what it wrote, whether it moved nothing. -/
structure Ent where
  rd : List Nm
  wr : List Nm
  st : Bool
abbrev Log := List Ent

/-- An operation, if it is wanted; what it met. -/
def outX (cf : CF) (raw : FuncId → Bool) (r i : Nat) (o : SOper) (st : St) : Option (Dl × List Nm) :=
  match wantedG st.T o.guard with
  | some true => obind (opD cf raw r i st.T st.H o.op) fun d => some (d, fp raw st.T st.H o.op)
  | some false => some ({ v := .tup [] }, [])
  | none => none

def opsLX (cf : CF) (raw : FuncId → Bool) (r : Nat) : Nat → List SOper → St → Log → Option (St × Log)
  | _, [], st, l => some (st, l)
  | i, o :: rest, st, l => obind (outX cf raw r i o st) fun x =>
    opsLX cf raw r (i + 1) rest (putD o.dst x.1 st.T st.H) (l ++ [⟨x.2, upNames x.1.up, x.1.pg.isNone⟩])

def disj (a b : List Nm) : Bool := a.all fun x => !b.contains x
/-- Not one of those that the i-th operation makes. -/
def offNm (r i : Nat) : Nm → Bool
  | .loc r' i' _ => !(r == r' && i == i')
  | .ext _ => true

def entOk (r i j : Nat) (a b : Ent) : Bool :=
  a.st && b.st && disj a.wr (b.rd ++ b.wr) && disj b.wr a.rd && a.wr.all (offNm r j) && b.wr.all (offNm r i)
def pairOk (r : Nat) (l : Log) (p : Nat × Nat) : Bool :=
  match l[p.1]?, l[p.2]? with
  | some a, some b => entOk r p.1 p.2 a b
  | _, _ => false

def drawX (cf : CF) (raw : FuncId → Bool) (r : Nat) (ops : List SOper) (pairs : List (Nat × Nat)) (st : St) : Option St :=
  match pairs with
  | [] => opsX cf raw r 0 ops st
  | p :: ps => obind (opsLX cf raw r 0 ops st []) fun x => if (p :: ps).all (pairOk r x.2) = true then some x.1 else none

/-- One piece of code behind another. -/
def seqX (x : Option (Ex × St)) (k : St → Option (Ex × St)) : Option (Ex × St) :=
  match x with
  | some (.nrm, st) => k st
  | r => r
@[congr] theorem seqX_congr {x y : Option (Ex × St)} {k : St → Option (Ex × St)} (h : x = y) : seqX x k = seqX y k := by rw [h]
def blkX (id : Nat) (x : Option (Ex × St)) : Option (Ex × St) :=
  match x with
  | some (.ex id', st) => if id' = id then some (.nrm, st) else some (.ex id', st)
  | r => r

def keepE (id : Nat) : List (Nat × List Nat) → Option (List Nat)
  | [] => none
  | (j, k) :: r => if j = id then some k else keepE id r
/-- Behind some code: only what is wanted later. -/
def trimX (n : Nat) (kn kr : List Nat) (ke : List (Nat × List Nat)) (kh : List Nm) (x : Option (Ex × St)) : Option (Ex × St) :=
  match x with
  | some (.nrm, st) => obind (cutX n kn kh st) fun st => some (.nrm, st)
  | some (.ret, st) => obind (cutX n kr kh st) fun st => some (.ret, st)
  | some (.ex id, st) => match keepE id ke with
    | some k => obind (cutX n k kh st) fun st => some (.ex id, st)
    | none => some (.ex id, st)
  | none => none

def onB {α : Type} (v : AV) (a b : Option α) : Option α :=
  match v with
  | .p (.bool c) => if c = true then a else b
  | _ => none
@[congr] theorem onB_congr {α : Type} {v w : AV} {a b : Option α} (h : v = w) : onB v a b = onB w a b := by rw [h]

def sexec (cf : CF) (raw : FuncId → Bool) (n k : Nat) : SCode → St → Option (Ex × St)
  | .skip, st => some (.nrm, st)
  | .reg r ops, st => obind (opsX cf raw r 0 ops st) fun st => some (.nrm, st)
  | .draw r ops pairs, st => obind (drawX cf raw r ops pairs st) fun st => some (.nrm, st)
  | .seq a b, st => seqX (sexec cf raw n k a st) fun st => sexec cf raw n k b st
  | .cond c a b, st => onB (ev st.T c) (sexec cf raw n k a st) (sexec cf raw n k b st)
  | .blk id b, st => blkX id (sexec cf raw n k b st)
  | .loop kt kh b, st => loopN (fun st => obind (cutX n kt kh st) fun st => sexec cf raw n k b st) k st
  | .exit id, st => some (.ex id, st)
  | .ret, st => some (.ret, st)
  | .cut kt kh, st => obind (cutX n kt kh st) fun st => some (.nrm, st)
  | .trim kn kr ke kh b, st => trimX n kn kr ke kh (sexec cf raw n k b st)

def argT : Nat → List AV → Tm
  | _, [] => []
  | i, v :: r => (i, v) :: argT (i + 1) r
def argH : Nat → List AObj → Hp
  | _, [] => []
  | i, o :: r => (.ext i, some o) :: argH (i + 1) r

def rvGet (T : Tm) (H : Hp) : RV → Option AV
  | .tmp t => some (tget T t)
  | .cell a agg size => match tget T a with
    | .ptr x o => loadD H agg size (.ptr x o)
    | _ => none
def rvGets (T : Tm) (H : Hp) : List RV → Option (List AV)
  | [] => some []
  | v :: r => match rvGet T H v, rvGets T H r with
    | some v, some r => some (v :: r)
    | _, _ => none

def tup1 : List AV → AV
  | [v] => v
  | vs => .tup vs

/-- Names at the end: those that came in stay, new ones follow. -/
def outNm (n : Nat) (ns : List Nm) : Nm → Option Nm
  | .ext k => if k < n then some (.ext k) else none
  | .loc r i j => (nidx (.loc r i j) ns 0).map fun k => .ext (n + k)

def extNs : Nat → Nat → List Nm
  | _, 0 => []
  | k, n + 1 => .ext k :: extNs (k + 1) n

/-- The end of a call: results, what came in, what is new. -/
def finish (F : SFn) (n : Nat) (st : St) : Option CR :=
  match rvGets st.T st.H F.rv with
  | none => none
  | some vs =>
    if n = 0 then match allP vs with   -- the common case
      | some _ => some { v := tup1 vs, outs := [], news := [] }
      | none => finishG F n st vs
    else finishG F n st vs
where
  finishG (F : SFn) (n : Nat) (st : St) (vs : List AV) : Option CR :=
    match (if F.rawR then some vs else frzL st.H vs) with
    | none => none
    | some vs' =>
      let H1 := if F.rawR then st.H else frzUp st.H (frzNs vs) ++ st.H
      match reach H1 64 (extNs 0 n ++ namesL vs') [] with
      | none => none
      | some all =>
        let ns := all.drop n
        if all.take n = extNs 0 n then
          match renL (outNm n ns) vs', hgets H1 (extNs 0 n), hgets H1 ns with
          | some vs, some os, some news => match renOs (outNm n ns) os, renOs (outNm n ns) news with
            | some outs, some news => some { v := tup1 vs, outs, news }
            | _, _ => none
          | _, _, _ => none
        else none

def endX (F : SFn) (n : Nat) (x : Option (Ex × St)) : Option CR :=
  match x with
  | some (.nrm, st) => finish F n st
  | some (.ret, st) => finish F n st
  | _ => none

/-- The functions; what is known of those that have no code here. -/
structure Env where
  fn : FuncId → Option SFn
  ex : CF := fun _ _ _ => none

def Env.raw (E : Env) (f : FuncId) : Bool :=
  match E.fn f with
  | some F => F.rawA
  | none => false

def acall (E : Env) : Nat → CF
  | 0, _, _, _ => none
  | k + 1, f, args, objs => match E.fn f with
    | none => E.ex f args objs
    | some F => endX F objs.length (sexec (acall E k) E.raw objs.length k F.body { T := argT 0 args, H := argH 0 objs })

end Go.Ab
