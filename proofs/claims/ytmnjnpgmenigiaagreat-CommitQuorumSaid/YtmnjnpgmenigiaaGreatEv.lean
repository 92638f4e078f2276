/- A part of the proof (an executor, and what it computes). -/
import Derived.Test.YtmnjnpgmenigiaaGreatB2f72d3b635
import Derived.Attr
set_option linter.all false
/-! Evaluating the executor by simp. -/
namespace Go.Ab
open Go

theorem opsX_nil (cf : CF) (raw : FuncId → Bool) (r i : Nat) (st : St) : opsX cf raw r i [] st = some st := _root_.id rfl
theorem blkX_nrm (id : Nat) (st : St) : blkX id (some (.nrm, st)) = some (.nrm, st) := _root_.id rfl
theorem blkX_ret (id : Nat) (st : St) : blkX id (some (.ret, st)) = some (.ret, st) := _root_.id rfl
theorem blkX_ex (id id' : Nat) (st : St) : blkX id (some (.ex id', st)) = if id' = id then some (.nrm, st) else some (.ex id', st) := _root_.id rfl
theorem endX_nrm (F : SFn) (n : Nat) (st : St) : endX F n (some (.nrm, st)) = finish F n st := _root_.id rfl
theorem endX_ret (F : SFn) (n : Nat) (st : St) : endX F n (some (.ret, st)) = finish F n st := _root_.id rfl
/-- A guarded operation. -/
def onG (v : AV) (b : Bool) (x y : Option St) : Option St :=
  match v with
  | .p (.bool c) => if c = b then x else y
  | .tup [] => y
  | _ => none

theorem ops_plain (cf : CF) (raw : FuncId → Bool) (r i : Nat) (dst : Option Nat) (op : SOp) (rest : List SOper) (st : St) :
    opsX cf raw r i ({ dst := dst, op := op } :: rest) st = obind (opD cf raw r i st.T st.H op) fun d => opsX cf raw r (i + 1) rest (putD dst d st.T st.H) := by
  simp only [opsX, operX, wantedG]
  cases opD cf raw r i st.T st.H op <;> rfl
theorem ops_guard (cf : CF) (raw : FuncId → Bool) (r i : Nat) (dst : Option Nat) (op : SOp) (t : Nat) (b : Bool) (rest : List SOper) (st : St) :
    opsX cf raw r i ({ dst := dst, op := op, guard := some (t, b) } :: rest) st = onG (tget st.T t) b (obind (opD cf raw r i st.T st.H op) fun d => opsX cf raw r (i + 1) rest (putD dst d st.T st.H)) (opsX cf raw r (i + 1) rest (putD dst { v := .tup [] } st.T st.H)) := by
  simp only [opsX, operX, wantedG, onG]
  cases tget st.T t with
  | p v => cases v with
    | bool c => cases c <;> cases b <;> simp [obind_some] <;> (cases opD cf raw r i st.T st.H op <;> rfl)
    | _ => rfl
  | tup vs => cases vs <;> simp [obind_some] <;> rfl
  | _ => rfl
theorem put_some (t : Nat) (v : AV) (up : Hp) (T : Tm) (H : Hp) : putD (some t) { v := v, up := up } T H = { T := (t, v) :: T, H := up ++ H } := _root_.id rfl
theorem put_none (v : AV) (up : Hp) (T : Tm) (H : Hp) : putD none { v := v, up := up } T H = { T := T, H := up ++ H } := _root_.id rfl
theorem put_pg (t : Nat) (v : AV) (up : Hp) (x : Nm) (T : Tm) (H : Hp) : putD (some t) { v := v, up := up, pg := some x } T H = { T := (t, v) :: purgeT x T, H := up ++ purgeH x H } := _root_.id rfl
theorem ev_t (T : Tm) (i : Nat) : ev T (.t i) = tget T i := _root_.id rfl
theorem ev_c (T : Tm) (v : PV) : ev T (.c v) = .p v := _root_.id rfl
theorem ev_nils (T : Tm) (z : Nat) : ev T (.nils z) = .nils z := _root_.id rfl
theorem ev_f (T : Tm) (n : FuncId) : ev T (.f n) = .fn n [] [] := _root_.id rfl
theorem tget_eq (i : Nat) (v : AV) (r : Tm) : tget ((i, v) :: r) i = v := by simp [tget]
theorem tget_ne (i j : Nat) (v : AV) (r : Tm) (h : (j = i) = False) : tget ((j, v) :: r) i = tget r i := by simp [tget, h]
theorem hget_cons (x y : Nm) (o : Option AObj) (r : Hp) : hget ((y, o) :: r) x = if y = x then o else hget r x := _root_.id rfl
theorem hget_nil (x : Nm) : hget [] x = none := _root_.id rfl
theorem opD_mv (cf : CF) (raw : FuncId → Bool) (r i : Nat) (T : Tm) (H : Hp) (x : Opd) : opD cf raw r i T H (.mv x) = (some { v := ev T x }) := _root_.id rfl
theorem opD_nnew (cf : CF) (raw : FuncId → Bool) (r i : Nat) (T : Tm) (H : Hp) (z : Nat) : opD cf raw r i T H (.nnew z) = (if (hget H (.loc r i 0)).isNone then some { v := .hsl (.loc r i 0) 0 0, up := [(.loc r i 0, some (.parr [] z false))] } else none) := _root_.id rfl
theorem opD_pick (cf : CF) (raw : FuncId → Bool) (r i : Nat) (T : Tm) (H : Hp) (c : Opd) (a : Opd) (b : Opd) : opD cf raw r i T H (.pick c a b) = (match ev T c with
    | .p (.bool c) => some { v := if c then ev T a else ev T b }
    | _ => none) := _root_.id rfl
theorem opD_alloc (cf : CF) (raw : FuncId → Bool) (r i : Nat) (T : Tm) (H : Hp) (zs : List ZC) : opD cf raw r i T H (.alloc zs) = (
    let n := (Nm.loc r i 0, some (AObj.box (zcells r i 0 zs))) :: znews r i 0 zs
    if freeH H n then some { v := .ptr (.loc r i 0) 0, up := n } else none) := _root_.id rfl
theorem opD_box (cf : CF) (raw : FuncId → Bool) (r i : Nat) (T : Tm) (H : Hp) (x : Opd) : opD cf raw r i T H (.box x) = (if (hget H (.loc r i 0)).isNone ∧ (ev T x).okv = true then some { v := .ptr (.loc r i 0) 0, up := [(.loc r i 0, some (.box (ev T x).cells))] } else none) := _root_.id rfl
theorem opD_build (cf : CF) (raw : FuncId → Bool) (r i : Nat) (T : Tm) (H : Hp) (zs : List ZC) (ps : List (Nat × Nat × Opd)) : opD cf raw r i T H (.build zs ps) = (
    match znews r i 0 zs with
    | [] => match fillA (zcells r i 0 zs) (evParts T ps) with
      | some cs => some { v := mkAgg cs }
      | none => none
    | _ => none) := _root_.id rfl
theorem opD_bslice (cf : CF) (raw : FuncId → Bool) (r i : Nat) (T : Tm) (H : Hp) (own : Bool) (z : Nat) (ps : List Opd) : opD cf raw r i T H (.bslice own z ps) = (match pelems H z (evL T ps) with
    | some es =>
      if own then (if (hget H (.loc r i 0)).isNone then some { v := .hsl (.loc r i 0) 0 es.length, up := (.loc r i 0, some (.parr es z false)) :: frzUp H (frzNs (evL T ps)) } else none)
      else some { v := .p (.sl z es), up := frzUp H (frzNs (evL T ps)) }
    | none => if z = 1 ∧ (hget H (.loc r i 0)).isNone ∧ (evL T ps).all okArr = true then some { v := .hsl (.loc r i 0) 0 ps.length, up := [(.loc r i 0, some (.arr (evL T ps)))] } else none) := _root_.id rfl
theorem opD_load (cf : CF) (raw : FuncId → Bool) (r i : Nat) (T : Tm) (H : Hp) (agg : Bool) (size : Nat) (x : Opd) : opD cf raw r i T H (.load agg size x) = (match loadD H agg size (ev T x) with
    | some v => some { v }
    | none => none) := _root_.id rfl
theorem opD_store (cf : CF) (raw : FuncId → Bool) (r i : Nat) (T : Tm) (H : Hp) (size : Nat) (a : Opd) (v : Opd) : opD cf raw r i T H (.store size a v) = (storeD H size (ev T a) (ev T v)) := _root_.id rfl
theorem opD_nilck (cf : CF) (raw : FuncId → Bool) (r i : Nat) (T : Tm) (H : Hp) (x : Opd) : opD cf raw r i T H (.nilck x) = (if ptrQ (ev T x) then some { v := ev T x } else none) := _root_.id rfl
theorem opD_bin (cf : CF) (raw : FuncId → Bool) (r i : Nat) (T : Tm) (H : Hp) (op : BinOp) (x : Opd) (y : Opd) : opD cf raw r i T H (.bin op x y) = (match ev T x, ev T y with
    | .p a, .p b => match binP op a b with
      | some v => some { v := .p v }
      | none => none
    | _, _ => none) := _root_.id rfl
theorem opD_bbin (cf : CF) (raw : FuncId → Bool) (r i : Nat) (T : Tm) (H : Hp) (neq : Bool) (x : Opd) (y : Opd) : opD cf raw r i T H (.bbin neq x y) = (match ev T x, ev T y with
    | .p (.bool a), .p (.bool b) => some { v := .p (.bool (if neq then !(a == b) else a == b)) }
    | _, _ => none) := _root_.id rfl
theorem opD_isnil (cf : CF) (raw : FuncId → Bool) (r i : Nat) (T : Tm) (H : Hp) (x : Opd) : opD cf raw r i T H (.isnil x) = (match ev T x with
    | .p (.sl _ (_ :: _)) => some { v := .p (.bool false) }
    | .p (.sl _ []) => some { v := .ub }
    | .nils _ => some { v := .ub }
    | _ => none) := _root_.id rfl
theorem opD_eqs (cf : CF) (raw : FuncId → Bool) (r i : Nat) (T : Tm) (H : Hp) (neq : Bool) (ks : List CK) (x : Opd) (y : Opd) : opD cf raw r i T H (.eqs neq ks x y) = (match ev T x, ev T y with
    | .p (.agg a), .p (.agg b) => match eqCells ks a b with
      | some c => some { v := .p (.bool (if neq then !c else c)) }
      | none => none
    | _, _ => none) := _root_.id rfl
theorem opD_un (cf : CF) (raw : FuncId → Bool) (r i : Nat) (T : Tm) (H : Hp) (op : UnOp) (x : Opd) : opD cf raw r i T H (.un op x) = (match ev T x with
    | .p a => match unP op a with
      | some v => some { v := .p v }
      | none => none
    | _ => none) := _root_.id rfl
theorem opD_conv (cf : CF) (raw : FuncId → Bool) (r i : Nat) (T : Tm) (H : Hp) (k : IntKind) (x : Opd) : opD cf raw r i T H (.conv k x) = (match ev T x with
    | .p (.int _ n) => some { v := .p (.int k (k.wrap n)) }
    | _ => none) := _root_.id rfl
theorem opD_mkfn (cf : CF) (raw : FuncId → Bool) (r i : Nat) (T : Tm) (H : Hp) (f : FuncId) (a : List Opd) (b : List Opd) : opD cf raw r i T H (.mkfn f a b) = (some { v := .fn f (evL T a) (evL T b) }) := _root_.id rfl
theorem opD_mkslice (cf : CF) (raw : FuncId → Bool) (r i : Nat) (T : Tm) (H : Hp) (z : PV) (n : Opd) : opD cf raw r i T H (.mkslice z n) = (match natOf (ev T n) most with
    | some n => if (hget H (.loc r i 0)).isNone then some { v := .hsl (.loc r i 0) 0 n, up := [(.loc r i 0, some (.parr (List.replicate n z) z.cells.length false))] } else none
    | none => none) := _root_.id rfl
theorem opD_slice (cf : CF) (raw : FuncId → Bool) (r i : Nat) (T : Tm) (H : Hp) (z : Nat) (x : Opd) (lo : Option Opd) (hi : Option Opd) (mx : Option Opd) : opD cf raw r i T H (.slice z x lo hi mx) = (match ev T x with
    | .p (.str _) => none
    | _ => match sliceA H z (ev T x) (lo.map (ev T)) (hi.map (ev T)) (mx.map (ev T)) with
      | some v => some { v }
      | none => none) := _root_.id rfl
theorem opD_substr (cf : CF) (raw : FuncId → Bool) (r i : Nat) (T : Tm) (H : Hp) (x : Opd) (lo : Option Opd) (hi : Option Opd) : opD cf raw r i T H (.substr x lo hi) = (match ev T x with
    | .p (.str s) => match sliceA H 0 (.p (.str s)) (lo.map (ev T)) (hi.map (ev T)) none with
      | some v => some { v }
      | none => none
    | _ => none) := _root_.id rfl
theorem opD_faddr (cf : CF) (raw : FuncId → Bool) (r i : Nat) (T : Tm) (H : Hp) (off : Nat) (x : Opd) : opD cf raw r i T H (.faddr off x) = (match ev T x with
    | .ptr x o => some { v := .ptr x (o + off) }
    | .eptr x i o => some { v := .eptr x i (o + off) }
    | .rptr cs => some { v := .rptr (cs.drop off) }
    | _ => none) := _root_.id rfl
theorem opD_fld (cf : CF) (raw : FuncId → Bool) (r i : Nat) (T : Tm) (H : Hp) (agg : Bool) (size : Nat) (off : Nat) (x : Opd) : opD cf raw r i T H (.fld agg size off x) = (match partOf agg size off (ev T x) with
    | some v => some { v }
    | none => none) := _root_.id rfl
theorem opD_iaddr (cf : CF) (raw : FuncId → Bool) (r i : Nat) (T : Tm) (H : Hp) (z : Nat) (x : Opd) (j0 : Opd) : opD cf raw r i T H (.iaddr z x j0) = (match ev T j0 with
    | .p (.int _ n) => if 0 ≤ n then match iaddrD H z (ev T x) n.toNat with
        | some v => some { v }
        | none => none
      else none
    | _ => none) := _root_.id rfl
theorem opD_sidx (cf : CF) (raw : FuncId → Bool) (r i : Nat) (T : Tm) (H : Hp) (x : Opd) (j0 : Opd) : opD cf raw r i T H (.sidx x j0) = (match ev T x, ev T j0 with
    | .p (.str s), .p (.int _ n) => if 0 ≤ n then match s[n.toNat]? with
        | some b => some { v := .p (.int .u8 b.toNat) }
        | none => none
      else none
    | _, _ => none) := _root_.id rfl
theorem opD_aidx (cf : CF) (raw : FuncId → Bool) (r i : Nat) (T : Tm) (H : Hp) (agg : Bool) (n : Nat) (z : Nat) (x : Opd) (j0 : Opd) : opD cf raw r i T H (.aidx agg n z x j0) = (match ev T j0 with
    | .p (.int _ k) => if 0 ≤ k ∧ k < n then match partOf agg z (k.toNat * z) (ev T x) with
        | some v => some { v }
        | none => none
      else none
    | _ => none) := _root_.id rfl
theorem opD_ext (cf : CF) (raw : FuncId → Bool) (r i : Nat) (T : Tm) (H : Hp) (x : Opd) (j0 : Nat) : opD cf raw r i T H (.ext x j0) = (match ev T x with
    | .tup vs => match vs[j0]? with
      | some v => some { v }
      | none => none
    | _ => none) := _root_.id rfl
theorem opD_len_t (cf : CF) (raw : FuncId → Bool) (r i : Nat) (T : Tm) (H : Hp) (x : Opd) : opD cf raw r i T H (.len true x) = (match ev T x with
    | .p (.str s) => some { v := .p (.int .i64 s.size) }
    | _ => none) := _root_.id rfl
theorem opD_len_f (cf : CF) (raw : FuncId → Bool) (r i : Nat) (T : Tm) (H : Hp) (x : Opd) : opD cf raw r i T H (.len false x) = (match ev T x with
    | .p (.sl _ es) => some { v := .p (.int .i64 es.length) }
    | .nils _ => some { v := .p (.int .i64 0) }
    | .hsl _ _ n => some { v := .p (.int .i64 n) }
    | _ => none) := _root_.id rfl
theorem opD_append (cf : CF) (raw : FuncId → Bool) (r i : Nat) (T : Tm) (H : Hp) (z : Nat) (x : Opd) (y : Opd) : opD cf raw r i T H (.append z x y) = (match elems H (ev T y) with
    | some (z', ys) =>
      if z' = z then match ev T x with
        | .nils _ => if (hget H (.loc r i 0)).isNone ∧ ys.length ≤ most then
            some { v := .hsl (.loc r i 0) 0 ys.length, up := [(.loc r i 0, some (.parr ys z false))] } else none
        | .hsl n o len => match hget H n with
          | some (.parr es z'' false) =>
            if o = 0 ∧ len = es.length ∧ z'' = z ∧ len + ys.length ≤ most ∧ n.isLoc = true ∧ n ∉ hslN (ev T y) then
              some { v := .hsl n 0 (len + ys.length), up := [(n, some (.parr (es ++ ys) z false))], pg := some n } else none
          | _ => none
        | _ => none
      else none
    | none => none) := _root_.id rfl
theorem opD_mx (cf : CF) (raw : FuncId → Bool) (r i : Nat) (T : Tm) (H : Hp) (x : Opd) (y : Opd) : opD cf raw r i T H (.mx x y) = (match ev T x, ev T y with
    | .p (.int k a), .p (.int k' b) => if k = k' then some { v := .p (.int k (if a < b then b else a)) } else none
    | _, _ => none) := _root_.id rfl
theorem opD_mn (cf : CF) (raw : FuncId → Bool) (r i : Nat) (T : Tm) (H : Hp) (x : Opd) (y : Opd) : opD cf raw r i T H (.mn x y) = (match ev T x, ev T y with
    | .p (.int k a), .p (.int k' b) => if k = k' then some { v := .p (.int k (if b < a then b else a)) } else none
    | _, _ => none) := _root_.id rfl

/-- Calls whose arguments are plain. -/
def plainL : List AV → Bool
  | [] => true
  | .p _ :: r => plainL r
  | _ :: _ => false
theorem plainL_allP : ∀ {args : List AV}, plainL args = true → ∃ ps, allP args = some ps
  | [], _ => ⟨[], rfl⟩
  | .p v :: r, h => by obtain ⟨ps, hp⟩ := plainL_allP (args := r) h; exact ⟨v :: ps, by simp [allP, hp]⟩
  | .undef :: _, h => by simp [plainL] at h
  | .ub :: _, h => by simp [plainL] at h
  | .agg _ :: _, h => by simp [plainL] at h
  | .tup _ :: _, h => by simp [plainL] at h
  | .nils _ :: _, h => by simp [plainL] at h
  | .hsl .. :: _, h => by simp [plainL] at h
  | .ptr .. :: _, h => by simp [plainL] at h
  | .eptr .. :: _, h => by simp [plainL] at h
  | .rptr _ :: _, h => by simp [plainL] at h
  | .fn .. :: _, h => by simp [plainL] at h
theorem plainL_nil : plainL [] = true := _root_.id rfl
theorem plainL_p (v : PV) (r : List AV) : plainL (.p v :: r) = plainL r := _root_.id rfl
def plainEnd (H : Hp) (r i : Nat) (x : Option CR) : Option Dl := callEnd H r i [] [] x
theorem plainEnd_p (H : Hp) (r i : Nat) (v : PV) : plainEnd H r i (some ⟨.p v, [], []⟩) = some { v := .p v } := _root_.id rfl
theorem opD_callf (cf : CF) (raw : FuncId → Bool) (r i : Nat) (T : Tm) (H : Hp) (n : FuncId) (args : List Opd) : opD cf raw r i T H (.call (.f n) args) = callD cf (raw n) H r i n (evL T args) := by
  simp only [opD, ev, List.nil_append, List.append_nil]

def finX (F : SFn) (n : Nat) (st : St) (x : Option (List AV)) : Option CR :=
  match x with
  | none => none
  | some vs =>
    if n = 0 then match allP vs with
      | some _ => some { v := tup1 vs, outs := [], news := [] }
      | none => finish.finishG F n st vs
    else finish.finishG F n st vs
theorem finish_eq (F : SFn) (n : Nat) (st : St) : finish F n st = finX F n st (rvGets st.T st.H F.rv) := by
  unfold finish finX
  cases rvGets st.T st.H F.rv <;> rfl
theorem finX_plain (F : SFn) (st : St) (vs : List AV) (h : plainL vs = true) : finX F 0 st (some vs) = some { v := tup1 vs, outs := [], news := [] } := by
  obtain ⟨ps, hp⟩ := plainL_allP h
  simp only [finX, if_true, hp]
theorem finX_succ (F : SFn) (n : Nat) (st : St) (vs : List AV) : finX F (n + 1) st (some vs) = finish.finishG F (n + 1) st vs := by
  simp only [finX, Nat.succ_ne_zero, if_false]
theorem evL_nil (T : Tm) : evL T [] = [] := _root_.id rfl
theorem evL_cons (T : Tm) (x : Opd) (r : List Opd) : evL T (x :: r) = ev T x :: evL T r := _root_.id rfl
/-- A loop: a round, then the rest. -/
def loopX (x : Option St) (f : St → Option (Ex × St)) (g : St → Option (Ex × St)) : Option (Ex × St) := obind x fun st => seqX (f st) g
theorem sexW_loop' (E : Env) (n : Nat) (kt : List Nat) (kh : List Nm) (b : SCode) (st : St) : sexW E n (.loop kt kh b) st = loopX (cutX n kt kh st) (fun st => sexW E n b st) (fun st => sexW E n (.loop kt kh b) st) := by
  rw [sexW_loop]
  unfold loopX seqX
  cases cutX n kt kh st with
  | none => rfl
  | some st => rfl
def cutZ (b : Bool) (T : Tm) (H : Hp) : Option St := match b with | true => some { T, H } | false => none
theorem cutZ_t (T : Tm) (H : Hp) : cutZ true T H = some { T, H } := _root_.id rfl
def cutY (T : Tm) (H : Hp) : Option St := if allIn H (namesT T) && allIn H (namesH H) then some { T, H } else none
theorem cutY_eq (T : Tm) (H : Hp) : cutY T H = cutZ (allIn H (namesT T) && allIn H (namesH H)) T H := by unfold cutY cutZ; cases (allIn H (namesT T) && allIn H (namesH H)) <;> rfl
theorem keepT_nil (T : Tm) : keepT T [] = [] := _root_.id rfl
theorem keepT_cons (T : Tm) (i : Nat) (r : List Nat) : keepT T (i :: r) = (i, tget T i) :: keepT T r := _root_.id rfl
theorem exts_zero (H : Hp) (k : Nat) : exts H k 0 = [] := _root_.id rfl
theorem exts_one (H : Hp) : exts H 0 1 = [(.ext 0, hget H (.ext 0))] := _root_.id rfl
theorem exts_two (H : Hp) : exts H 0 2 = [(.ext 0, hget H (.ext 0)), (.ext 1, hget H (.ext 1))] := _root_.id rfl
theorem keepH_nil (H : Hp) : keepH H [] = [] := _root_.id rfl
theorem keepH_cons (H : Hp) (x : Nm) (r : List Nm) : keepH H (x :: r) = (x, hget H x) :: keepH H r := _root_.id rfl
theorem namesT_nil : namesT [] = [] := _root_.id rfl
theorem namesT_cons (i : Nat) (v : AV) (r : Tm) : namesT ((i, v) :: r) = v.names ++ namesT r := _root_.id rfl
theorem namesH_nil : namesH [] = [] := _root_.id rfl
theorem namesH_some (x : Nm) (o : AObj) (r : Hp) : namesH ((x, some o) :: r) = o.names ++ namesH r := _root_.id rfl
theorem namesH_none (x : Nm) (r : Hp) : namesH ((x, none) :: r) = namesH r := _root_.id rfl
theorem allIn_nil (H : Hp) : allIn H [] = true := _root_.id rfl
theorem allIn_cons (H : Hp) (x : Nm) (r : List Nm) : allIn H (x :: r) = ((hget H x).isSome && allIn H r) := _root_.id rfl
theorem cutX_eq (n : Nat) (kt : List Nat) (kh : List Nm) (st : St) : cutX n kt kh st = cutY (keepT st.T kt) (exts st.H 0 n ++ keepH st.H kh) := _root_.id rfl
/-- Calls whose arguments are plain, or functions that hold plain data. -/
def plainF : List AV → Bool
  | [] => true
  | .p _ :: r => plainF r
  | .fn _ a b :: r => plainL a && plainL b && plainF r
  | _ :: _ => false
theorem plainF_nil : plainF [] = true := _root_.id rfl
theorem plainF_p (v : PV) (r : List AV) : plainF (.p v :: r) = plainF r := _root_.id rfl
theorem plainF_fn (f : FuncId) (a b r : List AV) : plainF (.fn f a b :: r) = (plainL a && plainL b && plainF r) := _root_.id rfl
theorem plainL_facts {a : List AV} (h : plainL a = true) : namesL a = [] ∧ ∀ f, renL f a = some a := by
  induction a with
  | nil => exact ⟨rfl, fun f => rfl⟩
  | cons v r ih =>
    cases v with
    | p v => obtain ⟨h1, h2⟩ := ih h; exact ⟨by simp [namesL, AV.names, h1], fun f => by simp [renL, AV.ren, h2]⟩
    | _ => simp [plainL] at h
theorem plainF_facts {a : List AV} (h : plainF a = true) : namesL a = [] ∧ (∀ f, renL f a = some a) ∧ (∀ H, frzL H a = some a) ∧ frzNs a = [] := by
  induction a with
  | nil => exact ⟨rfl, fun f => rfl, fun H => rfl, rfl⟩
  | cons v r ih =>
    cases v with
    | p v => obtain ⟨h1, h2, h3, h4⟩ := ih h; exact ⟨by simp [namesL, AV.names, h1], fun f => by simp [renL, AV.ren, h2], fun H => by simp [frzL, frz, frz1, h3], by simp [frzNs, hslN, h4]⟩
    | fn f a b =>
      simp only [plainF, Bool.and_eq_true] at h
      obtain ⟨h1, h2, h3, h4⟩ := ih h.2
      obtain ⟨a1, a2⟩ := plainL_facts h.1.1
      obtain ⟨b1, b2⟩ := plainL_facts h.1.2
      exact ⟨by simp [namesL, AV.names, h1, a1, b1], fun f => by simp [renL, AV.ren, h2, a2, b2], fun H => by simp [frzL, frz, frz1, h3], by simp [frzNs, hslN, h4]⟩
    | _ => simp [plainF] at h
theorem callD_plainF (cf : CF) (raw : Bool) (H : Hp) (r i : Nat) (f : FuncId) (args : List AV) (h : plainF args = true) : callD cf raw H r i f args = plainEnd H r i (cf f args []) := by
  obtain ⟨h1, h2, h3, h4⟩ := plainF_facts h
  unfold callD
  cases ha : allP args with
  | some ps => rfl
  | none =>
    have hr : ∀ H : Hp, reach H 64 [] [] = some [] := fun H => rfl
    cases raw <;> simp [callNs, h1, h2, h3, h4, ha, hr, frzUp, boxUps, hgets, renOs, plainEnd]
def callV (cf : CF) (raw : FuncId → Bool) (H : Hp) (r i : Nat) (v : AV) (args : List AV) : Option Dl :=
  match v with
  | .fn f a b => callD cf (raw f) H r i f (a ++ args ++ b)
  | _ => none
theorem callV_fn (cf : CF) (raw : FuncId → Bool) (H : Hp) (r i : Nat) (f : FuncId) (a b args : List AV) : callV cf raw H r i (.fn f a b) args = callD cf (raw f) H r i f (a ++ args ++ b) := _root_.id rfl
theorem opD_callt (cf : CF) (raw : FuncId → Bool) (r i : Nat) (T : Tm) (H : Hp) (n : Nat) (args : List Opd) : opD cf raw r i T H (.call (.t n) args) = callV cf raw H r i (tget T n) (evL T args) := by
  simp only [opD, ev, callV]
  cases tget T n <;> rfl


/-! ### What is left to be done, told without functions: simp leaves it alone till it is its turn -/
noncomputable def seqK (E : Env) (n : Nat) (b : SCode) (x : Option (Ex × St)) : Option (Ex × St) := seqX x fun st => sexW E n b st
theorem seqK_nrm (E : Env) (n : Nat) (b : SCode) (st : St) : seqK E n b (some (.nrm, st)) = sexW E n b st := _root_.id rfl
theorem seqK_ret (E : Env) (n : Nat) (b : SCode) (st : St) : seqK E n b (some (.ret, st)) = some (.ret, st) := _root_.id rfl
theorem seqK_ex (E : Env) (n : Nat) (b : SCode) (id : Nat) (st : St) : seqK E n b (some (.ex id, st)) = some (.ex id, st) := _root_.id rfl
theorem sexW_seqK (E : Env) (n : Nat) (st : St) (a b : SCode) : sexW E n (.seq a b) st = seqK E n b (sexW E n a st) := sexW_seq E n st a b
def regK (x : Option St) : Option (Ex × St) := obind x fun st => some (.nrm, st)
theorem regK_some (st : St) : regK (some st) = some (.nrm, st) := _root_.id rfl
theorem sexW_regK (E : Env) (n : Nat) (st : St) (r : Nat) (ops : List SOper) : sexW E n (.reg r ops) st = regK (opsX (callW E) E.raw r 0 ops st) := sexW_reg E n st r ops
theorem sexW_drawK (E : Env) (n : Nat) (st : St) (r : Nat) (ops : List SOper) (ps : List (Nat × Nat)) : sexW E n (.draw r ops ps) st = regK (drawX (callW E) E.raw r ops ps st) := sexW_draw E n st r ops ps
noncomputable def condW (E : Env) (n : Nat) (a b : SCode) (st : St) (v : AV) : Option (Ex × St) := onB v (sexW E n a st) (sexW E n b st)
theorem sexW_condW (E : Env) (n : Nat) (st : St) (c : Opd) (a b : SCode) : sexW E n (.cond c a b) st = condW E n a b st (ev st.T c) := sexW_cond E n st c a b
theorem condW_t (E : Env) (n : Nat) (a b : SCode) (st : St) : condW E n a b st (.p (.bool true)) = sexW E n a st := _root_.id rfl
theorem condW_f (E : Env) (n : Nat) (a b : SCode) (st : St) : condW E n a b st (.p (.bool false)) = sexW E n b st := _root_.id rfl
/-- A test that is not settled. -/
def ifq {α : Type} (c : Bool) (x y : α) : α := match c with | true => x | false => y
theorem condW_q (E : Env) (n : Nat) (a b : SCode) (st : St) (c : Bool) : condW E n a b st (.p (.bool c)) = ifq c (sexW E n a st) (sexW E n b st) := by cases c <;> rfl
def cutK (e : Ex) (x : Option St) : Option (Ex × St) := obind x fun st => some (e, st)
theorem cutK_some (e : Ex) (st : St) : cutK e (some st) = some (e, st) := _root_.id rfl
theorem sexW_cutK (E : Env) (n : Nat) (st : St) (kt : List Nat) (kh : List Nm) : sexW E n (.cut kt kh) st = cutK .nrm (cutX n kt kh st) := sexW_cut E n st kt kh
def opsK (cf : CF) (raw : FuncId → Bool) (r i : Nat) (dst : Option Nat) (rest : List SOper) (st : St) (x : Option Dl) : Option St := obind x fun d => opsX cf raw r (i + 1) rest (putD dst d st.T st.H)
theorem opsK_some (cf : CF) (raw : FuncId → Bool) (r i : Nat) (dst : Option Nat) (rest : List SOper) (st : St) (d : Dl) : opsK cf raw r i dst rest st (some d) = opsX cf raw r (i + 1) rest (putD dst d st.T st.H) := _root_.id rfl
theorem ops_plainK (cf : CF) (raw : FuncId → Bool) (r i : Nat) (dst : Option Nat) (op : SOp) (rest : List SOper) (st : St) :
    opsX cf raw r i ({ dst := dst, op := op } :: rest) st = opsK cf raw r i dst rest st (opD cf raw r i st.T st.H op) := ops_plain cf raw r i dst op rest st
def opsG (cf : CF) (raw : FuncId → Bool) (r i : Nat) (dst : Option Nat) (op : SOp) (rest : List SOper) (st : St) (b : Bool) (v : AV) : Option St :=
  onG v b (opsK cf raw r i dst rest st (opD cf raw r i st.T st.H op)) (opsX cf raw r (i + 1) rest (putD dst { v := .tup [] } st.T st.H))
theorem ops_guardK (cf : CF) (raw : FuncId → Bool) (r i : Nat) (dst : Option Nat) (op : SOp) (t : Nat) (b : Bool) (rest : List SOper) (st : St) :
    opsX cf raw r i ({ dst := dst, op := op, guard := some (t, b) } :: rest) st = opsG cf raw r i dst op rest st b (tget st.T t) := ops_guard cf raw r i dst op t b rest st
section
variable (cf : CF) (raw : FuncId → Bool) (r i : Nat) (dst : Option Nat) (op : SOp) (rest : List SOper) (st : St)
theorem opsG_tt : opsG cf raw r i dst op rest st true (.p (.bool true)) = opsK cf raw r i dst rest st (opD cf raw r i st.T st.H op) := _root_.id rfl
theorem opsG_tf : opsG cf raw r i dst op rest st false (.p (.bool true)) = opsX cf raw r (i + 1) rest (putD dst { v := .tup [] } st.T st.H) := _root_.id rfl
theorem opsG_ft : opsG cf raw r i dst op rest st true (.p (.bool false)) = opsX cf raw r (i + 1) rest (putD dst { v := .tup [] } st.T st.H) := _root_.id rfl
theorem opsG_ff : opsG cf raw r i dst op rest st false (.p (.bool false)) = opsK cf raw r i dst rest st (opD cf raw r i st.T st.H op) := _root_.id rfl
theorem opsG_tup (b : Bool) : opsG cf raw r i dst op rest st b (.tup []) = opsX cf raw r (i + 1) rest (putD dst { v := .tup [] } st.T st.H) := _root_.id rfl
theorem opsG_q (b c : Bool) : opsG cf raw r i dst op rest st b (.p (.bool c)) = ifq c (opsG cf raw r i dst op rest st b (.p (.bool true))) (opsG cf raw r i dst op rest st b (.p (.bool false))) := by cases c <;> rfl
end
attribute [go_sem] seqK_nrm seqK_ret seqK_ex regK_some condW_t condW_f cutK_some sexW_cutK sexW_seqK sexW_regK sexW_drawK sexW_condW opsK_some ops_plainK ops_guardK opsG_tt opsG_tf opsG_ft opsG_ff opsG_tup
/-! ### Trimming, loops, folded code -/
theorem trimX_nrm (n : Nat) (kn kr : List Nat) (ke : List (Nat × List Nat)) (kh : List Nm) (st : St) : trimX n kn kr ke kh (some (.nrm, st)) = cutK .nrm (cutX n kn kh st) := _root_.id rfl
theorem trimX_ret (n : Nat) (kn kr : List Nat) (ke : List (Nat × List Nat)) (kh : List Nm) (st : St) : trimX n kn kr ke kh (some (.ret, st)) = cutK .ret (cutX n kr kh st) := _root_.id rfl
def trimE (n id : Nat) (k : Option (List Nat)) (kh : List Nm) (st : St) : Option (Ex × St) :=
  match k with
  | some k => cutK (.ex id) (cutX n k kh st)
  | none => some (.ex id, st)
theorem trimE_some (n id : Nat) (k : List Nat) (kh : List Nm) (st : St) : trimE n id (some k) kh st = cutK (.ex id) (cutX n k kh st) := _root_.id rfl
theorem trimE_none (n id : Nat) (kh : List Nm) (st : St) : trimE n id none kh st = some (.ex id, st) := _root_.id rfl
theorem trimX_ex (n id : Nat) (kn kr : List Nat) (ke : List (Nat × List Nat)) (kh : List Nm) (st : St) : trimX n kn kr ke kh (some (.ex id, st)) = trimE n id (keepE id ke) kh st := by
  simp only [trimX, trimE]
  cases keepE id ke <;> rfl
theorem keepE_nil (id : Nat) : keepE id [] = none := _root_.id rfl
theorem keepE_cons (id j : Nat) (k : List Nat) (r : List (Nat × List Nat)) : keepE id ((j, k) :: r) = if j = id then some k else keepE id r := _root_.id rfl

noncomputable def loopW (E : Env) (n : Nat) (kt : List Nat) (kh : List Nm) (b : SCode) (x : Option St) : Option (Ex × St) :=
  obind x fun st => seqX (sexW E n b st) fun st => sexW E n (.loop kt kh b) st
theorem sexW_loopW (E : Env) (n : Nat) (kt : List Nat) (kh : List Nm) (b : SCode) (st : St) : sexW E n (.loop kt kh b) st = loopW E n kt kh b (cutX n kt kh st) := by
  rw [sexW_loop']; rfl
def loopK (K : Option St → Option (Ex × St)) (n : Nat) (kt : List Nat) (kh : List Nm) (x : Option (Ex × St)) : Option (Ex × St) := seqX x fun st => K (cutX n kt kh st)
theorem loopK_nrm (K : Option St → Option (Ex × St)) (n : Nat) (kt : List Nat) (kh : List Nm) (st : St) : loopK K n kt kh (some (.nrm, st)) = K (cutX n kt kh st) := _root_.id rfl
theorem loopK_ret (K : Option St → Option (Ex × St)) (n : Nat) (kt : List Nat) (kh : List Nm) (st : St) : loopK K n kt kh (some (.ret, st)) = some (.ret, st) := _root_.id rfl
theorem loopK_ex (K : Option St → Option (Ex × St)) (n : Nat) (kt : List Nat) (kh : List Nm) (id : Nat) (st : St) : loopK K n kt kh (some (.ex id, st)) = some (.ex id, st) := _root_.id rfl
theorem loopW_some (E : Env) (n : Nat) (kt : List Nat) (kh : List Nm) (b : SCode) (st : St) : loopW E n kt kh b (some st) = loopK (loopW E n kt kh b) n kt kh (sexW E n b st) := by
  unfold loopW
  rw [obind_some, loopK]
  congr 1
  funext st
  rw [sexW_loopW]; rfl
attribute [go_sem] loopK_nrm loopK_ret loopK_ex
/-! ### Regions that draw their order -/
theorem drawX_nil (cf : CF) (raw : FuncId → Bool) (r : Nat) (ops : List SOper) (st : St) : drawX cf raw r ops [] st = opsX cf raw r 0 ops st := _root_.id rfl
def drawEnd (r : Nat) (ps : List (Nat × Nat)) (x : Option (St × Log)) : Option St := obind x fun x => if ps.all (pairOk r x.2) = true then some x.1 else none
theorem drawX_cons (cf : CF) (raw : FuncId → Bool) (r : Nat) (ops : List SOper) (p : Nat × Nat) (ps : List (Nat × Nat)) (st : St) : drawX cf raw r ops (p :: ps) st = drawEnd r (p :: ps) (opsLX cf raw r 0 ops st []) := _root_.id rfl
def drawIf (b : Bool) (st : St) : Option St := if b = true then some st else none
theorem drawIf_t (st : St) : drawIf true st = some st := _root_.id rfl
theorem drawEnd_some (r : Nat) (ps : List (Nat × Nat)) (st : St) (l : Log) : drawEnd r ps (some (st, l)) = drawIf (ps.all (pairOk r l)) st := _root_.id rfl
theorem opsL_nil (cf : CF) (raw : FuncId → Bool) (r i : Nat) (st : St) (l : Log) : opsLX cf raw r i [] st l = some (st, l) := _root_.id rfl
def onGL (v : AV) (b : Bool) (x y : Option (St × Log)) : Option (St × Log) :=
  match v with
  | .p (.bool c) => if c = b then x else y
  | .tup [] => y
  | _ => none
def opsLK (cf : CF) (raw : FuncId → Bool) (r i : Nat) (dst : Option Nat) (rest : List SOper) (st : St) (l : Log) (f : Foot) (x : Option Dl) : Option (St × Log) :=
  obind x fun d => opsLX cf raw r (i + 1) rest (putD dst d st.T st.H) (l ++ [⟨f, upNames d.up, d.pg.isNone, d.v, d.up⟩])
theorem opsLK_some (cf : CF) (raw : FuncId → Bool) (r i : Nat) (dst : Option Nat) (rest : List SOper) (st : St) (l : Log) (f : Foot) (d : Dl) : opsLK cf raw r i dst rest st l f (some d) = opsLX cf raw r (i + 1) rest (putD dst d st.T st.H) (l ++ [⟨f, upNames d.up, d.pg.isNone, d.v, d.up⟩]) := _root_.id rfl
theorem opsL_plain (cf : CF) (raw : FuncId → Bool) (r i : Nat) (dst : Option Nat) (op : SOp) (rest : List SOper) (st : St) (l : Log) :
    opsLX cf raw r i ({ dst := dst, op := op } :: rest) st l = opsLK cf raw r i dst rest st l ⟨fp raw st.T st.H op, footV st.T { dst := dst, op := op }, footO st.H (fp raw st.T st.H op)⟩ (opD cf raw r i st.T st.H op) := by
  simp only [opsLX, outX, wantedG, opsLK]
  cases opD cf raw r i st.T st.H op <;> rfl
def opsLG (cf : CF) (raw : FuncId → Bool) (r i : Nat) (dst : Option Nat) (op : SOp) (rest : List SOper) (st : St) (l : Log) (t : Nat) (b : Bool) (v : AV) : Option (St × Log) :=
  onGL v b (opsLK cf raw r i dst rest st l ⟨fp raw st.T st.H op, footV st.T { dst := dst, op := op, guard := some (t, b) }, footO st.H (fp raw st.T st.H op)⟩ (opD cf raw r i st.T st.H op)) (opsLX cf raw r (i + 1) rest (putD dst { v := .tup [] } st.T st.H) (l ++ [⟨⟨[], footV st.T { dst := dst, op := op, guard := some (t, b) }, []⟩, [], true, .tup [], []⟩]))
theorem opsL_guard (cf : CF) (raw : FuncId → Bool) (r i : Nat) (dst : Option Nat) (op : SOp) (t : Nat) (b : Bool) (rest : List SOper) (st : St) (l : Log) :
    opsLX cf raw r i ({ dst := dst, op := op, guard := some (t, b) } :: rest) st l = opsLG cf raw r i dst op rest st l t b (tget st.T t) := by
  simp only [opsLX, outX, wantedG, opsLG, onGL, opsLK]
  cases tget st.T t with
  | p v => cases v with
    | bool c => cases c <;> cases b <;> simp [obind_some] <;> (cases opD cf raw r i st.T st.H op <;> rfl)
    | _ => rfl
  | tup vs => cases vs <;> simp [obind_some] <;> rfl
  | _ => rfl
section
variable (cf : CF) (raw : FuncId → Bool) (r i : Nat) (dst : Option Nat) (op : SOp) (rest : List SOper) (st : St) (l : Log)
theorem opsLG_tt (t : Nat) : opsLG cf raw r i dst op rest st l t true (.p (.bool true)) = opsLK cf raw r i dst rest st l ⟨fp raw st.T st.H op, footV st.T { dst := dst, op := op, guard := some (t, true) }, footO st.H (fp raw st.T st.H op)⟩ (opD cf raw r i st.T st.H op) := _root_.id rfl
theorem opsLG_ff (t : Nat) : opsLG cf raw r i dst op rest st l t false (.p (.bool false)) = opsLK cf raw r i dst rest st l ⟨fp raw st.T st.H op, footV st.T { dst := dst, op := op, guard := some (t, false) }, footO st.H (fp raw st.T st.H op)⟩ (opD cf raw r i st.T st.H op) := _root_.id rfl
theorem opsLG_tf (t : Nat) : opsLG cf raw r i dst op rest st l t false (.p (.bool true)) = opsLX cf raw r (i + 1) rest (putD dst { v := .tup [] } st.T st.H) (l ++ [⟨⟨[], footV st.T { dst := dst, op := op, guard := some (t, false) }, []⟩, [], true, .tup [], []⟩]) := _root_.id rfl
theorem opsLG_ft (t : Nat) : opsLG cf raw r i dst op rest st l t true (.p (.bool false)) = opsLX cf raw r (i + 1) rest (putD dst { v := .tup [] } st.T st.H) (l ++ [⟨⟨[], footV st.T { dst := dst, op := op, guard := some (t, true) }, []⟩, [], true, .tup [], []⟩]) := _root_.id rfl
theorem opsLG_tup (t : Nat) (b : Bool) : opsLG cf raw r i dst op rest st l t b (.tup []) = opsLX cf raw r (i + 1) rest (putD dst { v := .tup [] } st.T st.H) (l ++ [⟨⟨[], footV st.T { dst := dst, op := op, guard := some (t, b) }, []⟩, [], true, .tup [], []⟩]) := _root_.id rfl
theorem opsLG_q (t : Nat) (b c : Bool) : opsLG cf raw r i dst op rest st l t b (.p (.bool c)) = ifq c (opsLG cf raw r i dst op rest st l t b (.p (.bool true))) (opsLG cf raw r i dst op rest st l t b (.p (.bool false))) := by cases c <;> rfl
end
attribute [go_sem] opsLK_some opsLG_tt opsLG_ff opsLG_tf opsLG_ft opsLG_tup
theorem upNames_nil : upNames [] = [] := _root_.id rfl
theorem upNames_cons (x : Nm) (o : Option AObj) (r : Hp) : upNames ((x, o) :: r) = x :: upNames r := _root_.id rfl
theorem fp_load (raw : FuncId → Bool) (T : Tm) (H : Hp) (a : Bool) (s : Nat) (x : Opd) : fp raw T H (.load a s x) = (ev T x).names := _root_.id rfl
theorem fp_store (raw : FuncId → Bool) (T : Tm) (H : Hp) (s : Nat) (a v : Opd) : fp raw T H (.store s a v) = (ev T a).names ++ (ev T v).names := _root_.id rfl
theorem fp_slice (raw : FuncId → Bool) (T : Tm) (H : Hp) (z : Nat) (x : Opd) (a b c : Option Opd) : fp raw T H (.slice z x a b c) = (ev T x).names := _root_.id rfl
theorem fp_iaddr (raw : FuncId → Bool) (T : Tm) (H : Hp) (z : Nat) (x i : Opd) : fp raw T H (.iaddr z x i) = (ev T x).names := _root_.id rfl
theorem fp_bslice (raw : FuncId → Bool) (T : Tm) (H : Hp) (o : Bool) (z : Nat) (ps : List Opd) : fp raw T H (.bslice o z ps) = namesL (evL T ps) := _root_.id rfl
theorem fp_append (raw : FuncId → Bool) (T : Tm) (H : Hp) (z : Nat) (x y : Opd) : fp raw T H (.append z x y) = (ev T x).names ++ (ev T y).names := _root_.id rfl
theorem fp_callf (raw : FuncId → Bool) (T : Tm) (H : Hp) (f : FuncId) (as : List Opd) : fp raw T H (.call (.f f) as) = callFp (raw f) H (evL T as) := by
  simp only [fp, ev, List.nil_append, List.append_nil]
theorem callFp_plain (raw : Bool) (H : Hp) (args : List AV) (h : plainL args = true) : callFp raw H args = [] := by
  obtain ⟨ps, hp⟩ := plainL_allP h
  simp only [callFp, hp]
theorem fp_mv_ (raw : FuncId → Bool) (T : Tm) (H : Hp) (x : Opd) : fp raw T H (.mv x) = [] := _root_.id rfl
theorem fp_nnew_ (raw : FuncId → Bool) (T : Tm) (H : Hp) (esz : Nat) : fp raw T H (.nnew esz) = [] := _root_.id rfl
theorem fp_pick_ (raw : FuncId → Bool) (T : Tm) (H : Hp) (c a b : Opd) : fp raw T H (.pick c a b) = [] := _root_.id rfl
theorem fp_alloc_ (raw : FuncId → Bool) (T : Tm) (H : Hp) (zs : List ZC) : fp raw T H (.alloc zs) = [] := _root_.id rfl
theorem fp_box_ (raw : FuncId → Bool) (T : Tm) (H : Hp) (x : Opd) : fp raw T H (.box x) = [] := _root_.id rfl
theorem fp_build_ (raw : FuncId → Bool) (T : Tm) (H : Hp) (zero : List ZC) (parts : List (Nat × Nat × Opd)) : fp raw T H (.build zero parts) = [] := _root_.id rfl
theorem fp_nilck_ (raw : FuncId → Bool) (T : Tm) (H : Hp) (x : Opd) : fp raw T H (.nilck x) = [] := _root_.id rfl
theorem fp_bin_ (raw : FuncId → Bool) (T : Tm) (H : Hp) (op : BinOp) (x y : Opd) : fp raw T H (.bin op x y) = [] := _root_.id rfl
theorem fp_bbin_ (raw : FuncId → Bool) (T : Tm) (H : Hp) (neq : Bool) (x y : Opd) : fp raw T H (.bbin neq x y) = [] := _root_.id rfl
theorem fp_isnil_ (raw : FuncId → Bool) (T : Tm) (H : Hp) (x : Opd) : fp raw T H (.isnil x) = [] := _root_.id rfl
theorem fp_eqs_ (raw : FuncId → Bool) (T : Tm) (H : Hp) (neq : Bool) (ks : List CK) (x y : Opd) : fp raw T H (.eqs neq ks x y) = [] := _root_.id rfl
theorem fp_un_ (raw : FuncId → Bool) (T : Tm) (H : Hp) (op : UnOp) (x : Opd) : fp raw T H (.un op x) = [] := _root_.id rfl
theorem fp_conv_ (raw : FuncId → Bool) (T : Tm) (H : Hp) (k : IntKind) (x : Opd) : fp raw T H (.conv k x) = [] := _root_.id rfl
theorem fp_mkfn_ (raw : FuncId → Bool) (T : Tm) (H : Hp) (f : FuncId) (first caps : List Opd) : fp raw T H (.mkfn f first caps) = [] := _root_.id rfl
theorem fp_mkslice_ (raw : FuncId → Bool) (T : Tm) (H : Hp) (zero : PV) (len : Opd) : fp raw T H (.mkslice zero len) = [] := _root_.id rfl
theorem fp_substr_ (raw : FuncId → Bool) (T : Tm) (H : Hp) (x : Opd) (lo hi : Option Opd) : fp raw T H (.substr x lo hi) = [] := _root_.id rfl
theorem fp_faddr_ (raw : FuncId → Bool) (T : Tm) (H : Hp) (off : Nat) (x : Opd) : fp raw T H (.faddr off x) = [] := _root_.id rfl
theorem fp_fld_ (raw : FuncId → Bool) (T : Tm) (H : Hp) (agg : Bool) (size off : Nat) (x : Opd) : fp raw T H (.fld agg size off x) = [] := _root_.id rfl
theorem fp_sidx_ (raw : FuncId → Bool) (T : Tm) (H : Hp) (x i : Opd) : fp raw T H (.sidx x i) = [] := _root_.id rfl
theorem fp_aidx_ (raw : FuncId → Bool) (T : Tm) (H : Hp) (agg : Bool) (n esz : Nat) (x i : Opd) : fp raw T H (.aidx agg n esz x i) = [] := _root_.id rfl
theorem fp_ext_ (raw : FuncId → Bool) (T : Tm) (H : Hp) (x : Opd) (i : Nat) : fp raw T H (.ext x i) = [] := _root_.id rfl
theorem fp_len_ (raw : FuncId → Bool) (T : Tm) (H : Hp) (s : Bool) (x : Opd) : fp raw T H (.len s x) = [] := _root_.id rfl
theorem fp_mx_ (raw : FuncId → Bool) (T : Tm) (H : Hp) (x y : Opd) : fp raw T H (.mx x y) = [] := _root_.id rfl
theorem fp_mn_ (raw : FuncId → Bool) (T : Tm) (H : Hp) (x y : Opd) : fp raw T H (.mn x y) = [] := _root_.id rfl
def pairQ (r i j : Nat) (a b : Option Ent) : Bool :=
  match a, b with
  | some a, some b => entOk r i j a b || entPg r j a b || entRd r j a b
  | _, _ => false
theorem pairOk_eq (r : Nat) (l : Log) (i j : Nat) : pairOk r l (i, j) = pairQ r i j l[i]? l[j]? := _root_.id rfl
theorem pairQ_some (r i j : Nat) (a b : Ent) : pairQ r i j (some a) (some b) = if entOk r i j a b = true then true else if entPg r j a b = true then true else entRd r j a b := by
  simp only [pairQ]
  cases entOk r i j a b <;> cases entPg r j a b <;> rfl
theorem look_cons (x : Nm) (ns : List Nm) (o : Option AObj) (os : List (Option AObj)) (y : Nm) : look (x :: ns) (o :: os) y = if x = y then o else look ns os y := _root_.id rfl
theorem sameO_box (a b : List AV) : sameO (some (.box a)) (some (.box b)) = sameVL a b := _root_.id rfl
theorem sameVL_nil : sameVL [] [] = true := _root_.id rfl
theorem sameVL_cons (a b : AV) (x y : List AV) : sameVL (a :: x) (b :: y) = (sameV a b && sameVL x y) := _root_.id rfl
theorem sameV_int (k k' : IntKind) (n n' : Int) : sameV (.p (.int k n)) (.p (.int k' n')) = if k = k' then (if n = n' then true else false) else false := _root_.id rfl
theorem sameV_str (a b : ByteArray) : sameV (.p (.str a)) (.p (.str b)) = if a = b then true else false := _root_.id rfl
theorem sameV_bool (a b : Bool) : sameV (.p (.bool a)) (.p (.bool b)) = if a = b then true else false := _root_.id rfl
attribute [go_sem] entRd look_cons sameO_box sameVL_nil sameVL_cons sameV_int sameV_str sameV_bool
theorem offNm_ext (r i k : Nat) : offNm r i (.ext k) = true := _root_.id rfl
theorem offNm_loc (r i a b c : Nat) : offNm r i (.loc a b c) = !(r == a && i == b) := _root_.id rfl
theorem disj_nil (b : List Nm) : disj [] b = true := _root_.id rfl
theorem disj_cons (x : Nm) (a b : List Nm) : disj (x :: a) b = (!b.contains x && disj a b) := _root_.id rfl
theorem nm_beq_el (k a b c : Nat) : (Nm.ext k == Nm.loc a b c) = false := by simp
theorem nm_beq_le (k a b c : Nat) : (Nm.loc a b c == Nm.ext k) = false := by simp
theorem nm_beq_ee (i j : Nat) : (Nm.ext i == Nm.ext j) = (i == j) := by rw [Bool.eq_iff_iff]; simp
theorem nm_beq_ll (a b c d e f : Nat) : (Nm.loc a b c == Nm.loc d e f) = (a == d && (b == e && c == f)) := by rw [Bool.eq_iff_iff]; simp
attribute [go_sem] nm_beq_el nm_beq_le nm_beq_ee nm_beq_ll
attribute [go_sem] drawX_nil drawX_cons drawEnd_some drawIf_t opsL_nil opsL_plain opsL_guard upNames_nil upNames_cons fp_load fp_store fp_slice fp_iaddr fp_bslice fp_append fp_callf callFp_plain fp_mv_ fp_nnew_ fp_pick_ fp_alloc_ fp_box_ fp_build_ fp_nilck_ fp_bin_ fp_bbin_ fp_isnil_ fp_eqs_ fp_un_ fp_conv_ fp_mkfn_ fp_mkslice_ fp_substr_ fp_faddr_ fp_fld_ fp_sidx_ fp_aidx_ fp_ext_ fp_len_ fp_mx_ fp_mn_ pairOk_eq pairQ_some offNm_ext offNm_loc disj_nil disj_cons List.contains_cons List.contains_nil List.all_cons List.all_nil List.getElem?_cons_succ
/-! ### Calls with one variable of one's own -/
theorem frzL1_plain {H : Hp} : ∀ {cs : List AV}, plainL cs = true → frzL1 H cs = some cs
  | [], _ => rfl
  | .p v :: r, h => by simp only [frzL1, frz1, frzL1_plain (cs := r) h]
  | .undef :: _, h => by simp [plainL] at h
  | .ub :: _, h => by simp [plainL] at h
  | .agg _ :: _, h => by simp [plainL] at h
  | .tup _ :: _, h => by simp [plainL] at h
  | .nils _ :: _, h => by simp [plainL] at h
  | .hsl .. :: _, h => by simp [plainL] at h
  | .ptr .. :: _, h => by simp [plainL] at h
  | .eptr .. :: _, h => by simp [plainL] at h
  | .rptr _ :: _, h => by simp [plainL] at h
  | .fn .. :: _, h => by simp [plainL] at h
theorem hslN_plain : ∀ {cs : List AV}, plainL cs = true → cs.flatMap hslN = []
  | [], _ => rfl
  | .p v :: r, h => by simp [hslN, hslN_plain (cs := r) h]
  | .undef :: _, h => by simp [plainL] at h
  | .ub :: _, h => by simp [plainL] at h
  | .agg _ :: _, h => by simp [plainL] at h
  | .tup _ :: _, h => by simp [plainL] at h
  | .nils _ :: _, h => by simp [plainL] at h
  | .hsl .. :: _, h => by simp [plainL] at h
  | .ptr .. :: _, h => by simp [plainL] at h
  | .eptr .. :: _, h => by simp [plainL] at h
  | .rptr _ :: _, h => by simp [plainL] at h
  | .fn .. :: _, h => by simp [plainL] at h
theorem plainL_F : ∀ {cs : List AV}, plainL cs = true → plainF cs = true
  | [], _ => rfl
  | .p v :: r, h => by simp only [plainF]; exact plainL_F (cs := r) h
  | .undef :: _, h => by simp [plainL] at h
  | .ub :: _, h => by simp [plainL] at h
  | .agg _ :: _, h => by simp [plainL] at h
  | .tup _ :: _, h => by simp [plainL] at h
  | .nils _ :: _, h => by simp [plainL] at h
  | .hsl .. :: _, h => by simp [plainL] at h
  | .ptr .. :: _, h => by simp [plainL] at h
  | .eptr .. :: _, h => by simp [plainL] at h
  | .rptr _ :: _, h => by simp [plainL] at h
  | .fn .. :: _, h => by simp [plainL] at h
/-- Behind a call that was handed one variable. -/
def ptrEnd (H : Hp) (r i : Nat) (x : Nm) (cs : List AV) (c : Option CR) : Option Dl := callEnd H r i [x] [(x, some (.box cs))] c
/-- A call with a variable whose cells are plain. -/
def ptrCall (cf : CF) (H : Hp) (r i : Nat) (f : FuncId) (x : Nm) (off : Nat) (rest : List AV) (o : Option AObj) : Option Dl :=
  match o with
  | some (.box cs) => if plainL cs = true then ptrEnd H r i x cs (cf f (.ptr (.ext 0) off :: rest) [.box cs]) else callD cf false H r i f (.ptr x off :: rest)
  | _ => callD cf false H r i f (.ptr x off :: rest)
theorem callD_ptr (cf : CF) (H : Hp) (r i : Nat) (f : FuncId) (x : Nm) (off : Nat) (rest : List AV) (hr : plainF rest = true) :
    callD cf false H r i f (.ptr x off :: rest) = ptrCall cf H r i f x off rest (hget H x) := by
  unfold ptrCall
  split
  · rename_i cs hx
    split
    · rename_i hc
      obtain ⟨h1, h2, h3, h4⟩ := plainF_facts hr
      have ha : allP (.ptr x off :: rest) = none := rfl
      have hf : frzL H (.ptr x off :: rest) = some (.ptr x off :: rest) := by simp [frzL, frz, frz1, h3]
      have hn : frzNs (.ptr x off :: rest) = [] := by simp [frzNs, hslN, h4]
      have hnl : namesL (.ptr x off :: rest) = [x] := by simp [namesL, AV.names, h1]
      obtain ⟨g1, g2⟩ := plainL_facts hc
      have hre : ∀ H' : Hp, hget H' x = some (.box cs) → reach H' 64 [x] [] = some [x] := by
        intro H' hx'
        simp [reach, hx', AObj.names, g1]
      have hb : boxUps H [x] = some [(x, some (.box cs))] := by
        simp [boxUps, hx, frzL1_plain hc, hslN_plain hc, frzUp]
      have hx2 : hget ([(x, some (.box cs))] ++ H) x = some (.box cs) := by simp [hget]
      simp only [callD, ha, Bool.false_eq_true, if_false, hf, hn, frzUp, List.nil_append, hnl, hre H hx, hb, callNs]
      simp only [List.append_nil, hre _ hx2, renL, AV.ren, toExt, nidx, if_true, Option.map_some, h2, hgets, hx2, renOs, AObj.ren, g2, ptrEnd]
    · rfl
  · rfl
theorem ptrCall_box (cf : CF) (H : Hp) (r i : Nat) (f : FuncId) (x : Nm) (off : Nat) (rest cs : List AV) (hc : plainL cs = true) : ptrCall cf H r i f x off rest (some (.box cs)) = ptrEnd H r i x cs (cf f (.ptr (.ext 0) off :: rest) [.box cs]) := by
  simp only [ptrCall, hc, if_true]
theorem plainL_renO {cs : List AV} (h : plainL cs = true) (f : Nm → Option Nm) : renOs f [.box cs] = some [.box cs] := by
  obtain ⟨_, h2⟩ := plainL_facts h
  simp [renOs, AObj.ren, h2]
theorem ptrEnd_p (H : Hp) (r i : Nat) (x : Nm) (cs cs' : List AV) (v : PV) (h : plainL cs' = true) : ptrEnd H r i x cs (some ⟨.p v, [.box cs'], []⟩) = some { v := .p v, up := [(x, some (.box cs')), (x, some (.box cs))] } := by
  simp [ptrEnd, callEnd, newUp, freeH, AV.ren, plainL_renO h, zipUp, show renOs (fromExt [x] r i) [] = some [] from _root_.id rfl]
theorem ptrEnd_tup (H : Hp) (r i : Nat) (x : Nm) (cs cs' vs : List AV) (h : plainL cs' = true) (hv : plainL vs = true) : ptrEnd H r i x cs (some ⟨.tup vs, [.box cs'], []⟩) = some { v := .tup vs, up := [(x, some (.box cs')), (x, some (.box cs))] } := by
  obtain ⟨_, h2⟩ := plainL_facts hv
  simp [ptrEnd, callEnd, newUp, freeH, AV.ren, plainL_renO h, zipUp, h2, show renOs (fromExt [x] r i) [] = some [] from _root_.id rfl]
theorem plainEnd_tup (H : Hp) (r i : Nat) (vs : List AV) (hv : plainL vs = true) : plainEnd H r i (some ⟨.tup vs, [], []⟩) = some { v := .tup vs } := by
  obtain ⟨_, h2⟩ := plainL_facts hv
  simp [plainEnd, callEnd, newUp, freeH, AV.ren, renOs, zipUp, h2]
theorem frz_box {H : Hp} {x : Nm} {cs : List AV} (hx : hget H x = some (.box cs)) : ∀ ns : List Nm, hget (frzUp H ns ++ H) x = some (.box cs)
  | [] => by simpa [frzUp] using hx
  | y :: r => by
    have ih := frz_box hx r
    simp only [frzUp]
    split
    · rename_i es z fz hy
      have : y ≠ x := by rintro rfl; rw [hx] at hy; cases hy
      simp only [List.cons_append, hget, this, if_false]
      exact ih
    · exact ih
theorem allP_frz {H : Hp} {vs : List AV} (h : plainL vs = true) : frzL H vs = some vs := (plainF_facts (plainL_F h)).2.2.1 H
theorem cast_lit (n : Nat) : ((no_index (OfNat.ofNat n) : Nat) : Int) = OfNat.ofNat n := _root_.id rfl
theorem take_map_len {α β : Type} (f : α → β) (l : List α) : (l.map f).take l.length = l.map f := by
  rw [← List.map_take, List.take_length]
attribute [go_sem] take_map_len List.take_length
/-- The end of a call, its results frozen. -/
def fin0 (F : SFn) (st : St) (vs : List AV) (fz : Option (List AV)) : Option CR :=
  match fz with
  | some vs' => if plainL vs' = true then some ⟨tup1 vs', [], []⟩ else finX F 0 st (some vs)
  | none => finX F 0 st (some vs)
theorem fin0_some (F : SFn) (st : St) (vs vs' : List AV) (h : plainL vs' = true) : fin0 F st vs (some vs') = some ⟨tup1 vs', [], []⟩ := by simp only [fin0, h, if_true]
theorem finX_zero (F : SFn) (st : St) (vs : List AV) (hF : F.rawR = false) : finX F 0 st (some vs) = fin0 F st vs (frzL st.H vs) := by
  unfold fin0
  split
  · rename_i vs' hfz
    split
    · rename_i hp
      cases ha : allP vs with
      | some ps =>
        have hpl : plainL vs = true := by
          clear hfz
          induction vs generalizing ps with
          | nil => rfl
          | cons v r ih =>
            cases v with
            | p v =>
              simp only [allP] at ha
              cases hr : allP r with
              | none => simp [hr] at ha
              | some q => exact ih q hr
            | _ => simp [allP] at ha
        rw [allP_frz hpl] at hfz
        cases hfz
        exact finX_plain F st vs hpl
      | none =>
        obtain ⟨h1, h2⟩ := plainL_facts hp
        have hre : ∀ H : Hp, reach H 64 [] [] = some [] := fun H => rfl
        simp only [finX, if_true, ha]
        unfold finish.finishG
        simp [hF, hfz, h1, h2, extNs, hre, hgets, renOs]
    · rfl
  · rfl
def fin1 (F : SFn) (st : St) (vs : List AV) (fz : Option (List AV)) (o : Option AObj) : Option CR :=
  match fz, o with
  | some vs', some (.box cs) => if plainL vs' = true ∧ plainL cs = true then some ⟨tup1 vs', [.box cs], []⟩ else finX F 1 st (some vs)
  | _, _ => finX F 1 st (some vs)
theorem fin1_some (F : SFn) (st : St) (vs vs' cs : List AV) (h : plainL vs' = true) (h2 : plainL cs = true) : fin1 F st vs (some vs') (some (.box cs)) = some ⟨tup1 vs', [.box cs], []⟩ := by simp only [fin1, h, h2, and_self, if_true]
theorem finX_one (F : SFn) (st : St) (vs : List AV) (hF : F.rawR = false) : finX F 1 st (some vs) = fin1 F st vs (frzL st.H vs) (hget st.H (.ext 0)) := by
  unfold fin1
  split
  · rename_i vs' cs hfz hx
    split
    · rename_i hp
      obtain ⟨hv, hc⟩ := hp
      obtain ⟨g1, g2⟩ := plainL_facts hc
      obtain ⟨h1, h2⟩ := plainL_facts hv
      have hx' := frz_box hx (frzNs vs)
      have hre : reach (frzUp st.H (frzNs vs) ++ st.H) 64 [.ext 0] [] = some [.ext 0] := by simp [reach, hx', AObj.names, g1]
      rw [finX_succ]
      unfold finish.finishG
      simp [hF, hfz, h1, h2, extNs, hre, hgets, hx', renOs, AObj.ren, g2]
    · rfl
  · rfl
/-- Calls that are handed slices of one's own: they are frozen. -/
def ownArgs : List AV → Bool
  | [] => true
  | .p _ :: r => ownArgs r
  | .nils _ :: r => ownArgs r
  | .hsl .. :: r => ownArgs r
  | .agg _ :: r => ownArgs r
  | .fn _ a b :: r => plainL a && plainL b && ownArgs r
  | _ :: _ => false
theorem ownArgs_nil : ownArgs [] = true := _root_.id rfl
theorem ownArgs_p (v : PV) (r : List AV) : ownArgs (.p v :: r) = ownArgs r := _root_.id rfl
theorem ownArgs_nils (z : Nat) (r : List AV) : ownArgs (.nils z :: r) = ownArgs r := _root_.id rfl
theorem ownArgs_hsl (x : Nm) (o l : Nat) (r : List AV) : ownArgs (.hsl x o l :: r) = ownArgs r := _root_.id rfl
theorem ownArgs_agg (cs r : List AV) : ownArgs (.agg cs :: r) = ownArgs r := _root_.id rfl
theorem ownArgs_fn (f : FuncId) (a b r : List AV) : ownArgs (.fn f a b :: r) = (plainL a && plainL b && ownArgs r) := _root_.id rfl
theorem plainL_of_allP : ∀ {args : List AV} {ps : List PV}, allP args = some ps → plainL args = true
  | [], _, _ => rfl
  | v :: q, ps, ha => by
    cases v with
    | p v =>
      simp only [allP] at ha
      cases hq : allP q with
      | none => simp [hq] at ha
      | some x => exact plainL_of_allP (args := q) hq
    | _ => simp [allP] at ha
theorem plainL_hsl0 (x : Nm) (a b : Nat) (r : List AV) : plainL (.hsl x a b :: r) = false := _root_.id rfl
theorem plainL_nils0 (z : Nat) (r : List AV) : plainL (.nils z :: r) = false := _root_.id rfl
theorem plainL_agg0 (cs : List AV) (r : List AV) : plainL (.agg cs :: r) = false := _root_.id rfl
theorem plainL_fn0 (f : FuncId) (a b r : List AV) : plainL (.fn f a b :: r) = false := _root_.id rfl
theorem scalL_nil : scalL [] = true := _root_.id rfl
theorem scalL_int (k : IntKind) (n : Int) (r : List AV) : scalL (.p (.int k n) :: r) = scalL r := _root_.id rfl
theorem scalL_bool (b : Bool) (r : List AV) : scalL (.p (.bool b) :: r) = scalL r := _root_.id rfl
theorem scalL_str (b : ByteArray) (r : List AV) : scalL (.p (.str b) :: r) = scalL r := _root_.id rfl
theorem scalL_agg (cs : List PV) (r : List AV) : scalL (.p (.agg cs) :: r) = false := _root_.id rfl
theorem scalL_sl (z : Nat) (cs : List PV) (r : List AV) : scalL (.p (.sl z cs) :: r) = false := _root_.id rfl
def frzEnd (q : Bool) (H : Hp) (r i : Nat) (u : Hp) (x : Option CR) : Option Dl := if q = true then lendEnd H r i u x else callEnd H r i [] u x
def callFz (cf : CF) (H : Hp) (r i : Nat) (f : FuncId) (args : List AV) (x : Option (List AV)) : Option Dl :=
  match x with
  | some args' => if plainF args' = true then frzEnd (plainL args' && !plainL args) H r i (frzUp H (frzNs args)) (cf f args' []) else callD cf false H r i f args
  | none => callD cf false H r i f args
theorem callFz_some (cf : CF) (H : Hp) (r i : Nat) (f : FuncId) (args args' : List AV) (h : plainF args' = true) : callFz cf H r i f args (some args') = frzEnd (plainL args' && !plainL args) H r i (frzUp H (frzNs args)) (cf f args' []) := by simp only [callFz, h, if_true]
theorem frzEnd_p (q : Bool) (H : Hp) (r i : Nat) (u : Hp) (v : PV) : frzEnd q H r i u (some ⟨.p v, [], []⟩) = some { v := .p v, up := u } := by
  cases q <;> rfl
def frzT (q : Bool) (vs : List AV) (u : Hp) : Option Dl := if q = true then some { v := .tup vs } else some { v := .tup vs, up := u }
theorem frzT_t (vs : List AV) (u : Hp) : frzT true vs u = some { v := .tup vs } := _root_.id rfl
theorem frzT_f (vs : List AV) (u : Hp) : frzT false vs u = some { v := .tup vs, up := u } := _root_.id rfl
theorem frzEnd_tup (q : Bool) (H : Hp) (r i : Nat) (u : Hp) (vs : List AV) (hv : plainL vs = true) : frzEnd q H r i u (some ⟨.tup vs, [], []⟩) = frzT (q && scalL vs) vs u := by
  obtain ⟨_, h2⟩ := plainL_facts hv
  cases q <;> cases hs : scalL vs <;> simp [frzEnd, lendEnd, frzT, hs, callEnd, newUp, freeH, AV.ren, renOs, zipUp, h2]
theorem callD_frz (cf : CF) (H : Hp) (r i : Nat) (f : FuncId) (args : List AV) (h : ownArgs args = true) : callD cf false H r i f args = callFz cf H r i f args (frzL H args) := by
  unfold callFz
  split
  · rename_i args' hf
    split
    · rename_i hp
      obtain ⟨h1, h2, h3, h4⟩ := plainF_facts hp
      have hr : ∀ H : Hp, reach H 64 [] [] = some [] := fun H => rfl
      cases ha : allP args with
      | some ps =>
        have hpl := plainL_of_allP ha
        obtain ⟨_, _, g3, g4⟩ := plainF_facts (plainL_F hpl)
        rw [g3 H] at hf
        cases hf
        simp [callD, ha, frzEnd, hpl, g4, frzUp]
      | none =>
        have hnp : plainL args = false := by
          cases hq : plainL args with
          | false => rfl
          | true => obtain ⟨ps, hps⟩ := plainL_allP hq; rw [ha] at hps; cases hps
        cases hb : allP args' with
        | some ps =>
          have hpl := plainL_of_allP hb
          simp [callD, ha, hf, hb, hnp, hpl, frzEnd]
        | none =>
          have hnp' : plainL args' = false := by
            cases hq : plainL args' with
            | false => rfl
            | true => obtain ⟨ps, hps⟩ := plainL_allP hq; rw [hb] at hps; cases hps
          simp [callD, ha, hf, hb, h1, hr, boxUps, callNs, h2, hgets, renOs, frzEnd, hnp']
    · rfl
  · rfl
attribute [go_sem] plainL_hsl0 plainL_nils0 plainL_agg0 plainL_fn0 scalL_nil scalL_int scalL_bool scalL_str scalL_agg scalL_sl frzT_t frzT_f
attribute [go_sem] ownArgs_nil ownArgs_p ownArgs_nils ownArgs_hsl ownArgs_agg ownArgs_fn callFz_some frzEnd_p frzEnd_tup callD_frz
theorem plainEnd_new (H : Hp) (r i : Nat) (cs : List AV) (hc : plainL cs = true) (h : hget H (.loc r i 0) = none) : plainEnd H r i (some ⟨.ptr (.ext 0) 0, [], [.box cs]⟩) = some { v := .ptr (.loc r i 0) 0, up := [(.loc r i 0, some (.box cs))] } := by
  obtain ⟨_, h2⟩ := plainL_facts hc
  simp [plainEnd, callEnd, newUp, freeH, h, AV.ren, renOs, AObj.ren, h2, zipUp, fromExt]
attribute [go_sem] plainEnd_new
attribute [go_sem] finX_zero finX_one fin0_some fin1_some
attribute [go_sem] trimX_nrm trimX_ret trimX_ex trimE_some trimE_none keepE_nil keepE_cons sexW_trim callD_ptr ptrCall_box ptrEnd_p ptrEnd_tup plainEnd_tup
attribute [go_sem ↓] sexW_loopW
attribute [go_sem] keepT_nil keepT_cons exts_zero exts_one exts_two keepH_nil keepH_cons namesT_nil namesT_cons namesH_nil namesH_some namesH_none allIn_nil allIn_cons cutX_eq cutY_eq cutZ_t sexW_ret sexW_exit sexW_skip sexW_blk blkX_nrm blkX_ret blkX_ex endX_nrm endX_ret
  opsX_nil put_some put_none put_pg ev_t ev_c ev_nils ev_f evL_nil evL_cons tget_eq tget_ne hget_cons hget_nil opD_mv opD_nnew opD_pick opD_alloc opD_box opD_build opD_bslice opD_load opD_store opD_nilck opD_bin opD_bbin opD_isnil opD_eqs opD_un opD_conv opD_mkfn opD_mkslice opD_slice opD_substr opD_faddr opD_fld opD_iaddr opD_sidx opD_aidx opD_ext opD_len_t opD_len_f opD_append opD_mx opD_mn argT argH AV.cells PV.cells loadD storeD partA partP partOf mkAgg allP evParts fillA freeH znews zcells eqCells binP unP
  finish_eq rvGets rvGet tup1 callD_plainF plainF_nil plainF_p plainF_fn callV_fn opD_callt plainL_nil plainL_p plainEnd_p opD_callf reach nidx toExt fromExt AV.ren renL AObj.ren renOs frz frzL frz1 frzL1 frzUp frzNs boxUps hgets zipUp newUp hslN namesL AV.names AObj.names
  AV.okv setL purgeT purgeH AV.purge purgeL AObj.purge elems natOf natOr sliceA eszOf iaddrD ptrQ extNs outNm pelems pelem pcells Nm.isLoc entOk objNs
attribute [go_sem] if_true if_false ite_true ite_false beq_self_eq_true Bool.true_and Bool.and_true Bool.false_and Bool.and_false Bool.or_true Bool.true_or Bool.or_false Bool.false_or Bool.not_true Bool.not_false
  List.length_cons List.length_nil List.nil_append List.cons_append List.append_nil List.take_zero List.take_succ_cons List.drop_zero List.drop_succ_cons List.drop_nil List.take_nil List.map_cons List.map_nil List.getElem?_cons_zero List.getElem?_cons_succ List.getElem?_nil
  Option.map_some Option.map_none Option.isNone_none Option.isNone_some Option.isSome_some Option.isSome_none Nm.loc.injEq Nm.ext.injEq true_and and_true false_and and_false and_self or_true true_or or_false false_or not_true_eq_false not_false_eq_true
  List.mem_cons List.not_mem_nil List.flatMap_cons List.flatMap_nil Bool.false_eq_true eq_self ne_eq Nat.zero_le Nat.le_refl Nat.add_zero Nat.zero_add Int.le_refl decide_true decide_false List.all_cons List.all_nil Bool.true_eq_false
end Go.Ab

namespace Go.Ab
attribute [go_sem_proc] Nat.reduceEqDiff Nat.reduceAdd Nat.reduceLeDiff Nat.reduceLT reduceCtorEq Nat.reduceBEq Int.reduceLT Int.reduceLE Int.reduceNeg Int.reduceEq Int.reduceToNat
attribute [go_sem_proc ↓] reduceIte
attribute [go_sem] Int.toNat_natCast cast_lit
end Go.Ab
