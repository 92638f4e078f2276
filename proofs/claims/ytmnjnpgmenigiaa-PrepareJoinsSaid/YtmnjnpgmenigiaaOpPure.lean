/- A part of the proof: an executor over plain data, shown sound for the model, and what it computes of the functions. -/
import Derived.Test.YtmnjnpgmenigiaaLink
set_option linter.all false
/-! Operations that change nothing. -/
set_option linter.unusedVariables false
set_option linter.unusedSimpArgs false
namespace Go.Ab
open Go

def OpOK (P : Program) (idm : FuncId → FuncId) (m : NMap) (w : World) (W : Nat → Prop) (H : Hp) (o : Oper) (a : Act) (d : Dl) : Prop :=
  ∃ v w' m' W', ((execOp a.eval o).run P w = .ok (.value v) w' ∨ ((execOp a.eval o).run P w = .ok .skip w' ∧ v = undef)) ∧ Good idm m w W H d m' w' W' ∧
    Rep idm m' w' W' d.v v ∧ ∀ y ∈ d.v.names, (hget (d.up ++ pgH d.pg H) y).isSome = true

theorem Good.id {idm : FuncId → FuncId} {m : NMap} {w : World} {W : Nat → Prop} {H : Hp} (hlt : ∀ b, W b → b < w.heap.size) (x : AV) : Good idm m w W H { v := x } m w W where
  k := Keep.refl _ w
  sub := fun _ _ h => h
  sup := fun _ _ h _ => h
  lt := hlt
  mm := fun _ _ _ => rfl
  up := fun x o h => by simp [hget] at h
  ups := fun x h => by simp [upNs] at h
  b1 := fun x o b h => by simp [hget] at h
  b2 := fun x y b h => by simp [upNs] at h
  pgu := fun x h => by simp at h
  ext := fun _ => rfl

theorem OpOK.pure {P : Program} {idm : FuncId → FuncId} {N : Nat} {m : NMap} {w : World} {W : Nat → Prop} {st : St} {a : Act} {o : Oper} (s : Sim idm N m w W st a) {x : AV} {v : Value}
    (hr : (execOp a.eval o).run P w = .ok (.value v) w) (hv : Rep idm m w W x v) (hn : ∀ y ∈ x.names, (hget st.H y).isSome = true) : OpOK P idm m w W st.H o a { v := x } :=
  ⟨v, w, m, W, .inl hr, Good.id s.lt x, hv, fun y hy => by simpa [pgH] using hn y hy⟩

theorem Rep.int_inv {idm : FuncId → FuncId} {m : NMap} {w : World} {W : Nat → Prop} {k : IntKind} {n : Int} {v : Value} (h : Rep idm m w W (.p (.int k n)) v) : v = .int k n := by
  cases h with | p _ _ h => cases h; rfl
theorem Rep.bool_inv {idm : FuncId → FuncId} {m : NMap} {w : World} {W : Nat → Prop} {b : Bool} {v : Value} (h : Rep idm m w W (.p (.bool b)) v) : v = .bool b := by
  cases h with | p _ _ h => cases h; rfl
theorem Rep.str_inv {idm : FuncId → FuncId} {m : NMap} {w : World} {W : Nat → Prop} {b : ByteArray} {v : Value} (h : Rep idm m w W (.p (.str b)) v) : v = .string b := by
  cases h with | p _ _ h => cases h; rfl

section
variable {P : Program} {idm : FuncId → FuncId} {N : Nat} {m : NMap} {w : World} {W : Nat → Prop} {st : St} {a : Act} {o : Oper} (s : Sim idm N m w W st a)
include s

theorem ok_mv {x : Operand} {y : Opd} (ho : o.op = .move x ∨ o.op = .assign x) (h : opdL idm x y = true) : OpOK P idm m w W st.H o a { v := ev st.T y } := by
  obtain ⟨h1, h2⟩ := opdL_rep h s
  refine OpOK.pure s ?_ h1 h2
  rcases ho with ho | ho <;> simp [execOp, ho]

theorem ok_pick {c x y : Operand} {c' x' y' : Opd} (ho : o.op = .pick c x y) (hc : opdL idm c c' = true) (hx : opdL idm x x' = true) (hy : opdL idm y y' = true) {b : Bool} (hb : ev st.T c' = .p (.bool b)) :
    OpOK P idm m w W st.H o a { v := if b then ev st.T x' else ev st.T y' } := by
  obtain ⟨h1, _⟩ := opdL_rep hc s
  rw [hb] at h1
  have he : a.eval c = .bool b := h1.bool_inv
  cases b with
  | true => obtain ⟨g1, g2⟩ := opdL_rep hx s; exact OpOK.pure s (by simp [execOp, ho, he, asBool]) g1 g2
  | false => obtain ⟨g1, g2⟩ := opdL_rep hy s; exact OpOK.pure s (by simp [execOp, ho, he, asBool]) g1 g2

theorem ok_nilck {x : Operand} {y : Opd} (ho : o.op = .nilCheck x) (h : opdL idm x y = true) (hp : ptrQ (ev st.T y) = true) : OpOK P idm m w W st.H o a { v := ev st.T y } := by
  obtain ⟨h1, h2⟩ := opdL_rep h s
  refine OpOK.pure s ?_ h1 h2
  generalize ev st.T y = v at *
  generalize hu : a.eval x = u at *
  cases h1 <;> first | (simp [ptrQ] at hp; done) | simp [execOp, ho, hu]

theorem ok_un {op : UnOp} {t : TypeId} {x : Operand} {y : Opd} (ho : o.op = .unOp op t x) (h : opdL idm x y = true) {c c' : PV} (hv : ev st.T y = .p c) (hu : unP op c = some c') : OpOK P idm m w W st.H o a { v := .p c' } := by
  obtain ⟨h1, _⟩ := opdL_rep h s
  rw [hv] at h1
  cases h1 with
  | p _ v h1 =>
    generalize he : a.eval x = u at *
    cases h1 <;> simp only [unP] at hu <;> first | contradiction | (cases op <;> simp only [Option.some.injEq] at hu <;> first | contradiction | (subst hu; refine OpOK.pure s (v := _) ?_ (.p _ _ (by constructor)) (by simp [AV.names]); simp [execOp, ho, he, Op.unary, Op.intArith]))

theorem ok_conv {sT dT : TypeId} {k k0 : IntKind} {x : Operand} {y : Opd} (ho : o.op = .convert sT dT x) (hs : P.underlying sT = some (.int k0)) (hd : P.underlying dT = some (.int k)) (h : opdL idm x y = true) {k1 : IntKind} {n : Int}
    (hv : ev st.T y = .p (.int k1 n)) : OpOK P idm m w W st.H o a { v := .p (.int k (k.wrap n)) } := by
  obtain ⟨h1, _⟩ := opdL_rep h s
  rw [hv] at h1
  have he : a.eval x = .int k1 n := h1.int_inv
  exact OpOK.pure s (by simp [execOp, ho, he, convert, run_underlying hs, run_underlying hd, Conv.intToInt]) (.p _ _ (.int ..)) (by simp [AV.names])

theorem ok_mkfn {f g : FuncId} {fa fb : Array Operand} {xa xb : List Opd} (ho : o.op = .makeFunc (.func f) fa fb) (hf : idm g = f) (ha : opdsL idm fa.toList xa = true) (hb : opdsL idm fb.toList xb = true) :
    OpOK P idm m w W st.H o a { v := .fn g (evL st.T xa) (evL st.T xb) } := by
  obtain ⟨a1, a2, a3⟩ := opdsL_rep s ha
  obtain ⟨b1, b2, b3⟩ := opdsL_rep s hb
  refine OpOK.pure s (v := .func (.func f) (fa.map a.eval) (fb.map a.eval)) (by simp [execOp, ho, Instr.makeFunc]) ?_ ?_
  · subst hf
    exact .fn g _ _ _ _ (by simpa using a1) (by simpa using b1) (fun i c v hc hv => a2 i c v hc (by simpa using hv)) (fun i c v hc hv => b2 i c v hc (by simpa using hv))
  · intro n hn
    simp only [AV.names, List.mem_append] at hn
    rcases hn with hn | hn
    · exact a3 n hn
    · exact b3 n hn

theorem ok_mx {x y : Operand} {x' y' : Opd} {tys : Array TypeId} {args : Array Operand} (hargs : args.toList = [x, y]) (ho : o.op = .call { callee := .builtin .max, args := args, argTypes := tys }) (hx : opdL idm x x' = true) (hy : opdL idm y y' = true) {k k' : IntKind} {p q : Int}
    (h1 : ev st.T x' = .p (.int k p)) (h2 : ev st.T y' = .p (.int k' q)) : OpOK P idm m w W st.H o a { v := .p (.int k (if p < q then q else p)) } := by
  obtain ⟨g1, _⟩ := opdL_rep hx s
  obtain ⟨g2, _⟩ := opdL_rep hy s
  rw [h1] at g1; rw [h2] at g2
  have e1 : a.eval x = .int k p := g1.int_inv
  have e2 : a.eval y = .int k' q := g2.int_inv
  obtain rfl : args = #[x, y] := by rw [← hargs]
  exact OpOK.pure s (by simp [execOp, ho, resolve, invoke, builtin, Builtin.max_, e1, e2, Builtin.max2, List.foldlM]) (.p _ _ (.int ..)) (by simp [AV.names])

theorem ok_mn {x y : Operand} {x' y' : Opd} {tys : Array TypeId} {args : Array Operand} (hargs : args.toList = [x, y]) (ho : o.op = .call { callee := .builtin .min, args := args, argTypes := tys }) (hx : opdL idm x x' = true) (hy : opdL idm y y' = true) {k k' : IntKind} {p q : Int}
    (h1 : ev st.T x' = .p (.int k p)) (h2 : ev st.T y' = .p (.int k' q)) : OpOK P idm m w W st.H o a { v := .p (.int k (if q < p then q else p)) } := by
  obtain ⟨g1, _⟩ := opdL_rep hx s
  obtain ⟨g2, _⟩ := opdL_rep hy s
  rw [h1] at g1; rw [h2] at g2
  have e1 : a.eval x = .int k p := g1.int_inv
  have e2 : a.eval y = .int k' q := g2.int_inv
  obtain rfl : args = #[x, y] := by rw [← hargs]
  exact OpOK.pure s (by simp [execOp, ho, resolve, invoke, builtin, Builtin.min_, e1, e2, Builtin.min2, List.foldlM]) (.p _ _ (.int ..)) (by simp [AV.names])

theorem ok_len {x : Operand} {y : Opd} {args : Array Operand} {tys : Array TypeId} {t : TypeId} (hargs : args.toList = [x]) (htys : tys.toList = [t]) (ho : o.op = .call { callee := .builtin .len, args := args, argTypes := tys })
    (ht : P.underlying t = some .string ∨ ∃ e, P.underlying t = some (.slice e)) (h : opdL idm x y = true) {n : Int}
    (hn : (match ev st.T y with | .p (.sl _ es) => some (es.length : Int) | .p (.str s) => some (s.size : Int) | .nils _ => some 0 | .hsl _ _ n => some (n : Int) | _ => none) = some n)
    (hk : (match ev st.T y with | .p (.str _) => P.underlying t = some .string | _ => ∃ e, P.underlying t = some (.slice e))) :
    OpOK P idm m w W st.H o a { v := .p (.int .i64 n) } := by
  obtain ⟨h1, _⟩ := opdL_rep h s
  obtain rfl : args = #[x] := by rw [← hargs]
  obtain rfl : tys = #[t] := by rw [← htys]
  generalize ev st.T y = v at *
  generalize hu : a.eval x = u at *
  refine OpOK.pure s (v := .int .i64 n) ?_ (.p _ _ (.int ..)) (by simp [AV.names])
  cases h1 with
  | p c v h1 => cases h1 with
    | str b => simp at hn; subst hn; simp [execOp, ho, resolve, invoke, builtin, Builtin.len_, hu, run_underlying hk, goInt]
    | sl z es aa nn cap ad f hnn hcap hz ha hc h =>
      simp at hn; subst hn; obtain ⟨e, he⟩ := hk
      simp [execOp, ho, resolve, invoke, builtin, Builtin.len_, hu, run_underlying he, goInt, hnn]
    | _ => simp at hn
  | nils z aa => simp at hn; subst hn; obtain ⟨e, he⟩ := hk; simp [execOp, ho, resolve, invoke, builtin, Builtin.len_, hu, run_underlying he, goInt]
  | hsl xx off len aa c hh hcc => simp at hn; subst hn; obtain ⟨e, he⟩ := hk; simp [execOp, ho, resolve, invoke, builtin, Builtin.len_, hu, run_underlying he, goInt]
  | _ => simp at hn
end
end Go.Ab
