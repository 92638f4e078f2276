/- A part of the proof: an executor over plain data, shown sound for the model, and what it computes of the functions. -/
import Derived.Test.YtmnjnpgmenigiaaStep
import Derived.Laws.StructEq
set_option linter.all false
/-! The executor's code beside the model's: what must agree. -/
set_option linter.unusedVariables false
set_option linter.unusedSimpArgs false
namespace Go.Ab
open Go

def aggD : TypeDesc → Bool
  | .struct _ => true
  | .array .. => true
  | _ => false

section
variable (P : Program) (idm : FuncId → FuncId)

def flatL : Value → PV → Bool
  | .int k n, .int k' n' => k == k' && n == n'
  | .bool b, .bool b' => b == b'
  | .string s, .str s' => decide (s = s')
  | .pointer none, .nilp => true
  | .nilFunc, .nilf => true
  | .slice none 0 0, .sl _ [] => true
  | _, _ => false
def flatsL : List Value → List PV → Bool
  | [], [] => true
  | v :: vs, c :: cs => flatL v c && flatsL vs cs
  | _, _ => false
def valL : Value → PV → Bool
  | .agg vs, .agg cs => flatsL vs.toList cs
  | v, c => flatL v c

def opdL : Operand → Opd → Bool
  | .tmp i, .t j => i == j
  | .const (.slice none 0 0), .nils _ => true
  | .const v, .c p => valL v p
  | .func f, .f g => idm g == f
  | _, _ => false
def opdsL : List Operand → List Opd → Bool
  | [], [] => true
  | x :: r, y :: s => opdL idm x y && opdsL r s
  | _, _ => false
def oopdL : Option Operand → Option Opd → Bool
  | none, none => true
  | some x, some y => opdL idm x y
  | _, _ => false

def aggT (t : TypeId) : Option Bool := (P.underlying t).map aggD
def sizeT (t : TypeId) : Option Nat := (P.info? t).map (·.size)
def zeroT (t : TypeId) : Option Value := (P.info? t).bind (·.zero)

def zcL : Value → ZC → Bool
  | .slice none 0 0, .nils _ => true
  | .slice none 0 0, .new _ => true
  | v, .c p => flatL v p
  | _, _ => false
def zcsL : List Value → List ZC → Bool
  | [], [] => true
  | v :: vs, c :: cs => zcL v c && zcsL vs cs
  | _, _ => false

/-- The parts of a struct: their places. -/
def fpartsL (fs : Array Field) : List (Nat × Operand) → List (Nat × Nat × Opd) → Bool
  | [], [] => true
  | (i, x) :: r, (o, s, y) :: q => (match fs[i]? with
      | some f => f.offset == o && sizeT P f.type == some s
      | none => false) && opdL idm x y && fpartsL fs r q
  | _, _ => false
def apartsL (e : TypeId) : List (Nat × Operand) → List (Nat × Nat × Opd) → Bool
  | [], [] => true
  | (i, x) :: r, (o, s, y) :: q => sizeT P e == some s && o == i * s && opdL idm x y && apartsL e r q
  | _, _ => false
def spartsL : Nat → List (Nat × Operand) → List Opd → Bool
  | _, [], [] => true
  | k, (i, x) :: r, y :: q => i == k && opdL idm x y && spartsL (k + 1) r q
  | _, _, _ => false

def szOK (t : TypeId) (n : Nat) : Bool :=
  match aggT P t with
  | some true => sizeT P t == some n
  | some false => n == 1
  | none => false

/-- Types whose values are equal where their cells are: the kinds of the cells. -/
def eqFK (g : TypeId → Option (List CK)) : Nat → List Field → Option (List CK)
  | _, [] => some []
  | o, f :: r =>
    if f.name == "_" || f.offset != o then none else
    match g f.type with
    | none => none
    | some ks =>
      if !ks.isEmpty && szOK P f.type ks.length then
        match eqFK g (o + ks.length) r with
        | some qs => some (ks ++ qs)
        | none => none
      else none
def eqK : Nat → TypeId → Option (List CK)
  | 0, _ => none
  | d + 1, t => match P.underlying t with
    | some (.int k) => some [.i k]
    | some .bool => some [.b]
    | some .string => some [.s]
    | some (.struct fs) => if P.stoodInHeld t then none else eqFK P (eqK d) 0 fs.toList
    | _ => none

def opL (o : Op) (s : SOp) : Bool :=
  match o, s with
  | .move x, .mv y => opdL idm x y
  | .assign x, .mv y => opdL idm x y
  | .assign (.const (.slice none 0 0)), .nnew _ => true
  | .pick c a b, .pick c' a' b' => opdL idm c c' && opdL idm a a' && opdL idm b b'
  | .alloc t, .alloc zs => match zeroT P t with
    | some z => zcsL z.cells.toList zs
    | none => false
  | .box _ x, .box y => opdL idm x y
  | .build t ps, .build zs qs => (match zeroT P t with
      | some z => zcsL z.cells.toList zs
      | none => false) && (match P.underlying t with
      | some (.struct fs) => fs.all (fun f => (sizeT P f.type).isSome) && fpartsL P idm fs ps.toList qs
      | some (.array _ e) => (sizeT P e).isSome && apartsL P idm e ps.toList qs
      | _ => false)
  | .buildSlice t n ps, .bslice _ z qs => (match P.underlying t with
      | some (.slice e) => (match zeroT P e with
        | some v => v.cells.size == z
        | none => false) && sizeT P e == some z && 0 < z && n * z ≤ 16777216
      | _ => false) && n == qs.length && spartsL idm 0 ps.toList qs
  | .load t x, .load agg size y => aggT P t == some agg && sizeT P t == some size && (agg || size == 1) && opdL idm x y
  | .store t x v, .store size y u => sizeT P t == some size && opdL idm x y && opdL idm v u
  | .nilCheck x, .nilck y => opdL idm x y
  | .binOp op t x y _, .bin op' x' y' => op == op' && (match P.underlying t with
      | some (.int _) => true
      | some .string => true
      | some .bool => true
      | _ => false) && opdL idm x x' && opdL idm y y'
  | .binOp op t x y _, .bbin neq x' y' => (match op with
      | .eql => !neq
      | .neq => neq
      | _ => false) && (match P.underlying t with
      | some .bool => true
      | _ => false) && opdL idm x x' && opdL idm y y'
  | .binOp op t x y _, .isnil x' => op == .eql && (match P.underlying t with
      | some (.slice _) => true
      | _ => false) && (match y with
      | .const (.slice none 0 0) => true
      | _ => false) && opdL idm x x'
  | .binOp op t x y _, .eqs neq ks x' y' => (match op with
      | .eql => !neq
      | .neq => neq
      | _ => false) && eqK P 20 t == some ks && !P.eqGuardType P.depth t && (match P.underlying t with
      | some (.struct _) => true
      | _ => false) && opdL idm x x' && opdL idm y y'
  | .unOp op _ x, .un op' y => op == op' && opdL idm x y
  | .convert s d x, .conv k y => (match P.underlying s, P.underlying d with
      | some (.int _), some (.int k') => k == k'
      | _, _ => false) && opdL idm x y
  | .makeFunc (.func f) a b, .mkfn g a' b' => idm g == f && opdsL idm a.toList a' && opdsL idm b.toList b'
  | .makeSlice t l c, .mkslice z n => (match P.underlying t with
      | some (.slice e) => (match P.info? e with
        | some i => i.bytes ≤ 65536 && (match i.zero with
          | some v => valL v z && i.size == z.cells.length
          | none => false)
        | none => false)
      | _ => false) && opdL idm l n && opdL idm c n
  | .slice t x lo hi mx, .slice z y lo' hi' mx' => (match P.underlying t with
      | some (.slice e) => sizeT P e == some z
      | _ => false) && opdL idm x y && oopdL idm lo lo' && oopdL idm hi hi' && oopdL idm mx mx' && (mx'.isNone || hi'.isSome)
  | .slice t x lo hi none, .substr y lo' hi' => (match P.underlying t with
      | some .string => true
      | _ => false) && opdL idm x y && oopdL idm lo lo' && oopdL idm hi hi'
  | .fieldAddr t x f, .faddr off y => (match P.underlying t with
      | some (.struct fs) => (match fs[f]? with
        | some g => g.offset == off && (match sizeT P g.type with
          | some n => n != 0
          | none => false)
        | none => false)
      | _ => false) && opdL idm x y
  | .field t x f, .fld agg size off y => (match P.underlying t with
      | some (.struct fs) => (match fs[f]? with
        | some g => g.offset == off && sizeT P g.type == some size && aggT P g.type == some agg
        | none => false)
      | _ => false) && opdL idm x y
  | .indexAddr t x i, .iaddr z y j => (match P.underlying t with
      | some (.slice e) => sizeT P e == some z
      | _ => false) && opdL idm x y && opdL idm i j
  | .index t x i, .sidx y j => (match P.underlying t with
      | some .string => true
      | _ => false) && opdL idm x y && opdL idm i j
  | .index t x i, .aidx agg n z y j => (match P.underlying t with
      | some (.array n' e) => n' == n && sizeT P e == some z && aggT P e == some agg
      | _ => false) && opdL idm x y && opdL idm i j
  | .extract x i, .ext y j => i == j && opdL idm x y
  | .call { callee := .value f, args, .. }, .call g as => opdL idm f g && opdsL idm args.toList as
  | .call { callee := .builtin .len, args, argTypes }, .len str y => (match args.toList, argTypes.toList with
      | [x], [t] => opdL idm x y && (match P.underlying t with
        | some .string => str
        | some (.slice _) => !str
        | _ => false)
      | _, _ => false)
  | .call { callee := .builtin .append, args, argTypes }, .append z x' y' => (match args.toList, argTypes.toList with
      | [x, y], [t, u] => opdL idm x x' && opdL idm y y' && (match P.underlying t, P.underlying u with
        | some (.slice e), some (.slice _) => (match P.info? e with
          | some i => i.size == z && 0 < z && i.bytes ≤ 65536 && (match i.zero with
            | some v => v.cells.size == z && v.cells.all (·.oneCell')
            | none => false)
          | none => false)
        | _, _ => false)
      | _, _ => false)
  | .call { callee := .builtin .max, args, .. }, .mx x' y' => (match args.toList with
      | [x, y] => opdL idm x x' && opdL idm y y'
      | _ => false)
  | .call { callee := .builtin .min, args, .. }, .mn x' y' => (match args.toList with
      | [x, y] => opdL idm x x' && opdL idm y y'
      | _ => false)
  | _, _ => false

end

theorem run_isAgg {P : Program} {t : TypeId} {b : Bool} (h : aggT P t = some b) (w : World) : (isAgg t).run P w = .ok b w := by
  obtain ⟨d, hd, rfl⟩ := Option.map_eq_some_iff.1 h
  simp only [isAgg, Sem.run_bind, run_underlying hd, Result.andThen_ok]
  cases d <;> rfl
theorem run_sizeT {P : Program} {t : TypeId} {n : Nat} (h : sizeT P t = some n) (w : World) : (sizeOf t).run P w = .ok n w := by
  obtain ⟨i, hi, rfl⟩ := Option.map_eq_some_iff.1 h
  simp [sizeOf, typeInfo, hi]

/-! ### Operands -/
theorem flatL_rep {v : Value} {c : PV} (h : flatL v c = true) (w : World) (W : Nat → Prop) : PRep w W c v ∧ c.flat = true := by
  unfold flatL at h
  split at h
  · simp only [Bool.and_eq_true, beq_iff_eq] at h; obtain ⟨rfl, rfl⟩ := h; exact ⟨.int .., rfl⟩
  · have e := eq_of_beq h; subst e; exact ⟨.bool _, rfl⟩
  · have e := of_decide_eq_true h; subst e; exact ⟨.str _, rfl⟩
  · exact ⟨.nilp, rfl⟩
  · exact ⟨.nilf, rfl⟩
  · exact ⟨.sl _ [] none 0 0 ⟨0, 0, none⟩ (fun _ _ => .nilFunc) rfl (Nat.le_refl _) (fun _ h => by cases h) (fun h => absurd rfl h) (fun i j e c h => by simp at h) (fun i j e c h => by simp at h), rfl⟩
  · cases h

theorem flatsL_rep : ∀ {vs : List Value} {cs : List PV}, flatsL vs cs = true → vs.length = cs.length ∧ (∀ c ∈ cs, c.flat = true) ∧
    ∀ (w : World) (W : Nat → Prop) (i : Nat) (c : PV) (v : Value), cs[i]? = some c → vs[i]? = some v → PRep w W c v
  | [], [], _ => ⟨rfl, by simp, fun w W i c v h => by simp at h⟩
  | v :: vs, c :: cs, h => by
    simp only [flatsL, Bool.and_eq_true] at h
    obtain ⟨g1, g2, g3⟩ := flatsL_rep h.2
    refine ⟨by simp [g1], ?_, fun w W i x u hx hu => ?_⟩
    · intro x hx
      rcases List.mem_cons.1 hx with rfl | hx
      · exact (flatL_rep h.1 ⟨#[], fun _ _ => 0, 0, default, #[]⟩ (fun _ => False)).2
      · exact g2 x hx
    · cases i with
      | zero => simp at hx hu; subst hx; subst hu; exact (flatL_rep h.1 w W).1
      | succ i => simp at hx hu; exact g3 w W i x u hx hu
  | [], _ :: _, h => by simp [flatsL] at h
  | _ :: _, [], h => by simp [flatsL] at h

theorem valL_rep {v : Value} {c : PV} (h : valL v c = true) (w : World) (W : Nat → Prop) : PRep w W c v := by
  unfold valL at h
  split at h
  · obtain ⟨g1, g2, g3⟩ := flatsL_rep h
    exact .agg _ _ (by simpa using g1) g2 fun i c v hc hv => g3 w W i c v hc (by simpa using hv)
  · exact (flatL_rep h w W).1

theorem opdL_rep {idm : FuncId → FuncId} {x : Operand} {y : Opd} (h : opdL idm x y = true) {N : Nat} {m : NMap} {w : World} {W : Nat → Prop} {st : St} {a : Act}
    (s : Sim idm N m w W st a) : Rep idm m w W (ev st.T y) (a.eval x) ∧ ∀ n ∈ (ev st.T y).names, (hget st.H n).isSome = true := by
  unfold opdL at h
  split at h
  · simp only [beq_iff_eq] at h; subst h; exact ⟨s.t _, s.ct _⟩
  · exact ⟨.nils _ _, by simp [ev, AV.names]⟩
  · exact ⟨.p _ _ (valL_rep h w W), by simp [ev, AV.names]⟩
  · simp only [beq_iff_eq] at h; subst h
    exact ⟨.fn _ [] [] #[] #[] rfl rfl (fun i c v h => by simp at h) (fun i c v h => by simp at h), by simp [ev, AV.names, namesL]⟩
  · cases h

theorem opdsL_rep {idm : FuncId → FuncId} {N : Nat} {m : NMap} {w : World} {W : Nat → Prop} {st : St} {a : Act} (s : Sim idm N m w W st a) :
    ∀ {xs : List Operand} {ys : List Opd}, opdsL idm xs ys = true → xs.length = (evL st.T ys).length ∧
      (∀ (i : Nat) (c : AV) (v : Value), (evL st.T ys)[i]? = some c → (xs.map a.eval)[i]? = some v → Rep idm m w W c v) ∧ ∀ n ∈ namesL (evL st.T ys), (hget st.H n).isSome = true
  | [], [], _ => ⟨rfl, fun i c v h => by simp [evL] at h, by simp [evL, namesL]⟩
  | x :: xs, y :: ys, h => by
    simp only [opdsL, Bool.and_eq_true] at h
    obtain ⟨g1, g2, g3⟩ := opdsL_rep s h.2
    obtain ⟨h1, h2⟩ := opdL_rep h.1 s
    refine ⟨by simp [evL, g1], fun i c v hc hv => ?_, fun n hn => ?_⟩
    · cases i with
      | zero => simp [evL] at hc hv; subst hc; subst hv; exact h1
      | succ i => simp only [evL, List.map_cons, List.getElem?_cons_succ] at hc hv; exact g2 i c v hc hv
    · simp only [evL, namesL, List.mem_append] at hn
      rcases hn with hn | hn
      · exact h2 n hn
      · exact g3 n hn
  | [], _ :: _, h => by simp [opdsL] at h
  | _ :: _, [], h => by simp [opdsL] at h

end Go.Ab
