/- A part of the proof: an executor over plain data, shown sound for the model, and what it computes of the functions. -/
import Derived.Test.YtmnjnpgmenigiaaExec
import Derived.Laws.AppendOwn
import Derived.Laws.CopyRow
import Derived.Laws.Cells
import Derived.Laws.Tables
import Derived.Laws.Rows
set_option linter.all false
/-! How plain data and names lie in the model's memory. -/
set_option linter.unusedVariables false
set_option linter.unusedSimpArgs false
namespace Go.Ab
open Go

/-- Where a variable lies: its block (none: a nil slice), its capacity, the size of its elements. -/
structure Loc where
  base : Option Nat
  cap : Nat
  esz : Nat
abbrev NMap := Nm → Loc

def PV.flat : PV → Bool
  | .agg _ => false
  | _ => true
def AV.flat : AV → Bool
  | .agg _ => false
  | .tup _ => false
  | .p (.agg _) => false
  | _ => true

theorem add_at (b o n : Nat) : (⟨b, o, none⟩ : Addr).add n = ⟨b, o + n, none⟩ := by unfold Addr.add; split <;> simp_all
theorem add_block (a : Addr) (n : Nat) : (a.add n).block = a.block := by unfold Addr.add; split <;> rfl

inductive PRep (w : World) (W : Nat → Prop) : PV → Value → Prop
  | int (k : IntKind) (n : Int) : PRep w W (.int k n) (.int k n)
  | bool (b : Bool) : PRep w W (.bool b) (.bool b)
  | str (s : ByteArray) : PRep w W (.str s) (.string s)
  | nilp : PRep w W .nilp (.pointer none)
  | nilf : PRep w W .nilf .nilFunc
  | agg (cs : List PV) (vs : Array Value) (hl : vs.size = cs.length) (hf : ∀ c ∈ cs, c.flat = true)
      (h : ∀ (i : Nat) (c : PV) (v : Value), cs[i]? = some c → vs[i]? = some v → PRep w W c v) : PRep w W (.agg cs) (.agg vs)
  | sl (z : Nat) (es : List PV) (a : Option Addr) (n cap : Nat) (ad : Addr) (f : Nat → Nat → Value) (hn : es.length = n) (hcap : n ≤ cap)
      (hz : ∀ e ∈ es, e.cells.length = z ∧ ∀ c ∈ e.cells, c.flat = true) (ha : es ≠ [] → a = some ad ∧ ¬ W ad.block ∧ ad.block < w.heap.size)
      (hc : ∀ (i j : Nat) (e c : PV), es[i]? = some e → e.cells[j]? = some c → w.cell? (ad.add (i * z + j)) = some (f i j))
      (h : ∀ (i j : Nat) (e c : PV), es[i]? = some e → e.cells[j]? = some c → PRep w W c (f i j)) : PRep w W (.sl z es) (.slice a n cap)

theorem PRep.flat_one {w : World} {W : Nat → Prop} {c : PV} {v : Value} (h : PRep w W c v) (hf : c.flat = true) : v.oneCell' = true ∧ v.cells = #[v] := by
  cases h <;> first | exact ⟨rfl, rfl⟩ | simp [PV.flat] at hf

theorem PV.flat_cells {c : PV} (h : c.flat = true) : c.cells = [c] := by cases c <;> first | rfl | simp [PV.flat] at h

/-- The cells of a value. -/
theorem PRep.cells {w : World} {W : Nat → Prop} {c : PV} {v : Value} (h : PRep w W c v) :
    v.cells.size = c.cells.length ∧ (∀ x ∈ c.cells, x.flat = true) ∧ ∀ (i : Nat) (x : PV) (u : Value), c.cells[i]? = some x → v.cells[i]? = some u → PRep w W x u := by
  cases h with
  | agg cs vs hl hf h => exact ⟨hl, hf, h⟩
  | _ =>
    refine ⟨rfl, by simp [PV.cells, PV.flat], fun i x u hx hu => ?_⟩
    cases i with
    | zero =>
      simp only [PV.cells, List.getElem?_cons_zero, Option.some.injEq, Value.cells] at hx hu
      subst hx
      have : (#[_] : Array Value)[0]? = some u := hu
      simp at this
      subst this
      constructor <;> assumption
    | succ i => simp [PV.cells] at hx

/-- What may have changed: not what lies outside of O. -/
structure Keep (O : Nat → Prop) (w w' : World) : Prop where
  os : w'.os = w.os
  tape : w'.tape = w.tape
  output : w'.output = w.output
  size : w.heap.size ≤ w'.heap.size
  block : ∀ i, i < w.heap.size → ¬ O i → w'.heap[i]? = w.heap[i]?

theorem Keep.cell {O : Nat → Prop} {w w' : World} (h : Keep O w w') {a : Addr} {v : Value} (hc : w.cell? a = some v) (hb : ¬ O a.block) : w'.cell? a = some v := by
  have hl := World.block_lt_of_cell? w a hc
  have := h.block a.block hl hb
  unfold World.cell? at hc ⊢
  rw [this]
  exact hc

theorem Keep.refl (O : Nat → Prop) (w : World) : Keep O w w := ⟨rfl, rfl, rfl, Nat.le_refl _, fun _ _ _ => rfl⟩
theorem Keep.trans {O : Nat → Prop} {w w1 w2 : World} (h : Keep O w w1) {O1 : Nat → Prop} (h1 : Keep O1 w1 w2) (ho : ∀ i, i < w.heap.size → O1 i → O i) : Keep O w w2 :=
  ⟨h1.os.trans h.os, h1.tape.trans h.tape, h1.output.trans h.output, Nat.le_trans h.size h1.size, fun i hi hn => by
    rw [h1.block i (Nat.lt_of_lt_of_le hi h.size) (fun hx => hn (ho i hi hx)), h.block i hi hn]⟩

/-- Plain data lives on. -/
theorem PRep.keep {O : Nat → Prop} {w w' : World} {W W' : Nat → Prop} {c : PV} {v : Value} (h : PRep w W c v) (k : Keep O w w') (hO : ∀ i, O i → W i)
    (hW : ∀ i, i < w.heap.size → W' i → W i) : PRep w' W' c v := by
  induction h with
  | int => exact .int ..
  | bool => exact .bool ..
  | str => exact .str ..
  | nilp => exact .nilp
  | nilf => exact .nilf
  | agg cs vs hl hf h ih => exact .agg cs vs hl hf ih
  | sl z es a n cap ad f hn hcap hz ha hc h ih =>
    by_cases he : es = []
    · subst he
      exact .sl z [] a n cap ad f hn hcap hz (fun h => absurd rfl h) (fun i j e c h => by simp at h) (fun i j e c h => by simp at h)
    · obtain ⟨ha1, ha2⟩ := ha he
      obtain ⟨ha2, ha3⟩ := ha2
      exact .sl z es a n cap ad f hn hcap hz (fun _ => ⟨ha1, fun hx => ha2 (hW _ ha3 hx), Nat.lt_of_lt_of_le ha3 k.size⟩)
        (fun i j e c h1 h2 => k.cell (hc i j e c h1 h2) (by rw [add_block]; exact fun hx => ha2 (hO _ hx))) ih

/-! ### Values with names -/
/-- A slice of one's own, as its header reads. -/
def HslOK (l : Loc) (off len : Nat) (a : Option Addr) (c : Nat) : Prop :=
  match l.base with
  | none => off = 0 ∧ len = 0 ∧ c = 0
  | some b => (off = 0 → a = some ⟨b, 0, none⟩ ∧ c = l.cap) ∧ (0 < len → a = some ⟨b, off * l.esz, none⟩)

inductive Rep (idm : FuncId → FuncId) (m : NMap) (w : World) (W : Nat → Prop) : AV → Value → Prop
  | undef (v : Value) : Rep idm m w W .undef v
  | ub (b : Bool) : Rep idm m w W .ub (.bool b)
  | p (c : PV) (v : Value) (h : PRep w W c v) : Rep idm m w W (.p c) v
  | agg (cs : List AV) (vs : Array Value) (hl : vs.size = cs.length) (hf : ∀ c ∈ cs, c.flat = true) (h1 : ∀ v ∈ vs, v.oneCell' = true)
      (h : ∀ (i : Nat) (c : AV) (v : Value), cs[i]? = some c → vs[i]? = some v → Rep idm m w W c v) : Rep idm m w W (.agg cs) (.agg vs)
  | tup (cs : List AV) (vs : Array Value) (hl : vs.size = cs.length)
      (h : ∀ (i : Nat) (c : AV) (v : Value), cs[i]? = some c → vs[i]? = some v → Rep idm m w W c v) : Rep idm m w W (.tup cs) (.tuple vs)
  | nils (z : Nat) (a : Option Addr) : Rep idm m w W (.nils z) (.slice a 0 0)
  | hsl (x : Nm) (off len : Nat) (a : Option Addr) (c : Nat) (h : HslOK (m x) off len a c) (hc : len ≤ c) : Rep idm m w W (.hsl x off len) (.slice a len c)
  | ptr (x : Nm) (off b : Nat) (hb : (m x).base = some b) : Rep idm m w W (.ptr x off) (.pointer (some ⟨b, off, none⟩))
  | eptr (x : Nm) (i off b : Nat) (hb : (m x).base = some b) : Rep idm m w W (.eptr x i off) (.pointer (some ⟨b, i * (m x).esz + off, none⟩))
  | rptr (cs : List PV) (ad : Addr) (f : Nat → Value) (hW : ¬ W ad.block) (hlt : ad.block < w.heap.size) (hf : ∀ c ∈ cs, c.flat = true)
      (hc : ∀ (j : Nat) (c : PV), cs[j]? = some c → w.cell? (ad.add j) = some (f j)) (h : ∀ (j : Nat) (c : PV), cs[j]? = some c → PRep w W c (f j)) :
      Rep idm m w W (.rptr cs) (.pointer (some ad))
  | fn (f : FuncId) (a b : List AV) (va vb : Array Value) (ha : va.size = a.length) (hb : vb.size = b.length)
      (h : ∀ (i : Nat) (c : AV) (v : Value), a[i]? = some c → va[i]? = some v → Rep idm m w W c v)
      (h' : ∀ (i : Nat) (c : AV) (v : Value), b[i]? = some c → vb[i]? = some v → Rep idm m w W c v) : Rep idm m w W (.fn f a b) (.func (.func (idm f)) va vb)

theorem mem_namesL {x : Nm} {cs : List AV} : x ∈ namesL cs ↔ ∃ v ∈ cs, x ∈ v.names := by
  induction cs with
  | nil => simp [namesL]
  | cons v r ih => simp [namesL, ih]

/-- A value lives on where its names still mean the same. -/
theorem Rep.keep {idm : FuncId → FuncId} {m m' : NMap} {O : Nat → Prop} {w w' : World} {W W' : Nat → Prop} {c : AV} {v : Value} (h : Rep idm m w W c v) (k : Keep O w w')
    (hO : ∀ i, O i → W i) (hW : ∀ i, i < w.heap.size → W' i → W i) (hm : ∀ x ∈ c.names, m' x = m x) : Rep idm m' w' W' c v := by
  induction h with
  | undef v => exact .undef v
  | ub b => exact .ub b
  | p c v h => exact .p c v (h.keep k hO hW)
  | agg cs vs hl hf h1 h ih =>
    exact .agg cs vs hl hf h1 fun i c v hi hv => ih i c v hi hv fun x hx => hm x (by simp only [AV.names]; exact mem_namesL.2 ⟨c, List.mem_of_getElem? hi, hx⟩)
  | tup cs vs hl h ih =>
    exact .tup cs vs hl fun i c v hi hv => ih i c v hi hv fun x hx => hm x (by simp only [AV.names]; exact mem_namesL.2 ⟨c, List.mem_of_getElem? hi, hx⟩)
  | nils z a => exact .nils z a
  | hsl x off len a c h hc => exact .hsl x off len a c (by rw [hm x (by simp [AV.names])]; exact h) hc
  | ptr x off b hb => exact .ptr x off b (by rw [hm x (by simp [AV.names])]; exact hb)
  | eptr x i off b hb =>
    have e := hm x (by simp [AV.names])
    rw [← e]
    exact .eptr x i off b (by rw [e]; exact hb)
  | rptr cs ad f hW' hlt hf hc h =>
    exact .rptr cs ad f (fun hx => hW' (hW _ hlt hx)) (Nat.lt_of_lt_of_le hlt k.size) hf
      (fun j c hj => k.cell (hc j c hj) (by rw [add_block]; exact fun hx => hW' (hO _ hx))) fun j c hj => (h j c hj).keep k hO hW
  | fn f a b va vb ha hb h h' ih ih' =>
    exact .fn f a b va vb ha hb
      (fun i c v hi hv => ih i c v hi hv fun x hx => hm x (by simp only [AV.names]; exact List.mem_append_left _ (mem_namesL.2 ⟨c, List.mem_of_getElem? hi, hx⟩)))
      (fun i c v hi hv => ih' i c v hi hv fun x hx => hm x (by simp only [AV.names]; exact List.mem_append_right _ (mem_namesL.2 ⟨c, List.mem_of_getElem? hi, hx⟩)))

theorem Rep.same {idm : FuncId → FuncId} {m m' : NMap} {w : World} {W : Nat → Prop} {c : AV} {v : Value} (h : Rep idm m w W c v) (hm : ∀ x ∈ c.names, m' x = m x) : Rep idm m' w W c v :=
  h.keep (Keep.refl (fun _ => False) w) (fun _ h => h.elim) (fun _ _ h => h) hm

theorem Rep.flat_one {idm : FuncId → FuncId} {m : NMap} {w : World} {W : Nat → Prop} {c : AV} {v : Value} (h : Rep idm m w W c v) (hf : c.flat = true) (hu : c ≠ .undef) :
    v.oneCell' = true ∧ v.cells = #[v] := by
  cases h with
  | undef => exact absurd rfl hu
  | p c v h => exact h.flat_one (by cases c <;> first | rfl | simp [AV.flat] at hf)
  | agg => simp [AV.flat] at hf
  | tup => simp [AV.flat] at hf
  | _ => exact ⟨rfl, rfl⟩

theorem Rep.cells {idm : FuncId → FuncId} {m : NMap} {w : World} {W : Nat → Prop} {c : AV} {v : Value} (h : Rep idm m w W c v) (ho : c.okv = true) :
    v.cells.size = c.cells.length ∧ (∀ x ∈ c.cells, x.flat = true) ∧ (∀ u ∈ v.cells, u.oneCell' = true) ∧
      (∀ (i : Nat) (x : AV) (u : Value), c.cells[i]? = some x → v.cells[i]? = some u → Rep idm m w W x u) ∧ ∀ x ∈ namesL c.cells, x ∈ c.names := by
  cases h with
  | undef => simp [AV.okv] at ho
  | ub => simp [AV.okv] at ho
  | tup => simp [AV.okv] at ho
  | agg cs vs hl hf h1 h => exact ⟨hl, hf, h1, h, fun x hx => by simpa [AV.names, AV.cells] using hx⟩
  | p c v h =>
    obtain ⟨g1, g2, g3⟩ := h.cells
    have hc : (AV.p c).cells = c.cells.map .p := by cases c <;> rfl
    rw [hc]
    refine ⟨by simpa using g1, ?_, ?_, ?_, ?_⟩
    · intro x hx
      obtain ⟨y, hy, rfl⟩ := List.mem_map.1 hx
      have := g2 y hy
      cases y <;> first | rfl | simp [PV.flat] at this
    · intro u hu
      obtain ⟨i, hi, rfl⟩ := Array.mem_iff_getElem.1 hu
      have hi' : i < c.cells.length := by omega
      exact (PRep.flat_one (g3 i c.cells[i] _ (List.getElem?_eq_getElem hi') (Array.getElem?_eq_getElem hi)) (g2 _ (List.getElem_mem hi'))).1
    · intro i x u hx hu
      rw [List.getElem?_map] at hx
      obtain ⟨y, hy, rfl⟩ := Option.map_eq_some_iff.1 hx
      exact .p _ _ (g3 i y u hy hu)
    · intro x hx
      obtain ⟨v, hv, hx⟩ := mem_namesL.1 hx
      obtain ⟨y, _, rfl⟩ := List.mem_map.1 hv
      simp [AV.names] at hx
  | nils z a =>
    refine ⟨rfl, by simp [AV.cells, AV.flat], by simp [Value.cells, Value.oneCell'], ?_, by simp [AV.cells, namesL, AV.names]⟩
    intro i x u hx hu
    cases i with
    | zero => simp [AV.cells, Value.cells] at hx hu; subst hx; subst hu; exact .nils z a
    | succ i => simp [AV.cells] at hx
  | hsl x off len a c h hc =>
    refine ⟨rfl, by simp [AV.cells, AV.flat], by simp [Value.cells, Value.oneCell'], ?_, by simp [AV.cells, namesL, AV.names]⟩
    intro i y u hx hu
    cases i with
    | zero => simp [AV.cells, Value.cells] at hx hu; subst hx; subst hu; exact .hsl x off len a c h hc
    | succ i => simp [AV.cells] at hx
  | ptr x off b hb =>
    refine ⟨rfl, by simp [AV.cells, AV.flat], by simp [Value.cells, Value.oneCell'], ?_, by simp [AV.cells, namesL, AV.names]⟩
    intro i y u hx hu
    cases i with
    | zero => simp [AV.cells, Value.cells] at hx hu; subst hx; subst hu; exact .ptr x off b hb
    | succ i => simp [AV.cells] at hx
  | eptr x k off b hb =>
    refine ⟨rfl, by simp [AV.cells, AV.flat], by simp [Value.cells, Value.oneCell'], ?_, by simp [AV.cells, namesL, AV.names]⟩
    intro i y u hx hu
    cases i with
    | zero => simp [AV.cells, Value.cells] at hx hu; subst hx; subst hu; exact .eptr x k off b hb
    | succ i => simp [AV.cells] at hx
  | rptr cs ad f hW hlt hf hc h =>
    refine ⟨rfl, by simp [AV.cells, AV.flat], by simp [Value.cells, Value.oneCell'], ?_, by simp [AV.cells, namesL, AV.names]⟩
    intro i y u hx hu
    cases i with
    | zero => simp [AV.cells, Value.cells] at hx hu; subst hx; subst hu; exact .rptr cs ad f hW hlt hf hc h
    | succ i => simp [AV.cells] at hx
  | fn f a b va vb ha hb h h' =>
    refine ⟨rfl, by simp [AV.cells, AV.flat], by simp [Value.cells, Value.oneCell'], ?_, by simp [AV.cells, namesL, AV.names]⟩
    intro i y u hx hu
    cases i with
    | zero => simp [AV.cells, Value.cells] at hx hu; subst hx; subst hu; exact .fn f a b va vb ha hb h h'
    | succ i => simp [AV.cells] at hx

/-- Cells that lie in a block. -/
def AObj.frozen : AObj → Bool
  | .parr _ _ f => f
  | _ => false

def ORep (idm : FuncId → FuncId) (m : NMap) (w : World) (W : Nat → Prop) (l : Loc) : AObj → Prop
  | .box cs => ∃ b c e, l.base = some b ∧ w.heap[b]? = some (.cells c e (0, 0)) ∧ c.size = cs.length ∧ (∀ a ∈ cs, a.flat = true) ∧ (∀ v ∈ c, v.oneCell' = true) ∧
      (∀ (i : Nat) (a : AV) (v : Value), cs[i]? = some a → c[i]? = some v → Rep idm m w W a v) ∧ W b
  | .parr es z fz => l.esz = z ∧ (∀ e ∈ es, e.cells.length = z ∧ ∀ c ∈ e.cells, c.flat = true) ∧ ((l.base = none ∧ es = [] ∧ l.cap = 0) ∨
      ∃ b c e, l.base = some b ∧ w.heap[b]? = some (.cells c e (0, 0)) ∧ c.size = l.cap * z ∧ es.length ≤ l.cap ∧ l.cap ≤ maxLen ∧ (∀ v ∈ c, v.oneCell' = true) ∧
        (∀ (i j : Nat) (e a : PV) (v : Value), es[i]? = some e → e.cells[j]? = some a → c[i * z + j]? = some v → PRep w W a v) ∧ (fz = false → W b) ∧ (fz = true → ¬ W b))
  | .arr es => l.esz = 1 ∧ ∃ b c e, l.base = some b ∧ w.heap[b]? = some (.cells c e (0, 0)) ∧ c.size = es.length ∧ l.cap = es.length ∧ (∀ a ∈ es, a.flat = true) ∧ (∀ v ∈ c, v.oneCell' = true) ∧
      (∀ (i : Nat) (a : AV) (v : Value), es[i]? = some a → c[i]? = some v → Rep idm m w W a v) ∧ W b

/-- An object lives on where its block is let alone. -/
theorem ORep.keep {idm : FuncId → FuncId} {m m' : NMap} {O : Nat → Prop} {w w' : World} {W W' : Nat → Prop} {l : Loc} {o : AObj} (h : ORep idm m w W l o) (k : Keep O w w')
    (hO : ∀ i, O i → W i) (hW : ∀ i, i < w.heap.size → W' i → W i) (hm : ∀ x ∈ o.names, m' x = m x) (hb : ∀ b, l.base = some b → ¬ O b ∧ (W b → W' b)) : ORep idm m' w' W' l o := by
  have hlt : ∀ {b : Nat} {x : Obj}, w.heap[b]? = some x → b < w.heap.size := fun h => (Array.getElem?_eq_some_iff.1 h).1
  cases o with
  | box cs =>
    obtain ⟨b, c, e, h1, h2, h3, h4, h5, h6, h7⟩ := h
    obtain ⟨g1, g2⟩ := hb b h1
    exact ⟨b, c, e, h1, by rw [k.block b (hlt h2) g1]; exact h2, h3, h4, h5,
      fun i a v ha hv => (h6 i a v ha hv).keep k hO hW fun x hx => hm x (by simp only [AObj.names]; exact mem_namesL.2 ⟨a, List.mem_of_getElem? ha, hx⟩), g2 h7⟩
  | parr es z fz =>
    obtain ⟨h0, h1, h2⟩ := h
    refine ⟨h0, h1, ?_⟩
    rcases h2 with h2 | ⟨b, c, e, h2, h3, h4, h5, h6, h7, h8, h9, h10⟩
    · exact .inl h2
    · obtain ⟨g1, g2⟩ := hb b h2
      exact .inr ⟨b, c, e, h2, by rw [k.block b (hlt h3) g1]; exact h3, h4, h5, h6, h7, fun i j e a v he ha hv => (h8 i j e a v he ha hv).keep k hO hW,
        fun hf => g2 (h9 hf), fun hf hx => h10 hf (hW b (hlt h3) hx)⟩
  | arr es =>
    obtain ⟨h0, b, c, e, h1, h2, h3, hc, h4, h5, h6, h7⟩ := h
    obtain ⟨g1, g2⟩ := hb b h1
    exact ⟨h0, b, c, e, h1, by rw [k.block b (hlt h2) g1]; exact h2, h3, hc, h4, h5,
      fun i a v ha hv => (h6 i a v ha hv).keep k hO hW fun x hx => hm x (by simp only [AObj.names]; exact mem_namesL.2 ⟨a, List.mem_of_getElem? ha, hx⟩), g2 h7⟩

/-- The blocks that a frame may write. -/
def Own (m : NMap) (H : Hp) (b : Nat) : Prop := ∃ x o, hget H x = some o ∧ o.frozen = false ∧ (m x).base = some b

structure SimH (idm : FuncId → FuncId) (m : NMap) (w : World) (W : Nat → Prop) (H : Hp) : Prop where
  h : ∀ x o, hget H x = some o → ORep idm m w W (m x) o
  sep : ∀ x y o o' b, hget H x = some o → hget H y = some o' → (m x).base = some b → (m y).base = some b → x = y
  ch : ∀ y o x, hget H y = some o → x ∈ o.names → (hget H x).isSome = true
  lt : ∀ b, W b → b < w.heap.size

structure Sim (idm : FuncId → FuncId) (N : Nat) (m : NMap) (w : World) (W : Nat → Prop) (st : St) (a : Act) : Prop extends SimH idm m w W st.H where
  sz : a.tmps.size = N
  t : ∀ i, Rep idm m w W (tget st.T i) (a.tmps.getD i undef)
  ct : ∀ i x, x ∈ (tget st.T i).names → (hget st.H x).isSome = true

theorem SimH.own_W {idm : FuncId → FuncId} {m : NMap} {w : World} {W : Nat → Prop} {H : Hp} (s : SimH idm m w W H) {b : Nat} (h : Own m H b) : W b := by
  obtain ⟨x, o, h1, h2, h3⟩ := h
  have := s.h x o h1
  cases o with
  | box cs => obtain ⟨b', c, e, g1, g2, g3, g4, g5, g6, g7⟩ := this; rw [h3] at g1; cases g1; exact g7
  | parr es z fz =>
    obtain ⟨g0, g1, g2⟩ := this
    rcases g2 with ⟨g2, _⟩ | ⟨b', c, e, g2, g3, g4, g5, g6, g7, g8, g9, g10⟩
    · rw [h3] at g2; cases g2
    · rw [h3] at g2; cases g2; exact g9 h2
  | arr es => obtain ⟨g0, b', c, e, g1, g2, g3, gc, g4, g5, g6, g7⟩ := this; rw [h3] at g1; cases g1; exact g7

theorem ORep.lt {idm : FuncId → FuncId} {m : NMap} {w : World} {W : Nat → Prop} {l : Loc} {o : AObj} (h : ORep idm m w W l o) {b : Nat} (hb : l.base = some b) : b < w.heap.size := by
  have hlt : ∀ {b : Nat} {x : Obj}, w.heap[b]? = some x → b < w.heap.size := fun h => (Array.getElem?_eq_some_iff.1 h).1
  cases o with
  | box cs => obtain ⟨b', c, e, g1, g2, _⟩ := h; rw [hb] at g1; cases g1; exact hlt g2
  | parr es z fz =>
    obtain ⟨g0, g1, g2⟩ := h
    rcases g2 with ⟨g2, _⟩ | ⟨b', c, e, g2, g3, _⟩
    · rw [hb] at g2; cases g2
    · rw [hb] at g2; cases g2; exact hlt g3
  | arr es => obtain ⟨g0, b', c, e, g1, g2, _⟩ := h; rw [hb] at g1; cases g1; exact hlt g2

/-- From one moment of a frame to a later one. -/
structure Tr (O : Nat → Prop) (w : World) (W : Nat → Prop) (w' : World) (W' : Nat → Prop) (O' : Nat → Prop) : Prop extends Keep O w w' where
  sub : ∀ i, i < w.heap.size → W' i → W i
  sup : ∀ i, i < w.heap.size → W i → ¬ O i → W' i
  own : ∀ i, i < w.heap.size → O' i → O i

theorem Tr.refl {O O' : Nat → Prop} {w : World} {W : Nat → Prop} (h : ∀ i, O' i → O i) : Tr O w W w W O' := ⟨Keep.refl O w, fun _ _ h => h, fun _ _ h _ => h, fun i _ hi => h i hi⟩
theorem Tr.trans {O O1 O2 : Nat → Prop} {w w1 w2 : World} {W W1 W2 : Nat → Prop} (h : Tr O w W w1 W1 O1) (g : Tr O1 w1 W1 w2 W2 O2) : Tr O w W w2 W2 O2 :=
  ⟨h.toKeep.trans g.toKeep h.own, fun i hi hx => h.sub i hi (g.sub i (Nat.lt_of_lt_of_le hi h.size) hx),
    fun i hi hx hn => g.sup i (Nat.lt_of_lt_of_le hi h.size) (h.sup i hi hx hn) (fun ho => hn (h.own i hi ho)),
    fun i hi ho => h.own i hi (g.own i (Nat.lt_of_lt_of_le hi h.size) ho)⟩

end Go.Ab
