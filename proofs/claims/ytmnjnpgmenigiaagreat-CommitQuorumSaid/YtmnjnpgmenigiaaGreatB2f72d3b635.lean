/- A part of the proof (an executor, and what it computes). -/
import Derived.Test.YtmnjnpgmenigiaaGreatSA0
import Derived.Test.YtmnjnpgmenigiaaGreatB1e00147b9d
import Derived.Laws.AppendOwn
import Derived.Laws.CopyRow
import Derived.Laws.Cells
import Derived.Laws.Tables
import Derived.Laws.Rows
import Derived.Laws.StructEq
import Derived.Laws.Strings
set_option linter.all false
namespace Go.Ab.S
open Go Go.Ab
set_option maxRecDepth 100000
/-- Whose code is there. -/
def fnSA : FuncId → Option SFn
  | 5 => some F5
  | 17 => some F17
  | 20 => some F20
  | 21 => some F21
  | 24 => some F24
  | 25 => some F25
  | 28 => some F28
  | 30 => some F30
  | 31 => some F31
  | 32 => some F32
  | 35 => some F35
  | 36 => some F36
  | 37 => some F37
  | 38 => some F38
  | 45 => some F45
  | 46 => some F46
  | 53 => some F53
  | 62 => some F62
  | 81 => some F81
  | 90 => some F90
  | 104 => some F104
  | 107 => some F107
  | 109 => some F109
  | 110 => some F110
  | 111 => some F111
  | 114 => some F114
  | 115 => some F115
  | 116 => some F116
  | 117 => some F117
  | 118 => some F118
  | 119 => some F119
  | 120 => some F120
  | 121 => some F121
  | 122 => some F122
  | 123 => some F123
  | 124 => some F124
  | 125 => some F125
  | 126 => some F126
  | 127 => some F127
  | 128 => some F128
  | 130 => some F130
  | 132 => some F132
  | 134 => some F134
  | 136 => some F136
  | 138 => some F138
  | 156 => some F156
  | 157 => some F157
  | 158 => some F158
  | 159 => some F159
  | 161 => some F161
  | 163 => some F163
  | 190 => some F190
  | 191 => some F191
  | 192 => some F192
  | 193 => some F193
  | 194 => some F194
  | 195 => some F195
  | 196 => some F196
  | 197 => some F197
  | 198 => some F198
  | 199 => some F199
  | 200 => some F200
  | 201 => some F201
  | 202 => some F202
  | 203 => some F203
  | 205 => some F205
  | 206 => some F206
  | 212 => some F212
  | 213 => some F213
  | 214 => some F214
  | 215 => some F215
  | 228 => some F228
  | 229 => some F229
  | 230 => some F230
  | 231 => some F231
  | 232 => some F232
  | 233 => some F233
  | 234 => some F234
  | 235 => some F235
  | 236 => some F236
  | 239 => some F239
  | 240 => some F240
  | 241 => some F241
  | 242 => some F242
  | 262 => some F262
  | 263 => some F263
  | 264 => some F264
  | 265 => some F265
  | 266 => some F266
  | 267 => some F267
  | 268 => some F268
  | 269 => some F269
  | 270 => some F270
  | 271 => some F271
  | 272 => some F272
  | 273 => some F273
  | 274 => some F274
  | 275 => some F275
  | 276 => some F276
  | 277 => some F277
  | 278 => some F278
  | 279 => some F279
  | 280 => some F280
  | 281 => some F281
  | 282 => some F282
  | 285 => some F285
  | 298 => some F298
  | 299 => some F299
  | 302 => some F302
  | 303 => some F303
  | 304 => some F304
  | 305 => some F305
  | 306 => some F306
  | 307 => some F307
  | 308 => some F308
  | 309 => some F309
  | 310 => some F310
  | 311 => some F311
  | 318 => some F318
  | 319 => some F319
  | 320 => some F320
  | 321 => some F321
  | _ => none
end Go.Ab.S

/-! How plain data and names lie in the model's memory. -/
namespace Go.Ab
open Go

/-- Where a variable lies: its block (none: a nil slice), its capacity, the size of its elements. -/
structure Loc where
  base : Option Nat
  cap : Nat
  esz : Nat
abbrev NMap := Nm → Loc

def PV.flat : PV → Bool
  | .agg _ => false
  | _ => true
def AV.flat : AV → Bool
  | .agg _ => false
  | .tup _ => false
  | .p (.agg _) => false
  | _ => true

theorem add_at (b o n : Nat) : (⟨b, o, none⟩ : Addr).add n = ⟨b, o + n, none⟩ := by unfold Addr.add; split <;> simp_all
theorem add_block (a : Addr) (n : Nat) : (a.add n).block = a.block := by unfold Addr.add; split <;> rfl

inductive PRep (w : World) (W : Nat → Prop) : PV → Value → Prop
  | int (k : IntKind) (n : Int) : PRep w W (.int k n) (.int k n)
  | bool (b : Bool) : PRep w W (.bool b) (.bool b)
  | str (s : ByteArray) : PRep w W (.str s) (.string s)
  | nilp : PRep w W .nilp (.pointer none)
  | nilf : PRep w W .nilf .nilFunc
  | agg (cs : List PV) (vs : Array Value) (hl : vs.size = cs.length) (hf : ∀ c ∈ cs, c.flat = true)
      (h : ∀ (i : Nat) (c : PV) (v : Value), cs[i]? = some c → vs[i]? = some v → PRep w W c v) : PRep w W (.agg cs) (.agg vs)
  | sl (z : Nat) (es : List PV) (a : Option Addr) (n cap : Nat) (ad : Addr) (f : Nat → Nat → Value) (hn : es.length = n) (hcap : n ≤ cap)
      (hz : ∀ e ∈ es, e.cells.length = z ∧ ∀ c ∈ e.cells, c.flat = true) (ha : es ≠ [] → a = some ad ∧ ¬ W ad.block ∧ ad.block < w.heap.size)
      (hc : ∀ (i j : Nat) (e c : PV), es[i]? = some e → e.cells[j]? = some c → w.cell? (ad.add (i * z + j)) = some (f i j))
      (h : ∀ (i j : Nat) (e c : PV), es[i]? = some e → e.cells[j]? = some c → PRep w W c (f i j)) : PRep w W (.sl z es) (.slice a n cap)

theorem PRep.flat_one {w : World} {W : Nat → Prop} {c : PV} {v : Value} (h : PRep w W c v) (hf : c.flat = true) : v.oneCell' = true ∧ v.cells = #[v] := by
  cases h <;> first | exact ⟨rfl, rfl⟩ | simp [PV.flat] at hf

theorem PV.flat_cells {c : PV} (h : c.flat = true) : c.cells = [c] := by cases c <;> first | rfl | simp [PV.flat] at h

/-- The cells of a value. -/
theorem PRep.cells {w : World} {W : Nat → Prop} {c : PV} {v : Value} (h : PRep w W c v) :
    v.cells.size = c.cells.length ∧ (∀ x ∈ c.cells, x.flat = true) ∧ ∀ (i : Nat) (x : PV) (u : Value), c.cells[i]? = some x → v.cells[i]? = some u → PRep w W x u := by
  cases h with
  | agg cs vs hl hf h => exact ⟨hl, hf, h⟩
  | _ =>
    refine ⟨rfl, by simp [PV.cells, PV.flat], fun i x u hx hu => ?_⟩
    cases i with
    | zero =>
      simp only [PV.cells, List.getElem?_cons_zero, Option.some.injEq, Value.cells] at hx hu
      subst hx
      have : (#[_] : Array Value)[0]? = some u := hu
      simp at this
      subst this
      constructor <;> assumption
    | succ i => simp [PV.cells] at hx

/-- What may have changed: not what lies outside of O. -/
structure Keep (O : Nat → Prop) (w w' : World) : Prop where
  os : w'.os = w.os
  tape : w'.tape = w.tape
  output : w'.output = w.output
  size : w.heap.size ≤ w'.heap.size
  block : ∀ i, i < w.heap.size → ¬ O i → w'.heap[i]? = w.heap[i]?

theorem Keep.cell {O : Nat → Prop} {w w' : World} (h : Keep O w w') {a : Addr} {v : Value} (hc : w.cell? a = some v) (hb : ¬ O a.block) : w'.cell? a = some v := by
  have hl := World.block_lt_of_cell? w a hc
  have := h.block a.block hl hb
  unfold World.cell? at hc ⊢
  rw [this]
  exact hc

theorem Keep.refl (O : Nat → Prop) (w : World) : Keep O w w := ⟨rfl, rfl, rfl, Nat.le_refl _, fun _ _ _ => rfl⟩
theorem Keep.trans {O : Nat → Prop} {w w1 w2 : World} (h : Keep O w w1) {O1 : Nat → Prop} (h1 : Keep O1 w1 w2) (ho : ∀ i, i < w.heap.size → O1 i → O i) : Keep O w w2 :=
  ⟨h1.os.trans h.os, h1.tape.trans h.tape, h1.output.trans h.output, Nat.le_trans h.size h1.size, fun i hi hn => by
    rw [h1.block i (Nat.lt_of_lt_of_le hi h.size) (fun hx => hn (ho i hi hx)), h.block i hi hn]⟩

/-- Plain data lives on. -/
theorem PRep.keep {O : Nat → Prop} {w w' : World} {W W' : Nat → Prop} {c : PV} {v : Value} (h : PRep w W c v) (k : Keep O w w') (hO : ∀ i, O i → W i)
    (hW : ∀ i, i < w.heap.size → W' i → W i) : PRep w' W' c v := by
  induction h with
  | int => exact .int ..
  | bool => exact .bool ..
  | str => exact .str ..
  | nilp => exact .nilp
  | nilf => exact .nilf
  | agg cs vs hl hf h ih => exact .agg cs vs hl hf ih
  | sl z es a n cap ad f hn hcap hz ha hc h ih =>
    by_cases he : es = []
    · subst he
      exact .sl z [] a n cap ad f hn hcap hz (fun h => absurd rfl h) (fun i j e c h => by simp at h) (fun i j e c h => by simp at h)
    · obtain ⟨ha1, ha2⟩ := ha he
      obtain ⟨ha2, ha3⟩ := ha2
      exact .sl z es a n cap ad f hn hcap hz (fun _ => ⟨ha1, fun hx => ha2 (hW _ ha3 hx), Nat.lt_of_lt_of_le ha3 k.size⟩)
        (fun i j e c h1 h2 => k.cell (hc i j e c h1 h2) (by rw [add_block]; exact fun hx => ha2 (hO _ hx))) ih

/-! ### Values with names -/
/-- A slice of one's own, as its header reads. -/
def HslOK (l : Loc) (off len : Nat) (a : Option Addr) (c : Nat) : Prop :=
  match l.base with
  | none => off = 0 ∧ len = 0 ∧ c = 0
  | some b => (off = 0 → a = some ⟨b, 0, none⟩ ∧ c = l.cap) ∧ (0 < len → a = some ⟨b, off * l.esz, none⟩)

inductive Rep (idm : FuncId → FuncId) (m : NMap) (w : World) (W : Nat → Prop) : AV → Value → Prop
  | undef (v : Value) : Rep idm m w W .undef v
  | ub (b : Bool) : Rep idm m w W .ub (.bool b)
  | p (c : PV) (v : Value) (h : PRep w W c v) : Rep idm m w W (.p c) v
  | agg (cs : List AV) (vs : Array Value) (hl : vs.size = cs.length) (hf : ∀ c ∈ cs, c.flat = true) (h1 : ∀ v ∈ vs, v.oneCell' = true)
      (h : ∀ (i : Nat) (c : AV) (v : Value), cs[i]? = some c → vs[i]? = some v → Rep idm m w W c v) : Rep idm m w W (.agg cs) (.agg vs)
  | tup (cs : List AV) (vs : Array Value) (hl : vs.size = cs.length)
      (h : ∀ (i : Nat) (c : AV) (v : Value), cs[i]? = some c → vs[i]? = some v → Rep idm m w W c v) : Rep idm m w W (.tup cs) (.tuple vs)
  | nils (z : Nat) (a : Option Addr) : Rep idm m w W (.nils z) (.slice a 0 0)
  | hsl (x : Nm) (off len : Nat) (a : Option Addr) (c : Nat) (h : HslOK (m x) off len a c) (hc : len ≤ c) : Rep idm m w W (.hsl x off len) (.slice a len c)
  | ptr (x : Nm) (off b : Nat) (hb : (m x).base = some b) : Rep idm m w W (.ptr x off) (.pointer (some ⟨b, off, none⟩))
  | eptr (x : Nm) (i off b : Nat) (hb : (m x).base = some b) : Rep idm m w W (.eptr x i off) (.pointer (some ⟨b, i * (m x).esz + off, none⟩))
  | rptr (cs : List PV) (ad : Addr) (f : Nat → Value) (hW : ¬ W ad.block) (hlt : ad.block < w.heap.size) (hf : ∀ c ∈ cs, c.flat = true)
      (hc : ∀ (j : Nat) (c : PV), cs[j]? = some c → w.cell? (ad.add j) = some (f j)) (h : ∀ (j : Nat) (c : PV), cs[j]? = some c → PRep w W c (f j)) :
      Rep idm m w W (.rptr cs) (.pointer (some ad))
  | fn (f : FuncId) (a b : List AV) (va vb : Array Value) (ha : va.size = a.length) (hb : vb.size = b.length)
      (h : ∀ (i : Nat) (c : AV) (v : Value), a[i]? = some c → va[i]? = some v → Rep idm m w W c v)
      (h' : ∀ (i : Nat) (c : AV) (v : Value), b[i]? = some c → vb[i]? = some v → Rep idm m w W c v) : Rep idm m w W (.fn f a b) (.func (.func (idm f)) va vb)
  | yld (l : Nat) : Rep idm m w W (.yld l) (.func (.yield l) #[] #[])

theorem mem_namesL {x : Nm} {cs : List AV} : x ∈ namesL cs ↔ ∃ v ∈ cs, x ∈ v.names := by
  induction cs with
  | nil => simp [namesL]
  | cons v r ih => simp [namesL, ih]

/-- A value lives on where its names still mean the same. -/
theorem Rep.keep {idm : FuncId → FuncId} {m m' : NMap} {O : Nat → Prop} {w w' : World} {W W' : Nat → Prop} {c : AV} {v : Value} (h : Rep idm m w W c v) (k : Keep O w w')
    (hO : ∀ i, O i → W i) (hW : ∀ i, i < w.heap.size → W' i → W i) (hm : ∀ x ∈ c.names, m' x = m x) : Rep idm m' w' W' c v := by
  induction h with
  | undef v => exact .undef v
  | ub b => exact .ub b
  | yld l => exact .yld l
  | p c v h => exact .p c v (h.keep k hO hW)
  | agg cs vs hl hf h1 h ih =>
    exact .agg cs vs hl hf h1 fun i c v hi hv => ih i c v hi hv fun x hx => hm x (by simp only [AV.names]; exact mem_namesL.2 ⟨c, List.mem_of_getElem? hi, hx⟩)
  | tup cs vs hl h ih =>
    exact .tup cs vs hl fun i c v hi hv => ih i c v hi hv fun x hx => hm x (by simp only [AV.names]; exact mem_namesL.2 ⟨c, List.mem_of_getElem? hi, hx⟩)
  | nils z a => exact .nils z a
  | hsl x off len a c h hc => exact .hsl x off len a c (by rw [hm x (by simp [AV.names])]; exact h) hc
  | ptr x off b hb => exact .ptr x off b (by rw [hm x (by simp [AV.names])]; exact hb)
  | eptr x i off b hb =>
    have e := hm x (by simp [AV.names])
    rw [← e]
    exact .eptr x i off b (by rw [e]; exact hb)
  | rptr cs ad f hW' hlt hf hc h =>
    exact .rptr cs ad f (fun hx => hW' (hW _ hlt hx)) (Nat.lt_of_lt_of_le hlt k.size) hf
      (fun j c hj => k.cell (hc j c hj) (by rw [add_block]; exact fun hx => hW' (hO _ hx))) fun j c hj => (h j c hj).keep k hO hW
  | fn f a b va vb ha hb h h' ih ih' =>
    exact .fn f a b va vb ha hb
      (fun i c v hi hv => ih i c v hi hv fun x hx => hm x (by simp only [AV.names]; exact List.mem_append_left _ (mem_namesL.2 ⟨c, List.mem_of_getElem? hi, hx⟩)))
      (fun i c v hi hv => ih' i c v hi hv fun x hx => hm x (by simp only [AV.names]; exact List.mem_append_right _ (mem_namesL.2 ⟨c, List.mem_of_getElem? hi, hx⟩)))

theorem Rep.same {idm : FuncId → FuncId} {m m' : NMap} {w : World} {W : Nat → Prop} {c : AV} {v : Value} (h : Rep idm m w W c v) (hm : ∀ x ∈ c.names, m' x = m x) : Rep idm m' w W c v :=
  h.keep (Keep.refl (fun _ => False) w) (fun _ h => h.elim) (fun _ _ h => h) hm

theorem Rep.flat_one {idm : FuncId → FuncId} {m : NMap} {w : World} {W : Nat → Prop} {c : AV} {v : Value} (h : Rep idm m w W c v) (hf : c.flat = true) (hu : c ≠ .undef) :
    v.oneCell' = true ∧ v.cells = #[v] := by
  cases h with
  | undef => exact absurd rfl hu
  | p c v h => exact h.flat_one (by cases c <;> first | rfl | simp [AV.flat] at hf)
  | agg => simp [AV.flat] at hf
  | tup => simp [AV.flat] at hf
  | _ => exact ⟨rfl, rfl⟩

theorem Rep.cells {idm : FuncId → FuncId} {m : NMap} {w : World} {W : Nat → Prop} {c : AV} {v : Value} (h : Rep idm m w W c v) (ho : c.okv = true) :
    v.cells.size = c.cells.length ∧ (∀ x ∈ c.cells, x.flat = true) ∧ (∀ u ∈ v.cells, u.oneCell' = true) ∧
      (∀ (i : Nat) (x : AV) (u : Value), c.cells[i]? = some x → v.cells[i]? = some u → Rep idm m w W x u) ∧ ∀ x ∈ namesL c.cells, x ∈ c.names := by
  cases h with
  | undef => simp [AV.okv] at ho
  | ub => simp [AV.okv] at ho
  | tup => simp [AV.okv] at ho
  | agg cs vs hl hf h1 h => exact ⟨hl, hf, h1, h, fun x hx => by simpa [AV.names, AV.cells] using hx⟩
  | p c v h =>
    obtain ⟨g1, g2, g3⟩ := h.cells
    have hc : (AV.p c).cells = c.cells.map .p := by cases c <;> rfl
    rw [hc]
    refine ⟨by simpa using g1, ?_, ?_, ?_, ?_⟩
    · intro x hx
      obtain ⟨y, hy, rfl⟩ := List.mem_map.1 hx
      have := g2 y hy
      cases y <;> first | rfl | simp [PV.flat] at this
    · intro u hu
      obtain ⟨i, hi, rfl⟩ := Array.mem_iff_getElem.1 hu
      have hi' : i < c.cells.length := by omega
      exact (PRep.flat_one (g3 i c.cells[i] _ (List.getElem?_eq_getElem hi') (Array.getElem?_eq_getElem hi)) (g2 _ (List.getElem_mem hi'))).1
    · intro i x u hx hu
      rw [List.getElem?_map] at hx
      obtain ⟨y, hy, rfl⟩ := Option.map_eq_some_iff.1 hx
      exact .p _ _ (g3 i y u hy hu)
    · intro x hx
      obtain ⟨v, hv, hx⟩ := mem_namesL.1 hx
      obtain ⟨y, _, rfl⟩ := List.mem_map.1 hv
      simp [AV.names] at hx
  | nils z a =>
    refine ⟨rfl, by simp [AV.cells, AV.flat], by simp [Value.cells, Value.oneCell'], ?_, by simp [AV.cells, namesL, AV.names]⟩
    intro i x u hx hu
    cases i with
    | zero => simp [AV.cells, Value.cells] at hx hu; subst hx; subst hu; exact .nils z a
    | succ i => simp [AV.cells] at hx
  | hsl x off len a c h hc =>
    refine ⟨rfl, by simp [AV.cells, AV.flat], by simp [Value.cells, Value.oneCell'], ?_, by simp [AV.cells, namesL, AV.names]⟩
    intro i y u hx hu
    cases i with
    | zero => simp [AV.cells, Value.cells] at hx hu; subst hx; subst hu; exact .hsl x off len a c h hc
    | succ i => simp [AV.cells] at hx
  | ptr x off b hb =>
    refine ⟨rfl, by simp [AV.cells, AV.flat], by simp [Value.cells, Value.oneCell'], ?_, by simp [AV.cells, namesL, AV.names]⟩
    intro i y u hx hu
    cases i with
    | zero => simp [AV.cells, Value.cells] at hx hu; subst hx; subst hu; exact .ptr x off b hb
    | succ i => simp [AV.cells] at hx
  | eptr x k off b hb =>
    refine ⟨rfl, by simp [AV.cells, AV.flat], by simp [Value.cells, Value.oneCell'], ?_, by simp [AV.cells, namesL, AV.names]⟩
    intro i y u hx hu
    cases i with
    | zero => simp [AV.cells, Value.cells] at hx hu; subst hx; subst hu; exact .eptr x k off b hb
    | succ i => simp [AV.cells] at hx
  | rptr cs ad f hW hlt hf hc h =>
    refine ⟨rfl, by simp [AV.cells, AV.flat], by simp [Value.cells, Value.oneCell'], ?_, by simp [AV.cells, namesL, AV.names]⟩
    intro i y u hx hu
    cases i with
    | zero => simp [AV.cells, Value.cells] at hx hu; subst hx; subst hu; exact .rptr cs ad f hW hlt hf hc h
    | succ i => simp [AV.cells] at hx
  | yld l =>
    refine ⟨rfl, by simp [AV.cells, AV.flat], by simp [Value.cells, Value.oneCell'], ?_, by simp [AV.cells, namesL, AV.names]⟩
    intro i y u hx hu
    cases i with
    | zero => simp [AV.cells, Value.cells] at hx hu; subst hx; subst hu; exact .yld l
    | succ i => simp [AV.cells] at hx
  | fn f a b va vb ha hb h h' =>
    refine ⟨rfl, by simp [AV.cells, AV.flat], by simp [Value.cells, Value.oneCell'], ?_, by simp [AV.cells, namesL, AV.names]⟩
    intro i y u hx hu
    cases i with
    | zero => simp [AV.cells, Value.cells] at hx hu; subst hx; subst hu; exact .fn f a b va vb ha hb h h'
    | succ i => simp [AV.cells] at hx

/-- Cells that lie in a block. -/
def AObj.frozen : AObj → Bool
  | .parr _ _ f => f
  | _ => false

def ORep (idm : FuncId → FuncId) (m : NMap) (w : World) (W : Nat → Prop) (l : Loc) : AObj → Prop
  | .box cs => ∃ b c e, l.base = some b ∧ w.heap[b]? = some (.cells c e (0, 0)) ∧ c.size = cs.length ∧ (∀ a ∈ cs, a.flat = true) ∧ (∀ v ∈ c, v.oneCell' = true) ∧
      (∀ (i : Nat) (a : AV) (v : Value), cs[i]? = some a → c[i]? = some v → Rep idm m w W a v) ∧ W b
  | .parr es z fz => l.esz = z ∧ (∀ e ∈ es, e.cells.length = z ∧ ∀ c ∈ e.cells, c.flat = true) ∧ ((l.base = none ∧ es = [] ∧ l.cap = 0) ∨
      ∃ b c e, l.base = some b ∧ w.heap[b]? = some (.cells c e (0, 0)) ∧ c.size = l.cap * z ∧ es.length ≤ l.cap ∧ l.cap ≤ maxLen ∧ (∀ v ∈ c, v.oneCell' = true) ∧
        (∀ (i j : Nat) (e a : PV) (v : Value), es[i]? = some e → e.cells[j]? = some a → c[i * z + j]? = some v → PRep w W a v) ∧ (fz = false → W b) ∧ (fz = true → ¬ W b))
  | .arr es => l.esz = 1 ∧ ∃ b c e, l.base = some b ∧ w.heap[b]? = some (.cells c e (0, 0)) ∧ c.size = es.length ∧ l.cap = es.length ∧ (∀ a ∈ es, a.flat = true) ∧ (∀ v ∈ c, v.oneCell' = true) ∧
      (∀ (i : Nat) (a : AV) (v : Value), es[i]? = some a → c[i]? = some v → Rep idm m w W a v) ∧ W b

/-- An object lives on where its block is let alone. -/
theorem ORep.keep {idm : FuncId → FuncId} {m m' : NMap} {O : Nat → Prop} {w w' : World} {W W' : Nat → Prop} {l : Loc} {o : AObj} (h : ORep idm m w W l o) (k : Keep O w w')
    (hO : ∀ i, O i → W i) (hW : ∀ i, i < w.heap.size → W' i → W i) (hm : ∀ x ∈ o.names, m' x = m x) (hb : ∀ b, l.base = some b → ¬ O b ∧ (W b → W' b)) : ORep idm m' w' W' l o := by
  have hlt : ∀ {b : Nat} {x : Obj}, w.heap[b]? = some x → b < w.heap.size := fun h => (Array.getElem?_eq_some_iff.1 h).1
  cases o with
  | box cs =>
    obtain ⟨b, c, e, h1, h2, h3, h4, h5, h6, h7⟩ := h
    obtain ⟨g1, g2⟩ := hb b h1
    exact ⟨b, c, e, h1, by rw [k.block b (hlt h2) g1]; exact h2, h3, h4, h5,
      fun i a v ha hv => (h6 i a v ha hv).keep k hO hW fun x hx => hm x (by simp only [AObj.names]; exact mem_namesL.2 ⟨a, List.mem_of_getElem? ha, hx⟩), g2 h7⟩
  | parr es z fz =>
    obtain ⟨h0, h1, h2⟩ := h
    refine ⟨h0, h1, ?_⟩
    rcases h2 with h2 | ⟨b, c, e, h2, h3, h4, h5, h6, h7, h8, h9, h10⟩
    · exact .inl h2
    · obtain ⟨g1, g2⟩ := hb b h2
      exact .inr ⟨b, c, e, h2, by rw [k.block b (hlt h3) g1]; exact h3, h4, h5, h6, h7, fun i j e a v he ha hv => (h8 i j e a v he ha hv).keep k hO hW,
        fun hf => g2 (h9 hf), fun hf hx => h10 hf (hW b (hlt h3) hx)⟩
  | arr es =>
    obtain ⟨h0, b, c, e, h1, h2, h3, hc, h4, h5, h6, h7⟩ := h
    obtain ⟨g1, g2⟩ := hb b h1
    exact ⟨h0, b, c, e, h1, by rw [k.block b (hlt h2) g1]; exact h2, h3, hc, h4, h5,
      fun i a v ha hv => (h6 i a v ha hv).keep k hO hW fun x hx => hm x (by simp only [AObj.names]; exact mem_namesL.2 ⟨a, List.mem_of_getElem? ha, hx⟩), g2 h7⟩

/-- The blocks that a frame may write. -/
def Own (m : NMap) (H : Hp) (b : Nat) : Prop := ∃ x o, hget H x = some o ∧ o.frozen = false ∧ (m x).base = some b

structure SimH (idm : FuncId → FuncId) (m : NMap) (w : World) (W : Nat → Prop) (H : Hp) : Prop where
  h : ∀ x o, hget H x = some o → ORep idm m w W (m x) o
  sep : ∀ x y o o' b, hget H x = some o → hget H y = some o' → (m x).base = some b → (m y).base = some b → x = y
  ch : ∀ y o x, hget H y = some o → x ∈ o.names → (hget H x).isSome = true
  lt : ∀ b, W b → b < w.heap.size

structure Sim (idm : FuncId → FuncId) (N : Nat) (m : NMap) (w : World) (W : Nat → Prop) (st : St) (a : Act) : Prop extends SimH idm m w W st.H where
  sz : a.tmps.size = N
  t : ∀ i, Rep idm m w W (tget st.T i) (a.tmps.getD i undef)
  ct : ∀ i x, x ∈ (tget st.T i).names → (hget st.H x).isSome = true

theorem SimH.own_W {idm : FuncId → FuncId} {m : NMap} {w : World} {W : Nat → Prop} {H : Hp} (s : SimH idm m w W H) {b : Nat} (h : Own m H b) : W b := by
  obtain ⟨x, o, h1, h2, h3⟩ := h
  have := s.h x o h1
  cases o with
  | box cs => obtain ⟨b', c, e, g1, g2, g3, g4, g5, g6, g7⟩ := this; rw [h3] at g1; cases g1; exact g7
  | parr es z fz =>
    obtain ⟨g0, g1, g2⟩ := this
    rcases g2 with ⟨g2, _⟩ | ⟨b', c, e, g2, g3, g4, g5, g6, g7, g8, g9, g10⟩
    · rw [h3] at g2; cases g2
    · rw [h3] at g2; cases g2; exact g9 h2
  | arr es => obtain ⟨g0, b', c, e, g1, g2, g3, gc, g4, g5, g6, g7⟩ := this; rw [h3] at g1; cases g1; exact g7

theorem ORep.lt {idm : FuncId → FuncId} {m : NMap} {w : World} {W : Nat → Prop} {l : Loc} {o : AObj} (h : ORep idm m w W l o) {b : Nat} (hb : l.base = some b) : b < w.heap.size := by
  have hlt : ∀ {b : Nat} {x : Obj}, w.heap[b]? = some x → b < w.heap.size := fun h => (Array.getElem?_eq_some_iff.1 h).1
  cases o with
  | box cs => obtain ⟨b', c, e, g1, g2, _⟩ := h; rw [hb] at g1; cases g1; exact hlt g2
  | parr es z fz =>
    obtain ⟨g0, g1, g2⟩ := h
    rcases g2 with ⟨g2, _⟩ | ⟨b', c, e, g2, g3, _⟩
    · rw [hb] at g2; cases g2
    · rw [hb] at g2; cases g2; exact hlt g3
  | arr es => obtain ⟨g0, b', c, e, g1, g2, _⟩ := h; rw [hb] at g1; cases g1; exact hlt g2

/-- From one moment of a frame to a later one. -/
structure Tr (O : Nat → Prop) (w : World) (W : Nat → Prop) (w' : World) (W' : Nat → Prop) (O' : Nat → Prop) : Prop extends Keep O w w' where
  sub : ∀ i, i < w.heap.size → W' i → W i
  sup : ∀ i, i < w.heap.size → W i → ¬ O i → W' i
  own : ∀ i, i < w.heap.size → O' i → O i

theorem Tr.refl {O O' : Nat → Prop} {w : World} {W : Nat → Prop} (h : ∀ i, O' i → O i) : Tr O w W w W O' := ⟨Keep.refl O w, fun _ _ h => h, fun _ _ h _ => h, fun i _ hi => h i hi⟩
theorem Tr.trans {O O1 O2 : Nat → Prop} {w w1 w2 : World} {W W1 W2 : Nat → Prop} (h : Tr O w W w1 W1 O1) (g : Tr O1 w1 W1 w2 W2 O2) : Tr O w W w2 W2 O2 :=
  ⟨h.toKeep.trans g.toKeep h.own, fun i hi hx => h.sub i hi (g.sub i (Nat.lt_of_lt_of_le hi h.size) hx),
    fun i hi hx hn => g.sup i (Nat.lt_of_lt_of_le hi h.size) (h.sup i hi hx hn) (fun ho => hn (h.own i hi ho)),
    fun i hi ho => h.own i hi (g.own i (Nat.lt_of_lt_of_le hi h.size) ho)⟩

end Go.Ab

/-! One operation: what it needs so that the frame goes on. -/
namespace Go.Ab
open Go

def upNs : Hp → List Nm
  | [] => []
  | (x, _) :: r => x :: upNs r

theorem hget_append (a b : Hp) (x : Nm) : hget (a ++ b) x = if x ∈ upNs a then hget a x else hget b x := by
  induction a with
  | nil => simp [upNs]
  | cons p r ih =>
    obtain ⟨y, o⟩ := p
    simp only [List.cons_append, hget, upNs, List.mem_cons]
    by_cases h : y = x
    · subst h; simp
    · simp only [h, if_false, ih]
      have : ¬ x = y := fun e => h e.symm
      simp [this]

theorem hget_notin {a : Hp} {x : Nm} (h : x ∉ upNs a) : hget a x = none := by
  induction a with
  | nil => rfl
  | cons p r ih =>
    obtain ⟨y, o⟩ := p
    simp only [upNs, List.mem_cons, not_or] at h
    simp only [hget]
    rw [if_neg (fun e => h.1 e.symm)]
    exact ih h.2

mutual
theorem AV.names_purge (x y : Nm) : ∀ v : AV, y ∈ (v.purge x).names → y ∈ v.names ∧ y ≠ x
  | .agg cs => by simp only [AV.purge, AV.names]; exact namesL_purge x y cs
  | .tup cs => by simp only [AV.purge, AV.names]; exact namesL_purge x y cs
  | .hsl z o l => by
    simp only [AV.purge]
    split
    · simp [AV.names]
    · rename_i h; simp only [AV.names, List.mem_singleton]; rintro rfl; exact ⟨rfl, h⟩
  | .ptr z o => by
    simp only [AV.purge]
    split
    · simp [AV.names]
    · rename_i h; simp only [AV.names, List.mem_singleton]; rintro rfl; exact ⟨rfl, h⟩
  | .eptr z i o => by
    simp only [AV.purge]
    split
    · simp [AV.names]
    · rename_i h; simp only [AV.names, List.mem_singleton]; rintro rfl; exact ⟨rfl, h⟩
  | .fn f a b => by
    simp only [AV.purge, AV.names, List.mem_append]
    rintro (h | h)
    · exact ⟨.inl (namesL_purge x y a h).1, (namesL_purge x y a h).2⟩
    · exact ⟨.inr (namesL_purge x y b h).1, (namesL_purge x y b h).2⟩
  | .undef => by simp [AV.purge, AV.names]
  | .ub => by simp [AV.purge, AV.names]
  | .p v => by simp [AV.purge, AV.names]
  | .nils z => by simp [AV.purge, AV.names]
  | .rptr cs => by simp [AV.purge, AV.names]
  | .yld l => by simp [AV.purge, AV.names]
theorem namesL_purge (x y : Nm) : ∀ cs : List AV, y ∈ namesL (purgeL x cs) → y ∈ namesL cs ∧ y ≠ x
  | [] => by simp [purgeL, namesL]
  | v :: r => by
    simp only [purgeL, namesL, List.mem_append]
    rintro (h | h)
    · exact ⟨.inl (AV.names_purge x y v h).1, (AV.names_purge x y v h).2⟩
    · exact ⟨.inr (namesL_purge x y r h).1, (namesL_purge x y r h).2⟩
end

theorem purgeL_get (x : Nm) (cs : List AV) (i : Nat) : (purgeL x cs)[i]? = (cs[i]?).map (AV.purge x) := by
  induction cs generalizing i with
  | nil => simp [purgeL]
  | cons v r ih => cases i with
    | zero => simp [purgeL]
    | succ i => simp [purgeL, ih]
theorem purgeL_length (x : Nm) (cs : List AV) : (purgeL x cs).length = cs.length := by
  induction cs with
  | nil => rfl
  | cons v r ih => simp [purgeL, ih]
theorem flat_purge (x : Nm) {v : AV} (h : v.flat = true) : (v.purge x).flat = true := by
  cases v <;> simp only [AV.purge] <;> first | exact h | (split <;> first | rfl | exact h) | simp [AV.flat] at h ⊢
theorem purgeL_flat (x : Nm) {cs : List AV} (h : ∀ c ∈ cs, c.flat = true) : ∀ c ∈ purgeL x cs, c.flat = true := by
  intro c hc
  obtain ⟨i, hi⟩ := List.mem_iff_getElem?.1 hc
  rw [purgeL_get] at hi
  obtain ⟨v, hv, rfl⟩ := Option.map_eq_some_iff.1 hi
  exact flat_purge x (h v (List.mem_of_getElem? hv))

theorem Rep.purge {idm : FuncId → FuncId} {m : NMap} {w : World} {W : Nat → Prop} {c : AV} {v : Value} (h : Rep idm m w W c v) (x : Nm) : Rep idm m w W (c.purge x) v := by
  induction h with
  | undef v => exact .undef v
  | ub b => exact .ub b
  | yld l => exact .yld l
  | p c v h => exact .p c v h
  | agg cs vs hl hf h1 h ih =>
    simp only [AV.purge]
    refine .agg _ vs (by rw [purgeL_length]; exact hl) (purgeL_flat x hf) h1 fun i c v hi hv => ?_
    rw [purgeL_get] at hi
    obtain ⟨c', hc', rfl⟩ := Option.map_eq_some_iff.1 hi
    exact ih i c' v hc' hv
  | tup cs vs hl h ih =>
    simp only [AV.purge]
    refine .tup _ vs (by rw [purgeL_length]; exact hl) fun i c v hi hv => ?_
    rw [purgeL_get] at hi
    obtain ⟨c', hc', rfl⟩ := Option.map_eq_some_iff.1 hi
    exact ih i c' v hc' hv
  | nils z a => exact .nils z a
  | hsl y off len a c h hc => simp only [AV.purge]; split <;> first | exact .undef _ | exact .hsl y off len a c h hc
  | ptr y off b hb => simp only [AV.purge]; split <;> first | exact .undef _ | exact .ptr y off b hb
  | eptr y i off b hb => simp only [AV.purge]; split <;> first | exact .undef _ | exact .eptr y i off b hb
  | rptr cs ad f hW hlt hf hc h => exact .rptr cs ad f hW hlt hf hc h
  | fn f a b va vb ha hb h h' ih ih' =>
    simp only [AV.purge]
    refine .fn f _ _ va vb (by rw [purgeL_length]; exact ha) (by rw [purgeL_length]; exact hb) (fun i c v hi hv => ?_) fun i c v hi hv => ?_
    · rw [purgeL_get] at hi
      obtain ⟨c', hc', rfl⟩ := Option.map_eq_some_iff.1 hi
      exact ih i c' v hc' hv
    · rw [purgeL_get] at hi
      obtain ⟨c', hc', rfl⟩ := Option.map_eq_some_iff.1 hi
      exact ih' i c' v hc' hv

theorem AObj.names_purge (x y : Nm) (o : AObj) : y ∈ (o.purge x).names → y ∈ o.names ∧ y ≠ x := by
  cases o with
  | box cs => exact namesL_purge x y cs
  | parr => simp [AObj.purge, AObj.names]
  | arr es => exact namesL_purge x y es
theorem AObj.frozen_purge (x : Nm) (o : AObj) : (o.purge x).frozen = o.frozen := by cases o <;> rfl

theorem ORep.purge {idm : FuncId → FuncId} {m : NMap} {w : World} {W : Nat → Prop} {l : Loc} {o : AObj} (h : ORep idm m w W l o) (x : Nm) : ORep idm m w W l (o.purge x) := by
  cases o with
  | box cs =>
    obtain ⟨b, c, e, h1, h2, h3, h4, h5, h6, h7⟩ := h
    refine ⟨b, c, e, h1, h2, by rw [purgeL_length]; exact h3, purgeL_flat x h4, h5, fun i a v ha hv => ?_, h7⟩
    rw [purgeL_get] at ha
    obtain ⟨a', ha', rfl⟩ := Option.map_eq_some_iff.1 ha
    exact (h6 i a' v ha' hv).purge x
  | parr => exact h
  | arr es =>
    obtain ⟨h0, b, c, e, h1, h2, h3, hc, h4, h5, h6, h7⟩ := h
    refine ⟨h0, b, c, e, h1, h2, by rw [purgeL_length]; exact h3, by rw [purgeL_length]; exact hc, purgeL_flat x h4, h5, fun i a v ha hv => ?_, h7⟩
    rw [purgeL_get] at ha
    obtain ⟨a', ha', rfl⟩ := Option.map_eq_some_iff.1 ha
    exact (h6 i a' v ha' hv).purge x

theorem tget_purgeT (x : Nm) (T : Tm) (i : Nat) : tget (purgeT x T) i = (tget T i).purge x := by
  induction T with
  | nil => rfl
  | cons p r ih => obtain ⟨j, v⟩ := p; simp only [purgeT, tget]; split <;> simp_all
theorem hget_purgeH (x : Nm) (H : Hp) (y : Nm) : hget (purgeH x H) y = (hget H y).map (AObj.purge x) := by
  induction H with
  | nil => rfl
  | cons p r ih => obtain ⟨z, o⟩ := p; simp only [purgeH, hget]; split <;> simp_all

/-- The temporaries and variables behind a purge. -/
def pgT (pg : Option Nm) (T : Tm) : Tm :=
  match pg with
  | some x => purgeT x T
  | none => T
def pgH (pg : Option Nm) (H : Hp) : Hp :=
  match pg with
  | some x => purgeH x H
  | none => H
theorem putD_eq (dst : Option Nat) (d : Dl) (T : Tm) (H : Hp) : putD dst d T H = { T := match dst with | some t => (t, d.v) :: pgT d.pg T | none => pgT d.pg T, H := d.up ++ pgH d.pg H } := rfl

theorem hget_pgH_some {pg : Option Nm} {H : Hp} {x : Nm} : (hget (pgH pg H) x).isSome = (hget H x).isSome := by
  cases pg with
  | none => rfl
  | some y => simp only [pgH, hget_purgeH]; cases hget H x <;> rfl
theorem hget_pgH {pg : Option Nm} {H : Hp} {x : Nm} {o : AObj} (h : hget (pgH pg H) x = some o) : ∃ o', hget H x = some o' ∧ o'.frozen = o.frozen ∧ (∀ y, y ∈ o.names → y ∈ o'.names ∧ pg ≠ some y) ∧
    ∀ {idm : FuncId → FuncId} {m : NMap} {w : World} {W : Nat → Prop} {l : Loc}, ORep idm m w W l o' → ORep idm m w W l o := by
  cases pg with
  | none => exact ⟨o, h, rfl, fun y hy => ⟨hy, by simp⟩, fun h => h⟩
  | some z =>
    simp only [pgH, hget_purgeH] at h
    obtain ⟨o', ho', rfl⟩ := Option.map_eq_some_iff.1 h
    exact ⟨o', ho', (AObj.frozen_purge z o').symm, fun y hy => ⟨(AObj.names_purge z y o' hy).1, fun e => (AObj.names_purge z y o' hy).2 (by injection e with e; exact e.symm)⟩, fun h => h.purge z⟩
theorem tget_pgT (pg : Option Nm) (T : Tm) (i : Nat) : (∀ y, y ∈ (tget (pgT pg T) i).names → y ∈ (tget T i).names ∧ pg ≠ some y) ∧
    ∀ {idm : FuncId → FuncId} {m : NMap} {w : World} {W : Nat → Prop} {v : Value}, Rep idm m w W (tget T i) v → Rep idm m w W (tget (pgT pg T) i) v := by
  cases pg with
  | none => exact ⟨fun y hy => ⟨hy, by simp⟩, fun h => h⟩
  | some z =>
    simp only [pgT, tget_purgeT]
    exact ⟨fun y hy => ⟨(AV.names_purge z y _ hy).1, fun e => (AV.names_purge z y _ hy).2 (by injection e with e; exact e.symm)⟩, fun h => h.purge z⟩

theorem isSome_app {up : Hp} {pg : Option Nm} {H : Hp} {y : Nm} (hu : ∀ x ∈ upNs up, ∃ o, hget up x = some o) (h : (hget H y).isSome = true) : (hget (up ++ pgH pg H) y).isSome = true := by
  rw [hget_append]
  split
  · rename_i hy; obtain ⟨o, ho⟩ := hu y hy; simp [ho]
  · rw [hget_pgH_some]; exact h

/-- The blocks of what is written anew. -/
def OwnU (m : NMap) (H : Hp) (up : Hp) (b : Nat) : Prop := ∃ x o, x ∈ upNs up ∧ hget H x = some o ∧ o.frozen = false ∧ (m x).base = some b

theorem Act.put_size (a : Act) (d : Option Nat) (v : Value) : (a.put d v).tmps.size = a.tmps.size := by cases d <;> simp [Act.put]
theorem Act.put_get (a : Act) (t : Nat) (v : Value) (i : Nat) (h : t < a.tmps.size) : (a.put (some t) v).tmps.getD i undef = if t = i then v else a.tmps.getD i undef := by
  simp only [Act.put, Array.getD_eq_getD_getElem?, Array.getElem?_setIfInBounds]
  by_cases e : t = i
  · subst e; simp [h]
  · simp [e]

/-- What an operation must bring. -/
structure Good (idm : FuncId → FuncId) (m : NMap) (w : World) (W : Nat → Prop) (H : Hp) (d : Dl) (m' : NMap) (w' : World) (W' : Nat → Prop) : Prop where
  k : Keep (OwnU m H d.up) w w'
  sub : ∀ i, i < w.heap.size → W' i → W i
  sup : ∀ i, i < w.heap.size → W i → ¬ OwnU m H d.up i → W' i
  lt : ∀ i, W' i → i < w'.heap.size
  mm : ∀ x, (hget H x).isSome = true → d.pg ≠ some x → m' x = m x
  up : ∀ x o, hget d.up x = some o → ORep idm m' w' W' (m' x) o ∧ ∀ y ∈ o.names, (hget (d.up ++ pgH d.pg H) y).isSome = true
  ups : ∀ x ∈ upNs d.up, ∃ o, hget d.up x = some o
  b1 : ∀ x o b, hget d.up x = some o → (m' x).base = some b → b < w.heap.size → ∃ o', hget H x = some o' ∧ (m x).base = some b ∧ (o.frozen = false → o'.frozen = false)
  b2 : ∀ x y b, x ∈ upNs d.up → y ∈ upNs d.up → w.heap.size ≤ b → (m' x).base = some b → (m' y).base = some b → x = y
  pgu : ∀ x, d.pg = some x → x ∈ upNs d.up
  ext : ∀ k, m' (.ext k) = m (.ext k)

section
variable {idm : FuncId → FuncId} {m : NMap} {w : World} {W : Nat → Prop} {H : Hp} {d : Dl} {m' : NMap} {w' : World} {W' : Nat → Prop}

theorem Good.hOW (s : SimH idm m w W H) : ∀ i, OwnU m H d.up i → W i := fun i ⟨x, o, _, h2, h3, h4⟩ => s.own_W ⟨x, o, h2, h3, h4⟩

theorem Good.old (g : Good idm m w W H d m' w' W') : ∀ x o, x ∉ upNs d.up → hget (pgH d.pg H) x = some o → m' x = m x ∧ ∃ o', hget H x = some o' ∧ o'.frozen = o.frozen := by
  intro x o hx ho
  obtain ⟨o', ho', h1, _, _⟩ := hget_pgH ho
  exact ⟨g.mm x (by rw [ho']; rfl) (fun e => hx (g.pgu x e)), o', ho', h1⟩

theorem Good.simH (g : Good idm m w W H d m' w' W') (s : SimH idm m w W H) : SimH idm m' w' W' (d.up ++ pgH d.pg H) := by
  have hOW := Good.hOW (d := d) s
  have hold := g.old
  have hH : ∀ x o, hget (d.up ++ pgH d.pg H) x = some o → ORep idm m' w' W' (m' x) o ∧ ∀ y ∈ o.names, (hget (d.up ++ pgH d.pg H) y).isSome = true := by
    intro x o ho
    rw [hget_append] at ho
    split at ho
    · exact g.up x o ho
    · rename_i hx
      obtain ⟨o', ho', h1, h2, h3⟩ := hget_pgH ho
      refine ⟨?_, fun y hy => isSome_app g.ups (s.ch x o' y ho' (h2 y hy).1)⟩
      have hmx := (hold x o hx ho).1
      rw [hmx]
      refine (h3 (s.h x o' ho')).keep g.k hOW g.sub (fun y hy => g.mm y (s.ch x o' y ho' (h2 y hy).1) (h2 y hy).2) (fun b hb => ?_)
      have hno : ¬ OwnU m H d.up b := by
        rintro ⟨y, oy, hy1, hy2, hy3, hy4⟩
        exact hx (s.sep x y o' oy b ho' hy2 hb hy4 ▸ hy1)
      exact ⟨hno, fun hWb => g.sup b (s.lt b hWb) hWb hno⟩
  refine { h := fun x o ho => (hH x o ho).1, sep := ?_, ch := fun y o x ho hx => (hH y o ho).2 x hx, lt := g.lt }
  intro x y o o' b hx hy hbx hby
  rw [hget_append] at hx hy
  by_cases hxu : x ∈ upNs d.up
  · rw [if_pos hxu] at hx
    by_cases hyu : y ∈ upNs d.up
    · rw [if_pos hyu] at hy
      rcases Nat.lt_or_ge b w.heap.size with hlt | hge
      · obtain ⟨p, hp, hpb, _⟩ := g.b1 x o b hx hbx hlt
        obtain ⟨q, hq, hqb, _⟩ := g.b1 y o' b hy hby hlt
        exact s.sep x y p q b hp hq hpb hqb
      · exact g.b2 x y b hxu hyu hge hbx hby
    · rw [if_neg hyu] at hy
      obtain ⟨hmy, q, hq, _⟩ := hold y o' hyu hy
      rw [hmy] at hby
      have hlt := (s.h y q hq).lt hby
      obtain ⟨p, hp, hpb, _⟩ := g.b1 x o b hx hbx hlt
      exact s.sep x y p q b hp hq hpb hby
  · rw [if_neg hxu] at hx
    obtain ⟨hmx, p, hp, _⟩ := hold x o hxu hx
    rw [hmx] at hbx
    by_cases hyu : y ∈ upNs d.up
    · rw [if_pos hyu] at hy
      have hlt := (s.h x p hp).lt hbx
      obtain ⟨q, hq, hqb, _⟩ := g.b1 y o' b hy hby hlt
      exact s.sep x y p q b hp hq hbx hqb
    · rw [if_neg hyu] at hy
      obtain ⟨hmy, q, hq, _⟩ := hold y o' hyu hy
      rw [hmy] at hby
      exact s.sep x y p q b hp hq hbx hby

theorem Good.tr (g : Good idm m w W H d m' w' W') : Tr (Own m H) w W w' W' (Own m' (d.up ++ pgH d.pg H)) := by
  have hold := g.old
  refine ⟨?_, g.sub, ?_, ?_⟩
  · exact ⟨g.k.os, g.k.tape, g.k.output, g.k.size, fun i hi hno => g.k.block i hi fun ⟨x, o, _, h2, h3, h4⟩ => hno ⟨x, o, h2, h3, h4⟩⟩
  · exact fun i hi hW hno => g.sup i hi hW fun ⟨x, o, _, h2, h3, h4⟩ => hno ⟨x, o, h2, h3, h4⟩
  · rintro i hi ⟨x, o, hx, hf, hb⟩
    rw [hget_append] at hx
    split at hx
    · obtain ⟨o', ho', hb', hf'⟩ := g.b1 x o i hx hb hi
      exact ⟨x, o', ho', hf' hf, hb'⟩
    · rename_i hxu
      obtain ⟨hmx, q, hq, hqf⟩ := hold x o hxu hx
      exact ⟨x, q, hq, by rw [hqf]; exact hf, by rw [← hmx]; exact hb⟩

/-- A value that no purge touches lives on. -/
theorem Good.rep (g : Good idm m w W H d m' w' W') (s : SimH idm m w W H) {c : AV} {v : Value} (h : Rep idm m w W c v) (hn : ∀ x ∈ c.names, (hget H x).isSome = true ∧ d.pg ≠ some x) : Rep idm m' w' W' c v :=
  h.keep g.k (Good.hOW s) g.sub fun x hx => g.mm x (hn x hx).1 (hn x hx).2

theorem Good.step (g : Good idm m w W H d m' w' W') {N : Nat} {T : Tm} {a : Act} (s : Sim idm N m w W ⟨T, H⟩ a) (dst : Option Nat) (hdst : ∀ t, dst = some t → t < N) (u : Value)
    (hv : Rep idm m' w' W' d.v u) (hn : ∀ y ∈ d.v.names, (hget (d.up ++ pgH d.pg H) y).isSome = true) :
    Sim idm N m' w' W' (putD dst d T H) (a.put dst u) ∧ Tr (Own m H) w W w' W' (Own m' (putD dst d T H).H) := by
  have hT : ∀ i, Rep idm m' w' W' (tget (pgT d.pg T) i) (a.tmps.getD i undef) ∧ ∀ y ∈ (tget (pgT d.pg T) i).names, (hget (d.up ++ pgH d.pg H) y).isSome = true := by
    intro i
    obtain ⟨h1, h2⟩ := tget_pgT d.pg T i
    exact ⟨g.rep s.toSimH (h2 (s.t i)) fun x hx => ⟨s.ct i x (h1 x hx).1, (h1 x hx).2⟩, fun y hy => isSome_app g.ups (s.ct i y (h1 y hy).1)⟩
  rw [putD_eq]
  refine ⟨{ toSimH := g.simH s.toSimH, sz := by rw [Act.put_size]; exact s.sz, t := ?_, ct := ?_ }, g.tr⟩
  · intro i
    cases dst with
    | none => exact (hT i).1
    | some t =>
      rw [Act.put_get _ _ _ _ (by rw [s.sz]; exact hdst t rfl)]
      simp only [tget]
      split
      · exact hv
      · exact (hT i).1
  · intro i x hx
    cases dst with
    | none => exact (hT i).2 x hx
    | some t =>
      simp only [tget] at hx
      split at hx
      · exact hn x hx
      · exact (hT i).2 x hx
end

/-- One change behind another. -/
theorem Good.comp {idm : FuncId → FuncId} {m m1 m2 : NMap} {w w1 w2 : World} {W W1 W2 : Nat → Prop} {H u1 u2 : Hp} {v1 v2 : AV} (s : SimH idm m w W H) (g1 : Good idm m w W H { v := v1, up := u1 } m1 w1 W1)
    (g2 : Good idm m1 w1 W1 (u1 ++ H) { v := v2, up := u2 } m2 w2 W2) : Good idm m w W H { v := v2, up := u2 ++ u1 } m2 w2 W2 := by
  have s1 : SimH idm m1 w1 W1 (u1 ++ H) := g1.simH s
  have s2 : SimH idm m2 w2 W2 (u2 ++ (u1 ++ H)) := g2.simH s1
  have mem : ∀ {x : Nm} {a b : Hp}, x ∈ upNs (a ++ b) ↔ x ∈ upNs a ∨ x ∈ upNs b := by
    intro x a b
    induction a with
    | nil => simp [upNs]
    | cons p r ih => obtain ⟨y, o⟩ := p; simp [upNs, ih, or_assoc]
  have live1 : ∀ {x : Nm}, (hget H x).isSome = true → (hget (u1 ++ H) x).isSome = true := fun h => isSome_app (pg := none) g1.ups h
  have liveu : ∀ x ∈ upNs (u2 ++ u1), ∃ o, hget (u2 ++ u1) x = some o := by
    intro x hx
    rw [hget_append]
    split
    · rename_i h; exact g2.ups x h
    · rename_i h
      rcases mem.1 hx with h' | h'
      · exact absurd h' h
      · exact g1.ups x h'
  have big : ∀ {x : Nm} {o : AObj}, hget (u2 ++ u1) x = some o → hget (u2 ++ (u1 ++ H)) x = some o := by
    intro x o ho
    rw [hget_append] at ho ⊢
    split
    · rename_i h; rw [if_pos h] at ho; exact ho
    · rename_i h
      rw [if_neg h] at ho
      rw [hget_append]
      have : x ∈ upNs u1 := by
        rcases Classical.em (x ∈ upNs u1) with h' | h'
        · exact h'
        · rw [hget_notin h'] at ho; cases ho
      rw [if_pos this]
      exact ho
  have own : ∀ i, i < w.heap.size → OwnU m1 (u1 ++ H) u2 i → OwnU m H (u2 ++ u1) i := by
    rintro i hi ⟨x, o, hx, ho, hf, hb⟩
    rw [hget_append] at ho
    split at ho
    · obtain ⟨o', h1, h2, h3⟩ := g1.b1 x o i ho hb hi
      exact ⟨x, o', mem.2 (.inl hx), h1, h3 hf, h2⟩
    · exact ⟨x, o, mem.2 (.inl hx), ho, hf, by rw [← g1.mm x (by rw [ho]; rfl) (by simp)]; exact hb⟩
  have own1 : ∀ i, OwnU m H u1 i → OwnU m H (u2 ++ u1) i := fun i ⟨x, o, h1, h2⟩ => ⟨x, o, mem.2 (.inr h1), h2⟩
  refine { k := ?_, sub := fun i hi h => g1.sub i hi (g2.sub i (Nat.lt_of_lt_of_le hi g1.k.size) h), sup := ?_, lt := g2.lt, mm := ?_, up := ?_, ups := liveu, b1 := ?_, b2 := ?_, pgu := fun x h => by simp at h, ext := fun k => (g2.ext k).trans (g1.ext k) }
  · exact Keep.trans (O := OwnU m H (u2 ++ u1)) ⟨g1.k.os, g1.k.tape, g1.k.output, g1.k.size, fun i hi h => g1.k.block i hi fun h' => h (own1 i h')⟩ g2.k own
  · exact fun i hi hW hn => g2.sup i (Nat.lt_of_lt_of_le hi g1.k.size) (g1.sup i hi hW fun h => hn (own1 i h)) fun h => hn (own i hi h)
  · intro x hx _
    rw [g2.mm x (live1 hx) (by simp), g1.mm x hx (by simp)]
  · intro x o ho
    have hb := big ho
    exact ⟨s2.h x o hb, fun y hy => by have := s2.ch x o y hb hy; simpa [pgH, List.append_assoc] using this⟩
  · intro x o b ho hb hlt
    rw [hget_append] at ho
    split at ho
    · obtain ⟨o', h1, h2, h3⟩ := g2.b1 x o b ho hb (Nat.lt_of_lt_of_le hlt g1.k.size)
      rw [hget_append] at h1
      split at h1
      · obtain ⟨o'', h4, h5, h6⟩ := g1.b1 x o' b h1 h2 hlt
        exact ⟨o'', h4, h5, fun hf => h6 (h3 hf)⟩
      · exact ⟨o', h1, by rw [← g1.mm x (by rw [h1]; rfl) (by simp)]; exact h2, h3⟩
    · rename_i hx2
      have hx1 : x ∈ upNs u1 := by
        rcases Classical.em (x ∈ upNs u1) with h' | h'
        · exact h'
        · rw [hget_notin h'] at ho; cases ho
      have : m2 x = m1 x := g2.mm x (by rw [hget_append, if_pos hx1, ho]; rfl) (by simp)
      rw [this] at hb
      exact g1.b1 x o b ho hb hlt
  · intro x y b hx hy hge hbx hby
    obtain ⟨o, ho⟩ := liveu x hx
    obtain ⟨o', ho'⟩ := liveu y hy
    exact s2.sep x y o o' b (big ho) (big ho') hbx hby

end Go.Ab

/-! The executor's code beside the model's: what must agree. -/
namespace Go.Ab
open Go

def aggD : TypeDesc → Bool
  | .struct _ => true
  | .array .. => true
  | _ => false

section
variable (P : Program) (idm : FuncId → FuncId)

def flatL : Value → PV → Bool
  | .int k n, .int k' n' => k == k' && n == n'
  | .bool b, .bool b' => b == b'
  | .string s, .str s' => decide (s = s')
  | .pointer none, .nilp => true
  | .nilFunc, .nilf => true
  | .slice none 0 0, .sl _ [] => true
  | _, _ => false
def flatsL : List Value → List PV → Bool
  | [], [] => true
  | v :: vs, c :: cs => flatL v c && flatsL vs cs
  | _, _ => false
def valL : Value → PV → Bool
  | .agg vs, .agg cs => flatsL vs.toList cs
  | v, c => flatL v c

def opdL : Operand → Opd → Bool
  | .tmp i, .t j => i == j
  | .const (.slice none 0 0), .nils _ => true
  | .const v, .c p => valL v p
  | .func f, .f g => idm g == f
  | _, _ => false
def opdsL : List Operand → List Opd → Bool
  | [], [] => true
  | x :: r, y :: s => opdL idm x y && opdsL r s
  | _, _ => false
def oopdL : Option Operand → Option Opd → Bool
  | none, none => true
  | some x, some y => opdL idm x y
  | _, _ => false

def aggT (t : TypeId) : Option Bool := (P.underlying t).map aggD
def sizeT (t : TypeId) : Option Nat := (P.info? t).map (·.size)
def zeroT (t : TypeId) : Option Value := (P.info? t).bind (·.zero)

def zcL : Value → ZC → Bool
  | .slice none 0 0, .nils _ => true
  | .slice none 0 0, .new _ => true
  | v, .c p => flatL v p
  | _, _ => false
def zcsL : List Value → List ZC → Bool
  | [], [] => true
  | v :: vs, c :: cs => zcL v c && zcsL vs cs
  | _, _ => false

/-- The parts of a struct: their places. -/
def fpartsL (fs : Array Field) : List (Nat × Operand) → List (Nat × Nat × Opd) → Bool
  | [], [] => true
  | (i, x) :: r, (o, s, y) :: q => (match fs[i]? with
      | some f => f.offset == o && sizeT P f.type == some s
      | none => false) && opdL idm x y && fpartsL fs r q
  | _, _ => false
def apartsL (e : TypeId) : List (Nat × Operand) → List (Nat × Nat × Opd) → Bool
  | [], [] => true
  | (i, x) :: r, (o, s, y) :: q => sizeT P e == some s && o == i * s && opdL idm x y && apartsL e r q
  | _, _ => false
def spartsL : Nat → List (Nat × Operand) → List Opd → Bool
  | _, [], [] => true
  | k, (i, x) :: r, y :: q => i == k && opdL idm x y && spartsL (k + 1) r q
  | _, _, _ => false

def szOK (t : TypeId) (n : Nat) : Bool :=
  match aggT P t with
  | some true => sizeT P t == some n
  | some false => n == 1
  | none => false

/-- Types whose values are equal where their cells are: the kinds of the cells. -/
def eqFK (g : TypeId → Option (List CK)) : Nat → List Field → Option (List CK)
  | _, [] => some []
  | o, f :: r =>
    if f.name == "_" || f.offset != o then none else
    match g f.type with
    | none => none
    | some ks =>
      if !ks.isEmpty && szOK P f.type ks.length then
        match eqFK g (o + ks.length) r with
        | some qs => some (ks ++ qs)
        | none => none
      else none
def eqK : Nat → TypeId → Option (List CK)
  | 0, _ => none
  | d + 1, t => match P.underlying t with
    | some (.int k) => some [.i k]
    | some .bool => some [.b]
    | some .string => some [.s]
    | some (.struct fs) => if P.stoodInHeld t then none else eqFK P (eqK d) 0 fs.toList
    | _ => none

def opL (o : Op) (s : SOp) : Bool :=
  match o, s with
  | .move x, .mv y => opdL idm x y
  | .assign x, .mv y => opdL idm x y
  | .assign (.const (.slice none 0 0)), .nnew _ => true
  | .pick c a b, .pick c' a' b' => opdL idm c c' && opdL idm a a' && opdL idm b b'
  | .alloc t, .alloc zs => match zeroT P t with
    | some z => zcsL z.cells.toList zs
    | none => false
  | .box _ x, .box y => opdL idm x y
  | .build t ps, .build zs qs => (match zeroT P t with
      | some z => zcsL z.cells.toList zs
      | none => false) && (match P.underlying t with
      | some (.struct fs) => fs.all (fun f => (sizeT P f.type).isSome) && fpartsL P idm fs ps.toList qs
      | some (.array _ e) => (sizeT P e).isSome && apartsL P idm e ps.toList qs
      | _ => false)
  | .buildSlice t n ps, .bslice _ z qs => (match P.underlying t with
      | some (.slice e) => (match zeroT P e with
        | some v => v.cells.size == z
        | none => false) && sizeT P e == some z && 0 < z && n * z ≤ 16777216
      | _ => false) && n == qs.length && spartsL idm 0 ps.toList qs
  | .load t x, .load agg size y => aggT P t == some agg && sizeT P t == some size && (agg || size == 1) && opdL idm x y
  | .store t x v, .store size y u => sizeT P t == some size && opdL idm x y && opdL idm v u
  | .nilCheck x, .nilck y => opdL idm x y
  | .binOp op t x y _, .bin op' x' y' => op == op' && (match P.underlying t with
      | some (.int _) => true
      | some .string => true
      | some .bool => true
      | _ => false) && opdL idm x x' && opdL idm y y'
  | .binOp op t x y _, .bbin neq x' y' => (match op with
      | .eql => !neq
      | .neq => neq
      | _ => false) && (match P.underlying t with
      | some .bool => true
      | _ => false) && opdL idm x x' && opdL idm y y'
  | .binOp op t x y _, .isnil x' => op == .eql && (match P.underlying t with
      | some (.slice _) => true
      | _ => false) && (match y with
      | .const (.slice none 0 0) => true
      | _ => false) && opdL idm x x'
  | .binOp op t x y _, .eqs neq ks x' y' => (match op with
      | .eql => !neq
      | .neq => neq
      | _ => false) && eqK P 20 t == some ks && !P.eqGuardType P.depth t && (match P.underlying t with
      | some (.struct _) => true
      | _ => false) && opdL idm x x' && opdL idm y y'
  | .unOp op _ x, .un op' y => op == op' && opdL idm x y
  | .convert s d x, .conv k y => (match P.underlying s, P.underlying d with
      | some (.int _), some (.int k') => k == k'
      | _, _ => false) && opdL idm x y
  | .makeFunc (.func f) a b, .mkfn g a' b' => idm g == f && opdsL idm a.toList a' && opdsL idm b.toList b'
  | .makeSlice t l c, .mkslice z n => (match P.underlying t with
      | some (.slice e) => (match P.info? e with
        | some i => i.bytes ≤ 65536 && (match i.zero with
          | some v => valL v z && i.size == z.cells.length
          | none => false)
        | none => false)
      | _ => false) && opdL idm l n && opdL idm c n
  | .slice t x lo hi mx, .slice z y lo' hi' mx' => (match P.underlying t with
      | some (.slice e) => sizeT P e == some z
      | _ => false) && opdL idm x y && oopdL idm lo lo' && oopdL idm hi hi' && oopdL idm mx mx' && (mx'.isNone || hi'.isSome)
  | .slice t x none (some h) none, .shrink z y h' => (match P.underlying t with
      | some (.slice e) => sizeT P e == some z
      | _ => false) && opdL idm x y && opdL idm h h'
  | .slice t x lo hi none, .substr y lo' hi' => (match P.underlying t with
      | some .string => true
      | _ => false) && opdL idm x y && oopdL idm lo lo' && oopdL idm hi hi'
  | .fieldAddr t x f, .faddr off y => (match P.underlying t with
      | some (.struct fs) => (match fs[f]? with
        | some g => g.offset == off && (match sizeT P g.type with
          | some n => n != 0
          | none => false)
        | none => false)
      | _ => false) && opdL idm x y
  | .field t x f, .fld agg size off y => (match P.underlying t with
      | some (.struct fs) => (match fs[f]? with
        | some g => g.offset == off && sizeT P g.type == some size && aggT P g.type == some agg
        | none => false)
      | _ => false) && opdL idm x y
  | .indexAddr t x (.const (.int _ n)), .faddr off y => (match P.underlying t with
      | some (.array len e) => decide (0 ≤ n) && decide (n < (len : Int)) && (match sizeT P e with
        | some z => n.toNat * z == off
        | none => false)
      | _ => false) && opdL idm x y
  | .indexAddr t x i, .iaddr z y j => (match P.underlying t with
      | some (.slice e) => sizeT P e == some z
      | _ => false) && opdL idm x y && opdL idm i j
  | .index t x i, .sidx y j => (match P.underlying t with
      | some .string => true
      | _ => false) && opdL idm x y && opdL idm i j
  | .index t x i, .aidx agg n z y j => (match P.underlying t with
      | some (.array n' e) => n' == n && sizeT P e == some z && aggT P e == some agg
      | _ => false) && opdL idm x y && opdL idm i j
  | .extract x i, .ext y j => i == j && opdL idm x y
  | .call { callee := .value f, args, .. }, .call g as => opdL idm f g && opdsL idm args.toList as
  | .call { callee := .builtin .len, args, argTypes }, .len str y => (match args.toList, argTypes.toList with
      | [x], [t] => opdL idm x y && (match P.underlying t with
        | some .string => str
        | some (.slice _) => !str
        | _ => false)
      | _, _ => false)
  | .call { callee := .builtin .append, args, argTypes }, .append z x' y' => (match args.toList, argTypes.toList with
      | [x, y], [t, u] => opdL idm x x' && opdL idm y y' && (match P.underlying t, P.underlying u with
        | some (.slice e), some (.slice _) => (match P.info? e with
          | some i => i.size == z && 0 < z && i.bytes ≤ 65536 && (match i.zero with
            | some v => v.cells.size == z && v.cells.all (·.oneCell')
            | none => false)
          | none => false)
        | _, _ => false)
      | _, _ => false)
  | .call { callee := .builtin .max, args, .. }, .mx x' y' => (match args.toList with
      | [x, y] => opdL idm x x' && opdL idm y y'
      | _ => false)
  | .call { callee := .builtin .min, args, .. }, .mn x' y' => (match args.toList with
      | [x, y] => opdL idm x x' && opdL idm y y'
      | _ => false)
  | .call { callee := .builtin .clear, args, argTypes }, .clear zp x' => (match args.toList, argTypes.toList with
      | [x], [t] => opdL idm x x' && (match P.underlying t with
        | some (.slice e) => (match P.info? e with
          | some i => (match i.zero with
            | some v => valL v zp
            | none => false)
          | none => false)
        | _ => false)
      | _, _ => false)
  | _, _ => false

end

theorem run_isAgg {P : Program} {t : TypeId} {b : Bool} (h : aggT P t = some b) (w : World) : (isAgg t).run P w = .ok b w := by
  obtain ⟨d, hd, rfl⟩ := Option.map_eq_some_iff.1 h
  simp only [isAgg, Sem.run_bind, run_underlying hd, Result.andThen_ok]
  cases d <;> rfl
theorem run_sizeT {P : Program} {t : TypeId} {n : Nat} (h : sizeT P t = some n) (w : World) : (sizeOf t).run P w = .ok n w := by
  obtain ⟨i, hi, rfl⟩ := Option.map_eq_some_iff.1 h
  simp [sizeOf, typeInfo, hi]

/-! ### Operands -/
theorem flatL_rep {v : Value} {c : PV} (h : flatL v c = true) (w : World) (W : Nat → Prop) : PRep w W c v ∧ c.flat = true := by
  unfold flatL at h
  split at h
  · simp only [Bool.and_eq_true, beq_iff_eq] at h; obtain ⟨rfl, rfl⟩ := h; exact ⟨.int .., rfl⟩
  · have e := eq_of_beq h; subst e; exact ⟨.bool _, rfl⟩
  · have e := of_decide_eq_true h; subst e; exact ⟨.str _, rfl⟩
  · exact ⟨.nilp, rfl⟩
  · exact ⟨.nilf, rfl⟩
  · exact ⟨.sl _ [] none 0 0 ⟨0, 0, none⟩ (fun _ _ => .nilFunc) rfl (Nat.le_refl _) (fun _ h => by cases h) (fun h => absurd rfl h) (fun i j e c h => by simp at h) (fun i j e c h => by simp at h), rfl⟩
  · cases h

theorem flatsL_rep : ∀ {vs : List Value} {cs : List PV}, flatsL vs cs = true → vs.length = cs.length ∧ (∀ c ∈ cs, c.flat = true) ∧
    ∀ (w : World) (W : Nat → Prop) (i : Nat) (c : PV) (v : Value), cs[i]? = some c → vs[i]? = some v → PRep w W c v
  | [], [], _ => ⟨rfl, by simp, fun w W i c v h => by simp at h⟩
  | v :: vs, c :: cs, h => by
    simp only [flatsL, Bool.and_eq_true] at h
    obtain ⟨g1, g2, g3⟩ := flatsL_rep h.2
    refine ⟨by simp [g1], ?_, fun w W i x u hx hu => ?_⟩
    · intro x hx
      rcases List.mem_cons.1 hx with rfl | hx
      · exact (flatL_rep h.1 ⟨#[], fun _ _ => 0, 0, default, #[]⟩ (fun _ => False)).2
      · exact g2 x hx
    · cases i with
      | zero => simp at hx hu; subst hx; subst hu; exact (flatL_rep h.1 w W).1
      | succ i => simp at hx hu; exact g3 w W i x u hx hu
  | [], _ :: _, h => by simp [flatsL] at h
  | _ :: _, [], h => by simp [flatsL] at h

theorem valL_rep {v : Value} {c : PV} (h : valL v c = true) (w : World) (W : Nat → Prop) : PRep w W c v := by
  unfold valL at h
  split at h
  · obtain ⟨g1, g2, g3⟩ := flatsL_rep h
    exact .agg _ _ (by simpa using g1) g2 fun i c v hc hv => g3 w W i c v hc (by simpa using hv)
  · exact (flatL_rep h w W).1

theorem opdL_rep {idm : FuncId → FuncId} {x : Operand} {y : Opd} (h : opdL idm x y = true) {N : Nat} {m : NMap} {w : World} {W : Nat → Prop} {st : St} {a : Act}
    (s : Sim idm N m w W st a) : Rep idm m w W (ev st.T y) (a.eval x) ∧ ∀ n ∈ (ev st.T y).names, (hget st.H n).isSome = true := by
  unfold opdL at h
  split at h
  · simp only [beq_iff_eq] at h; subst h; exact ⟨s.t _, s.ct _⟩
  · exact ⟨.nils _ _, by simp [ev, AV.names]⟩
  · exact ⟨.p _ _ (valL_rep h w W), by simp [ev, AV.names]⟩
  · simp only [beq_iff_eq] at h; subst h
    exact ⟨.fn _ [] [] #[] #[] rfl rfl (fun i c v h => by simp at h) (fun i c v h => by simp at h), by simp [ev, AV.names, namesL]⟩
  · cases h

theorem opdsL_rep {idm : FuncId → FuncId} {N : Nat} {m : NMap} {w : World} {W : Nat → Prop} {st : St} {a : Act} (s : Sim idm N m w W st a) :
    ∀ {xs : List Operand} {ys : List Opd}, opdsL idm xs ys = true → xs.length = (evL st.T ys).length ∧
      (∀ (i : Nat) (c : AV) (v : Value), (evL st.T ys)[i]? = some c → (xs.map a.eval)[i]? = some v → Rep idm m w W c v) ∧ ∀ n ∈ namesL (evL st.T ys), (hget st.H n).isSome = true
  | [], [], _ => ⟨rfl, fun i c v h => by simp [evL] at h, by simp [evL, namesL]⟩
  | x :: xs, y :: ys, h => by
    simp only [opdsL, Bool.and_eq_true] at h
    obtain ⟨g1, g2, g3⟩ := opdsL_rep s h.2
    obtain ⟨h1, h2⟩ := opdL_rep h.1 s
    refine ⟨by simp [evL, g1], fun i c v hc hv => ?_, fun n hn => ?_⟩
    · cases i with
      | zero => simp [evL] at hc hv; subst hc; subst hv; exact h1
      | succ i => simp only [evL, List.map_cons, List.getElem?_cons_succ] at hc hv; exact g2 i c v hc hv
    · simp only [evL, namesL, List.mem_append] at hn
      rcases hn with hn | hn
      · exact h2 n hn
      · exact g3 n hn
  | [], _ :: _, h => by simp [opdsL] at h
  | _ :: _, [], h => by simp [opdsL] at h

end Go.Ab

/-! Operations that change nothing. -/
namespace Go.Ab
open Go

def OpOK (P : Program) (idm : FuncId → FuncId) (m : NMap) (w : World) (W : Nat → Prop) (H : Hp) (o : Oper) (a : Act) (d : Dl) : Prop :=
  ∃ v w' m' W', ((execOp a.eval o).run P w = .ok (.value v) w' ∨ ((execOp a.eval o).run P w = .ok .skip w' ∧ v = undef)) ∧ Good idm m w W H d m' w' W' ∧
    Rep idm m' w' W' d.v v ∧ ∀ y ∈ d.v.names, (hget (d.up ++ pgH d.pg H) y).isSome = true

theorem Good.id {idm : FuncId → FuncId} {m : NMap} {w : World} {W : Nat → Prop} {H : Hp} (hlt : ∀ b, W b → b < w.heap.size) (x : AV) : Good idm m w W H { v := x } m w W where
  k := Keep.refl _ w
  sub := fun _ _ h => h
  sup := fun _ _ h _ => h
  lt := hlt
  mm := fun _ _ _ => rfl
  up := fun x o h => by simp [hget] at h
  ups := fun x h => by simp [upNs] at h
  b1 := fun x o b h => by simp [hget] at h
  b2 := fun x y b h => by simp [upNs] at h
  pgu := fun x h => by simp at h
  ext := fun _ => rfl

theorem OpOK.pure {P : Program} {idm : FuncId → FuncId} {N : Nat} {m : NMap} {w : World} {W : Nat → Prop} {st : St} {a : Act} {o : Oper} (s : Sim idm N m w W st a) {x : AV} {v : Value}
    (hr : (execOp a.eval o).run P w = .ok (.value v) w) (hv : Rep idm m w W x v) (hn : ∀ y ∈ x.names, (hget st.H y).isSome = true) : OpOK P idm m w W st.H o a { v := x } :=
  ⟨v, w, m, W, .inl hr, Good.id s.lt x, hv, fun y hy => by simpa [pgH] using hn y hy⟩

theorem Rep.int_inv {idm : FuncId → FuncId} {m : NMap} {w : World} {W : Nat → Prop} {k : IntKind} {n : Int} {v : Value} (h : Rep idm m w W (.p (.int k n)) v) : v = .int k n := by
  cases h with | p _ _ h => cases h; rfl
theorem Rep.bool_inv {idm : FuncId → FuncId} {m : NMap} {w : World} {W : Nat → Prop} {b : Bool} {v : Value} (h : Rep idm m w W (.p (.bool b)) v) : v = .bool b := by
  cases h with | p _ _ h => cases h; rfl
theorem Rep.str_inv {idm : FuncId → FuncId} {m : NMap} {w : World} {W : Nat → Prop} {b : ByteArray} {v : Value} (h : Rep idm m w W (.p (.str b)) v) : v = .string b := by
  cases h with | p _ _ h => cases h; rfl

section
variable {P : Program} {idm : FuncId → FuncId} {N : Nat} {m : NMap} {w : World} {W : Nat → Prop} {st : St} {a : Act} {o : Oper} (s : Sim idm N m w W st a)
include s

theorem ok_mv {x : Operand} {y : Opd} (ho : o.op = .move x ∨ o.op = .assign x) (h : opdL idm x y = true) : OpOK P idm m w W st.H o a { v := ev st.T y } := by
  obtain ⟨h1, h2⟩ := opdL_rep h s
  refine OpOK.pure s ?_ h1 h2
  rcases ho with ho | ho <;> simp [execOp, ho]

theorem ok_pick {c x y : Operand} {c' x' y' : Opd} (ho : o.op = .pick c x y) (hc : opdL idm c c' = true) (hx : opdL idm x x' = true) (hy : opdL idm y y' = true) {b : Bool} (hb : ev st.T c' = .p (.bool b)) :
    OpOK P idm m w W st.H o a { v := if b then ev st.T x' else ev st.T y' } := by
  obtain ⟨h1, _⟩ := opdL_rep hc s
  rw [hb] at h1
  have he : a.eval c = .bool b := h1.bool_inv
  cases b with
  | true => obtain ⟨g1, g2⟩ := opdL_rep hx s; exact OpOK.pure s (by simp [execOp, ho, he, asBool]) g1 g2
  | false => obtain ⟨g1, g2⟩ := opdL_rep hy s; exact OpOK.pure s (by simp [execOp, ho, he, asBool]) g1 g2

theorem ok_nilck {x : Operand} {y : Opd} (ho : o.op = .nilCheck x) (h : opdL idm x y = true) (hp : ptrQ (ev st.T y) = true) : OpOK P idm m w W st.H o a { v := ev st.T y } := by
  obtain ⟨h1, h2⟩ := opdL_rep h s
  refine OpOK.pure s ?_ h1 h2
  generalize ev st.T y = v at *
  generalize hu : a.eval x = u at *
  cases h1 <;> first | (simp [ptrQ] at hp; done) | simp [execOp, ho, hu]

theorem ok_un {op : UnOp} {t : TypeId} {x : Operand} {y : Opd} (ho : o.op = .unOp op t x) (h : opdL idm x y = true) {c c' : PV} (hv : ev st.T y = .p c) (hu : unP op c = some c') : OpOK P idm m w W st.H o a { v := .p c' } := by
  obtain ⟨h1, _⟩ := opdL_rep h s
  rw [hv] at h1
  cases h1 with
  | p _ v h1 =>
    generalize he : a.eval x = u at *
    cases h1 <;> simp only [unP] at hu <;> first | contradiction | (cases op <;> simp only [Option.some.injEq] at hu <;> first | contradiction | (subst hu; refine OpOK.pure s (v := _) ?_ (.p _ _ (by constructor)) (by simp [AV.names]); simp [execOp, ho, he, Op.unary, Op.intArith]))

theorem ok_conv {sT dT : TypeId} {k k0 : IntKind} {x : Operand} {y : Opd} (ho : o.op = .convert sT dT x) (hs : P.underlying sT = some (.int k0)) (hd : P.underlying dT = some (.int k)) (h : opdL idm x y = true) {k1 : IntKind} {n : Int}
    (hv : ev st.T y = .p (.int k1 n)) : OpOK P idm m w W st.H o a { v := .p (.int k (k.wrap n)) } := by
  obtain ⟨h1, _⟩ := opdL_rep h s
  rw [hv] at h1
  have he : a.eval x = .int k1 n := h1.int_inv
  exact OpOK.pure s (by simp [execOp, ho, he, convert, run_underlying hs, run_underlying hd, Conv.intToInt]) (.p _ _ (.int ..)) (by simp [AV.names])

theorem ok_mkfn {f g : FuncId} {fa fb : Array Operand} {xa xb : List Opd} (ho : o.op = .makeFunc (.func f) fa fb) (hf : idm g = f) (ha : opdsL idm fa.toList xa = true) (hb : opdsL idm fb.toList xb = true) :
    OpOK P idm m w W st.H o a { v := .fn g (evL st.T xa) (evL st.T xb) } := by
  obtain ⟨a1, a2, a3⟩ := opdsL_rep s ha
  obtain ⟨b1, b2, b3⟩ := opdsL_rep s hb
  refine OpOK.pure s (v := .func (.func f) (fa.map a.eval) (fb.map a.eval)) (by simp [execOp, ho, Instr.makeFunc]) ?_ ?_
  · subst hf
    exact .fn g _ _ _ _ (by simpa using a1) (by simpa using b1) (fun i c v hc hv => a2 i c v hc (by simpa using hv)) (fun i c v hc hv => b2 i c v hc (by simpa using hv))
  · intro n hn
    simp only [AV.names, List.mem_append] at hn
    rcases hn with hn | hn
    · exact a3 n hn
    · exact b3 n hn

theorem ok_mx {x y : Operand} {x' y' : Opd} {tys : Array TypeId} {args : Array Operand} (hargs : args.toList = [x, y]) (ho : o.op = .call { callee := .builtin .max, args := args, argTypes := tys }) (hx : opdL idm x x' = true) (hy : opdL idm y y' = true) {k k' : IntKind} {p q : Int}
    (h1 : ev st.T x' = .p (.int k p)) (h2 : ev st.T y' = .p (.int k' q)) : OpOK P idm m w W st.H o a { v := .p (.int k (if p < q then q else p)) } := by
  obtain ⟨g1, _⟩ := opdL_rep hx s
  obtain ⟨g2, _⟩ := opdL_rep hy s
  rw [h1] at g1; rw [h2] at g2
  have e1 : a.eval x = .int k p := g1.int_inv
  have e2 : a.eval y = .int k' q := g2.int_inv
  obtain rfl : args = #[x, y] := by rw [← hargs]
  exact OpOK.pure s (by simp [execOp, ho, resolve, invoke, builtin, Builtin.max_, e1, e2, Builtin.max2, List.foldlM]) (.p _ _ (.int ..)) (by simp [AV.names])

theorem ok_mn {x y : Operand} {x' y' : Opd} {tys : Array TypeId} {args : Array Operand} (hargs : args.toList = [x, y]) (ho : o.op = .call { callee := .builtin .min, args := args, argTypes := tys }) (hx : opdL idm x x' = true) (hy : opdL idm y y' = true) {k k' : IntKind} {p q : Int}
    (h1 : ev st.T x' = .p (.int k p)) (h2 : ev st.T y' = .p (.int k' q)) : OpOK P idm m w W st.H o a { v := .p (.int k (if q < p then q else p)) } := by
  obtain ⟨g1, _⟩ := opdL_rep hx s
  obtain ⟨g2, _⟩ := opdL_rep hy s
  rw [h1] at g1; rw [h2] at g2
  have e1 : a.eval x = .int k p := g1.int_inv
  have e2 : a.eval y = .int k' q := g2.int_inv
  obtain rfl : args = #[x, y] := by rw [← hargs]
  exact OpOK.pure s (by simp [execOp, ho, resolve, invoke, builtin, Builtin.min_, e1, e2, Builtin.min2, List.foldlM]) (.p _ _ (.int ..)) (by simp [AV.names])

theorem ok_len {x : Operand} {y : Opd} {args : Array Operand} {tys : Array TypeId} {t : TypeId} (hargs : args.toList = [x]) (htys : tys.toList = [t]) (ho : o.op = .call { callee := .builtin .len, args := args, argTypes := tys })
    (ht : P.underlying t = some .string ∨ ∃ e, P.underlying t = some (.slice e)) (h : opdL idm x y = true) {n : Int}
    (hn : (match ev st.T y with | .p (.sl _ es) => some (es.length : Int) | .p (.str s) => some (s.size : Int) | .nils _ => some 0 | .hsl _ _ n => some (n : Int) | _ => none) = some n)
    (hk : (match ev st.T y with | .p (.str _) => P.underlying t = some .string | _ => ∃ e, P.underlying t = some (.slice e))) :
    OpOK P idm m w W st.H o a { v := .p (.int .i64 n) } := by
  obtain ⟨h1, _⟩ := opdL_rep h s
  obtain rfl : args = #[x] := by rw [← hargs]
  obtain rfl : tys = #[t] := by rw [← htys]
  generalize ev st.T y = v at *
  generalize hu : a.eval x = u at *
  refine OpOK.pure s (v := .int .i64 n) ?_ (.p _ _ (.int ..)) (by simp [AV.names])
  cases h1 with
  | p c v h1 => cases h1 with
    | str b => simp at hn; subst hn; simp [execOp, ho, resolve, invoke, builtin, Builtin.len_, hu, run_underlying hk, goInt]
    | sl z es aa nn cap ad f hnn hcap hz ha hc h =>
      simp at hn; subst hn; obtain ⟨e, he⟩ := hk
      simp [execOp, ho, resolve, invoke, builtin, Builtin.len_, hu, run_underlying he, goInt, hnn]
    | _ => simp at hn
  | nils z aa => simp at hn; subst hn; obtain ⟨e, he⟩ := hk; simp [execOp, ho, resolve, invoke, builtin, Builtin.len_, hu, run_underlying he, goInt]
  | hsl xx off len aa c hh hcc => simp at hn; subst hn; obtain ⟨e, he⟩ := hk; simp [execOp, ho, resolve, invoke, builtin, Builtin.len_, hu, run_underlying he, goInt]
  | _ => simp at hn
end
end Go.Ab

/-! Operators. -/
namespace Go.Ab
open Go

theorem run_equalIn_bool {P : Program} {t : TypeId} (hu : P.underlying t = some .bool) (d : Nat) (p q : Bool) (w : World) : (Op.equalIn (d + 1) t (.bool p) (.bool q)).run P w = .ok (p == q) w := by
  simp [Op.equalIn, run_underlying hu]

theorem run_equalIn_slice {P : Program} {t e : TypeId} (hu : P.underlying t = some (.slice e)) (d : Nat) (ad : Option Addr) (n c : Nat) (w : World) : (Op.equalIn (d + 1) t (.slice ad n c) (.slice none 0 0)).run P w = .ok ad.isNone w := by
  cases ad <;> simp [Op.equalIn, run_underlying hu]

section
variable {P : Program} {idm : FuncId → FuncId} {N : Nat} {m : NMap} {w : World} {W : Nat → Prop} {st : St} {a : Act} {o : Oper} (s : Sim idm N m w W st a)
include s

set_option maxHeartbeats 1000000 in
theorem ok_bin {op : BinOp} {t t2 : TypeId} {x y : Operand} {x' y' : Opd} (ho : o.op = .binOp op t x y t2)
    (ht : (match P.underlying t with | some (.int _) => true | some .string => true | some .bool => true | _ => false) = true)
    (hx : opdL idm x x' = true) (hy : opdL idm y y' = true) {c1 c2 c : PV} (h1 : ev st.T x' = .p c1) (h2 : ev st.T y' = .p c2) (hb : binP op c1 c2 = some c) : OpOK P idm m w W st.H o a { v := .p c } := by
  obtain ⟨g1, _⟩ := opdL_rep hx s
  obtain ⟨g2, _⟩ := opdL_rep hy s
  rw [h1] at g1; rw [h2] at g2
  have key : ∀ v, (eqGuard op t x y (a.eval x) (a.eval y)).run P w = .ok () w → (binOp op t (a.eval x) (a.eval y)).run P w = .ok v w → (execOp a.eval o).run P w = .ok (.value v) w := by
    intro v e1 e2
    simp [execOp, ho, e1, e2]
  cases c1 with
  | int k p =>
    have e1 := g1.int_inv
    cases c2 with
    | int k' q =>
      have e2 := g2.int_inv
      rw [e1, e2] at key
      simp only [binP] at hb
      have hg : (eqGuard op t x y (.int k p) (.int k' q)).run P w = .ok () w := by cases op <;> simp [eqGuard]
      have q1 : (p == q) = decide (p = q) := by rw [Bool.eq_iff_iff]; simp
      have q2 : (p != q) = decide (p ≠ q) := by rw [Bool.eq_iff_iff]; simp
      cases op <;> simp only [Option.ite_none_right_eq_some, Option.ite_none_left_eq_some, Option.some.injEq] at hb <;> obtain ⟨hc, rfl⟩ := hb
      case shl => exact OpOK.pure s (v := .int k (k.wrap (p * 2 ^ min q.toNat k.bits))) (key _ hg (by simp [binOp, Op.shift, hc])) (.p _ _ (.int ..)) (by simp [AV.names])
      case shr => exact OpOK.pure s (v := .int k (p.fdiv (2 ^ min q.toNat k.bits))) (key _ hg (by simp [binOp, Op.shift, hc])) (.p _ _ (.int ..)) (by simp [AV.names])
      case quo =>
        obtain ⟨rfl, hne⟩ := hc
        exact OpOK.pure s (v := .int k (k.wrap (p.tdiv q))) (key _ hg (by simp [binOp, Op.intDiv, hne])) (.p _ _ (.int ..)) (by simp [AV.names])
      case rem =>
        obtain ⟨rfl, hne⟩ := hc
        exact OpOK.pure s (v := .int k (p.tmod q)) (key _ hg (by simp [binOp, Op.intDiv, hne])) (.p _ _ (.int ..)) (by simp [AV.names])
      case add => subst hc; exact OpOK.pure s (v := .int k (k.wrap (p + q))) (key _ hg (by simp [binOp, Op.intArith])) (.p _ _ (.int ..)) (by simp [AV.names])
      case sub => subst hc; exact OpOK.pure s (v := .int k (k.wrap (p - q))) (key _ hg (by simp [binOp, Op.intArith])) (.p _ _ (.int ..)) (by simp [AV.names])
      case mul => subst hc; exact OpOK.pure s (v := .int k (k.wrap (p * q))) (key _ hg (by simp [binOp, Op.intArith])) (.p _ _ (.int ..)) (by simp [AV.names])
      case eql => subst hc; exact OpOK.pure s (v := .bool (decide (p = q))) (key _ hg (by simp [binOp, Op.intCmp, q1])) (.p _ _ (.bool _)) (by simp [AV.names])
      case neq => subst hc; exact OpOK.pure s (v := .bool (decide (p ≠ q))) (key _ hg (by simp only [binOp, Op.intCmp, q2, ne_eq, not_true_eq_false, if_false]; rfl)) (.p _ _ (.bool _)) (by simp [AV.names])
      case lss => subst hc; exact OpOK.pure s (v := .bool (decide (p < q))) (key _ hg (by simp [binOp, Op.intCmp])) (.p _ _ (.bool _)) (by simp [AV.names])
      case leq => subst hc; exact OpOK.pure s (v := .bool (decide (p ≤ q))) (key _ hg (by simp [binOp, Op.intCmp])) (.p _ _ (.bool _)) (by simp [AV.names])
      case gtr => subst hc; exact OpOK.pure s (v := .bool (decide (q < p))) (key _ hg (by simp [binOp, Op.intCmp])) (.p _ _ (.bool _)) (by simp [AV.names])
      case geq => subst hc; exact OpOK.pure s (v := .bool (decide (q ≤ p))) (key _ hg (by simp [binOp, Op.intCmp])) (.p _ _ (.bool _)) (by simp [AV.names])
      all_goals (subst hc; refine OpOK.pure s (key _ hg ?_) (.p _ _ (.int ..)) (by simp [AV.names]); simp [binOp, Op.intBits, andI, orI, xorI, andNotI])
    | _ => simp [binP] at hb
  | str p =>
    have e1 := g1.str_inv
    cases c2 with
    | str q =>
      have e2 := g2.str_inv
      rw [e1, e2] at key
      have hq : (p.toList == q.toList) = decide (p = q) := by
        rw [Bool.eq_iff_iff]
        simp only [beq_iff_eq, decide_eq_true_eq]
        rw [ByteArray.toList_eq, ByteArray.toList_eq]
        exact ⟨fun h => ByteArray.ext (Array.toList_inj.1 h), fun h => by rw [h]⟩
      simp only [binP] at hb
      have hg : (eqGuard op t x y (.string p) (.string q)).run P w = .ok () w := by cases op <;> simp [eqGuard]
      cases op <;> simp only [Option.some.injEq, reduceCtorEq] at hb <;> subst hb <;>
        (refine OpOK.pure s (key _ hg ?_) (.p _ _ (.bool _)) (by simp [AV.names]); simp [binOp, Op.stringOp, hq])
    | _ => simp [binP] at hb
  | _ => simp [binP] at hb

theorem ok_bbin {op : BinOp} {t t2 : TypeId} {x y : Operand} {x' y' : Opd} {neq : Bool} (ho : o.op = .binOp op t x y t2) (hop : (op = .eql ∧ neq = false) ∨ (op = .neq ∧ neq = true)) (hu : P.underlying t = some .bool)
    (hx : opdL idm x x' = true) (hy : opdL idm y y' = true) {p q : Bool} (h1 : ev st.T x' = .p (.bool p)) (h2 : ev st.T y' = .p (.bool q)) : OpOK P idm m w W st.H o a { v := .p (.bool (if neq then !(p == q) else p == q)) } := by
  obtain ⟨g1, _⟩ := opdL_rep hx s
  obtain ⟨g2, _⟩ := opdL_rep hy s
  rw [h1] at g1; rw [h2] at g2
  have key : ∀ v, (eqGuard op t x y (a.eval x) (a.eval y)).run P w = .ok () w → (binOp op t (a.eval x) (a.eval y)).run P w = .ok v w → (execOp a.eval o).run P w = .ok (.value v) w := by
    intro v e1 e2
    simp [execOp, ho, e1, e2]
  rw [g1.bool_inv, g2.bool_inv] at key
  have hg : (eqGuard op t x y (.bool p) (.bool q)).run P w = .ok () w := by cases op <;> simp [eqGuard]
  rcases hop with ⟨rfl, rfl⟩ | ⟨rfl, rfl⟩ <;>
    (refine OpOK.pure s (key _ hg ?_) (.p _ _ (.bool _)) (by simp [AV.names]); simp [binOp, Op.equal, Op.maxDepth, run_equalIn_bool hu 9999])

theorem ok_isnil {t t2 e : TypeId} {x : Operand} {x' : Opd} (ho : o.op = .binOp .eql t x (.const (.slice none 0 0)) t2) (hu : P.underlying t = some (.slice e)) (hx : opdL idm x x' = true) {d : Dl}
    (h1 : (match ev st.T x' with
    | .p (.sl _ (_ :: _)) => some { v := .p (.bool false) }
    | .p (.sl _ []) => some { v := .ub }
    | .nils _ => some { v := .ub }
    | _ => none) = some d) : OpOK P idm m w W st.H o a d := by
  obtain ⟨g1, _⟩ := opdL_rep hx s
  have key : ∀ (ad : Option Addr) (n c : Nat), a.eval x = .slice ad n c → (execOp a.eval o).run P w = .ok (.value (.bool ad.isNone)) w := by
    intro ad n c hv
    have hy : a.eval (.const (.slice none 0 0)) = .slice none 0 0 := rfl
    have e1 : (eqGuard .eql t x (.const (.slice none 0 0)) (.slice ad n c) (.slice none 0 0)).run P w = .ok () w := by simp [eqGuard]
    have e2 : (binOp .eql t (.slice ad n c) (.slice none 0 0)).run P w = .ok (.bool ad.isNone) w := by
      simp [binOp, Op.equal, Op.maxDepth, run_equalIn_slice hu 9999]
    simp [execOp, ho, hv, hy, e1, e2]
  split at h1
  · rename_i z e0 es hv
    simp only [Option.some.injEq] at h1; subst h1
    rw [hv] at g1
    obtain ⟨ad, n, c, hs, hne⟩ : ∃ (ad : Addr) (n c : Nat), a.eval x = .slice (some ad) n c ∧ True := by
      generalize a.eval x = vv at g1
      cases g1 with
      | p _ _ h => cases h with
        | sl z es a n cap ad f hn hcap hz ha hc h => obtain ⟨rfl, _⟩ := ha (by simp); exact ⟨ad, n, cap, rfl, trivial⟩
    exact OpOK.pure s (v := .bool false) (key _ _ _ hs) (.p _ _ (.bool _)) (by simp [AV.names])
  · rename_i z hv
    simp only [Option.some.injEq] at h1; subst h1
    rw [hv] at g1
    obtain ⟨ad, n, c, hs⟩ : ∃ (ad : Option Addr) (n c : Nat), a.eval x = .slice ad n c := by
      generalize a.eval x = vv at g1
      cases g1 with
      | p _ _ h => cases h with
        | sl z es a n cap ad f hn hcap hz ha hc h => exact ⟨a, n, cap, rfl⟩
    exact OpOK.pure s (v := .bool ad.isNone) (key _ _ _ hs) (.ub _) (by simp [AV.names])
  · rename_i z hv
    simp only [Option.some.injEq] at h1; subst h1
    rw [hv] at g1
    obtain ⟨ad, n, c, hs⟩ : ∃ (ad : Option Addr) (n c : Nat), a.eval x = .slice ad n c := by
      generalize a.eval x = vv at g1
      cases g1 with
      | nils z a => exact ⟨a, 0, 0, rfl⟩
    exact OpOK.pure s (v := .bool ad.isNone) (key _ _ _ hs) (.ub _) (by simp [AV.names])
  · cases h1
end
end Go.Ab

/-! '==' of structs. -/
namespace Go.Ab
open Go

theorem eqCells_append (ks qs : List CK) : ∀ (cs ds : List PV) (b : Bool), eqCells (ks ++ qs) cs ds = some b →
    ∃ b1 b2, eqCells ks (cs.take ks.length) (ds.take ks.length) = some b1 ∧ eqCells qs (cs.drop ks.length) (ds.drop ks.length) = some b2 ∧ b = (b1 && b2) := by
  induction ks with
  | nil => intro cs ds b h; exact ⟨true, b, by simp [eqCells], by simpa using h, by simp⟩
  | cons k ks ih =>
    intro cs ds b h
    cases k with
    | i k => cases cs with
      | nil => simp [eqCells] at h
      | cons c cs => cases ds with
        | nil => cases c <;> simp [eqCells] at h
        | cons d ds => cases c <;> cases d <;> simp only [List.cons_append, eqCells, Option.ite_none_right_eq_some, Option.map_eq_some_iff, reduceCtorEq] at h
                       obtain ⟨hk, b', hb', rfl⟩ := h
                       obtain ⟨b1, b2, h1, h2, rfl⟩ := ih cs ds b' hb'
                       exact ⟨_, b2, by simp only [List.length_cons, List.take_succ_cons, eqCells, hk, and_self, if_true, h1]; rfl, by simpa using h2, by rw [Bool.and_assoc]⟩
    | s => cases cs with
      | nil => simp [eqCells] at h
      | cons c cs => cases ds with
        | nil => cases c <;> simp [eqCells] at h
        | cons d ds => cases c <;> cases d <;> simp only [List.cons_append, eqCells, Option.map_eq_some_iff, reduceCtorEq] at h
                       obtain ⟨b', hb', rfl⟩ := h
                       obtain ⟨b1, b2, h1, h2, rfl⟩ := ih cs ds b' hb'
                       exact ⟨_, b2, by simp only [List.length_cons, List.take_succ_cons, eqCells, h1]; rfl, by simpa using h2, by rw [Bool.and_assoc]⟩
    | b => cases cs with
      | nil => simp [eqCells] at h
      | cons c cs => cases ds with
        | nil => cases c <;> simp [eqCells] at h
        | cons d ds => cases c <;> cases d <;> simp only [List.cons_append, eqCells, Option.map_eq_some_iff, reduceCtorEq] at h
                       obtain ⟨b', hb', rfl⟩ := h
                       obtain ⟨b1, b2, h1, h2, rfl⟩ := ih cs ds b' hb'
                       exact ⟨_, b2, by simp only [List.length_cons, List.take_succ_cons, eqCells, h1]; rfl, by simpa using h2, by rw [Bool.and_assoc]⟩

section
variable {P : Program} (w : World) (W : Nat → Prop)

def Cells2 (cs : List PV) (xs : List Value) : Prop := xs.length = cs.length ∧ ∀ (i : Nat) (c : PV) (v : Value), cs[i]? = some c → xs[i]? = some v → PRep w W c v
theorem Cells2.drop {cs : List PV} {xs : List Value} (h : Cells2 w W cs xs) (n : Nat) : Cells2 w W (cs.drop n) (xs.drop n) :=
  ⟨by simp [h.1], fun i c v hc hv => h.2 (n + i) c v (by simpa using hc) (by simpa using hv)⟩
theorem Cells2.take {cs : List PV} {xs : List Value} (h : Cells2 w W cs xs) (n : Nat) : Cells2 w W (cs.take n) (xs.take n) :=
  ⟨by simp [h.1], fun i c v hc hv => by
    rw [List.getElem?_take] at hc hv
    split at hc
    · rename_i hlt; rw [if_pos hlt] at hv; exact h.2 i c v hc hv
    · cases hc⟩

/-- A value of a type out of its cells. -/
def mkV (P : Program) (t : TypeId) (xs : List Value) : Value := if aggT P t = some true then .agg xs.toArray else xs.headD undef

theorem eqCells_len : ∀ {ks : List CK} {cs ds : List PV} {b : Bool}, eqCells ks cs ds = some b → cs.length = ks.length ∧ ds.length = ks.length
  | [], [], [], _, _ => ⟨rfl, rfl⟩
  | .i k :: ks, .int k1 a :: x, .int k2 b :: y, _, h => by
    simp only [eqCells, Option.ite_none_right_eq_some, Option.map_eq_some_iff] at h
    obtain ⟨_, b', hb', _⟩ := h
    have := eqCells_len hb'
    simp [this]
  | .s :: ks, .str a :: x, .str b :: y, _, h => by
    simp only [eqCells, Option.map_eq_some_iff] at h
    obtain ⟨b', hb', _⟩ := h
    have := eqCells_len hb'
    simp [this]
  | .b :: ks, .bool a :: x, .bool b :: y, _, h => by
    simp only [eqCells, Option.map_eq_some_iff] at h
    obtain ⟨b', hb', _⟩ := h
    have := eqCells_len hb'
    simp [this]

theorem part_mkV {t : TypeId} {XS : List Value} {o n : Nat} (hs : szOK P t n = true) (hl : o + n ≤ XS.length) :
    (part t XS.toArray o).run P w = .ok (mkV P t ((XS.drop o).take n)) w := by
  unfold szOK at hs
  cases hA : aggT P t with
  | none => simp [hA] at hs
  | some q =>
    rw [hA] at hs
    unfold part mkV
    rw [hA]
    simp only [Sem.run_bind, run_isAgg hA, Result.andThen_ok]
    cases q with
    | true =>
      have hs := eq_of_beq hs
      simp only [if_true, Sem.run_bind, run_sizeT hs, Result.andThen_ok, Sem.run_pure]
      congr 2
      simp [List.extract_eq_take_drop]
    | false =>
      have hs := eq_of_beq hs
      subst hs
      have hlt : o < XS.length := by omega
      have e1 : (XS.toArray[o]? : Option Value) = some XS[o] := by simp [List.getElem?_eq_getElem hlt]
      have e2 : ((XS.drop o).take 1).headD undef = XS[o] := by rw [List.drop_eq_getElem_cons hlt]; rfl
      simp only [Bool.false_eq_true, if_false, e1, e2, Sem.run_pure, Option.some.injEq]

theorem run_eqFields (g : TypeId → Option (List CK)) (d : Nat)
    (hg : ∀ t ks, g t = some ks → ∀ (xs ys : List Value) (cs ds : List PV) (b : Bool), Cells2 w W cs xs → Cells2 w W ds ys → eqCells ks cs ds = some b → (Op.equalIn d t (mkV P t xs) (mkV P t ys)).run P w = .ok b w) :
    ∀ (fs : List Field) (o : Nat) (ks : List CK) (XS YS : List Value) (cs ds : List PV) (b : Bool), eqFK P g o fs = some ks → Cells2 w W cs (XS.drop o) → Cells2 w W ds (YS.drop o) → eqCells ks cs ds = some b →
      (Op.eqFields d XS.toArray YS.toArray fs).run P w = .ok b w
  | [], o, ks, XS, YS, cs, ds, b, hk, hx, hy, he => by
    simp only [eqFK, Option.some.injEq] at hk
    subst hk
    cases cs <;> cases ds <;> simp [eqCells] at he
    subst he
    simp [Op.eqFields]
  | f :: r, o, ks, XS, YS, cs, ds, b, hk, hx, hy, he => by
    simp only [eqFK] at hk
    split at hk
    · cases hk
    · rename_i hno
      simp only [Bool.or_eq_true, not_or, Bool.not_eq_true, bne_eq_false_iff_eq] at hno
      cases hgf : g f.type with
      | none => simp [hgf] at hk
      | some k1 =>
        simp only [hgf] at hk
        split at hk
        · rename_i hsz
          cases hr : eqFK P g (o + k1.length) r with
          | none => simp [hr] at hk
          | some qs =>
            simp only [hr, Option.some.injEq] at hk
            subst hk
            obtain ⟨b1, b2, h1, h2, rfl⟩ := eqCells_append k1 qs cs ds b he
            obtain ⟨l1, l2⟩ := eqCells_len he
            have hnm : f.name ≠ "_" := by have := hno.1; simpa using this
            have hoff : f.offset = o := hno.2
            simp only [List.length_append] at l1 l2
            have lx : o + k1.length ≤ XS.length ∨ k1.length = 0 := by have := hx.1; simp at this; omega
            have ly : o + k1.length ≤ YS.length ∨ k1.length = 0 := by have := hy.1; simp at this; omega
            have hk0 : k1.length ≠ 0 := by
              intro h0
              rw [List.length_eq_zero_iff] at h0
              subst h0
              simp at hsz
            have hsz := (Bool.and_eq_true_iff.1 hsz).2
            have px := part_mkV (P := P) w (t := f.type) (XS := XS) (o := o) (n := k1.length) hsz (by omega)
            have py := part_mkV (P := P) w (t := f.type) (XS := YS) (o := o) (n := k1.length) hsz (by omega)
            have e1 := hg f.type k1 hgf _ _ _ _ b1 (hx.take w W k1.length) (hy.take w W k1.length) h1
            have e2 := run_eqFields g d hg r (o + k1.length) qs XS YS (cs.drop k1.length) (ds.drop k1.length) b2 hr (by have := hx.drop w W k1.length; rwa [List.drop_drop] at this) (by have := hy.drop w W k1.length; rwa [List.drop_drop] at this) h2
            rw [Op.eqFields]
            simp only [if_pos hnm, Sem.run_bind, hoff, px, py, e1, Result.andThen_ok]
            cases b1 with
            | true => simpa using e2
            | false => simp
        · cases hk
theorem run_eqK : ∀ (d : Nat) (t : TypeId) (ks : List CK), eqK P d t = some ks → ∀ (k : Nat), d ≤ k → ∀ (xs ys : List Value) (cs ds : List PV) (b : Bool), Cells2 w W cs xs → Cells2 w W ds ys → eqCells ks cs ds = some b →
    (Op.equalIn k t (mkV P t xs) (mkV P t ys)).run P w = .ok b w
  | 0, t, ks, h, k, _, xs, ys, cs, ds, b, hx, hy, he => by simp [eqK] at h
  | d + 1, t, ks, h, k, hk, xs, ys, cs, ds, b, hx, hy, he => by
    obtain ⟨k, rfl⟩ : ∃ j, k = j + 1 := ⟨k - 1, by omega⟩
    simp only [eqK] at h
    have one : ∀ {c d' : PV}, cs = [c] → ds = [d'] → ∃ x y, xs = [x] ∧ ys = [y] ∧ PRep w W c x ∧ PRep w W d' y := by
      rintro c d' rfl rfl
      have l1 := hx.1; have l2 := hy.1
      match xs, ys, l1, l2 with
      | [x], [y], _, _ => exact ⟨x, y, rfl, rfl, hx.2 0 c x rfl rfl, hy.2 0 d' y rfl rfl⟩
    split at h
    · rename_i kk hu
      simp only [Option.some.injEq] at h
      subst h
      have hA : aggT P t = some false := by simp [aggT, hu, aggD]
      obtain ⟨l1, l2⟩ := eqCells_len he
      match cs, ds, l1, l2 with
      | [c], [d'], _, _ =>
        obtain ⟨x, y, rfl, rfl, hpx, hpy⟩ := one rfl rfl
        cases c <;> cases d' <;> simp only [eqCells, reduceCtorEq, Option.ite_none_right_eq_some] at he
        obtain ⟨⟨rfl, rfl⟩, he⟩ := he
        cases hpx; cases hpy
        simp at he
        subst he
        simp only [mkV, hA]
        simp [run_equalIn_int (P := P) w k t _ _ _ _ hu]
        rw [Bool.eq_iff_iff]; simp
    · rename_i hu
      simp only [Option.some.injEq] at h
      subst h
      have hA : aggT P t = some false := by simp [aggT, hu, aggD]
      obtain ⟨l1, l2⟩ := eqCells_len he
      match cs, ds, l1, l2 with
      | [c], [d'], _, _ =>
        obtain ⟨x, y, rfl, rfl, hpx, hpy⟩ := one rfl rfl
        cases c <;> cases d' <;> simp only [eqCells, reduceCtorEq, Option.ite_none_right_eq_some] at he
        cases hpx; cases hpy
        simp at he
        subst he
        simp only [mkV, hA]
        simp [Go.Ab.run_equalIn_bool hu]
    · rename_i hu
      simp only [Option.some.injEq] at h
      subst h
      have hA : aggT P t = some false := by simp [aggT, hu, aggD]
      obtain ⟨l1, l2⟩ := eqCells_len he
      match cs, ds, l1, l2 with
      | [c], [d'], _, _ =>
        obtain ⟨x, y, rfl, rfl, hpx, hpy⟩ := one rfl rfl
        cases c <;> cases d' <;> simp only [eqCells, reduceCtorEq, Option.ite_none_right_eq_some] at he
        cases hpx; cases hpy
        simp at he
        subst he
        simp only [mkV, hA]
        simp [run_equalIn_string (P := P) w k t _ _ hu]
        rename_i a b
        rw [ByteArray.toList_eq, ByteArray.toList_eq, Bool.eq_iff_iff]
        simp only [beq_iff_eq, decide_eq_true_eq]
        exact ⟨fun h => ByteArray.ext (Array.toList_inj.1 h), fun h => by rw [h]⟩
    · rename_i fs hu
      split at h
      · cases h
      · rename_i hp
        have hA : aggT P t = some true := by simp [aggT, hu, aggD]
        have hf : P.fieldsOf t = fs := by simp [Program.fieldsOf, hu]
        have hr := run_eqFields (P := P) w W (eqK P d) k (fun t ks ht xs ys cs ds b h1 h2 h3 => run_eqK d t ks ht k (by omega) xs ys cs ds b h1 h2 h3) fs.toList 0 ks xs ys cs ds b h (by simpa using hx) (by simpa using hy) he
        simp only [mkV, hA, if_true]
        rw [run_equalIn_struct (P := P) w k t _ _ (by rw [hf]; exact hu) (by simpa using hp), hf]
        exact hr
    · cases h
end

section
variable {P : Program} {idm : FuncId → FuncId} {N : Nat} {m : NMap} {w : World} {W : Nat → Prop} {st : St} {a : Act} {o : Oper} (s : Sim idm N m w W st a)
include s

theorem ok_eqs {op : BinOp} {t t2 : TypeId} {x y : Operand} {x' y' : Opd} {neq : Bool} {ks : List CK} (ho : o.op = .binOp op t x y t2) (hop : (op = .eql ∧ neq = false) ∨ (op = .neq ∧ neq = true))
    (hk : eqK P 20 t = some ks) (hg : P.eqGuardType P.depth t = false) (hs : ∃ fs, P.underlying t = some (.struct fs)) (hx : opdL idm x x' = true) (hy : opdL idm y y' = true)
    {cs ds : List PV} (h1 : ev st.T x' = .p (.agg cs)) (h2 : ev st.T y' = .p (.agg ds)) {b : Bool} (hb : eqCells ks cs ds = some b) : OpOK P idm m w W st.H o a { v := .p (.bool (if neq then !b else b)) } := by
  obtain ⟨g1, _⟩ := opdL_rep hx s
  obtain ⟨g2, _⟩ := opdL_rep hy s
  rw [h1] at g1; rw [h2] at g2
  obtain ⟨fs, hu⟩ := hs
  have hA : aggT P t = some true := by simp [aggT, hu, aggD]
  cases g1 with
  | p _ v1 p1 => cases g2 with
    | p _ v2 p2 =>
      generalize e1 : a.eval x = u1 at *
      generalize e2 : a.eval y = u2 at *
      cases p1 with
      | agg _ vs l1 f1 r1 => cases p2 with
        | agg _ us l2 f2 r2 =>
          have hr := run_eqK (P := P) w W 20 t ks hk 10000 (by omega) vs.toList us.toList cs ds b ⟨by simpa using l1, fun i c v hc hv => r1 i c v hc (by simpa using hv)⟩ ⟨by simpa using l2, fun i c v hc hv => r2 i c v hc (by simpa using hv)⟩ hb
          simp only [mkV, hA, if_true, Array.toArray_toList] at hr
          have hgd := run_eqGuard_agg (P := P) w op t x y vs us hg
          rcases hop with ⟨rfl, rfl⟩ | ⟨rfl, rfl⟩
          · refine OpOK.pure s (v := .bool b) ?_ (.p _ _ (.bool _)) (by simp [AV.names])
            simp [execOp, ho, e1, e2, hgd, run_eql_struct, hr]
          · refine OpOK.pure s (v := .bool (!b)) ?_ (.p _ _ (.bool _)) (by simp [AV.names])
            simp [execOp, ho, e1, e2, hgd, run_neq_struct, hr]
end
end Go.Ab
