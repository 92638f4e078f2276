/- A part of the proof: an executor over plain data, shown sound for the model, and what it computes of the functions. -/
import Derived.Test.YtmnjnpgmenigiaaOpStore
import Derived.Laws.OwnMore
set_option linter.all false
/-! Appending; slice literals; make. -/
set_option linter.unusedVariables false
set_option linter.unusedSimpArgs false
set_option linter.unusedSectionVars false
namespace Go.Ab
open Go

section
variable {P : Program} (w : World)

theorem run_firstCells_gen (size n : Nat) (a : Option Addr) (len cap : Nat) (cs : List Value) (hl : cs.length = n * size) (h : cs ≠ [] → ∃ b, a = some b ∧ ∀ j v, cs[j]? = some v → w.cell? (b.add j) = some v) :
    (Builtin.firstCells size n (.slice a len cap)).run P w = .ok cs.toArray w := by
  cases cs with
  | nil =>
    cases a with
    | none => simp [Builtin.firstCells]
    | some b => exact run_firstCells_some w size n b len cap [] hl fun j v h => by simp at h
  | cons c cs =>
    obtain ⟨b, rfl, hb⟩ := h (by simp)
    exact run_firstCells_some w size n b len cap _ hl hb

theorem run_append_grown (t u ty e e' : TypeId) (i : TypeInfo) (z : Value) (ht : P.underlying t = some (.slice e)) (hu : P.underlying u = some (.slice e')) (hi : P.info? e = some i) (hz : i.zero = some z)
    (b : Option Addr) (sLen sCap : Nat) (olds : List Value) (hlo : olds.length = sLen * i.size) (holds : olds ≠ [] → ∃ a, b = some a ∧ ∀ j v, olds[j]? = some v → w.cell? (a.add j) = some v)
    (a : Option Addr) (n c : Nat) (news : List Value) (hl : news.length = n * i.size) (hnews : news ≠ [] → ∃ b, a = some b ∧ ∀ j v, news[j]? = some v → w.cell? (b.add j) = some v)
    (hg : sCap < sLen + n) (h63 : ((sLen + n : Nat) : Int) ≤ 9223372036854775807) (hfit : Builtin.nextslicecap (sLen + n) sCap * i.bytes ≤ 281474976710656) :
    (Builtin.append_ #[t, u] ty #[.slice b sLen sCap, .slice a n c]).run P w =
      .ok (.slice (some ⟨w.heap.size, 0, none⟩) (sLen + n) (grownCap w (sLen + n) sCap e))
        (w.drew.alloc (.cells (olds.toArray ++ news.toArray ++ Builtin.zeroCells z.cells (grownCap w (sLen + n) sCap e - (sLen + n))) e)) := by
  have hn : ¬ (sLen + n ≤ sCap) := by omega
  have h63' : ¬ (9223372036854775807 < ((sLen : Int) + (n : Int))) := by omega
  have h48' : ¬ (281474976710656 < Builtin.nextslicecap (sLen + n) sCap * i.bytes) := by omega
  have hf := run_firstCells_gen (P := P) w.drew i.size n a n c news hl (by simpa using hnews)
  have hfo := run_firstCells_gen (P := P) w.drew i.size sLen b sLen sCap olds hlo (by simpa using holds)
  simp [Builtin.append_, run_underlying ht, run_underlying hu, sizeOf, typeInfo, zeroValue, hi, hz, Builtin.lenOf, hn, h63', h48', Question.forced, hf, hfo, newRow, grownCap]
  congr 2
  apply Array.ext'
  simp [List.append_assoc]

theorem run_append_kept (t u ty e e' : TypeId) (i : TypeInfo) (ht : P.underlying t = some (.slice e)) (hu : P.underlying u = some (.slice e')) (hi : P.info? e = some i)
    (b : Option Addr) (a : Option Addr) (c : Nat) : (Builtin.append_ #[t, u] ty #[.slice b 0 0, .slice a 0 c]).run P w = .ok (.slice b 0 0) w := by
  have hf := run_firstCells_gen (P := P) w i.size 0 a 0 c [] (by simp) (by simp)
  cases b <;> simp [Builtin.append_, run_underlying ht, run_underlying hu, sizeOf, typeInfo, hi, Builtin.lenOf, hf, storeCells]

theorem run_append_roomy (t u ty e e' e0 : TypeId) (i : TypeInfo) (ht : P.underlying t = some (.slice e)) (hu : P.underlying u = some (.slice e')) (hi : P.info? e = some i)
    (g sLen sCap : Nat) (cur : Array Value) (hg : w.heap[g]? = some (.cells cur e0 (0, 0)))
    (a : Option Addr) (m c : Nat) (news : List Value) (hl : news.length = m * i.size) (hnews : news ≠ [] → ∃ b, a = some b ∧ ∀ j v, news[j]? = some v → w.cell? (b.add j) = some v) (h1 : ∀ u ∈ news, u.oneCell' = true)
    (hroom : sLen + m ≤ sCap) (hfit : sLen * i.size + news.length ≤ cur.size) :
    (Builtin.append_ #[t, u] ty #[.slice (some ⟨g, 0, none⟩) sLen sCap, .slice a m c]).run P w =
      .ok (.slice (some ⟨g, 0, none⟩) (sLen + m) sCap) (w.setRow g (cur.toList.take (sLen * i.size) ++ news ++ cur.toList.drop (sLen * i.size + news.length)).toArray) := by
  have hf := run_firstCells_gen (P := P) w i.size m a m c news hl hnews
  have hst := run_storeCells_at P g (sLen * i.size) e0 news 0 cur w hg (by simpa using hfit) h1
  simp only [Nat.add_zero] at hst
  simp [Builtin.append_, run_underlying ht, run_underlying hu, sizeOf, typeInfo, hi, Builtin.lenOf, hroom, hf, Addr.add_lit, hst]
end

/-- What a slice holds, cell by cell. -/
structure Cellz (w : World) (W : Nat → Prop) (z : Nat) (ys : List PV) (a : Option Addr) (news : List Value) : Prop where
  hl : news.length = ys.length * z
  hc : news ≠ [] → ∃ b, a = some b ∧ ∀ j v, news[j]? = some v → w.cell? (b.add j) = some v
  hz : ∀ e ∈ ys, e.cells.length = z ∧ ∀ c ∈ e.cells, c.flat = true
  h : ∀ (i j : Nat) (e c : PV) (u : Value), ys[i]? = some e → e.cells[j]? = some c → news[i * z + j]? = some u → PRep w W c u

theorem Cellz.nil (w : World) (W : Nat → Prop) (z : Nat) (a : Option Addr) : Cellz w W z [] a [] :=
  ⟨by simp, by simp, by simp, fun i j e c u h => by simp at h⟩

theorem idx_lt {i j n z : Nat} (hi : i < n) (hj : j < z) : i * z + j < n * z := by
  have := Nat.mul_le_mul_right z (show i + 1 ≤ n by omega)
  rw [Nat.add_mul] at this
  omega
theorem idx_split {q n z : Nat} (h : q < n * z) : ∃ i j, i < n ∧ j < z ∧ q = i * z + j := by
  have hz : 0 < z := by
    rcases Nat.eq_zero_or_pos z with h0 | h0
    · subst h0; simp at h
    · exact h0
  refine ⟨q / z, q % z, (Nat.div_lt_iff_lt_mul hz).2 h, Nat.mod_lt _ hz, ?_⟩
  rw [Nat.mul_comm]; exact (Nat.div_add_mod q z).symm

theorem Cellz.one {w : World} {W : Nat → Prop} {z : Nat} {ys : List PV} {a : Option Addr} {news : List Value} (h : Cellz w W z ys a news) : ∀ u ∈ news, u.oneCell' = true := by
  intro u hu
  obtain ⟨q, hq⟩ := List.mem_iff_getElem?.1 hu
  have hlt := (List.getElem?_eq_some_iff.1 hq).1
  rw [h.hl] at hlt
  obtain ⟨i, j, hi, hj, rfl⟩ := idx_split hlt
  have he := List.getElem?_eq_getElem hi
  obtain ⟨h1, h2⟩ := h.hz _ (List.mem_of_getElem? he)
  have hc := List.getElem?_eq_getElem (show j < (ys[i]).cells.length by omega)
  exact ((h.h i j _ _ u he hc hq).flat_one (h2 _ (List.mem_of_getElem? hc))).1

theorem PRep.cellz {w : World} {W : Nat → Prop} {z : Nat} {es : List PV} {v : Value} (h : PRep w W (.sl z es) v) : ∃ a n cap news, v = .slice a n cap ∧ es.length = n ∧ n ≤ cap ∧ Cellz w W z es a news := by
  cases h with
  | sl _ _ a n cap ad f hn hcap hz ha hc h =>
    have hget : ∀ {q : Nat} {u : Value}, ((List.range (n * z)).map fun q => f (q / z) (q % z))[q]? = some u → q < n * z ∧ u = f (q / z) (q % z) := by
      intro q u hq
      have hlt : q < n * z := by have := (List.getElem?_eq_some_iff.1 hq).1; simpa using this
      simp [List.getElem?_range, hlt] at hq
      exact ⟨hlt, hq.symm⟩
    have hij : ∀ {i j : Nat}, j < z → (i * z + j) / z = i ∧ (i * z + j) % z = j := by
      intro i j hj
      rw [Nat.mul_comm i z]
      exact ⟨by rw [Nat.mul_add_div (by omega), Nat.div_eq_of_lt hj]; simp, by rw [Nat.mul_add_mod]; exact Nat.mod_eq_of_lt hj⟩
    refine ⟨a, n, cap, (List.range (n * z)).map fun q => f (q / z) (q % z), rfl, hn, hcap, ⟨by simp [hn], fun hne => ?_, hz, fun i j e c u hi hj hu => ?_⟩⟩
    · have hes : es ≠ [] := by rintro rfl; simp at hn; subst hn; simp at hne
      obtain ⟨ha1, _⟩ := ha hes
      refine ⟨ad, ha1, fun q u hq => ?_⟩
      obtain ⟨hlt, rfl⟩ := hget hq
      obtain ⟨i, j, hi, hj, rfl⟩ := idx_split hlt
      have he := List.getElem?_eq_getElem (show i < es.length by omega)
      have hcl := (hz _ (List.mem_of_getElem? he)).1
      obtain ⟨e1, e2⟩ := hij (i := i) hj
      rw [e1, e2]
      exact hc i j _ _ he (List.getElem?_eq_getElem (show j < (es[i]).cells.length by omega))
    · obtain ⟨hlt, rfl⟩ := hget hu
      have hj' : j < z := by have := (List.getElem?_eq_some_iff.1 hj).1; have := (hz e (List.mem_of_getElem? hi)).1; omega
      obtain ⟨e1, e2⟩ := hij (i := i) hj'
      rw [e1, e2]
      exact h i j e c hi hj

theorem elems_cellz {idm : FuncId → FuncId} {m : NMap} {w : World} {W : Nat → Prop} {H : Hp} (s : SimH idm m w W H) {x : AV} {v : Value} (h : Rep idm m w W x v) {z : Nat} {ys : List PV} (he : elems H x = some (z, ys)) :
    ∃ a n cap news, v = .slice a n cap ∧ ys.length = n ∧ n ≤ cap ∧ Cellz w W z ys a news := by
  cases h with
  | p c v h =>
    cases c <;> simp [elems] at he
    obtain ⟨rfl, rfl⟩ := he
    exact h.cellz
  | nils z' a =>
    simp only [elems, Option.some.injEq, Prod.mk.injEq] at he
    obtain ⟨rfl, rfl⟩ := he
    exact ⟨a, 0, 0, [], rfl, rfl, Nat.le_refl _, Cellz.nil ..⟩
  | hsl x off len a c hh hlc =>
    simp only [elems] at he
    cases ho : hget H x with
    | none => simp [ho] at he
    | some ob =>
      rw [ho] at he
      cases ob with
      | box => simp at he
      | arr => simp at he
      | parr es0 z0 f =>
        simp only at he
        split at he
        · rename_i hle
          simp only [Option.some.injEq, Prod.mk.injEq] at he
          obtain ⟨rfl, rfl⟩ := he
          obtain ⟨q0, q1, q2⟩ := s.h x _ ho
          have hlen : ((es0.drop off).take len).length = len := by simp; omega
          rcases q2 with ⟨q2, rfl, q3⟩ | ⟨b, ca, ety, g2, g3, g4, g5, g6, g7, g8, g9, g10⟩
          · simp only [List.drop_nil, List.take_nil]
            simp only [List.drop_nil, List.take_nil, List.length_nil] at hlen
            exact ⟨a, len, c, [], rfl, hlen, hlc, Cellz.nil ..⟩
          · unfold HslOK at hh
            rw [g2] at hh
            simp only at hh
            have hmem : ∀ {e : PV}, e ∈ (es0.drop off).take len → e ∈ es0 := fun h => List.mem_of_mem_drop (List.mem_of_mem_take h)
            have hgi : ∀ {i : Nat} {e : PV}, ((es0.drop off).take len)[i]? = some e → i < len ∧ es0[off + i]? = some e := by
              intro i e hi
              rw [List.getElem?_take] at hi
              split at hi
              · rename_i hlt; rw [List.getElem?_drop] at hi; exact ⟨hlt, hi⟩
              · cases hi
            have hcs : (off + len) * z0 ≤ ca.size := by rw [g4]; exact Nat.mul_le_mul_right z0 (by omega)
            have hcs' : off * z0 + len * z0 ≤ ca.size := by rwa [Nat.add_mul] at hcs
            have hnl : ((ca.toList.drop (off * z0)).take (len * z0)).length = len * z0 := by simp; omega
            have hng : ∀ {q : Nat} {u : Value}, ((ca.toList.drop (off * z0)).take (len * z0))[q]? = some u → ca[off * z0 + q]? = some u := by
              intro q u hq
              rw [List.getElem?_take] at hq
              split at hq
              · rw [List.getElem?_drop] at hq; simpa using hq
              · cases hq
            refine ⟨a, len, c, (ca.toList.drop (off * z0)).take (len * z0), rfl, hlen, hlc, ⟨by rw [hnl, hlen], fun hne => ?_, fun e he => q1 e (hmem he), fun i j e a u hi hj => ?_⟩⟩
            · have hpos : 0 < len := by
                rcases Nat.eq_zero_or_pos len with h | h
                · subst h; simp at hne
                · exact h
              have := hh.2 hpos
              rw [q0] at this
              refine ⟨_, this, fun j u hj => ?_⟩
              rw [add_at, cell_of_row w b _ ca ety (0, 0) g3]
              exact hng hj
            · intro hu
              have := hng hu
              obtain ⟨_, h2⟩ := hgi hi
              exact g8 (off + i) j e a _ h2 hj (by rw [Nat.add_mul, Nat.add_assoc]; exact this)
        · cases he
  | _ => simp [elems] at he

/-- Rows one behind the other. -/
theorem cellz_app {w w' : World} {W W' : Nat → Prop} {z : Nat} {xs ys : List PV} {a b : Option Addr} {olds news : List Value} (h1 : Cellz w W z xs a olds) (h2 : Cellz w W z ys b news)
    {O : Nat → Prop} (k : Keep O w w') (hO : ∀ i, O i → W i) (hW : ∀ i, i < w.heap.size → W' i → W i) (rest : List Value) :
    (∀ e ∈ xs ++ ys, e.cells.length = z ∧ ∀ c ∈ e.cells, c.flat = true) ∧
    ∀ (i j : Nat) (e c : PV) (u : Value), (xs ++ ys)[i]? = some e → e.cells[j]? = some c → (olds ++ news ++ rest)[i * z + j]? = some u → PRep w' W' c u := by
  have hz : ∀ e ∈ xs ++ ys, e.cells.length = z ∧ ∀ c ∈ e.cells, c.flat = true := fun e he => by
    rcases List.mem_append.1 he with he | he
    · exact h1.hz e he
    · exact h2.hz e he
  refine ⟨hz, fun i j e c u hi hj hu => ?_⟩
  have hj' : j < z := by have := (List.getElem?_eq_some_iff.1 hj).1; have := (hz e (List.mem_of_getElem? hi)).1; omega
  rw [List.getElem?_append] at hi
  split at hi
  · rename_i hlt
    have := idx_lt hlt hj'
    rw [List.append_assoc, List.getElem?_append_left (by rw [h1.hl]; exact this)] at hu
    exact (h1.h i j e c u hi hj hu).keep k hO hW
  · rename_i hge
    have hlt := (List.getElem?_eq_some_iff.1 hi).1
    have e1 : i * z + j = xs.length * z + ((i - xs.length) * z + j) := by
      rw [← Nat.add_assoc, ← Nat.add_mul]
      congr 2
      omega
    have := idx_lt hlt hj'
    rw [e1, List.append_assoc, List.getElem?_append_right (by rw [h1.hl]; omega), h1.hl, Nat.add_sub_cancel_left, List.getElem?_append_left (by rw [h2.hl]; exact this)] at hu
    exact (h2.h _ j e c u hi hj hu).keep k hO hW

section
variable {idm : FuncId → FuncId} {m : NMap} {w : World} {W : Nat → Prop} {H : Hp}

/-- As Good, with a purge. -/
theorem Good.withPg {v : AV} {up : Hp} {m' : NMap} {w' : World} {W' : Nat → Prop} (g : Good idm m w W H { v, up } m' w' W') {x : Nm} (hx : x ∈ upNs up) : Good idm m w W H { v, up, pg := some x } m' w' W' where
  k := g.k
  sub := g.sub
  sup := g.sup
  lt := g.lt
  mm := fun y hy _ => g.mm y hy (by simp)
  up := fun y o ho => by
    obtain ⟨h1, h2⟩ := g.up y o ho
    refine ⟨h1, fun q hq => ?_⟩
    have := h2 q hq
    rw [hget_append] at this ⊢
    split
    · rename_i h; rw [if_pos h] at this; exact this
    · rename_i h
      rw [if_neg h] at this
      rw [hget_pgH_some]
      rwa [hget_pgH_some] at this
  ups := g.ups
  b1 := g.b1
  b2 := g.b2
  pgu := fun y hy => by simp at hy; subst hy; exact hx
  ext := g.ext

/-- A slice of one's own moves. -/
theorem Good.move (s : SimH idm m w W H) {x : Nm} (hloc : x.isLoc = true) {o : AObj} (hx : hget H x = some o) (hof : o.frozen = false) {o' : AObj} {l : Loc} (v : AV) {w' : World} (kp : Keep (fun _ => False) w w')
    (hn : o'.names = []) (hr : ORep idm (fun y => if y = x then l else m y) w' (fun j => W j ∨ (w.heap.size ≤ j ∧ j < w'.heap.size)) l o') (hb : ∀ q, l.base = some q → w.heap.size ≤ q) :
    Good idm m w W H { v, up := [(x, some o')], pg := some x } (fun y => if y = x then l else m y) w' (fun j => W j ∨ (w.heap.size ≤ j ∧ j < w'.heap.size)) where
  k := ⟨kp.os, kp.tape, kp.output, kp.size, fun i hi _ => kp.block i hi (fun h => h)⟩
  sub := fun i hi h => by rcases h with h | ⟨h, _⟩ <;> first | exact h | omega
  sup := fun i _ h _ => .inl h
  lt := fun i h => by rcases h with h | ⟨_, h⟩ <;> first | exact Nat.lt_of_lt_of_le (s.lt i h) kp.size | exact h
  mm := fun y _ hy => by
    have : y ≠ x := fun e => hy (by rw [e])
    simp [this]
  up := fun y ob ho => by
    simp only [hget] at ho
    split at ho
    · rename_i e
      subst e
      simp only [Option.some.injEq] at ho
      subst ho
      exact ⟨by simpa using hr, fun y hy => by rw [hn] at hy; cases hy⟩
    · cases ho
  ups := fun y hy => by simp [upNs] at hy; subst hy; exact ⟨o', by simp [hget]⟩
  b1 := fun y ob q ho hq hlt => by
    simp only [hget] at ho
    split at ho
    · rename_i e
      subst e
      simp only [if_true] at hq
      have := hb q hq
      omega
    · cases ho
  b2 := fun y z q hy hz _ _ _ => by simp [upNs] at hy hz; rw [hy, hz]
  pgu := fun y h => by simp at h; subst h; simp [upNs]
  ext := fun k => by
    have : Nm.ext k ≠ x := by rintro rfl; simp [Nm.isLoc] at hloc
    simp [this]
end

theorem run_call_app {P : Program} {o : Oper} {a : Act} {w w' : World} {x y : Operand} {t u : TypeId} {v1 v2 v : Value} (ho : o.op = .call { callee := .builtin .append, args := #[x, y], argTypes := #[t, u] }) (hx : a.eval x = v1) (hy : a.eval y = v2)
    (h : (Builtin.append_ #[t, u] o.type #[v1, v2]).run P w = .ok v w') : (execOp a.eval o).run P w = .ok (.value v) w' := by
  simp only [execOp, ho, resolve, invoke, builtin, Sem.run_bind, Sem.run_pure, Result.andThen_ok, List.map_toArray, List.map_cons, List.map_nil, hx, hy, h]

theorem maxLen_ge : most ≤ maxLen := by simp only [most, maxLen]; omega

section
variable {P : Program} {idm : FuncId → FuncId} {N : Nat} {m : NMap} {w : World} {W : Nat → Prop} {st : St} {a : Act} {o : Oper} (s : Sim idm N m w W st a)
include s

/-- The new row of a slice that has grown. -/
theorem grown_row {z : Nat} {xs ys : List PV} {aa bb : Option Addr} {olds news : List Value} (h1 : Cellz w W z xs aa olds) (h2 : Cellz w W z ys bb news) {zv : Value} (hzv : zv.cells.size = z) (hz1 : ∀ v ∈ zv.cells, v.oneCell' = true)
    (hz0 : 0 < z) (cap : Nat) (hcap : xs.length + ys.length ≤ cap) (hm : cap ≤ maxLen) (e : TypeId) (m' : NMap) :
    ORep idm m' (w.drew.alloc (.cells (olds.toArray ++ news.toArray ++ Builtin.zeroCells zv.cells (cap - (xs.length + ys.length))) e)) (fun j => W j ∨ (w.heap.size ≤ j ∧ j < (w.drew.alloc (.cells (olds.toArray ++ news.toArray ++ Builtin.zeroCells zv.cells (cap - (xs.length + ys.length))) e)).heap.size))
      ⟨some w.heap.size, cap, z⟩ (.parr (xs ++ ys) z false) := by
  have kp : Keep (fun _ => False) w (w.drew.alloc (.cells (olds.toArray ++ news.toArray ++ Builtin.zeroCells zv.cells (cap - (xs.length + ys.length))) e)) := ⟨rfl, rfl, rfl, by simp, fun i hi _ => heap_alloc_old w.drew _ i hi⟩
  obtain ⟨g1, g2⟩ := cellz_app (W' := fun j => W j ∨ (w.heap.size ≤ j ∧ j < (w.drew.alloc (.cells (olds.toArray ++ news.toArray ++ Builtin.zeroCells zv.cells (cap - (xs.length + ys.length))) e)).heap.size)) h1 h2 kp (fun _ h => h.elim)
    (fun i hi h => by rcases h with h | ⟨h, _⟩ <;> first | exact h | omega) (Builtin.zeroCells zv.cells (cap - (xs.length + ys.length))).toList
  refine ⟨rfl, g1, .inr ⟨w.heap.size, _, e, rfl, heap_alloc_new w.drew _, ?_, by simpa using hcap, hm, ?_, ?_, fun _ => .inr ⟨Nat.le_refl _, by simp⟩, fun h => by cases h⟩⟩
  · simp only [Array.size_append, List.size_toArray, h1.hl, h2.hl, size_zeroCells, hzv]
    rw [← Nat.add_mul, ← Nat.add_mul]
    congr 1
    omega
  · intro v hv
    rcases Array.mem_append.1 hv with hv | hv
    · rcases Array.mem_append.1 hv with hv | hv
      · exact h1.one v (by simpa using hv)
      · exact h2.one v (by simpa using hv)
    · simp only [Builtin.zeroCells, Array.mem_map, Array.mem_range] at hv
      obtain ⟨k, hk, rfl⟩ := hv
      have : k % zv.cells.size < zv.cells.size := Nat.mod_lt _ (by omega)
      rw [getElem!_pos zv.cells _ this]
      exact hz1 _ (Array.getElem_mem this)
  · intro i j e' a' v hi hj hv
    refine g2 i j e' a' v hi hj ?_
    rw [← hv, ← Array.getElem?_toList]
    simp

theorem ok_append_nils (r i : Nat) {t u : TypeId} {x y : Operand} {x' y' : Opd} {args : Array Operand} {tys : Array TypeId} (hargs : args.toList = [x, y]) (htys : tys.toList = [t, u]) (ho : o.op = .call { callee := .builtin .append, args := args, argTypes := tys })
    (hx : opdL idm x x' = true) (hy : opdL idm y y' = true) {e e' : TypeId} {ti : TypeInfo} {zv : Value} {z : Nat} (ht : P.underlying t = some (.slice e)) (hu : P.underlying u = some (.slice e')) (hi : P.info? e = some ti) (hz : ti.zero = some zv) (hsz : ti.size = z) (hz0 : 0 < z)
    (hby : ti.bytes ≤ 65536) (hzv : zv.cells.size = z) (hz1 : ∀ v ∈ zv.cells, v.oneCell' = true) {ys : List PV} (hel : elems st.H (ev st.T y') = some (z, ys)) {z' : Nat} (h1 : ev st.T x' = .nils z') (hfr : (hget st.H (.loc r i 0)).isNone = true) (hle : ys.length ≤ most) :
    OpOK P idm m w W st.H o a { v := .hsl (.loc r i 0) 0 ys.length, up := [(.loc r i 0, some (.parr ys z false))] } := by
  obtain rfl : args = #[x, y] := by rw [← hargs]
  obtain rfl : tys = #[t, u] := by rw [← htys]
  obtain ⟨g1, _⟩ := opdL_rep hx s
  obtain ⟨g2, _⟩ := opdL_rep hy s
  rw [h1] at g1
  generalize hex : a.eval x = ux at g1
  generalize hey : a.eval y = uy at g2
  obtain ⟨ab, n, c, news, rfl, hn, hnc, hcz⟩ := elems_cellz s.toSimH g2 hel
  subst hsz
  cases g1 with
  | nils _ aa =>
    by_cases h0 : n = 0
    · subst h0
      have hys : ys = [] := List.eq_nil_of_length_eq_zero hn
      subst hys
      have hrun := run_append_kept (P := P) w t u o.type e e' ti ht hu hi aa ab c
      exact ok_row (P := P) (o := o) s (.loc r i 0) ⟨r, i, 0, rfl⟩ (Option.isNone_iff_eq_none.1 hfr) (es := []) (z := ti.size) (b := none) (cap := 0) (w' := w) (v := .slice aa 0 0)
        (run_call_app (o := o) (P := P) (a := a) ho hex hey hrun) (Keep.refl _ w) (fun m' hm => .hsl _ 0 0 aa 0 (by rw [hm]; simp [HslOK]) (Nat.le_refl _)) (fun q h => by cases h) ⟨rfl, fun e he => by simp at he, .inl ⟨rfl, rfl, rfl⟩⟩
    · have hmx := maxLen_ge
      have hml : n ≤ maxLen := by omega
      have hb : (0 + n) * ti.bytes ≤ 140737488355328 := by
        have := Nat.mul_le_mul (show 0 + n ≤ 2147483648 by simp only [most] at hle; omega) hby
        omega
      have hrun := run_append_grown (P := P) w t u o.type e e' ti zv ht hu hi hz aa 0 0 [] (by simp) (by simp) ab n c news (by rw [hcz.hl, hn]) hcz.hc (by omega) (by simp only [maxLen] at hml; omega) (growslice_fits (by omega) hb)
      have hge := grownCap_ge w (0 + n) 0 e
      have hro := grown_row (idm := idm) s (z := ti.size) (xs := []) (aa := none) (olds := []) (Cellz.nil w W ti.size none) hcz hzv hz1 hz0 (grownCap w (0 + n) 0 e) (by simpa [hn] using hge) (grownCap_le_maxLen w (0 + n) 0 e (by simpa using hml)) e m
      simp only [List.nil_append, List.length_nil, hn] at hro
      have hrun' := run_call_app (o := o) (P := P) (a := a) ho hex hey hrun
      exact ok_row (P := P) (o := o) s (.loc r i 0) ⟨r, i, 0, rfl⟩ (Option.isNone_iff_eq_none.1 hfr) (es := ys) (z := ti.size) (b := some w.heap.size) (cap := grownCap w (0 + n) 0 e)
        hrun' ⟨rfl, rfl, rfl, by simp, fun i hi _ => heap_alloc_old w.drew _ i hi⟩
        (fun m' hm => by rw [hn, Nat.zero_add]; exact .hsl _ 0 n _ _ (by rw [hm]; simp [HslOK]) (by simpa using hge)) (fun q h => by cases h; exact Nat.le_refl _) hro

theorem ok_append_hsl {t u : TypeId} {x y : Operand} {x' y' : Opd} {args : Array Operand} {tys : Array TypeId} (hargs : args.toList = [x, y]) (htys : tys.toList = [t, u]) (ho : o.op = .call { callee := .builtin .append, args := args, argTypes := tys })
    (hx : opdL idm x x' = true) (hy : opdL idm y y' = true) {e e' : TypeId} {ti : TypeInfo} {zv : Value} {z : Nat} (ht : P.underlying t = some (.slice e)) (hu : P.underlying u = some (.slice e')) (hi : P.info? e = some ti) (hz : ti.zero = some zv) (hsz : ti.size = z) (hz0 : 0 < z)
    (hby : ti.bytes ≤ 65536) (hzv : zv.cells.size = z) (hz1 : ∀ v ∈ zv.cells, v.oneCell' = true) {ys : List PV} (hel : elems st.H (ev st.T y') = some (z, ys)) {n : Nm} {es : List PV} (h1 : ev st.T x' = .hsl n 0 es.length) (h2 : hget st.H n = some (.parr es z false)) (hloc : n.isLoc = true)
    (hle : es.length + ys.length ≤ most) :
    OpOK P idm m w W st.H o a { v := .hsl n 0 (es.length + ys.length), up := [(n, some (.parr (es ++ ys) z false))], pg := some n } := by
  obtain rfl : args = #[x, y] := by rw [← hargs]
  obtain rfl : tys = #[t, u] := by rw [← htys]
  obtain ⟨g1, _⟩ := opdL_rep hx s
  obtain ⟨g2, _⟩ := opdL_rep hy s
  have hex' : elems st.H (ev st.T x') = some (z, es) := by rw [h1]; simp [elems, h2]
  obtain ⟨aa0, n0, c0, olds, hux, hn0, hnc0, hcz0⟩ := elems_cellz s.toSimH g1 hex'
  rw [h1] at g1
  generalize hex : a.eval x = ux at g1 hux
  generalize hey : a.eval y = uy at g2
  obtain ⟨ab, k, c, news, rfl, hn, hnc, hcz⟩ := elems_cellz s.toSimH g2 hel
  subst hsz
  have hmx := maxLen_ge
  have hml : es.length + k ≤ maxLen := by omega
  have hnames : ∀ y ∈ (AV.hsl n 0 (es.length + ys.length)).names, (hget ([(n, some (AObj.parr (es ++ ys) ti.size false))] ++ pgH (some n) st.H) y).isSome = true := fun y hy => by
    simp [AV.names] at hy; subst hy; simp [hget]
  cases g1 with
  | hsl _ _ _ aa cc hh hlc =>
    have grow : cc < es.length + k → OpOK P idm m w W st.H o a { v := .hsl n 0 (es.length + ys.length), up := [(n, some (.parr (es ++ ys) ti.size false))], pg := some n } := by
      intro hg
      simp only [Value.slice.injEq] at hux
      obtain ⟨rfl, rfl, rfl⟩ := hux
      have hb : (es.length + k) * ti.bytes ≤ 140737488355328 := by
        have := Nat.mul_le_mul (show es.length + k ≤ 2147483648 by simp only [most] at hle; omega) hby
        omega
      have hrun := run_append_grown (P := P) w t u o.type e e' ti zv ht hu hi hz aa es.length cc olds hcz0.hl hcz0.hc ab k c news (by rw [hcz.hl, hn]) hcz.hc hg (by simp only [maxLen] at hml; omega) (growslice_fits hg hb)
      have hge := grownCap_ge w (es.length + k) cc e
      have hro := fun m' => grown_row (idm := idm) s hcz0 hcz hzv hz1 hz0 (grownCap w (es.length + k) cc e) (by rw [hn]; exact hge) (grownCap_le_maxLen w _ cc e hml) e m'
      simp only [hn] at hro
      refine ⟨_, _, _, _, .inl (run_call_app (o := o) (P := P) (a := a) ho hex hey hrun),
        Good.move s.toSimH hloc h2 rfl _ ⟨rfl, rfl, rfl, by simp, fun i hi _ => heap_alloc_old w.drew _ i hi⟩ rfl (hro _) (fun q h => by cases h; exact Nat.le_refl _), ?_, hnames⟩
      rw [hn]
      exact .hsl _ 0 _ _ _ (by simp [HslOK]) hge
    have hORep := s.h n _ h2
    obtain ⟨q0, q1, q2⟩ := hORep
    rcases q2 with ⟨q2, q3, q4⟩ | ⟨b, ca, ety, e2, e3, e4, e5, e6, e7, e8, e9, e10⟩
    · -- a nil slice
      unfold HslOK at hh
      rw [q2] at hh
      simp only at hh
      obtain ⟨_, _, hc0⟩ := hh
      subst hc0
      subst q3
      by_cases hk : k = 0
      · subst hk
        have hys : ys = [] := List.eq_nil_of_length_eq_zero hn
        subst hys
        have hrun := run_append_kept (P := P) w t u o.type e e' ti ht hu hi aa ab c
        refine ⟨.slice aa 0 0, w, m, W, .inl (run_call_app (o := o) (P := P) (a := a) ho hex hey hrun), Good.withPg (x := n) ?_ (by simp [upNs]), ?_, hnames⟩
        · have hid := Good.id (idm := idm) (m := m) (w := w) (H := st.H) s.lt (.hsl n 0 (([] : List PV).length + ([] : List PV).length))
          exact { k := ⟨rfl, rfl, rfl, Nat.le_refl _, fun _ _ _ => rfl⟩, sub := fun _ _ h => h, sup := fun _ _ h _ => h, lt := s.lt, mm := fun _ _ _ => rfl,
                  up := fun y ob hob => by
                    simp only [hget] at hob
                    split at hob
                    · rename_i e; subst e; simp only [Option.some.injEq] at hob; subst hob
                      exact ⟨s.h _ _ h2, fun y hy => by simp [AObj.names] at hy⟩
                    · cases hob
                  ups := fun y hy => by simp [upNs] at hy; subst hy; exact ⟨.parr ([] ++ []) ti.size false, by simp [hget]⟩
                  b1 := fun y ob q hob hq _ => by
                    simp only [hget] at hob
                    split at hob
                    · rename_i e; subst e; exact ⟨_, h2, hq, fun _ => rfl⟩
                    · cases hob
                  b2 := fun y z q hy hz _ _ _ => by simp [upNs] at hy hz; rw [hy, hz]
                  pgu := fun y h => by simp at h
                  ext := fun _ => rfl }
        · exact .hsl n 0 _ aa 0 (by unfold HslOK; rw [q2]; simp) (by simp)
      · exact grow (by simp; omega)
    · by_cases hroom : es.length + k ≤ cc
      · unfold HslOK at hh
        rw [e2] at hh
        simp only at hh
        obtain ⟨h3, h4⟩ := hh.1 trivial
        subst h3; subst h4
        have hfit : es.length * ti.size + news.length ≤ ca.size := by rw [hcz.hl, hn, e4, ← Nat.add_mul]; exact Nat.mul_le_mul_right _ hroom
        have hrun := run_append_roomy (P := P) w t u o.type e e' ety ti ht hu hi b es.length (m n).cap ca e3 ab k c news (by rw [hcz.hl, hn]) hcz.hc hcz.one hroom hfit
        refine ⟨_, _, m, W, .inl (run_call_app (o := o) (P := P) (a := a) ho hex hey hrun),
          Good.withPg (x := n) (Good.upd (o' := .parr (es ++ ys) ti.size false) s.toSimH _ h2 rfl e2 _ ⟨q0, ?_, .inr ⟨b, _, ety, e2, setRow_heap w b ca _ ety _ e3, ?_, by simpa [hn] using hroom, e6, ?_, ?_, e9, e10⟩⟩ (fun y hy => by simp [AObj.names] at hy) rfl) (by simp [upNs]), ?_, hnames⟩
        · intro e he
          rcases List.mem_append.1 he with he | he
          · exact q1 e he
          · exact hcz.hz e he
        · simp only [List.size_toArray, List.length_append, List.length_take, List.length_drop, Array.length_toList]
          omega
        · intro v hv
          simp only [List.mem_toArray, List.append_assoc] at hv
          rcases List.mem_append.1 hv with hv | hv
          · exact e7 v (by simpa using List.mem_of_mem_take hv)
          · rcases List.mem_append.1 hv with hv | hv
            · exact hcz.one v hv
            · exact e7 v (by simpa using List.mem_of_mem_drop hv)
        · intro i j e' a' v hi hj hv
          have hz' : e' ∈ es ++ ys := List.mem_of_getElem? hi
          have hjz : j < ti.size := by
            have hjl := (List.getElem?_eq_some_iff.1 hj).1
            rcases List.mem_append.1 hz' with h | h
            · have := (q1 e' h).1; omega
            · have := (hcz.hz e' h).1; omega
          have key : PRep w W a' v := by
            simp only [List.getElem?_toArray] at hv
            rw [splice_get _ _ _ (by simpa using hfit)] at hv
            rw [List.getElem?_append] at hi
            split at hi
            · rename_i hlt
              have := idx_lt hlt hjz
              rw [if_neg (by omega)] at hv
              exact e8 i j e' a' v hi hj (by simpa using hv)
            · rename_i hge
              have hlt := (List.getElem?_eq_some_iff.1 hi).1
              have h5 := idx_lt hlt hjz
              have e1 : i * ti.size + j = es.length * ti.size + ((i - es.length) * ti.size + j) := by
                rw [← Nat.add_assoc, ← Nat.add_mul]
                congr 2
                omega
              rw [e1, if_pos ⟨by omega, by rw [hcz.hl]; omega⟩, Nat.add_sub_cancel_left] at hv
              exact hcz.h _ j e' a' v hi hj hv
          exact key.keep (keep_setRow b _) (fun i hi => by rw [hi]; exact e9 rfl) fun _ _ h => h
        · rw [hn]
          exact .hsl n 0 _ _ _ (by unfold HslOK; rw [e2]; simp) hroom
      · exact grow (by omega)
end
end Go.Ab
