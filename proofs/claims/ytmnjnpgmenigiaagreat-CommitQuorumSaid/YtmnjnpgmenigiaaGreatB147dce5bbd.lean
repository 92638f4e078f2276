/- A part of the proof (an executor, and what it computes). -/
import Derived.Test.YtmnjnpgmenigiaaGreatB2f72d3b635
set_option linter.all false
/-! Operations that read memory, and addresses. -/
namespace Go.Ab
open Go

theorem add_add (a : Addr) (x y : Nat) : (a.add x).add y = a.add (x + y) := by
  unfold Addr.add
  by_cases hx : x = 0
  · subst hx; simp
  · by_cases hy : y = 0
    · subst hy; simp [hx]
    · have : x + y ≠ 0 := by omega
      simp [hx, hy, this, Nat.add_assoc]

theorem natOf_some {v : AV} {n k : Nat} (h : natOf v n = some k) : ∃ kk i, v = .p (.int kk i) ∧ 0 ≤ i ∧ i ≤ n ∧ k = i.toNat := by
  unfold natOf at h
  split at h
  · rename_i kk i
    split at h
    · rename_i hi; simp at h; exact ⟨kk, i, rfl, hi.1, hi.2, h.symm⟩
    · cases h
  · cases h

theorem partP_some {agg : Bool} {size off : Nat} {cs : List PV} {v : PV} (h : partP agg size off cs = some v) : (agg = true ∧ off + size ≤ cs.length ∧ v = .agg ((cs.drop off).take size)) ∨ (agg = false ∧ cs[off]? = some v) := by
  unfold partP at h
  cases agg with
  | true =>
    simp only [if_true] at h
    split at h
    · rename_i hl; simp at h; exact .inl ⟨rfl, hl, h.symm⟩
    · cases h
  | false => simp at h; exact .inr ⟨rfl, h⟩

theorem partA_some {agg : Bool} {size off : Nat} {cs : List AV} {v : AV} (h : partA agg size off cs = some v) : (agg = true ∧ off + size ≤ cs.length ∧ v = mkAgg ((cs.drop off).take size)) ∨ (agg = false ∧ cs[off]? = some v) := by
  unfold partA at h
  cases agg with
  | true =>
    simp only [if_true] at h
    split at h
    · rename_i hl; simp at h; exact .inl ⟨rfl, hl, h.symm⟩
    · cases h
  | false => simp at h; exact .inr ⟨rfl, h⟩

theorem allP_some : ∀ {cs : List AV} {ps : List PV}, allP cs = some ps → cs = ps.map .p
  | [], ps, h => by simp [allP] at h; subst h; rfl
  | .p v :: r, ps, h => by
    simp only [allP] at h
    cases hr : allP r with
    | none => simp [hr] at h
    | some vs => simp [hr] at h; subst h; simp [allP_some hr]
  | .undef :: _, ps, h => by simp [allP] at h
  | .agg _ :: _, ps, h => by simp [allP] at h
  | .tup _ :: _, ps, h => by simp [allP] at h
  | .nils _ :: _, ps, h => by simp [allP] at h
  | .hsl _ _ _ :: _, ps, h => by simp [allP] at h
  | .ptr _ _ :: _, ps, h => by simp [allP] at h
  | .eptr _ _ _ :: _, ps, h => by simp [allP] at h
  | .rptr _ :: _, ps, h => by simp [allP] at h
  | .fn _ _ _ :: _, ps, h => by simp [allP] at h

theorem rep_mkAgg {idm : FuncId → FuncId} {m : NMap} {w : World} {W : Nat → Prop} {cs : List AV} {vs : Array Value} (hl : vs.size = cs.length) (hf : ∀ c ∈ cs, c.flat = true) (h1 : ∀ v ∈ vs, v.oneCell' = true)
    (h : ∀ (i : Nat) (c : AV) (v : Value), cs[i]? = some c → vs[i]? = some v → Rep idm m w W c v) : Rep idm m w W (mkAgg cs) (.agg vs) := by
  unfold mkAgg
  cases ha : allP cs with
  | none => exact .agg cs vs hl hf h1 h
  | some ps =>
    have e := allP_some ha
    subst e
    refine .p _ _ (.agg ps vs (by simpa using hl) (fun c hc => ?_) fun i c v hc hv => ?_)
    · have := hf (.p c) (List.mem_map.2 ⟨c, hc, rfl⟩)
      cases c <;> first | rfl | simp [AV.flat] at this
    · have := h i (.p c) v (by simp [hc]) hv
      cases this with | p _ _ h => exact h
theorem names_mkAgg {cs : List AV} {x : Nm} (h : x ∈ (mkAgg cs).names) : x ∈ namesL cs := by
  unfold mkAgg at h
  split at h
  · simp [AV.names] at h
  · simpa [AV.names] using h

section
variable {P : Program} {idm : FuncId → FuncId} {N : Nat} {m : NMap} {w : World} {W : Nat → Prop} {st : St} {a : Act} {o : Oper} (s : Sim idm N m w W st a)
include s

/-- A bound of a slice expression. -/

theorem ok_faddr {t : TypeId} {x : Operand} {f : Nat} {off : Nat} {y : Opd} (ho : o.op = .fieldAddr t x f) {fs : Array Field} {g : Field} (hu : P.underlying t = some (.struct fs)) (hf : fs[f]? = some g) (hoff : g.offset = off)
    {n : Nat} (hsz : sizeT P g.type = some n) (hn : n ≠ 0) (h : opdL idm x y = true) {v : AV} (hv : (match ev st.T y with
      | .ptr x o => some (AV.ptr x (o + off))
      | .eptr x i o => some (.eptr x i (o + off))
      | .rptr cs => some (.rptr (cs.drop off))
      | _ => none) = some v) : OpOK P idm m w W st.H o a { v } := by
  obtain ⟨h1, h2⟩ := opdL_rep h s
  have hrun : ∀ ad, a.eval x = .pointer (some ad) → (execOp a.eval o).run P w = .ok (.value (.pointer (some (ad.add off)))) w := by
    intro ad he
    simp [execOp, ho, he, Instr.fieldAt, run_underlying hu, hf, Instr.sureAddr, fieldPlace, run_sizeT hsz, hn, hoff]
  generalize ev st.T y = u at *
  generalize he : a.eval x = ux at *
  cases h1 <;> simp only [reduceCtorEq, Option.some.injEq] at hv <;> subst hv
  · rename_i x0 o0 b hb
    exact OpOK.pure s (by rw [hrun _ rfl, add_at]) (.ptr x0 _ b hb) (by simpa [AV.names] using h2)
  · rename_i x0 i0 o0 b hb
    exact OpOK.pure s (by rw [hrun _ rfl, add_at, Nat.add_assoc]) (.eptr x0 i0 _ b hb) (by simpa [AV.names] using h2)
  · rename_i cs ad ff hW hlt hfl hc hp
    refine OpOK.pure s (hrun _ rfl) (.rptr _ _ (fun j => ff (off + j)) (by rw [add_block]; exact hW) (by rw [add_block]; exact hlt) (fun c hc => hfl c (List.mem_of_mem_drop hc)) (fun j c hj => ?_) fun j c hj => ?_) (by simp [AV.names])
    · rw [List.getElem?_drop] at hj; rw [add_add]; exact hc _ c hj
    · rw [List.getElem?_drop] at hj; exact hp _ c hj

theorem mem_slice {α : Type} {l : List α} {x : α} {o n : Nat} (h : x ∈ (l.drop o).take n) : x ∈ l := List.mem_of_mem_drop (List.mem_of_mem_take h)

theorem run_loadAt {t : TypeId} {agg : Bool} {size : Nat} {ad : Addr} (hA : aggT P t = some agg) (hS : sizeT P t = some size) {f : Nat → Value} (hc : ∀ j, j < (if agg then size else 1) → w.cell? (ad.add j) = some (f j)) :
    (Instr.loadAt t (.pointer (some ad))).run P w = .ok (if agg then .agg ((List.range size).map f).toArray else f 0) w := by
  simp only [Instr.loadAt, Instr.sureAddr, loadVar, Sem.run_bind, Sem.run_pure, Result.andThen_ok, run_isAgg hA]
  cases agg with
  | true =>
    simp only [if_true, Sem.run_bind, run_sizeT hS, Result.andThen_ok, run_loadCells (P := P) w ad size f (fun j hj => hc j (by simpa using hj)), Sem.run_pure]
  | false =>
    have := hc 0 (by simp)
    rw [show ad.add 0 = ad by simp [Addr.add]] at this
    simp [run_load, this]

/-- Loading a part of plain cells. -/
theorem ok_load_plain {t : TypeId} {x : Operand} (ho : o.op = .load t x) {agg : Bool} {size : Nat} (hA : aggT P t = some agg) (hS : sizeT P t = some size) {ad : Addr} (he : a.eval x = .pointer (some ad))
    {cs : List PV} {off : Nat} {f : Nat → Value} (hfl : ∀ c ∈ cs, c.flat = true) (hc : ∀ (j : Nat) (c : PV), cs[off + j]? = some c → w.cell? (ad.add j) = some (f j)) (hp : ∀ (j : Nat) (c : PV), cs[off + j]? = some c → PRep w W c (f j))
    {v : PV} (hv : partP agg size off cs = some v) : OpOK P idm m w W st.H o a { v := .p v } := by
  rcases partP_some hv with ⟨rfl, hl, rfl⟩ | ⟨rfl, hc0⟩
  · have hr := run_loadAt s hA hS (f := f) (fun j hj => by
      have hj : j < size := by simpa using hj
      exact hc j cs[off + j] (List.getElem?_eq_getElem (by omega)))
    refine OpOK.pure s (v := .agg ((List.range size).map f).toArray) (by simp [execOp, ho, he, hr]) (.p _ _ (.agg _ _ (by simp; omega) (fun c hc => hfl c (mem_slice s hc)) fun i c u hi hu => ?_)) (by simp [AV.names])
    rw [List.getElem?_take] at hi
    split at hi
    · rename_i hlt
      rw [List.getElem?_drop] at hi
      simp [hlt] at hu
      subst hu
      exact hp i c hi
    · cases hi
  · have hr := run_loadAt s hA hS (f := f) (fun j hj => by
      have hj : j = 0 := by simpa using hj
      subst hj
      exact hc 0 v (by simpa using hc0))
    exact OpOK.pure s (v := f 0) (by simp [execOp, ho, he, hr]) (.p _ _ (hp 0 v (by simpa using hc0))) (by simp [AV.names])

theorem ok_load_cells {t : TypeId} {x : Operand} (ho : o.op = .load t x) {agg : Bool} {size : Nat} (hA : aggT P t = some agg) (hS : sizeT P t = some size) {b off : Nat} (he : a.eval x = .pointer (some ⟨b, off, none⟩))
    {cs : List AV} {c : Array Value} {e : TypeId} (hb : w.heap[b]? = some (.cells c e (0, 0))) (hsz : c.size = cs.length) (hfl : ∀ c ∈ cs, c.flat = true) (h1 : ∀ v ∈ c, v.oneCell' = true)
    (hp : ∀ (i : Nat) (a : AV) (v : Value), cs[i]? = some a → c[i]? = some v → Rep idm m w W a v) (hn : ∀ x ∈ namesL cs, (hget st.H x).isSome = true)
    {v : AV} (hv : partA agg size off cs = some v) : OpOK P idm m w W st.H o a { v } := by
  have hcell : ∀ j, off + j < c.size → w.cell? ((⟨b, off, none⟩ : Addr).add j) = some (c.getD (off + j) undef) := by
    intro j hj
    rw [add_at, cell_of_row w b (off + j) c e (0, 0) hb]
    simp [Array.getElem?_eq_getElem hj, Array.getD_eq_getD_getElem?]
  have hget : ∀ i, i < c.size → c[i]? = some (c.getD i undef) := fun i hi => by simp [Array.getElem?_eq_getElem hi, Array.getD_eq_getD_getElem?]
  rcases partA_some hv with ⟨rfl, hl, rfl⟩ | ⟨rfl, hc0⟩
  · have hr := run_loadAt s hA hS (ad := ⟨b, off, none⟩) (f := fun j => c.getD (off + j) undef) (fun j hj => hcell j (by simp at hj; omega))
    refine OpOK.pure s (v := .agg ((List.range size).map fun j => c.getD (off + j) undef).toArray) (by simp [execOp, ho, he, hr])
      (rep_mkAgg (by simp; omega) (fun c hc => hfl c (mem_slice s hc)) ?_ fun i av u hi hu => ?_) (fun y hy => ?_)
    · intro u hu
      simp at hu
      obtain ⟨j, hj, rfl⟩ := hu
      have hlt : off + j < c.size := by omega
      simp [Array.getElem?_eq_getElem hlt]
      exact h1 _ (Array.getElem_mem hlt)
    · rw [List.getElem?_take] at hi
      split at hi
      · rename_i hlt
        rw [List.getElem?_drop] at hi
        have hlt2 : off + i < c.size := by omega
        simp [hlt, Array.getElem?_eq_getElem hlt2] at hu
        subst hu
        exact hp (off + i) av _ hi (by simp [Array.getElem?_eq_getElem hlt2])
      · cases hi
    · have := names_mkAgg hy
      obtain ⟨q, hq, hq'⟩ := mem_namesL.1 this
      exact hn y (mem_namesL.2 ⟨q, mem_slice s hq, hq'⟩)
  · have hlt : off < c.size := by
      have := (List.getElem?_eq_some_iff.1 hc0).1
      omega
    have hr := run_loadAt s hA hS (ad := ⟨b, off, none⟩) (f := fun j => c.getD (off + j) undef) (fun j hj => hcell j (by simp at hj; omega))
    refine OpOK.pure s (v := c.getD (off + 0) undef) (by simp [execOp, ho, he, hr]) (hp off v _ hc0 (by rw [Nat.add_zero]; exact hget off hlt)) fun y hy => hn y (mem_namesL.2 ⟨v, List.mem_of_getElem? hc0, hy⟩)

theorem ok_load {t : TypeId} {x : Operand} {y : Opd} (ho : o.op = .load t x) {agg : Bool} {size : Nat} (hA : aggT P t = some agg) (hS : sizeT P t = some size) (h : opdL idm x y = true) {v : AV}
    (hv : loadD st.H agg size (ev st.T y) = some v) : OpOK P idm m w W st.H o a { v } := by
  obtain ⟨h1, h2⟩ := opdL_rep h s
  generalize ev st.T y = u at *
  generalize he : a.eval x = ux at *
  cases h1 <;> simp only [loadD, reduceCtorEq] at hv
  · -- a variable
    rename_i x0 o0 b hb
    cases ho' : hget st.H x0 with
    | none => simp [ho'] at hv
    | some ob =>
      rw [ho'] at hv
      cases ob with
      | box cs =>
        simp only at hv
        obtain ⟨b', c, e, g1, g2, g3, g4, g5, g6, g7⟩ := s.h x0 _ ho'
        rw [hb] at g1; cases g1
        exact ok_load_cells s ho hA hS he g2 g3 g4 g5 g6 (fun y hy => s.ch x0 _ y ho' hy) hv
      | _ => simp at hv
  · -- an element
    rename_i x0 i0 o0 b hb
    cases ho' : hget st.H x0 with
    | none => simp [ho'] at hv
    | some ob =>
      rw [ho'] at hv
      cases ob with
      | box cs => simp at hv
      | parr es z fz =>
        simp only at hv
        cases hei : es[i0]? with
        | none => simp [hei] at hv
        | some e =>
          simp only [hei] at hv
          obtain ⟨v', hv', rfl⟩ := Option.map_eq_some_iff.1 hv
          obtain ⟨q0, q1, q2⟩ := s.h x0 _ ho'
          rcases q2 with ⟨q2, rfl, _⟩ | ⟨b', c, ty, q2, q3, q4, q5, q6, q7, q8, q9, q10⟩
          · simp at hei
          · rw [hb] at q2; cases q2
            obtain ⟨qz, qf⟩ := q1 e (List.mem_of_getElem? hei)
            have hil : i0 < es.length := (List.getElem?_eq_some_iff.1 hei).1
            have hbound : ∀ k, k < e.cells.length → i0 * z + k < c.size := by
              intro k hk
              have : (i0 + 1) * z ≤ (m x0).cap * z := Nat.mul_le_mul_right z (by omega)
              rw [Nat.add_mul] at this
              omega
            have hcc : ∀ k, k < e.cells.length → c[i0 * z + k]? = some (c.getD (i0 * z + k) undef) := fun k hk => by
              have := hbound k hk
              simp [Array.getElem?_eq_getElem this, Array.getD_eq_getD_getElem?]
            refine ok_load_plain s ho hA hS he (cs := e.cells) (off := o0) (f := fun j => c.getD (i0 * z + o0 + j) undef) qf ?_ ?_ hv'
            · intro j cc hj
              have hj' := (List.getElem?_eq_some_iff.1 hj).1
              rw [add_at, cell_of_row w b _ c ty (0, 0) q3, q0, Nat.add_assoc (i0 * z)]
              exact hcc _ hj'
            · intro j cc hj
              have hj' := (List.getElem?_eq_some_iff.1 hj).1
              have := q8 i0 (o0 + j) e cc _ hei hj (hcc _ hj')
              rwa [← Nat.add_assoc] at this
      | arr es =>
        simp only at hv
        split at hv
        · rename_i hz
          obtain ⟨rfl, rfl⟩ := hz
          obtain ⟨q0, b', c, e, g1, g2, g3, gc, g4, g5, g6, g7⟩ := s.h x0 _ ho'
          rw [hb] at g1; cases g1
          rw [q0] at he
          exact ok_load_cells s ho hA hS (off := i0) (by rw [he]; simp) g2 g3 g4 g5 g6 (fun y hy => s.ch x0 _ y ho' hy) (by simp [partA, hv])
        · cases hv
  · -- what can't change
    rename_i cs ad f hW hlt hfl hc hp
    obtain ⟨v', hv', rfl⟩ := Option.map_eq_some_iff.1 hv
    exact ok_load_plain s ho hA hS he (cs := cs) (off := 0) (f := f) hfl (fun j c hj => hc j c (by simpa using hj)) (fun j c hj => hp j c (by simpa using hj)) hv'
end
end Go.Ab

/-! Parts of values, indexes, slices. -/
namespace Go.Ab
open Go

theorem run_part {P : Program} {t : TypeId} {agg : Bool} {size : Nat} (hA : aggT P t = some agg) (hS : sizeT P t = some size) (vs : Array Value) (off : Nat) (hl : off + (if agg then size else 1) ≤ vs.size) (w : World) :
    (part t vs off).run P w = .ok (if agg then .agg (vs.extract off (off + size)) else vs.getD off undef) w := by
  unfold part
  simp only [Sem.run_bind, run_isAgg hA, Result.andThen_ok]
  cases agg with
  | true => simp only [if_true, Sem.run_bind, run_sizeT hS, Result.andThen_ok, Sem.run_pure]
  | false =>
    have hlt : off < vs.size := by simp at hl; omega
    simp [Array.getElem?_eq_getElem hlt, Array.getD_eq_getD_getElem?]

section
variable {P : Program} {idm : FuncId → FuncId} {N : Nat} {m : NMap} {w : World} {W : Nat → Prop} {st : St} {a : Act} {o : Oper} (s : Sim idm N m w W st a)
include s

/-- A part of a struct's, or an array's, value. -/
theorem part_rep {t : TypeId} {agg : Bool} {size off : Nat} (hA : aggT P t = some agg) (hS : sizeT P t = some size) {x v : AV} {vs : Array Value} (hx : Rep idm m w W x (.agg vs)) (hn : ∀ n ∈ x.names, (hget st.H n).isSome = true)
    (hv : partOf agg size off x = some v) :
    ∃ u, (part t vs off).run P w = .ok u w ∧ Rep idm m w W v u ∧ ∀ n ∈ v.names, (hget st.H n).isSome = true := by
  have hext : ∀ (n i : Nat) (u : Value), off + n ≤ vs.size → (vs.extract off (off + n))[i]? = some u → i < n ∧ vs[off + i]? = some u := by
    intro n i u hl hu
    rw [Array.getElem?_extract] at hu
    split at hu
    · rename_i h; exact ⟨by omega, hu⟩
    · cases hu
  cases hx with
  | undef => simp [partOf] at hv
  | p c _ h =>
    cases h with
    | agg cs _ hl hf h =>
      simp only [partOf] at hv
      obtain ⟨v', hv', rfl⟩ := Option.map_eq_some_iff.1 hv
      rcases partP_some hv' with ⟨rfl, hb, rfl⟩ | ⟨rfl, hc⟩
      · refine ⟨_, run_part hA hS vs off (by simp; omega) w, .p _ _ (.agg _ _ (by simp; omega) (fun c hc => hf c (mem_slice s hc)) fun i c u hi hu => ?_), by simp [AV.names]⟩
        obtain ⟨hlt, hu⟩ := hext size i u (by omega) hu
        rw [List.getElem?_take, if_pos hlt, List.getElem?_drop] at hi
        exact h _ c u hi hu
      · have hlt := (List.getElem?_eq_some_iff.1 hc).1
        refine ⟨_, run_part hA hS vs off (by simp; omega) w, .p _ _ (h off v' _ hc ?_), by simp [AV.names]⟩
        have : off < vs.size := by omega
        simp [Array.getElem?_eq_getElem this, Array.getD_eq_getD_getElem?]
  | agg cs _ hl hf h1 h =>
    simp only [partOf] at hv
    rcases partA_some hv with ⟨rfl, hb, rfl⟩ | ⟨rfl, hc⟩
    · refine ⟨_, run_part hA hS vs off (by simp; omega) w, rep_mkAgg (by simp; omega) (fun c hc => hf c (mem_slice s hc)) (fun u hu => h1 u ?_) (fun i c u hi hu => ?_), fun n hm => ?_⟩
      · obtain ⟨i, hi⟩ := Array.mem_iff_getElem?.1 hu
        obtain ⟨_, hi⟩ := hext size i u (by omega) hi
        exact Array.mem_of_getElem? hi
      · obtain ⟨hlt, hu⟩ := hext size i u (by omega) hu
        rw [List.getElem?_take, if_pos hlt, List.getElem?_drop] at hi
        exact h _ c u hi hu
      · obtain ⟨q, hq, hq'⟩ := mem_namesL.1 (names_mkAgg hm)
        exact hn n (by simp only [AV.names]; exact mem_namesL.2 ⟨q, mem_slice s hq, hq'⟩)
    · have hlt := (List.getElem?_eq_some_iff.1 hc).1
      refine ⟨_, run_part hA hS vs off (by simp; omega) w, h off v _ hc ?_, fun n hm => hn n (by simp only [AV.names]; exact mem_namesL.2 ⟨v, List.mem_of_getElem? hc, hm⟩)⟩
      have : off < vs.size := by omega
      simp [Array.getElem?_eq_getElem this, Array.getD_eq_getD_getElem?]

theorem rep_agg_val {x : AV} {u : Value} (h : Rep idm m w W x u) (hx : (∃ cs, x = .p (.agg cs)) ∨ ∃ cs, x = .agg cs) : ∃ vs, u = .agg vs ∧ vs.size = x.cells.length := by
  rcases hx with ⟨cs, rfl⟩ | ⟨cs, rfl⟩
  · cases h with | p _ _ h => cases h with | agg _ vs hl => exact ⟨vs, rfl, by simpa [AV.cells] using hl⟩
  · cases h with | agg _ vs hl => exact ⟨vs, rfl, hl⟩

theorem ok_fld {t : TypeId} {x : Operand} {f : Nat} {y : Opd} {agg : Bool} {size off : Nat} (ho : o.op = .field t x f) {fs : Array Field} {g : Field} (hu : P.underlying t = some (.struct fs)) (hf : fs[f]? = some g) (hoff : g.offset = off)
    (hA : aggT P g.type = some agg) (hS : sizeT P g.type = some size) (h : opdL idm x y = true) {v : AV} (hv : partOf agg size off (ev st.T y) = some v) : OpOK P idm m w W st.H o a { v } := by
  obtain ⟨h1, h2⟩ := opdL_rep h s
  have hx : (∃ cs, ev st.T y = .p (.agg cs)) ∨ ∃ cs, ev st.T y = .agg cs := by
    unfold partOf at hv
    split at hv
    · rename_i cs e; exact .inl ⟨cs, e⟩
    · rename_i cs e; exact .inr ⟨cs, e⟩
    · cases hv
  obtain ⟨vs, he, _⟩ := rep_agg_val s h1 hx
  rw [he] at h1
  obtain ⟨u, hr, hu', hn⟩ := part_rep s (off := off) hA hS h1 h2 hv
  refine OpOK.pure s (v := u) ?_ hu' hn
  simp [execOp, ho, he, Instr.field, run_underlying hu, hf, asAgg, hoff, hr]

theorem ok_ext {x : Operand} {i : Nat} {y : Opd} (ho : o.op = .extract x i) (h : opdL idm x y = true) {vs : List AV} (hx : ev st.T y = .tup vs) {v : AV} (hv : vs[i]? = some v) : OpOK P idm m w W st.H o a { v } := by
  obtain ⟨h1, h2⟩ := opdL_rep h s
  rw [hx] at h1 h2
  generalize he : a.eval x = u at *
  cases h1 with
  | tup _ us hl hh =>
    have hlt : i < us.size := by have := (List.getElem?_eq_some_iff.1 hv).1; omega
    refine OpOK.pure s (v := us[i]) (by simp [execOp, ho, he, Instr.extract, Array.getElem?_eq_getElem hlt]) (hh i v _ hv (Array.getElem?_eq_getElem hlt)) fun n hn => h2 n (by simp only [AV.names]; exact mem_namesL.2 ⟨v, List.mem_of_getElem? hv, hn⟩)

theorem ok_sidx {t : TypeId} {x i : Operand} {y j : Opd} (ho : o.op = .index t x i) (hu : P.underlying t = some .string) (h : opdL idm x y = true) (hi : opdL idm i j = true) {str : ByteArray} {k : IntKind} {n : Int} {b : UInt8}
    (hx : ev st.T y = .p (.str str)) (hj : ev st.T j = .p (.int k n)) (h0 : 0 ≤ n) (hb : str[n.toNat]? = some b) : OpOK P idm m w W st.H o a { v := .p (.int .u8 b.toNat) } := by
  obtain ⟨h1, _⟩ := opdL_rep h s
  obtain ⟨h2, _⟩ := opdL_rep hi s
  rw [hx] at h1; rw [hj] at h2
  have e1 := h1.str_inv
  have e2 := h2.int_inv
  exact OpOK.pure s (v := .int .u8 b.toNat) (by simp [execOp, ho, e1, e2, Instr.index, asIntOf, run_underlying hu, h0, hb]) (.p _ _ (.int ..)) (by simp [AV.names])

theorem ok_aidx {t e : TypeId} {x i : Operand} {y j : Opd} {agg : Bool} {nn z : Nat} (ho : o.op = .index t x i) (hu : P.underlying t = some (.array nn e)) (hA : aggT P e = some agg) (hS : sizeT P e = some z) (h : opdL idm x y = true) (hi : opdL idm i j = true)
    {k : IntKind} {n : Int} (hj : ev st.T j = .p (.int k n)) (h0 : 0 ≤ n) (hn : n < nn) {v : AV} (hv : partOf agg z (n.toNat * z) (ev st.T y) = some v) : OpOK P idm m w W st.H o a { v } := by
  obtain ⟨h1, h2⟩ := opdL_rep h s
  obtain ⟨h3, _⟩ := opdL_rep hi s
  rw [hj] at h3
  have e2 := h3.int_inv
  have hx : (∃ cs, ev st.T y = .p (.agg cs)) ∨ ∃ cs, ev st.T y = .agg cs := by
    unfold partOf at hv
    split at hv
    · rename_i cs e; exact .inl ⟨cs, e⟩
    · rename_i cs e; exact .inr ⟨cs, e⟩
    · cases hv
  obtain ⟨vs, he, _⟩ := rep_agg_val s h1 hx
  rw [he] at h1
  obtain ⟨u, hr, hu', hn'⟩ := part_rep s (off := n.toNat * z) hA hS h1 h2 hv
  refine OpOK.pure s (v := u) ?_ hu' hn'
  simp [execOp, ho, he, e2, Instr.index, asIntOf, run_underlying hu, h0, hn, run_sizeT hS, hr]

theorem ok_aaddr {t e : TypeId} {x : Operand} {k : IntKind} {n : Int} {off len z : Nat} {y : Opd} (ho : o.op = .indexAddr t x (.const (.int k n))) (hu : P.underlying t = some (.array len e)) (h0 : 0 ≤ n) (hlt : n < (len : Int)) (hS : sizeT P e = some z) (hoff : n.toNat * z = off)
    (h : opdL idm x y = true) {v : AV} (hv : (match ev st.T y with
      | .ptr x o => some (AV.ptr x (o + off))
      | .eptr x i o => some (.eptr x i (o + off))
      | .rptr cs => some (.rptr (cs.drop off))
      | _ => none) = some v) : OpOK P idm m w W st.H o a { v } := by
  obtain ⟨h1, h2⟩ := opdL_rep h s
  have hrun : ∀ ad, a.eval x = .pointer (some ad) → (execOp a.eval o).run P w = .ok (.value (.pointer (some (ad.add off)))) w := by
    intro ad he
    have hc : a.eval (.const (.int k n)) = .int k n := rfl
    simp [execOp, ho, he, hc, Instr.indexAt, asIntOf, run_underlying hu, Instr.sureAddr, h0, hlt, run_sizeT hS, hoff]
  generalize ev st.T y = u at *
  generalize he : a.eval x = ux at *
  cases h1 <;> simp only [reduceCtorEq, Option.some.injEq] at hv <;> subst hv
  · rename_i x0 o0 b hb
    exact OpOK.pure s (by rw [hrun _ rfl, add_at]) (.ptr x0 _ b hb) (by simpa [AV.names] using h2)
  · rename_i x0 i0 o0 b hb
    exact OpOK.pure s (by rw [hrun _ rfl, add_at, Nat.add_assoc]) (.eptr x0 i0 _ b hb) (by simpa [AV.names] using h2)
  · rename_i cs ad ff hW hlt hfl hc hp
    refine OpOK.pure s (hrun _ rfl) (.rptr _ _ (fun j => ff (off + j)) (by rw [add_block]; exact hW) (by rw [add_block]; exact hlt) (fun c hc => hfl c (List.mem_of_mem_drop hc)) (fun j c hj => ?_) fun j c hj => ?_) (by simp [AV.names])
    · rw [List.getElem?_drop] at hj; rw [add_add]; exact hc _ c hj
    · rw [List.getElem?_drop] at hj; exact hp _ c hj

theorem ok_iaddr {t e : TypeId} {x i : Operand} {y j : Opd} {z : Nat} (ho : o.op = .indexAddr t x i) (hu : P.underlying t = some (.slice e)) (hS : sizeT P e = some z) (h : opdL idm x y = true) (hi : opdL idm i j = true)
    {k : IntKind} {n : Int} (hj : ev st.T j = .p (.int k n)) (h0 : 0 ≤ n) {v : AV} (hv : iaddrD st.H z (ev st.T y) n.toNat = some v) : OpOK P idm m w W st.H o a { v } := by
  obtain ⟨h1, h2⟩ := opdL_rep h s
  obtain ⟨h3, _⟩ := opdL_rep hi s
  rw [hj] at h3
  have e2 := h3.int_inv
  generalize ev st.T y = u at *
  generalize he : a.eval x = ux at *
  have hrun : ∀ ad len cap, ux = .slice (some ad) len cap → n < len → (execOp a.eval o).run P w = .ok (.value (.pointer (some (ad.add (n.toNat * z))))) w := by
    rintro ad len cap rfl hlt
    simp [execOp, ho, he, e2, Instr.indexAt, asIntOf, run_underlying hu, h0, hlt, run_sizeT hS]
  cases h1 <;> simp only [iaddrD, reduceCtorEq] at hv
  · -- plain
    rename_i c hc
    cases hc <;> simp only [reduceCtorEq] at hv
    rename_i z' es aa nn cap ad f hn hcap hz ha hcc hp
    cases hei : es[n.toNat]? with
    | none => simp [hei] at hv
    | some el =>
      simp only [hei] at hv
      split at hv
      · rename_i hzz
        subst hzz
        simp only [Option.some.injEq] at hv
        subst hv
        have hne : es ≠ [] := by rintro rfl; simp at hei
        obtain ⟨ha1, ha2, ha3⟩ := ha hne
        subst ha1
        have hlt := (List.getElem?_eq_some_iff.1 hei).1
        obtain ⟨hz1, hz2⟩ := hz el (List.mem_of_getElem? hei)
        exact OpOK.pure s (hrun ad nn cap rfl (by omega)) (.rptr _ _ (fun j => f n.toNat j) (by rw [add_block]; exact ha2) (by rw [add_block]; exact ha3) hz2 (fun j c hj => by rw [add_add]; exact hcc _ j el c hei hj) fun j c hj => hp _ j el c hei hj) (by simp [AV.names])
      · cases hv
  · -- a slice of one's own
    rename_i x0 off len aa c hh hlc
    have go : ∀ {ob : AObj}, hget st.H x0 = some ob → n.toNat < len → (m x0).esz = z → OpOK P idm m w W st.H o a { v := .eptr x0 (off + n.toNat) 0 } := by
      intro ob hob hlt hz
      unfold HslOK at hh
      split at hh
      · omega
      · rename_i b hb
        have haa := hh.2 (by omega)
        subst haa
        refine OpOK.pure s (hrun _ len c rfl (by omega)) ?_ (by simp [AV.names, hob])
        rw [add_at, ← hz, ← Nat.add_mul]
        exact .eptr x0 _ 0 b hb
    cases ho' : hget st.H x0 with
    | none => simp [ho'] at hv
    | some ob =>
      rw [ho'] at hv
      have hrep := s.h x0 _ ho'
      cases ob with
      | box cs => simp at hv
      | parr es z' fz =>
        simp only at hv
        split at hv
        · rename_i hc
          simp only [Option.some.injEq] at hv
          subst hv
          exact go ho' hc.1 (hrep.1.trans hc.2.2)
        · cases hv
      | arr es =>
        simp only at hv
        split at hv
        · rename_i hc
          simp only [Option.some.injEq] at hv
          subst hv
          exact go ho' hc.1 (hrep.1.trans hc.2.2)
        · cases hv

/-- A bound of a slice expression. -/
theorem bound_of {lo : Option Operand} {lo' : Option Opd} (h : oopdL idm lo lo' = true) {d n k : Nat} (hk : natOr (lo'.map (ev st.T)) d n = some k) :
    (lo = none ∧ lo' = none ∧ k = d) ∨ ∃ x kk i, lo = some x ∧ a.eval x = .int kk i ∧ 0 ≤ i ∧ i ≤ n ∧ k = i.toNat := by
  unfold oopdL at h
  split at h
  · simp [natOr] at hk; exact .inl ⟨rfl, rfl, hk.symm⟩
  · rename_i x y
    simp only [Option.map_some, natOr] at hk
    obtain ⟨kk, i, e, h0, h1, h2⟩ := natOf_some hk
    obtain ⟨g, _⟩ := opdL_rep h s
    rw [e] at g
    exact .inr ⟨x, kk, i, rfl, g.int_inv, h0, h1, h2⟩
  · cases h

theorem run_sliceBound {x : Operand} {kk : IntKind} {i : Int} (he : a.eval x = .int kk i) (h0 : 0 ≤ i) {y : Nat} (h1 : i ≤ y) (code : BoundsCode) : (Instr.sliceBound (a.eval x) y code).run P w = .ok i.toNat w := by
  simp [Instr.sliceBound, he, asIntOf, h0, h1]

theorem run_bounds {lo hi mx : Option Operand} {lo' hi' mx' : Option Opd} (hlo : oopdL idm lo lo' = true) (hhi : oopdL idm hi hi' = true) (hmx : oopdL idm mx mx' = true) (isSlice : Bool) {len cap n mm hh ll : Nat} (hn : n ≤ cap)
    (h1 : natOr (mx'.map (ev st.T)) n n = some mm) (h2 : natOr (hi'.map (ev st.T)) len mm = some hh) (h3 : natOr (lo'.map (ev st.T)) 0 hh = some ll) (hlm : mx' ≠ none → hi' ≠ none) :
    (Instr.sliceBounds isSlice len cap (lo.map a.eval) (hi.map a.eval) (mx.map a.eval)).run P w = .ok (ll, hh, if mx' = none then cap else mm) w := by
  rcases bound_of s hmx h1 with ⟨rfl, rfl, rfl⟩ | ⟨xm, km, im, rfl, em, m0, m1, m2⟩
  · rcases bound_of s hhi h2 with ⟨rfl, rfl, rfl⟩ | ⟨xh, kh, ih, rfl, eh, h0', h1', rfl⟩
    · rcases bound_of s hlo h3 with ⟨rfl, rfl, rfl⟩ | ⟨xl, kl, il, rfl, el, l0, l1, rfl⟩
      · simp [Instr.sliceBounds]
      · simp [Instr.sliceBounds, run_sliceBound s el l0 l1]
    · rcases bound_of s hlo h3 with ⟨rfl, rfl, rfl⟩ | ⟨xl, kl, il, rfl, el, l0, l1, rfl⟩
      · simp [Instr.sliceBounds, run_sliceBound s eh h0' (show ih ≤ (cap : Int) by omega)]
      · simp [Instr.sliceBounds, run_sliceBound s eh h0' (show ih ≤ (cap : Int) by omega), run_sliceBound s el l0 l1]
  · have hm' : mx' ≠ none := by rintro rfl; simp [oopdL] at hmx
    rcases bound_of s hhi h2 with ⟨rfl, rfl, rfl⟩ | ⟨xh, kh, ih, rfl, eh, h0', h1', rfl⟩
    · exact absurd rfl (hlm hm')
    · rcases bound_of s hlo h3 with ⟨rfl, rfl, rfl⟩ | ⟨xl, kl, il, rfl, el, l0, l1, rfl⟩
      · subst m2; simp [Instr.sliceBounds, run_sliceBound s em m0 (show im ≤ (cap : Int) by omega), run_sliceBound s eh h0' h1', hm']
      · subst m2; simp [Instr.sliceBounds, run_sliceBound s em m0 (show im ≤ (cap : Int) by omega), run_sliceBound s eh h0' h1', run_sliceBound s el l0 l1, hm']
end
end Go.Ab

/-! Slice expressions. -/
namespace Go.Ab
open Go

section
variable {P : Program} {idm : FuncId → FuncId} {N : Nat} {m : NMap} {w : World} {W : Nat → Prop} {st : St} {a : Act} {o : Oper} (s : Sim idm N m w W st a)
include s

theorem natOr_le {v : Option AV} {d n k : Nat} (h : natOr v d n = some k) : k ≤ max d n := by
  cases v with
  | none => simp [natOr] at h; omega
  | some v => obtain ⟨_, i, _, h0, h1, h2⟩ := natOf_some (by simpa [natOr] using h); omega
theorem natOr_le' {v : Option AV} {d n k : Nat} (h : natOr v d n = some k) (hd : d ≤ n) : k ≤ n := by have := natOr_le s h; omega

theorem run_slice_of {t e : TypeId} {x : Operand} {lo hi mx : Option Operand} (ho : o.op = .slice t x lo hi mx) {size : Nat} (hu : P.underlying t = some (.slice e)) (hS : sizeT P e = some size) {aa : Option Addr} {len cap l h mm : Nat} (he : a.eval x = .slice aa len cap)
    (hb : (Instr.sliceBounds true len cap (lo.map a.eval) (hi.map a.eval) (mx.map a.eval)).run P w = .ok (l, h, mm) w) :
    (execOp a.eval o).run P w = .ok (.value (.slice (if mm = l then aa else aa.map (·.add (l * size))) (h - l) (mm - l))) w := by
  simp [execOp, ho, he, Instr.sliceAt, Instr.slice, run_underlying hu, hb, run_sizeT hS]

theorem ok_slice {t : TypeId} {x : Operand} {lo hi mx : Option Operand} {z : Nat} {y : Opd} {lo' hi' mx' : Option Opd} (ho : o.op = .slice t x lo hi mx)
    (ht : (match P.underlying t with | some .string => true | some (.slice e) => sizeT P e == some z | _ => false) = true)
    (h : opdL idm x y = true) (hlo : oopdL idm lo lo' = true) (hhi : oopdL idm hi hi' = true) (hmx : oopdL idm mx mx' = true) (hm : mx' ≠ none → hi' ≠ none)
    (hk : (match ev st.T y with | .p (.str _) => P.underlying t = some .string | _ => ∃ e, P.underlying t = some (.slice e))) {v : AV}
    (hv : sliceA st.H z (ev st.T y) (lo'.map (ev st.T)) (hi'.map (ev st.T)) (mx'.map (ev st.T)) = some v) : OpOK P idm m w W st.H o a { v } := by
  obtain ⟨h1, h2⟩ := opdL_rep h s
  generalize hy : ev st.T y = u at *
  generalize he : a.eval x = ux at *
  have hnone : mx' = none → mx = none := by
    rintro rfl
    cases mx with
    | none => rfl
    | some x => simp [oopdL] at hmx
  cases h1 with
  | p c ux' hc =>
    cases hc with
    | str b =>
      simp only [sliceA] at hv
      cases hmx' : mx' with
      | some q => subst hmx'; simp at hv
      | none =>
        subst hmx'
        have := hnone rfl
        subst this
        simp only [Option.map_none] at hv
        cases hh : natOr (hi'.map (ev st.T)) b.size b.size with
        | none => simp [hh] at hv
        | some hhv =>
          simp only [hh] at hv
          cases hl : natOr (lo'.map (ev st.T)) 0 hhv with
          | none => simp [hl] at hv
          | some lv =>
            simp only [hl, Option.some.injEq] at hv
            subst hv
            have hb := run_bounds (P := P) s hlo hhi hmx false (len := b.size) (cap := b.size) (n := b.size) (Nat.le_refl _) (by simp [natOr]) hh hl hm
            simp only [Option.map_none, if_true] at hb
            exact OpOK.pure s (v := .string (b.extract lv hhv)) (by simp [execOp, ho, he, Instr.sliceAt, Instr.slice, run_underlying hk, hb]) (.p _ _ (.str _)) (by simp [AV.names])
    | sl z' es aa nn cap ad f hn hcap hz ha hcc hp =>
      obtain ⟨e, hu⟩ := hk
      rw [hu] at ht
      have hS := eq_of_beq ht
      simp only [sliceA] at hv
      split at hv
      · rename_i hzz
        subst hzz
        cases hm1 : natOr (mx'.map (ev st.T)) es.length es.length with
        | none => simp [hm1] at hv
        | some mv =>
          simp only [hm1] at hv
          cases hh : natOr (hi'.map (ev st.T)) es.length mv with
          | none => simp [hh] at hv
          | some hhv =>
            simp only [hh] at hv
            cases hl : natOr (lo'.map (ev st.T)) 0 hhv with
            | none => simp [hl] at hv
            | some lv =>
              simp only [hl] at hv
              have hmv : mv ≤ es.length := natOr_le' s hm1 (Nat.le_refl _)
              have hb := run_bounds (P := P) s hlo hhi hmx true (len := nn) (cap := cap) (n := es.length) (by omega) hm1 (by rw [← hn]; exact hh) hl hm
              have hrun := run_slice_of (P := P) s ho hu hS he hb
              have hll : lv ≤ hhv := natOr_le' s hl (Nat.zero_le _)
              have hhl : hhv ≤ es.length := by
                have := natOr_le s hh
                omega
              split at hv
              · rename_i hc
                simp only [Option.some.injEq] at hv
                subst hv
                simp only [Bool.and_eq_true, decide_eq_true_eq] at hc
                obtain ⟨hc1, rfl⟩ := hc
                have hmn : mx' ≠ none := by rintro rfl; simp at hc1
                simp only [hmn, if_false] at hrun
                have hhm : hhv ≤ lv := by
                  cases hq : hi' with
                  | none => exact absurd hq (hm hmn)
                  | some q =>
                    subst hq
                    obtain ⟨_, i, _, i0, i1, i2⟩ := natOf_some (by simpa [natOr] using hh)
                    omega
                have : hhv - lv = 0 := by omega
                rw [this, Nat.sub_self] at hrun
                exact OpOK.pure s hrun (.nils _ _) (by simp [AV.names])
              · simp only [Option.some.injEq] at hv
                subst hv
                refine OpOK.pure s hrun (.p _ _ (.sl _ _ _ _ _ (ad.add (lv * z')) (fun i j => f (lv + i) j) ?_ ?_ ?_ ?_ ?_ ?_)) (by simp [AV.names])
                · simp; omega
                · by_cases hq : mx' = none
                  · simp [hq]; omega
                  · simp only [hq, if_false]
                    have : hhv ≤ mv := by
                      cases hq2 : hi' with
                      | none => exact absurd hq2 (hm hq)
                      | some q =>
                        subst hq2
                        obtain ⟨_, i, _, i0, i1, i2⟩ := natOf_some (by simpa [natOr] using hh)
                        omega
                    omega
                · exact fun e he => hz e (mem_slice s he)
                · intro hne
                  have hlt : lv < hhv := by
                    rcases Nat.lt_or_ge lv hhv with h | h
                    · exact h
                    · exact absurd (by simp; omega) hne
                  have hes : es ≠ [] := by rintro rfl; simp at hhl; omega
                  obtain ⟨g1, g2, g3⟩ := ha hes
                  have hml : (if mx' = none then cap else mv) ≠ lv := by
                    by_cases hq : mx' = none
                    · simp only [hq, if_true]; omega
                    · simp only [hq, if_false]
                      have : hhv ≤ mv := by
                        cases hq2 : hi' with
                        | none => exact absurd hq2 (hm hq)
                        | some q =>
                          subst hq2
                          obtain ⟨_, i, _, i0, i1, i2⟩ := natOf_some (by simpa [natOr] using hh)
                          omega
                      omega
                  rw [if_neg hml, g1]
                  exact ⟨rfl, by rw [add_block]; exact g2, by rw [add_block]; exact g3⟩
                · intro i j e c hi hj
                  rw [List.getElem?_take] at hi
                  split at hi
                  · rw [List.getElem?_drop] at hi
                    have := hcc _ j e c hi hj
                    rwa [add_add, ← Nat.add_assoc, ← Nat.add_mul]
                  · cases hi
                · intro i j e c hi hj
                  rw [List.getElem?_take] at hi
                  split at hi
                  · rw [List.getElem?_drop] at hi
                    exact hp _ j e c hi hj
                  · cases hi
      · cases hv
    | _ => simp [sliceA] at hv
  | nils z' aa =>
    obtain ⟨e, hu⟩ := hk
    rw [hu] at ht
    have hS := eq_of_beq ht
    simp only [sliceA] at hv
    cases hm1 : natOr (mx'.map (ev st.T)) 0 0 with
    | none => simp [hm1] at hv
    | some mv =>
      cases hh : natOr (hi'.map (ev st.T)) 0 0 with
      | none => simp [hm1, hh] at hv
      | some hhv =>
        cases hl : natOr (lo'.map (ev st.T)) 0 0 with
        | none => simp [hm1, hh, hl] at hv
        | some lv =>
          simp only [hm1, hh, hl, Option.some.injEq] at hv
          subst hv
          have e1 : mv = 0 := by have := natOr_le s hm1; omega
          have e2 : hhv = 0 := by have := natOr_le s hh; omega
          have e3 : lv = 0 := by have := natOr_le s hl; omega
          subst e1; subst e2; subst e3
          have hb := run_bounds (P := P) s hlo hhi hmx true (len := 0) (cap := 0) (n := 0) (Nat.le_refl _) hm1 hh hl hm
          have hrun := run_slice_of (P := P) s ho hu hS he hb
          have : (if mx' = none then 0 else 0) = 0 := by split <;> rfl
          rw [this] at hrun
          simp only [if_true, Nat.sub_self] at hrun
          exact OpOK.pure s hrun (.nils _ _) (by simp [AV.names])
  | hsl x0 off len aa c hh hlc =>
    obtain ⟨e, hu⟩ := hk
    rw [hu] at ht
    have hS := eq_of_beq ht
    simp only [sliceA] at hv
    split at hv
    · rename_i hes
      cases hmx' : mx' with
      | some q => subst hmx'; simp at hv
      | none =>
        subst hmx'
        have := hnone rfl
        subst this
        simp only [Option.map_none] at hv
        cases hh2 : natOr (hi'.map (ev st.T)) len len with
        | none => simp [hh2] at hv
        | some hhv =>
          simp only [hh2] at hv
          cases hl : natOr (lo'.map (ev st.T)) 0 hhv with
          | none => simp [hl] at hv
          | some lv =>
            simp only [hl, Option.some.injEq] at hv
            subst hv
            have hhl : hhv ≤ len := natOr_le' s hh2 (Nat.le_refl _)
            have hll : lv ≤ hhv := natOr_le' s hl (Nat.zero_le _)
            have hh3 : natOr (hi'.map (ev st.T)) len len = some hhv := hh2
            -- within the capacity
            have hb : (Instr.sliceBounds true len c (lo.map a.eval) (hi.map a.eval) ((none : Option Operand).map a.eval)).run P w = .ok (lv, hhv, c) w := by
              rcases bound_of s hhi hh2 with ⟨rfl, rfl, rfl⟩ | ⟨xh, kh, ih, rfl, eh, h0', h1', rfl⟩
              · rcases bound_of s hlo hl with ⟨rfl, rfl, rfl⟩ | ⟨xl, kl, il, rfl, el, l0, l1, rfl⟩
                · simp [Instr.sliceBounds]
                · simp [Instr.sliceBounds, run_sliceBound s el l0 l1]
              · rcases bound_of s hlo hl with ⟨rfl, rfl, rfl⟩ | ⟨xl, kl, il, rfl, el, l0, l1, rfl⟩
                · simp [Instr.sliceBounds, run_sliceBound s eh h0' (show ih ≤ (c : Int) by omega)]
                · simp [Instr.sliceBounds, run_sliceBound s eh h0' (show ih ≤ (c : Int) by omega), run_sliceBound s el l0 l1]
            have hrun := run_slice_of (P := P) s ho hu hS he hb
            have hesz : (m x0).esz = z := by
              unfold eszOf at hes
              cases ho' : hget st.H x0 with
              | none => simp [ho'] at hes
              | some ob =>
                rw [ho'] at hes
                have hrep := s.h x0 _ ho'
                cases ob with
                | box => simp at hes
                | parr es z' fz => simp at hes; exact hrep.1.trans hes
                | arr es => simp at hes; exact hrep.1.trans hes
            refine OpOK.pure s hrun (.hsl x0 _ _ _ _ ?_ (by omega)) (by simpa [AV.names] using h2)
            unfold HslOK at hh ⊢
            cases hb0 : (m x0).base with
            | none =>
              rw [hb0] at hh
              simp only at hh ⊢
              obtain ⟨rfl, rfl, rfl, rfl⟩ := hh
              have e1 : hhv = 0 := by omega
              have e2 : lv = 0 := by omega
              subst e1; subst e2
              simp
            | some b =>
              rw [hb0] at hh
              simp only at hh ⊢
              refine ⟨fun h0 => ?_, fun hlt => ?_⟩
              · have e1 : off = 0 := by omega
                have e2 : lv = 0 := by omega
                subst e1; subst e2
                obtain ⟨g1, g2⟩ := hh.1 rfl
                subst g1; subst g2
                by_cases hc0 : (m x0).cap = 0 <;> simp [hc0, Addr.add]
              · have haa := hh.2 (by omega)
                subst haa
                have : c ≠ lv := by omega
                simp only [this, if_false, Option.map_some, add_at]
                rw [hesz, Nat.add_mul]
    · cases hv
  | _ => simp [sliceA] at hv
end
end Go.Ab

/-! Slices of one's own become plain; new variables. -/
namespace Go.Ab
open Go

/-- What may be written behind a freeze. -/
def Wf (m : NMap) (H : Hp) (ns : List Nm) (W : Nat → Prop) (i : Nat) : Prop :=
  W i ∧ ¬ ∃ x, x ∈ ns ∧ (∃ es z f, hget H x = some (.parr es z f)) ∧ (m x).base = some i

theorem hget_frzUp {H : Hp} : ∀ {ns : List Nm} {x : Nm} {o : AObj}, hget (frzUp H ns) x = some o → ∃ es z f, hget H x = some (.parr es z f) ∧ o = .parr es z true ∧ x ∈ ns
  | [], x, o, h => by simp [frzUp, hget] at h
  | y :: r, x, o, h => by
    simp only [frzUp] at h
    split at h
    · rename_i es z f hy
      simp only [hget] at h
      split at h
      · rename_i e; subst e; simp only [Option.some.injEq] at h; exact ⟨es, z, f, hy, h.symm, List.mem_cons_self⟩
      · obtain ⟨es, z, f, h1, h2, h3⟩ := hget_frzUp h; exact ⟨es, z, f, h1, h2, List.mem_cons_of_mem _ h3⟩
    · obtain ⟨es, z, f, h1, h2, h3⟩ := hget_frzUp h; exact ⟨es, z, f, h1, h2, List.mem_cons_of_mem _ h3⟩

theorem ups_frzUp {H : Hp} : ∀ {ns : List Nm} {x : Nm}, x ∈ upNs (frzUp H ns) → ∃ o, hget (frzUp H ns) x = some o
  | [], x, h => by simp [frzUp, upNs] at h
  | y :: r, x, h => by
    simp only [frzUp] at h ⊢
    split at h
    · rename_i es z f hy
      simp only [upNs, List.mem_cons] at h
      simp only [hget]
      split
      · exact ⟨_, rfl⟩
      · rename_i hne
        rcases h with rfl | h
        · exact absurd rfl hne
        · exact ups_frzUp h
    · exact ups_frzUp h

theorem mem_frzUp {H : Hp} {x : Nm} {es : List PV} {z : Nat} {f : Bool} (hx : hget H x = some (.parr es z f)) : ∀ {ns : List Nm}, x ∈ ns → x ∈ upNs (frzUp H ns)
  | [], h => by cases h
  | y :: r, h => by
    simp only [frzUp]
    rcases List.mem_cons.1 h with rfl | h
    · simp [hx, upNs]
    · split
      · exact List.mem_cons_of_mem _ (mem_frzUp hx h)
      · exact mem_frzUp hx h

section
variable {idm : FuncId → FuncId} {m : NMap} {w : World} {W : Nat → Prop} {H : Hp}

theorem Good.freeze (s : SimH idm m w W H) (ns : List Nm) (v : AV) : Good idm m w W H { v, up := frzUp H ns } m w (Wf m H ns W) where
  k := Keep.refl _ w
  sub := fun i _ h => h.1
  sup := fun i hi hW hn => ⟨hW, fun ⟨x, hx, ⟨es, z, f, hp⟩, hb⟩ => by
    cases f with
    | false => exact hn ⟨x, _, mem_frzUp hp hx, hp, rfl, hb⟩
    | true =>
      obtain ⟨_, _, h⟩ := s.h x _ hp
      rcases h with ⟨h, _⟩ | ⟨b, c, e, h2, h3, h4, h5, h6, h7, h8, h9, h10⟩
      · rw [hb] at h; cases h
      · rw [hb] at h2; cases h2; exact h10 rfl hW⟩
  lt := fun i h => s.lt i h.1
  mm := fun _ _ _ => rfl
  up := fun x o ho => by
    obtain ⟨es, z, f, h1, rfl, h3⟩ := hget_frzUp ho
    refine ⟨?_, fun y hy => by simp [AObj.names] at hy⟩
    obtain ⟨q0, q1, q2⟩ := s.h x _ h1
    refine ⟨q0, q1, ?_⟩
    rcases q2 with q2 | ⟨b, c, e, g2, g3, g4, g5, g6, g7, g8, g9, g10⟩
    · exact .inl q2
    · exact .inr ⟨b, c, e, g2, g3, g4, g5, g6, g7, fun i j e a v he ha hv => (g8 i j e a v he ha hv).keep (Keep.refl (fun _ => False) w) (fun _ h => h.elim) fun _ _ h => h.1,
        fun h => by simp at h, fun _ hx => hx.2 ⟨x, h3, ⟨es, z, f, h1⟩, g2⟩⟩
  ups := fun x hx => ups_frzUp hx
  b1 := fun x o b ho hb _ => by
    obtain ⟨es, z, f, h1, rfl, h3⟩ := hget_frzUp ho
    exact ⟨_, h1, hb, fun h => by simp [AObj.frozen] at h⟩
  b2 := fun x y b hx _ hge hb _ => by
    obtain ⟨o, ho⟩ := ups_frzUp hx
    obtain ⟨es, z, f, h1, _, _⟩ := hget_frzUp ho
    have := (s.h x _ h1).lt hb
    omega
  pgu := fun x h => by simp at h
  ext := fun _ => rfl

theorem Rep.frz_keep {c : AV} {v : Value} (h : Rep idm m w W c v) (ns : List Nm) : Rep idm m w (Wf m H ns W) c v :=
  h.keep (Keep.refl (fun _ => False) w) (fun _ h => h.elim) (fun _ _ h => h.1) fun _ _ => rfl

/-- What a slice of one's own holds. -/
theorem hsl_plain (s : SimH idm m w W H) {x : Nm} {off len : Nat} {aa : Option Addr} {c : Nat} (hh : HslOK (m x) off len aa c) (hlc : len ≤ c) {z : Nat} {es : List PV} (he : elems H (.hsl x off len) = some (z, es))
    {ns : List Nm} (hx : x ∈ ns) : PRep w (Wf m H ns W) (.sl z es) (.slice aa len c) := by
  simp only [elems] at he
  cases ho : hget H x with
  | none => simp [ho] at he
  | some ob =>
    rw [ho] at he
    cases ob with
    | box => simp at he
    | arr => simp at he
    | parr es0 z0 f =>
      simp only at he
      split at he
      · rename_i hle
        simp only [Option.some.injEq, Prod.mk.injEq] at he
        obtain ⟨rfl, rfl⟩ := he
        obtain ⟨q0, q1, q2⟩ := s.h x _ ho
        have hlen : ((es0.drop off).take len).length = len := by simp; omega
        have hmem : ∀ {e : PV}, e ∈ (es0.drop off).take len → e ∈ es0 := fun h => List.mem_of_mem_drop (List.mem_of_mem_take h)
        have hgi : ∀ {i : Nat} {e : PV}, ((es0.drop off).take len)[i]? = some e → i < len ∧ es0[off + i]? = some e := by
          intro i e hi
          rw [List.getElem?_take] at hi
          split at hi
          · rename_i hlt; rw [List.getElem?_drop] at hi; exact ⟨hlt, hi⟩
          · cases hi
        rcases q2 with ⟨q2, rfl, q3⟩ | ⟨b, ca, ety, g2, g3, g4, g5, g6, g7, g8, g9, g10⟩
        · simp only [List.drop_nil, List.take_nil]
          exact .sl _ [] aa len c ⟨0, 0, none⟩ (fun _ _ => .nilFunc) (by simp at hle; simp; omega) hlc (fun _ h => by cases h) (fun h => absurd rfl h) (fun i j e c h => by simp at h) (fun i j e c h => by simp at h)
        · unfold HslOK at hh
          rw [g2] at hh
          simp only at hh
          have hidx : ∀ {i j : Nat} {e a : PV}, ((es0.drop off).take len)[i]? = some e → e.cells[j]? = some a → (off + i) * z0 + j < ca.size := by
            intro i j e a hi hj
            obtain ⟨h1, h2⟩ := hgi hi
            have h3 := (List.getElem?_eq_some_iff.1 h2).1
            have h4 := (List.getElem?_eq_some_iff.1 hj).1
            have h5 := (q1 e (List.mem_of_getElem? h2)).1
            have : (off + i + 1) * z0 ≤ (m x).cap * z0 := Nat.mul_le_mul_right z0 (by omega)
            rw [Nat.add_mul] at this
            omega
          refine .sl _ _ aa len c ⟨b, off * z0, none⟩ (fun i j => ca.getD ((off + i) * z0 + j) undef) hlen hlc (fun e he => q1 e (hmem he)) (fun hne => ?_) (fun i j e a hi hj => ?_) fun i j e a hi hj => ?_
          · have hpos : 0 < len := by
              rcases Nat.eq_zero_or_pos len with h | h
              · subst h; simp at hne
              · exact h
            have := hh.2 hpos
            rw [q0] at this
            exact ⟨this, fun hw => hw.2 ⟨x, hx, ⟨_, _, _, ho⟩, g2⟩, (Array.getElem?_eq_some_iff.1 g3).1⟩
          · have hlt := hidx hi hj
            rw [add_at, cell_of_row w b _ ca ety (0, 0) g3]
            have : off * z0 + (i * z0 + j) = (off + i) * z0 + j := by rw [Nat.add_mul]; omega
            rw [this]
            simp [Array.getElem?_eq_getElem hlt, Array.getD_eq_getD_getElem?]
          · have hlt := hidx hi hj
            exact (g8 (off + i) j e a _ (hgi hi).2 hj (by simp [Array.getElem?_eq_getElem hlt, Array.getD_eq_getD_getElem?])).keep (Keep.refl (fun _ => False) w) (fun _ h => h.elim) fun _ _ h => h.1
      · cases he

theorem frz1_rep (s : SimH idm m w W H) {v v' : AV} {u : Value} (h : Rep idm m w W v u) (e : frz1 H v = some v') {ns : List Nm} (hns : ∀ x ∈ hslN v, x ∈ ns) :
    Rep idm m w (Wf m H ns W) v' u ∧ (∀ x ∈ v'.names, x ∈ v.names) ∧ (v.flat = true → v'.flat = true) := by
  cases h with
  | nils z a =>
    simp only [frz1, Option.some.injEq] at e
    subst e
    exact ⟨.p _ _ (.sl z [] a 0 0 ⟨0, 0, none⟩ (fun _ _ => .nilFunc) rfl (Nat.le_refl _) (fun _ h => by cases h) (fun h => absurd rfl h) (fun i j e c h => by simp at h) (fun i j e c h => by simp at h)), by simp [AV.names], fun _ => rfl⟩
  | hsl x off len aa c hh hlc =>
    simp only [frz1] at e
    cases he : elems H (.hsl x off len) with
    | none => simp [he] at e
    | some p =>
      obtain ⟨z, es⟩ := p
      simp only [he, Option.some.injEq] at e
      subst e
      exact ⟨.p _ _ (hsl_plain s hh hlc he (hns x (by simp [hslN]))), by simp [AV.names], fun _ => rfl⟩
  | undef => simp only [frz1, Option.some.injEq] at e; subst e; exact ⟨.undef _, fun _ h => h, fun h => h⟩
  | ub b => simp only [frz1, Option.some.injEq] at e; subst e; exact ⟨.ub b, fun _ h => h, fun h => h⟩
  | yld b => simp only [frz1, Option.some.injEq] at e; subst e; exact ⟨.yld b, fun _ h => h, fun h => h⟩
  | p c v h => simp only [frz1, Option.some.injEq] at e; subst e; exact ⟨(Rep.p c _ h).frz_keep ns, fun _ h => h, fun h => h⟩
  | agg cs vs hl hf h1 h => simp only [frz1, Option.some.injEq] at e; subst e; exact ⟨(Rep.agg cs vs hl hf h1 h).frz_keep ns, fun _ h => h, fun h => h⟩
  | tup cs vs hl h => simp only [frz1, Option.some.injEq] at e; subst e; exact ⟨(Rep.tup cs vs hl h).frz_keep ns, fun _ h => h, fun h => h⟩
  | ptr x off b hb => simp only [frz1, Option.some.injEq] at e; subst e; exact ⟨(Rep.ptr x off b hb).frz_keep ns, fun _ h => h, fun h => h⟩
  | eptr x i off b hb => simp only [frz1, Option.some.injEq] at e; subst e; exact ⟨(Rep.eptr x i off b hb).frz_keep ns, fun _ h => h, fun h => h⟩
  | rptr cs ad f hW hlt hf hc h => simp only [frz1, Option.some.injEq] at e; subst e; exact ⟨(Rep.rptr cs ad f hW hlt hf hc h).frz_keep ns, fun _ h => h, fun h => h⟩
  | fn f a b va vb ha hb h h' => simp only [frz1, Option.some.injEq] at e; subst e; exact ⟨(Rep.fn f a b va vb ha hb h h').frz_keep ns, fun _ h => h, fun h => h⟩

theorem frzL1_get : ∀ {cs cs' : List AV}, frzL1 H cs = some cs' → cs'.length = cs.length ∧ ∀ (i : Nat) (c' : AV), cs'[i]? = some c' → ∃ c, cs[i]? = some c ∧ frz1 H c = some c'
  | [], cs', h => by simp only [frzL1, Option.some.injEq] at h; subst h; exact ⟨rfl, fun i c h => by simp at h⟩
  | v :: r, cs', h => by
    simp only [frzL1] at h
    cases hv : frz1 H v with
    | none => simp [hv] at h
    | some v' => cases hr : frzL1 H r with
      | none => simp [hv, hr] at h
      | some r' =>
        simp only [hv, hr, Option.some.injEq] at h
        subst h
        obtain ⟨h1, h2⟩ := frzL1_get hr
        refine ⟨by simp [h1], fun i c hi => ?_⟩
        cases i with
        | zero => simp at hi; subst hi; exact ⟨v, rfl, hv⟩
        | succ i => simp at hi; obtain ⟨c', hc', e⟩ := h2 i c hi; exact ⟨c', by simpa using hc', e⟩

/-- Cells that are frozen. -/
theorem frzL1_rep (s : SimH idm m w W H) {cs cs' : List AV} {vs : Array Value} (hl : vs.size = cs.length) (h : ∀ (i : Nat) (c : AV) (v : Value), cs[i]? = some c → vs[i]? = some v → Rep idm m w W c v)
    (e : frzL1 H cs = some cs') {ns : List Nm} (hns : ∀ x ∈ cs.flatMap hslN, x ∈ ns) :
    vs.size = cs'.length ∧ (∀ (i : Nat) (c : AV) (v : Value), cs'[i]? = some c → vs[i]? = some v → Rep idm m w (Wf m H ns W) c v) ∧ (∀ x ∈ namesL cs', x ∈ namesL cs) ∧ ((∀ c ∈ cs, c.flat = true) → ∀ c ∈ cs', c.flat = true) := by
  obtain ⟨h1, h2⟩ := frzL1_get e
  have hin : ∀ {i : Nat} {c : AV}, cs[i]? = some c → ∀ x ∈ hslN c, x ∈ ns := fun hi x hx => hns x (List.mem_flatMap.2 ⟨_, List.mem_of_getElem? hi, hx⟩)
  have hv : ∀ {i : Nat} {c : AV}, cs[i]? = some c → ∃ v, vs[i]? = some v := fun hi => by
    have := (List.getElem?_eq_some_iff.1 hi).1
    exact ⟨_, Array.getElem?_eq_getElem (by omega)⟩
  refine ⟨by omega, fun i c v hi hvv => ?_, fun x hx => ?_, fun hf c hc => ?_⟩
  · obtain ⟨c0, hc0, e0⟩ := h2 i c hi
    exact (frz1_rep s (h i c0 v hc0 hvv) e0 (hin hc0)).1
  · obtain ⟨c, hc, hx⟩ := mem_namesL.1 hx
    obtain ⟨i, hi⟩ := List.mem_iff_getElem?.1 hc
    obtain ⟨c0, hc0, e0⟩ := h2 i c hi
    obtain ⟨v, hvv⟩ := hv hc0
    exact mem_namesL.2 ⟨c0, List.mem_of_getElem? hc0, (frz1_rep s (h i c0 v hc0 hvv) e0 (hin hc0)).2.1 x hx⟩
  · obtain ⟨i, hi⟩ := List.mem_iff_getElem?.1 hc
    obtain ⟨c0, hc0, e0⟩ := h2 i c hi
    obtain ⟨v, hvv⟩ := hv hc0
    exact (frz1_rep s (h i c0 v hc0 hvv) e0 (hin hc0)).2.2 (hf c0 (List.mem_of_getElem? hc0))

theorem frz_rep (s : SimH idm m w W H) {v v' : AV} {u : Value} (h : Rep idm m w W v u) (e : frz H v = some v') {ns : List Nm} (hns : ∀ x ∈ frzNs [v], x ∈ ns) :
    Rep idm m w (Wf m H ns W) v' u ∧ (∀ x ∈ v'.names, x ∈ v.names) := by
  cases h with
  | agg cs vs hl hf h1 h =>
    simp only [frz] at e
    cases he : frzL1 H cs with
    | none => simp [he] at e
    | some cs' =>
      simp only [he, Option.some.injEq] at e
      subst e
      obtain ⟨g1, g2, g3, g4⟩ := frzL1_rep s hl h he (ns := ns) (fun x hx => hns x (by simpa [frzNs] using hx))
      exact ⟨rep_mkAgg g1 (g4 hf) h1 g2, fun x hx => by simp only [AV.names]; exact g3 x (names_mkAgg hx)⟩
  | tup cs vs hl h =>
    simp only [frz] at e
    cases he : frzL1 H cs with
    | none => simp [he] at e
    | some cs' =>
      simp only [he, Option.some.injEq] at e
      subst e
      obtain ⟨g1, g2, g3, g4⟩ := frzL1_rep s hl h he (ns := ns) (fun x hx => hns x (by simpa [frzNs] using hx))
      exact ⟨.tup _ _ g1 g2, fun x hx => by simp only [AV.names] at hx ⊢; exact g3 x hx⟩
  | undef => exact (frz1_rep s (.undef u) e (fun x hx => hns x (by simpa [frzNs] using hx))).imp (fun h => h) (fun h => h.1)
  | yld b => exact (frz1_rep s (.yld b) e (fun x hx => hns x (by simpa [frzNs] using hx))).imp (fun h => h) (fun h => h.1)
  | ub b => exact (frz1_rep s (.ub b) e (fun x hx => hns x (by simpa [frzNs] using hx))).imp (fun h => h) (fun h => h.1)
  | p c _ h => exact (frz1_rep s (.p c u h) e (fun x hx => hns x (by simpa [frzNs] using hx))).imp (fun h => h) (fun h => h.1)
  | nils z a => exact (frz1_rep s (.nils z a) e (fun x hx => hns x (by simpa [frzNs] using hx))).imp (fun h => h) (fun h => h.1)
  | hsl x off len aa c hh hlc => exact (frz1_rep s (.hsl x off len aa c hh hlc) e (fun x hx => hns x (by simpa [frzNs] using hx))).imp (fun h => h) (fun h => h.1)
  | ptr x off b hb => exact (frz1_rep s (.ptr x off b hb) e (fun x hx => hns x (by simpa [frzNs] using hx))).imp (fun h => h) (fun h => h.1)
  | eptr x i off b hb => exact (frz1_rep s (.eptr x i off b hb) e (fun x hx => hns x (by simpa [frzNs] using hx))).imp (fun h => h) (fun h => h.1)
  | rptr cs ad f hW hlt hf hc h => exact (frz1_rep s (.rptr cs ad f hW hlt hf hc h) e (fun x hx => hns x (by simpa [frzNs] using hx))).imp (fun h => h) (fun h => h.1)
  | fn f a b va vb ha hb h h' => exact (frz1_rep s (.fn f a b va vb ha hb h h') e (fun x hx => hns x (by simpa [frzNs] using hx))).imp (fun h => h) (fun h => h.1)

/-- New variables: at most one new block. -/
theorem Good.fresh {m' : NMap} {w' : World} {W' : Nat → Prop} (s : SimH idm m w W H) {up : Hp} (v : AV) (kp : Keep (fun _ => False) w w') (hW : ∀ i, W' i ↔ W i ∨ (w.heap.size ≤ i ∧ i < w'.heap.size))
    (fr : ∀ x ∈ upNs up, hget H x = none) (lo : ∀ k, Nm.ext k ∉ upNs up) (mm : ∀ x, x ∉ upNs up → m' x = m x) (bs : ∀ x ∈ upNs up, ∀ b, (m' x).base = some b → w.heap.size ≤ b)
    (uq : ∀ x ∈ upNs up, ∀ y ∈ upNs up, ∀ b, (m' x).base = some b → (m' y).base = some b → x = y) (sm : ∀ x ∈ upNs up, ∃ o, hget up x = some o)
    (ob : ∀ x o, hget up x = some o → ORep idm m' w' W' (m' x) o ∧ ∀ y ∈ o.names, (hget (up ++ H) y).isSome = true) : Good idm m w W H { v, up } m' w' W' where
  k := ⟨kp.os, kp.tape, kp.output, kp.size, fun i hi _ => kp.block i hi (fun h => h)⟩
  sub := fun i hi h => by rcases (hW i).1 h with h | ⟨h, _⟩ <;> first | exact h | omega
  sup := fun i _ h _ => (hW i).2 (.inl h)
  lt := fun i h => by rcases (hW i).1 h with h | ⟨_, h⟩ <;> first | exact Nat.lt_of_lt_of_le (s.lt i h) kp.size | exact h
  mm := fun x hx _ => mm x fun h => by rw [fr x h] at hx; cases hx
  up := fun x o ho => by simpa [pgH] using ob x o ho
  ups := sm
  b1 := fun x o b ho hb hlt => by
    have hx : x ∈ upNs up := by
      rcases Classical.em (x ∈ upNs up) with h | h
      · exact h
      · rw [hget_notin h] at ho; cases ho
    have := bs x hx b hb
    omega
  b2 := fun x y b hx hy _ h1 h2 => uq x hx y hy b h1 h2
  pgu := fun x h => by simp at h
  ext := fun k => mm _ (lo k)
end
end Go.Ab

/-! Operations that make variables. -/
namespace Go.Ab
open Go

/-- The new names of an operation. -/
def mNew (m : NMap) (r i : Nat) (l : Loc) (zs : List ZC) : NMap := fun x =>
  match x with
  | .loc r' i' j => if r' = r ∧ i' = i then (if j = 0 then l else match zs[j - 1]? with | some (.new z) => ⟨none, 0, z⟩ | _ => m x) else m x
  | x => m x

theorem mNew_zero (m : NMap) (r i : Nat) (l : Loc) (zs : List ZC) : mNew m r i l zs (.loc r i 0) = l := by simp [mNew]
theorem mNew_succ (m : NMap) (r i : Nat) (l : Loc) (zs : List ZC) (j z : Nat) (h : zs[j]? = some (.new z)) : mNew m r i l zs (.loc r i (j + 1)) = ⟨none, 0, z⟩ := by simp [mNew, h]

theorem freeH_none {H : Hp} : ∀ {n : Hp}, freeH H n = true → ∀ x ∈ upNs n, hget H x = none
  | [], _, x, hx => by simp [upNs] at hx
  | (y, o) :: r, h, x, hx => by
    simp only [freeH, Bool.and_eq_true] at h
    rcases List.mem_cons.1 hx with rfl | hx
    · simpa using h.1
    · exact freeH_none h.2 x hx

theorem znews_mem {r i : Nat} : ∀ {zs : List ZC} {j : Nat} {x : Nm}, x ∈ upNs (znews r i j zs) → ∃ k z, x = .loc r i (j + k + 1) ∧ zs[k]? = some (.new z) ∧ hget (znews r i j zs) x = some (.parr [] z false)
  | [], j, x, h => by simp [znews, upNs] at h
  | .c v :: zs, j, x, h => by
    simp only [znews] at h ⊢
    obtain ⟨k, z, h1, h2, h3⟩ := znews_mem h
    exact ⟨k + 1, z, by rw [h1]; congr 1; omega, by simpa using h2, h3⟩
  | .nils v :: zs, j, x, h => by
    simp only [znews] at h ⊢
    obtain ⟨k, z, h1, h2, h3⟩ := znews_mem h
    exact ⟨k + 1, z, by rw [h1]; congr 1; omega, by simpa using h2, h3⟩
  | .new v :: zs, j, x, h => by
    simp only [znews, upNs, List.mem_cons] at h
    simp only [znews, hget]
    by_cases e : Nm.loc r i (j + 1) = x
    · subst e; exact ⟨0, v, rfl, rfl, by simp⟩
    · rcases h with rfl | h
      · exact absurd rfl e
      · obtain ⟨k, z, h1, h2, h3⟩ := znews_mem h
        exact ⟨k + 1, z, by rw [h1]; congr 1; omega, by simpa using h2, by rw [if_neg e]; exact h3⟩

theorem znews_of {r i : Nat} : ∀ {zs : List ZC} {j k z : Nat}, zs[k]? = some (.new z) → Nm.loc r i (j + k + 1) ∈ upNs (znews r i j zs)
  | [], j, k, z, h => by simp at h
  | c :: zs, j, 0, z, h => by
    simp only [List.getElem?_cons_zero, Option.some.injEq] at h
    subst h
    simp [znews, upNs]
  | c :: zs, j, k + 1, z, h => by
    have := znews_of (r := r) (i := i) (j := j + 1) (k := k) (z := z) (by simpa using h)
    have e : j + 1 + k + 1 = j + (k + 1) + 1 := by omega
    rw [e] at this
    cases c <;> simp only [znews, upNs, List.mem_cons] <;> first | exact this | exact .inr this

theorem zcells_get {r i : Nat} : ∀ {zs : List ZC} {j k : Nat} {c : AV}, (zcells r i j zs)[k]? = some c → (∃ v, zs[k]? = some (.c v) ∧ c = .p v) ∨ (∃ z, zs[k]? = some (.nils z) ∧ c = .nils z) ∨ ∃ z, zs[k]? = some (.new z) ∧ c = .hsl (.loc r i (j + k + 1)) 0 0
  | [], j, k, c, h => by simp [zcells] at h
  | z :: zs, j, 0, c, h => by cases z <;> simp [zcells] at h <;> subst h <;> simp
  | z :: zs, j, k + 1, c, h => by
    have h' : (zcells r i (j + 1) zs)[k]? = some c := by cases z <;> simpa [zcells] using h
    have := zcells_get h'
    simpa [Nat.add_assoc, Nat.add_comm 1 k] using this
theorem zcells_length {r i : Nat} : ∀ {zs : List ZC} {j : Nat}, (zcells r i j zs).length = zs.length
  | [], j => rfl
  | z :: zs, j => by cases z <;> simp [zcells, zcells_length]

theorem zcsL_get : ∀ {vs : List Value} {zs : List ZC}, zcsL vs zs = true → vs.length = zs.length ∧ ∀ (k : Nat) (v : Value) (z : ZC), vs[k]? = some v → zs[k]? = some z → zcL v z = true
  | [], [], _ => ⟨rfl, fun k v z h => by simp at h⟩
  | v :: vs, z :: zs, h => by
    simp only [zcsL, Bool.and_eq_true] at h
    obtain ⟨h1, h2⟩ := zcsL_get h.2
    refine ⟨by simp [h1], fun k u c hu hc => ?_⟩
    cases k with
    | zero => simp at hu hc; subst hu; subst hc; exact h.1
    | succ k => simp at hu hc; exact h2 k u c hu hc
  | [], _ :: _, h => by simp [zcsL] at h
  | _ :: _, [], h => by simp [zcsL] at h

/-- The zero cells of a variable. -/
theorem zcells_rep {idm : FuncId → FuncId} {m : NMap} {w : World} {W : Nat → Prop} {r i : Nat} {l : Loc} {vs : Array Value} {zs : List ZC} (h : zcsL vs.toList zs = true) :
    vs.size = (zcells r i 0 zs).length ∧ (∀ c ∈ zcells r i 0 zs, c.flat = true) ∧ (∀ v ∈ vs, v.oneCell' = true) ∧
      (∀ (k : Nat) (c : AV) (v : Value), (zcells r i 0 zs)[k]? = some c → vs[k]? = some v → Rep idm (mNew m r i l zs) w W c v) ∧ ∀ x ∈ namesL (zcells r i 0 zs), x ∈ upNs (znews r i 0 zs) := by
  obtain ⟨h1, h2⟩ := zcsL_get h
  have hz : ∀ {k : Nat} {c : AV} {v : Value}, (zcells r i 0 zs)[k]? = some c → vs[k]? = some v → Rep idm (mNew m r i l zs) w W c v ∧ c.flat = true ∧ v.oneCell' = true ∧ ∀ x ∈ c.names, x ∈ upNs (znews r i 0 zs) := by
    intro k c v hc hv
    rcases zcells_get hc with ⟨q, hq, rfl⟩ | ⟨z, hq, rfl⟩ | ⟨z, hq, rfl⟩
    · have := h2 k v _ (by simpa using hv) hq
      have hf : flatL v q = true := by
        unfold zcL at this
        split at this <;> first | (simp_all; done) | skip
        all_goals (rename_i e; cases e; exact this)
      obtain ⟨g1, g2⟩ := flatL_rep hf w W
      exact ⟨.p _ _ g1, by cases q <;> first | rfl | simp [PV.flat] at g2, (g1.flat_one g2).1, by simp [AV.names]⟩
    · have := h2 k v _ (by simpa using hv) hq
      unfold zcL at this
      split at this <;> first | (simp_all; done) | skip
      exact ⟨.nils _ _, rfl, rfl, by simp [AV.names]⟩
    · have := h2 k v _ (by simpa using hv) hq
      unfold zcL at this
      split at this <;> first | (simp_all; done) | skip
      rw [Nat.zero_add]
      refine ⟨.hsl _ 0 0 none 0 ?_ (Nat.le_refl _), rfl, rfl, ?_⟩
      · rw [mNew_succ m r i l zs k z hq]; simp [HslOK]
      · intro x hx
        simp [AV.names] at hx
        subst hx
        have := znews_of (r := r) (i := i) (j := 0) hq
        rwa [Nat.zero_add] at this
  have hlen : vs.size = (zcells r i 0 zs).length := by rw [zcells_length, ← h1]; simp
  refine ⟨hlen, fun c hc => ?_, fun v hv => ?_, fun k c v hc hv => (hz hc hv).1, fun x hx => ?_⟩
  · obtain ⟨k, hk⟩ := List.mem_iff_getElem?.1 hc
    have hlt := (List.getElem?_eq_some_iff.1 hk).1
    exact (hz hk (Array.getElem?_eq_getElem (by omega))).2.1
  · obtain ⟨k, hk⟩ := Array.mem_iff_getElem?.1 hv
    have hlt := (Array.getElem?_eq_some_iff.1 hk).1
    exact (hz (List.getElem?_eq_getElem (show k < (zcells r i 0 zs).length by omega)) hk).2.2.1
  · obtain ⟨c, hc, hx⟩ := mem_namesL.1 hx
    obtain ⟨k, hk⟩ := List.mem_iff_getElem?.1 hc
    have hlt := (List.getElem?_eq_some_iff.1 hk).1
    exact (hz hk (Array.getElem?_eq_getElem (by omega))).2.2.2 x hx

theorem keep_alloc (w : World) (o : Obj) : Keep (fun _ => False) w (w.alloc o) := ⟨rfl, rfl, rfl, by simp, fun i hi _ => heap_alloc_old w o i hi⟩

section
variable {P : Program} {idm : FuncId → FuncId} {N : Nat} {m : NMap} {w : World} {W : Nat → Prop} {st : St} {a : Act} {o : Oper} (s : Sim idm N m w W st a)
include s

/-- A variable of one's own, and the nil slices in it. -/
theorem ok_var (r i : Nat) {zs : List ZC} {cells : List AV} {cs : Array Value} {e : TypeId} (hfr : freeH st.H ((Nm.loc r i 0, some (AObj.box cells)) :: znews r i 0 zs) = true)
    (hrun : (execOp a.eval o).run P w = .ok (.value (.pointer (some ⟨w.heap.size, 0, none⟩))) (w.alloc (.cells cs e)))
    (hl : cs.size = cells.length) (hf : ∀ c ∈ cells, c.flat = true) (h1 : ∀ v ∈ cs, v.oneCell' = true)
    (hr : ∀ (k : Nat) (c : AV) (v : Value), cells[k]? = some c → cs[k]? = some v → Rep idm (mNew m r i ⟨some w.heap.size, 0, 0⟩ zs) w W c v)
    (hn : ∀ x ∈ namesL cells, (hget st.H x).isSome = true ∨ x ∈ upNs (znews r i 0 zs)) :
    OpOK P idm m w W st.H o a { v := .ptr (.loc r i 0) 0, up := (.loc r i 0, some (.box cells)) :: znews r i 0 zs } := by
  have hfree := freeH_none hfr
  have hW' : ∀ j, (W j ∨ (w.heap.size ≤ j ∧ j < (w.alloc (.cells cs e)).heap.size)) → j < w.heap.size → W j := fun j h hlt => by rcases h with h | ⟨h, _⟩ <;> first | exact h | omega
  have hsm : ∀ x ∈ upNs ((Nm.loc r i 0, some (AObj.box cells)) :: znews r i 0 zs), ∃ o, hget ((Nm.loc r i 0, some (AObj.box cells)) :: znews r i 0 zs) x = some o := by
    intro x hx
    simp only [hget]
    split
    · exact ⟨_, rfl⟩
    · rename_i hne
      rcases List.mem_cons.1 hx with rfl | hx
      · exact absurd rfl hne
      · obtain ⟨k, z, _, _, h⟩ := znews_mem hx; exact ⟨_, h⟩
  refine ⟨_, _, mNew m r i ⟨some w.heap.size, 0, 0⟩ zs, fun j => W j ∨ (w.heap.size ≤ j ∧ j < (w.alloc (.cells cs e)).heap.size), .inl hrun,
    Good.fresh s.toSimH _ (keep_alloc w _) (fun _ => Iff.rfl) hfree ?_ ?_ ?_ ?_ hsm ?_, .ptr _ _ w.heap.size (by rw [mNew_zero]), ?_⟩
  · intro k hk
    rcases List.mem_cons.1 hk with h | h
    · cases h
    · obtain ⟨_, _, h, _⟩ := znews_mem h; cases h
  · intro x hx
    cases x with
    | ext k => rfl
    | loc r' i' j =>
      simp only [mNew]
      split
      · rename_i h
        obtain ⟨rfl, rfl⟩ := h
        by_cases hj : j = 0
        · subst hj; exact absurd (List.mem_cons_self) hx
        · simp only [hj, if_false]
          split
          · rename_i z hz
            obtain ⟨k, rfl⟩ : ∃ k, j = k + 1 := ⟨j - 1, by omega⟩
            have := znews_of (r := r') (i := i') (j := 0) (k := k) (z := z) (by simpa using hz)
            rw [Nat.zero_add] at this
            exact absurd (List.mem_cons_of_mem _ this) hx
          · rfl
      · rfl
  · intro x hx b hb
    rcases List.mem_cons.1 hx with rfl | hx
    · rw [mNew_zero] at hb; cases hb; exact Nat.le_refl _
    · obtain ⟨k, z, rfl, hk, _⟩ := znews_mem hx
      rw [Nat.zero_add, mNew_succ m r i _ zs k z hk] at hb; cases hb
  · intro x hx y hy b hbx hby
    rcases List.mem_cons.1 hx with rfl | hx
    · rcases List.mem_cons.1 hy with rfl | hy
      · rfl
      · obtain ⟨k, z, rfl, hk, _⟩ := znews_mem hy
        rw [Nat.zero_add, mNew_succ m r i _ zs k z hk] at hby; cases hby
    · obtain ⟨k, z, rfl, hk, _⟩ := znews_mem hx
      rw [Nat.zero_add, mNew_succ m r i _ zs k z hk] at hbx; cases hbx
  · intro x ob ho
    simp only [hget] at ho
    split at ho
    · rename_i hx
      subst hx
      simp only [Option.some.injEq] at ho
      subst ho
      refine ⟨⟨w.heap.size, cs, e, by rw [mNew_zero], heap_alloc_new w _, hl, hf, h1, fun k c v hc hv => (hr k c v hc hv).keep (keep_alloc w _) (fun _ h => h.elim) (fun j hj h => hW' j h hj) fun _ _ => rfl, .inr ⟨Nat.le_refl _, by simp⟩⟩, fun y hy => ?_⟩
      rcases hn y hy with h | h
      · exact isSome_app (pg := none) hsm h
      · have hy' : y ∈ upNs ((Nm.loc r i 0, some (AObj.box cells)) :: znews r i 0 zs) := List.mem_cons_of_mem _ h
        rw [hget_append, if_pos hy']
        obtain ⟨o, ho⟩ := hsm y hy'
        simp [ho]
    · obtain ⟨k, z, rfl, hk, h⟩ := znews_mem (x := x) (by
        rcases Classical.em (x ∈ upNs (znews r i 0 zs)) with h | h
        · exact h
        · rw [hget_notin h] at ho; cases ho)
      rw [h] at ho
      simp only [Option.some.injEq] at ho
      subst ho
      refine ⟨?_, fun y hy => by simp [AObj.names] at hy⟩
      rw [Nat.zero_add, mNew_succ m r i _ zs k z hk]
      exact ⟨rfl, fun e he => by simp at he, .inl ⟨rfl, rfl, rfl⟩⟩
  · intro y hy
    simp [AV.names] at hy
    subst hy
    simp [pgH, hget]
theorem ok_alloc (r i : Nat) {t : TypeId} {zs : List ZC} (ho : o.op = .alloc t) {z : Value} (hz : zeroT P t = some z) (hzs : zcsL z.cells.toList zs = true)
    (hfr : freeH st.H ((Nm.loc r i 0, some (AObj.box (zcells r i 0 zs))) :: znews r i 0 zs) = true) :
    OpOK P idm m w W st.H o a { v := .ptr (.loc r i 0) 0, up := (.loc r i 0, some (.box (zcells r i 0 zs))) :: znews r i 0 zs } := by
  obtain ⟨g1, g2, g3, g4, g5⟩ := zcells_rep (idm := idm) (m := m) (w := w) (W := W) (r := r) (i := i) (l := ⟨some w.heap.size, 0, 0⟩) hzs
  obtain ⟨ti, hti, hzz⟩ := Option.bind_eq_some_iff.1 hz
  exact ok_var s r i (e := t) hfr (by simp [execOp, ho, Instr.alloc, zeroValue, typeInfo, hti, hzz, newVar, newRow]) g1 g2 g3 g4 fun x hx => .inr (g5 x hx)

theorem ok_box (r i : Nat) {t : TypeId} {x : Operand} {y : Opd} (ho : o.op = .box t x) (h : opdL idm x y = true) (hfr : (hget st.H (.loc r i 0)).isNone = true) (hok : (ev st.T y).okv = true) :
    OpOK P idm m w W st.H o a { v := .ptr (.loc r i 0) 0, up := [(.loc r i 0, some (.box (ev st.T y).cells))] } := by
  obtain ⟨h1, h2⟩ := opdL_rep h s
  obtain ⟨g1, g2, g3, g4, g5⟩ := h1.cells hok
  have hne : ∀ n ∈ namesL (ev st.T y).cells, n ≠ .loc r i 0 := fun n hn e => by
    subst e
    have := h2 _ (g5 _ hn)
    rw [Option.isNone_iff_eq_none.1 hfr] at this; cases this
  exact ok_var s r i (zs := []) (e := t) (by simp [znews, freeH, hfr]) (by simp [execOp, ho, Instr.box, newVar, newRow]) g1 g2 g3
    (fun k c v hc hv => (g4 k c v hc hv).same fun n hn => by
      have hn' := hne n (mem_namesL.2 ⟨c, List.mem_of_getElem? hc, hn⟩)
      cases n with
      | ext k => rfl
      | loc r' i' j =>
        simp only [mNew]
        split
        · rename_i e
          obtain ⟨rfl, rfl⟩ := e
          have hj : j ≠ 0 := fun e => hn' (by rw [e])
          simp [hj]
        · rfl)
    fun n hn => .inl (h2 n (g5 n hn))

/-- A slice of one's own in a new block (or none, if it is nil). -/
theorem ok_row (x0 : Nm) (hx0 : ∃ r i j, x0 = .loc r i j) (hfr : hget st.H x0 = none) {es : List PV} {z : Nat} {b : Option Nat} {cap : Nat} {w' : World} {v : Value}
    (hrun : (execOp a.eval o).run P w = .ok (.value v) w') (kp : Keep (fun _ => False) w w')
    (hv : ∀ m' : NMap, m' x0 = ⟨b, cap, z⟩ → Rep idm m' w' (fun j => W j ∨ (w.heap.size ≤ j ∧ j < w'.heap.size)) (.hsl x0 0 es.length) v)
    (hb : ∀ q, b = some q → w.heap.size ≤ q)
    (hr : ORep idm m w' (fun j => W j ∨ (w.heap.size ≤ j ∧ j < w'.heap.size)) ⟨b, cap, z⟩ (.parr es z false)) :
    OpOK P idm m w W st.H o a { v := .hsl x0 0 es.length, up := [(x0, some (.parr es z false))] } := by
  obtain ⟨r, i, j, rfl⟩ := hx0
  have hm : ∀ x, x ≠ Nm.loc r i j → (fun x => if x = Nm.loc r i j then (⟨b, cap, z⟩ : Loc) else m x) x = m x := fun x hx => by simp [hx]
  refine ⟨v, w', fun x => if x = Nm.loc r i j then ⟨b, cap, z⟩ else m x, _, .inl hrun, Good.fresh s.toSimH _ kp (fun _ => Iff.rfl) (fun x hx => ?_) (fun k hk => by simp [upNs] at hk) (fun x hx => hm x (by simpa [upNs] using hx)) (fun x hx q hq => ?_)
    (fun x hx y hy q _ _ => ?_) (fun x hx => ?_) (fun x ob ho => ?_), hv _ (by simp), fun y hy => ?_⟩
  · simp [upNs] at hx; subst hx; exact hfr
  · simp [upNs] at hx; subst hx; simp at hq; exact hb q hq
  · simp [upNs] at hx hy; rw [hx, hy]
  · simp [upNs] at hx; subst hx; exact ⟨.parr es z false, by simp [hget]⟩
  · simp only [hget] at ho
    split at ho
    · rename_i e
      subst e
      simp only [Option.some.injEq] at ho
      subst ho
      refine ⟨?_, fun y hy => by simp [AObj.names] at hy⟩
      simp only [if_true]
      exact hr
    · cases ho
  · simp [AV.names] at hy; subst hy; simp [hget]

theorem ok_nnew (r i : Nat) {z : Nat} (ho : o.op = .assign (.const (.slice none 0 0))) (hfr : (hget st.H (.loc r i 0)).isNone = true) :
    OpOK P idm m w W st.H o a { v := .hsl (.loc r i 0) 0 0, up := [(.loc r i 0, some (.parr [] z false))] } := by
  have := ok_row (P := P) (o := o) s (.loc r i 0) ⟨r, i, 0, rfl⟩ (Option.isNone_iff_eq_none.1 hfr) (es := []) (z := z) (b := none) (cap := 0) (w' := w) (v := .slice none 0 0)
    (by simp [execOp, ho, Act.eval]) (Keep.refl _ w) (fun m' hm => .hsl _ 0 0 none 0 (by rw [hm]; simp [HslOK]) (Nat.le_refl _)) (fun q h => by cases h) ⟨rfl, fun e he => by simp at he, .inl ⟨rfl, rfl, rfl⟩⟩
  exact this
end
end Go.Ab

/-! Literals. -/
namespace Go.Ab
open Go

theorem fold_set (off : Nat) : ∀ (vs : List Value) (k : Nat) (cs : Array Value), ((vs.zipIdx k).foldl (fun cs (x : Value × Nat) => cs.setIfInBounds (off + x.2) x.1) cs).size = cs.size ∧
    ∀ q, ((vs.zipIdx k).foldl (fun cs (x : Value × Nat) => cs.setIfInBounds (off + x.2) x.1) cs)[q]? = if off + k ≤ q ∧ q < off + k + vs.length ∧ q < cs.size then vs[q - (off + k)]? else cs[q]?
  | [], k, cs => by
    refine ⟨rfl, fun q => ?_⟩
    simp only [List.zipIdx_nil, List.foldl_nil, List.length_nil, Nat.add_zero]
    rw [if_neg (by omega)]
  | v :: vs, k, cs => by
    obtain ⟨h1, h2⟩ := fold_set off vs (k + 1) (cs.setIfInBounds (off + k) v)
    simp only [List.zipIdx_cons, List.foldl_cons]
    refine ⟨by rw [h1]; simp, fun q => ?_⟩
    rw [h2 q]
    rcases Nat.lt_trichotomy q (off + k) with hlt | heq | hgt
    · rw [if_neg (by omega), Array.getElem?_setIfInBounds, if_neg (by omega), if_neg (by omega)]
    · subst heq
      rw [if_neg (by omega), Array.getElem?_setIfInBounds, if_pos rfl]
      by_cases hq : off + k < cs.size
      · rw [if_pos hq, if_pos ⟨Nat.le_refl _, by simp only [List.length_cons]; omega, hq⟩]; simp
      · rw [if_neg hq, if_neg (by omega), Array.getElem?_eq_none (by omega)]
    · by_cases hc : q < off + (k + 1) + vs.length ∧ q < cs.size
      · rw [if_pos ⟨by omega, hc.1, by simpa using hc.2⟩, if_pos ⟨by omega, by simp only [List.length_cons]; omega, hc.2⟩]
        obtain ⟨d, hd⟩ : ∃ d, q - (off + k) = d + 1 := ⟨q - (off + k) - 1, by omega⟩
        rw [hd, List.getElem?_cons_succ]
        congr 1
        omega
      · rw [if_neg (by simp only [Array.size_setIfInBounds]; omega), Array.getElem?_setIfInBounds, if_neg (by omega), if_neg (by simp only [List.length_cons]; omega)]

theorem fill_cons (place : Nat → Option (Nat × Nat)) (arr : Array Value) (i : Nat) (v : Value) (rest : List (Nat × Value)) {off : Nat} (hp : place i = some (off, v.cells.size)) (hl : off + v.cells.size ≤ arr.size) :
    ∃ arr', Instr.fill place arr ((i, v) :: rest) = Instr.fill place arr' rest ∧ arr'.size = arr.size ∧ ∀ q, arr'[q]? = if off ≤ q ∧ q < off + v.cells.size then v.cells[q - off]? else arr[q]? := by
  obtain ⟨h1, h2⟩ := fold_set off v.cells.toList 0 arr
  refine ⟨(v.cells.toList.zipIdx 0).foldl (fun cs (x : Value × Nat) => cs.setIfInBounds (off + x.2) x.1) arr, ?_, h1, fun q => ?_⟩
  · simp only [Instr.fill, hp, ne_eq, not_true_eq_false, decide_false, Bool.false_or]
    rw [if_neg (by simp; omega)]
    congr 1
    rw [← Array.foldl_toList, Array.toList_zipIdx]
  · rw [h2 q]
    simp only [Nat.add_zero, Array.length_toList, Array.getElem?_toList]
    by_cases hc : off ≤ q ∧ q < off + v.cells.size
    · rw [if_pos ⟨hc.1, hc.2, by omega⟩, if_pos hc]
    · rw [if_neg (by omega), if_neg hc]

/-- Cells that a row holds. -/
structure CRep (idm : FuncId → FuncId) (m : NMap) (w : World) (W : Nat → Prop) (cs : List AV) (vs : Array Value) : Prop where
  hl : vs.size = cs.length
  hf : ∀ c ∈ cs, c.flat = true
  h1 : ∀ v ∈ vs, v.oneCell' = true
  h : ∀ (i : Nat) (c : AV) (v : Value), cs[i]? = some c → vs[i]? = some v → Rep idm m w W c v

theorem CRep.splice {idm : FuncId → FuncId} {m : NMap} {w : World} {W : Nat → Prop} {cs : List AV} {vs : Array Value} (h : CRep idm m w W cs vs) {c : AV} {v : Value} (hc : Rep idm m w W c v) (ho : c.okv = true) {off : Nat}
    (hl : off + c.cells.length ≤ cs.length) {vs' : Array Value} (hs : vs'.size = vs.size) (hg : ∀ q, vs'[q]? = if off ≤ q ∧ q < off + v.cells.size then v.cells[q - off]? else vs[q]?) :
    CRep idm m w W (cs.take off ++ c.cells ++ cs.drop (off + c.cells.length)) vs' := by
  obtain ⟨g1, g2, g3, g4, _⟩ := hc.cells ho
  have hget : ∀ q, (cs.take off ++ c.cells ++ cs.drop (off + c.cells.length))[q]? = if off ≤ q ∧ q < off + c.cells.length then c.cells[q - off]? else cs[q]? := by
    intro q
    rw [List.append_assoc, List.getElem?_append]
    have e1 : (cs.take off).length = off := by simp; omega
    rw [e1]
    by_cases h1 : q < off
    · rw [if_pos h1, if_neg (by omega), List.getElem?_take, if_pos h1]
    · rw [if_neg h1, List.getElem?_append]
      by_cases h2 : q - off < c.cells.length
      · rw [if_pos h2, if_pos ⟨by omega, by omega⟩]
      · rw [if_neg h2, if_neg (by omega), List.getElem?_drop]
        congr 1
        omega
  have hlen : (cs.take off ++ c.cells ++ cs.drop (off + c.cells.length)).length = cs.length := by simp; omega
  refine ⟨by rw [hs, h.hl, hlen], fun x hx => ?_, fun u hu => ?_, fun q x u hx hu => ?_⟩
  · rw [List.append_assoc] at hx
    rcases List.mem_append.1 hx with hx | hx
    · exact h.hf x (List.mem_of_mem_take hx)
    · rcases List.mem_append.1 hx with hx | hx
      · exact g2 x hx
      · exact h.hf x (List.mem_of_mem_drop hx)
  · obtain ⟨q, hq⟩ := Array.mem_iff_getElem?.1 hu
    rw [hg q] at hq
    split at hq
    · exact g3 u (Array.mem_of_getElem? hq)
    · exact h.h1 u (Array.mem_of_getElem? hq)
  · rw [hget q] at hx
    rw [hg q, g1] at hu
    split at hx
    · rename_i hc'; rw [if_pos hc'] at hu; exact g4 _ x u hx hu
    · rename_i hc'; rw [if_neg hc'] at hu; exact h.h q x u hx hu

section
variable {P : Program} {idm : FuncId → FuncId} {N : Nat} {m : NMap} {w : World} {W : Nat → Prop} {st : St} {a : Act} {o : Oper} (s : Sim idm N m w W st a)
include s

theorem fill_parts (place : Nat → Option (Nat × Nat)) : ∀ (ps : List (Nat × Operand)) (qs : List (Nat × Nat × Opd)) (cs cs' : List AV) (vs : Array Value),
    ps.length = qs.length → (∀ (k : Nat) (p : Nat × Operand) (q : Nat × Nat × Opd), ps[k]? = some p → qs[k]? = some q → place p.1 = some (q.1, q.2.1) ∧ opdL idm p.2 q.2.2 = true) →
    CRep idm m w W cs vs → fillA cs (evParts st.T qs) = some cs' → (∀ x ∈ namesL cs, (hget st.H x).isSome = true) →
    ∃ vs', Instr.fill place vs (ps.map fun (i, x) => (i, a.eval x)) = some vs' ∧ CRep idm m w W cs' vs' ∧ ∀ x ∈ namesL cs', (hget st.H x).isSome = true
  | [], [], cs, cs', vs, _, _, hc, hf, hn => by
    simp only [evParts, fillA, Option.some.injEq] at hf
    subst hf
    exact ⟨vs, rfl, hc, hn⟩
  | (i, x) :: ps, (off, size, y) :: qs, cs, cs', vs, hl, hp, hc, hf, hn => by
    obtain ⟨hp1, hp2⟩ := hp 0 (i, x) (off, size, y) rfl rfl
    dsimp only at hp1 hp2
    obtain ⟨h1, h2⟩ := opdL_rep hp2 s
    simp only [evParts, fillA] at hf
    split at hf
    · rename_i hcond
      obtain ⟨ho, hsz, hle⟩ := hcond
      obtain ⟨g1, g2, g3, g4, g5⟩ := h1.cells ho
      obtain ⟨vs1, e1, e2, e3⟩ := fill_cons place vs i (a.eval x) (ps.map fun (i, x) => (i, a.eval x)) (off := off) (by rw [hp1, g1, hsz]) (by rw [hc.hl, g1, hsz]; exact hle)
      have hc1 := hc.splice h1 ho (off := off) (by omega) e2 e3
      rw [hsz] at hc1
      obtain ⟨vs', f1, f2, f3⟩ := fill_parts place ps qs _ cs' vs1 (by simpa using hl) (fun k p q h1 h2 => hp (k + 1) p q (by simpa using h1) (by simpa using h2)) hc1 hf (fun n hn' => by
        obtain ⟨c, hc', hx⟩ := mem_namesL.1 hn'
        rw [List.append_assoc] at hc'
        rcases List.mem_append.1 hc' with hx' | hx'
        · exact hn n (mem_namesL.2 ⟨c, List.mem_of_mem_take hx', hx⟩)
        · rcases List.mem_append.1 hx' with hx' | hx'
          · exact h2 n (g5 n (mem_namesL.2 ⟨c, hx', hx⟩))
          · exact hn n (mem_namesL.2 ⟨c, List.mem_of_mem_drop hx', hx⟩))
      exact ⟨vs', by rw [List.map_cons]; exact e1.trans f1, f2, f3⟩
    · cases hf
  | [], _ :: _, cs, cs', vs, hl, _, _, _, _ => by simp at hl
  | _ :: _, [], cs, cs', vs, hl, _, _, _, _ => by simp at hl

theorem zcells_crep {r i : Nat} {vs : Array Value} {zs : List ZC} (h : zcsL vs.toList zs = true) (hz : znews r i 0 zs = []) : CRep idm m w W (zcells r i 0 zs) vs ∧ namesL (zcells r i 0 zs) = [] := by
  obtain ⟨g1, g2, g3, g4, g5⟩ := zcells_rep (idm := idm) (m := m) (w := w) (W := W) (r := r) (i := i) (l := ⟨none, 0, 0⟩) h
  have hn : namesL (zcells r i 0 zs) = [] := by
    rw [List.eq_nil_iff_forall_not_mem]
    intro x hx
    have := g5 x hx
    rw [hz] at this
    simp [upNs] at this
  refine ⟨⟨g1, g2, g3, fun k c v hc hv => (g4 k c v hc hv).same fun x hx => ?_⟩, hn⟩
  have : x ∈ namesL (zcells r i 0 zs) := mem_namesL.2 ⟨c, List.mem_of_getElem? hc, hx⟩
  rw [hn] at this; cases this

theorem fpartsL_get {fs : Array Field} : ∀ {ps : List (Nat × Operand)} {qs : List (Nat × Nat × Opd)}, fpartsL P idm fs ps qs = true → ps.length = qs.length ∧
    ∀ (k : Nat) (p : Nat × Operand) (q : Nat × Nat × Opd), ps[k]? = some p → qs[k]? = some q → (∃ f, fs[p.1]? = some f ∧ f.offset = q.1 ∧ sizeT P f.type = some q.2.1) ∧ opdL idm p.2 q.2.2 = true
  | [], [], _ => ⟨rfl, fun k p q h => by simp at h⟩
  | (i, x) :: ps, (o, sz, y) :: qs, h => by
    simp only [fpartsL, Bool.and_eq_true] at h
    obtain ⟨h1, h2⟩ := fpartsL_get h.2
    refine ⟨by simp [h1], fun k p q hp hq => ?_⟩
    cases k with
    | zero =>
      simp at hp hq
      subst hp; subst hq
      refine ⟨?_, h.1.2⟩
      have := h.1.1
      split at this
      · rename_i f hf
        simp only [Bool.and_eq_true, beq_iff_eq] at this
        exact ⟨f, hf, this.1, this.2⟩
      · cases this
    | succ k => exact h2 k p q (by simpa using hp) (by simpa using hq)
  | [], _ :: _, h => by simp [fpartsL] at h
  | _ :: _, [], h => by simp [fpartsL] at h

theorem apartsL_get {e : TypeId} : ∀ {ps : List (Nat × Operand)} {qs : List (Nat × Nat × Opd)}, apartsL P idm e ps qs = true → ps.length = qs.length ∧
    ∀ (k : Nat) (p : Nat × Operand) (q : Nat × Nat × Opd), ps[k]? = some p → qs[k]? = some q → (sizeT P e = some q.2.1 ∧ q.1 = p.1 * q.2.1) ∧ opdL idm p.2 q.2.2 = true
  | [], [], _ => ⟨rfl, fun k p q h => by simp at h⟩
  | (i, x) :: ps, (o, sz, y) :: qs, h => by
    simp only [apartsL, Bool.and_eq_true, beq_iff_eq] at h
    obtain ⟨h1, h2⟩ := apartsL_get h.2
    refine ⟨by simp [h1], fun k p q hp hq => ?_⟩
    cases k with
    | zero => simp at hp hq; subst hp; subst hq; exact ⟨h.1.1, h.1.2⟩
    | succ k => exact h2 k p q (by simpa using hp) (by simpa using hq)
  | [], _ :: _, h => by simp [apartsL] at h
  | _ :: _, [], h => by simp [apartsL] at h

theorem run_mapM_list {α β : Type} (f : α → Sem β) (g : α → β) : ∀ (l : List α), (∀ x ∈ l, (f x).run P w = .ok (g x) w) → (l.mapM f : Sem (List β)).run P w = .ok (l.map g) w
  | [], _ => by simp
  | x :: l, h => by
    have ih := run_mapM_list f g l fun y hy => h y (List.mem_cons_of_mem _ hy)
    simp [List.mapM_cons, h x List.mem_cons_self, ih]

theorem run_places (fs : Array Field) (h : ∀ f ∈ fs, (sizeT P f.type).isSome = true) :
    (fs.mapM (fun f => do pure (f.offset, ← sizeOf f.type)) : Sem (Array (Nat × Nat))).run P w = .ok (fs.map fun f => (f.offset, (sizeT P f.type).getD 0)) w := by
  rw [Array.mapM_eq_mapM_toList]
  have := run_mapM_list (P := P) s (fun f : Field => (do pure (f.offset, ← sizeOf f.type) : Sem (Nat × Nat))) (fun f => (f.offset, (sizeT P f.type).getD 0)) fs.toList (fun f hf => by
    obtain ⟨n, hn⟩ := Option.isSome_iff_exists.1 (h f (by simpa using hf))
    simp [run_sizeT hn, hn])
  rw [map_eq_pure_bind, Sem.run_bind, this]
  simp only [Result.andThen_ok, Sem.run_pure]
  congr 1
  rw [← Array.toList_map, Array.toArray_toList]

theorem ok_build (r i : Nat) {t : TypeId} {ps : Array (Nat × Operand)} {zs : List ZC} {qs : List (Nat × Nat × Opd)} (ho : o.op = .build t ps) {z : Value} (hz : zeroT P t = some z) (hzs : zcsL z.cells.toList zs = true)
    (ht : (∃ fs, P.underlying t = some (.struct fs) ∧ (∀ f ∈ fs, (sizeT P f.type).isSome = true) ∧ fpartsL P idm fs ps.toList qs = true) ∨ ∃ n e, P.underlying t = some (.array n e) ∧ (sizeT P e).isSome = true ∧ apartsL P idm e ps.toList qs = true)
    (hn : znews r i 0 zs = []) {cs : List AV} (hf : fillA (zcells r i 0 zs) (evParts st.T qs) = some cs) : OpOK P idm m w W st.H o a { v := mkAgg cs } := by
  obtain ⟨hc, hnm⟩ := zcells_crep s hzs hn
  obtain ⟨ti, hti, hzz⟩ := Option.bind_eq_some_iff.1 hz
  have fin : ∀ (place : Nat → Option (Nat × Nat)) (vs' : Array Value), CRep idm m w W cs vs' → (∀ x ∈ namesL cs, (hget st.H x).isSome = true) → (execOp a.eval o).run P w = .ok (.value (.agg vs')) w → OpOK P idm m w W st.H o a { v := mkAgg cs } :=
    fun place vs' h hx hr => OpOK.pure s hr (rep_mkAgg h.hl h.hf h.h1 h.h) fun y hy => hx y (names_mkAgg hy)
  rcases ht with ⟨fs, hu, hsz, hp⟩ | ⟨n, e, hu, hsz, hp⟩
  · obtain ⟨l1, l2⟩ := fpartsL_get (P := P) s hp
    obtain ⟨vs', f1, f2, f3⟩ := fill_parts s (fun k => (fs.map fun f => (f.offset, (sizeT P f.type).getD 0))[k]?) ps.toList qs _ cs z.cells l1 (fun k p q h1 h2 => by
      obtain ⟨⟨f, g1, g2, g3⟩, g4⟩ := l2 k p q h1 h2
      exact ⟨by simp [g1, g2, g3], g4⟩) hc hf (by rw [hnm]; simp)
    refine fin (fun _ => none) vs' f2 f3 ?_
    have e1 : (ps.map fun (i, x) => (i, a.eval x)).toList = ps.toList.map fun (i, x) => (i, a.eval x) := by simp
    simp only [execOp, ho, Instr.build, zeroValue, typeInfo, Sem.run_bind, run_program, Result.andThen_ok, hti, hzz, run_underlying hu, run_places (P := P) s fs hsz, Sem.run_pure, e1, f1]
  · obtain ⟨l1, l2⟩ := apartsL_get (P := P) s hp
    obtain ⟨sz, hsz'⟩ := Option.isSome_iff_exists.1 hsz
    obtain ⟨vs', f1, f2, f3⟩ := fill_parts s (fun k => some (k * sz, sz)) ps.toList qs _ cs z.cells l1 (fun k p q h1 h2 => by
      obtain ⟨⟨g1, g2⟩, g4⟩ := l2 k p q h1 h2
      rw [hsz'] at g1
      injection g1 with g1
      exact ⟨by rw [g2, g1], g4⟩) hc hf (by rw [hnm]; simp)
    refine fin (fun _ => none) vs' f2 f3 ?_
    have e1 : (ps.map fun (i, x) => (i, a.eval x)).toList = ps.toList.map fun (i, x) => (i, a.eval x) := by simp
    simp only [execOp, ho, Instr.build, zeroValue, typeInfo, Sem.run_bind, run_program, Result.andThen_ok, hti, hzz, run_underlying hu, run_sizeT hsz', Sem.run_pure, e1, f1]
end
end Go.Ab
