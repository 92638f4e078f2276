/- A part of the proof: an executor over plain data, shown sound for the model, and what it computes of the functions. -/
import Derived.Test.YtmnjnpgmenigiaaOpEq
set_option linter.all false
/-! Operations that read memory, and addresses. -/
set_option linter.unusedVariables false
set_option linter.unusedSimpArgs false
set_option linter.unusedSectionVars false
namespace Go.Ab
open Go

theorem add_add (a : Addr) (x y : Nat) : (a.add x).add y = a.add (x + y) := by
  unfold Addr.add
  by_cases hx : x = 0
  · subst hx; simp
  · by_cases hy : y = 0
    · subst hy; simp [hx]
    · have : x + y ≠ 0 := by omega
      simp [hx, hy, this, Nat.add_assoc]

theorem natOf_some {v : AV} {n k : Nat} (h : natOf v n = some k) : ∃ kk i, v = .p (.int kk i) ∧ 0 ≤ i ∧ i ≤ n ∧ k = i.toNat := by
  unfold natOf at h
  split at h
  · rename_i kk i
    split at h
    · rename_i hi; simp at h; exact ⟨kk, i, rfl, hi.1, hi.2, h.symm⟩
    · cases h
  · cases h

theorem partP_some {agg : Bool} {size off : Nat} {cs : List PV} {v : PV} (h : partP agg size off cs = some v) : (agg = true ∧ off + size ≤ cs.length ∧ v = .agg ((cs.drop off).take size)) ∨ (agg = false ∧ cs[off]? = some v) := by
  unfold partP at h
  cases agg with
  | true =>
    simp only [if_true] at h
    split at h
    · rename_i hl; simp at h; exact .inl ⟨rfl, hl, h.symm⟩
    · cases h
  | false => simp at h; exact .inr ⟨rfl, h⟩

theorem partA_some {agg : Bool} {size off : Nat} {cs : List AV} {v : AV} (h : partA agg size off cs = some v) : (agg = true ∧ off + size ≤ cs.length ∧ v = mkAgg ((cs.drop off).take size)) ∨ (agg = false ∧ cs[off]? = some v) := by
  unfold partA at h
  cases agg with
  | true =>
    simp only [if_true] at h
    split at h
    · rename_i hl; simp at h; exact .inl ⟨rfl, hl, h.symm⟩
    · cases h
  | false => simp at h; exact .inr ⟨rfl, h⟩

theorem allP_some : ∀ {cs : List AV} {ps : List PV}, allP cs = some ps → cs = ps.map .p
  | [], ps, h => by simp [allP] at h; subst h; rfl
  | .p v :: r, ps, h => by
    simp only [allP] at h
    cases hr : allP r with
    | none => simp [hr] at h
    | some vs => simp [hr] at h; subst h; simp [allP_some hr]
  | .undef :: _, ps, h => by simp [allP] at h
  | .agg _ :: _, ps, h => by simp [allP] at h
  | .tup _ :: _, ps, h => by simp [allP] at h
  | .nils _ :: _, ps, h => by simp [allP] at h
  | .hsl _ _ _ :: _, ps, h => by simp [allP] at h
  | .ptr _ _ :: _, ps, h => by simp [allP] at h
  | .eptr _ _ _ :: _, ps, h => by simp [allP] at h
  | .rptr _ :: _, ps, h => by simp [allP] at h
  | .fn _ _ _ :: _, ps, h => by simp [allP] at h

theorem rep_mkAgg {idm : FuncId → FuncId} {m : NMap} {w : World} {W : Nat → Prop} {cs : List AV} {vs : Array Value} (hl : vs.size = cs.length) (hf : ∀ c ∈ cs, c.flat = true) (h1 : ∀ v ∈ vs, v.oneCell' = true)
    (h : ∀ (i : Nat) (c : AV) (v : Value), cs[i]? = some c → vs[i]? = some v → Rep idm m w W c v) : Rep idm m w W (mkAgg cs) (.agg vs) := by
  unfold mkAgg
  cases ha : allP cs with
  | none => exact .agg cs vs hl hf h1 h
  | some ps =>
    have e := allP_some ha
    subst e
    refine .p _ _ (.agg ps vs (by simpa using hl) (fun c hc => ?_) fun i c v hc hv => ?_)
    · have := hf (.p c) (List.mem_map.2 ⟨c, hc, rfl⟩)
      cases c <;> first | rfl | simp [AV.flat] at this
    · have := h i (.p c) v (by simp [hc]) hv
      cases this with | p _ _ h => exact h
theorem names_mkAgg {cs : List AV} {x : Nm} (h : x ∈ (mkAgg cs).names) : x ∈ namesL cs := by
  unfold mkAgg at h
  split at h
  · simp [AV.names] at h
  · simpa [AV.names] using h

section
variable {P : Program} {idm : FuncId → FuncId} {N : Nat} {m : NMap} {w : World} {W : Nat → Prop} {st : St} {a : Act} {o : Oper} (s : Sim idm N m w W st a)
include s

/-- A bound of a slice expression. -/

theorem ok_faddr {t : TypeId} {x : Operand} {f : Nat} {off : Nat} {y : Opd} (ho : o.op = .fieldAddr t x f) {fs : Array Field} {g : Field} (hu : P.underlying t = some (.struct fs)) (hf : fs[f]? = some g) (hoff : g.offset = off)
    {n : Nat} (hsz : sizeT P g.type = some n) (hn : n ≠ 0) (h : opdL idm x y = true) {v : AV} (hv : (match ev st.T y with
      | .ptr x o => some (AV.ptr x (o + off))
      | .eptr x i o => some (.eptr x i (o + off))
      | .rptr cs => some (.rptr (cs.drop off))
      | _ => none) = some v) : OpOK P idm m w W st.H o a { v } := by
  obtain ⟨h1, h2⟩ := opdL_rep h s
  have hrun : ∀ ad, a.eval x = .pointer (some ad) → (execOp a.eval o).run P w = .ok (.value (.pointer (some (ad.add off)))) w := by
    intro ad he
    simp [execOp, ho, he, Instr.fieldAt, run_underlying hu, hf, Instr.sureAddr, fieldPlace, run_sizeT hsz, hn, hoff]
  generalize ev st.T y = u at *
  generalize he : a.eval x = ux at *
  cases h1 <;> simp only [reduceCtorEq, Option.some.injEq] at hv <;> subst hv
  · rename_i x0 o0 b hb
    exact OpOK.pure s (by rw [hrun _ rfl, add_at]) (.ptr x0 _ b hb) (by simpa [AV.names] using h2)
  · rename_i x0 i0 o0 b hb
    exact OpOK.pure s (by rw [hrun _ rfl, add_at, Nat.add_assoc]) (.eptr x0 i0 _ b hb) (by simpa [AV.names] using h2)
  · rename_i cs ad ff hW hlt hfl hc hp
    refine OpOK.pure s (hrun _ rfl) (.rptr _ _ (fun j => ff (off + j)) (by rw [add_block]; exact hW) (by rw [add_block]; exact hlt) (fun c hc => hfl c (List.mem_of_mem_drop hc)) (fun j c hj => ?_) fun j c hj => ?_) (by simp [AV.names])
    · rw [List.getElem?_drop] at hj; rw [add_add]; exact hc _ c hj
    · rw [List.getElem?_drop] at hj; exact hp _ c hj

theorem mem_slice {α : Type} {l : List α} {x : α} {o n : Nat} (h : x ∈ (l.drop o).take n) : x ∈ l := List.mem_of_mem_drop (List.mem_of_mem_take h)

theorem run_loadAt {t : TypeId} {agg : Bool} {size : Nat} {ad : Addr} (hA : aggT P t = some agg) (hS : sizeT P t = some size) {f : Nat → Value} (hc : ∀ j, j < (if agg then size else 1) → w.cell? (ad.add j) = some (f j)) :
    (Instr.loadAt t (.pointer (some ad))).run P w = .ok (if agg then .agg ((List.range size).map f).toArray else f 0) w := by
  simp only [Instr.loadAt, Instr.sureAddr, loadVar, Sem.run_bind, Sem.run_pure, Result.andThen_ok, run_isAgg hA]
  cases agg with
  | true =>
    simp only [if_true, Sem.run_bind, run_sizeT hS, Result.andThen_ok, run_loadCells (P := P) w ad size f (fun j hj => hc j (by simpa using hj)), Sem.run_pure]
  | false =>
    have := hc 0 (by simp)
    rw [show ad.add 0 = ad by simp [Addr.add]] at this
    simp [run_load, this]

/-- Loading a part of plain cells. -/
theorem ok_load_plain {t : TypeId} {x : Operand} (ho : o.op = .load t x) {agg : Bool} {size : Nat} (hA : aggT P t = some agg) (hS : sizeT P t = some size) {ad : Addr} (he : a.eval x = .pointer (some ad))
    {cs : List PV} {off : Nat} {f : Nat → Value} (hfl : ∀ c ∈ cs, c.flat = true) (hc : ∀ (j : Nat) (c : PV), cs[off + j]? = some c → w.cell? (ad.add j) = some (f j)) (hp : ∀ (j : Nat) (c : PV), cs[off + j]? = some c → PRep w W c (f j))
    {v : PV} (hv : partP agg size off cs = some v) : OpOK P idm m w W st.H o a { v := .p v } := by
  rcases partP_some hv with ⟨rfl, hl, rfl⟩ | ⟨rfl, hc0⟩
  · have hr := run_loadAt s hA hS (f := f) (fun j hj => by
      have hj : j < size := by simpa using hj
      exact hc j cs[off + j] (List.getElem?_eq_getElem (by omega)))
    refine OpOK.pure s (v := .agg ((List.range size).map f).toArray) (by simp [execOp, ho, he, hr]) (.p _ _ (.agg _ _ (by simp; omega) (fun c hc => hfl c (mem_slice s hc)) fun i c u hi hu => ?_)) (by simp [AV.names])
    rw [List.getElem?_take] at hi
    split at hi
    · rename_i hlt
      rw [List.getElem?_drop] at hi
      simp [hlt] at hu
      subst hu
      exact hp i c hi
    · cases hi
  · have hr := run_loadAt s hA hS (f := f) (fun j hj => by
      have hj : j = 0 := by simpa using hj
      subst hj
      exact hc 0 v (by simpa using hc0))
    exact OpOK.pure s (v := f 0) (by simp [execOp, ho, he, hr]) (.p _ _ (hp 0 v (by simpa using hc0))) (by simp [AV.names])

theorem ok_load_cells {t : TypeId} {x : Operand} (ho : o.op = .load t x) {agg : Bool} {size : Nat} (hA : aggT P t = some agg) (hS : sizeT P t = some size) {b off : Nat} (he : a.eval x = .pointer (some ⟨b, off, none⟩))
    {cs : List AV} {c : Array Value} {e : TypeId} (hb : w.heap[b]? = some (.cells c e (0, 0))) (hsz : c.size = cs.length) (hfl : ∀ c ∈ cs, c.flat = true) (h1 : ∀ v ∈ c, v.oneCell' = true)
    (hp : ∀ (i : Nat) (a : AV) (v : Value), cs[i]? = some a → c[i]? = some v → Rep idm m w W a v) (hn : ∀ x ∈ namesL cs, (hget st.H x).isSome = true)
    {v : AV} (hv : partA agg size off cs = some v) : OpOK P idm m w W st.H o a { v } := by
  have hcell : ∀ j, off + j < c.size → w.cell? ((⟨b, off, none⟩ : Addr).add j) = some (c.getD (off + j) undef) := by
    intro j hj
    rw [add_at, cell_of_row w b (off + j) c e (0, 0) hb]
    simp [Array.getElem?_eq_getElem hj, Array.getD_eq_getD_getElem?]
  have hget : ∀ i, i < c.size → c[i]? = some (c.getD i undef) := fun i hi => by simp [Array.getElem?_eq_getElem hi, Array.getD_eq_getD_getElem?]
  rcases partA_some hv with ⟨rfl, hl, rfl⟩ | ⟨rfl, hc0⟩
  · have hr := run_loadAt s hA hS (ad := ⟨b, off, none⟩) (f := fun j => c.getD (off + j) undef) (fun j hj => hcell j (by simp at hj; omega))
    refine OpOK.pure s (v := .agg ((List.range size).map fun j => c.getD (off + j) undef).toArray) (by simp [execOp, ho, he, hr])
      (rep_mkAgg (by simp; omega) (fun c hc => hfl c (mem_slice s hc)) ?_ fun i av u hi hu => ?_) (fun y hy => ?_)
    · intro u hu
      simp at hu
      obtain ⟨j, hj, rfl⟩ := hu
      have hlt : off + j < c.size := by omega
      simp [Array.getElem?_eq_getElem hlt]
      exact h1 _ (Array.getElem_mem hlt)
    · rw [List.getElem?_take] at hi
      split at hi
      · rename_i hlt
        rw [List.getElem?_drop] at hi
        have hlt2 : off + i < c.size := by omega
        simp [hlt, Array.getElem?_eq_getElem hlt2] at hu
        subst hu
        exact hp (off + i) av _ hi (by simp [Array.getElem?_eq_getElem hlt2])
      · cases hi
    · have := names_mkAgg hy
      obtain ⟨q, hq, hq'⟩ := mem_namesL.1 this
      exact hn y (mem_namesL.2 ⟨q, mem_slice s hq, hq'⟩)
  · have hlt : off < c.size := by
      have := (List.getElem?_eq_some_iff.1 hc0).1
      omega
    have hr := run_loadAt s hA hS (ad := ⟨b, off, none⟩) (f := fun j => c.getD (off + j) undef) (fun j hj => hcell j (by simp at hj; omega))
    refine OpOK.pure s (v := c.getD (off + 0) undef) (by simp [execOp, ho, he, hr]) (hp off v _ hc0 (by rw [Nat.add_zero]; exact hget off hlt)) fun y hy => hn y (mem_namesL.2 ⟨v, List.mem_of_getElem? hc0, hy⟩)

theorem ok_load {t : TypeId} {x : Operand} {y : Opd} (ho : o.op = .load t x) {agg : Bool} {size : Nat} (hA : aggT P t = some agg) (hS : sizeT P t = some size) (h : opdL idm x y = true) {v : AV}
    (hv : loadD st.H agg size (ev st.T y) = some v) : OpOK P idm m w W st.H o a { v } := by
  obtain ⟨h1, h2⟩ := opdL_rep h s
  generalize ev st.T y = u at *
  generalize he : a.eval x = ux at *
  cases h1 <;> simp only [loadD, reduceCtorEq] at hv
  · -- a variable
    rename_i x0 o0 b hb
    cases ho' : hget st.H x0 with
    | none => simp [ho'] at hv
    | some ob =>
      rw [ho'] at hv
      cases ob with
      | box cs =>
        simp only at hv
        obtain ⟨b', c, e, g1, g2, g3, g4, g5, g6, g7⟩ := s.h x0 _ ho'
        rw [hb] at g1; cases g1
        exact ok_load_cells s ho hA hS he g2 g3 g4 g5 g6 (fun y hy => s.ch x0 _ y ho' hy) hv
      | _ => simp at hv
  · -- an element
    rename_i x0 i0 o0 b hb
    cases ho' : hget st.H x0 with
    | none => simp [ho'] at hv
    | some ob =>
      rw [ho'] at hv
      cases ob with
      | box cs => simp at hv
      | parr es z fz =>
        simp only at hv
        cases hei : es[i0]? with
        | none => simp [hei] at hv
        | some e =>
          simp only [hei] at hv
          obtain ⟨v', hv', rfl⟩ := Option.map_eq_some_iff.1 hv
          obtain ⟨q0, q1, q2⟩ := s.h x0 _ ho'
          rcases q2 with ⟨q2, rfl, _⟩ | ⟨b', c, ty, q2, q3, q4, q5, q6, q7, q8, q9, q10⟩
          · simp at hei
          · rw [hb] at q2; cases q2
            obtain ⟨qz, qf⟩ := q1 e (List.mem_of_getElem? hei)
            have hil : i0 < es.length := (List.getElem?_eq_some_iff.1 hei).1
            have hbound : ∀ k, k < e.cells.length → i0 * z + k < c.size := by
              intro k hk
              have : (i0 + 1) * z ≤ (m x0).cap * z := Nat.mul_le_mul_right z (by omega)
              rw [Nat.add_mul] at this
              omega
            have hcc : ∀ k, k < e.cells.length → c[i0 * z + k]? = some (c.getD (i0 * z + k) undef) := fun k hk => by
              have := hbound k hk
              simp [Array.getElem?_eq_getElem this, Array.getD_eq_getD_getElem?]
            refine ok_load_plain s ho hA hS he (cs := e.cells) (off := o0) (f := fun j => c.getD (i0 * z + o0 + j) undef) qf ?_ ?_ hv'
            · intro j cc hj
              have hj' := (List.getElem?_eq_some_iff.1 hj).1
              rw [add_at, cell_of_row w b _ c ty (0, 0) q3, q0, Nat.add_assoc (i0 * z)]
              exact hcc _ hj'
            · intro j cc hj
              have hj' := (List.getElem?_eq_some_iff.1 hj).1
              have := q8 i0 (o0 + j) e cc _ hei hj (hcc _ hj')
              rwa [← Nat.add_assoc] at this
      | arr es =>
        simp only at hv
        split at hv
        · rename_i hz
          obtain ⟨rfl, rfl⟩ := hz
          obtain ⟨q0, b', c, e, g1, g2, g3, gc, g4, g5, g6, g7⟩ := s.h x0 _ ho'
          rw [hb] at g1; cases g1
          rw [q0] at he
          exact ok_load_cells s ho hA hS (off := i0) (by rw [he]; simp) g2 g3 g4 g5 g6 (fun y hy => s.ch x0 _ y ho' hy) (by simp [partA, hv])
        · cases hv
  · -- what can't change
    rename_i cs ad f hW hlt hfl hc hp
    obtain ⟨v', hv', rfl⟩ := Option.map_eq_some_iff.1 hv
    exact ok_load_plain s ho hA hS he (cs := cs) (off := 0) (f := f) hfl (fun j c hj => hc j c (by simpa using hj)) (fun j c hj => hp j c (by simpa using hj)) hv'
end
end Go.Ab
