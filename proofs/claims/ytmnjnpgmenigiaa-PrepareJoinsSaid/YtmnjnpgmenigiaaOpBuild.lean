/- A part of the proof: an executor over plain data, shown sound for the model, and what it computes of the functions. -/
import Derived.Test.YtmnjnpgmenigiaaOpHeap
set_option linter.all false
/-! Literals. -/
set_option linter.unusedVariables false
set_option linter.unusedSimpArgs false
set_option linter.unusedSectionVars false
namespace Go.Ab
open Go

theorem fold_set (off : Nat) : ∀ (vs : List Value) (k : Nat) (cs : Array Value), ((vs.zipIdx k).foldl (fun cs (x : Value × Nat) => cs.setIfInBounds (off + x.2) x.1) cs).size = cs.size ∧
    ∀ q, ((vs.zipIdx k).foldl (fun cs (x : Value × Nat) => cs.setIfInBounds (off + x.2) x.1) cs)[q]? = if off + k ≤ q ∧ q < off + k + vs.length ∧ q < cs.size then vs[q - (off + k)]? else cs[q]?
  | [], k, cs => by
    refine ⟨rfl, fun q => ?_⟩
    simp only [List.zipIdx_nil, List.foldl_nil, List.length_nil, Nat.add_zero]
    rw [if_neg (by omega)]
  | v :: vs, k, cs => by
    obtain ⟨h1, h2⟩ := fold_set off vs (k + 1) (cs.setIfInBounds (off + k) v)
    simp only [List.zipIdx_cons, List.foldl_cons]
    refine ⟨by rw [h1]; simp, fun q => ?_⟩
    rw [h2 q]
    rcases Nat.lt_trichotomy q (off + k) with hlt | heq | hgt
    · rw [if_neg (by omega), Array.getElem?_setIfInBounds, if_neg (by omega), if_neg (by omega)]
    · subst heq
      rw [if_neg (by omega), Array.getElem?_setIfInBounds, if_pos rfl]
      by_cases hq : off + k < cs.size
      · rw [if_pos hq, if_pos ⟨Nat.le_refl _, by simp only [List.length_cons]; omega, hq⟩]; simp
      · rw [if_neg hq, if_neg (by omega), Array.getElem?_eq_none (by omega)]
    · by_cases hc : q < off + (k + 1) + vs.length ∧ q < cs.size
      · rw [if_pos ⟨by omega, hc.1, by simpa using hc.2⟩, if_pos ⟨by omega, by simp only [List.length_cons]; omega, hc.2⟩]
        obtain ⟨d, hd⟩ : ∃ d, q - (off + k) = d + 1 := ⟨q - (off + k) - 1, by omega⟩
        rw [hd, List.getElem?_cons_succ]
        congr 1
        omega
      · rw [if_neg (by simp only [Array.size_setIfInBounds]; omega), Array.getElem?_setIfInBounds, if_neg (by omega), if_neg (by simp only [List.length_cons]; omega)]

theorem fill_cons (place : Nat → Option (Nat × Nat)) (arr : Array Value) (i : Nat) (v : Value) (rest : List (Nat × Value)) {off : Nat} (hp : place i = some (off, v.cells.size)) (hl : off + v.cells.size ≤ arr.size) :
    ∃ arr', Instr.fill place arr ((i, v) :: rest) = Instr.fill place arr' rest ∧ arr'.size = arr.size ∧ ∀ q, arr'[q]? = if off ≤ q ∧ q < off + v.cells.size then v.cells[q - off]? else arr[q]? := by
  obtain ⟨h1, h2⟩ := fold_set off v.cells.toList 0 arr
  refine ⟨(v.cells.toList.zipIdx 0).foldl (fun cs (x : Value × Nat) => cs.setIfInBounds (off + x.2) x.1) arr, ?_, h1, fun q => ?_⟩
  · simp only [Instr.fill, hp, ne_eq, not_true_eq_false, decide_false, Bool.false_or]
    rw [if_neg (by simp; omega)]
    congr 1
    rw [← Array.foldl_toList, Array.toList_zipIdx]
  · rw [h2 q]
    simp only [Nat.add_zero, Array.length_toList, Array.getElem?_toList]
    by_cases hc : off ≤ q ∧ q < off + v.cells.size
    · rw [if_pos ⟨hc.1, hc.2, by omega⟩, if_pos hc]
    · rw [if_neg (by omega), if_neg hc]

/-- Cells that a row holds. -/
structure CRep (idm : FuncId → FuncId) (m : NMap) (w : World) (W : Nat → Prop) (cs : List AV) (vs : Array Value) : Prop where
  hl : vs.size = cs.length
  hf : ∀ c ∈ cs, c.flat = true
  h1 : ∀ v ∈ vs, v.oneCell' = true
  h : ∀ (i : Nat) (c : AV) (v : Value), cs[i]? = some c → vs[i]? = some v → Rep idm m w W c v

theorem CRep.splice {idm : FuncId → FuncId} {m : NMap} {w : World} {W : Nat → Prop} {cs : List AV} {vs : Array Value} (h : CRep idm m w W cs vs) {c : AV} {v : Value} (hc : Rep idm m w W c v) (ho : c.okv = true) {off : Nat}
    (hl : off + c.cells.length ≤ cs.length) {vs' : Array Value} (hs : vs'.size = vs.size) (hg : ∀ q, vs'[q]? = if off ≤ q ∧ q < off + v.cells.size then v.cells[q - off]? else vs[q]?) :
    CRep idm m w W (cs.take off ++ c.cells ++ cs.drop (off + c.cells.length)) vs' := by
  obtain ⟨g1, g2, g3, g4, _⟩ := hc.cells ho
  have hget : ∀ q, (cs.take off ++ c.cells ++ cs.drop (off + c.cells.length))[q]? = if off ≤ q ∧ q < off + c.cells.length then c.cells[q - off]? else cs[q]? := by
    intro q
    rw [List.append_assoc, List.getElem?_append]
    have e1 : (cs.take off).length = off := by simp; omega
    rw [e1]
    by_cases h1 : q < off
    · rw [if_pos h1, if_neg (by omega), List.getElem?_take, if_pos h1]
    · rw [if_neg h1, List.getElem?_append]
      by_cases h2 : q - off < c.cells.length
      · rw [if_pos h2, if_pos ⟨by omega, by omega⟩]
      · rw [if_neg h2, if_neg (by omega), List.getElem?_drop]
        congr 1
        omega
  have hlen : (cs.take off ++ c.cells ++ cs.drop (off + c.cells.length)).length = cs.length := by simp; omega
  refine ⟨by rw [hs, h.hl, hlen], fun x hx => ?_, fun u hu => ?_, fun q x u hx hu => ?_⟩
  · rw [List.append_assoc] at hx
    rcases List.mem_append.1 hx with hx | hx
    · exact h.hf x (List.mem_of_mem_take hx)
    · rcases List.mem_append.1 hx with hx | hx
      · exact g2 x hx
      · exact h.hf x (List.mem_of_mem_drop hx)
  · obtain ⟨q, hq⟩ := Array.mem_iff_getElem?.1 hu
    rw [hg q] at hq
    split at hq
    · exact g3 u (Array.mem_of_getElem? hq)
    · exact h.h1 u (Array.mem_of_getElem? hq)
  · rw [hget q] at hx
    rw [hg q, g1] at hu
    split at hx
    · rename_i hc'; rw [if_pos hc'] at hu; exact g4 _ x u hx hu
    · rename_i hc'; rw [if_neg hc'] at hu; exact h.h q x u hx hu

section
variable {P : Program} {idm : FuncId → FuncId} {N : Nat} {m : NMap} {w : World} {W : Nat → Prop} {st : St} {a : Act} {o : Oper} (s : Sim idm N m w W st a)
include s

theorem fill_parts (place : Nat → Option (Nat × Nat)) : ∀ (ps : List (Nat × Operand)) (qs : List (Nat × Nat × Opd)) (cs cs' : List AV) (vs : Array Value),
    ps.length = qs.length → (∀ (k : Nat) (p : Nat × Operand) (q : Nat × Nat × Opd), ps[k]? = some p → qs[k]? = some q → place p.1 = some (q.1, q.2.1) ∧ opdL idm p.2 q.2.2 = true) →
    CRep idm m w W cs vs → fillA cs (evParts st.T qs) = some cs' → (∀ x ∈ namesL cs, (hget st.H x).isSome = true) →
    ∃ vs', Instr.fill place vs (ps.map fun (i, x) => (i, a.eval x)) = some vs' ∧ CRep idm m w W cs' vs' ∧ ∀ x ∈ namesL cs', (hget st.H x).isSome = true
  | [], [], cs, cs', vs, _, _, hc, hf, hn => by
    simp only [evParts, fillA, Option.some.injEq] at hf
    subst hf
    exact ⟨vs, rfl, hc, hn⟩
  | (i, x) :: ps, (off, size, y) :: qs, cs, cs', vs, hl, hp, hc, hf, hn => by
    obtain ⟨hp1, hp2⟩ := hp 0 (i, x) (off, size, y) rfl rfl
    dsimp only at hp1 hp2
    obtain ⟨h1, h2⟩ := opdL_rep hp2 s
    simp only [evParts, fillA] at hf
    split at hf
    · rename_i hcond
      obtain ⟨ho, hsz, hle⟩ := hcond
      obtain ⟨g1, g2, g3, g4, g5⟩ := h1.cells ho
      obtain ⟨vs1, e1, e2, e3⟩ := fill_cons place vs i (a.eval x) (ps.map fun (i, x) => (i, a.eval x)) (off := off) (by rw [hp1, g1, hsz]) (by rw [hc.hl, g1, hsz]; exact hle)
      have hc1 := hc.splice h1 ho (off := off) (by omega) e2 e3
      rw [hsz] at hc1
      obtain ⟨vs', f1, f2, f3⟩ := fill_parts place ps qs _ cs' vs1 (by simpa using hl) (fun k p q h1 h2 => hp (k + 1) p q (by simpa using h1) (by simpa using h2)) hc1 hf (fun n hn' => by
        obtain ⟨c, hc', hx⟩ := mem_namesL.1 hn'
        rw [List.append_assoc] at hc'
        rcases List.mem_append.1 hc' with hx' | hx'
        · exact hn n (mem_namesL.2 ⟨c, List.mem_of_mem_take hx', hx⟩)
        · rcases List.mem_append.1 hx' with hx' | hx'
          · exact h2 n (g5 n (mem_namesL.2 ⟨c, hx', hx⟩))
          · exact hn n (mem_namesL.2 ⟨c, List.mem_of_mem_drop hx', hx⟩))
      exact ⟨vs', by rw [List.map_cons]; exact e1.trans f1, f2, f3⟩
    · cases hf
  | [], _ :: _, cs, cs', vs, hl, _, _, _, _ => by simp at hl
  | _ :: _, [], cs, cs', vs, hl, _, _, _, _ => by simp at hl

theorem znews_nil {r i : Nat} : ∀ {zs : List ZC} {j : Nat}, znews r i j zs = [] → ∀ z, ZC.new z ∉ zs
  | [], j, _, z, h => by cases h
  | .c v :: zs, j, h, z, hz => by
    simp only [znews] at h
    rcases List.mem_cons.1 hz with h' | h'
    · cases h'
    · exact znews_nil h z h'
  | .nils v :: zs, j, h, z, hz => by
    simp only [znews] at h
    rcases List.mem_cons.1 hz with h' | h'
    · cases h'
    · exact znews_nil h z h'
  | .new v :: zs, j, h, z, hz => by simp [znews] at h

theorem zcells_crep {r i : Nat} {vs : Array Value} {zs : List ZC} (h : zcsL vs.toList zs = true) (hz : znews r i 0 zs = []) : CRep idm m w W (zcells r i 0 zs) vs ∧ namesL (zcells r i 0 zs) = [] := by
  obtain ⟨g1, g2, g3, g4, g5⟩ := zcells_rep (idm := idm) (m := m) (w := w) (W := W) (r := r) (i := i) (l := ⟨none, 0, 0⟩) h
  have hn : namesL (zcells r i 0 zs) = [] := by
    rw [List.eq_nil_iff_forall_not_mem]
    intro x hx
    have := g5 x hx
    rw [hz] at this
    simp [upNs] at this
  refine ⟨⟨g1, g2, g3, fun k c v hc hv => (g4 k c v hc hv).same fun x hx => ?_⟩, hn⟩
  have : x ∈ namesL (zcells r i 0 zs) := mem_namesL.2 ⟨c, List.mem_of_getElem? hc, hx⟩
  rw [hn] at this; cases this

theorem fpartsL_get {fs : Array Field} : ∀ {ps : List (Nat × Operand)} {qs : List (Nat × Nat × Opd)}, fpartsL P idm fs ps qs = true → ps.length = qs.length ∧
    ∀ (k : Nat) (p : Nat × Operand) (q : Nat × Nat × Opd), ps[k]? = some p → qs[k]? = some q → (∃ f, fs[p.1]? = some f ∧ f.offset = q.1 ∧ sizeT P f.type = some q.2.1) ∧ opdL idm p.2 q.2.2 = true
  | [], [], _ => ⟨rfl, fun k p q h => by simp at h⟩
  | (i, x) :: ps, (o, sz, y) :: qs, h => by
    simp only [fpartsL, Bool.and_eq_true] at h
    obtain ⟨h1, h2⟩ := fpartsL_get h.2
    refine ⟨by simp [h1], fun k p q hp hq => ?_⟩
    cases k with
    | zero =>
      simp at hp hq
      subst hp; subst hq
      refine ⟨?_, h.1.2⟩
      have := h.1.1
      split at this
      · rename_i f hf
        simp only [Bool.and_eq_true, beq_iff_eq] at this
        exact ⟨f, hf, this.1, this.2⟩
      · cases this
    | succ k => exact h2 k p q (by simpa using hp) (by simpa using hq)
  | [], _ :: _, h => by simp [fpartsL] at h
  | _ :: _, [], h => by simp [fpartsL] at h

theorem apartsL_get {e : TypeId} : ∀ {ps : List (Nat × Operand)} {qs : List (Nat × Nat × Opd)}, apartsL P idm e ps qs = true → ps.length = qs.length ∧
    ∀ (k : Nat) (p : Nat × Operand) (q : Nat × Nat × Opd), ps[k]? = some p → qs[k]? = some q → (sizeT P e = some q.2.1 ∧ q.1 = p.1 * q.2.1) ∧ opdL idm p.2 q.2.2 = true
  | [], [], _ => ⟨rfl, fun k p q h => by simp at h⟩
  | (i, x) :: ps, (o, sz, y) :: qs, h => by
    simp only [apartsL, Bool.and_eq_true, beq_iff_eq] at h
    obtain ⟨h1, h2⟩ := apartsL_get h.2
    refine ⟨by simp [h1], fun k p q hp hq => ?_⟩
    cases k with
    | zero => simp at hp hq; subst hp; subst hq; exact ⟨h.1.1, h.1.2⟩
    | succ k => exact h2 k p q (by simpa using hp) (by simpa using hq)
  | [], _ :: _, h => by simp [apartsL] at h
  | _ :: _, [], h => by simp [apartsL] at h

theorem run_mapM_list {α β : Type} (f : α → Sem β) (g : α → β) : ∀ (l : List α), (∀ x ∈ l, (f x).run P w = .ok (g x) w) → (l.mapM f : Sem (List β)).run P w = .ok (l.map g) w
  | [], _ => by simp
  | x :: l, h => by
    have ih := run_mapM_list f g l fun y hy => h y (List.mem_cons_of_mem _ hy)
    simp [List.mapM_cons, h x List.mem_cons_self, ih]

theorem run_places (fs : Array Field) (h : ∀ f ∈ fs, (sizeT P f.type).isSome = true) :
    (fs.mapM (fun f => do pure (f.offset, ← sizeOf f.type)) : Sem (Array (Nat × Nat))).run P w = .ok (fs.map fun f => (f.offset, (sizeT P f.type).getD 0)) w := by
  rw [Array.mapM_eq_mapM_toList]
  have := run_mapM_list (P := P) s (fun f : Field => (do pure (f.offset, ← sizeOf f.type) : Sem (Nat × Nat))) (fun f => (f.offset, (sizeT P f.type).getD 0)) fs.toList (fun f hf => by
    obtain ⟨n, hn⟩ := Option.isSome_iff_exists.1 (h f (by simpa using hf))
    simp [run_sizeT hn, hn])
  rw [map_eq_pure_bind, Sem.run_bind, this]
  simp only [Result.andThen_ok, Sem.run_pure]
  congr 1
  rw [← Array.toList_map, Array.toArray_toList]

theorem ok_build (r i : Nat) {t : TypeId} {ps : Array (Nat × Operand)} {zs : List ZC} {qs : List (Nat × Nat × Opd)} (ho : o.op = .build t ps) {z : Value} (hz : zeroT P t = some z) (hzs : zcsL z.cells.toList zs = true)
    (ht : (∃ fs, P.underlying t = some (.struct fs) ∧ (∀ f ∈ fs, (sizeT P f.type).isSome = true) ∧ fpartsL P idm fs ps.toList qs = true) ∨ ∃ n e, P.underlying t = some (.array n e) ∧ (sizeT P e).isSome = true ∧ apartsL P idm e ps.toList qs = true)
    (hn : znews r i 0 zs = []) {cs : List AV} (hf : fillA (zcells r i 0 zs) (evParts st.T qs) = some cs) : OpOK P idm m w W st.H o a { v := mkAgg cs } := by
  obtain ⟨hc, hnm⟩ := zcells_crep s hzs hn
  obtain ⟨ti, hti, hzz⟩ := Option.bind_eq_some_iff.1 hz
  have fin : ∀ (place : Nat → Option (Nat × Nat)) (vs' : Array Value), CRep idm m w W cs vs' → (∀ x ∈ namesL cs, (hget st.H x).isSome = true) → (execOp a.eval o).run P w = .ok (.value (.agg vs')) w → OpOK P idm m w W st.H o a { v := mkAgg cs } :=
    fun place vs' h hx hr => OpOK.pure s hr (rep_mkAgg h.hl h.hf h.h1 h.h) fun y hy => hx y (names_mkAgg hy)
  rcases ht with ⟨fs, hu, hsz, hp⟩ | ⟨n, e, hu, hsz, hp⟩
  · obtain ⟨l1, l2⟩ := fpartsL_get (P := P) s hp
    obtain ⟨vs', f1, f2, f3⟩ := fill_parts s (fun k => (fs.map fun f => (f.offset, (sizeT P f.type).getD 0))[k]?) ps.toList qs _ cs z.cells l1 (fun k p q h1 h2 => by
      obtain ⟨⟨f, g1, g2, g3⟩, g4⟩ := l2 k p q h1 h2
      exact ⟨by simp [g1, g2, g3], g4⟩) hc hf (by rw [hnm]; simp)
    refine fin (fun _ => none) vs' f2 f3 ?_
    have e1 : (ps.map fun (i, x) => (i, a.eval x)).toList = ps.toList.map fun (i, x) => (i, a.eval x) := by simp
    simp only [execOp, ho, Instr.build, zeroValue, typeInfo, Sem.run_bind, run_program, Result.andThen_ok, hti, hzz, run_underlying hu, run_places (P := P) s fs hsz, Sem.run_pure, e1, f1]
  · obtain ⟨l1, l2⟩ := apartsL_get (P := P) s hp
    obtain ⟨sz, hsz'⟩ := Option.isSome_iff_exists.1 hsz
    obtain ⟨vs', f1, f2, f3⟩ := fill_parts s (fun k => some (k * sz, sz)) ps.toList qs _ cs z.cells l1 (fun k p q h1 h2 => by
      obtain ⟨⟨g1, g2⟩, g4⟩ := l2 k p q h1 h2
      rw [hsz'] at g1
      injection g1 with g1
      exact ⟨by rw [g2, g1], g4⟩) hc hf (by rw [hnm]; simp)
    refine fin (fun _ => none) vs' f2 f3 ?_
    have e1 : (ps.map fun (i, x) => (i, a.eval x)).toList = ps.toList.map fun (i, x) => (i, a.eval x) := by simp
    simp only [execOp, ho, Instr.build, zeroValue, typeInfo, Sem.run_bind, run_program, Result.andThen_ok, hti, hzz, run_underlying hu, run_sizeT hsz', Sem.run_pure, e1, f1]
end
end Go.Ab
