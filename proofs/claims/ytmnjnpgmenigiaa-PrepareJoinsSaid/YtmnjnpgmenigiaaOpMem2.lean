/- A part of the proof: an executor over plain data, shown sound for the model, and what it computes of the functions. -/
import Derived.Test.YtmnjnpgmenigiaaOpMem
set_option linter.all false
/-! Parts of values, indexes, slices. -/
set_option linter.unusedVariables false
set_option linter.unusedSimpArgs false
set_option linter.unusedSectionVars false
namespace Go.Ab
open Go

theorem run_part {P : Program} {t : TypeId} {agg : Bool} {size : Nat} (hA : aggT P t = some agg) (hS : sizeT P t = some size) (vs : Array Value) (off : Nat) (hl : off + (if agg then size else 1) ≤ vs.size) (w : World) :
    (part t vs off).run P w = .ok (if agg then .agg (vs.extract off (off + size)) else vs.getD off undef) w := by
  unfold part
  simp only [Sem.run_bind, run_isAgg hA, Result.andThen_ok]
  cases agg with
  | true => simp only [if_true, Sem.run_bind, run_sizeT hS, Result.andThen_ok, Sem.run_pure]
  | false =>
    have hlt : off < vs.size := by simp at hl; omega
    simp [Array.getElem?_eq_getElem hlt, Array.getD_eq_getD_getElem?]

section
variable {P : Program} {idm : FuncId → FuncId} {N : Nat} {m : NMap} {w : World} {W : Nat → Prop} {st : St} {a : Act} {o : Oper} (s : Sim idm N m w W st a)
include s

/-- A part of a struct's, or an array's, value. -/
theorem part_rep {t : TypeId} {agg : Bool} {size off : Nat} (hA : aggT P t = some agg) (hS : sizeT P t = some size) {x v : AV} {vs : Array Value} (hx : Rep idm m w W x (.agg vs)) (hn : ∀ n ∈ x.names, (hget st.H n).isSome = true)
    (hv : partOf agg size off x = some v) :
    ∃ u, (part t vs off).run P w = .ok u w ∧ Rep idm m w W v u ∧ ∀ n ∈ v.names, (hget st.H n).isSome = true := by
  have hext : ∀ (n i : Nat) (u : Value), off + n ≤ vs.size → (vs.extract off (off + n))[i]? = some u → i < n ∧ vs[off + i]? = some u := by
    intro n i u hl hu
    rw [Array.getElem?_extract] at hu
    split at hu
    · rename_i h; exact ⟨by omega, hu⟩
    · cases hu
  cases hx with
  | undef => simp [partOf] at hv
  | p c _ h =>
    cases h with
    | agg cs _ hl hf h =>
      simp only [partOf] at hv
      obtain ⟨v', hv', rfl⟩ := Option.map_eq_some_iff.1 hv
      rcases partP_some hv' with ⟨rfl, hb, rfl⟩ | ⟨rfl, hc⟩
      · refine ⟨_, run_part hA hS vs off (by simp; omega) w, .p _ _ (.agg _ _ (by simp; omega) (fun c hc => hf c (mem_slice s hc)) fun i c u hi hu => ?_), by simp [AV.names]⟩
        obtain ⟨hlt, hu⟩ := hext size i u (by omega) hu
        rw [List.getElem?_take, if_pos hlt, List.getElem?_drop] at hi
        exact h _ c u hi hu
      · have hlt := (List.getElem?_eq_some_iff.1 hc).1
        refine ⟨_, run_part hA hS vs off (by simp; omega) w, .p _ _ (h off v' _ hc ?_), by simp [AV.names]⟩
        have : off < vs.size := by omega
        simp [Array.getElem?_eq_getElem this, Array.getD_eq_getD_getElem?]
  | agg cs _ hl hf h1 h =>
    simp only [partOf] at hv
    rcases partA_some hv with ⟨rfl, hb, rfl⟩ | ⟨rfl, hc⟩
    · refine ⟨_, run_part hA hS vs off (by simp; omega) w, rep_mkAgg (by simp; omega) (fun c hc => hf c (mem_slice s hc)) (fun u hu => h1 u ?_) (fun i c u hi hu => ?_), fun n hm => ?_⟩
      · obtain ⟨i, hi⟩ := Array.mem_iff_getElem?.1 hu
        obtain ⟨_, hi⟩ := hext size i u (by omega) hi
        exact Array.mem_of_getElem? hi
      · obtain ⟨hlt, hu⟩ := hext size i u (by omega) hu
        rw [List.getElem?_take, if_pos hlt, List.getElem?_drop] at hi
        exact h _ c u hi hu
      · obtain ⟨q, hq, hq'⟩ := mem_namesL.1 (names_mkAgg hm)
        exact hn n (by simp only [AV.names]; exact mem_namesL.2 ⟨q, mem_slice s hq, hq'⟩)
    · have hlt := (List.getElem?_eq_some_iff.1 hc).1
      refine ⟨_, run_part hA hS vs off (by simp; omega) w, h off v _ hc ?_, fun n hm => hn n (by simp only [AV.names]; exact mem_namesL.2 ⟨v, List.mem_of_getElem? hc, hm⟩)⟩
      have : off < vs.size := by omega
      simp [Array.getElem?_eq_getElem this, Array.getD_eq_getD_getElem?]

theorem rep_agg_val {x : AV} {u : Value} (h : Rep idm m w W x u) (hx : (∃ cs, x = .p (.agg cs)) ∨ ∃ cs, x = .agg cs) : ∃ vs, u = .agg vs ∧ vs.size = x.cells.length := by
  rcases hx with ⟨cs, rfl⟩ | ⟨cs, rfl⟩
  · cases h with | p _ _ h => cases h with | agg _ vs hl => exact ⟨vs, rfl, by simpa [AV.cells] using hl⟩
  · cases h with | agg _ vs hl => exact ⟨vs, rfl, hl⟩

theorem ok_fld {t : TypeId} {x : Operand} {f : Nat} {y : Opd} {agg : Bool} {size off : Nat} (ho : o.op = .field t x f) {fs : Array Field} {g : Field} (hu : P.underlying t = some (.struct fs)) (hf : fs[f]? = some g) (hoff : g.offset = off)
    (hA : aggT P g.type = some agg) (hS : sizeT P g.type = some size) (h : opdL idm x y = true) {v : AV} (hv : partOf agg size off (ev st.T y) = some v) : OpOK P idm m w W st.H o a { v } := by
  obtain ⟨h1, h2⟩ := opdL_rep h s
  have hx : (∃ cs, ev st.T y = .p (.agg cs)) ∨ ∃ cs, ev st.T y = .agg cs := by
    unfold partOf at hv
    split at hv
    · rename_i cs e; exact .inl ⟨cs, e⟩
    · rename_i cs e; exact .inr ⟨cs, e⟩
    · cases hv
  obtain ⟨vs, he, _⟩ := rep_agg_val s h1 hx
  rw [he] at h1
  obtain ⟨u, hr, hu', hn⟩ := part_rep s (off := off) hA hS h1 h2 hv
  refine OpOK.pure s (v := u) ?_ hu' hn
  simp [execOp, ho, he, Instr.field, run_underlying hu, hf, asAgg, hoff, hr]

theorem ok_ext {x : Operand} {i : Nat} {y : Opd} (ho : o.op = .extract x i) (h : opdL idm x y = true) {vs : List AV} (hx : ev st.T y = .tup vs) {v : AV} (hv : vs[i]? = some v) : OpOK P idm m w W st.H o a { v } := by
  obtain ⟨h1, h2⟩ := opdL_rep h s
  rw [hx] at h1 h2
  generalize he : a.eval x = u at *
  cases h1 with
  | tup _ us hl hh =>
    have hlt : i < us.size := by have := (List.getElem?_eq_some_iff.1 hv).1; omega
    refine OpOK.pure s (v := us[i]) (by simp [execOp, ho, he, Instr.extract, Array.getElem?_eq_getElem hlt]) (hh i v _ hv (Array.getElem?_eq_getElem hlt)) fun n hn => h2 n (by simp only [AV.names]; exact mem_namesL.2 ⟨v, List.mem_of_getElem? hv, hn⟩)

theorem ok_sidx {t : TypeId} {x i : Operand} {y j : Opd} (ho : o.op = .index t x i) (hu : P.underlying t = some .string) (h : opdL idm x y = true) (hi : opdL idm i j = true) {str : ByteArray} {k : IntKind} {n : Int} {b : UInt8}
    (hx : ev st.T y = .p (.str str)) (hj : ev st.T j = .p (.int k n)) (h0 : 0 ≤ n) (hb : str[n.toNat]? = some b) : OpOK P idm m w W st.H o a { v := .p (.int .u8 b.toNat) } := by
  obtain ⟨h1, _⟩ := opdL_rep h s
  obtain ⟨h2, _⟩ := opdL_rep hi s
  rw [hx] at h1; rw [hj] at h2
  have e1 := h1.str_inv
  have e2 := h2.int_inv
  exact OpOK.pure s (v := .int .u8 b.toNat) (by simp [execOp, ho, e1, e2, Instr.index, asIntOf, run_underlying hu, h0, hb]) (.p _ _ (.int ..)) (by simp [AV.names])

theorem ok_aidx {t e : TypeId} {x i : Operand} {y j : Opd} {agg : Bool} {nn z : Nat} (ho : o.op = .index t x i) (hu : P.underlying t = some (.array nn e)) (hA : aggT P e = some agg) (hS : sizeT P e = some z) (h : opdL idm x y = true) (hi : opdL idm i j = true)
    {k : IntKind} {n : Int} (hj : ev st.T j = .p (.int k n)) (h0 : 0 ≤ n) (hn : n < nn) {v : AV} (hv : partOf agg z (n.toNat * z) (ev st.T y) = some v) : OpOK P idm m w W st.H o a { v } := by
  obtain ⟨h1, h2⟩ := opdL_rep h s
  obtain ⟨h3, _⟩ := opdL_rep hi s
  rw [hj] at h3
  have e2 := h3.int_inv
  have hx : (∃ cs, ev st.T y = .p (.agg cs)) ∨ ∃ cs, ev st.T y = .agg cs := by
    unfold partOf at hv
    split at hv
    · rename_i cs e; exact .inl ⟨cs, e⟩
    · rename_i cs e; exact .inr ⟨cs, e⟩
    · cases hv
  obtain ⟨vs, he, _⟩ := rep_agg_val s h1 hx
  rw [he] at h1
  obtain ⟨u, hr, hu', hn'⟩ := part_rep s (off := n.toNat * z) hA hS h1 h2 hv
  refine OpOK.pure s (v := u) ?_ hu' hn'
  simp [execOp, ho, he, e2, Instr.index, asIntOf, run_underlying hu, h0, hn, run_sizeT hS, hr]

theorem ok_iaddr {t e : TypeId} {x i : Operand} {y j : Opd} {z : Nat} (ho : o.op = .indexAddr t x i) (hu : P.underlying t = some (.slice e)) (hS : sizeT P e = some z) (h : opdL idm x y = true) (hi : opdL idm i j = true)
    {k : IntKind} {n : Int} (hj : ev st.T j = .p (.int k n)) (h0 : 0 ≤ n) {v : AV} (hv : iaddrD st.H z (ev st.T y) n.toNat = some v) : OpOK P idm m w W st.H o a { v } := by
  obtain ⟨h1, h2⟩ := opdL_rep h s
  obtain ⟨h3, _⟩ := opdL_rep hi s
  rw [hj] at h3
  have e2 := h3.int_inv
  generalize ev st.T y = u at *
  generalize he : a.eval x = ux at *
  have hrun : ∀ ad len cap, ux = .slice (some ad) len cap → n < len → (execOp a.eval o).run P w = .ok (.value (.pointer (some (ad.add (n.toNat * z))))) w := by
    rintro ad len cap rfl hlt
    simp [execOp, ho, he, e2, Instr.indexAt, asIntOf, run_underlying hu, h0, hlt, run_sizeT hS]
  cases h1 <;> simp only [iaddrD, reduceCtorEq] at hv
  · -- plain
    rename_i c hc
    cases hc <;> simp only [reduceCtorEq] at hv
    rename_i z' es aa nn cap ad f hn hcap hz ha hcc hp
    cases hei : es[n.toNat]? with
    | none => simp [hei] at hv
    | some el =>
      simp only [hei] at hv
      split at hv
      · rename_i hzz
        subst hzz
        simp only [Option.some.injEq] at hv
        subst hv
        have hne : es ≠ [] := by rintro rfl; simp at hei
        obtain ⟨ha1, ha2, ha3⟩ := ha hne
        subst ha1
        have hlt := (List.getElem?_eq_some_iff.1 hei).1
        obtain ⟨hz1, hz2⟩ := hz el (List.mem_of_getElem? hei)
        exact OpOK.pure s (hrun ad nn cap rfl (by omega)) (.rptr _ _ (fun j => f n.toNat j) (by rw [add_block]; exact ha2) (by rw [add_block]; exact ha3) hz2 (fun j c hj => by rw [add_add]; exact hcc _ j el c hei hj) fun j c hj => hp _ j el c hei hj) (by simp [AV.names])
      · cases hv
  · -- a slice of one's own
    rename_i x0 off len aa c hh hlc
    have go : ∀ {ob : AObj}, hget st.H x0 = some ob → n.toNat < len → (m x0).esz = z → OpOK P idm m w W st.H o a { v := .eptr x0 (off + n.toNat) 0 } := by
      intro ob hob hlt hz
      unfold HslOK at hh
      split at hh
      · omega
      · rename_i b hb
        have haa := hh.2 (by omega)
        subst haa
        refine OpOK.pure s (hrun _ len c rfl (by omega)) ?_ (by simp [AV.names, hob])
        rw [add_at, ← hz, ← Nat.add_mul]
        exact .eptr x0 _ 0 b hb
    cases ho' : hget st.H x0 with
    | none => simp [ho'] at hv
    | some ob =>
      rw [ho'] at hv
      have hrep := s.h x0 _ ho'
      cases ob with
      | box cs => simp at hv
      | parr es z' fz =>
        simp only at hv
        split at hv
        · rename_i hc
          simp only [Option.some.injEq] at hv
          subst hv
          exact go ho' hc.1 (hrep.1.trans hc.2.2)
        · cases hv
      | arr es =>
        simp only at hv
        split at hv
        · rename_i hc
          simp only [Option.some.injEq] at hv
          subst hv
          exact go ho' hc.1 (hrep.1.trans hc.2.2)
        · cases hv

/-- A bound of a slice expression. -/
theorem bound_of {lo : Option Operand} {lo' : Option Opd} (h : oopdL idm lo lo' = true) {d n k : Nat} (hk : natOr (lo'.map (ev st.T)) d n = some k) :
    (lo = none ∧ lo' = none ∧ k = d) ∨ ∃ x kk i, lo = some x ∧ a.eval x = .int kk i ∧ 0 ≤ i ∧ i ≤ n ∧ k = i.toNat := by
  unfold oopdL at h
  split at h
  · simp [natOr] at hk; exact .inl ⟨rfl, rfl, hk.symm⟩
  · rename_i x y
    simp only [Option.map_some, natOr] at hk
    obtain ⟨kk, i, e, h0, h1, h2⟩ := natOf_some hk
    obtain ⟨g, _⟩ := opdL_rep h s
    rw [e] at g
    exact .inr ⟨x, kk, i, rfl, g.int_inv, h0, h1, h2⟩
  · cases h

theorem run_sliceBound {x : Operand} {kk : IntKind} {i : Int} (he : a.eval x = .int kk i) (h0 : 0 ≤ i) {y : Nat} (h1 : i ≤ y) (code : BoundsCode) : (Instr.sliceBound (a.eval x) y code).run P w = .ok i.toNat w := by
  simp [Instr.sliceBound, he, asIntOf, h0, h1]

theorem run_bounds {lo hi mx : Option Operand} {lo' hi' mx' : Option Opd} (hlo : oopdL idm lo lo' = true) (hhi : oopdL idm hi hi' = true) (hmx : oopdL idm mx mx' = true) (isSlice : Bool) {len cap n mm hh ll : Nat} (hn : n ≤ cap)
    (h1 : natOr (mx'.map (ev st.T)) n n = some mm) (h2 : natOr (hi'.map (ev st.T)) len mm = some hh) (h3 : natOr (lo'.map (ev st.T)) 0 hh = some ll) (hlm : mx' ≠ none → hi' ≠ none) :
    (Instr.sliceBounds isSlice len cap (lo.map a.eval) (hi.map a.eval) (mx.map a.eval)).run P w = .ok (ll, hh, if mx' = none then cap else mm) w := by
  rcases bound_of s hmx h1 with ⟨rfl, rfl, rfl⟩ | ⟨xm, km, im, rfl, em, m0, m1, m2⟩
  · rcases bound_of s hhi h2 with ⟨rfl, rfl, rfl⟩ | ⟨xh, kh, ih, rfl, eh, h0', h1', rfl⟩
    · rcases bound_of s hlo h3 with ⟨rfl, rfl, rfl⟩ | ⟨xl, kl, il, rfl, el, l0, l1, rfl⟩
      · simp [Instr.sliceBounds]
      · simp [Instr.sliceBounds, run_sliceBound s el l0 l1]
    · rcases bound_of s hlo h3 with ⟨rfl, rfl, rfl⟩ | ⟨xl, kl, il, rfl, el, l0, l1, rfl⟩
      · simp [Instr.sliceBounds, run_sliceBound s eh h0' (show ih ≤ (cap : Int) by omega)]
      · simp [Instr.sliceBounds, run_sliceBound s eh h0' (show ih ≤ (cap : Int) by omega), run_sliceBound s el l0 l1]
  · have hm' : mx' ≠ none := by rintro rfl; simp [oopdL] at hmx
    rcases bound_of s hhi h2 with ⟨rfl, rfl, rfl⟩ | ⟨xh, kh, ih, rfl, eh, h0', h1', rfl⟩
    · exact absurd rfl (hlm hm')
    · rcases bound_of s hlo h3 with ⟨rfl, rfl, rfl⟩ | ⟨xl, kl, il, rfl, el, l0, l1, rfl⟩
      · subst m2; simp [Instr.sliceBounds, run_sliceBound s em m0 (show im ≤ (cap : Int) by omega), run_sliceBound s eh h0' h1', hm']
      · subst m2; simp [Instr.sliceBounds, run_sliceBound s em m0 (show im ≤ (cap : Int) by omega), run_sliceBound s eh h0' h1', run_sliceBound s el l0 l1, hm']
end
end Go.Ab
