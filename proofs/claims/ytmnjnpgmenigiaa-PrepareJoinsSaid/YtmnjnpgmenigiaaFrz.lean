/- A part of the proof: an executor over plain data, shown sound for the model, and what it computes of the functions. -/
import Derived.Test.YtmnjnpgmenigiaaOpSl
set_option linter.all false
/-! Slices of one's own become plain; new variables. -/
set_option linter.unusedVariables false
set_option linter.unusedSimpArgs false
set_option linter.unusedSectionVars false
namespace Go.Ab
open Go

/-- What may be written behind a freeze. -/
def Wf (m : NMap) (H : Hp) (ns : List Nm) (W : Nat → Prop) (i : Nat) : Prop :=
  W i ∧ ¬ ∃ x, x ∈ ns ∧ (∃ es z f, hget H x = some (.parr es z f)) ∧ (m x).base = some i

theorem hget_frzUp {H : Hp} : ∀ {ns : List Nm} {x : Nm} {o : AObj}, hget (frzUp H ns) x = some o → ∃ es z f, hget H x = some (.parr es z f) ∧ o = .parr es z true ∧ x ∈ ns
  | [], x, o, h => by simp [frzUp, hget] at h
  | y :: r, x, o, h => by
    simp only [frzUp] at h
    split at h
    · rename_i es z f hy
      simp only [hget] at h
      split at h
      · rename_i e; subst e; simp only [Option.some.injEq] at h; exact ⟨es, z, f, hy, h.symm, List.mem_cons_self⟩
      · obtain ⟨es, z, f, h1, h2, h3⟩ := hget_frzUp h; exact ⟨es, z, f, h1, h2, List.mem_cons_of_mem _ h3⟩
    · obtain ⟨es, z, f, h1, h2, h3⟩ := hget_frzUp h; exact ⟨es, z, f, h1, h2, List.mem_cons_of_mem _ h3⟩

theorem ups_frzUp {H : Hp} : ∀ {ns : List Nm} {x : Nm}, x ∈ upNs (frzUp H ns) → ∃ o, hget (frzUp H ns) x = some o
  | [], x, h => by simp [frzUp, upNs] at h
  | y :: r, x, h => by
    simp only [frzUp] at h ⊢
    split at h
    · rename_i es z f hy
      simp only [upNs, List.mem_cons] at h
      simp only [hget]
      split
      · exact ⟨_, rfl⟩
      · rename_i hne
        rcases h with rfl | h
        · exact absurd rfl hne
        · exact ups_frzUp h
    · exact ups_frzUp h

theorem mem_frzUp {H : Hp} {x : Nm} {es : List PV} {z : Nat} {f : Bool} (hx : hget H x = some (.parr es z f)) : ∀ {ns : List Nm}, x ∈ ns → x ∈ upNs (frzUp H ns)
  | [], h => by cases h
  | y :: r, h => by
    simp only [frzUp]
    rcases List.mem_cons.1 h with rfl | h
    · simp [hx, upNs]
    · split
      · exact List.mem_cons_of_mem _ (mem_frzUp hx h)
      · exact mem_frzUp hx h

section
variable {idm : FuncId → FuncId} {m : NMap} {w : World} {W : Nat → Prop} {H : Hp}

theorem Good.freeze (s : SimH idm m w W H) (ns : List Nm) (v : AV) : Good idm m w W H { v, up := frzUp H ns } m w (Wf m H ns W) where
  k := Keep.refl _ w
  sub := fun i _ h => h.1
  sup := fun i hi hW hn => ⟨hW, fun ⟨x, hx, ⟨es, z, f, hp⟩, hb⟩ => by
    cases f with
    | false => exact hn ⟨x, _, mem_frzUp hp hx, hp, rfl, hb⟩
    | true =>
      obtain ⟨_, _, h⟩ := s.h x _ hp
      rcases h with ⟨h, _⟩ | ⟨b, c, e, h2, h3, h4, h5, h6, h7, h8, h9, h10⟩
      · rw [hb] at h; cases h
      · rw [hb] at h2; cases h2; exact h10 rfl hW⟩
  lt := fun i h => s.lt i h.1
  mm := fun _ _ _ => rfl
  up := fun x o ho => by
    obtain ⟨es, z, f, h1, rfl, h3⟩ := hget_frzUp ho
    refine ⟨?_, fun y hy => by simp [AObj.names] at hy⟩
    obtain ⟨q0, q1, q2⟩ := s.h x _ h1
    refine ⟨q0, q1, ?_⟩
    rcases q2 with q2 | ⟨b, c, e, g2, g3, g4, g5, g6, g7, g8, g9, g10⟩
    · exact .inl q2
    · exact .inr ⟨b, c, e, g2, g3, g4, g5, g6, g7, fun i j e a v he ha hv => (g8 i j e a v he ha hv).keep (Keep.refl (fun _ => False) w) (fun _ h => h.elim) fun _ _ h => h.1,
        fun h => by simp at h, fun _ hx => hx.2 ⟨x, h3, ⟨es, z, f, h1⟩, g2⟩⟩
  ups := fun x hx => ups_frzUp hx
  b1 := fun x o b ho hb _ => by
    obtain ⟨es, z, f, h1, rfl, h3⟩ := hget_frzUp ho
    exact ⟨_, h1, hb, fun h => by simp [AObj.frozen] at h⟩
  b2 := fun x y b hx _ hge hb _ => by
    obtain ⟨o, ho⟩ := ups_frzUp hx
    obtain ⟨es, z, f, h1, _, _⟩ := hget_frzUp ho
    have := (s.h x _ h1).lt hb
    omega
  pgu := fun x h => by simp at h
  ext := fun _ => rfl

theorem Rep.frz_keep {c : AV} {v : Value} (h : Rep idm m w W c v) (ns : List Nm) : Rep idm m w (Wf m H ns W) c v :=
  h.keep (Keep.refl (fun _ => False) w) (fun _ h => h.elim) (fun _ _ h => h.1) fun _ _ => rfl

/-- What a slice of one's own holds. -/
theorem hsl_plain (s : SimH idm m w W H) {x : Nm} {off len : Nat} {aa : Option Addr} {c : Nat} (hh : HslOK (m x) off len aa c) (hlc : len ≤ c) {z : Nat} {es : List PV} (he : elems H (.hsl x off len) = some (z, es))
    {ns : List Nm} (hx : x ∈ ns) : PRep w (Wf m H ns W) (.sl z es) (.slice aa len c) := by
  simp only [elems] at he
  cases ho : hget H x with
  | none => simp [ho] at he
  | some ob =>
    rw [ho] at he
    cases ob with
    | box => simp at he
    | arr => simp at he
    | parr es0 z0 f =>
      simp only at he
      split at he
      · rename_i hle
        simp only [Option.some.injEq, Prod.mk.injEq] at he
        obtain ⟨rfl, rfl⟩ := he
        obtain ⟨q0, q1, q2⟩ := s.h x _ ho
        have hlen : ((es0.drop off).take len).length = len := by simp; omega
        have hmem : ∀ {e : PV}, e ∈ (es0.drop off).take len → e ∈ es0 := fun h => List.mem_of_mem_drop (List.mem_of_mem_take h)
        have hgi : ∀ {i : Nat} {e : PV}, ((es0.drop off).take len)[i]? = some e → i < len ∧ es0[off + i]? = some e := by
          intro i e hi
          rw [List.getElem?_take] at hi
          split at hi
          · rename_i hlt; rw [List.getElem?_drop] at hi; exact ⟨hlt, hi⟩
          · cases hi
        rcases q2 with ⟨q2, rfl, q3⟩ | ⟨b, ca, ety, g2, g3, g4, g5, g6, g7, g8, g9, g10⟩
        · simp only [List.drop_nil, List.take_nil]
          exact .sl _ [] aa len c ⟨0, 0, none⟩ (fun _ _ => .nilFunc) (by simp at hle; simp; omega) hlc (fun _ h => by cases h) (fun h => absurd rfl h) (fun i j e c h => by simp at h) (fun i j e c h => by simp at h)
        · unfold HslOK at hh
          rw [g2] at hh
          simp only at hh
          have hidx : ∀ {i j : Nat} {e a : PV}, ((es0.drop off).take len)[i]? = some e → e.cells[j]? = some a → (off + i) * z0 + j < ca.size := by
            intro i j e a hi hj
            obtain ⟨h1, h2⟩ := hgi hi
            have h3 := (List.getElem?_eq_some_iff.1 h2).1
            have h4 := (List.getElem?_eq_some_iff.1 hj).1
            have h5 := (q1 e (List.mem_of_getElem? h2)).1
            have : (off + i + 1) * z0 ≤ (m x).cap * z0 := Nat.mul_le_mul_right z0 (by omega)
            rw [Nat.add_mul] at this
            omega
          refine .sl _ _ aa len c ⟨b, off * z0, none⟩ (fun i j => ca.getD ((off + i) * z0 + j) undef) hlen hlc (fun e he => q1 e (hmem he)) (fun hne => ?_) (fun i j e a hi hj => ?_) fun i j e a hi hj => ?_
          · have hpos : 0 < len := by
              rcases Nat.eq_zero_or_pos len with h | h
              · subst h; simp at hne
              · exact h
            have := hh.2 hpos
            rw [q0] at this
            exact ⟨this, fun hw => hw.2 ⟨x, hx, ⟨_, _, _, ho⟩, g2⟩, (Array.getElem?_eq_some_iff.1 g3).1⟩
          · have hlt := hidx hi hj
            rw [add_at, cell_of_row w b _ ca ety (0, 0) g3]
            have : off * z0 + (i * z0 + j) = (off + i) * z0 + j := by rw [Nat.add_mul]; omega
            rw [this]
            simp [Array.getElem?_eq_getElem hlt, Array.getD_eq_getD_getElem?]
          · have hlt := hidx hi hj
            exact (g8 (off + i) j e a _ (hgi hi).2 hj (by simp [Array.getElem?_eq_getElem hlt, Array.getD_eq_getD_getElem?])).keep (Keep.refl (fun _ => False) w) (fun _ h => h.elim) fun _ _ h => h.1
      · cases he

theorem frz1_rep (s : SimH idm m w W H) {v v' : AV} {u : Value} (h : Rep idm m w W v u) (e : frz1 H v = some v') {ns : List Nm} (hns : ∀ x ∈ hslN v, x ∈ ns) :
    Rep idm m w (Wf m H ns W) v' u ∧ (∀ x ∈ v'.names, x ∈ v.names) ∧ (v.flat = true → v'.flat = true) := by
  cases h with
  | nils z a =>
    simp only [frz1, Option.some.injEq] at e
    subst e
    exact ⟨.p _ _ (.sl z [] a 0 0 ⟨0, 0, none⟩ (fun _ _ => .nilFunc) rfl (Nat.le_refl _) (fun _ h => by cases h) (fun h => absurd rfl h) (fun i j e c h => by simp at h) (fun i j e c h => by simp at h)), by simp [AV.names], fun _ => rfl⟩
  | hsl x off len aa c hh hlc =>
    simp only [frz1] at e
    cases he : elems H (.hsl x off len) with
    | none => simp [he] at e
    | some p =>
      obtain ⟨z, es⟩ := p
      simp only [he, Option.some.injEq] at e
      subst e
      exact ⟨.p _ _ (hsl_plain s hh hlc he (hns x (by simp [hslN]))), by simp [AV.names], fun _ => rfl⟩
  | undef => simp only [frz1, Option.some.injEq] at e; subst e; exact ⟨.undef _, fun _ h => h, fun h => h⟩
  | ub b => simp only [frz1, Option.some.injEq] at e; subst e; exact ⟨.ub b, fun _ h => h, fun h => h⟩
  | p c v h => simp only [frz1, Option.some.injEq] at e; subst e; exact ⟨(Rep.p c _ h).frz_keep ns, fun _ h => h, fun h => h⟩
  | agg cs vs hl hf h1 h => simp only [frz1, Option.some.injEq] at e; subst e; exact ⟨(Rep.agg cs vs hl hf h1 h).frz_keep ns, fun _ h => h, fun h => h⟩
  | tup cs vs hl h => simp only [frz1, Option.some.injEq] at e; subst e; exact ⟨(Rep.tup cs vs hl h).frz_keep ns, fun _ h => h, fun h => h⟩
  | ptr x off b hb => simp only [frz1, Option.some.injEq] at e; subst e; exact ⟨(Rep.ptr x off b hb).frz_keep ns, fun _ h => h, fun h => h⟩
  | eptr x i off b hb => simp only [frz1, Option.some.injEq] at e; subst e; exact ⟨(Rep.eptr x i off b hb).frz_keep ns, fun _ h => h, fun h => h⟩
  | rptr cs ad f hW hlt hf hc h => simp only [frz1, Option.some.injEq] at e; subst e; exact ⟨(Rep.rptr cs ad f hW hlt hf hc h).frz_keep ns, fun _ h => h, fun h => h⟩
  | fn f a b va vb ha hb h h' => simp only [frz1, Option.some.injEq] at e; subst e; exact ⟨(Rep.fn f a b va vb ha hb h h').frz_keep ns, fun _ h => h, fun h => h⟩

theorem frzL1_get : ∀ {cs cs' : List AV}, frzL1 H cs = some cs' → cs'.length = cs.length ∧ ∀ (i : Nat) (c' : AV), cs'[i]? = some c' → ∃ c, cs[i]? = some c ∧ frz1 H c = some c'
  | [], cs', h => by simp only [frzL1, Option.some.injEq] at h; subst h; exact ⟨rfl, fun i c h => by simp at h⟩
  | v :: r, cs', h => by
    simp only [frzL1] at h
    cases hv : frz1 H v with
    | none => simp [hv] at h
    | some v' => cases hr : frzL1 H r with
      | none => simp [hv, hr] at h
      | some r' =>
        simp only [hv, hr, Option.some.injEq] at h
        subst h
        obtain ⟨h1, h2⟩ := frzL1_get hr
        refine ⟨by simp [h1], fun i c hi => ?_⟩
        cases i with
        | zero => simp at hi; subst hi; exact ⟨v, rfl, hv⟩
        | succ i => simp at hi; obtain ⟨c', hc', e⟩ := h2 i c hi; exact ⟨c', by simpa using hc', e⟩

/-- Cells that are frozen. -/
theorem frzL1_rep (s : SimH idm m w W H) {cs cs' : List AV} {vs : Array Value} (hl : vs.size = cs.length) (h : ∀ (i : Nat) (c : AV) (v : Value), cs[i]? = some c → vs[i]? = some v → Rep idm m w W c v)
    (e : frzL1 H cs = some cs') {ns : List Nm} (hns : ∀ x ∈ cs.flatMap hslN, x ∈ ns) :
    vs.size = cs'.length ∧ (∀ (i : Nat) (c : AV) (v : Value), cs'[i]? = some c → vs[i]? = some v → Rep idm m w (Wf m H ns W) c v) ∧ (∀ x ∈ namesL cs', x ∈ namesL cs) ∧ ((∀ c ∈ cs, c.flat = true) → ∀ c ∈ cs', c.flat = true) := by
  obtain ⟨h1, h2⟩ := frzL1_get e
  have hin : ∀ {i : Nat} {c : AV}, cs[i]? = some c → ∀ x ∈ hslN c, x ∈ ns := fun hi x hx => hns x (List.mem_flatMap.2 ⟨_, List.mem_of_getElem? hi, hx⟩)
  have hv : ∀ {i : Nat} {c : AV}, cs[i]? = some c → ∃ v, vs[i]? = some v := fun hi => by
    have := (List.getElem?_eq_some_iff.1 hi).1
    exact ⟨_, Array.getElem?_eq_getElem (by omega)⟩
  refine ⟨by omega, fun i c v hi hvv => ?_, fun x hx => ?_, fun hf c hc => ?_⟩
  · obtain ⟨c0, hc0, e0⟩ := h2 i c hi
    exact (frz1_rep s (h i c0 v hc0 hvv) e0 (hin hc0)).1
  · obtain ⟨c, hc, hx⟩ := mem_namesL.1 hx
    obtain ⟨i, hi⟩ := List.mem_iff_getElem?.1 hc
    obtain ⟨c0, hc0, e0⟩ := h2 i c hi
    obtain ⟨v, hvv⟩ := hv hc0
    exact mem_namesL.2 ⟨c0, List.mem_of_getElem? hc0, (frz1_rep s (h i c0 v hc0 hvv) e0 (hin hc0)).2.1 x hx⟩
  · obtain ⟨i, hi⟩ := List.mem_iff_getElem?.1 hc
    obtain ⟨c0, hc0, e0⟩ := h2 i c hi
    obtain ⟨v, hvv⟩ := hv hc0
    exact (frz1_rep s (h i c0 v hc0 hvv) e0 (hin hc0)).2.2 (hf c0 (List.mem_of_getElem? hc0))

theorem frz_rep (s : SimH idm m w W H) {v v' : AV} {u : Value} (h : Rep idm m w W v u) (e : frz H v = some v') {ns : List Nm} (hns : ∀ x ∈ frzNs [v], x ∈ ns) :
    Rep idm m w (Wf m H ns W) v' u ∧ (∀ x ∈ v'.names, x ∈ v.names) := by
  cases h with
  | agg cs vs hl hf h1 h =>
    simp only [frz] at e
    cases he : frzL1 H cs with
    | none => simp [he] at e
    | some cs' =>
      simp only [he, Option.some.injEq] at e
      subst e
      obtain ⟨g1, g2, g3, g4⟩ := frzL1_rep s hl h he (ns := ns) (fun x hx => hns x (by simpa [frzNs] using hx))
      exact ⟨rep_mkAgg g1 (g4 hf) h1 g2, fun x hx => by simp only [AV.names]; exact g3 x (names_mkAgg hx)⟩
  | tup cs vs hl h =>
    simp only [frz] at e
    cases he : frzL1 H cs with
    | none => simp [he] at e
    | some cs' =>
      simp only [he, Option.some.injEq] at e
      subst e
      obtain ⟨g1, g2, g3, g4⟩ := frzL1_rep s hl h he (ns := ns) (fun x hx => hns x (by simpa [frzNs] using hx))
      exact ⟨.tup _ _ g1 g2, fun x hx => by simp only [AV.names] at hx ⊢; exact g3 x hx⟩
  | undef => exact (frz1_rep s (.undef u) e (fun x hx => hns x (by simpa [frzNs] using hx))).imp (fun h => h) (fun h => h.1)
  | ub b => exact (frz1_rep s (.ub b) e (fun x hx => hns x (by simpa [frzNs] using hx))).imp (fun h => h) (fun h => h.1)
  | p c _ h => exact (frz1_rep s (.p c u h) e (fun x hx => hns x (by simpa [frzNs] using hx))).imp (fun h => h) (fun h => h.1)
  | nils z a => exact (frz1_rep s (.nils z a) e (fun x hx => hns x (by simpa [frzNs] using hx))).imp (fun h => h) (fun h => h.1)
  | hsl x off len aa c hh hlc => exact (frz1_rep s (.hsl x off len aa c hh hlc) e (fun x hx => hns x (by simpa [frzNs] using hx))).imp (fun h => h) (fun h => h.1)
  | ptr x off b hb => exact (frz1_rep s (.ptr x off b hb) e (fun x hx => hns x (by simpa [frzNs] using hx))).imp (fun h => h) (fun h => h.1)
  | eptr x i off b hb => exact (frz1_rep s (.eptr x i off b hb) e (fun x hx => hns x (by simpa [frzNs] using hx))).imp (fun h => h) (fun h => h.1)
  | rptr cs ad f hW hlt hf hc h => exact (frz1_rep s (.rptr cs ad f hW hlt hf hc h) e (fun x hx => hns x (by simpa [frzNs] using hx))).imp (fun h => h) (fun h => h.1)
  | fn f a b va vb ha hb h h' => exact (frz1_rep s (.fn f a b va vb ha hb h h') e (fun x hx => hns x (by simpa [frzNs] using hx))).imp (fun h => h) (fun h => h.1)

/-- New variables: at most one new block. -/
theorem Good.fresh {m' : NMap} {w' : World} {W' : Nat → Prop} (s : SimH idm m w W H) {up : Hp} (v : AV) (kp : Keep (fun _ => False) w w') (hW : ∀ i, W' i ↔ W i ∨ (w.heap.size ≤ i ∧ i < w'.heap.size))
    (fr : ∀ x ∈ upNs up, hget H x = none) (lo : ∀ k, Nm.ext k ∉ upNs up) (mm : ∀ x, x ∉ upNs up → m' x = m x) (bs : ∀ x ∈ upNs up, ∀ b, (m' x).base = some b → w.heap.size ≤ b)
    (uq : ∀ x ∈ upNs up, ∀ y ∈ upNs up, ∀ b, (m' x).base = some b → (m' y).base = some b → x = y) (sm : ∀ x ∈ upNs up, ∃ o, hget up x = some o)
    (ob : ∀ x o, hget up x = some o → ORep idm m' w' W' (m' x) o ∧ ∀ y ∈ o.names, (hget (up ++ H) y).isSome = true) : Good idm m w W H { v, up } m' w' W' where
  k := ⟨kp.os, kp.tape, kp.output, kp.size, fun i hi _ => kp.block i hi (fun h => h)⟩
  sub := fun i hi h => by rcases (hW i).1 h with h | ⟨h, _⟩ <;> first | exact h | omega
  sup := fun i _ h _ => (hW i).2 (.inl h)
  lt := fun i h => by rcases (hW i).1 h with h | ⟨_, h⟩ <;> first | exact Nat.lt_of_lt_of_le (s.lt i h) kp.size | exact h
  mm := fun x hx _ => mm x fun h => by rw [fr x h] at hx; cases hx
  up := fun x o ho => by simpa [pgH] using ob x o ho
  ups := sm
  b1 := fun x o b ho hb hlt => by
    have hx : x ∈ upNs up := by
      rcases Classical.em (x ∈ upNs up) with h | h
      · exact h
      · rw [hget_notin h] at ho; cases ho
    have := bs x hx b hb
    omega
  b2 := fun x y b hx hy _ h1 h2 => uq x hx y hy b h1 h2
  pgu := fun x h => by simp at h
  ext := fun k => mm _ (lo k)
end
end Go.Ab
