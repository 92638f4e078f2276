/- A part of the proof: an executor over plain data, shown sound for the model, and what it computes of the functions. -/
import Derived.Test.YtmnjnpgmenigiaaOpLit
import Derived.Calls
set_option linter.all false
/-! Calls. -/
set_option linter.unusedVariables false
set_option linter.unusedSimpArgs false
set_option linter.unusedSectionVars false
namespace Go.Ab
open Go

/-- From one moment of a frame to a later one. -/
structure Since (m : NMap) (w : World) (W : Nat → Prop) (H : Hp) (m' : NMap) (w' : World) (W' : Nat → Prop) (H' : Hp) : Prop where
  tr : Tr (Own m H) w W w' W' (Own m' H')
  born : ∀ x o b, hget H' x = some o → (m' x).base = some b → b < w.heap.size → ∃ o0, hget H x = some o0 ∧ (m x).base = some b
  ext : ∀ k, m' (.ext k) = m (.ext k)

theorem Since.refl (m : NMap) (w : World) (W : Nat → Prop) (H : Hp) : Since m w W H m w W H :=
  ⟨Tr.refl fun _ h => h, fun x o b h hb _ => ⟨o, h, hb⟩, fun _ => rfl⟩

theorem Since.trans {m m1 m2 : NMap} {w w1 w2 : World} {W W1 W2 : Nat → Prop} {H H1 H2 : Hp} (h : Since m w W H m1 w1 W1 H1) (g : Since m1 w1 W1 H1 m2 w2 W2 H2) : Since m w W H m2 w2 W2 H2 :=
  ⟨h.tr.trans g.tr, fun x o b hx hb hlt => by
    obtain ⟨o1, h1, h2⟩ := g.born x o b hx hb (Nat.lt_of_lt_of_le hlt h.tr.size)
    exact h.born x o1 b h1 h2 hlt, fun k => (g.ext k).trans (h.ext k)⟩

/-- What is forgotten. -/
theorem Since.less {m m1 : NMap} {w w1 : World} {W W1 : Nat → Prop} {H H1 H2 : Hp} (h : Since m w W H m1 w1 W1 H1) (hs : ∀ x o, hget H2 x = some o → hget H1 x = some o) : Since m w W H m1 w1 W1 H2 :=
  ⟨⟨h.tr.toKeep, h.tr.sub, h.tr.sup, fun i hi ⟨x, o, h1, h2, h3⟩ => h.tr.own i hi ⟨x, o, hs x o h1, h2, h3⟩⟩, fun x o b hx => h.born x o b (hs x o hx), h.ext⟩

theorem Good.since {idm : FuncId → FuncId} {m : NMap} {w : World} {W : Nat → Prop} {H : Hp} {d : Dl} {m' : NMap} {w' : World} {W' : Nat → Prop} (g : Good idm m w W H d m' w' W') (s : SimH idm m w W H) :
    Since m w W H m' w' W' (d.up ++ pgH d.pg H) := by
  refine ⟨g.tr, fun x o b hx hb hlt => ?_, g.ext⟩
  rw [hget_append] at hx
  split at hx
  · obtain ⟨o', h1, h2, _⟩ := g.b1 x o b hx hb hlt
    exact ⟨o', h1, h2⟩
  · rename_i hu
    obtain ⟨h1, o', h2, _⟩ := g.old x o hu hx
    exact ⟨o', h2, by rw [← h1]; exact hb⟩

/-- What an operation comes to, whatever follows. -/
def OpStep (P : Program) (idm : FuncId → FuncId) (m : NMap) (w : World) (W : Nat → Prop) (H : Hp) (o : Go.Oper) (a : Act) (d : Dl) : Prop :=
  ∀ (K : Act → World → Prop) (Q : Exit → Act → World → Prop), (∀ v m' w' W', Good idm m w W H d m' w' W' → Rep idm m' w' W' d.v v → (∀ y ∈ d.v.names, (hget (d.up ++ pgH d.pg H) y).isSome = true) → K (a.put o.dst v) w') → o.wp P a w K Q

theorem OpOK.step {P : Program} {idm : FuncId → FuncId} {m : NMap} {w : World} {W : Nat → Prop} {H : Hp} {o : Go.Oper} {a : Act} {d : Dl} (h : OpOK P idm m w W H o a d) : OpStep P idm m w W H o a d := by
  intro K Q hk
  obtain ⟨v, w', m', W', hr, g1, g2, g3⟩ := h
  unfold Oper.wp
  rcases hr with hr | ⟨hr, rfl⟩
  · rw [hr]; exact hk v m' w' W' g1 g2 g3
  · rw [hr]; exact hk undef m' w' W' g1 g2 g3

/-! ### Rows of values -/
structure Reps (idm : FuncId → FuncId) (m : NMap) (w : World) (W : Nat → Prop) (cs : List AV) (vs : Array Value) : Prop where
  hl : vs.size = cs.length
  h : ∀ (i : Nat) (c : AV) (v : Value), cs[i]? = some c → vs[i]? = some v → Rep idm m w W c v

theorem Reps.append {idm : FuncId → FuncId} {m : NMap} {w : World} {W : Nat → Prop} {cs ds : List AV} {vs us : Array Value} (h : Reps idm m w W cs vs) (g : Reps idm m w W ds us) : Reps idm m w W (cs ++ ds) (vs ++ us) := by
  refine ⟨by simp [h.hl, g.hl], fun i c v hc hv => ?_⟩
  rw [List.getElem?_append] at hc
  rw [Array.getElem?_append, h.hl] at hv
  split at hc
  · rename_i hlt; rw [if_pos hlt] at hv; exact h.h i c v hc hv
  · rename_i hlt; rw [if_neg hlt] at hv; exact g.h _ c v hc hv

/-! ### Renaming -/
theorem renL_get {f : Nm → Option Nm} : ∀ {cs cs' : List AV}, renL f cs = some cs' → cs'.length = cs.length ∧ ∀ (i : Nat) (c' : AV), cs'[i]? = some c' → ∃ c, cs[i]? = some c ∧ c.ren f = some c'
  | [], cs', h => by simp only [renL, Option.some.injEq] at h; subst h; exact ⟨rfl, fun i c h => by simp at h⟩
  | v :: r, cs', h => by
    simp only [renL] at h
    cases hv : v.ren f with
    | none => simp [hv] at h
    | some v' => cases hr : renL f r with
      | none => simp [hv, hr] at h
      | some r' =>
        simp only [hv, hr, Option.some.injEq] at h
        subst h
        obtain ⟨h1, h2⟩ := renL_get hr
        refine ⟨by simp [h1], fun i c hi => ?_⟩
        cases i with
        | zero => simp at hi; subst hi; exact ⟨v, rfl, hv⟩
        | succ i => simp at hi; obtain ⟨c', hc', e⟩ := h2 i c hi; exact ⟨c', by simpa using hc', e⟩

theorem renOs_get {f : Nm → Option Nm} : ∀ {cs cs' : List AObj}, renOs f cs = some cs' → cs'.length = cs.length ∧ ∀ (i : Nat) (c' : AObj), cs'[i]? = some c' → ∃ c, cs[i]? = some c ∧ c.ren f = some c'
  | [], cs', h => by simp only [renOs, Option.some.injEq] at h; subst h; exact ⟨rfl, fun i c h => by simp at h⟩
  | v :: r, cs', h => by
    simp only [renOs] at h
    cases hv : v.ren f with
    | none => simp [hv] at h
    | some v' => cases hr : renOs f r with
      | none => simp [hv, hr] at h
      | some r' =>
        simp only [hv, hr, Option.some.injEq] at h
        subst h
        obtain ⟨h1, h2⟩ := renOs_get hr
        refine ⟨by simp [h1], fun i c hi => ?_⟩
        cases i with
        | zero => simp at hi; subst hi; exact ⟨v, rfl, hv⟩
        | succ i => simp at hi; obtain ⟨c', hc', e⟩ := h2 i c hi; exact ⟨c', by simpa using hc', e⟩

theorem hgets_get {H : Hp} : ∀ {ns : List Nm} {os : List AObj}, hgets H ns = some os → os.length = ns.length ∧ ∀ (i : Nat) (o : AObj), os[i]? = some o → ∃ x, ns[i]? = some x ∧ hget H x = some o
  | [], os, h => by simp only [hgets, Option.some.injEq] at h; subst h; exact ⟨rfl, fun i c h => by simp at h⟩
  | v :: r, os, h => by
    simp only [hgets] at h
    cases hv : hget H v with
    | none => simp [hv] at h
    | some v' => cases hr : hgets H r with
      | none => simp [hv, hr] at h
      | some r' =>
        simp only [hv, hr, Option.some.injEq] at h
        subst h
        obtain ⟨h1, h2⟩ := hgets_get hr
        refine ⟨by simp [h1], fun i c hi => ?_⟩
        cases i with
        | zero => simp at hi; subst hi; exact ⟨v, rfl, hv⟩
        | succ i => simp at hi; obtain ⟨c', hc', e⟩ := h2 i c hi; exact ⟨c', by simpa using hc', e⟩

mutual
theorem AV.names_ren (f : Nm → Option Nm) (y : Nm) : ∀ v v' : AV, v.ren f = some v' → y ∈ v'.names → ∃ x ∈ v.names, f x = some y
  | .agg cs, v', h => by
    simp only [AV.ren] at h
    obtain ⟨cs', h1, rfl⟩ := Option.map_eq_some_iff.1 h
    simp only [AV.names]; exact namesL_ren f y cs cs' h1
  | .tup cs, v', h => by
    simp only [AV.ren] at h
    obtain ⟨cs', h1, rfl⟩ := Option.map_eq_some_iff.1 h
    simp only [AV.names]; exact namesL_ren f y cs cs' h1
  | .hsl z o l, v', h => by
    simp only [AV.ren] at h
    obtain ⟨x', h1, rfl⟩ := Option.map_eq_some_iff.1 h
    simp only [AV.names, List.mem_singleton]; rintro rfl; exact ⟨z, rfl, h1⟩
  | .ptr z o, v', h => by
    simp only [AV.ren] at h
    obtain ⟨x', h1, rfl⟩ := Option.map_eq_some_iff.1 h
    simp only [AV.names, List.mem_singleton]; rintro rfl; exact ⟨z, rfl, h1⟩
  | .eptr z i o, v', h => by
    simp only [AV.ren] at h
    obtain ⟨x', h1, rfl⟩ := Option.map_eq_some_iff.1 h
    simp only [AV.names, List.mem_singleton]; rintro rfl; exact ⟨z, rfl, h1⟩
  | .fn g a b, v', h => by
    simp only [AV.ren] at h
    cases ha : renL f a with
    | none => simp [ha] at h
    | some a' => cases hb : renL f b with
      | none => simp [ha, hb] at h
      | some b' =>
        simp only [ha, hb, Option.some.injEq] at h
        subst h
        simp only [AV.names, List.mem_append]
        rintro (h | h)
        · obtain ⟨x, h1, h2⟩ := namesL_ren f y a a' ha h; exact ⟨x, .inl h1, h2⟩
        · obtain ⟨x, h1, h2⟩ := namesL_ren f y b b' hb h; exact ⟨x, .inr h1, h2⟩
  | .undef, v', h => by simp only [AV.ren, Option.some.injEq] at h; subst h; simp [AV.names]
  | .ub, v', h => by simp only [AV.ren, Option.some.injEq] at h; subst h; simp [AV.names]
  | .p v, v', h => by simp only [AV.ren, Option.some.injEq] at h; subst h; simp [AV.names]
  | .nils z, v', h => by simp only [AV.ren, Option.some.injEq] at h; subst h; simp [AV.names]
  | .rptr cs, v', h => by simp only [AV.ren, Option.some.injEq] at h; subst h; simp [AV.names]
theorem namesL_ren (f : Nm → Option Nm) (y : Nm) : ∀ cs cs' : List AV, renL f cs = some cs' → y ∈ namesL cs' → ∃ x ∈ namesL cs, f x = some y
  | [], cs', h => by simp only [renL, Option.some.injEq] at h; subst h; simp [namesL]
  | v :: r, cs', h => by
    simp only [renL] at h
    cases hv : v.ren f with
    | none => simp [hv] at h
    | some v' => cases hr : renL f r with
      | none => simp [hv, hr] at h
      | some r' =>
        simp only [hv, hr, Option.some.injEq] at h
        subst h
        simp only [namesL, List.mem_append]
        rintro (h | h)
        · obtain ⟨x, h1, h2⟩ := AV.names_ren f y v v' hv h; exact ⟨x, .inl h1, h2⟩
        · obtain ⟨x, h1, h2⟩ := namesL_ren f y r r' hr h; exact ⟨x, .inr h1, h2⟩
end

theorem AObj.names_ren (f : Nm → Option Nm) (y : Nm) (o o' : AObj) (h : o.ren f = some o') (hy : y ∈ o'.names) : ∃ x ∈ o.names, f x = some y := by
  cases o with
  | box cs => simp only [AObj.ren] at h; obtain ⟨cs', h1, rfl⟩ := Option.map_eq_some_iff.1 h; exact namesL_ren f y cs cs' h1 hy
  | parr es z b => simp only [AObj.ren, Option.some.injEq] at h; subst h; simp [AObj.names] at hy
  | arr cs => simp only [AObj.ren] at h; obtain ⟨cs', h1, rfl⟩ := Option.map_eq_some_iff.1 h; exact namesL_ren f y cs cs' h1 hy

theorem flat_ren {f : Nm → Option Nm} {v v' : AV} (h : v.ren f = some v') (hf : v.flat = true) : v'.flat = true := by
  cases v <;> simp only [AV.ren] at h
  case fn g a b =>
    cases ha : renL f a with
    | none => simp [ha] at h
    | some a' => cases hb : renL f b with
      | none => simp [ha, hb] at h
      | some b' => simp only [ha, hb, Option.some.injEq] at h; subst h; rfl
  all_goals first
    | (simp only [Option.some.injEq] at h; subst h; exact hf)
    | (obtain ⟨x', h1, rfl⟩ := Option.map_eq_some_iff.1 h; first | rfl | (simp [AV.flat] at hf))
theorem renL_flat {f : Nm → Option Nm} {cs cs' : List AV} (h : renL f cs = some cs') (hf : ∀ c ∈ cs, c.flat = true) : ∀ c ∈ cs', c.flat = true := by
  intro c hc
  obtain ⟨i, hi⟩ := List.mem_iff_getElem?.1 hc
  obtain ⟨c0, h1, h2⟩ := (renL_get h).2 i c hi
  exact flat_ren h2 (hf c0 (List.mem_of_getElem? h1))

theorem Rep.ren {idm : FuncId → FuncId} {m m' : NMap} {w : World} {W : Nat → Prop} {c : AV} {v : Value} (h : Rep idm m w W c v) (f : Nm → Option Nm) :
    ∀ c', c.ren f = some c' → (∀ x ∈ c.names, ∀ y, f x = some y → m' y = m x) → Rep idm m' w W c' v := by
  have keepL : ∀ {cs cs' : List AV} {vs : Array Value}, renL f cs = some cs' → (∀ (i : Nat) (c : AV) (v : Value), cs[i]? = some c → vs[i]? = some v → ∀ c', c.ren f = some c' → (∀ x ∈ c.names, ∀ y, f x = some y → m' y = m x) → Rep idm m' w W c' v) →
      (∀ x ∈ namesL cs, ∀ y, f x = some y → m' y = m x) → ∀ (i : Nat) (c : AV) (v : Value), cs'[i]? = some c → vs[i]? = some v → Rep idm m' w W c v := by
    intro cs cs' vs h ih hm i c v hi hv
    obtain ⟨c0, h1, h2⟩ := (renL_get h).2 i c hi
    exact ih i c0 v h1 hv c h2 fun x hx => hm x (mem_namesL.2 ⟨c0, List.mem_of_getElem? h1, hx⟩)
  induction h with
  | undef v => intro c' h hm; simp only [AV.ren, Option.some.injEq] at h; subst h; exact .undef v
  | ub b => intro c' h hm; simp only [AV.ren, Option.some.injEq] at h; subst h; exact .ub b
  | p c v h' => intro c' h hm; simp only [AV.ren, Option.some.injEq] at h; subst h; exact .p c v h'
  | agg cs vs hl hf h1 h' ih =>
    intro c' h hm
    simp only [AV.ren] at h
    obtain ⟨cs', h2, rfl⟩ := Option.map_eq_some_iff.1 h
    exact .agg _ vs (by rw [(renL_get h2).1]; exact hl) (renL_flat h2 hf) h1 (keepL h2 ih (by simpa [AV.names] using hm))
  | tup cs vs hl h' ih =>
    intro c' h hm
    simp only [AV.ren] at h
    obtain ⟨cs', h2, rfl⟩ := Option.map_eq_some_iff.1 h
    exact .tup _ vs (by rw [(renL_get h2).1]; exact hl) (keepL h2 ih (by simpa [AV.names] using hm))
  | nils z a => intro c' h hm; simp only [AV.ren, Option.some.injEq] at h; subst h; exact .nils z a
  | hsl x off len a c h' hc =>
    intro c' h hm
    simp only [AV.ren] at h
    obtain ⟨y, h2, rfl⟩ := Option.map_eq_some_iff.1 h
    exact .hsl y off len a c (by rw [hm x (by simp [AV.names]) y h2]; exact h') hc
  | ptr x off b hb =>
    intro c' h hm
    simp only [AV.ren] at h
    obtain ⟨y, h2, rfl⟩ := Option.map_eq_some_iff.1 h
    exact .ptr y off b (by rw [hm x (by simp [AV.names]) y h2]; exact hb)
  | eptr x i off b hb =>
    intro c' h hm
    simp only [AV.ren] at h
    obtain ⟨y, h2, rfl⟩ := Option.map_eq_some_iff.1 h
    have e := hm x (by simp [AV.names]) y h2
    rw [← e]
    exact .eptr y i off b (by rw [e]; exact hb)
  | rptr cs ad f hW hlt hf hc h' => intro c' h hm; simp only [AV.ren, Option.some.injEq] at h; subst h; exact .rptr cs ad f hW hlt hf hc h'
  | fn g a b va vb ha hb h1 h2 ih1 ih2 =>
    intro c' h hm
    simp only [AV.ren] at h
    cases hra : renL f a with
    | none => simp [hra] at h
    | some a' => cases hrb : renL f b with
      | none => simp [hra, hrb] at h
      | some b' =>
        simp only [hra, hrb, Option.some.injEq] at h
        subst h
        simp only [AV.names, List.mem_append] at hm
        exact .fn g a' b' va vb (by rw [(renL_get hra).1]; exact ha) (by rw [(renL_get hrb).1]; exact hb) (keepL hra ih1 fun x hx => hm x (.inl hx)) (keepL hrb ih2 fun x hx => hm x (.inr hx))

theorem AObj.frozen_ren {f : Nm → Option Nm} {o o' : AObj} (h : o.ren f = some o') : o'.frozen = o.frozen := by
  cases o with
  | box cs => simp only [AObj.ren] at h; obtain ⟨cs', h1, rfl⟩ := Option.map_eq_some_iff.1 h; rfl
  | parr es z b => simp only [AObj.ren, Option.some.injEq] at h; subst h; rfl
  | arr cs => simp only [AObj.ren] at h; obtain ⟨cs', h1, rfl⟩ := Option.map_eq_some_iff.1 h; rfl

theorem ORep.ren {idm : FuncId → FuncId} {m m' : NMap} {w : World} {W : Nat → Prop} {l : Loc} {o o' : AObj} (h : ORep idm m w W l o) {f : Nm → Option Nm} (e : o.ren f = some o') (hm : ∀ x ∈ o.names, ∀ y, f x = some y → m' y = m x) : ORep idm m' w W l o' := by
  cases o with
  | box cs =>
    simp only [AObj.ren] at e
    obtain ⟨cs', h1, rfl⟩ := Option.map_eq_some_iff.1 e
    obtain ⟨b, c, e, g1, g2, g3, g4, g5, g6, g7⟩ := h
    refine ⟨b, c, e, g1, g2, by rw [(renL_get h1).1]; exact g3, renL_flat h1 g4, g5, fun i a v ha hv => ?_, g7⟩
    obtain ⟨c0, h2, h3⟩ := (renL_get h1).2 i a ha
    exact (g6 i c0 v h2 hv).ren f a h3 fun x hx => hm x (by simp only [AObj.names]; exact mem_namesL.2 ⟨c0, List.mem_of_getElem? h2, hx⟩)
  | parr es z b => simp only [AObj.ren, Option.some.injEq] at e; subst e; exact h
  | arr cs =>
    simp only [AObj.ren] at e
    obtain ⟨cs', h1, rfl⟩ := Option.map_eq_some_iff.1 e
    obtain ⟨g0, b, c, e, g1, g2, g3, gc, g4, g5, g6, g7⟩ := h
    refine ⟨g0, b, c, e, g1, g2, by rw [(renL_get h1).1]; exact g3, by rw [(renL_get h1).1]; exact gc, renL_flat h1 g4, g5, fun i a v ha hv => ?_, g7⟩
    obtain ⟨c0, h2, h3⟩ := (renL_get h1).2 i a ha
    exact (g6 i c0 v h2 hv).ren f a h3 fun x hx => hm x (by simp only [AObj.names]; exact mem_namesL.2 ⟨c0, List.mem_of_getElem? h2, hx⟩)

theorem nidx_get {x : Nm} : ∀ {ns : List Nm} {k j : Nat}, nidx x ns k = some j → ∃ i, j = k + i ∧ ns[i]? = some x
  | [], k, j, h => by simp [nidx] at h
  | y :: r, k, j, h => by
    simp only [nidx] at h
    split at h
    · rename_i e; simp only [Option.some.injEq] at h; subst h; exact ⟨0, rfl, by simp [e]⟩
    · obtain ⟨i, h1, h2⟩ := nidx_get h; exact ⟨i + 1, by omega, by simpa using h2⟩
theorem toExt_get {ns : List Nm} {x y : Nm} (h : toExt ns x = some y) : ∃ i, y = .ext i ∧ ns[i]? = some x := by
  obtain ⟨j, h1, rfl⟩ := Option.map_eq_some_iff.1 h
  obtain ⟨i, h2, h3⟩ := nidx_get h1
  exact ⟨i, by rw [h2]; simp, h3⟩

theorem hget_argH : ∀ {os : List AObj} {k : Nat} {x : Nm} {o : AObj}, hget (argH k os) x = some o ↔ ∃ j, x = .ext (k + j) ∧ os[j]? = some o
  | [], k, x, o => by simp [argH, hget]
  | q :: os, k, x, o => by
    simp only [argH, hget]
    by_cases h : Nm.ext k = x
    · subst h
      simp only [if_true, Option.some.injEq]
      constructor
      · rintro rfl; exact ⟨0, rfl, rfl⟩
      · rintro ⟨j, h1, h2⟩
        have : j = 0 := by injection h1 with h1; omega
        subst this
        simpa using h2
    · simp only [h, if_false]
      rw [hget_argH]
      constructor
      · rintro ⟨j, rfl, h2⟩; exact ⟨j + 1, by congr 1; omega, by simpa using h2⟩
      · rintro ⟨j, rfl, h2⟩
        cases j with
        | zero => exact absurd rfl h
        | succ j => exact ⟨j, by congr 1; omega, by simpa using h2⟩

theorem argH_some {os : List AObj} {x : Nm} : (hget (argH 0 os) x).isSome = true ↔ ∃ j, x = .ext j ∧ j < os.length := by
  rw [Option.isSome_iff_exists]
  constructor
  · rintro ⟨o, ho⟩
    obtain ⟨j, rfl, h⟩ := hget_argH.1 ho
    exact ⟨j, by rw [Nat.zero_add], (List.getElem?_eq_some_iff.1 h).1⟩
  · rintro ⟨j, rfl, h⟩
    exact ⟨os[j], hget_argH.2 ⟨j, by rw [Nat.zero_add], List.getElem?_eq_getElem h⟩⟩

theorem reach_nodup {H : Hp} : ∀ {n : Nat} {todo acc ns : List Nm}, reach H n todo acc = some ns → acc.Nodup → ns.Nodup
  | n, [], acc, ns, h, ha => by cases n <;> simp only [reach, Option.some.injEq] at h <;> (subst h; exact ha)
  | 0, x :: todo, acc, ns, h, ha => by simp [reach] at h
  | n + 1, x :: todo, acc, ns, h, ha => by
    simp only [reach] at h
    split at h
    · exact reach_nodup h ha
    · rename_i hx
      split at h
      · refine reach_nodup h ?_
        rw [List.nodup_append]
        exact ⟨ha, by simp, fun a h1 b h2 => by simp at h2; subst h2; rintro rfl; exact hx h1⟩
      · cases h

theorem nodup_inj {ns : List Nm} (h : ns.Nodup) {i j : Nat} {x : Nm} (hi : ns[i]? = some x) (hj : ns[j]? = some x) : i = j := by
  obtain ⟨h1, h2⟩ := List.getElem?_eq_some_iff.1 hi
  obtain ⟨h3, h4⟩ := List.getElem?_eq_some_iff.1 hj
  have hp := List.pairwise_iff_getElem.1 h
  rcases Nat.lt_trichotomy i j with hlt | heq | hgt
  · exact absurd (h2.trans h4.symm) (hp i j h1 h3 hlt)
  · exact heq
  · exact absurd (h4.trans h2.symm) (hp j i h3 h1 hgt)

theorem upNs_zipUp : ∀ {ns : List Nm} {os : List AObj}, os.length = ns.length → upNs (zipUp ns os) = ns
  | [], [], _ => rfl
  | x :: ns, o :: os, h => by simp only [zipUp, upNs]; rw [upNs_zipUp (by simpa using h)]
  | [], _ :: _, h => by simp at h
  | _ :: _, [], h => by simp at h
theorem hget_zipUp : ∀ {ns : List Nm} {os : List AObj}, ns.Nodup → ∀ {x : Nm} {o : AObj}, hget (zipUp ns os) x = some o → ∃ k : Nat, ns[k]? = some x ∧ os[k]? = some o
  | [], os, _, x, o, h => by cases os <;> simp [zipUp, hget] at h
  | y :: ns, [], _, x, o, h => by simp [zipUp, hget] at h
  | y :: ns, q :: os, hn, x, o, h => by
    simp only [zipUp, hget] at h
    split at h
    · rename_i e; simp only [Option.some.injEq] at h; exact ⟨0, by simp [e], by simp [h]⟩
    · obtain ⟨k, h1, h2⟩ := hget_zipUp (List.nodup_cons.1 hn).2 h; exact ⟨k + 1, by simpa using h1, by simpa using h2⟩
theorem hget_zipUp_some : ∀ {ns : List Nm} {os : List AObj} {k : Nat} {x : Nm}, ns[k]? = some x → k < os.length → ∃ o, hget (zipUp ns os) x = some o
  | [], os, k, x, h, _ => by simp at h
  | y :: ns, [], k, x, _, h => by simp at h
  | y :: ns, q :: os, k, x, h, hk => by
    simp only [zipUp, hget]
    split
    · exact ⟨_, rfl⟩
    · rename_i hne
      cases k with
      | zero => simp at h; exact absurd h hne
      | succ k => exact hget_zipUp_some (by simpa using h) (by simpa using hk)
theorem hget_newUp {r i : Nat} : ∀ {os : List AObj} {k : Nat} {x : Nm} {o : AObj}, hget (newUp r i k os) x = some o ↔ ∃ j, x = .loc r i (k + j) ∧ os[j]? = some o
  | [], k, x, o => by simp [newUp, hget]
  | q :: os, k, x, o => by
    simp only [newUp, hget]
    by_cases h : Nm.loc r i k = x
    · subst h
      simp only [if_true, Option.some.injEq]
      constructor
      · rintro rfl; exact ⟨0, rfl, rfl⟩
      · rintro ⟨j, h1, h2⟩
        have : j = 0 := by injection h1 with _ _ h1; omega
        subst this
        simpa using h2
    · simp only [h, if_false]
      rw [hget_newUp]
      constructor
      · rintro ⟨j, rfl, h2⟩; exact ⟨j + 1, by congr 1; omega, by simpa using h2⟩
      · rintro ⟨j, rfl, h2⟩
        cases j with
        | zero => exact absurd rfl h
        | succ j => exact ⟨j, by congr 1; omega, by simpa using h2⟩
theorem mem_newUp {r i : Nat} : ∀ {os : List AObj} {k : Nat} {x : Nm}, x ∈ upNs (newUp r i k os) ↔ ∃ j, x = .loc r i (k + j) ∧ j < os.length
  | [], k, x => by simp [newUp, upNs]
  | q :: os, k, x => by
    simp only [newUp, upNs, List.mem_cons]
    rw [mem_newUp]
    constructor
    · rintro (rfl | ⟨j, rfl, h⟩)
      · exact ⟨0, rfl, by simp⟩
      · exact ⟨j + 1, by congr 1; omega, by simpa using h⟩
    · rintro ⟨j, rfl, h⟩
      cases j with
      | zero => exact .inl rfl
      | succ j => exact .inr ⟨j, by congr 1; omega, by simpa using h⟩

theorem mem_upNs_append {x : Nm} {a b : Hp} : x ∈ upNs (a ++ b) ↔ x ∈ upNs a ∨ x ∈ upNs b := by
  induction a with
  | nil => simp [upNs]
  | cons p r ih => obtain ⟨y, o⟩ := p; simp [upNs, ih, or_assoc]

/-! ### What a call must bring -/
structure SinceN (n : Nat) (m : NMap) (w : World) (W : Nat → Prop) (H : Hp) (m' : NMap) (w' : World) (W' : Nat → Prop) (H' : Hp) : Prop where
  tr : Tr (Own m H) w W w' W' (Own m' H')
  born : ∀ x o b, hget H' x = some o → (m' x).base = some b → b < w.heap.size → ∃ o0, hget H x = some o0 ∧ (m x).base = some b
  ext : ∀ k, k < n → m' (.ext k) = m (.ext k)

def CallPost (idm : FuncId → FuncId) (m : NMap) (w : World) (W : Nat → Prop) (objs : List AObj) (c : CR) (v : Value) (w' : World) : Prop :=
  ∃ m' W', c.outs.length = objs.length ∧ SimH idm m' w' W' (argH 0 (c.outs ++ c.news)) ∧ SinceN objs.length m w W (argH 0 objs) m' w' W' (argH 0 (c.outs ++ c.news)) ∧
    Rep idm m' w' W' c.v v ∧ ∀ y ∈ c.v.names, (hget (argH 0 (c.outs ++ c.news)) y).isSome = true

def CallF (P : Program) (f : FuncId) (args : Array Value) (w : World) (R : Value → World → Prop) : Prop :=
  (∃ v w', (callFunc f args).run P w = .ok (.value v) w' ∧ R v w') ∨
  ((callFunc f args).run P w = .ok (.enter f args) w ∧ Calls P f args w fun | .returned v, w' => R v w' | _, _ => False)

/-- What a table of calls says is so. -/
def CFOK (P : Program) (idm : FuncId → FuncId) (cf : CF) : Prop :=
  ∀ (f : FuncId) (args : List AV) (objs : List AObj) (c : CR), cf f args objs = some c → ∀ (m : NMap) (w : World) (W : Nat → Prop) (vs : Array Value),
    SimH idm m w W (argH 0 objs) → Reps idm m w W args vs → (∀ x ∈ namesL args, (hget (argH 0 objs) x).isSome = true) → CallF P (idm f) vs w (CallPost idm m w W objs c)

theorem CallF.mono {P : Program} {f : FuncId} {args : Array Value} {w : World} {R R' : Value → World → Prop} (h : CallF P f args w R) (hr : ∀ v w', R v w' → R' v w') : CallF P f args w R' := by
  rcases h with ⟨v, w', h1, h2⟩ | ⟨h1, h2⟩
  · exact .inl ⟨v, w', h1, hr v w' h2⟩
  · exact .inr ⟨h1, h2.mono fun e w' he => by cases e <;> first | exact hr _ _ he | exact he⟩

/-- The names of a callee. -/
def mcOf (m : NMap) (ns : List Nm) : NMap
  | .ext k => match ns[k]? with
    | some x => m x
    | none => ⟨none, 0, 0⟩
  | .loc .. => ⟨none, 0, 0⟩
theorem mcOf_ext {m : NMap} {ns : List Nm} {k : Nat} {x : Nm} (h : ns[k]? = some x) : mcOf m ns (.ext k) = m x := by simp [mcOf, h]

/-- The names of a caller behind the call. -/
def mAft (m m' : NMap) (r i n l : Nat) : Nm → Loc
  | .ext k => m (.ext k)
  | .loc r' i' j => if r' = r ∧ i' = i ∧ j < l then m' (.ext (n + j)) else m (.loc r' i' j)

section
variable {P : Program} {idm : FuncId → FuncId} {m : NMap} {w : World} {W : Nat → Prop} {H : Hp}

theorem simH_args (s : SimH idm m w W H) {ns : List Nm} (hn : ns.Nodup) {os os' : List AObj} (ho : hgets H ns = some os) {fx : Nm → Option Nm} (hfx : ∀ x y, fx x = some y → ∃ i, y = .ext i ∧ ns[i]? = some x) (hr : renOs fx os = some os') : SimH idm (mcOf m ns) w W (argH 0 os') := by
  obtain ⟨l1, g1⟩ := hgets_get ho
  obtain ⟨l2, g2⟩ := renOs_get hr
  have at_ : ∀ {x : Nm} {o' : AObj}, hget (argH 0 os') x = some o' → ∃ k y o, x = .ext k ∧ ns[k]? = some y ∧ hget H y = some o ∧ o.ren fx = some o' := by
    intro x o' h
    obtain ⟨k, rfl, h1⟩ := hget_argH.1 h
    obtain ⟨o, h2, h3⟩ := g2 k o' h1
    obtain ⟨y, h4, h5⟩ := g1 k o h2
    exact ⟨k, y, o, by rw [Nat.zero_add], h4, h5, h3⟩
  refine { h := fun x o' h => ?_, sep := fun x y o o' b hx hy hbx hby => ?_, ch := fun y o x hy hx => ?_, lt := s.lt }
  · obtain ⟨k, y, o, rfl, h1, h2, h3⟩ := at_ h
    rw [mcOf_ext h1]
    exact (s.h y o h2).ren h3 fun x hx z hz => by
      obtain ⟨i, rfl, hi⟩ := hfx _ _ hz
      exact mcOf_ext hi
  · obtain ⟨k, p, q, rfl, h1, h2, h3⟩ := at_ hx
    obtain ⟨k', p', q', rfl, h1', h2', h3'⟩ := at_ hy
    rw [mcOf_ext h1] at hbx
    rw [mcOf_ext h1'] at hby
    have e := s.sep p p' q q' b h2 h2' hbx hby
    subst e
    rw [nodup_inj hn h1 h1']
  · obtain ⟨k, p, q, rfl, h1, h2, h3⟩ := at_ hy
    obtain ⟨z, _, h5⟩ := AObj.names_ren _ x q o h3 hx
    obtain ⟨i, rfl, hi⟩ := hfx _ _ h5
    exact argH_some.2 ⟨i, rfl, by have := (List.getElem?_eq_some_iff.1 hi).1; omega⟩

/-- Behind a call, as the caller sees it. -/
theorem good_after (s : SimH idm m w W H) {ns : List Nm} (hn : ns.Nodup) {os os' : List AObj} (ho : hgets H ns = some os) (hr : renOs (toExt ns) os = some os') {r i : Nat} {c : CR} {v : Value} {w' : World}
    (hp : CallPost idm (mcOf m ns) w W os' c v w') {av : AV} {outs news : List AObj} (hv : c.v.ren (fromExt ns r i) = some av) (h1 : renOs (fromExt ns r i) c.outs = some outs) (h2 : renOs (fromExt ns r i) c.news = some news)
    (hfr : freeH H (newUp r i 0 c.news) = true) :
    ∃ m2 W2, Good idm m w W H { v := av, up := zipUp ns outs ++ newUp r i 0 news } m2 w' W2 ∧ Rep idm m2 w' W2 av v ∧ ∀ y ∈ av.names, (hget ((zipUp ns outs ++ newUp r i 0 news) ++ H) y).isSome = true := by
  obtain ⟨m', W', hlen, s', si, hrep, hnm⟩ := hp
  obtain ⟨l1, g1⟩ := hgets_get ho
  obtain ⟨l2, g2⟩ := renOs_get hr
  obtain ⟨l3, g3⟩ := renOs_get h1
  obtain ⟨l4, g4⟩ := renOs_get h2
  have hfree : ∀ j, j < c.news.length → hget H (.loc r i j) = none := fun j hj => freeH_none hfr _ (mem_newUp.2 ⟨j, by rw [Nat.zero_add], hj⟩)
  have hold : ∀ x, (hget H x).isSome = true → mAft m m' r i ns.length c.news.length x = m x := by
    intro x hx
    cases x with
    | ext k => rfl
    | loc r' i' j =>
      simp only [mAft]
      split
      · rename_i h
        obtain ⟨rfl, rfl, h⟩ := h
        rw [hfree j h] at hx; cases hx
      · rfl
  have hns : ∀ {k : Nat} {x : Nm}, ns[k]? = some x → ∃ o, hget H x = some o ∧ os[k]? = some o := by
    intro k x hx
    have hlt := (List.getElem?_eq_some_iff.1 hx).1
    have ho := List.getElem?_eq_getElem (show k < os.length by omega)
    obtain ⟨y, h3, h4⟩ := g1 k _ ho
    rw [hx] at h3; cases h3
    exact ⟨_, h4, ho⟩
  -- the callee's names, seen by the caller
  have hfrom : ∀ {x y : Nm}, (hget (argH 0 (c.outs ++ c.news)) x).isSome = true → fromExt ns r i x = some y → mAft m m' r i ns.length c.news.length y = m' x ∧ (y ∈ ns ∨ ∃ j, y = .loc r i j ∧ j < c.news.length) := by
    intro x y hx hy
    obtain ⟨k, rfl, hk⟩ := argH_some.1 hx
    simp only [List.length_append] at hk
    simp only [fromExt] at hy
    split at hy
    · rename_i hlt
      obtain ⟨o, h3, _⟩ := hns hy
      refine ⟨?_, .inl (List.mem_of_getElem? hy)⟩
      rw [hold y (by rw [h3]; rfl), si.ext k (by omega), mcOf_ext hy]
    · rename_i hge
      simp only [Option.some.injEq] at hy
      subst hy
      refine ⟨?_, .inr ⟨_, rfl, by omega⟩⟩
      simp only [mAft]
      rw [if_pos ⟨trivial, trivial, by omega⟩]
      congr 2
      omega
  have hup : ∀ x, x ∈ upNs (zipUp ns outs ++ newUp r i 0 news) ↔ x ∈ ns ∨ ∃ j, x = .loc r i j ∧ j < c.news.length := by
    intro x
    rw [mem_upNs_append, upNs_zipUp (by omega), mem_newUp]
    constructor
    · rintro (h | ⟨j, rfl, h⟩)
      · exact .inl h
      · exact .inr ⟨j, by rw [Nat.zero_add], by omega⟩
    · rintro (h | ⟨j, rfl, h⟩)
      · exact .inl h
      · exact .inr ⟨j, by rw [Nat.zero_add], by omega⟩
  have hget1 : ∀ {x : Nm} {o : AObj}, hget (zipUp ns outs ++ newUp r i 0 news) x = some o → ∃ k o', hget (argH 0 (c.outs ++ c.news)) (.ext k) = some o' ∧ o'.ren (fromExt ns r i) = some o ∧ fromExt ns r i (.ext k) = some x := by
    intro x o h
    rw [hget_append] at h
    split at h
    · obtain ⟨k, h3, h4⟩ := hget_zipUp hn h
      obtain ⟨o', h5, h6⟩ := g3 k o h4
      have hk := (List.getElem?_eq_some_iff.1 h3).1
      refine ⟨k, o', hget_argH.2 ⟨k, by rw [Nat.zero_add], ?_⟩, h6, by simp only [fromExt, hk, if_true]; exact h3⟩
      rw [List.getElem?_append_left (List.getElem?_eq_some_iff.1 h5).1]; exact h5
    · obtain ⟨j, rfl, h4⟩ := hget_newUp.1 h
      obtain ⟨o', h5, h6⟩ := g4 j o h4
      refine ⟨ns.length + j, o', hget_argH.2 ⟨ns.length + j, by rw [Nat.zero_add], ?_⟩, h6, ?_⟩
      · rw [List.getElem?_append_right (by omega)]
        rw [show ns.length + j - c.outs.length = j by omega]; exact h5
      · simp only [fromExt]
        rw [if_neg (by omega)]
        congr 2
        omega
  have hups : ∀ x ∈ upNs (zipUp ns outs ++ newUp r i 0 news), ∃ o, hget (zipUp ns outs ++ newUp r i 0 news) x = some o := by
    intro x hx
    rw [hget_append, upNs_zipUp (by omega)]
    split
    · rename_i h
      obtain ⟨k, hk⟩ := List.mem_iff_getElem?.1 h
      exact hget_zipUp_some hk (by have := (List.getElem?_eq_some_iff.1 hk).1; omega)
    · rename_i h
      rcases (hup x).1 hx with h' | ⟨j, rfl, h'⟩
      · exact absurd h' h
      · exact ⟨news[j], hget_newUp.2 ⟨j, by rw [Nat.zero_add], List.getElem?_eq_getElem (by omega)⟩⟩
  have hlive : ∀ y, (y ∈ ns ∨ ∃ j, y = .loc r i j ∧ j < c.news.length) → (hget ((zipUp ns outs ++ newUp r i 0 news) ++ H) y).isSome = true := by
    intro y hy
    have := (hup y).2 hy
    rw [hget_append, if_pos this]
    obtain ⟨o, ho⟩ := hups y this
    simp [ho]
  have hown : ∀ b, Own (mcOf m ns) (argH 0 os') b → OwnU m H (zipUp ns outs ++ newUp r i 0 news) b := by
    rintro b ⟨x, o', h3, h4, h5⟩
    obtain ⟨k, rfl, h6⟩ := hget_argH.1 h3
    obtain ⟨o, h7, h8⟩ := g2 k o' h6
    obtain ⟨y, h9, h10⟩ := g1 k o h7
    rw [Nat.zero_add, mcOf_ext h9] at h5
    exact ⟨y, o, (hup y).2 (.inl (List.mem_of_getElem? h9)), h10, by rw [← AObj.frozen_ren h8]; exact h4, h5⟩
  refine ⟨mAft m m' r i ns.length c.news.length, W', { k := ?_, sub := si.tr.sub, sup := fun b hb hW hno => si.tr.sup b hb hW fun h => hno (hown b h), lt := s'.lt, mm := fun x hx _ => hold x hx, up := ?_, ups := hups, b1 := ?_, b2 := ?_, pgu := fun x h => by simp at h, ext := fun _ => rfl }, ?_, ?_⟩
  · exact ⟨si.tr.os, si.tr.tape, si.tr.output, si.tr.size, fun b hb hno => si.tr.block b hb fun h => hno (hown b h)⟩
  · intro x o hx
    obtain ⟨k, o', h3, h4, h5⟩ := hget1 hx
    have hk : (hget (argH 0 (c.outs ++ c.news)) (.ext k)).isSome = true := by rw [h3]; rfl
    refine ⟨?_, fun y hy => ?_⟩
    · rw [(hfrom hk h5).1]
      exact (s'.h _ o' h3).ren h4 fun z hz y hy => (hfrom (s'.ch _ o' z h3 hz) hy).1
    · obtain ⟨z, hz, hzy⟩ := AObj.names_ren _ y o' o h4 hy
      have := hlive y (hfrom (s'.ch _ o' z h3 hz) hzy).2
      simpa [pgH] using this
  · intro x o b hx hb hlt
    obtain ⟨k, o', h3, h4, h5⟩ := hget1 hx
    have hk : (hget (argH 0 (c.outs ++ c.news)) (.ext k)).isSome = true := by rw [h3]; rfl
    rw [(hfrom hk h5).1] at hb
    obtain ⟨q', h6, h7⟩ := si.born _ o' b h3 hb hlt
    obtain ⟨j, e, h8⟩ := hget_argH.1 h6
    rw [Nat.zero_add] at e
    injection e with e
    subst e
    obtain ⟨q, h9, h10⟩ := g2 k q' h8
    obtain ⟨y, h11, h12⟩ := g1 k q h9
    have hkl := (List.getElem?_eq_some_iff.1 h11).1
    simp only [fromExt, hkl, if_true] at h5
    rw [h5] at h11; cases h11
    rw [mcOf_ext h5] at h7
    refine ⟨q, h12, h7, fun hf => ?_⟩
    have hWb : W' b := s'.own_W ⟨_, o', h3, by rw [← AObj.frozen_ren h4]; exact hf, hb⟩
    have hWw := si.tr.sub b hlt hWb
    cases q with
    | box => rfl
    | arr => rfl
    | parr es z fz =>
      cases fz with
      | false => rfl
      | true =>
        obtain ⟨_, _, hq⟩ := s.h x _ h12
        rcases hq with ⟨hq, _⟩ | ⟨b', cc, e, q2, q3, q4, q5, q6, q7, q8, q9, q10⟩
        · rw [h7] at hq; cases hq
        · rw [h7] at q2; cases q2; exact absurd hWw (q10 rfl)
  · intro x y b hx hy hge hbx hby
    obtain ⟨o, ho⟩ := hups x hx
    obtain ⟨q, hq⟩ := hups y hy
    obtain ⟨k, o', h3, h4, h5⟩ := hget1 ho
    obtain ⟨k', q', h3', h4', h5'⟩ := hget1 hq
    rw [(hfrom (by rw [h3]; rfl) h5).1] at hbx
    rw [(hfrom (by rw [h3']; rfl) h5').1] at hby
    have e := s'.sep _ _ o' q' b h3 h3' hbx hby
    injection e with e
    subst e
    rw [h5] at h5'
    injection h5'
  · exact hrep.ren _ av hv fun x hx y hy => (hfrom (hnm x hx) hy).1
  · intro y hy
    obtain ⟨x, hx, hxy⟩ := AV.names_ren _ y c.v av hv hy
    exact hlive y (hfrom (hnm x hx) hxy).2
end
end Go.Ab
