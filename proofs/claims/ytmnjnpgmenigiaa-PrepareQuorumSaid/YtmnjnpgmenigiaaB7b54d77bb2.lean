/- A part of the proof: an executor over plain data, shown sound for the model, and what it computes of the functions. -/
import Derived.Test.YtmnjnpgmenigiaaB80c4d2c312
import Derived.Calls
import Derived.Test.YtmnjnpgmenigiaaB86f77d4752
set_option linter.all false
/-! Calls. -/
set_option linter.unusedVariables false
set_option linter.unusedSimpArgs false
set_option linter.unusedSectionVars false
namespace Go.Ab
open Go

/-- From one moment of a frame to a later one. -/
structure Since (m : NMap) (w : World) (W : Nat → Prop) (H : Hp) (m' : NMap) (w' : World) (W' : Nat → Prop) (H' : Hp) : Prop where
  tr : Tr (Own m H) w W w' W' (Own m' H')
  born : ∀ x o b, hget H' x = some o → (m' x).base = some b → b < w.heap.size → ∃ o0, hget H x = some o0 ∧ (m x).base = some b
  ext : ∀ k, m' (.ext k) = m (.ext k)

theorem Since.refl (m : NMap) (w : World) (W : Nat → Prop) (H : Hp) : Since m w W H m w W H :=
  ⟨Tr.refl fun _ h => h, fun x o b h hb _ => ⟨o, h, hb⟩, fun _ => rfl⟩

theorem Since.trans {m m1 m2 : NMap} {w w1 w2 : World} {W W1 W2 : Nat → Prop} {H H1 H2 : Hp} (h : Since m w W H m1 w1 W1 H1) (g : Since m1 w1 W1 H1 m2 w2 W2 H2) : Since m w W H m2 w2 W2 H2 :=
  ⟨h.tr.trans g.tr, fun x o b hx hb hlt => by
    obtain ⟨o1, h1, h2⟩ := g.born x o b hx hb (Nat.lt_of_lt_of_le hlt h.tr.size)
    exact h.born x o1 b h1 h2 hlt, fun k => (g.ext k).trans (h.ext k)⟩

/-- What is forgotten. -/
theorem Since.less {m m1 : NMap} {w w1 : World} {W W1 : Nat → Prop} {H H1 H2 : Hp} (h : Since m w W H m1 w1 W1 H1) (hs : ∀ x o, hget H2 x = some o → hget H1 x = some o) : Since m w W H m1 w1 W1 H2 :=
  ⟨⟨h.tr.toKeep, h.tr.sub, h.tr.sup, fun i hi ⟨x, o, h1, h2, h3⟩ => h.tr.own i hi ⟨x, o, hs x o h1, h2, h3⟩⟩, fun x o b hx => h.born x o b (hs x o hx), h.ext⟩

theorem Good.since {idm : FuncId → FuncId} {m : NMap} {w : World} {W : Nat → Prop} {H : Hp} {d : Dl} {m' : NMap} {w' : World} {W' : Nat → Prop} (g : Good idm m w W H d m' w' W') (s : SimH idm m w W H) :
    Since m w W H m' w' W' (d.up ++ pgH d.pg H) := by
  refine ⟨g.tr, fun x o b hx hb hlt => ?_, g.ext⟩
  rw [hget_append] at hx
  split at hx
  · obtain ⟨o', h1, h2, _⟩ := g.b1 x o b hx hb hlt
    exact ⟨o', h1, h2⟩
  · rename_i hu
    obtain ⟨h1, o', h2, _⟩ := g.old x o hu hx
    exact ⟨o', h2, by rw [← h1]; exact hb⟩

/-- What an operation comes to, whatever follows. -/
def OpStep (P : Program) (idm : FuncId → FuncId) (m : NMap) (w : World) (W : Nat → Prop) (H : Hp) (o : Go.Oper) (a : Act) (d : Dl) : Prop :=
  ∀ (K : Act → World → Prop) (Q : Exit → Act → World → Prop), (∀ v m' w' W', Good idm m w W H d m' w' W' → Rep idm m' w' W' d.v v → (∀ y ∈ d.v.names, (hget (d.up ++ pgH d.pg H) y).isSome = true) → K (a.put o.dst v) w') → o.wp P a w K Q

theorem OpOK.step {P : Program} {idm : FuncId → FuncId} {m : NMap} {w : World} {W : Nat → Prop} {H : Hp} {o : Go.Oper} {a : Act} {d : Dl} (h : OpOK P idm m w W H o a d) : OpStep P idm m w W H o a d := by
  intro K Q hk
  obtain ⟨v, w', m', W', hr, g1, g2, g3⟩ := h
  unfold Oper.wp
  rcases hr with hr | ⟨hr, rfl⟩
  · rw [hr]; exact hk v m' w' W' g1 g2 g3
  · rw [hr]; exact hk undef m' w' W' g1 g2 g3

/-! ### Rows of values -/
structure Reps (idm : FuncId → FuncId) (m : NMap) (w : World) (W : Nat → Prop) (cs : List AV) (vs : Array Value) : Prop where
  hl : vs.size = cs.length
  h : ∀ (i : Nat) (c : AV) (v : Value), cs[i]? = some c → vs[i]? = some v → Rep idm m w W c v

theorem Reps.append {idm : FuncId → FuncId} {m : NMap} {w : World} {W : Nat → Prop} {cs ds : List AV} {vs us : Array Value} (h : Reps idm m w W cs vs) (g : Reps idm m w W ds us) : Reps idm m w W (cs ++ ds) (vs ++ us) := by
  refine ⟨by simp [h.hl, g.hl], fun i c v hc hv => ?_⟩
  rw [List.getElem?_append] at hc
  rw [Array.getElem?_append, h.hl] at hv
  split at hc
  · rename_i hlt; rw [if_pos hlt] at hv; exact h.h i c v hc hv
  · rename_i hlt; rw [if_neg hlt] at hv; exact g.h _ c v hc hv

/-! ### Renaming -/
theorem renL_get {f : Nm → Option Nm} : ∀ {cs cs' : List AV}, renL f cs = some cs' → cs'.length = cs.length ∧ ∀ (i : Nat) (c' : AV), cs'[i]? = some c' → ∃ c, cs[i]? = some c ∧ c.ren f = some c'
  | [], cs', h => by simp only [renL, Option.some.injEq] at h; subst h; exact ⟨rfl, fun i c h => by simp at h⟩
  | v :: r, cs', h => by
    simp only [renL] at h
    cases hv : v.ren f with
    | none => simp [hv] at h
    | some v' => cases hr : renL f r with
      | none => simp [hv, hr] at h
      | some r' =>
        simp only [hv, hr, Option.some.injEq] at h
        subst h
        obtain ⟨h1, h2⟩ := renL_get hr
        refine ⟨by simp [h1], fun i c hi => ?_⟩
        cases i with
        | zero => simp at hi; subst hi; exact ⟨v, rfl, hv⟩
        | succ i => simp at hi; obtain ⟨c', hc', e⟩ := h2 i c hi; exact ⟨c', by simpa using hc', e⟩

theorem renOs_get {f : Nm → Option Nm} : ∀ {cs cs' : List AObj}, renOs f cs = some cs' → cs'.length = cs.length ∧ ∀ (i : Nat) (c' : AObj), cs'[i]? = some c' → ∃ c, cs[i]? = some c ∧ c.ren f = some c'
  | [], cs', h => by simp only [renOs, Option.some.injEq] at h; subst h; exact ⟨rfl, fun i c h => by simp at h⟩
  | v :: r, cs', h => by
    simp only [renOs] at h
    cases hv : v.ren f with
    | none => simp [hv] at h
    | some v' => cases hr : renOs f r with
      | none => simp [hv, hr] at h
      | some r' =>
        simp only [hv, hr, Option.some.injEq] at h
        subst h
        obtain ⟨h1, h2⟩ := renOs_get hr
        refine ⟨by simp [h1], fun i c hi => ?_⟩
        cases i with
        | zero => simp at hi; subst hi; exact ⟨v, rfl, hv⟩
        | succ i => simp at hi; obtain ⟨c', hc', e⟩ := h2 i c hi; exact ⟨c', by simpa using hc', e⟩

theorem hgets_get {H : Hp} : ∀ {ns : List Nm} {os : List AObj}, hgets H ns = some os → os.length = ns.length ∧ ∀ (i : Nat) (o : AObj), os[i]? = some o → ∃ x, ns[i]? = some x ∧ hget H x = some o
  | [], os, h => by simp only [hgets, Option.some.injEq] at h; subst h; exact ⟨rfl, fun i c h => by simp at h⟩
  | v :: r, os, h => by
    simp only [hgets] at h
    cases hv : hget H v with
    | none => simp [hv] at h
    | some v' => cases hr : hgets H r with
      | none => simp [hv, hr] at h
      | some r' =>
        simp only [hv, hr, Option.some.injEq] at h
        subst h
        obtain ⟨h1, h2⟩ := hgets_get hr
        refine ⟨by simp [h1], fun i c hi => ?_⟩
        cases i with
        | zero => simp at hi; subst hi; exact ⟨v, rfl, hv⟩
        | succ i => simp at hi; obtain ⟨c', hc', e⟩ := h2 i c hi; exact ⟨c', by simpa using hc', e⟩

mutual
theorem AV.names_ren (f : Nm → Option Nm) (y : Nm) : ∀ v v' : AV, v.ren f = some v' → y ∈ v'.names → ∃ x ∈ v.names, f x = some y
  | .agg cs, v', h => by
    simp only [AV.ren] at h
    obtain ⟨cs', h1, rfl⟩ := Option.map_eq_some_iff.1 h
    simp only [AV.names]; exact namesL_ren f y cs cs' h1
  | .tup cs, v', h => by
    simp only [AV.ren] at h
    obtain ⟨cs', h1, rfl⟩ := Option.map_eq_some_iff.1 h
    simp only [AV.names]; exact namesL_ren f y cs cs' h1
  | .hsl z o l, v', h => by
    simp only [AV.ren] at h
    obtain ⟨x', h1, rfl⟩ := Option.map_eq_some_iff.1 h
    simp only [AV.names, List.mem_singleton]; rintro rfl; exact ⟨z, rfl, h1⟩
  | .ptr z o, v', h => by
    simp only [AV.ren] at h
    obtain ⟨x', h1, rfl⟩ := Option.map_eq_some_iff.1 h
    simp only [AV.names, List.mem_singleton]; rintro rfl; exact ⟨z, rfl, h1⟩
  | .eptr z i o, v', h => by
    simp only [AV.ren] at h
    obtain ⟨x', h1, rfl⟩ := Option.map_eq_some_iff.1 h
    simp only [AV.names, List.mem_singleton]; rintro rfl; exact ⟨z, rfl, h1⟩
  | .fn g a b, v', h => by
    simp only [AV.ren] at h
    cases ha : renL f a with
    | none => simp [ha] at h
    | some a' => cases hb : renL f b with
      | none => simp [ha, hb] at h
      | some b' =>
        simp only [ha, hb, Option.some.injEq] at h
        subst h
        simp only [AV.names, List.mem_append]
        rintro (h | h)
        · obtain ⟨x, h1, h2⟩ := namesL_ren f y a a' ha h; exact ⟨x, .inl h1, h2⟩
        · obtain ⟨x, h1, h2⟩ := namesL_ren f y b b' hb h; exact ⟨x, .inr h1, h2⟩
  | .undef, v', h => by simp only [AV.ren, Option.some.injEq] at h; subst h; simp [AV.names]
  | .ub, v', h => by simp only [AV.ren, Option.some.injEq] at h; subst h; simp [AV.names]
  | .p v, v', h => by simp only [AV.ren, Option.some.injEq] at h; subst h; simp [AV.names]
  | .nils z, v', h => by simp only [AV.ren, Option.some.injEq] at h; subst h; simp [AV.names]
  | .rptr cs, v', h => by simp only [AV.ren, Option.some.injEq] at h; subst h; simp [AV.names]
theorem namesL_ren (f : Nm → Option Nm) (y : Nm) : ∀ cs cs' : List AV, renL f cs = some cs' → y ∈ namesL cs' → ∃ x ∈ namesL cs, f x = some y
  | [], cs', h => by simp only [renL, Option.some.injEq] at h; subst h; simp [namesL]
  | v :: r, cs', h => by
    simp only [renL] at h
    cases hv : v.ren f with
    | none => simp [hv] at h
    | some v' => cases hr : renL f r with
      | none => simp [hv, hr] at h
      | some r' =>
        simp only [hv, hr, Option.some.injEq] at h
        subst h
        simp only [namesL, List.mem_append]
        rintro (h | h)
        · obtain ⟨x, h1, h2⟩ := AV.names_ren f y v v' hv h; exact ⟨x, .inl h1, h2⟩
        · obtain ⟨x, h1, h2⟩ := namesL_ren f y r r' hr h; exact ⟨x, .inr h1, h2⟩
end

theorem AObj.names_ren (f : Nm → Option Nm) (y : Nm) (o o' : AObj) (h : o.ren f = some o') (hy : y ∈ o'.names) : ∃ x ∈ o.names, f x = some y := by
  cases o with
  | box cs => simp only [AObj.ren] at h; obtain ⟨cs', h1, rfl⟩ := Option.map_eq_some_iff.1 h; exact namesL_ren f y cs cs' h1 hy
  | parr es z b => simp only [AObj.ren, Option.some.injEq] at h; subst h; simp [AObj.names] at hy
  | arr cs => simp only [AObj.ren] at h; obtain ⟨cs', h1, rfl⟩ := Option.map_eq_some_iff.1 h; exact namesL_ren f y cs cs' h1 hy

theorem flat_ren {f : Nm → Option Nm} {v v' : AV} (h : v.ren f = some v') (hf : v.flat = true) : v'.flat = true := by
  cases v <;> simp only [AV.ren] at h
  case fn g a b =>
    cases ha : renL f a with
    | none => simp [ha] at h
    | some a' => cases hb : renL f b with
      | none => simp [ha, hb] at h
      | some b' => simp only [ha, hb, Option.some.injEq] at h; subst h; rfl
  all_goals first
    | (simp only [Option.some.injEq] at h; subst h; exact hf)
    | (obtain ⟨x', h1, rfl⟩ := Option.map_eq_some_iff.1 h; first | rfl | (simp [AV.flat] at hf))
theorem renL_flat {f : Nm → Option Nm} {cs cs' : List AV} (h : renL f cs = some cs') (hf : ∀ c ∈ cs, c.flat = true) : ∀ c ∈ cs', c.flat = true := by
  intro c hc
  obtain ⟨i, hi⟩ := List.mem_iff_getElem?.1 hc
  obtain ⟨c0, h1, h2⟩ := (renL_get h).2 i c hi
  exact flat_ren h2 (hf c0 (List.mem_of_getElem? h1))

theorem Rep.ren {idm : FuncId → FuncId} {m m' : NMap} {w : World} {W : Nat → Prop} {c : AV} {v : Value} (h : Rep idm m w W c v) (f : Nm → Option Nm) :
    ∀ c', c.ren f = some c' → (∀ x ∈ c.names, ∀ y, f x = some y → m' y = m x) → Rep idm m' w W c' v := by
  have keepL : ∀ {cs cs' : List AV} {vs : Array Value}, renL f cs = some cs' → (∀ (i : Nat) (c : AV) (v : Value), cs[i]? = some c → vs[i]? = some v → ∀ c', c.ren f = some c' → (∀ x ∈ c.names, ∀ y, f x = some y → m' y = m x) → Rep idm m' w W c' v) →
      (∀ x ∈ namesL cs, ∀ y, f x = some y → m' y = m x) → ∀ (i : Nat) (c : AV) (v : Value), cs'[i]? = some c → vs[i]? = some v → Rep idm m' w W c v := by
    intro cs cs' vs h ih hm i c v hi hv
    obtain ⟨c0, h1, h2⟩ := (renL_get h).2 i c hi
    exact ih i c0 v h1 hv c h2 fun x hx => hm x (mem_namesL.2 ⟨c0, List.mem_of_getElem? h1, hx⟩)
  induction h with
  | undef v => intro c' h hm; simp only [AV.ren, Option.some.injEq] at h; subst h; exact .undef v
  | ub b => intro c' h hm; simp only [AV.ren, Option.some.injEq] at h; subst h; exact .ub b
  | p c v h' => intro c' h hm; simp only [AV.ren, Option.some.injEq] at h; subst h; exact .p c v h'
  | agg cs vs hl hf h1 h' ih =>
    intro c' h hm
    simp only [AV.ren] at h
    obtain ⟨cs', h2, rfl⟩ := Option.map_eq_some_iff.1 h
    exact .agg _ vs (by rw [(renL_get h2).1]; exact hl) (renL_flat h2 hf) h1 (keepL h2 ih (by simpa [AV.names] using hm))
  | tup cs vs hl h' ih =>
    intro c' h hm
    simp only [AV.ren] at h
    obtain ⟨cs', h2, rfl⟩ := Option.map_eq_some_iff.1 h
    exact .tup _ vs (by rw [(renL_get h2).1]; exact hl) (keepL h2 ih (by simpa [AV.names] using hm))
  | nils z a => intro c' h hm; simp only [AV.ren, Option.some.injEq] at h; subst h; exact .nils z a
  | hsl x off len a c h' hc =>
    intro c' h hm
    simp only [AV.ren] at h
    obtain ⟨y, h2, rfl⟩ := Option.map_eq_some_iff.1 h
    exact .hsl y off len a c (by rw [hm x (by simp [AV.names]) y h2]; exact h') hc
  | ptr x off b hb =>
    intro c' h hm
    simp only [AV.ren] at h
    obtain ⟨y, h2, rfl⟩ := Option.map_eq_some_iff.1 h
    exact .ptr y off b (by rw [hm x (by simp [AV.names]) y h2]; exact hb)
  | eptr x i off b hb =>
    intro c' h hm
    simp only [AV.ren] at h
    obtain ⟨y, h2, rfl⟩ := Option.map_eq_some_iff.1 h
    have e := hm x (by simp [AV.names]) y h2
    rw [← e]
    exact .eptr y i off b (by rw [e]; exact hb)
  | rptr cs ad f hW hlt hf hc h' => intro c' h hm; simp only [AV.ren, Option.some.injEq] at h; subst h; exact .rptr cs ad f hW hlt hf hc h'
  | fn g a b va vb ha hb h1 h2 ih1 ih2 =>
    intro c' h hm
    simp only [AV.ren] at h
    cases hra : renL f a with
    | none => simp [hra] at h
    | some a' => cases hrb : renL f b with
      | none => simp [hra, hrb] at h
      | some b' =>
        simp only [hra, hrb, Option.some.injEq] at h
        subst h
        simp only [AV.names, List.mem_append] at hm
        exact .fn g a' b' va vb (by rw [(renL_get hra).1]; exact ha) (by rw [(renL_get hrb).1]; exact hb) (keepL hra ih1 fun x hx => hm x (.inl hx)) (keepL hrb ih2 fun x hx => hm x (.inr hx))

theorem AObj.frozen_ren {f : Nm → Option Nm} {o o' : AObj} (h : o.ren f = some o') : o'.frozen = o.frozen := by
  cases o with
  | box cs => simp only [AObj.ren] at h; obtain ⟨cs', h1, rfl⟩ := Option.map_eq_some_iff.1 h; rfl
  | parr es z b => simp only [AObj.ren, Option.some.injEq] at h; subst h; rfl
  | arr cs => simp only [AObj.ren] at h; obtain ⟨cs', h1, rfl⟩ := Option.map_eq_some_iff.1 h; rfl

theorem ORep.ren {idm : FuncId → FuncId} {m m' : NMap} {w : World} {W : Nat → Prop} {l : Loc} {o o' : AObj} (h : ORep idm m w W l o) {f : Nm → Option Nm} (e : o.ren f = some o') (hm : ∀ x ∈ o.names, ∀ y, f x = some y → m' y = m x) : ORep idm m' w W l o' := by
  cases o with
  | box cs =>
    simp only [AObj.ren] at e
    obtain ⟨cs', h1, rfl⟩ := Option.map_eq_some_iff.1 e
    obtain ⟨b, c, e, g1, g2, g3, g4, g5, g6, g7⟩ := h
    refine ⟨b, c, e, g1, g2, by rw [(renL_get h1).1]; exact g3, renL_flat h1 g4, g5, fun i a v ha hv => ?_, g7⟩
    obtain ⟨c0, h2, h3⟩ := (renL_get h1).2 i a ha
    exact (g6 i c0 v h2 hv).ren f a h3 fun x hx => hm x (by simp only [AObj.names]; exact mem_namesL.2 ⟨c0, List.mem_of_getElem? h2, hx⟩)
  | parr es z b => simp only [AObj.ren, Option.some.injEq] at e; subst e; exact h
  | arr cs =>
    simp only [AObj.ren] at e
    obtain ⟨cs', h1, rfl⟩ := Option.map_eq_some_iff.1 e
    obtain ⟨g0, b, c, e, g1, g2, g3, gc, g4, g5, g6, g7⟩ := h
    refine ⟨g0, b, c, e, g1, g2, by rw [(renL_get h1).1]; exact g3, by rw [(renL_get h1).1]; exact gc, renL_flat h1 g4, g5, fun i a v ha hv => ?_, g7⟩
    obtain ⟨c0, h2, h3⟩ := (renL_get h1).2 i a ha
    exact (g6 i c0 v h2 hv).ren f a h3 fun x hx => hm x (by simp only [AObj.names]; exact mem_namesL.2 ⟨c0, List.mem_of_getElem? h2, hx⟩)

theorem nidx_get {x : Nm} : ∀ {ns : List Nm} {k j : Nat}, nidx x ns k = some j → ∃ i, j = k + i ∧ ns[i]? = some x
  | [], k, j, h => by simp [nidx] at h
  | y :: r, k, j, h => by
    simp only [nidx] at h
    split at h
    · rename_i e; simp only [Option.some.injEq] at h; subst h; exact ⟨0, rfl, by simp [e]⟩
    · obtain ⟨i, h1, h2⟩ := nidx_get h; exact ⟨i + 1, by omega, by simpa using h2⟩
theorem toExt_get {ns : List Nm} {x y : Nm} (h : toExt ns x = some y) : ∃ i, y = .ext i ∧ ns[i]? = some x := by
  obtain ⟨j, h1, rfl⟩ := Option.map_eq_some_iff.1 h
  obtain ⟨i, h2, h3⟩ := nidx_get h1
  exact ⟨i, by rw [h2]; simp, h3⟩

theorem hget_argH : ∀ {os : List AObj} {k : Nat} {x : Nm} {o : AObj}, hget (argH k os) x = some o ↔ ∃ j, x = .ext (k + j) ∧ os[j]? = some o
  | [], k, x, o => by simp [argH, hget]
  | q :: os, k, x, o => by
    simp only [argH, hget]
    by_cases h : Nm.ext k = x
    · subst h
      simp only [if_true, Option.some.injEq]
      constructor
      · rintro rfl; exact ⟨0, rfl, rfl⟩
      · rintro ⟨j, h1, h2⟩
        have : j = 0 := by injection h1 with h1; omega
        subst this
        simpa using h2
    · simp only [h, if_false]
      rw [hget_argH]
      constructor
      · rintro ⟨j, rfl, h2⟩; exact ⟨j + 1, by congr 1; omega, by simpa using h2⟩
      · rintro ⟨j, rfl, h2⟩
        cases j with
        | zero => exact absurd rfl h
        | succ j => exact ⟨j, by congr 1; omega, by simpa using h2⟩

theorem argH_some {os : List AObj} {x : Nm} : (hget (argH 0 os) x).isSome = true ↔ ∃ j, x = .ext j ∧ j < os.length := by
  rw [Option.isSome_iff_exists]
  constructor
  · rintro ⟨o, ho⟩
    obtain ⟨j, rfl, h⟩ := hget_argH.1 ho
    exact ⟨j, by rw [Nat.zero_add], (List.getElem?_eq_some_iff.1 h).1⟩
  · rintro ⟨j, rfl, h⟩
    exact ⟨os[j], hget_argH.2 ⟨j, by rw [Nat.zero_add], List.getElem?_eq_getElem h⟩⟩

theorem reach_nodup {H : Hp} : ∀ {n : Nat} {todo acc ns : List Nm}, reach H n todo acc = some ns → acc.Nodup → ns.Nodup
  | n, [], acc, ns, h, ha => by cases n <;> simp only [reach, Option.some.injEq] at h <;> (subst h; exact ha)
  | 0, x :: todo, acc, ns, h, ha => by simp [reach] at h
  | n + 1, x :: todo, acc, ns, h, ha => by
    simp only [reach] at h
    split at h
    · exact reach_nodup h ha
    · rename_i hx
      split at h
      · refine reach_nodup h ?_
        rw [List.nodup_append]
        exact ⟨ha, by simp, fun a h1 b h2 => by simp at h2; subst h2; rintro rfl; exact hx h1⟩
      · cases h

theorem nodup_inj {ns : List Nm} (h : ns.Nodup) {i j : Nat} {x : Nm} (hi : ns[i]? = some x) (hj : ns[j]? = some x) : i = j := by
  obtain ⟨h1, h2⟩ := List.getElem?_eq_some_iff.1 hi
  obtain ⟨h3, h4⟩ := List.getElem?_eq_some_iff.1 hj
  have hp := List.pairwise_iff_getElem.1 h
  rcases Nat.lt_trichotomy i j with hlt | heq | hgt
  · exact absurd (h2.trans h4.symm) (hp i j h1 h3 hlt)
  · exact heq
  · exact absurd (h4.trans h2.symm) (hp j i h3 h1 hgt)

theorem upNs_zipUp : ∀ {ns : List Nm} {os : List AObj}, os.length = ns.length → upNs (zipUp ns os) = ns
  | [], [], _ => rfl
  | x :: ns, o :: os, h => by simp only [zipUp, upNs]; rw [upNs_zipUp (by simpa using h)]
  | [], _ :: _, h => by simp at h
  | _ :: _, [], h => by simp at h
theorem hget_zipUp : ∀ {ns : List Nm} {os : List AObj}, ns.Nodup → ∀ {x : Nm} {o : AObj}, hget (zipUp ns os) x = some o → ∃ k : Nat, ns[k]? = some x ∧ os[k]? = some o
  | [], os, _, x, o, h => by cases os <;> simp [zipUp, hget] at h
  | y :: ns, [], _, x, o, h => by simp [zipUp, hget] at h
  | y :: ns, q :: os, hn, x, o, h => by
    simp only [zipUp, hget] at h
    split at h
    · rename_i e; simp only [Option.some.injEq] at h; exact ⟨0, by simp [e], by simp [h]⟩
    · obtain ⟨k, h1, h2⟩ := hget_zipUp (List.nodup_cons.1 hn).2 h; exact ⟨k + 1, by simpa using h1, by simpa using h2⟩
theorem hget_zipUp_some : ∀ {ns : List Nm} {os : List AObj} {k : Nat} {x : Nm}, ns[k]? = some x → k < os.length → ∃ o, hget (zipUp ns os) x = some o
  | [], os, k, x, h, _ => by simp at h
  | y :: ns, [], k, x, _, h => by simp at h
  | y :: ns, q :: os, k, x, h, hk => by
    simp only [zipUp, hget]
    split
    · exact ⟨_, rfl⟩
    · rename_i hne
      cases k with
      | zero => simp at h; exact absurd h hne
      | succ k => exact hget_zipUp_some (by simpa using h) (by simpa using hk)
theorem hget_newUp {r i : Nat} : ∀ {os : List AObj} {k : Nat} {x : Nm} {o : AObj}, hget (newUp r i k os) x = some o ↔ ∃ j, x = .loc r i (k + j) ∧ os[j]? = some o
  | [], k, x, o => by simp [newUp, hget]
  | q :: os, k, x, o => by
    simp only [newUp, hget]
    by_cases h : Nm.loc r i k = x
    · subst h
      simp only [if_true, Option.some.injEq]
      constructor
      · rintro rfl; exact ⟨0, rfl, rfl⟩
      · rintro ⟨j, h1, h2⟩
        have : j = 0 := by injection h1 with _ _ h1; omega
        subst this
        simpa using h2
    · simp only [h, if_false]
      rw [hget_newUp]
      constructor
      · rintro ⟨j, rfl, h2⟩; exact ⟨j + 1, by congr 1; omega, by simpa using h2⟩
      · rintro ⟨j, rfl, h2⟩
        cases j with
        | zero => exact absurd rfl h
        | succ j => exact ⟨j, by congr 1; omega, by simpa using h2⟩
theorem mem_newUp {r i : Nat} : ∀ {os : List AObj} {k : Nat} {x : Nm}, x ∈ upNs (newUp r i k os) ↔ ∃ j, x = .loc r i (k + j) ∧ j < os.length
  | [], k, x => by simp [newUp, upNs]
  | q :: os, k, x => by
    simp only [newUp, upNs, List.mem_cons]
    rw [mem_newUp]
    constructor
    · rintro (rfl | ⟨j, rfl, h⟩)
      · exact ⟨0, rfl, by simp⟩
      · exact ⟨j + 1, by congr 1; omega, by simpa using h⟩
    · rintro ⟨j, rfl, h⟩
      cases j with
      | zero => exact .inl rfl
      | succ j => exact .inr ⟨j, by congr 1; omega, by simpa using h⟩

theorem mem_upNs_append {x : Nm} {a b : Hp} : x ∈ upNs (a ++ b) ↔ x ∈ upNs a ∨ x ∈ upNs b := by
  induction a with
  | nil => simp [upNs]
  | cons p r ih => obtain ⟨y, o⟩ := p; simp [upNs, ih, or_assoc]

/-! ### What a call must bring -/
structure SinceN (n : Nat) (m : NMap) (w : World) (W : Nat → Prop) (H : Hp) (m' : NMap) (w' : World) (W' : Nat → Prop) (H' : Hp) : Prop where
  tr : Tr (Own m H) w W w' W' (Own m' H')
  born : ∀ x o b, hget H' x = some o → (m' x).base = some b → b < w.heap.size → ∃ o0, hget H x = some o0 ∧ (m x).base = some b
  ext : ∀ k, k < n → m' (.ext k) = m (.ext k)

def CallPost (idm : FuncId → FuncId) (m : NMap) (w : World) (W : Nat → Prop) (objs : List AObj) (c : CR) (v : Value) (w' : World) : Prop :=
  ∃ m' W', c.outs.length = objs.length ∧ SimH idm m' w' W' (argH 0 (c.outs ++ c.news)) ∧ SinceN objs.length m w W (argH 0 objs) m' w' W' (argH 0 (c.outs ++ c.news)) ∧
    Rep idm m' w' W' c.v v ∧ ∀ y ∈ c.v.names, (hget (argH 0 (c.outs ++ c.news)) y).isSome = true

def CallF (P : Program) (f : FuncId) (args : Array Value) (w : World) (R : Value → World → Prop) : Prop :=
  (∃ v w', (callFunc f args).run P w = .ok (.value v) w' ∧ R v w') ∨
  ((callFunc f args).run P w = .ok (.enter f args) w ∧ Calls P f args w fun | .returned v, w' => R v w' | _, _ => False)

/-- What a table of calls says is so. -/
def CFOK (P : Program) (idm : FuncId → FuncId) (cf : CF) : Prop :=
  ∀ (f : FuncId) (args : List AV) (objs : List AObj) (c : CR), cf f args objs = some c → ∀ (m : NMap) (w : World) (W : Nat → Prop) (vs : Array Value),
    SimH idm m w W (argH 0 objs) → Reps idm m w W args vs → (∀ x ∈ namesL args, (hget (argH 0 objs) x).isSome = true) → CallF P (idm f) vs w (CallPost idm m w W objs c)

theorem CallF.mono {P : Program} {f : FuncId} {args : Array Value} {w : World} {R R' : Value → World → Prop} (h : CallF P f args w R) (hr : ∀ v w', R v w' → R' v w') : CallF P f args w R' := by
  rcases h with ⟨v, w', h1, h2⟩ | ⟨h1, h2⟩
  · exact .inl ⟨v, w', h1, hr v w' h2⟩
  · exact .inr ⟨h1, h2.mono fun e w' he => by cases e <;> first | exact hr _ _ he | exact he⟩

/-- The names of a callee. -/
def mcOf (m : NMap) (ns : List Nm) : NMap
  | .ext k => match ns[k]? with
    | some x => m x
    | none => ⟨none, 0, 0⟩
  | .loc .. => ⟨none, 0, 0⟩
theorem mcOf_ext {m : NMap} {ns : List Nm} {k : Nat} {x : Nm} (h : ns[k]? = some x) : mcOf m ns (.ext k) = m x := by simp [mcOf, h]

/-- The names of a caller behind the call. -/
def mAft (m m' : NMap) (r i n l : Nat) : Nm → Loc
  | .ext k => m (.ext k)
  | .loc r' i' j => if r' = r ∧ i' = i ∧ j < l then m' (.ext (n + j)) else m (.loc r' i' j)

section
variable {P : Program} {idm : FuncId → FuncId} {m : NMap} {w : World} {W : Nat → Prop} {H : Hp}

theorem simH_args (s : SimH idm m w W H) {ns : List Nm} (hn : ns.Nodup) {os os' : List AObj} (ho : hgets H ns = some os) {fx : Nm → Option Nm} (hfx : ∀ x y, fx x = some y → ∃ i, y = .ext i ∧ ns[i]? = some x) (hr : renOs fx os = some os') : SimH idm (mcOf m ns) w W (argH 0 os') := by
  obtain ⟨l1, g1⟩ := hgets_get ho
  obtain ⟨l2, g2⟩ := renOs_get hr
  have at_ : ∀ {x : Nm} {o' : AObj}, hget (argH 0 os') x = some o' → ∃ k y o, x = .ext k ∧ ns[k]? = some y ∧ hget H y = some o ∧ o.ren fx = some o' := by
    intro x o' h
    obtain ⟨k, rfl, h1⟩ := hget_argH.1 h
    obtain ⟨o, h2, h3⟩ := g2 k o' h1
    obtain ⟨y, h4, h5⟩ := g1 k o h2
    exact ⟨k, y, o, by rw [Nat.zero_add], h4, h5, h3⟩
  refine { h := fun x o' h => ?_, sep := fun x y o o' b hx hy hbx hby => ?_, ch := fun y o x hy hx => ?_, lt := s.lt }
  · obtain ⟨k, y, o, rfl, h1, h2, h3⟩ := at_ h
    rw [mcOf_ext h1]
    exact (s.h y o h2).ren h3 fun x hx z hz => by
      obtain ⟨i, rfl, hi⟩ := hfx _ _ hz
      exact mcOf_ext hi
  · obtain ⟨k, p, q, rfl, h1, h2, h3⟩ := at_ hx
    obtain ⟨k', p', q', rfl, h1', h2', h3'⟩ := at_ hy
    rw [mcOf_ext h1] at hbx
    rw [mcOf_ext h1'] at hby
    have e := s.sep p p' q q' b h2 h2' hbx hby
    subst e
    rw [nodup_inj hn h1 h1']
  · obtain ⟨k, p, q, rfl, h1, h2, h3⟩ := at_ hy
    obtain ⟨z, _, h5⟩ := AObj.names_ren _ x q o h3 hx
    obtain ⟨i, rfl, hi⟩ := hfx _ _ h5
    exact argH_some.2 ⟨i, rfl, by have := (List.getElem?_eq_some_iff.1 hi).1; omega⟩

/-- Behind a call, as the caller sees it. -/
theorem good_after (s : SimH idm m w W H) {ns : List Nm} (hn : ns.Nodup) {os os' : List AObj} (ho : hgets H ns = some os) (hr : renOs (toExt ns) os = some os') {r i : Nat} {c : CR} {v : Value} {w' : World}
    (hp : CallPost idm (mcOf m ns) w W os' c v w') {av : AV} {outs news : List AObj} (hv : c.v.ren (fromExt ns r i) = some av) (h1 : renOs (fromExt ns r i) c.outs = some outs) (h2 : renOs (fromExt ns r i) c.news = some news)
    (hfr : freeH H (newUp r i 0 c.news) = true) :
    ∃ m2 W2, Good idm m w W H { v := av, up := zipUp ns outs ++ newUp r i 0 news } m2 w' W2 ∧ Rep idm m2 w' W2 av v ∧ ∀ y ∈ av.names, (hget ((zipUp ns outs ++ newUp r i 0 news) ++ H) y).isSome = true := by
  obtain ⟨m', W', hlen, s', si, hrep, hnm⟩ := hp
  obtain ⟨l1, g1⟩ := hgets_get ho
  obtain ⟨l2, g2⟩ := renOs_get hr
  obtain ⟨l3, g3⟩ := renOs_get h1
  obtain ⟨l4, g4⟩ := renOs_get h2
  have hfree : ∀ j, j < c.news.length → hget H (.loc r i j) = none := fun j hj => freeH_none hfr _ (mem_newUp.2 ⟨j, by rw [Nat.zero_add], hj⟩)
  have hold : ∀ x, (hget H x).isSome = true → mAft m m' r i ns.length c.news.length x = m x := by
    intro x hx
    cases x with
    | ext k => rfl
    | loc r' i' j =>
      simp only [mAft]
      split
      · rename_i h
        obtain ⟨rfl, rfl, h⟩ := h
        rw [hfree j h] at hx; cases hx
      · rfl
  have hns : ∀ {k : Nat} {x : Nm}, ns[k]? = some x → ∃ o, hget H x = some o ∧ os[k]? = some o := by
    intro k x hx
    have hlt := (List.getElem?_eq_some_iff.1 hx).1
    have ho := List.getElem?_eq_getElem (show k < os.length by omega)
    obtain ⟨y, h3, h4⟩ := g1 k _ ho
    rw [hx] at h3; cases h3
    exact ⟨_, h4, ho⟩
  -- the callee's names, seen by the caller
  have hfrom : ∀ {x y : Nm}, (hget (argH 0 (c.outs ++ c.news)) x).isSome = true → fromExt ns r i x = some y → mAft m m' r i ns.length c.news.length y = m' x ∧ (y ∈ ns ∨ ∃ j, y = .loc r i j ∧ j < c.news.length) := by
    intro x y hx hy
    obtain ⟨k, rfl, hk⟩ := argH_some.1 hx
    simp only [List.length_append] at hk
    simp only [fromExt] at hy
    split at hy
    · rename_i hlt
      obtain ⟨o, h3, _⟩ := hns hy
      refine ⟨?_, .inl (List.mem_of_getElem? hy)⟩
      rw [hold y (by rw [h3]; rfl), si.ext k (by omega), mcOf_ext hy]
    · rename_i hge
      simp only [Option.some.injEq] at hy
      subst hy
      refine ⟨?_, .inr ⟨_, rfl, by omega⟩⟩
      simp only [mAft]
      rw [if_pos ⟨trivial, trivial, by omega⟩]
      congr 2
      omega
  have hup : ∀ x, x ∈ upNs (zipUp ns outs ++ newUp r i 0 news) ↔ x ∈ ns ∨ ∃ j, x = .loc r i j ∧ j < c.news.length := by
    intro x
    rw [mem_upNs_append, upNs_zipUp (by omega), mem_newUp]
    constructor
    · rintro (h | ⟨j, rfl, h⟩)
      · exact .inl h
      · exact .inr ⟨j, by rw [Nat.zero_add], by omega⟩
    · rintro (h | ⟨j, rfl, h⟩)
      · exact .inl h
      · exact .inr ⟨j, by rw [Nat.zero_add], by omega⟩
  have hget1 : ∀ {x : Nm} {o : AObj}, hget (zipUp ns outs ++ newUp r i 0 news) x = some o → ∃ k o', hget (argH 0 (c.outs ++ c.news)) (.ext k) = some o' ∧ o'.ren (fromExt ns r i) = some o ∧ fromExt ns r i (.ext k) = some x := by
    intro x o h
    rw [hget_append] at h
    split at h
    · obtain ⟨k, h3, h4⟩ := hget_zipUp hn h
      obtain ⟨o', h5, h6⟩ := g3 k o h4
      have hk := (List.getElem?_eq_some_iff.1 h3).1
      refine ⟨k, o', hget_argH.2 ⟨k, by rw [Nat.zero_add], ?_⟩, h6, by simp only [fromExt, hk, if_true]; exact h3⟩
      rw [List.getElem?_append_left (List.getElem?_eq_some_iff.1 h5).1]; exact h5
    · obtain ⟨j, rfl, h4⟩ := hget_newUp.1 h
      obtain ⟨o', h5, h6⟩ := g4 j o h4
      refine ⟨ns.length + j, o', hget_argH.2 ⟨ns.length + j, by rw [Nat.zero_add], ?_⟩, h6, ?_⟩
      · rw [List.getElem?_append_right (by omega)]
        rw [show ns.length + j - c.outs.length = j by omega]; exact h5
      · simp only [fromExt]
        rw [if_neg (by omega)]
        congr 2
        omega
  have hups : ∀ x ∈ upNs (zipUp ns outs ++ newUp r i 0 news), ∃ o, hget (zipUp ns outs ++ newUp r i 0 news) x = some o := by
    intro x hx
    rw [hget_append, upNs_zipUp (by omega)]
    split
    · rename_i h
      obtain ⟨k, hk⟩ := List.mem_iff_getElem?.1 h
      exact hget_zipUp_some hk (by have := (List.getElem?_eq_some_iff.1 hk).1; omega)
    · rename_i h
      rcases (hup x).1 hx with h' | ⟨j, rfl, h'⟩
      · exact absurd h' h
      · exact ⟨news[j], hget_newUp.2 ⟨j, by rw [Nat.zero_add], List.getElem?_eq_getElem (by omega)⟩⟩
  have hlive : ∀ y, (y ∈ ns ∨ ∃ j, y = .loc r i j ∧ j < c.news.length) → (hget ((zipUp ns outs ++ newUp r i 0 news) ++ H) y).isSome = true := by
    intro y hy
    have := (hup y).2 hy
    rw [hget_append, if_pos this]
    obtain ⟨o, ho⟩ := hups y this
    simp [ho]
  have hown : ∀ b, Own (mcOf m ns) (argH 0 os') b → OwnU m H (zipUp ns outs ++ newUp r i 0 news) b := by
    rintro b ⟨x, o', h3, h4, h5⟩
    obtain ⟨k, rfl, h6⟩ := hget_argH.1 h3
    obtain ⟨o, h7, h8⟩ := g2 k o' h6
    obtain ⟨y, h9, h10⟩ := g1 k o h7
    rw [Nat.zero_add, mcOf_ext h9] at h5
    exact ⟨y, o, (hup y).2 (.inl (List.mem_of_getElem? h9)), h10, by rw [← AObj.frozen_ren h8]; exact h4, h5⟩
  refine ⟨mAft m m' r i ns.length c.news.length, W', { k := ?_, sub := si.tr.sub, sup := fun b hb hW hno => si.tr.sup b hb hW fun h => hno (hown b h), lt := s'.lt, mm := fun x hx _ => hold x hx, up := ?_, ups := hups, b1 := ?_, b2 := ?_, pgu := fun x h => by simp at h, ext := fun _ => rfl }, ?_, ?_⟩
  · exact ⟨si.tr.os, si.tr.tape, si.tr.output, si.tr.size, fun b hb hno => si.tr.block b hb fun h => hno (hown b h)⟩
  · intro x o hx
    obtain ⟨k, o', h3, h4, h5⟩ := hget1 hx
    have hk : (hget (argH 0 (c.outs ++ c.news)) (.ext k)).isSome = true := by rw [h3]; rfl
    refine ⟨?_, fun y hy => ?_⟩
    · rw [(hfrom hk h5).1]
      exact (s'.h _ o' h3).ren h4 fun z hz y hy => (hfrom (s'.ch _ o' z h3 hz) hy).1
    · obtain ⟨z, hz, hzy⟩ := AObj.names_ren _ y o' o h4 hy
      have := hlive y (hfrom (s'.ch _ o' z h3 hz) hzy).2
      simpa [pgH] using this
  · intro x o b hx hb hlt
    obtain ⟨k, o', h3, h4, h5⟩ := hget1 hx
    have hk : (hget (argH 0 (c.outs ++ c.news)) (.ext k)).isSome = true := by rw [h3]; rfl
    rw [(hfrom hk h5).1] at hb
    obtain ⟨q', h6, h7⟩ := si.born _ o' b h3 hb hlt
    obtain ⟨j, e, h8⟩ := hget_argH.1 h6
    rw [Nat.zero_add] at e
    injection e with e
    subst e
    obtain ⟨q, h9, h10⟩ := g2 k q' h8
    obtain ⟨y, h11, h12⟩ := g1 k q h9
    have hkl := (List.getElem?_eq_some_iff.1 h11).1
    simp only [fromExt, hkl, if_true] at h5
    rw [h5] at h11; cases h11
    rw [mcOf_ext h5] at h7
    refine ⟨q, h12, h7, fun hf => ?_⟩
    have hWb : W' b := s'.own_W ⟨_, o', h3, by rw [← AObj.frozen_ren h4]; exact hf, hb⟩
    have hWw := si.tr.sub b hlt hWb
    cases q with
    | box => rfl
    | arr => rfl
    | parr es z fz =>
      cases fz with
      | false => rfl
      | true =>
        obtain ⟨_, _, hq⟩ := s.h x _ h12
        rcases hq with ⟨hq, _⟩ | ⟨b', cc, e, q2, q3, q4, q5, q6, q7, q8, q9, q10⟩
        · rw [h7] at hq; cases hq
        · rw [h7] at q2; cases q2; exact absurd hWw (q10 rfl)
  · intro x y b hx hy hge hbx hby
    obtain ⟨o, ho⟩ := hups x hx
    obtain ⟨q, hq⟩ := hups y hy
    obtain ⟨k, o', h3, h4, h5⟩ := hget1 ho
    obtain ⟨k', q', h3', h4', h5'⟩ := hget1 hq
    rw [(hfrom (by rw [h3]; rfl) h5).1] at hbx
    rw [(hfrom (by rw [h3']; rfl) h5').1] at hby
    have e := s'.sep _ _ o' q' b h3 h3' hbx hby
    injection e with e
    subst e
    rw [h5] at h5'
    injection h5'
  · exact hrep.ren _ av hv fun x hx y hy => (hfrom (hnm x hx) hy).1
  · intro y hy
    obtain ⟨x, hx, hxy⟩ := AV.names_ren _ y c.v av hv hy
    exact hlive y (hfrom (hnm x hx) hxy).2
end
end Go.Ab

/-! Calls: what is handed over. -/
set_option linter.unusedVariables false
set_option linter.unusedSimpArgs false
set_option linter.unusedSectionVars false
namespace Go.Ab
open Go

/-- The slices that lie in variables that are handed over. -/
def boxNs (H : Hp) : List Nm → List Nm
  | [] => []
  | x :: r => match hget H x with
    | some (.box cs) => cs.flatMap hslN ++ boxNs H r
    | _ => boxNs H r

theorem hget_boxUps {H : Hp} : ∀ {ns : List Nm} {b : Hp}, boxUps H ns = some b →
    (∀ x ∈ upNs b, ∃ o, hget b x = some o) ∧ (∀ x ∈ boxNs H ns, (∃ es z f, hget H x = some (.parr es z f)) → x ∈ upNs b) ∧
    ∀ (x : Nm) (o : AObj), hget b x = some o → (∃ es z f, hget H x = some (.parr es z f) ∧ o = .parr es z true ∧ x ∈ boxNs H ns) ∨
      ∃ cs cs', hget H x = some (.box cs) ∧ frzL1 H cs = some cs' ∧ o = .box cs' ∧ ∀ y ∈ cs.flatMap hslN, y ∈ boxNs H ns
  | [], b, h => by
    simp only [boxUps, Option.some.injEq] at h
    subst h
    exact ⟨fun x h => by simp [upNs] at h, fun x h => by simp [boxNs] at h, fun x o h => by simp [hget] at h⟩
  | x :: r, b, h => by
    simp only [boxUps] at h
    cases hx : hget H x with
    | none => simp [hx] at h
    | some ob =>
      cases hr : boxUps H r with
      | none => cases ob <;> simp [hx, hr] at h
      | some u =>
        obtain ⟨i1, i2, i3⟩ := hget_boxUps hr
        have other : (∀ cs, ob ≠ .box cs) → some u = some b → _ := fun hne e => (⟨hne, by injection e⟩ : (∀ cs, ob ≠ .box cs) ∧ u = b)
        cases ob with
        | box cs =>
          simp only [hx, hr] at h
          cases hf : frzL1 H cs with
          | none => simp [hf] at h
          | some cs' =>
            simp only [hf, Option.some.injEq] at h
            subst h
            have hbn : boxNs H (x :: r) = cs.flatMap hslN ++ boxNs H r := by simp [boxNs, hx]
            rw [hbn]
            refine ⟨fun y hy => ?_, fun y hy hp => ?_, fun y o ho => ?_⟩
            · simp only [hget]
              split
              · exact ⟨_, rfl⟩
              · rename_i hne
                rcases List.mem_cons.1 hy with rfl | hy
                · exact absurd rfl hne
                · rw [hget_append]
                  split
                  · rename_i hm; exact ups_frzUp hm
                  · rename_i hm
                    rcases mem_upNs_append.1 hy with h | h
                    · exact absurd h hm
                    · exact i1 y h
            · refine List.mem_cons_of_mem _ (mem_upNs_append.2 ?_)
              rcases List.mem_append.1 hy with hy | hy
              · obtain ⟨es, z, f, hp⟩ := hp; exact .inl (mem_frzUp hp hy)
              · exact .inr (i2 y hy hp)
            · simp only [hget] at ho
              split at ho
              · rename_i e
                subst e
                simp only [Option.some.injEq] at ho
                exact .inr ⟨cs, cs', hx, hf, ho.symm, fun y hy => List.mem_append_left _ hy⟩
              · rw [hget_append] at ho
                split at ho
                · obtain ⟨es, z, f, h1, h2, h3⟩ := hget_frzUp ho
                  exact .inl ⟨es, z, f, h1, h2, List.mem_append_left _ h3⟩
                · rcases i3 y o ho with ⟨es, z, f, h1, h2, h3⟩ | ⟨c, c', h1, h2, h3, h4⟩
                  · exact .inl ⟨es, z, f, h1, h2, List.mem_append_right _ h3⟩
                  · exact .inr ⟨c, c', h1, h2, h3, fun y hy => List.mem_append_right _ (h4 y hy)⟩
        | parr es z f =>
          simp only [hx, hr, Option.some.injEq] at h
          subst h
          have hbn : boxNs H (x :: r) = boxNs H r := by simp [boxNs, hx]
          rw [hbn]
          exact ⟨i1, i2, i3⟩
        | arr es =>
          simp only [hx, hr, Option.some.injEq] at h
          subst h
          have hbn : boxNs H (x :: r) = boxNs H r := by simp [boxNs, hx]
          rw [hbn]
          exact ⟨i1, i2, i3⟩

section
variable {idm : FuncId → FuncId} {m : NMap} {w : World} {W : Nat → Prop} {H : Hp}

theorem Good.boxes (s : SimH idm m w W H) {ns : List Nm} {b : Hp} (hb : boxUps H ns = some b) (v : AV) : Good idm m w W H { v, up := b } m w (Wf m H (boxNs H ns) W) := by
  obtain ⟨i1, i2, i3⟩ := hget_boxUps hb
  exact {
    k := Keep.refl _ w
    sub := fun i _ h => h.1
    sup := fun i hi hW hn => ⟨hW, fun ⟨x, hx, ⟨es, z, f, hp⟩, hbb⟩ => by
      cases f with
      | false => exact hn ⟨x, _, i2 x hx ⟨es, z, false, hp⟩, hp, rfl, hbb⟩
      | true =>
        obtain ⟨_, _, h⟩ := s.h x _ hp
        rcases h with ⟨h, _⟩ | ⟨b, c, e, h2, h3, h4, h5, h6, h7, h8, h9, h10⟩
        · rw [hbb] at h; cases h
        · rw [hbb] at h2; cases h2; exact h10 rfl hW⟩
    lt := fun i h => s.lt i h.1
    mm := fun _ _ _ => rfl
    up := fun x o ho => by
      rcases i3 x o ho with ⟨es, z, f, h1, rfl, h3⟩ | ⟨cs, cs', h1, h2, rfl, h4⟩
      · refine ⟨?_, fun y hy => by simp [AObj.names] at hy⟩
        obtain ⟨q0, q1, q2⟩ := s.h x _ h1
        refine ⟨q0, q1, ?_⟩
        rcases q2 with q2 | ⟨b, c, e, g2, g3, g4, g5, g6, g7, g8, g9, g10⟩
        · exact .inl q2
        · exact .inr ⟨b, c, e, g2, g3, g4, g5, g6, g7, fun i j e a v he ha hv => (g8 i j e a v he ha hv).keep (Keep.refl (fun _ => False) w) (fun _ h => h.elim) fun _ _ h => h.1,
            fun h => by simp at h, fun _ hx => hx.2 ⟨x, h3, ⟨es, z, f, h1⟩, g2⟩⟩
      · obtain ⟨b, c, e, g1, g2, g3, g4, g5, g6, g7⟩ := s.h x _ h1
        obtain ⟨f1, f2, f3, f4⟩ := frzL1_rep s g3 g6 h2 h4
        refine ⟨⟨b, c, e, g1, g2, f1, f4 g4, g5, f2, g7, fun ⟨y, hy, ⟨es, z, f, hp⟩, hbb⟩ => ?_⟩, fun y hy => ?_⟩
        · have := s.sep x y _ _ b h1 hp g1 hbb
          subst this
          rw [h1] at hp; cases hp
        · exact isSome_app (pg := none) i1 (s.ch x _ y h1 (f3 y hy))
    ups := i1
    b1 := fun x o q ho hq _ => by
      rcases i3 x o ho with ⟨es, z, f, h1, rfl, h3⟩ | ⟨cs, cs', h1, h2, rfl, h4⟩
      · exact ⟨_, h1, hq, fun h => by simp [AObj.frozen] at h⟩
      · exact ⟨_, h1, hq, fun _ => rfl⟩
    b2 := fun x y q hx _ hge hq _ => by
      obtain ⟨o, ho⟩ := i1 x hx
      rcases i3 x o ho with ⟨es, z, f, h1, _⟩ | ⟨cs, cs', h1, _⟩
      · have := (s.h x _ h1).lt hq; omega
      · have := (s.h x _ h1).lt hq; omega
    pgu := fun x h => by simp at h
    ext := fun _ => rfl }

theorem frzL_get : ∀ {cs cs' : List AV}, frzL H cs = some cs' → cs'.length = cs.length ∧ ∀ (i : Nat) (c' : AV), cs'[i]? = some c' → ∃ c, cs[i]? = some c ∧ frz H c = some c'
  | [], cs', h => by simp only [frzL, Option.some.injEq] at h; subst h; exact ⟨rfl, fun i c h => by simp at h⟩
  | v :: r, cs', h => by
    simp only [frzL] at h
    cases hv : frz H v with
    | none => simp [hv] at h
    | some v' => cases hr : frzL H r with
      | none => simp [hv, hr] at h
      | some r' =>
        simp only [hv, hr, Option.some.injEq] at h
        subst h
        obtain ⟨h1, h2⟩ := frzL_get hr
        refine ⟨by simp [h1], fun i c hi => ?_⟩
        cases i with
        | zero => simp at hi; subst hi; exact ⟨v, rfl, hv⟩
        | succ i => simp at hi; obtain ⟨c', hc', e⟩ := h2 i c hi; exact ⟨c', by simpa using hc', e⟩

theorem frzL_reps (s : SimH idm m w W H) {cs cs' : List AV} {vs : Array Value} (h : Reps idm m w W cs vs) (e : frzL H cs = some cs') :
    Reps idm m w (Wf m H (frzNs cs) W) cs' vs ∧ ∀ x ∈ namesL cs', x ∈ namesL cs := by
  obtain ⟨h1, h2⟩ := frzL_get e
  refine ⟨⟨by rw [h1]; exact h.hl, fun i c v hi hv => ?_⟩, fun x hx => ?_⟩
  · obtain ⟨c0, hc0, e0⟩ := h2 i c hi
    exact (frz_rep s (h.h i c0 v hc0 hv) e0 (frzNs_one (List.mem_of_getElem? hc0))).1
  · obtain ⟨c, hc, hx⟩ := mem_namesL.1 hx
    obtain ⟨i, hi⟩ := List.mem_iff_getElem?.1 hc
    obtain ⟨c0, hc0, e0⟩ := h2 i c hi
    have hlt := (List.getElem?_eq_some_iff.1 hc0).1
    have hv := Array.getElem?_eq_getElem (show i < vs.size by rw [h.hl]; exact hlt)
    exact mem_namesL.2 ⟨c0, List.mem_of_getElem? hc0, (frz_rep s (h.h i c0 _ hc0 hv) e0 (frzNs_one (List.mem_of_getElem? hc0))).2 x hx⟩
end

theorem allP_names {cs : List AV} {ps : List PV} (h : allP cs = some ps) : namesL cs = [] ∧ ∀ f, renL f cs = some cs := by
  induction cs generalizing ps with
  | nil => exact ⟨rfl, fun f => rfl⟩
  | cons v r ih =>
    cases v with
    | p v =>
      simp only [allP] at h
      cases hr : allP r with
      | none => simp [hr] at h
      | some q =>
        obtain ⟨h1, h2⟩ := ih hr
        exact ⟨by simp [namesL, AV.names, h1], fun f => by simp [renL, AV.ren, h2]⟩
    | _ => simp [allP] at h

section
variable {P : Program} {idm : FuncId → FuncId} {m : NMap} {w : World} {W : Nat → Prop} {H : Hp} {cf : CF}

/-- What a call comes to, as the caller sees it. -/
def After (P : Program) (idm : FuncId → FuncId) (m : NMap) (w : World) (W : Nat → Prop) (H : Hp) (d : Dl) (v : Value) (w' : World) : Prop :=
  ∃ m' W', Good idm m w W H d m' w' W' ∧ Rep idm m' w' W' d.v v ∧ ∀ y ∈ d.v.names, (hget (d.up ++ pgH d.pg H) y).isSome = true

theorem callEnd_inv {r i : Nat} {ns : List Nm} {ups : Hp} {x : Option CR} {d : Dl} (h : callEnd H r i ns ups x = some d) : ∃ c, x = some c ∧ c.outs.length = ns.length ∧ freeH (ups ++ H) (newUp r i 0 c.news) = true ∧
    ∃ av outs news, c.v.ren (fromExt ns r i) = some av ∧ renOs (fromExt ns r i) c.outs = some outs ∧ renOs (fromExt ns r i) c.news = some news ∧ d = { v := av, up := zipUp ns outs ++ (newUp r i 0 news ++ ups) } := by
  cases x with
  | none => simp [callEnd] at h
  | some c =>
    refine ⟨c, rfl, ?_⟩
    simp only [callEnd] at h
    split at h
    · rename_i v h1 h2 h3
      simp only [Option.some.injEq] at h
      subst h
      rw [h1, h2, h3]
      exact ⟨rfl, rfl, .p v, [], [], rfl, rfl, rfl, rfl⟩
    · rename_i ns _ _ _ _ _
      split at h
      · rename_i hc
        refine ⟨hc.1, hc.2, ?_⟩
        cases h1 : c.v.ren (fromExt ns r i) with
        | none => simp [h1] at h
        | some av => cases h2 : renOs (fromExt ns r i) c.outs with
          | none => simp [h1, h2] at h
          | some outs => cases h3 : renOs (fromExt ns r i) c.news with
            | none => simp [h1, h2, h3] at h
            | some news =>
              simp only [h1, h2, h3, Option.some.injEq] at h
              exact ⟨av, outs, news, rfl, rfl, rfl, h.symm⟩
      · cases h

theorem good_noop (s : SimH idm m w W H) : Good idm m w W H { v := .undef } m w W := Good.id s.lt _

/-- The call itself, behind all that is handed over. -/
theorem call_core (cfok : CFOK P idm cf) (s : SimH idm m w W H) {ups : Hp} {m1 : NMap} {W1 : Nat → Prop} {v0 : AV} (g1 : Good idm m w W H { v := v0, up := ups } m1 w W1) {r i : Nat} {ns : List Nm} {f : FuncId} {args args' : List AV} {os os' : List AObj} {d : Dl} {vs : Array Value}
    (hn : ns.Nodup) (ha : renL (toExt ns) args = some args') (ho : hgets (ups ++ H) ns = some os) (hr : renOs (toExt ns) os = some os') (he : callEnd H r i ns ups (cf f args' os') = some d) (hreps : Reps idm m1 w W1 args vs) :
    CallF P (idm f) vs w (After P idm m w W H d) := by
  have s1 : SimH idm m1 w W1 (ups ++ H) := g1.simH s
  obtain ⟨c, hc, hl, hfr, av, outs, news, e1, e2, e3, rfl⟩ := callEnd_inv he
  obtain ⟨l1, q1⟩ := renL_get ha
  have := cfok f args' os' c hc (mcOf m1 ns) w W1 vs (simH_args s1 hn ho (fun x y h => toExt_get h) hr) ⟨by rw [l1]; exact hreps.hl, fun k x v hx hv => by
      obtain ⟨x0, h1, h2⟩ := q1 k x hx
      exact (hreps.h k x0 v h1 hv).ren _ x h2 fun y _ z hz => by
        obtain ⟨j, rfl, hj⟩ := toExt_get hz
        exact mcOf_ext hj⟩ (fun x hx => by
      obtain ⟨y, _, hy⟩ := namesL_ren _ x args args' ha hx
      obtain ⟨j, rfl, hj⟩ := toExt_get hy
      refine argH_some.2 ⟨j, rfl, ?_⟩
      have := (List.getElem?_eq_some_iff.1 hj).1
      have := (renOs_get hr).1
      have := (hgets_get ho).1
      omega)
  refine this.mono fun v w' hp => ?_
  obtain ⟨m2, W2, g2, h2, h3⟩ := good_after s1 hn ho hr hp e1 e2 e3 hfr
  have := Good.comp s g1 g2
  refine ⟨m2, W2, by simpa [List.append_assoc] using this, h2, fun y hy => ?_⟩
  have := h3 y hy
  simpa [pgH, List.append_assoc] using this

theorem callNs_core (cfok : CFOK P idm cf) (s : SimH idm m w W H) {ups : Hp} {m1 : NMap} {W1 : Nat → Prop} {v0 : AV} (g1 : Good idm m w W H { v := v0, up := ups } m1 w W1) {r i : Nat} {f : FuncId} {args : List AV} {d : Dl} {vs : Array Value}
    (he : callNs cf H r i f args ups = some d) (hreps : Reps idm m1 w W1 args vs) : CallF P (idm f) vs w (After P idm m w W H d) := by
  unfold callNs at he
  cases hns : reach (ups ++ H) 64 (namesL args) [] with
  | none => simp [hns] at he
  | some ns =>
    simp only [hns] at he
    cases ha : renL (toExt ns) args with
    | none => simp [ha] at he
    | some args' => cases ho : hgets (ups ++ H) ns with
      | none => simp [ha, ho] at he
      | some os =>
        simp only [ha, ho] at he
        cases hr : renOs (toExt ns) os with
        | none => simp [hr] at he
        | some os' =>
          simp only [hr] at he
          exact call_core cfok s g1 (reach_nodup hns List.nodup_nil) ha ho hr he hreps

theorem callD_core (cfok : CFOK P idm cf) (s : SimH idm m w W H) {raw : Bool} {r i : Nat} {f : FuncId} {args : List AV} {d : Dl} {vs : Array Value} (he : callD cf raw H r i f args = some d) (hreps : Reps idm m w W args vs) :
    CallF P (idm f) vs w (After P idm m w W H d) := by
  unfold callD at he
  cases hp : allP args with
  | some ps =>
    simp only [hp] at he
    exact call_core cfok s (good_noop s) (ns := []) (os := []) (os' := []) (by simp) ((allP_names hp).2 _) rfl rfl he hreps
  | none =>
    simp only [hp] at he
    cases raw with
    | true => exact callNs_core cfok s (good_noop s) he hreps
    | false =>
      simp only [Bool.false_eq_true, if_false] at he
      cases hf : frzL H args with
      | none => simp [hf] at he
      | some args' =>
        simp only [hf] at he
        cases hns : reach (frzUp H (frzNs args) ++ H) 64 (namesL args') [] with
        | none => simp [hns] at he
        | some ns => cases hb : boxUps (frzUp H (frzNs args) ++ H) ns with
          | none => simp [hns, hb] at he
          | some b =>
            simp only [hns, hb] at he
            have gz := Good.freeze s (frzNs args) .undef
            have s1 : SimH idm m w (Wf m H (frzNs args) W) (frzUp H (frzNs args) ++ H) := gz.simH s
            have gb := Good.boxes s1 hb .undef
            have g1 := Good.comp s gz gb
            obtain ⟨hr1, hr2⟩ := frzL_reps s hreps hf
            exact callNs_core cfok s g1 he ⟨hr1.hl, fun i c v hi hv => (hr1.h i c v hi hv).frz_keep _⟩
end

section
variable {P : Program} {idm : FuncId → FuncId} {N : Nat} {m : NMap} {w : World} {W : Nat → Prop} {st : St} {a : Act} {o : Go.Oper} (s : Sim idm N m w W st a)
include s

theorem ok_call {cf : CF} (cfok : CFOK P idm cf) {raw : FuncId → Bool} (r i : Nat) {x : Operand} {x' : Opd} {args : Array Operand} {args' : List Opd} {tys : Array TypeId} (ho : o.op = .call { callee := .value x, args := args, argTypes := tys })
    (hx : opdL idm x x' = true) (ha : opdsL idm args.toList args' = true) {f : FuncId} {fa fb : List AV} (hf : ev st.T x' = .fn f fa fb) {d : Dl} (hd : callD cf (raw f) st.H r i f (fa ++ evL st.T args' ++ fb) = some d) : OpStep P idm m w W st.H o a d := by
  intro K Q hk
  obtain ⟨h1, _⟩ := opdL_rep hx s
  obtain ⟨g1, g2, g3⟩ := opdsL_rep s ha
  rw [hf] at h1
  generalize hu : a.eval x = u at h1
  cases h1 with
  | fn _ _ _ va vb l1 l2 r1 r2 =>
    have hreps : Reps idm m w W (fa ++ evL st.T args' ++ fb) (va ++ args.map a.eval ++ vb) := Reps.append (Reps.append ⟨l1, r1⟩ ⟨by simpa using g1, fun i c v hc hv => g2 i c v hc (by simpa using hv)⟩) ⟨l2, r2⟩
    have hrun : (execOp a.eval o).run P w = (callFunc (idm f) (va ++ args.map a.eval ++ vb)).run P w := by
      simp [execOp, ho, resolve, Deferred.ofValue, hu, invoke]
    have hK : ∀ v w', After P idm m w W st.H d v w' → K (a.put o.dst v) w' := fun v w' ⟨m', W', h1, h2, h3⟩ => hk v m' w' W' h1 h2 h3
    unfold Oper.wp
    rw [hrun]
    rcases callD_core cfok s.toSimH hd hreps with ⟨v, w', h1, h2⟩ | ⟨h1, h2⟩
    · rw [h1]; exact hK v w' h2
    · rw [h1]
      exact h2.mono fun e w' he => by cases e <;> first | exact hK _ _ he | exact he.elim
end
end Go.Ab

/-! All operations. -/
set_option linter.unusedVariables false
set_option linter.unusedSimpArgs false
set_option linter.unusedSectionVars false
namespace Go.Ab
open Go

section
variable {P : Program} {idm : FuncId → FuncId} {N : Nat} {m : NMap} {w : World} {W : Nat → Prop} {st : St} {a : Act} {o : Go.Oper} (s : Sim idm N m w W st a)
include s

set_option maxHeartbeats 4000000 in
theorem opD_ok {cf : CF} (cfok : CFOK P idm cf) {raw : FuncId → Bool} (r i : Nat) {so : SOp} (hl : opL P idm o.op so = true) {d : Dl} (hd : opD cf raw r i st.T st.H so = some d) : OpStep P idm m w W st.H o a d := by
  generalize ho : o.op = op at hl
  unfold opL at hl
  split at hl
  · simp only [opD, Option.some.injEq] at hd; subst hd
    exact (ok_mv s (.inl ho) hl).step
  · simp only [opD, Option.some.injEq] at hd; subst hd
    exact (ok_mv s (.inr ho) hl).step
  · simp only [opD, Option.ite_none_right_eq_some, Option.some.injEq] at hd
    obtain ⟨h1, rfl⟩ := hd
    exact (ok_nnew s r i ho h1).step
  · simp only [Bool.and_eq_true] at hl
    simp only [opD] at hd
    split at hd
    · rename_i b hb
      simp only [Option.some.injEq] at hd; subst hd
      exact (ok_pick s ho hl.1.1 hl.1.2 hl.2 hb).step
    · cases hd
  · split at hl
    · rename_i z hz
      simp only [opD, Option.ite_none_right_eq_some, Option.some.injEq] at hd
      obtain ⟨h1, rfl⟩ := hd
      exact (ok_alloc s r i ho hz hl h1).step
    · cases hl
  · simp only [opD, Option.ite_none_right_eq_some, Option.some.injEq] at hd
    obtain ⟨⟨h1, h2⟩, rfl⟩ := hd
    exact (ok_box s r i ho hl h1 h2).step
  · rename_i t ps zs qs
    rw [Bool.and_eq_true] at hl
    obtain ⟨hl1, hl2⟩ := hl
    split at hl1
    · rename_i z hz
      simp only [opD] at hd
      split at hd
      · rename_i hn
        split at hd
        · rename_i cs hf
          simp only [Option.some.injEq] at hd; subst hd
          refine (ok_build s r i ho hz hl1 ?_ hn hf).step
          split at hl2
          · rename_i fs hu
            simp only [Bool.and_eq_true, Array.all_eq_true', decide_eq_true_eq] at hl2
            exact .inl ⟨fs, hu, fun f hf => hl2.1 f hf, hl2.2⟩
          · rename_i n e hu
            simp only [Bool.and_eq_true] at hl2
            exact .inr ⟨n, e, hu, hl2.1, hl2.2⟩
          · cases hl2
        · cases hd
      · cases hd
    · cases hl1
  · rename_i t n ps own z qs
    simp only [Bool.and_eq_true] at hl
    obtain ⟨⟨hl1, hl2⟩, hl3⟩ := hl
    split at hl1
    · rename_i e hu
      simp only [Bool.and_eq_true, decide_eq_true_eq, beq_iff_eq] at hl1 hl2
      obtain ⟨⟨⟨q1, q2⟩, q3⟩, q4⟩ := hl1
      split at q1
      · rename_i v hz
        simp only [beq_iff_eq] at q1
        simp only [opD] at hd
        split at hd
        · rename_i es hes
          obtain ⟨g1, g2⟩ := ok_bslice s r i (own := own) ho hu hz q1 q2 q3 q4 hl2 hl3 hes
          split at hd
          · simp only [Option.ite_none_right_eq_some, Option.some.injEq] at hd
            obtain ⟨h1, rfl⟩ := hd
            exact (g2 h1).step
          · simp only [Option.some.injEq] at hd; subst hd
            exact g1.step
        · simp only [Option.ite_none_right_eq_some, Option.some.injEq] at hd
          obtain ⟨⟨rfl, h2, h3⟩, rfl⟩ := hd
          exact (ok_barr s r i (own := own) ho hu hz q1 q2 q4 hl2 hl3 h3 h2).step
      · cases q1
    · cases hl1
  · simp only [Bool.and_eq_true, beq_iff_eq] at hl
    simp only [opD] at hd
    split at hd
    · rename_i v hv
      simp only [Option.some.injEq] at hd; subst hd
      exact (ok_load s ho hl.1.1.1 hl.1.1.2 hl.2 hv).step
    · cases hd
  · simp only [Bool.and_eq_true, beq_iff_eq] at hl
    simp only [opD, storeD] at hd
    split at hd
    · rename_i x off hx
      split at hd
      · rename_i cs hcs
        simp only [Option.ite_none_right_eq_some, Option.some.injEq] at hd
        obtain ⟨⟨h1, h2, h3⟩, rfl⟩ := hd
        exact (ok_store_box s ho hl.1.1 hl.1.2 hl.2 hx hcs h1 h2 h3).step
      · cases hd
    · rename_i x ii off hx
      split at hd
      · rename_i es z vs hes hvs
        split at hd
        · rename_i el hel
          simp only [Option.ite_none_right_eq_some, Option.some.injEq] at hd
          obtain ⟨⟨h1, h2, h3, h4⟩, rfl⟩ := hd
          exact (ok_store_row s ho hl.1.1 hl.1.2 hl.2 hx hes hvs hel h1 h2 h3 h4).step
        · cases hd
      · cases hd
    · cases hd
  · simp only [opD, Option.ite_none_right_eq_some, Option.some.injEq] at hd
    obtain ⟨h1, rfl⟩ := hd
    exact (ok_nilck s ho hl h1).step
  · simp only [Bool.and_eq_true, beq_iff_eq] at hl
    obtain ⟨⟨⟨rfl, h2⟩, h3⟩, h4⟩ := hl
    simp only [opD] at hd
    split at hd
    · rename_i c1 c2 e1 e2
      split at hd
      · rename_i v hv
        simp only [Option.some.injEq] at hd; subst hd
        exact (ok_bin s ho h2 h3 h4 e1 e2 hv).step
      · cases hd
    · cases hd
  · simp only [Bool.and_eq_true] at hl
    obtain ⟨⟨⟨h1, h2⟩, h3⟩, h4⟩ := hl
    simp only [opD] at hd
    split at hd
    · rename_i c1 c2 e1 e2
      simp only [Option.some.injEq] at hd; subst hd
      refine (ok_bbin s ho ?_ ?_ h3 h4 e1 e2).step
      · split at h1
        · exact .inl ⟨rfl, by simpa using h1⟩
        · exact .inr ⟨rfl, h1⟩
        · cases h1
      · split at h2
        · assumption
        · cases h2
    · cases hd
  · simp only [Bool.and_eq_true, beq_iff_eq] at hl
    obtain ⟨⟨⟨h1, h2⟩, h3⟩, h4⟩ := hl
    subst h1
    split at h2
    · rename_i e hu
      split at h3
      · exact (ok_isnil s ho hu h4 hd).step
      · cases h3
    · cases h2
  · simp only [Bool.and_eq_true, beq_iff_eq, Bool.not_eq_true'] at hl
    obtain ⟨⟨⟨⟨⟨h1, h2⟩, h3⟩, h4⟩, h5⟩, h6⟩ := hl
    simp only [opD] at hd
    split at hd
    · rename_i c1 c2 e1 e2
      split at hd
      · rename_i b hb
        simp only [Option.some.injEq] at hd; subst hd
        refine (ok_eqs s ho ?_ h2 h3 ?_ h5 h6 e1 e2 hb).step
        · split at h1
          · exact .inl ⟨rfl, by simpa using h1⟩
          · exact .inr ⟨rfl, h1⟩
          · cases h1
        · split at h4
          · rename_i fs hu; exact ⟨fs, hu⟩
          · cases h4
      · cases hd
    · cases hd
  · simp only [Bool.and_eq_true, beq_iff_eq] at hl
    obtain ⟨rfl, h2⟩ := hl
    simp only [opD] at hd
    split at hd
    · rename_i c1 e1
      split at hd
      · rename_i v hv
        simp only [Option.some.injEq] at hd; subst hd
        exact (ok_un s ho h2 e1 hv).step
      · cases hd
    · cases hd
  · simp only [Bool.and_eq_true] at hl
    obtain ⟨h1, h2⟩ := hl
    simp only [opD] at hd
    split at hd
    · rename_i e1
      simp only [Option.some.injEq] at hd; subst hd
      split at h1
      · rename_i hs hdd
        have := eq_of_beq h1
        subst this
        exact (ok_conv s ho hs hdd h2 e1).step
      · cases h1
    · cases hd
  · simp only [Bool.and_eq_true, beq_iff_eq] at hl
    simp only [opD, Option.some.injEq] at hd; subst hd
    exact (ok_mkfn s ho hl.1.1 hl.1.2 hl.2).step
  · simp only [Bool.and_eq_true] at hl
    obtain ⟨⟨h1, h2⟩, h3⟩ := hl
    simp only [opD] at hd
    split at hd
    · rename_i n hn
      simp only [Option.ite_none_right_eq_some, Option.some.injEq] at hd
      obtain ⟨h4, rfl⟩ := hd
      split at h1
      · rename_i e hu
        split at h1
        · rename_i ti hti
          simp only [Bool.and_eq_true, decide_eq_true_eq] at h1
          obtain ⟨h5, h6⟩ := h1
          split at h6
          · rename_i v hv
            simp only [Bool.and_eq_true, beq_iff_eq] at h6
            exact (ok_mkslice s r i ho hu hti h5 hv h6.1 h6.2 h2 h3 hn h4).step
          · cases h6
        · cases h1
      · cases h1
    · cases hd
  · simp only [Bool.and_eq_true, Bool.or_eq_true] at hl
    obtain ⟨⟨⟨⟨⟨h1, h2⟩, h3⟩, h4⟩, h5⟩, h6⟩ := hl
    split at h1
    · rename_i e hu
      simp only [opD] at hd
      split at hd
      · cases hd
      · rename_i hns
        split at hd
        · rename_i v hv
          simp only [Option.some.injEq] at hd; subst hd
          refine (ok_slice s ho ?_ h2 h3 h4 h5 ?_ ?_ hv).step
          · rw [hu]; exact h1
          · intro hm
            rcases h6 with h6 | h6
            · exact absurd (Option.isNone_iff_eq_none.1 h6) hm
            · intro e; rw [e] at h6; cases h6
          · split
            · rename_i str hs; exact absurd hs (hns str)
            · exact ⟨e, hu⟩
        · cases hd
    · cases h1
  · simp only [Bool.and_eq_true] at hl
    obtain ⟨⟨⟨h1, h2⟩, h3⟩, h4⟩ := hl
    split at h1
    · rename_i hu
      simp only [opD] at hd
      split at hd
      · rename_i str hs
        split at hd
        · rename_i v hv
          simp only [Option.some.injEq] at hd; subst hd
          refine (ok_slice s (z := 0) (mx' := none) ho ?_ h2 h3 h4 rfl (by simp) ?_ (by rw [hs]; exact hv)).step
          · rw [hu]
          · rw [hs]; exact hu
        · cases hd
      · cases hd
    · cases h1
  · rename_i t x f off y
    simp only [Bool.and_eq_true] at hl
    obtain ⟨h1, h2⟩ := hl
    split at h1
    · rename_i fs hu
      split at h1
      · rename_i g hg
        simp only [Bool.and_eq_true, beq_iff_eq] at h1
        obtain ⟨h3, h4⟩ := h1
        split at h4
        · rename_i n hn
          simp only [bne_iff_ne, ne_eq] at h4
          simp only [opD] at hd
          obtain ⟨v, hv, rfl⟩ : ∃ v, (match ev st.T y with
              | .ptr x o => some (AV.ptr x (o + off))
              | .eptr x i o => some (.eptr x i (o + off))
              | .rptr cs => some (.rptr (cs.drop off))
              | _ => none) = some v ∧ d = { v } := by
            generalize ev st.T y = u at hd
            cases u <;> simp only [Option.some.injEq, reduceCtorEq] at hd <;> subst hd <;> exact ⟨_, rfl, rfl⟩
          exact (ok_faddr s ho hu hg h3 hn h4 h2 hv).step
        · cases h4
      · cases h1
    · cases h1
  · simp only [Bool.and_eq_true] at hl
    obtain ⟨h1, h2⟩ := hl
    split at h1
    · rename_i fs hu
      split at h1
      · rename_i g hg
        simp only [Bool.and_eq_true, beq_iff_eq] at h1
        simp only [opD] at hd
        split at hd
        · rename_i v hv
          simp only [Option.some.injEq] at hd; subst hd
          exact (ok_fld s ho hu hg h1.1.1 h1.2 h1.1.2 h2 hv).step
        · cases hd
      · cases h1
    · cases h1
  · simp only [Bool.and_eq_true] at hl
    obtain ⟨⟨h1, h2⟩, h3⟩ := hl
    split at h1
    · rename_i e hu
      simp only [opD] at hd
      split at hd
      · rename_i k n hn
        split at hd
        · rename_i h0
          split at hd
          · rename_i v hv
            simp only [Option.some.injEq] at hd; subst hd
            exact (ok_iaddr s ho hu (eq_of_beq h1) h2 h3 hn h0 hv).step
          · cases hd
        · cases hd
      · cases hd
    · cases h1
  · simp only [Bool.and_eq_true] at hl
    obtain ⟨⟨h1, h2⟩, h3⟩ := hl
    split at h1
    · rename_i hu
      simp only [opD] at hd
      split at hd
      · rename_i str k n hs hn
        split at hd
        · rename_i h0
          split at hd
          · rename_i v hv
            simp only [Option.some.injEq] at hd; subst hd
            exact (ok_sidx s ho hu h2 h3 hs hn h0 hv).step
          · cases hd
        · cases hd
      · cases hd
    · cases h1
  · simp only [Bool.and_eq_true] at hl
    obtain ⟨⟨h1, h2⟩, h3⟩ := hl
    split at h1
    · rename_i n' e hu
      simp only [Bool.and_eq_true, beq_iff_eq] at h1
      obtain ⟨⟨rfl, h5⟩, h6⟩ := h1
      simp only [opD] at hd
      split at hd
      · rename_i k n hn
        split at hd
        · rename_i h0
          split at hd
          · rename_i v hv
            simp only [Option.some.injEq] at hd; subst hd
            exact (ok_aidx s ho hu h6 h5 h2 h3 hn h0.1 h0.2 hv).step
          · cases hd
        · cases hd
      · cases hd
    · cases h1
  · simp only [Bool.and_eq_true, beq_iff_eq] at hl
    obtain ⟨rfl, h2⟩ := hl
    simp only [opD] at hd
    split at hd
    · rename_i vs hs
      split at hd
      · rename_i v hv
        simp only [Option.some.injEq] at hd; subst hd
        exact (ok_ext s ho h2 hs hv).step
      · cases hd
    · cases hd
  · simp only [Bool.and_eq_true] at hl
    simp only [opD] at hd
    split at hd
    · rename_i f fa fb hf
      exact ok_call s cfok r i ho hl.1 hl.2 hf hd
    · cases hd
  · split at hl
    · rename_i x t hargs htys
      simp only [Bool.and_eq_true] at hl
      obtain ⟨h1, h2⟩ := hl
      split at h2
      · rename_i hu
        subst h2
        simp only [opD] at hd
        split at hd
        · rename_i str hs
          simp only [Option.some.injEq] at hd; subst hd
          exact (ok_len s hargs htys ho (.inl hu) h1 (n := str.size) (by rw [hs]) (by rw [hs]; exact hu)).step
        · cases hd
      · rename_i e hu
        simp only [Bool.not_eq_true'] at h2
        subst h2
        simp only [opD] at hd
        split at hd
        · rename_i z es hs
          simp only [Option.some.injEq] at hd; subst hd
          exact (ok_len s hargs htys ho (.inr ⟨e, hu⟩) h1 (n := es.length) (by rw [hs]) (by rw [hs]; exact ⟨e, hu⟩)).step
        · rename_i z hs
          simp only [Option.some.injEq] at hd; subst hd
          exact (ok_len s hargs htys ho (.inr ⟨e, hu⟩) h1 (n := 0) (by rw [hs]) (by rw [hs]; exact ⟨e, hu⟩)).step
        · rename_i x off n hs
          simp only [Option.some.injEq] at hd; subst hd
          exact (ok_len s hargs htys ho (.inr ⟨e, hu⟩) h1 (n := n) (by rw [hs]) (by rw [hs]; exact ⟨e, hu⟩)).step
        · cases hd
      · cases h2
    · cases hl
  · split at hl
    · rename_i x y t u hargs htys
      simp only [Bool.and_eq_true] at hl
      obtain ⟨⟨h1, h2⟩, h3⟩ := hl
      split at h3
      · rename_i e e' hu hu'
        split at h3
        · rename_i ti hti
          simp only [Bool.and_eq_true, beq_iff_eq, decide_eq_true_eq] at h3
          obtain ⟨⟨⟨q1, q2⟩, q3⟩, q4⟩ := h3
          split at q4
          · rename_i zv hzv
            simp only [Bool.and_eq_true, beq_iff_eq, Array.all_eq_true'] at q4
            simp only [opD] at hd
            split at hd
            · rename_i z' ys hel
              simp only [Option.ite_none_right_eq_some] at hd
              obtain ⟨rfl, hd⟩ := hd
              split at hd
              · rename_i z2 hx
                simp only [Option.ite_none_right_eq_some, Option.some.injEq] at hd
                obtain ⟨⟨g1, g2⟩, rfl⟩ := hd
                exact (ok_append_nils s r i hargs htys ho h1 h2 hu hu' hti hzv q1 q2 q3 q4.1 q4.2 hel hx g1 g2).step
              · rename_i n off len hx
                split at hd
                · rename_i es z2 hes
                  simp only [Option.ite_none_right_eq_some, Option.some.injEq] at hd
                  obtain ⟨⟨rfl, rfl, rfl, g1, g2, g3⟩, rfl⟩ := hd
                  exact (ok_append_hsl s hargs htys ho h1 h2 hu hu' hti hzv q1 q2 q3 q4.1 q4.2 hel hx hes g2 g1).step
                · cases hd
              · cases hd
            · cases hd
          · cases q4
        · cases h3
      · cases h3
    · cases hl
  · split at hl
    · rename_i x y hargs
      simp only [Bool.and_eq_true] at hl
      simp only [opD] at hd
      split at hd
      · rename_i e1 e2
        simp only [Option.ite_none_right_eq_some, Option.some.injEq] at hd
        obtain ⟨rfl, rfl⟩ := hd
        exact (ok_mx s hargs ho hl.1 hl.2 e1 e2).step
      · cases hd
    · cases hl
  · split at hl
    · rename_i x y hargs
      simp only [Bool.and_eq_true] at hl
      simp only [opD] at hd
      split at hd
      · rename_i e1 e2
        simp only [Option.ite_none_right_eq_some, Option.some.injEq] at hd
        obtain ⟨rfl, rfl⟩ := hd
        exact (ok_mn s hargs ho hl.1 hl.2 e1 e2).step
      · cases hd
    · cases hl
  · cases hl
end
end Go.Ab

/-! Operations that do not meet each other: any order will do. -/
set_option linter.unusedVariables false
set_option linter.unusedSimpArgs false
set_option linter.unusedSectionVars false
namespace Go.Ab
open Go

section
variable {H H' : Hp}

theorem hslN_names {v : AV} {x : Nm} (h : x ∈ hslN v) : x ∈ v.names := by cases v <;> simp [hslN, AV.names] at h ⊢; exact h

theorem elems_loc {v : AV} (h : ∀ x ∈ v.names, hget H' x = hget H x) : elems H' v = elems H v := by
  cases v
  case hsl x off len => simp only [elems]; rw [h x (by simp [AV.names])]
  case p c => cases c <;> rfl
  all_goals rfl
theorem frz1_loc {v : AV} (h : ∀ x ∈ hslN v, hget H' x = hget H x) : frz1 H' v = frz1 H v := by
  cases v <;> simp only [frz1]
  rename_i x off len
  rw [elems_loc (H := H) (H' := H') (v := .hsl x off len) (by simpa [AV.names, hslN] using h)]
theorem frzL1_loc : ∀ {cs : List AV}, (∀ x ∈ cs.flatMap hslN, hget H' x = hget H x) → frzL1 H' cs = frzL1 H cs
  | [], _ => rfl
  | v :: r, h => by
    simp only [frzL1]
    rw [frz1_loc fun x hx => h x (by simp only [List.flatMap_cons, List.mem_append]; exact .inl hx), frzL1_loc fun x hx => h x (by simp only [List.flatMap_cons, List.mem_append]; exact .inr hx)]
theorem frz_loc {v : AV} (h : ∀ x ∈ frzNs [v], hget H' x = hget H x) : frz H' v = frz H v := by
  cases v <;> simp only [frz]
  case agg cs => rw [frzL1_loc fun x hx => h x (by simpa [frzNs] using hx)]
  case tup cs => rw [frzL1_loc fun x hx => h x (by simpa [frzNs] using hx)]
  all_goals exact frz1_loc fun x hx => h x (by simpa [frzNs] using hx)
theorem frzNs_cons (v : AV) (r : List AV) : frzNs (v :: r) = frzNs [v] ++ frzNs r := by cases v <;> simp [frzNs]
theorem frzL_loc : ∀ {cs : List AV}, (∀ x ∈ frzNs cs, hget H' x = hget H x) → frzL H' cs = frzL H cs
  | [], _ => rfl
  | v :: r, h => by
    rw [frzNs_cons] at h
    simp only [frzL]
    rw [frz_loc fun x hx => h x (List.mem_append_left _ hx), frzL_loc fun x hx => h x (List.mem_append_right _ hx)]
theorem pelems_loc {z : Nat} : ∀ {cs : List AV}, (∀ x ∈ frzNs cs, hget H' x = hget H x) → pelems H' z cs = pelems H z cs
  | [], _ => rfl
  | v :: r, h => by
    rw [frzNs_cons] at h
    simp only [pelems, pelem]
    rw [frz_loc fun x hx => h x (List.mem_append_left _ hx), pelems_loc fun x hx => h x (List.mem_append_right _ hx)]
theorem frzUp_loc : ∀ {ns : List Nm}, (∀ x ∈ ns, hget H' x = hget H x) → frzUp H' ns = frzUp H ns
  | [], _ => rfl
  | x :: r, h => by
    simp only [frzUp]
    rw [h x (by simp), frzUp_loc fun y hy => h y (by simp [hy])]
theorem hgets_loc : ∀ {ns : List Nm}, (∀ x ∈ ns, hget H' x = hget H x) → hgets H' ns = hgets H ns
  | [], _ => rfl
  | x :: r, h => by
    simp only [hgets]
    rw [h x (by simp), hgets_loc fun y hy => h y (by simp [hy])]
theorem objNs_loc : ∀ {ns : List Nm}, (∀ x ∈ ns, hget H' x = hget H x) → objNs H' ns = objNs H ns
  | [], _ => rfl
  | x :: r, h => by
    simp only [objNs]
    rw [h x (by simp), objNs_loc fun y hy => h y (by simp [hy])]
theorem mem_objNs : ∀ {ns : List Nm} {x y : Nm} {o : AObj}, x ∈ ns → hget H x = some o → y ∈ o.names → y ∈ objNs H ns
  | z :: r, x, y, o, h, ho, hy => by
    simp only [objNs]
    rcases List.mem_cons.1 h with rfl | h
    · rw [ho]; exact List.mem_append_left _ hy
    · have := mem_objNs h ho hy
      split
      · exact List.mem_append_right _ this
      · exact this
theorem flat_hslN {cs : List AV} {x : Nm} (h : x ∈ cs.flatMap hslN) : x ∈ namesL cs := by
  obtain ⟨v, hv, hx⟩ := List.mem_flatMap.1 h
  exact mem_namesL.2 ⟨v, hv, hslN_names hx⟩
theorem frzNs_names : ∀ {cs : List AV} {x : Nm}, x ∈ frzNs cs → x ∈ namesL cs
  | [], x, h => by simp [frzNs] at h
  | v :: r, x, h => by
    rw [frzNs_cons] at h
    simp only [namesL, List.mem_append]
    rcases List.mem_append.1 h with h | h
    · left
      cases v <;> simp only [frzNs, List.append_nil] at h <;> first | exact hslN_names h | (simp only [AV.names]; exact flat_hslN h)
    · exact .inr (frzNs_names h)
theorem boxUps_loc : ∀ {ns : List Nm}, (∀ x ∈ ns, hget H' x = hget H x) → (∀ x ∈ objNs H ns, hget H' x = hget H x) → boxUps H' ns = boxUps H ns
  | [], _, _ => rfl
  | x :: r, h, g => by
    have hx := h x (by simp)
    have ih := boxUps_loc (ns := r) (fun y hy => h y (by simp [hy])) fun y hy => g y (by
      simp only [objNs]
      split
      · exact List.mem_append_right _ hy
      · exact hy)
    simp only [boxUps]
    rw [hx, ih]
    cases ho : hget H x with
    | none => rfl
    | some o =>
      cases o with
      | box cs =>
        have hg : ∀ y ∈ cs.flatMap hslN, hget H' y = hget H y := fun y hy => g y (by
          simp only [objNs, ho]
          exact List.mem_append_left _ (flat_hslN hy))
        cases boxUps H r with
        | none => rfl
        | some u => simp only; rw [frzL1_loc hg, frzUp_loc hg]
      | _ => cases boxUps H r <;> rfl

theorem reach_mono : ∀ {n : Nat} {todo acc ns : List Nm}, reach H n todo acc = some ns → (∀ x ∈ acc, x ∈ ns) ∧ ∀ x ∈ todo, x ∈ ns
  | n, [], acc, ns, h => by cases n <;> simp only [reach, Option.some.injEq] at h <;> (subst h; exact ⟨fun _ h => h, fun _ h => by cases h⟩)
  | 0, x :: todo, acc, ns, h => by simp [reach] at h
  | n + 1, x :: todo, acc, ns, h => by
    simp only [reach] at h
    split at h
    · rename_i hx
      obtain ⟨h1, h2⟩ := reach_mono h
      exact ⟨h1, fun y hy => by rcases List.mem_cons.1 hy with rfl | hy <;> first | exact h1 _ hx | exact h2 _ hy⟩
    · split at h
      · obtain ⟨h1, h2⟩ := reach_mono h
        exact ⟨fun y hy => h1 y (List.mem_append_left _ hy), fun y hy => by
          rcases List.mem_cons.1 hy with rfl | hy
          · exact h1 _ (by simp)
          · exact h2 _ (List.mem_append_left _ hy)⟩
      · cases h
theorem reach_loc : ∀ {n : Nat} {todo acc ns : List Nm}, reach H n todo acc = some ns → (∀ x ∈ ns, hget H' x = hget H x) → reach H' n todo acc = some ns
  | n, [], acc, ns, h, _ => by cases n <;> simp only [reach] at h ⊢ <;> exact h
  | 0, x :: todo, acc, ns, h, _ => by simp [reach] at h
  | n + 1, x :: todo, acc, ns, h, hh => by
    have hx := (reach_mono h).2 x (by simp)
    simp only [reach] at h ⊢
    split at h
    · rename_i hm; rw [if_pos hm]; exact reach_loc h hh
    · rename_i hm
      rw [if_neg hm, hh x hx]
      split at h
      · exact reach_loc h hh
      · cases h

theorem app_loc {u : Hp} {x : Nm} (h : hget H' x = hget H x) : hget (u ++ H') x = hget (u ++ H) x := by
  rw [hget_append, hget_append]; split <;> first | rfl | exact h
theorem app_free {u : Hp} {x : Nm} (h : hget H x = none → hget H' x = none) : hget (u ++ H) x = none → hget (u ++ H') x = none := by
  rw [hget_append, hget_append]; split <;> first | exact fun h => h | exact h
theorem freeH_loc : ∀ {n : Hp}, (∀ x ∈ upNs n, hget H x = none → hget H' x = none) → freeH H n = true → freeH H' n = true
  | [], _, _ => rfl
  | (x, o) :: r, h, hf => by
    simp only [freeH, Bool.and_eq_true] at hf ⊢
    exact ⟨Option.isNone_iff_eq_none.2 (h x (by simp [upNs]) (Option.isNone_iff_eq_none.1 hf.1)), freeH_loc (fun y hy => h y (by simp [upNs, hy])) hf.2⟩

theorem callEnd_loc {r i : Nat} {ns : List Nm} {ups : Hp} {x : Option CR} {d : Dl} (hf : ∀ j, hget H (.loc r i j) = none → hget H' (.loc r i j) = none) (h : callEnd H r i ns ups x = some d) : callEnd H' r i ns ups x = some d := by
  cases x with
  | none => exact h
  | some c =>
    simp only [callEnd] at h ⊢
    split at h
    · exact h
    · split at h
      · rename_i hc
        rw [if_pos ⟨hc.1, freeH_loc (fun x hx => by obtain ⟨j, rfl, _⟩ := mem_newUp.1 hx; exact app_free (hf _)) hc.2⟩]
        exact h
      · cases h

theorem callNs_loc {cf : CF} {r i : Nat} {f : FuncId} {args : List AV} {ups : Hp} {d : Dl} {ns : List Nm} (hns : reach (ups ++ H) 64 (namesL args) [] = some ns) (hH : ∀ x ∈ ns, hget H' x = hget H x)
    (hf : ∀ j, hget H (.loc r i j) = none → hget H' (.loc r i j) = none) (h : callNs cf H r i f args ups = some d) : callNs cf H' r i f args ups = some d := by
  unfold callNs at h ⊢
  rw [reach_loc hns fun x hx => app_loc (hH x hx)]
  rw [hns] at h
  simp only at h ⊢
  rw [hgets_loc (H := ups ++ H) (H' := ups ++ H') fun x hx => app_loc (hH x hx)]
  split at h
  · split at h
    · exact callEnd_loc hf h
    · cases h
  · cases h

theorem names_frz {v v' : AV} (h : frz H v = some v') : ∀ x ∈ v'.names, x ∈ v.names := by
  have h1 : ∀ {v v' : AV}, frz1 H v = some v' → ∀ x ∈ v'.names, x ∈ v.names := by
    intro v v' h x hx
    cases v <;> simp only [frz1, Option.some.injEq] at h
    case hsl y o l =>
      split at h
      · simp only [Option.some.injEq] at h; subst h; simp [AV.names] at hx
      · cases h
    all_goals (subst h; first | exact hx | (simp [AV.names] at hx))
  have hL : ∀ {cs cs' : List AV}, frzL1 H cs = some cs' → ∀ x ∈ namesL cs', x ∈ namesL cs := by
    intro cs cs' h x hx
    obtain ⟨c, hc, hx⟩ := mem_namesL.1 hx
    obtain ⟨i, hi⟩ := List.mem_iff_getElem?.1 hc
    obtain ⟨c0, hc0, e⟩ := (frzL1_get h).2 i c hi
    exact mem_namesL.2 ⟨c0, List.mem_of_getElem? hc0, h1 e x hx⟩
  intro x hx
  cases v <;> simp only [frz] at h
  case agg cs =>
    split at h
    · rename_i cs' e
      simp only [Option.some.injEq] at h; subst h
      simp only [AV.names]
      exact hL e x (names_mkAgg hx)
    · cases h
  case tup cs =>
    split at h
    · rename_i cs' e
      simp only [Option.some.injEq] at h; subst h
      simp only [AV.names] at hx ⊢
      exact hL e x hx
    · cases h
  all_goals exact h1 h x hx

theorem callD_loc {cf : CF} {raw : Bool} {r i : Nat} {f : FuncId} {args : List AV} {d : Dl} (hH : ∀ x ∈ callFp raw H args, hget H' x = hget H x)
    (hf : ∀ j, hget H (.loc r i j) = none → hget H' (.loc r i j) = none) (h : callD cf raw H r i f args = some d) : callD cf raw H' r i f args = some d ∧ callFp raw H' args = callFp raw H args := by
  unfold callD at h ⊢
  unfold callFp at hH ⊢
  cases hp : allP args with
  | some ps =>
    simp only [hp] at h ⊢
    exact ⟨callEnd_loc hf h, trivial⟩
  | none =>
    simp only [hp] at h hH ⊢
    cases raw with
    | true =>
      simp only [if_true] at h hH ⊢
      cases hns : reach H 64 (namesL args) [] with
      | none => simp [callNs, hns] at h
      | some ns =>
        simp only [hns] at hH
        rw [reach_loc hns hH]
        exact ⟨callNs_loc (ups := []) hns hH hf h, rfl⟩
    | false =>
      simp only [Bool.false_eq_true, if_false] at h hH ⊢
      cases hz : frzL H args with
      | none => simp [hz] at h
      | some args' =>
        simp only [hz] at h hH
        cases hns : reach (frzUp H (frzNs args) ++ H) 64 (namesL args') [] with
        | none => simp [hns] at h
        | some ns =>
          simp only [hns] at h hH
          cases hb : boxUps (frzUp H (frzNs args) ++ H) ns with
          | none => simp [hb] at h
          | some b =>
            simp only [hb] at h hH
            cases hns2 : reach ((b ++ frzUp H (frzNs args)) ++ H) 64 (namesL args') [] with
            | none => simp only [callNs, hns2] at h; cases h
            | some ns2 =>
              simp only [hns2] at hH
              have hA : ∀ x ∈ frzNs args, hget H' x = hget H x := fun x hx => hH x (List.mem_append_left _ (frzNs_names hx))
              have hN : ∀ x ∈ ns, hget H' x = hget H x := fun x hx => hH x (List.mem_append_right _ (List.mem_append_left _ hx))
              have hO : ∀ x ∈ objNs (frzUp H (frzNs args) ++ H) ns, hget H' x = hget H x := fun x hx => hH x (List.mem_append_right _ (List.mem_append_right _ (List.mem_append_left _ hx)))
              have hN2 : ∀ x ∈ ns2, hget H' x = hget H x := fun x hx => hH x (List.mem_append_right _ (List.mem_append_right _ (List.mem_append_right _ hx)))
              have e1 : frzL H' args = some args' := by rw [frzL_loc hA]; exact hz
              have e2 : frzUp H' (frzNs args) = frzUp H (frzNs args) := frzUp_loc hA
              have e3 : reach (frzUp H (frzNs args) ++ H') 64 (namesL args') [] = some ns := reach_loc hns fun x hx => app_loc (hN x hx)
              have e4 : boxUps (frzUp H (frzNs args) ++ H') ns = some b := by rw [boxUps_loc (H := frzUp H (frzNs args) ++ H) (fun x hx => app_loc (hN x hx)) fun x hx => app_loc (hO x hx)]; exact hb
              have e5 : objNs (frzUp H (frzNs args) ++ H') ns = objNs (frzUp H (frzNs args) ++ H) ns := objNs_loc fun x hx => app_loc (hN x hx)
              have e6 : reach ((b ++ frzUp H (frzNs args)) ++ H') 64 (namesL args') [] = some ns2 := reach_loc hns2 fun x hx => app_loc (hN2 x hx)
              simp only [e1, e2, e3, e4, e5, e6, hns, hb, hns2]
              exact ⟨callNs_loc hns2 hN2 hf h, trivial⟩

theorem evL_loc {T T' : Tm} : ∀ {ps : List Opd}, (∀ x ∈ ps, ev T' x = ev T x) → evL T' ps = evL T ps
  | [], _ => rfl
  | x :: r, h => by simp only [evL]; rw [h x (by simp), evL_loc fun y hy => h y (by simp [hy])]
theorem evParts_loc {T T' : Tm} : ∀ {ps : List (Nat × Nat × Opd)}, (∀ x ∈ ps.map (·.2.2), ev T' x = ev T x) → evParts T' ps = evParts T ps
  | [], _ => rfl
  | (o, s, x) :: r, h => by simp only [evParts]; rw [h x (by simp), evParts_loc fun y hy => h y (by simp at hy ⊢; exact .inr hy)]
theorem evO_loc {T T' : Tm} {x : Option Opd} (h : ∀ y ∈ x.toList, ev T' y = ev T y) : x.map (ev T') = x.map (ev T) := by
  cases x with
  | none => rfl
  | some y => simp [h y (by simp)]

theorem opD_locT {cf : CF} {raw : FuncId → Bool} {r i : Nat} {T T' : Tm} {op : SOp} (h : ∀ x ∈ opds op, ev T' x = ev T x) : opD cf raw r i T' H op = opD cf raw r i T H op ∧ fp raw T' H op = fp raw T H op := by
  cases op <;> simp only [opds] at h
  case build zs ps => simp only [opD, fp, evParts_loc h, and_self]
  case bslice own z ps => simp only [opD, fp, evL_loc h, and_self]
  case mkfn f a b => simp only [opD, fp, evL_loc (fun x hx => h x (List.mem_append_left _ hx)), evL_loc (fun x hx => h x (List.mem_append_right _ hx)), and_self]
  case slice z x lo hi mx =>
    have h1 := h x (by simp)
    have h2 := evO_loc (x := lo) fun y hy => h y (by simp at hy ⊢; simp [hy])
    have h3 := evO_loc (x := hi) fun y hy => h y (by simp at hy ⊢; simp [hy])
    have h4 := evO_loc (x := mx) fun y hy => h y (by simp at hy ⊢; simp [hy])
    simp only [opD, fp, h1, h2, h3, h4, and_self]
  case substr x lo hi =>
    have h1 := h x (by simp)
    have h2 := evO_loc (x := lo) fun y hy => h y (by simp at hy ⊢; simp [hy])
    have h3 := evO_loc (x := hi) fun y hy => h y (by simp at hy ⊢; simp [hy])
    simp only [opD, fp, h1, h2, h3, and_self]
  case call f args =>
    have h1 := h f (by simp)
    have h2 := evL_loc (ps := args) fun x hx => h x (by simp [hx])
    simp only [opD, fp, h1, h2, and_self]
  case len s x =>
    have h1 := h x (by simp)
    cases s <;> simp only [opD, fp, h1, and_self]
  case nnew => simp only [opD, fp, and_self]
  case alloc => simp only [opD, fp, and_self]
  case pick c a b => simp only [opD, fp, h c (by simp), h a (by simp), h b (by simp), and_self]
  case mv x => simp only [opD, fp, h x (by simp), and_self]
  case box x => simp only [opD, fp, h x (by simp), and_self]
  case load a s x => simp only [opD, fp, h x (by simp), and_self]
  case store s x v => simp only [opD, fp, h x (by simp), h v (by simp), and_self]
  case nilck x => simp only [opD, fp, h x (by simp), and_self]
  case bin o x y => simp only [opD, fp, h x (by simp), h y (by simp), and_self]
  case isnil x => simp only [opD, fp, h x (by simp), and_self]
  case bbin o x y => simp only [opD, fp, h x (by simp), h y (by simp), and_self]
  case eqs o k x y => simp only [opD, fp, h x (by simp), h y (by simp), and_self]
  case un o x => simp only [opD, fp, h x (by simp), and_self]
  case conv o x => simp only [opD, fp, h x (by simp), and_self]
  case mkslice o x => simp only [opD, fp, h x (by simp), and_self]
  case faddr o x => simp only [opD, fp, h x (by simp), and_self]
  case fld a b o x => simp only [opD, fp, h x (by simp), and_self]
  case iaddr z x j => simp only [opD, fp, h x (by simp), h j (by simp), and_self]
  case sidx x j => simp only [opD, fp, h x (by simp), h j (by simp), and_self]
  case aidx a n z x j => simp only [opD, fp, h x (by simp), h j (by simp), and_self]
  case ext x j => simp only [opD, fp, h x (by simp), and_self]
  case append z x y => simp only [opD, fp, h x (by simp), h y (by simp), and_self]
  case mx x y => simp only [opD, fp, h x (by simp), h y (by simp), and_self]
  case mn x y => simp only [opD, fp, h x (by simp), h y (by simp), and_self]

theorem free_one {r i : Nat} {b : Bool} (hf : ∀ j, hget H (.loc r i j) = none → hget H' (.loc r i j) = none) (j : Nat) (h : (hget H (.loc r i j)).isNone = true) : (hget H' (.loc r i j)).isNone = true :=
  Option.isNone_iff_eq_none.2 (hf j (Option.isNone_iff_eq_none.1 h))

theorem opD_locH {cf : CF} {raw : FuncId → Bool} {r i : Nat} {T : Tm} {op : SOp} (hH : ∀ x ∈ fp raw T H op, hget H' x = hget H x) (hf : ∀ j, hget H (.loc r i j) = none → hget H' (.loc r i j) = none) {d : Dl}
    (h : opD cf raw r i T H op = some d) : opD cf raw r i T H' op = some d ∧ fp raw T H' op = fp raw T H op := by
  have f1 : ∀ j, (hget H (.loc r i j)).isNone = true → (hget H' (.loc r i j)).isNone = true := fun j h => Option.isNone_iff_eq_none.2 (hf j (Option.isNone_iff_eq_none.1 h))
  cases op <;> simp only [fp] at hH
  case nnew z =>
    simp only [opD, Option.ite_none_right_eq_some] at h ⊢
    exact ⟨⟨f1 0 h.1, h.2⟩, rfl⟩
  case alloc zs =>
    simp only [opD, Option.ite_none_right_eq_some] at h ⊢
    refine ⟨⟨freeH_loc (fun x hx => ?_) h.1, h.2⟩, rfl⟩
    rcases List.mem_cons.1 hx with rfl | hx
    · exact hf 0
    · obtain ⟨k, z, rfl, _, _⟩ := znews_mem hx; exact hf _
  case box x =>
    simp only [opD, Option.ite_none_right_eq_some] at h ⊢
    exact ⟨⟨⟨f1 0 h.1.1, h.1.2⟩, h.2⟩, rfl⟩
  case mkslice z n =>
    simp only [opD] at h ⊢
    split at h
    · simp only [Option.ite_none_right_eq_some] at h ⊢
      exact ⟨⟨f1 0 h.1, h.2⟩, rfl⟩
    · cases h
  case bslice own z ps =>
    have hN : ∀ x ∈ frzNs (evL T ps), hget H' x = hget H x := fun x hx => hH x (frzNs_names hx)
    refine ⟨?_, rfl⟩
    simp only [opD] at h ⊢
    rw [pelems_loc hN, frzUp_loc hN]
    split at h
    · split at h
      · rename_i hw
        simp only [Option.ite_none_right_eq_some, hw, if_true] at h ⊢
        exact ⟨f1 0 h.1, h.2⟩
      · rename_i hw; rw [if_neg hw]; exact h
    · simp only [Option.ite_none_right_eq_some] at h ⊢
      exact ⟨⟨h.1.1, f1 0 h.1.2.1, h.1.2.2⟩, h.2⟩
  case load agg size x =>
    refine ⟨?_, rfl⟩
    have : loadD H' agg size (ev T x) = loadD H agg size (ev T x) := by
      cases hv : ev T x <;> simp only [loadD]
      case ptr y o => rw [hH y (by simp [hv, AV.names])]
      case eptr y i o => rw [hH y (by simp [hv, AV.names])]
    simp only [opD, this] at h ⊢
    exact h
  case store size x v =>
    refine ⟨?_, rfl⟩
    have hv : ∀ y ∈ (ev T v).cells.flatMap hslN, hget H' y = hget H y := fun y hy => hH y (List.mem_append_right _ (by
      obtain ⟨c, hc, hy⟩ := List.mem_flatMap.1 hy
      have := hslN_names hy
      cases hvv : ev T v <;> rw [hvv] at hc <;> simp only [AV.cells] at hc
      case agg cs => simp only [AV.names]; exact mem_namesL.2 ⟨c, hc, this⟩
      case p pv =>
        cases pv <;> simp only [AV.cells, List.mem_map, List.mem_singleton] at hc
        case agg cs => obtain ⟨q, _, rfl⟩ := hc; simp [AV.names] at this
        all_goals (subst hc; simp [AV.names] at this)
      all_goals (simp only [List.mem_singleton] at hc; subst hc; exact this)))
    have e1 : pcells H' (ev T v) = pcells H (ev T v) := by simp only [pcells]; rw [frzL1_loc hv]
    have : storeD H' size (ev T x) (ev T v) = storeD H size (ev T x) (ev T v) := by
      cases hx : ev T x <;> simp only [storeD]
      case ptr y o => rw [hH y (by simp [hx, AV.names])]
      case eptr y i o => rw [hH y (by simp [hx, AV.names]), e1, frzUp_loc hv]
    simp only [opD, this] at h ⊢
    exact h
  case slice z x lo hi mx =>
    refine ⟨?_, rfl⟩
    have : ∀ lo hi mx, sliceA H' z (ev T x) lo hi mx = sliceA H z (ev T x) lo hi mx := by
      intro lo hi mx
      cases hv : ev T x <;> simp only [sliceA]
      case hsl y o l => have e : eszOf H' y = eszOf H y := by simp only [eszOf]; rw [hH y (by simp [hv, AV.names])]
                        rw [e]
      case p c => cases c <;> rfl
    simp only [opD, this] at h ⊢
    exact h
  case iaddr z x j =>
    refine ⟨?_, rfl⟩
    have : ∀ n, iaddrD H' z (ev T x) n = iaddrD H z (ev T x) n := by
      intro n
      cases hv : ev T x <;> simp only [iaddrD]
      case hsl y o l => rw [hH y (by simp [hv, AV.names])]
      case p c => cases c <;> rfl
    simp only [opD, this] at h ⊢
    exact h
  case call f args =>
    simp only [opD] at h ⊢
    split at h
    · rename_i g a b hg
      simp only [hg, fp] at hH ⊢
      exact callD_loc hH hf h
    · cases h
  case append z x y =>
    refine ⟨?_, rfl⟩
    have e1 : elems H' (ev T y) = elems H (ev T y) := elems_loc fun q hq => hH q (List.mem_append_right _ hq)
    simp only [opD] at h ⊢
    rw [e1]
    split at h
    · simp only [Option.ite_none_right_eq_some] at h ⊢
      refine ⟨h.1, ?_⟩
      have h2 := h.2
      split at h2
      · simp only [Option.ite_none_right_eq_some] at h2 ⊢
        exact ⟨⟨f1 0 h2.1.1, h2.1.2⟩, h2.2⟩
      · rename_i n o l hn
        rw [hH n (by simp [hn, AV.names])]
        exact h2
      · cases h2
    · cases h
  case len s x => cases s <;> exact ⟨h, rfl⟩
  all_goals exact ⟨h, rfl⟩

theorem opD_pure {cf : CF} {raw : FuncId → Bool} {r i : Nat} {T : Tm} {op : SOp} (hp : pureS op = true) : opD cf raw r i T H' op = opD cf raw r i T H op ∧ fp raw T H' op = fp raw T H op := by
  cases op
  case substr x lo hi =>
    refine ⟨?_, rfl⟩
    simp only [opD]
    split <;> first | rfl | (split <;> simp_all [sliceA])
  case len s x => cases s <;> exact ⟨rfl, rfl⟩
  all_goals first
    | (simp [pureS] at hp; done)
    | exact ⟨rfl, rfl⟩
end
end Go.Ab
