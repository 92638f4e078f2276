/- A part of the proof (an executor, and what it computes). -/
import Derived.Test.YtmnjnpgmenigiaaGreatB2938ddc780
import Derived.Calls
import Derived.Test.YtmnjnpgmenigiaaGreatB147dce5bbd
set_option linter.all false
/-! Calls. -/
namespace Go.Ab
open Go

/-- From one moment of a frame to a later one. -/
structure Since (m : NMap) (w : World) (W : Nat → Prop) (H : Hp) (m' : NMap) (w' : World) (W' : Nat → Prop) (H' : Hp) : Prop where
  tr : Tr (Own m H) w W w' W' (Own m' H')
  born : ∀ x o b, hget H' x = some o → (m' x).base = some b → b < w.heap.size → ∃ o0, hget H x = some o0 ∧ (m x).base = some b
  ext : ∀ k, m' (.ext k) = m (.ext k)

theorem Since.refl (m : NMap) (w : World) (W : Nat → Prop) (H : Hp) : Since m w W H m w W H :=
  ⟨Tr.refl fun _ h => h, fun x o b h hb _ => ⟨o, h, hb⟩, fun _ => rfl⟩

theorem Since.trans {m m1 m2 : NMap} {w w1 w2 : World} {W W1 W2 : Nat → Prop} {H H1 H2 : Hp} (h : Since m w W H m1 w1 W1 H1) (g : Since m1 w1 W1 H1 m2 w2 W2 H2) : Since m w W H m2 w2 W2 H2 :=
  ⟨h.tr.trans g.tr, fun x o b hx hb hlt => by
    obtain ⟨o1, h1, h2⟩ := g.born x o b hx hb (Nat.lt_of_lt_of_le hlt h.tr.size)
    exact h.born x o1 b h1 h2 hlt, fun k => (g.ext k).trans (h.ext k)⟩

/-- What is forgotten. -/
theorem Since.less {m m1 : NMap} {w w1 : World} {W W1 : Nat → Prop} {H H1 H2 : Hp} (h : Since m w W H m1 w1 W1 H1) (hs : ∀ x o, hget H2 x = some o → hget H1 x = some o) : Since m w W H m1 w1 W1 H2 :=
  ⟨⟨h.tr.toKeep, h.tr.sub, h.tr.sup, fun i hi ⟨x, o, h1, h2, h3⟩ => h.tr.own i hi ⟨x, o, hs x o h1, h2, h3⟩⟩, fun x o b hx => h.born x o b (hs x o hx), h.ext⟩

theorem Good.since {idm : FuncId → FuncId} {m : NMap} {w : World} {W : Nat → Prop} {H : Hp} {d : Dl} {m' : NMap} {w' : World} {W' : Nat → Prop} (g : Good idm m w W H d m' w' W') (s : SimH idm m w W H) :
    Since m w W H m' w' W' (d.up ++ pgH d.pg H) := by
  refine ⟨g.tr, fun x o b hx hb hlt => ?_, g.ext⟩
  rw [hget_append] at hx
  split at hx
  · obtain ⟨o', h1, h2, _⟩ := g.b1 x o b hx hb hlt
    exact ⟨o', h1, h2⟩
  · rename_i hu
    obtain ⟨h1, o', h2, _⟩ := g.old x o hu hx
    exact ⟨o', h2, by rw [← h1]; exact hb⟩

/-- What an operation comes to, whatever follows. -/
def OpStep (P : Program) (idm : FuncId → FuncId) (m : NMap) (w : World) (W : Nat → Prop) (H : Hp) (o : Go.Oper) (a : Act) (d : Dl) : Prop :=
  ∀ (K : Act → World → Prop) (Q : Exit → Act → World → Prop), (∀ v m' w' W', Good idm m w W H d m' w' W' → Rep idm m' w' W' d.v v → (∀ y ∈ d.v.names, (hget (d.up ++ pgH d.pg H) y).isSome = true) → K (a.put o.dst v) w') → o.wp P a w K Q

theorem OpOK.step {P : Program} {idm : FuncId → FuncId} {m : NMap} {w : World} {W : Nat → Prop} {H : Hp} {o : Go.Oper} {a : Act} {d : Dl} (h : OpOK P idm m w W H o a d) : OpStep P idm m w W H o a d := by
  intro K Q hk
  obtain ⟨v, w', m', W', hr, g1, g2, g3⟩ := h
  unfold Oper.wp
  rcases hr with hr | ⟨hr, rfl⟩
  · rw [hr]; exact hk v m' w' W' g1 g2 g3
  · rw [hr]; exact hk undef m' w' W' g1 g2 g3

/-! ### Rows of values -/
structure Reps (idm : FuncId → FuncId) (m : NMap) (w : World) (W : Nat → Prop) (cs : List AV) (vs : Array Value) : Prop where
  hl : vs.size = cs.length
  h : ∀ (i : Nat) (c : AV) (v : Value), cs[i]? = some c → vs[i]? = some v → Rep idm m w W c v

theorem Reps.append {idm : FuncId → FuncId} {m : NMap} {w : World} {W : Nat → Prop} {cs ds : List AV} {vs us : Array Value} (h : Reps idm m w W cs vs) (g : Reps idm m w W ds us) : Reps idm m w W (cs ++ ds) (vs ++ us) := by
  refine ⟨by simp [h.hl, g.hl], fun i c v hc hv => ?_⟩
  rw [List.getElem?_append] at hc
  rw [Array.getElem?_append, h.hl] at hv
  split at hc
  · rename_i hlt; rw [if_pos hlt] at hv; exact h.h i c v hc hv
  · rename_i hlt; rw [if_neg hlt] at hv; exact g.h _ c v hc hv

/-! ### Renaming -/
theorem renL_get {f : Nm → Option Nm} : ∀ {cs cs' : List AV}, renL f cs = some cs' → cs'.length = cs.length ∧ ∀ (i : Nat) (c' : AV), cs'[i]? = some c' → ∃ c, cs[i]? = some c ∧ c.ren f = some c'
  | [], cs', h => by simp only [renL, Option.some.injEq] at h; subst h; exact ⟨rfl, fun i c h => by simp at h⟩
  | v :: r, cs', h => by
    simp only [renL] at h
    cases hv : v.ren f with
    | none => simp [hv] at h
    | some v' => cases hr : renL f r with
      | none => simp [hv, hr] at h
      | some r' =>
        simp only [hv, hr, Option.some.injEq] at h
        subst h
        obtain ⟨h1, h2⟩ := renL_get hr
        refine ⟨by simp [h1], fun i c hi => ?_⟩
        cases i with
        | zero => simp at hi; subst hi; exact ⟨v, rfl, hv⟩
        | succ i => simp at hi; obtain ⟨c', hc', e⟩ := h2 i c hi; exact ⟨c', by simpa using hc', e⟩

theorem renOs_get {f : Nm → Option Nm} : ∀ {cs cs' : List AObj}, renOs f cs = some cs' → cs'.length = cs.length ∧ ∀ (i : Nat) (c' : AObj), cs'[i]? = some c' → ∃ c, cs[i]? = some c ∧ c.ren f = some c'
  | [], cs', h => by simp only [renOs, Option.some.injEq] at h; subst h; exact ⟨rfl, fun i c h => by simp at h⟩
  | v :: r, cs', h => by
    simp only [renOs] at h
    cases hv : v.ren f with
    | none => simp [hv] at h
    | some v' => cases hr : renOs f r with
      | none => simp [hv, hr] at h
      | some r' =>
        simp only [hv, hr, Option.some.injEq] at h
        subst h
        obtain ⟨h1, h2⟩ := renOs_get hr
        refine ⟨by simp [h1], fun i c hi => ?_⟩
        cases i with
        | zero => simp at hi; subst hi; exact ⟨v, rfl, hv⟩
        | succ i => simp at hi; obtain ⟨c', hc', e⟩ := h2 i c hi; exact ⟨c', by simpa using hc', e⟩

theorem hgets_get {H : Hp} : ∀ {ns : List Nm} {os : List AObj}, hgets H ns = some os → os.length = ns.length ∧ ∀ (i : Nat) (o : AObj), os[i]? = some o → ∃ x, ns[i]? = some x ∧ hget H x = some o
  | [], os, h => by simp only [hgets, Option.some.injEq] at h; subst h; exact ⟨rfl, fun i c h => by simp at h⟩
  | v :: r, os, h => by
    simp only [hgets] at h
    cases hv : hget H v with
    | none => simp [hv] at h
    | some v' => cases hr : hgets H r with
      | none => simp [hv, hr] at h
      | some r' =>
        simp only [hv, hr, Option.some.injEq] at h
        subst h
        obtain ⟨h1, h2⟩ := hgets_get hr
        refine ⟨by simp [h1], fun i c hi => ?_⟩
        cases i with
        | zero => simp at hi; subst hi; exact ⟨v, rfl, hv⟩
        | succ i => simp at hi; obtain ⟨c', hc', e⟩ := h2 i c hi; exact ⟨c', by simpa using hc', e⟩

mutual
theorem AV.names_ren (f : Nm → Option Nm) (y : Nm) : ∀ v v' : AV, v.ren f = some v' → y ∈ v'.names → ∃ x ∈ v.names, f x = some y
  | .agg cs, v', h => by
    simp only [AV.ren] at h
    obtain ⟨cs', h1, rfl⟩ := Option.map_eq_some_iff.1 h
    simp only [AV.names]; exact namesL_ren f y cs cs' h1
  | .tup cs, v', h => by
    simp only [AV.ren] at h
    obtain ⟨cs', h1, rfl⟩ := Option.map_eq_some_iff.1 h
    simp only [AV.names]; exact namesL_ren f y cs cs' h1
  | .hsl z o l, v', h => by
    simp only [AV.ren] at h
    obtain ⟨x', h1, rfl⟩ := Option.map_eq_some_iff.1 h
    simp only [AV.names, List.mem_singleton]; rintro rfl; exact ⟨z, rfl, h1⟩
  | .ptr z o, v', h => by
    simp only [AV.ren] at h
    obtain ⟨x', h1, rfl⟩ := Option.map_eq_some_iff.1 h
    simp only [AV.names, List.mem_singleton]; rintro rfl; exact ⟨z, rfl, h1⟩
  | .eptr z i o, v', h => by
    simp only [AV.ren] at h
    obtain ⟨x', h1, rfl⟩ := Option.map_eq_some_iff.1 h
    simp only [AV.names, List.mem_singleton]; rintro rfl; exact ⟨z, rfl, h1⟩
  | .fn g a b, v', h => by
    simp only [AV.ren] at h
    cases ha : renL f a with
    | none => simp [ha] at h
    | some a' => cases hb : renL f b with
      | none => simp [ha, hb] at h
      | some b' =>
        simp only [ha, hb, Option.some.injEq] at h
        subst h
        simp only [AV.names, List.mem_append]
        rintro (h | h)
        · obtain ⟨x, h1, h2⟩ := namesL_ren f y a a' ha h; exact ⟨x, .inl h1, h2⟩
        · obtain ⟨x, h1, h2⟩ := namesL_ren f y b b' hb h; exact ⟨x, .inr h1, h2⟩
  | .undef, v', h => by simp only [AV.ren, Option.some.injEq] at h; subst h; simp [AV.names]
  | .ub, v', h => by simp only [AV.ren, Option.some.injEq] at h; subst h; simp [AV.names]
  | .yld l, v', h => by simp only [AV.ren, Option.some.injEq] at h; subst h; simp [AV.names]
  | .p v, v', h => by simp only [AV.ren, Option.some.injEq] at h; subst h; simp [AV.names]
  | .nils z, v', h => by simp only [AV.ren, Option.some.injEq] at h; subst h; simp [AV.names]
  | .rptr cs, v', h => by simp only [AV.ren, Option.some.injEq] at h; subst h; simp [AV.names]
theorem namesL_ren (f : Nm → Option Nm) (y : Nm) : ∀ cs cs' : List AV, renL f cs = some cs' → y ∈ namesL cs' → ∃ x ∈ namesL cs, f x = some y
  | [], cs', h => by simp only [renL, Option.some.injEq] at h; subst h; simp [namesL]
  | v :: r, cs', h => by
    simp only [renL] at h
    cases hv : v.ren f with
    | none => simp [hv] at h
    | some v' => cases hr : renL f r with
      | none => simp [hv, hr] at h
      | some r' =>
        simp only [hv, hr, Option.some.injEq] at h
        subst h
        simp only [namesL, List.mem_append]
        rintro (h | h)
        · obtain ⟨x, h1, h2⟩ := AV.names_ren f y v v' hv h; exact ⟨x, .inl h1, h2⟩
        · obtain ⟨x, h1, h2⟩ := namesL_ren f y r r' hr h; exact ⟨x, .inr h1, h2⟩
end

theorem AObj.names_ren (f : Nm → Option Nm) (y : Nm) (o o' : AObj) (h : o.ren f = some o') (hy : y ∈ o'.names) : ∃ x ∈ o.names, f x = some y := by
  cases o with
  | box cs => simp only [AObj.ren] at h; obtain ⟨cs', h1, rfl⟩ := Option.map_eq_some_iff.1 h; exact namesL_ren f y cs cs' h1 hy
  | parr es z b => simp only [AObj.ren, Option.some.injEq] at h; subst h; simp [AObj.names] at hy
  | arr cs => simp only [AObj.ren] at h; obtain ⟨cs', h1, rfl⟩ := Option.map_eq_some_iff.1 h; exact namesL_ren f y cs cs' h1 hy

theorem flat_ren {f : Nm → Option Nm} {v v' : AV} (h : v.ren f = some v') (hf : v.flat = true) : v'.flat = true := by
  cases v <;> simp only [AV.ren] at h
  case fn g a b =>
    cases ha : renL f a with
    | none => simp [ha] at h
    | some a' => cases hb : renL f b with
      | none => simp [ha, hb] at h
      | some b' => simp only [ha, hb, Option.some.injEq] at h; subst h; rfl
  all_goals first
    | (simp only [Option.some.injEq] at h; subst h; exact hf)
    | (obtain ⟨x', h1, rfl⟩ := Option.map_eq_some_iff.1 h; first | rfl | (simp [AV.flat] at hf))
theorem renL_flat {f : Nm → Option Nm} {cs cs' : List AV} (h : renL f cs = some cs') (hf : ∀ c ∈ cs, c.flat = true) : ∀ c ∈ cs', c.flat = true := by
  intro c hc
  obtain ⟨i, hi⟩ := List.mem_iff_getElem?.1 hc
  obtain ⟨c0, h1, h2⟩ := (renL_get h).2 i c hi
  exact flat_ren h2 (hf c0 (List.mem_of_getElem? h1))

theorem Rep.ren {idm : FuncId → FuncId} {m m' : NMap} {w : World} {W : Nat → Prop} {c : AV} {v : Value} (h : Rep idm m w W c v) (f : Nm → Option Nm) :
    ∀ c', c.ren f = some c' → (∀ x ∈ c.names, ∀ y, f x = some y → m' y = m x) → Rep idm m' w W c' v := by
  have keepL : ∀ {cs cs' : List AV} {vs : Array Value}, renL f cs = some cs' → (∀ (i : Nat) (c : AV) (v : Value), cs[i]? = some c → vs[i]? = some v → ∀ c', c.ren f = some c' → (∀ x ∈ c.names, ∀ y, f x = some y → m' y = m x) → Rep idm m' w W c' v) →
      (∀ x ∈ namesL cs, ∀ y, f x = some y → m' y = m x) → ∀ (i : Nat) (c : AV) (v : Value), cs'[i]? = some c → vs[i]? = some v → Rep idm m' w W c v := by
    intro cs cs' vs h ih hm i c v hi hv
    obtain ⟨c0, h1, h2⟩ := (renL_get h).2 i c hi
    exact ih i c0 v h1 hv c h2 fun x hx => hm x (mem_namesL.2 ⟨c0, List.mem_of_getElem? h1, hx⟩)
  induction h with
  | undef v => intro c' h hm; simp only [AV.ren, Option.some.injEq] at h; subst h; exact .undef v
  | ub b => intro c' h hm; simp only [AV.ren, Option.some.injEq] at h; subst h; exact .ub b
  | yld b => intro c' h hm; simp only [AV.ren, Option.some.injEq] at h; subst h; exact .yld b
  | p c v h' => intro c' h hm; simp only [AV.ren, Option.some.injEq] at h; subst h; exact .p c v h'
  | agg cs vs hl hf h1 h' ih =>
    intro c' h hm
    simp only [AV.ren] at h
    obtain ⟨cs', h2, rfl⟩ := Option.map_eq_some_iff.1 h
    exact .agg _ vs (by rw [(renL_get h2).1]; exact hl) (renL_flat h2 hf) h1 (keepL h2 ih (by simpa [AV.names] using hm))
  | tup cs vs hl h' ih =>
    intro c' h hm
    simp only [AV.ren] at h
    obtain ⟨cs', h2, rfl⟩ := Option.map_eq_some_iff.1 h
    exact .tup _ vs (by rw [(renL_get h2).1]; exact hl) (keepL h2 ih (by simpa [AV.names] using hm))
  | nils z a => intro c' h hm; simp only [AV.ren, Option.some.injEq] at h; subst h; exact .nils z a
  | hsl x off len a c h' hc =>
    intro c' h hm
    simp only [AV.ren] at h
    obtain ⟨y, h2, rfl⟩ := Option.map_eq_some_iff.1 h
    exact .hsl y off len a c (by rw [hm x (by simp [AV.names]) y h2]; exact h') hc
  | ptr x off b hb =>
    intro c' h hm
    simp only [AV.ren] at h
    obtain ⟨y, h2, rfl⟩ := Option.map_eq_some_iff.1 h
    exact .ptr y off b (by rw [hm x (by simp [AV.names]) y h2]; exact hb)
  | eptr x i off b hb =>
    intro c' h hm
    simp only [AV.ren] at h
    obtain ⟨y, h2, rfl⟩ := Option.map_eq_some_iff.1 h
    have e := hm x (by simp [AV.names]) y h2
    rw [← e]
    exact .eptr y i off b (by rw [e]; exact hb)
  | rptr cs ad f hW hlt hf hc h' => intro c' h hm; simp only [AV.ren, Option.some.injEq] at h; subst h; exact .rptr cs ad f hW hlt hf hc h'
  | fn g a b va vb ha hb h1 h2 ih1 ih2 =>
    intro c' h hm
    simp only [AV.ren] at h
    cases hra : renL f a with
    | none => simp [hra] at h
    | some a' => cases hrb : renL f b with
      | none => simp [hra, hrb] at h
      | some b' =>
        simp only [hra, hrb, Option.some.injEq] at h
        subst h
        simp only [AV.names, List.mem_append] at hm
        exact .fn g a' b' va vb (by rw [(renL_get hra).1]; exact ha) (by rw [(renL_get hrb).1]; exact hb) (keepL hra ih1 fun x hx => hm x (.inl hx)) (keepL hrb ih2 fun x hx => hm x (.inr hx))

theorem AObj.frozen_ren {f : Nm → Option Nm} {o o' : AObj} (h : o.ren f = some o') : o'.frozen = o.frozen := by
  cases o with
  | box cs => simp only [AObj.ren] at h; obtain ⟨cs', h1, rfl⟩ := Option.map_eq_some_iff.1 h; rfl
  | parr es z b => simp only [AObj.ren, Option.some.injEq] at h; subst h; rfl
  | arr cs => simp only [AObj.ren] at h; obtain ⟨cs', h1, rfl⟩ := Option.map_eq_some_iff.1 h; rfl

theorem ORep.ren {idm : FuncId → FuncId} {m m' : NMap} {w : World} {W : Nat → Prop} {l : Loc} {o o' : AObj} (h : ORep idm m w W l o) {f : Nm → Option Nm} (e : o.ren f = some o') (hm : ∀ x ∈ o.names, ∀ y, f x = some y → m' y = m x) : ORep idm m' w W l o' := by
  cases o with
  | box cs =>
    simp only [AObj.ren] at e
    obtain ⟨cs', h1, rfl⟩ := Option.map_eq_some_iff.1 e
    obtain ⟨b, c, e, g1, g2, g3, g4, g5, g6, g7⟩ := h
    refine ⟨b, c, e, g1, g2, by rw [(renL_get h1).1]; exact g3, renL_flat h1 g4, g5, fun i a v ha hv => ?_, g7⟩
    obtain ⟨c0, h2, h3⟩ := (renL_get h1).2 i a ha
    exact (g6 i c0 v h2 hv).ren f a h3 fun x hx => hm x (by simp only [AObj.names]; exact mem_namesL.2 ⟨c0, List.mem_of_getElem? h2, hx⟩)
  | parr es z b => simp only [AObj.ren, Option.some.injEq] at e; subst e; exact h
  | arr cs =>
    simp only [AObj.ren] at e
    obtain ⟨cs', h1, rfl⟩ := Option.map_eq_some_iff.1 e
    obtain ⟨g0, b, c, e, g1, g2, g3, gc, g4, g5, g6, g7⟩ := h
    refine ⟨g0, b, c, e, g1, g2, by rw [(renL_get h1).1]; exact g3, by rw [(renL_get h1).1]; exact gc, renL_flat h1 g4, g5, fun i a v ha hv => ?_, g7⟩
    obtain ⟨c0, h2, h3⟩ := (renL_get h1).2 i a ha
    exact (g6 i c0 v h2 hv).ren f a h3 fun x hx => hm x (by simp only [AObj.names]; exact mem_namesL.2 ⟨c0, List.mem_of_getElem? h2, hx⟩)

theorem nidx_get {x : Nm} : ∀ {ns : List Nm} {k j : Nat}, nidx x ns k = some j → ∃ i, j = k + i ∧ ns[i]? = some x
  | [], k, j, h => by simp [nidx] at h
  | y :: r, k, j, h => by
    simp only [nidx] at h
    split at h
    · rename_i e; simp only [Option.some.injEq] at h; subst h; exact ⟨0, rfl, by simp [e]⟩
    · obtain ⟨i, h1, h2⟩ := nidx_get h; exact ⟨i + 1, by omega, by simpa using h2⟩
theorem toExt_get {ns : List Nm} {x y : Nm} (h : toExt ns x = some y) : ∃ i, y = .ext i ∧ ns[i]? = some x := by
  obtain ⟨j, h1, rfl⟩ := Option.map_eq_some_iff.1 h
  obtain ⟨i, h2, h3⟩ := nidx_get h1
  exact ⟨i, by rw [h2]; simp, h3⟩

theorem hget_argH : ∀ {os : List AObj} {k : Nat} {x : Nm} {o : AObj}, hget (argH k os) x = some o ↔ ∃ j, x = .ext (k + j) ∧ os[j]? = some o
  | [], k, x, o => by simp [argH, hget]
  | q :: os, k, x, o => by
    simp only [argH, hget]
    by_cases h : Nm.ext k = x
    · subst h
      simp only [if_true, Option.some.injEq]
      constructor
      · rintro rfl; exact ⟨0, rfl, rfl⟩
      · rintro ⟨j, h1, h2⟩
        have : j = 0 := by injection h1 with h1; omega
        subst this
        simpa using h2
    · simp only [h, if_false]
      rw [hget_argH]
      constructor
      · rintro ⟨j, rfl, h2⟩; exact ⟨j + 1, by congr 1; omega, by simpa using h2⟩
      · rintro ⟨j, rfl, h2⟩
        cases j with
        | zero => exact absurd rfl h
        | succ j => exact ⟨j, by congr 1; omega, by simpa using h2⟩

theorem argH_some {os : List AObj} {x : Nm} : (hget (argH 0 os) x).isSome = true ↔ ∃ j, x = .ext j ∧ j < os.length := by
  rw [Option.isSome_iff_exists]
  constructor
  · rintro ⟨o, ho⟩
    obtain ⟨j, rfl, h⟩ := hget_argH.1 ho
    exact ⟨j, by rw [Nat.zero_add], (List.getElem?_eq_some_iff.1 h).1⟩
  · rintro ⟨j, rfl, h⟩
    exact ⟨os[j], hget_argH.2 ⟨j, by rw [Nat.zero_add], List.getElem?_eq_getElem h⟩⟩

theorem reach_nodup {H : Hp} : ∀ {n : Nat} {todo acc ns : List Nm}, reach H n todo acc = some ns → acc.Nodup → ns.Nodup
  | n, [], acc, ns, h, ha => by cases n <;> simp only [reach, Option.some.injEq] at h <;> (subst h; exact ha)
  | 0, x :: todo, acc, ns, h, ha => by simp [reach] at h
  | n + 1, x :: todo, acc, ns, h, ha => by
    simp only [reach] at h
    split at h
    · exact reach_nodup h ha
    · rename_i hx
      split at h
      · refine reach_nodup h ?_
        rw [List.nodup_append]
        exact ⟨ha, by simp, fun a h1 b h2 => by simp at h2; subst h2; rintro rfl; exact hx h1⟩
      · cases h

theorem nodup_inj {ns : List Nm} (h : ns.Nodup) {i j : Nat} {x : Nm} (hi : ns[i]? = some x) (hj : ns[j]? = some x) : i = j := by
  obtain ⟨h1, h2⟩ := List.getElem?_eq_some_iff.1 hi
  obtain ⟨h3, h4⟩ := List.getElem?_eq_some_iff.1 hj
  have hp := List.pairwise_iff_getElem.1 h
  rcases Nat.lt_trichotomy i j with hlt | heq | hgt
  · exact absurd (h2.trans h4.symm) (hp i j h1 h3 hlt)
  · exact heq
  · exact absurd (h4.trans h2.symm) (hp j i h3 h1 hgt)

theorem upNs_zipUp : ∀ {ns : List Nm} {os : List AObj}, os.length = ns.length → upNs (zipUp ns os) = ns
  | [], [], _ => rfl
  | x :: ns, o :: os, h => by simp only [zipUp, upNs]; rw [upNs_zipUp (by simpa using h)]
  | [], _ :: _, h => by simp at h
  | _ :: _, [], h => by simp at h
theorem hget_zipUp : ∀ {ns : List Nm} {os : List AObj}, ns.Nodup → ∀ {x : Nm} {o : AObj}, hget (zipUp ns os) x = some o → ∃ k : Nat, ns[k]? = some x ∧ os[k]? = some o
  | [], os, _, x, o, h => by cases os <;> simp [zipUp, hget] at h
  | y :: ns, [], _, x, o, h => by simp [zipUp, hget] at h
  | y :: ns, q :: os, hn, x, o, h => by
    simp only [zipUp, hget] at h
    split at h
    · rename_i e; simp only [Option.some.injEq] at h; exact ⟨0, by simp [e], by simp [h]⟩
    · obtain ⟨k, h1, h2⟩ := hget_zipUp (List.nodup_cons.1 hn).2 h; exact ⟨k + 1, by simpa using h1, by simpa using h2⟩
theorem hget_zipUp_some : ∀ {ns : List Nm} {os : List AObj} {k : Nat} {x : Nm}, ns[k]? = some x → k < os.length → ∃ o, hget (zipUp ns os) x = some o
  | [], os, k, x, h, _ => by simp at h
  | y :: ns, [], k, x, _, h => by simp at h
  | y :: ns, q :: os, k, x, h, hk => by
    simp only [zipUp, hget]
    split
    · exact ⟨_, rfl⟩
    · rename_i hne
      cases k with
      | zero => simp at h; exact absurd h hne
      | succ k => exact hget_zipUp_some (by simpa using h) (by simpa using hk)
theorem hget_newUp {r i : Nat} : ∀ {os : List AObj} {k : Nat} {x : Nm} {o : AObj}, hget (newUp r i k os) x = some o ↔ ∃ j, x = .loc r i (k + j) ∧ os[j]? = some o
  | [], k, x, o => by simp [newUp, hget]
  | q :: os, k, x, o => by
    simp only [newUp, hget]
    by_cases h : Nm.loc r i k = x
    · subst h
      simp only [if_true, Option.some.injEq]
      constructor
      · rintro rfl; exact ⟨0, rfl, rfl⟩
      · rintro ⟨j, h1, h2⟩
        have : j = 0 := by injection h1 with _ _ h1; omega
        subst this
        simpa using h2
    · simp only [h, if_false]
      rw [hget_newUp]
      constructor
      · rintro ⟨j, rfl, h2⟩; exact ⟨j + 1, by congr 1; omega, by simpa using h2⟩
      · rintro ⟨j, rfl, h2⟩
        cases j with
        | zero => exact absurd rfl h
        | succ j => exact ⟨j, by congr 1; omega, by simpa using h2⟩
theorem mem_newUp {r i : Nat} : ∀ {os : List AObj} {k : Nat} {x : Nm}, x ∈ upNs (newUp r i k os) ↔ ∃ j, x = .loc r i (k + j) ∧ j < os.length
  | [], k, x => by simp [newUp, upNs]
  | q :: os, k, x => by
    simp only [newUp, upNs, List.mem_cons]
    rw [mem_newUp]
    constructor
    · rintro (rfl | ⟨j, rfl, h⟩)
      · exact ⟨0, rfl, by simp⟩
      · exact ⟨j + 1, by congr 1; omega, by simpa using h⟩
    · rintro ⟨j, rfl, h⟩
      cases j with
      | zero => exact .inl rfl
      | succ j => exact .inr ⟨j, by congr 1; omega, by simpa using h⟩

theorem mem_upNs_append {x : Nm} {a b : Hp} : x ∈ upNs (a ++ b) ↔ x ∈ upNs a ∨ x ∈ upNs b := by
  induction a with
  | nil => simp [upNs]
  | cons p r ih => obtain ⟨y, o⟩ := p; simp [upNs, ih, or_assoc]

/-! ### What a call must bring -/
structure SinceN (n : Nat) (m : NMap) (w : World) (W : Nat → Prop) (H : Hp) (m' : NMap) (w' : World) (W' : Nat → Prop) (H' : Hp) : Prop where
  tr : Tr (Own m H) w W w' W' (Own m' H')
  born : ∀ x o b, hget H' x = some o → (m' x).base = some b → b < w.heap.size → ∃ o0, hget H x = some o0 ∧ (m x).base = some b
  ext : ∀ k, k < n → m' (.ext k) = m (.ext k)

def CallPost (idm : FuncId → FuncId) (m : NMap) (w : World) (W : Nat → Prop) (objs : List AObj) (c : CR) (v : Value) (w' : World) : Prop :=
  ∃ m' W', c.outs.length = objs.length ∧ SimH idm m' w' W' (argH 0 (c.outs ++ c.news)) ∧ SinceN objs.length m w W (argH 0 objs) m' w' W' (argH 0 (c.outs ++ c.news)) ∧
    Rep idm m' w' W' c.v v ∧ ∀ y ∈ c.v.names, (hget (argH 0 (c.outs ++ c.news)) y).isSome = true

def CallF (P : Program) (f : FuncId) (args : Array Value) (w : World) (R : Value → World → Prop) : Prop :=
  (∃ v w', (callFunc f args).run P w = .ok (.value v) w' ∧ R v w') ∨
  ((callFunc f args).run P w = .ok (.enter f args) w ∧ Calls P f args w fun | .returned v, w' => R v w' | _, _ => False)

/-- What a table of calls says is so. -/
def CFOK (P : Program) (idm : FuncId → FuncId) (cf : CF) : Prop :=
  ∀ (f : FuncId) (args : List AV) (objs : List AObj) (c : CR), cf f args objs = some c → ∀ (m : NMap) (w : World) (W : Nat → Prop) (vs : Array Value),
    SimH idm m w W (argH 0 objs) → Reps idm m w W args vs → (∀ x ∈ namesL args, (hget (argH 0 objs) x).isSome = true) → CallF P (idm f) vs w (CallPost idm m w W objs c)

theorem CallF.mono {P : Program} {f : FuncId} {args : Array Value} {w : World} {R R' : Value → World → Prop} (h : CallF P f args w R) (hr : ∀ v w', R v w' → R' v w') : CallF P f args w R' := by
  rcases h with ⟨v, w', h1, h2⟩ | ⟨h1, h2⟩
  · exact .inl ⟨v, w', h1, hr v w' h2⟩
  · exact .inr ⟨h1, h2.mono fun e w' he => by cases e <;> first | exact hr _ _ he | exact he⟩

/-- The names of a callee. -/
def mcOf (m : NMap) (ns : List Nm) : NMap
  | .ext k => match ns[k]? with
    | some x => m x
    | none => ⟨none, 0, 0⟩
  | .loc .. => ⟨none, 0, 0⟩
theorem mcOf_ext {m : NMap} {ns : List Nm} {k : Nat} {x : Nm} (h : ns[k]? = some x) : mcOf m ns (.ext k) = m x := by simp [mcOf, h]

/-- The names of a caller behind the call. -/
def mAft (m m' : NMap) (r i n l : Nat) : Nm → Loc
  | .ext k => m (.ext k)
  | .loc r' i' j => if r' = r ∧ i' = i ∧ j < l then m' (.ext (n + j)) else m (.loc r' i' j)

section
variable {P : Program} {idm : FuncId → FuncId} {m : NMap} {w : World} {W : Nat → Prop} {H : Hp}

theorem simH_args (s : SimH idm m w W H) {ns : List Nm} (hn : ns.Nodup) {os os' : List AObj} (ho : hgets H ns = some os) {fx : Nm → Option Nm} (hfx : ∀ x y, fx x = some y → ∃ i, y = .ext i ∧ ns[i]? = some x) (hr : renOs fx os = some os') : SimH idm (mcOf m ns) w W (argH 0 os') := by
  obtain ⟨l1, g1⟩ := hgets_get ho
  obtain ⟨l2, g2⟩ := renOs_get hr
  have at_ : ∀ {x : Nm} {o' : AObj}, hget (argH 0 os') x = some o' → ∃ k y o, x = .ext k ∧ ns[k]? = some y ∧ hget H y = some o ∧ o.ren fx = some o' := by
    intro x o' h
    obtain ⟨k, rfl, h1⟩ := hget_argH.1 h
    obtain ⟨o, h2, h3⟩ := g2 k o' h1
    obtain ⟨y, h4, h5⟩ := g1 k o h2
    exact ⟨k, y, o, by rw [Nat.zero_add], h4, h5, h3⟩
  refine { h := fun x o' h => ?_, sep := fun x y o o' b hx hy hbx hby => ?_, ch := fun y o x hy hx => ?_, lt := s.lt }
  · obtain ⟨k, y, o, rfl, h1, h2, h3⟩ := at_ h
    rw [mcOf_ext h1]
    exact (s.h y o h2).ren h3 fun x hx z hz => by
      obtain ⟨i, rfl, hi⟩ := hfx _ _ hz
      exact mcOf_ext hi
  · obtain ⟨k, p, q, rfl, h1, h2, h3⟩ := at_ hx
    obtain ⟨k', p', q', rfl, h1', h2', h3'⟩ := at_ hy
    rw [mcOf_ext h1] at hbx
    rw [mcOf_ext h1'] at hby
    have e := s.sep p p' q q' b h2 h2' hbx hby
    subst e
    rw [nodup_inj hn h1 h1']
  · obtain ⟨k, p, q, rfl, h1, h2, h3⟩ := at_ hy
    obtain ⟨z, _, h5⟩ := AObj.names_ren _ x q o h3 hx
    obtain ⟨i, rfl, hi⟩ := hfx _ _ h5
    exact argH_some.2 ⟨i, rfl, by have := (List.getElem?_eq_some_iff.1 hi).1; omega⟩

/-- Behind a call, as the caller sees it. -/
theorem good_after (s : SimH idm m w W H) {ns : List Nm} (hn : ns.Nodup) {os os' : List AObj} (ho : hgets H ns = some os) (hr : renOs (toExt ns) os = some os') {r i : Nat} {c : CR} {v : Value} {w' : World}
    (hp : CallPost idm (mcOf m ns) w W os' c v w') {av : AV} {outs news : List AObj} (hv : c.v.ren (fromExt ns r i) = some av) (h1 : renOs (fromExt ns r i) c.outs = some outs) (h2 : renOs (fromExt ns r i) c.news = some news)
    (hfr : freeH H (newUp r i 0 c.news) = true) :
    ∃ m2 W2, Good idm m w W H { v := av, up := zipUp ns outs ++ newUp r i 0 news } m2 w' W2 ∧ Rep idm m2 w' W2 av v ∧ ∀ y ∈ av.names, (hget ((zipUp ns outs ++ newUp r i 0 news) ++ H) y).isSome = true := by
  obtain ⟨m', W', hlen, s', si, hrep, hnm⟩ := hp
  obtain ⟨l1, g1⟩ := hgets_get ho
  obtain ⟨l2, g2⟩ := renOs_get hr
  obtain ⟨l3, g3⟩ := renOs_get h1
  obtain ⟨l4, g4⟩ := renOs_get h2
  have hfree : ∀ j, j < c.news.length → hget H (.loc r i j) = none := fun j hj => freeH_none hfr _ (mem_newUp.2 ⟨j, by rw [Nat.zero_add], hj⟩)
  have hold : ∀ x, (hget H x).isSome = true → mAft m m' r i ns.length c.news.length x = m x := by
    intro x hx
    cases x with
    | ext k => rfl
    | loc r' i' j =>
      simp only [mAft]
      split
      · rename_i h
        obtain ⟨rfl, rfl, h⟩ := h
        rw [hfree j h] at hx; cases hx
      · rfl
  have hns : ∀ {k : Nat} {x : Nm}, ns[k]? = some x → ∃ o, hget H x = some o ∧ os[k]? = some o := by
    intro k x hx
    have hlt := (List.getElem?_eq_some_iff.1 hx).1
    have ho := List.getElem?_eq_getElem (show k < os.length by omega)
    obtain ⟨y, h3, h4⟩ := g1 k _ ho
    rw [hx] at h3; cases h3
    exact ⟨_, h4, ho⟩
  -- the callee's names, seen by the caller
  have hfrom : ∀ {x y : Nm}, (hget (argH 0 (c.outs ++ c.news)) x).isSome = true → fromExt ns r i x = some y → mAft m m' r i ns.length c.news.length y = m' x ∧ (y ∈ ns ∨ ∃ j, y = .loc r i j ∧ j < c.news.length) := by
    intro x y hx hy
    obtain ⟨k, rfl, hk⟩ := argH_some.1 hx
    simp only [List.length_append] at hk
    simp only [fromExt] at hy
    split at hy
    · rename_i hlt
      obtain ⟨o, h3, _⟩ := hns hy
      refine ⟨?_, .inl (List.mem_of_getElem? hy)⟩
      rw [hold y (by rw [h3]; rfl), si.ext k (by omega), mcOf_ext hy]
    · rename_i hge
      simp only [Option.some.injEq] at hy
      subst hy
      refine ⟨?_, .inr ⟨_, rfl, by omega⟩⟩
      simp only [mAft]
      rw [if_pos ⟨trivial, trivial, by omega⟩]
      congr 2
      omega
  have hup : ∀ x, x ∈ upNs (zipUp ns outs ++ newUp r i 0 news) ↔ x ∈ ns ∨ ∃ j, x = .loc r i j ∧ j < c.news.length := by
    intro x
    rw [mem_upNs_append, upNs_zipUp (by omega), mem_newUp]
    constructor
    · rintro (h | ⟨j, rfl, h⟩)
      · exact .inl h
      · exact .inr ⟨j, by rw [Nat.zero_add], by omega⟩
    · rintro (h | ⟨j, rfl, h⟩)
      · exact .inl h
      · exact .inr ⟨j, by rw [Nat.zero_add], by omega⟩
  have hget1 : ∀ {x : Nm} {o : AObj}, hget (zipUp ns outs ++ newUp r i 0 news) x = some o → ∃ k o', hget (argH 0 (c.outs ++ c.news)) (.ext k) = some o' ∧ o'.ren (fromExt ns r i) = some o ∧ fromExt ns r i (.ext k) = some x := by
    intro x o h
    rw [hget_append] at h
    split at h
    · obtain ⟨k, h3, h4⟩ := hget_zipUp hn h
      obtain ⟨o', h5, h6⟩ := g3 k o h4
      have hk := (List.getElem?_eq_some_iff.1 h3).1
      refine ⟨k, o', hget_argH.2 ⟨k, by rw [Nat.zero_add], ?_⟩, h6, by simp only [fromExt, hk, if_true]; exact h3⟩
      rw [List.getElem?_append_left (List.getElem?_eq_some_iff.1 h5).1]; exact h5
    · obtain ⟨j, rfl, h4⟩ := hget_newUp.1 h
      obtain ⟨o', h5, h6⟩ := g4 j o h4
      refine ⟨ns.length + j, o', hget_argH.2 ⟨ns.length + j, by rw [Nat.zero_add], ?_⟩, h6, ?_⟩
      · rw [List.getElem?_append_right (by omega)]
        rw [show ns.length + j - c.outs.length = j by omega]; exact h5
      · simp only [fromExt]
        rw [if_neg (by omega)]
        congr 2
        omega
  have hups : ∀ x ∈ upNs (zipUp ns outs ++ newUp r i 0 news), ∃ o, hget (zipUp ns outs ++ newUp r i 0 news) x = some o := by
    intro x hx
    rw [hget_append, upNs_zipUp (by omega)]
    split
    · rename_i h
      obtain ⟨k, hk⟩ := List.mem_iff_getElem?.1 h
      exact hget_zipUp_some hk (by have := (List.getElem?_eq_some_iff.1 hk).1; omega)
    · rename_i h
      rcases (hup x).1 hx with h' | ⟨j, rfl, h'⟩
      · exact absurd h' h
      · exact ⟨news[j], hget_newUp.2 ⟨j, by rw [Nat.zero_add], List.getElem?_eq_getElem (by omega)⟩⟩
  have hlive : ∀ y, (y ∈ ns ∨ ∃ j, y = .loc r i j ∧ j < c.news.length) → (hget ((zipUp ns outs ++ newUp r i 0 news) ++ H) y).isSome = true := by
    intro y hy
    have := (hup y).2 hy
    rw [hget_append, if_pos this]
    obtain ⟨o, ho⟩ := hups y this
    simp [ho]
  have hown : ∀ b, Own (mcOf m ns) (argH 0 os') b → OwnU m H (zipUp ns outs ++ newUp r i 0 news) b := by
    rintro b ⟨x, o', h3, h4, h5⟩
    obtain ⟨k, rfl, h6⟩ := hget_argH.1 h3
    obtain ⟨o, h7, h8⟩ := g2 k o' h6
    obtain ⟨y, h9, h10⟩ := g1 k o h7
    rw [Nat.zero_add, mcOf_ext h9] at h5
    exact ⟨y, o, (hup y).2 (.inl (List.mem_of_getElem? h9)), h10, by rw [← AObj.frozen_ren h8]; exact h4, h5⟩
  refine ⟨mAft m m' r i ns.length c.news.length, W', { k := ?_, sub := si.tr.sub, sup := fun b hb hW hno => si.tr.sup b hb hW fun h => hno (hown b h), lt := s'.lt, mm := fun x hx _ => hold x hx, up := ?_, ups := hups, b1 := ?_, b2 := ?_, pgu := fun x h => by simp at h, ext := fun _ => rfl }, ?_, ?_⟩
  · exact ⟨si.tr.os, si.tr.tape, si.tr.output, si.tr.size, fun b hb hno => si.tr.block b hb fun h => hno (hown b h)⟩
  · intro x o hx
    obtain ⟨k, o', h3, h4, h5⟩ := hget1 hx
    have hk : (hget (argH 0 (c.outs ++ c.news)) (.ext k)).isSome = true := by rw [h3]; rfl
    refine ⟨?_, fun y hy => ?_⟩
    · rw [(hfrom hk h5).1]
      exact (s'.h _ o' h3).ren h4 fun z hz y hy => (hfrom (s'.ch _ o' z h3 hz) hy).1
    · obtain ⟨z, hz, hzy⟩ := AObj.names_ren _ y o' o h4 hy
      have := hlive y (hfrom (s'.ch _ o' z h3 hz) hzy).2
      simpa [pgH] using this
  · intro x o b hx hb hlt
    obtain ⟨k, o', h3, h4, h5⟩ := hget1 hx
    have hk : (hget (argH 0 (c.outs ++ c.news)) (.ext k)).isSome = true := by rw [h3]; rfl
    rw [(hfrom hk h5).1] at hb
    obtain ⟨q', h6, h7⟩ := si.born _ o' b h3 hb hlt
    obtain ⟨j, e, h8⟩ := hget_argH.1 h6
    rw [Nat.zero_add] at e
    injection e with e
    subst e
    obtain ⟨q, h9, h10⟩ := g2 k q' h8
    obtain ⟨y, h11, h12⟩ := g1 k q h9
    have hkl := (List.getElem?_eq_some_iff.1 h11).1
    simp only [fromExt, hkl, if_true] at h5
    rw [h5] at h11; cases h11
    rw [mcOf_ext h5] at h7
    refine ⟨q, h12, h7, fun hf => ?_⟩
    have hWb : W' b := s'.own_W ⟨_, o', h3, by rw [← AObj.frozen_ren h4]; exact hf, hb⟩
    have hWw := si.tr.sub b hlt hWb
    cases q with
    | box => rfl
    | arr => rfl
    | parr es z fz =>
      cases fz with
      | false => rfl
      | true =>
        obtain ⟨_, _, hq⟩ := s.h x _ h12
        rcases hq with ⟨hq, _⟩ | ⟨b', cc, e, q2, q3, q4, q5, q6, q7, q8, q9, q10⟩
        · rw [h7] at hq; cases hq
        · rw [h7] at q2; cases q2; exact absurd hWw (q10 rfl)
  · intro x y b hx hy hge hbx hby
    obtain ⟨o, ho⟩ := hups x hx
    obtain ⟨q, hq⟩ := hups y hy
    obtain ⟨k, o', h3, h4, h5⟩ := hget1 ho
    obtain ⟨k', q', h3', h4', h5'⟩ := hget1 hq
    rw [(hfrom (by rw [h3]; rfl) h5).1] at hbx
    rw [(hfrom (by rw [h3']; rfl) h5').1] at hby
    have e := s'.sep _ _ o' q' b h3 h3' hbx hby
    injection e with e
    subst e
    rw [h5] at h5'
    injection h5'
  · exact hrep.ren _ av hv fun x hx y hy => (hfrom (hnm x hx) hy).1
  · intro y hy
    obtain ⟨x, hx, hxy⟩ := AV.names_ren _ y c.v av hv hy
    exact hlive y (hfrom (hnm x hx) hxy).2
end
end Go.Ab

/-! Calls: what is handed over. -/
namespace Go.Ab
open Go

/-- The slices that lie in variables that are handed over. -/
def boxNs (H : Hp) : List Nm → List Nm
  | [] => []
  | x :: r => match hget H x with
    | some (.box cs) => cs.flatMap hslN ++ boxNs H r
    | _ => boxNs H r

theorem hget_boxUps {H : Hp} : ∀ {ns : List Nm} {b : Hp}, boxUps H ns = some b →
    (∀ x ∈ upNs b, ∃ o, hget b x = some o) ∧ (∀ x ∈ boxNs H ns, (∃ es z f, hget H x = some (.parr es z f)) → x ∈ upNs b) ∧
    ∀ (x : Nm) (o : AObj), hget b x = some o → (∃ es z f, hget H x = some (.parr es z f) ∧ o = .parr es z true ∧ x ∈ boxNs H ns) ∨
      ∃ cs cs', hget H x = some (.box cs) ∧ frzL1 H cs = some cs' ∧ o = .box cs' ∧ ∀ y ∈ cs.flatMap hslN, y ∈ boxNs H ns
  | [], b, h => by
    simp only [boxUps, Option.some.injEq] at h
    subst h
    exact ⟨fun x h => by simp [upNs] at h, fun x h => by simp [boxNs] at h, fun x o h => by simp [hget] at h⟩
  | x :: r, b, h => by
    simp only [boxUps] at h
    cases hx : hget H x with
    | none => simp [hx] at h
    | some ob =>
      cases hr : boxUps H r with
      | none => cases ob <;> simp [hx, hr] at h
      | some u =>
        obtain ⟨i1, i2, i3⟩ := hget_boxUps hr
        have other : (∀ cs, ob ≠ .box cs) → some u = some b → _ := fun hne e => (⟨hne, by injection e⟩ : (∀ cs, ob ≠ .box cs) ∧ u = b)
        cases ob with
        | box cs =>
          simp only [hx, hr] at h
          cases hf : frzL1 H cs with
          | none => simp [hf] at h
          | some cs' =>
            simp only [hf, Option.some.injEq] at h
            subst h
            have hbn : boxNs H (x :: r) = cs.flatMap hslN ++ boxNs H r := by simp [boxNs, hx]
            rw [hbn]
            refine ⟨fun y hy => ?_, fun y hy hp => ?_, fun y o ho => ?_⟩
            · simp only [hget]
              split
              · exact ⟨_, rfl⟩
              · rename_i hne
                rcases List.mem_cons.1 hy with rfl | hy
                · exact absurd rfl hne
                · rw [hget_append]
                  split
                  · rename_i hm; exact ups_frzUp hm
                  · rename_i hm
                    rcases mem_upNs_append.1 hy with h | h
                    · exact absurd h hm
                    · exact i1 y h
            · refine List.mem_cons_of_mem _ (mem_upNs_append.2 ?_)
              rcases List.mem_append.1 hy with hy | hy
              · obtain ⟨es, z, f, hp⟩ := hp; exact .inl (mem_frzUp hp hy)
              · exact .inr (i2 y hy hp)
            · simp only [hget] at ho
              split at ho
              · rename_i e
                subst e
                simp only [Option.some.injEq] at ho
                exact .inr ⟨cs, cs', hx, hf, ho.symm, fun y hy => List.mem_append_left _ hy⟩
              · rw [hget_append] at ho
                split at ho
                · obtain ⟨es, z, f, h1, h2, h3⟩ := hget_frzUp ho
                  exact .inl ⟨es, z, f, h1, h2, List.mem_append_left _ h3⟩
                · rcases i3 y o ho with ⟨es, z, f, h1, h2, h3⟩ | ⟨c, c', h1, h2, h3, h4⟩
                  · exact .inl ⟨es, z, f, h1, h2, List.mem_append_right _ h3⟩
                  · exact .inr ⟨c, c', h1, h2, h3, fun y hy => List.mem_append_right _ (h4 y hy)⟩
        | parr es z f =>
          simp only [hx, hr, Option.some.injEq] at h
          subst h
          have hbn : boxNs H (x :: r) = boxNs H r := by simp [boxNs, hx]
          rw [hbn]
          exact ⟨i1, i2, i3⟩
        | arr es =>
          simp only [hx, hr, Option.some.injEq] at h
          subst h
          have hbn : boxNs H (x :: r) = boxNs H r := by simp [boxNs, hx]
          rw [hbn]
          exact ⟨i1, i2, i3⟩

section
variable {idm : FuncId → FuncId} {m : NMap} {w : World} {W : Nat → Prop} {H : Hp}

theorem Good.boxes (s : SimH idm m w W H) {ns : List Nm} {b : Hp} (hb : boxUps H ns = some b) (v : AV) : Good idm m w W H { v, up := b } m w (Wf m H (boxNs H ns) W) := by
  obtain ⟨i1, i2, i3⟩ := hget_boxUps hb
  exact {
    k := Keep.refl _ w
    sub := fun i _ h => h.1
    sup := fun i hi hW hn => ⟨hW, fun ⟨x, hx, ⟨es, z, f, hp⟩, hbb⟩ => by
      cases f with
      | false => exact hn ⟨x, _, i2 x hx ⟨es, z, false, hp⟩, hp, rfl, hbb⟩
      | true =>
        obtain ⟨_, _, h⟩ := s.h x _ hp
        rcases h with ⟨h, _⟩ | ⟨b, c, e, h2, h3, h4, h5, h6, h7, h8, h9, h10⟩
        · rw [hbb] at h; cases h
        · rw [hbb] at h2; cases h2; exact h10 rfl hW⟩
    lt := fun i h => s.lt i h.1
    mm := fun _ _ _ => rfl
    up := fun x o ho => by
      rcases i3 x o ho with ⟨es, z, f, h1, rfl, h3⟩ | ⟨cs, cs', h1, h2, rfl, h4⟩
      · refine ⟨?_, fun y hy => by simp [AObj.names] at hy⟩
        obtain ⟨q0, q1, q2⟩ := s.h x _ h1
        refine ⟨q0, q1, ?_⟩
        rcases q2 with q2 | ⟨b, c, e, g2, g3, g4, g5, g6, g7, g8, g9, g10⟩
        · exact .inl q2
        · exact .inr ⟨b, c, e, g2, g3, g4, g5, g6, g7, fun i j e a v he ha hv => (g8 i j e a v he ha hv).keep (Keep.refl (fun _ => False) w) (fun _ h => h.elim) fun _ _ h => h.1,
            fun h => by simp at h, fun _ hx => hx.2 ⟨x, h3, ⟨es, z, f, h1⟩, g2⟩⟩
      · obtain ⟨b, c, e, g1, g2, g3, g4, g5, g6, g7⟩ := s.h x _ h1
        obtain ⟨f1, f2, f3, f4⟩ := frzL1_rep s g3 g6 h2 h4
        refine ⟨⟨b, c, e, g1, g2, f1, f4 g4, g5, f2, g7, fun ⟨y, hy, ⟨es, z, f, hp⟩, hbb⟩ => ?_⟩, fun y hy => ?_⟩
        · have := s.sep x y _ _ b h1 hp g1 hbb
          subst this
          rw [h1] at hp; cases hp
        · exact isSome_app (pg := none) i1 (s.ch x _ y h1 (f3 y hy))
    ups := i1
    b1 := fun x o q ho hq _ => by
      rcases i3 x o ho with ⟨es, z, f, h1, rfl, h3⟩ | ⟨cs, cs', h1, h2, rfl, h4⟩
      · exact ⟨_, h1, hq, fun h => by simp [AObj.frozen] at h⟩
      · exact ⟨_, h1, hq, fun _ => rfl⟩
    b2 := fun x y q hx _ hge hq _ => by
      obtain ⟨o, ho⟩ := i1 x hx
      rcases i3 x o ho with ⟨es, z, f, h1, _⟩ | ⟨cs, cs', h1, _⟩
      · have := (s.h x _ h1).lt hq; omega
      · have := (s.h x _ h1).lt hq; omega
    pgu := fun x h => by simp at h
    ext := fun _ => rfl }

theorem frzL_get : ∀ {cs cs' : List AV}, frzL H cs = some cs' → cs'.length = cs.length ∧ ∀ (i : Nat) (c' : AV), cs'[i]? = some c' → ∃ c, cs[i]? = some c ∧ frz H c = some c'
  | [], cs', h => by simp only [frzL, Option.some.injEq] at h; subst h; exact ⟨rfl, fun i c h => by simp at h⟩
  | v :: r, cs', h => by
    simp only [frzL] at h
    cases hv : frz H v with
    | none => simp [hv] at h
    | some v' => cases hr : frzL H r with
      | none => simp [hv, hr] at h
      | some r' =>
        simp only [hv, hr, Option.some.injEq] at h
        subst h
        obtain ⟨h1, h2⟩ := frzL_get hr
        refine ⟨by simp [h1], fun i c hi => ?_⟩
        cases i with
        | zero => simp at hi; subst hi; exact ⟨v, rfl, hv⟩
        | succ i => simp at hi; obtain ⟨c', hc', e⟩ := h2 i c hi; exact ⟨c', by simpa using hc', e⟩

theorem allP_each : ∀ {cs : List AV} {ps : List PV}, allP cs = some ps → ∀ c ∈ cs, ∃ p, c = .p p
  | [], _, _, c, hc => by cases hc
  | v :: r, ps, h, c, hc => by
    cases v with
    | p v =>
      simp only [allP] at h
      cases hq : allP r with
      | none => simp [hq] at h
      | some x =>
        rcases List.mem_cons.1 hc with rfl | hc
        · exact ⟨v, rfl⟩
        · exact allP_each hq c hc
    | _ => simp [allP] at h
theorem frzL_reps (s : SimH idm m w W H) {cs cs' : List AV} {vs : Array Value} (h : Reps idm m w W cs vs) (e : frzL H cs = some cs') :
    Reps idm m w (Wf m H (frzNs cs) W) cs' vs ∧ ∀ x ∈ namesL cs', x ∈ namesL cs := by
  obtain ⟨h1, h2⟩ := frzL_get e
  refine ⟨⟨by rw [h1]; exact h.hl, fun i c v hi hv => ?_⟩, fun x hx => ?_⟩
  · obtain ⟨c0, hc0, e0⟩ := h2 i c hi
    exact (frz_rep s (h.h i c0 v hc0 hv) e0 (frzNs_one (List.mem_of_getElem? hc0))).1
  · obtain ⟨c, hc, hx⟩ := mem_namesL.1 hx
    obtain ⟨i, hi⟩ := List.mem_iff_getElem?.1 hc
    obtain ⟨c0, hc0, e0⟩ := h2 i c hi
    have hlt := (List.getElem?_eq_some_iff.1 hc0).1
    have hv := Array.getElem?_eq_getElem (show i < vs.size by rw [h.hl]; exact hlt)
    exact mem_namesL.2 ⟨c0, List.mem_of_getElem? hc0, (frz_rep s (h.h i c0 _ hc0 hv) e0 (frzNs_one (List.mem_of_getElem? hc0))).2 x hx⟩
end

theorem allP_names {cs : List AV} {ps : List PV} (h : allP cs = some ps) : namesL cs = [] ∧ ∀ f, renL f cs = some cs := by
  induction cs generalizing ps with
  | nil => exact ⟨rfl, fun f => rfl⟩
  | cons v r ih =>
    cases v with
    | p v =>
      simp only [allP] at h
      cases hr : allP r with
      | none => simp [hr] at h
      | some q =>
        obtain ⟨h1, h2⟩ := ih hr
        exact ⟨by simp [namesL, AV.names, h1], fun f => by simp [renL, AV.ren, h2]⟩
    | _ => simp [allP] at h

section
variable {P : Program} {idm : FuncId → FuncId} {m : NMap} {w : World} {W : Nat → Prop} {H : Hp} {cf : CF}

/-- What a call comes to, as the caller sees it. -/
def After (P : Program) (idm : FuncId → FuncId) (m : NMap) (w : World) (W : Nat → Prop) (H : Hp) (d : Dl) (v : Value) (w' : World) : Prop :=
  ∃ m' W', Good idm m w W H d m' w' W' ∧ Rep idm m' w' W' d.v v ∧ ∀ y ∈ d.v.names, (hget (d.up ++ pgH d.pg H) y).isSome = true

theorem callEnd_inv {r i : Nat} {ns : List Nm} {ups : Hp} {x : Option CR} {d : Dl} (h : callEnd H r i ns ups x = some d) : ∃ c, x = some c ∧ c.outs.length = ns.length ∧ freeH (ups ++ H) (newUp r i 0 c.news) = true ∧
    ∃ av outs news, c.v.ren (fromExt ns r i) = some av ∧ renOs (fromExt ns r i) c.outs = some outs ∧ renOs (fromExt ns r i) c.news = some news ∧ d = { v := av, up := zipUp ns outs ++ (newUp r i 0 news ++ ups) } := by
  cases x with
  | none => simp [callEnd] at h
  | some c =>
    refine ⟨c, rfl, ?_⟩
    simp only [callEnd] at h
    split at h
    · rename_i v h1 h2 h3
      simp only [Option.some.injEq] at h
      subst h
      rw [h1, h2, h3]
      exact ⟨rfl, rfl, .p v, [], [], rfl, rfl, rfl, rfl⟩
    · rename_i ns _ _ _ _ _
      split at h
      · rename_i hc
        refine ⟨hc.1, hc.2, ?_⟩
        cases h1 : c.v.ren (fromExt ns r i) with
        | none => simp [h1] at h
        | some av => cases h2 : renOs (fromExt ns r i) c.outs with
          | none => simp [h1, h2] at h
          | some outs => cases h3 : renOs (fromExt ns r i) c.news with
            | none => simp [h1, h2, h3] at h
            | some news =>
              simp only [h1, h2, h3, Option.some.injEq] at h
              exact ⟨av, outs, news, rfl, rfl, rfl, h.symm⟩
      · cases h

theorem good_noop (s : SimH idm m w W H) : Good idm m w W H { v := .undef } m w W := Good.id s.lt _

/-- The call itself, behind all that is handed over. -/
theorem call_core (cfok : CFOK P idm cf) (s : SimH idm m w W H) {ups : Hp} {m1 : NMap} {W1 : Nat → Prop} {v0 : AV} (g1 : Good idm m w W H { v := v0, up := ups } m1 w W1) {r i : Nat} {ns : List Nm} {f : FuncId} {args args' : List AV} {os os' : List AObj} {d : Dl} {vs : Array Value}
    (hn : ns.Nodup) (ha : renL (toExt ns) args = some args') (ho : hgets (ups ++ H) ns = some os) (hr : renOs (toExt ns) os = some os') (he : callEnd H r i ns ups (cf f args' os') = some d) (hreps : Reps idm m1 w W1 args vs) :
    CallF P (idm f) vs w (After P idm m w W H d) := by
  have s1 : SimH idm m1 w W1 (ups ++ H) := g1.simH s
  obtain ⟨c, hc, hl, hfr, av, outs, news, e1, e2, e3, rfl⟩ := callEnd_inv he
  obtain ⟨l1, q1⟩ := renL_get ha
  have := cfok f args' os' c hc (mcOf m1 ns) w W1 vs (simH_args s1 hn ho (fun x y h => toExt_get h) hr) ⟨by rw [l1]; exact hreps.hl, fun k x v hx hv => by
      obtain ⟨x0, h1, h2⟩ := q1 k x hx
      exact (hreps.h k x0 v h1 hv).ren _ x h2 fun y _ z hz => by
        obtain ⟨j, rfl, hj⟩ := toExt_get hz
        exact mcOf_ext hj⟩ (fun x hx => by
      obtain ⟨y, _, hy⟩ := namesL_ren _ x args args' ha hx
      obtain ⟨j, rfl, hj⟩ := toExt_get hy
      refine argH_some.2 ⟨j, rfl, ?_⟩
      have := (List.getElem?_eq_some_iff.1 hj).1
      have := (renOs_get hr).1
      have := (hgets_get ho).1
      omega)
  refine this.mono fun v w' hp => ?_
  obtain ⟨m2, W2, g2, h2, h3⟩ := good_after s1 hn ho hr hp e1 e2 e3 hfr
  have := Good.comp s g1 g2
  refine ⟨m2, W2, by simpa [List.append_assoc] using this, h2, fun y hy => ?_⟩
  have := h3 y hy
  simpa [pgH, List.append_assoc] using this

theorem callNs_core (cfok : CFOK P idm cf) (s : SimH idm m w W H) {ups : Hp} {m1 : NMap} {W1 : Nat → Prop} {v0 : AV} (g1 : Good idm m w W H { v := v0, up := ups } m1 w W1) {r i : Nat} {f : FuncId} {args : List AV} {d : Dl} {vs : Array Value}
    (he : callNs cf H r i f args ups = some d) (hreps : Reps idm m1 w W1 args vs) : CallF P (idm f) vs w (After P idm m w W H d) := by
  unfold callNs at he
  cases hns : reach (ups ++ H) 64 (namesL args) [] with
  | none => simp [hns] at he
  | some ns =>
    simp only [hns] at he
    cases ha : renL (toExt ns) args with
    | none => simp [ha] at he
    | some args' => cases ho : hgets (ups ++ H) ns with
      | none => simp [ha, ho] at he
      | some os =>
        simp only [ha, ho] at he
        cases hr : renOs (toExt ns) os with
        | none => simp [hr] at he
        | some os' =>
          simp only [hr] at he
          exact call_core cfok s g1 (reach_nodup hns List.nodup_nil) ha ho hr he hreps

theorem scal_rep {m' : NMap} {w' : World} {W' : Nat → Prop} : ∀ {cs : List AV}, scalL cs = true → ∀ c ∈ cs, ∀ v, Rep idm m' w' W' c v → ∀ (m2 : NMap) (w2 : World) (W2 : Nat → Prop), Rep idm m2 w2 W2 c v
  | [], _, c, hc, _, _, _, _, _ => by cases hc
  | a :: r, h, c, hc, v, hr, m2, w2, W2 => by
    have key : (∃ p, a = .p p ∧ ((∃ k n, p = .int k n) ∨ (∃ b, p = .bool b) ∨ ∃ s, p = .str s)) ∧ scalL r = true := by
      cases a with
      | p p => cases p with
        | int k n => exact ⟨⟨_, rfl, .inl ⟨k, n, rfl⟩⟩, h⟩
        | bool b => exact ⟨⟨_, rfl, .inr (.inl ⟨b, rfl⟩)⟩, h⟩
        | str s => exact ⟨⟨_, rfl, .inr (.inr ⟨s, rfl⟩)⟩, h⟩
        | _ => simp [scalL] at h
      | _ => simp [scalL] at h
    obtain ⟨⟨p, rfl, hp⟩, h2⟩ := key
    rcases List.mem_cons.1 hc with rfl | hc
    · cases hr with
      | p _ _ hq =>
        rcases hp with ⟨k, n, rfl⟩ | ⟨b, rfl⟩ | ⟨s, rfl⟩
        · cases hq; exact .p _ _ (.int k n)
        · cases hq; exact .p _ _ (.bool b)
        · cases hq; exact .p _ _ (.str s)
    · exact scal_rep h2 c hc v hr m2 w2 W2
/-- A call that is handed nothing but plain data, and hands back nothing that holds a slice. -/
theorem lend_core (cfok : CFOK P idm cf) (s : SimH idm m w W H) {u : Hp} {W1 : Nat → Prop} {v0 : AV} (g1 : Good idm m w W H { v := v0, up := u } m w W1) {r i : Nat} {f : FuncId} {args' : List AV} {ps : List PV} (hp : allP args' = some ps) {d : Dl} {vs : Array Value}
    (he : lendEnd H r i u (cf f args' []) = some d) (hreps : Reps idm m w W1 args' vs) : CallF P (idm f) vs w (After P idm m w W H d) := by
  have s1 : SimH idm m w W1 (u ++ H) := g1.simH s
  unfold lendEnd at he
  split at he
  · rename_i cs outs news hc
    split at he
    · rename_i hs
      simp only [Option.some.injEq] at he
      subst he
      have := cfok f args' [] _ hc (mcOf m []) w W1 vs (simH_args s1 (ns := []) (os := []) (os' := []) (fx := fun _ => none) (by simp) rfl (fun x y h => by cases h) rfl)
        ⟨hreps.hl, fun k c v hk hv => (hreps.h k c v hk hv).ren (fun _ => none) c (by
          obtain ⟨_, hc'⟩ := allP_each hp c (List.mem_of_getElem? hk)
          rw [hc']; rfl) fun y _ z hz => by cases hz⟩ (fun x hx => by rw [(allP_names hp).1] at hx; cases hx)
      refine this.mono fun v w' ⟨m', W', _, _, since, rep, _⟩ => ?_
      have no : ∀ b, ¬ Own (mcOf m []) (argH 0 []) b := fun b ⟨x, o, h, _⟩ => by simp [argH, hget] at h
      have k := since.tr.toKeep
      refine ⟨m, W, ⟨⟨k.os, k.tape, k.output, k.size, fun j hj _ => k.block j hj (no j)⟩, fun _ _ h => h, fun _ _ h _ => h, fun j hj => Nat.lt_of_lt_of_le (s.lt j hj) k.size, fun _ _ _ => rfl, fun x o h => by simp [hget] at h, fun x h => by simp [upNs] at h, fun x o b h => by simp [hget] at h, fun x y b h => by simp [upNs] at h, fun x h => (by cases h), fun _ => rfl⟩, ?_, ?_⟩
      · cases rep with
        | tup _ us hl h => exact .tup _ us hl fun j c v hj hv => scal_rep hs c (List.mem_of_getElem? hj) v (h j c v hj hv) m w' W
      · intro y hy
        have : ∀ {cs : List AV}, scalL cs = true → namesL cs = [] := by
          intro cs
          induction cs with
          | nil => intro _; rfl
          | cons a q ih =>
            intro h
            cases a with
            | p p => cases p with
              | int | bool | str => simp only [scalL] at h; simp [namesL, AV.names, ih h]
              | _ => simp [scalL] at h
            | _ => simp [scalL] at h
        rw [show (AV.tup cs).names = namesL cs from rfl, this hs] at hy
        cases hy
    · rw [← hc] at he
      exact call_core cfok s g1 (ns := []) (os := []) (os' := []) (by simp) ((allP_names hp).2 _) rfl rfl he hreps
  · exact call_core cfok s g1 (ns := []) (os := []) (os' := []) (by simp) ((allP_names hp).2 _) rfl rfl he hreps
theorem callD_core (cfok : CFOK P idm cf) (s : SimH idm m w W H) {raw : Bool} {r i : Nat} {f : FuncId} {args : List AV} {d : Dl} {vs : Array Value} (he : callD cf raw H r i f args = some d) (hreps : Reps idm m w W args vs) :
    CallF P (idm f) vs w (After P idm m w W H d) := by
  unfold callD at he
  cases hp : allP args with
  | some ps =>
    simp only [hp] at he
    exact call_core cfok s (good_noop s) (ns := []) (os := []) (os' := []) (by simp) ((allP_names hp).2 _) rfl rfl he hreps
  | none =>
    simp only [hp] at he
    cases raw with
    | true => exact callNs_core cfok s (good_noop s) he hreps
    | false =>
      simp only [Bool.false_eq_true, if_false] at he
      cases hf : frzL H args with
      | none => simp [hf] at he
      | some args' =>
        simp only [hf] at he
        cases hpp : allP args' with
        | some ps =>
          simp only [hpp] at he
          obtain ⟨hr1, _⟩ := frzL_reps s hreps hf
          exact lend_core cfok s (Good.freeze s (frzNs args) .undef) hpp he hr1
        | none =>
        simp only [hpp] at he
        cases hns : reach (frzUp H (frzNs args) ++ H) 64 (namesL args') [] with
        | none => simp [hns] at he
        | some ns => cases hb : boxUps (frzUp H (frzNs args) ++ H) ns with
          | none => simp [hns, hb] at he
          | some b =>
            simp only [hns, hb] at he
            have gz := Good.freeze s (frzNs args) .undef
            have s1 : SimH idm m w (Wf m H (frzNs args) W) (frzUp H (frzNs args) ++ H) := gz.simH s
            have gb := Good.boxes s1 hb .undef
            have g1 := Good.comp s gz gb
            obtain ⟨hr1, hr2⟩ := frzL_reps s hreps hf
            exact callNs_core cfok s g1 he ⟨hr1.hl, fun i c v hi hv => (hr1.h i c v hi hv).frz_keep _⟩
end

section
variable {P : Program} {idm : FuncId → FuncId} {N : Nat} {m : NMap} {w : World} {W : Nat → Prop} {st : St} {a : Act} {o : Go.Oper} (s : Sim idm N m w W st a)
include s

theorem ok_call {cf : CF} (cfok : CFOK P idm cf) {raw : FuncId → Bool} (r i : Nat) {x : Operand} {x' : Opd} {args : Array Operand} {args' : List Opd} {tys : Array TypeId} (ho : o.op = .call { callee := .value x, args := args, argTypes := tys })
    (hx : opdL idm x x' = true) (ha : opdsL idm args.toList args' = true) {f : FuncId} {fa fb : List AV} (hf : ev st.T x' = .fn f fa fb) {d : Dl} (hd : callD cf (raw f) st.H r i f (fa ++ evL st.T args' ++ fb) = some d) : OpStep P idm m w W st.H o a d := by
  intro K Q hk
  obtain ⟨h1, _⟩ := opdL_rep hx s
  obtain ⟨g1, g2, g3⟩ := opdsL_rep s ha
  rw [hf] at h1
  generalize hu : a.eval x = u at h1
  cases h1 with
  | fn _ _ _ va vb l1 l2 r1 r2 =>
    have hreps : Reps idm m w W (fa ++ evL st.T args' ++ fb) (va ++ args.map a.eval ++ vb) := Reps.append (Reps.append ⟨l1, r1⟩ ⟨by simpa using g1, fun i c v hc hv => g2 i c v hc (by simpa using hv)⟩) ⟨l2, r2⟩
    have hrun : (execOp a.eval o).run P w = (callFunc (idm f) (va ++ args.map a.eval ++ vb)).run P w := by
      simp [execOp, ho, resolve, Deferred.ofValue, hu, invoke]
    have hK : ∀ v w', After P idm m w W st.H d v w' → K (a.put o.dst v) w' := fun v w' ⟨m', W', h1, h2, h3⟩ => hk v m' w' W' h1 h2 h3
    unfold Oper.wp
    rw [hrun]
    rcases callD_core cfok s.toSimH hd hreps with ⟨v, w', h1, h2⟩ | ⟨h1, h2⟩
    · rw [h1]; exact hK v w' h2
    · rw [h1]
      exact h2.mono fun e w' he => by cases e <;> first | exact hK _ _ he | exact he.elim
end
end Go.Ab

namespace Go.Ab
open Go
/-! Clearing a slice of one's own. -/
theorem zeroCells_get {zs : Array Value} {n q : Nat} (hz : 0 < zs.size) (hq : q < n * zs.size) : (Builtin.zeroCells zs n).toList[q]? = zs[q % zs.size]? := by
  have hm := Nat.mod_lt q hz
  simp [Builtin.zeroCells, hq, Array.getElem?_eq_getElem hm]
  exact getElem!_pos zs _ hm
theorem zeroCells_len (zs : Array Value) (n : Nat) : (Builtin.zeroCells zs n).toList.length = n * zs.size := by simp [Builtin.zeroCells]
section
variable {P : Program} {idm : FuncId → FuncId} {N : Nat} {m : NMap} {w : World} {W : Nat → Prop} {st : St} {a : Act} {o : Oper} (s : Sim idm N m w W st a)
include s
theorem run_clear_at {t e : TypeId} {x : Operand} {ti : TypeInfo} {zv : Value} (ho : o.op = .call { callee := .builtin .clear, args := #[x], argTypes := #[t] }) (ht : P.underlying t = some (.slice e)) (hi : P.info? e = some ti) (hz : ti.zero = some zv)
    {b off n cap : Nat} (hn : 0 < n) (hx : a.eval x = .slice (some ⟨b, off, none⟩) n cap) {c : Array Value} {e' : TypeId} (hb : w.heap[b]? = some (.cells c e' (0, 0))) (hl : off + n * zv.cells.size ≤ c.size) (h1 : ∀ u ∈ zv.cells, u.oneCell' = true) :
    (execOp a.eval o).run P w = .ok (.value (.tuple #[])) (w.setRow b (c.toList.take off ++ (Builtin.zeroCells zv.cells n).toList ++ c.toList.drop (off + (Builtin.zeroCells zv.cells n).toList.length)).toArray) := by
  have h1' : ∀ u ∈ (Builtin.zeroCells zv.cells n).toList, u.oneCell' = true := by
    intro u hu
    simp only [Builtin.zeroCells, Array.mem_toList_iff, Array.mem_map, Array.mem_range] at hu
    obtain ⟨k, hk, rfl⟩ := hu
    have hz0 : 0 < zv.cells.size := by
      rcases Nat.eq_zero_or_pos zv.cells.size with h0 | h0
      · rw [h0] at hk; simp at hk
      · exact h0
    rw [getElem!_pos zv.cells _ (Nat.mod_lt k hz0)]
    exact h1 _ (Array.getElem_mem _)
  have := run_storeCells_at P b off e' (Builtin.zeroCells zv.cells n).toList 0 c w hb (by rw [zeroCells_len]; omega) h1'
  simp only [Nat.add_zero] at this
  obtain ⟨k, rfl⟩ : ∃ k, n = k + 1 := ⟨n - 1, by omega⟩
  simp [execOp, ho, resolve, invoke, builtin, hx, Builtin.clear_, run_underlying ht, zeroValue, typeInfo, hi, hz]
  simp at this
  rw [this]
  simp
theorem ok_clear {t e : TypeId} {x : Operand} {x' : Opd} {ti : TypeInfo} {zv : Value} {zp : PV} (ho : o.op = .call { callee := .builtin .clear, args := #[x], argTypes := #[t] }) (ht : P.underlying t = some (.slice e)) (hi : P.info? e = some ti) (hz : ti.zero = some zv)
    (hzp : valL zv zp = true) (hx : opdL idm x x' = true) {y : Nm} {off n z : Nat} {es : List PV} (h1 : ev st.T x' = .hsl y off n) (hn : ¬ n = 0) (h2 : hget st.H y = some (.parr es z false)) (hle : off + n ≤ es.length) (hzl : zp.cells.length = z) (hz0 : 0 < z) :
    OpOK P idm m w W st.H o a { v := .tup [], up := [(y, some (.parr (es.take off ++ List.replicate n zp ++ es.drop (off + n)) z false))] } := by
  obtain ⟨g1, _⟩ := opdL_rep hx s
  rw [h1] at g1
  generalize he : a.eval x = ux at g1
  cases g1 with
  | hsl _ _ _ aa cc hh hcc =>
    obtain ⟨q0, q1, q2⟩ := s.h y _ h2
    obtain ⟨v1, v2, v3⟩ := (valL_rep hzp w W).cells
    rcases q2 with ⟨q2, rfl, _⟩ | ⟨b, c, e', q2, q3, q4, q5, q6, q7, q8, q9, q10⟩
    · simp at hle; omega
    · unfold HslOK at hh
      rw [q2] at hh
      simp only [] at hh
      have haa := hh.2 (by omega)
      subst haa
      rw [q0] at he
      have hzs : zv.cells.size = z := by rw [v1]; exact hzl
      have hzone : ∀ u ∈ zv.cells, u.oneCell' = true := by
        intro u hu
        obtain ⟨k, hk, rfl⟩ := Array.mem_iff_getElem.1 hu
        have hk2 : k < zp.cells.length := by omega
        have hp := v3 k zp.cells[k] zv.cells[k] (by simp [hk2]) (by simp [hk])
        have hf := v2 _ (List.getElem_mem hk2)
        generalize zp.cells[k] = pp at hp hf
        generalize zv.cells[k] = uu at hp
        cases hp <;> first | rfl | cases hf
      have hcap : (off + n) * z ≤ (m y).cap * z := Nat.mul_le_mul_right z (by omega)
      rw [Nat.add_mul] at hcap
      have hbound : off * z + n * zv.cells.size ≤ c.size := by rw [hzs]; omega
      have hr := run_clear_at (P := P) s ho ht hi hz (show 0 < n by omega) he q3 hbound hzone
      have hbl : off * z + (Builtin.zeroCells zv.cells n).toList.length ≤ c.toList.length := by rw [zeroCells_len]; simpa using hbound
      have hl2 : off + (List.replicate n zp).length ≤ es.length := by simpa using hle
      have hdrop : es.drop (off + n) = es.drop (off + (List.replicate n zp).length) := by simp
      rw [hdrop]
      refine ⟨.tuple #[], _, m, W, .inl hr, Good.upd s.toSimH _ h2 rfl q2 _ ⟨q0, ?_, .inr ⟨b, _, e', q2, setRow_heap w b c _ e' _ q3, ?_, ?_, q6, ?_, ?_, fun _ => q9 rfl, fun h => by cases h⟩⟩ (fun k hk => by simp [AObj.names] at hk) rfl, .tup _ _ rfl fun i c v h => by simp at h, by simp [AV.names, namesL]⟩
      · intro e1 he1
        rw [List.append_assoc] at he1
        rcases List.mem_append.1 he1 with h | h
        · exact q1 e1 (List.mem_of_mem_take h)
        · rcases List.mem_append.1 h with h | h
          · rw [List.eq_of_mem_replicate h]; exact ⟨hzl, v2⟩
          · exact q1 e1 (List.mem_of_mem_drop h)
      · simp only [List.size_toArray]
        rw [splice_len _ _ _ hbl]
        simpa using q4
      · rw [splice_len _ _ _ hl2]; exact q5
      · intro u hu
        simp only [List.mem_toArray, List.append_assoc] at hu
        rcases List.mem_append.1 hu with hu | hu
        · exact q7 u (by simpa using List.mem_of_mem_take hu)
        · rcases List.mem_append.1 hu with hu | hu
          · simp only [Builtin.zeroCells, Array.mem_toList_iff, Array.mem_map, Array.mem_range] at hu
            obtain ⟨k, hk, rfl⟩ := hu
            rw [getElem!_pos zv.cells _ (Nat.mod_lt k (by omega))]
            exact hzone _ (Array.getElem_mem _)
          · exact q7 u (by simpa using List.mem_of_mem_drop hu)
      · intro k j e1 a1 u hk hj hu
        simp only [List.getElem?_toArray] at hu
        rw [splice_get _ _ _ hbl] at hu
        rw [splice_get _ _ _ hl2] at hk
        rw [zeroCells_len, hzs] at hu
        simp only [List.length_replicate] at hk
        have keep : ∀ {p : PV} {q : Value}, PRep w W p q → PRep (w.setRow b (c.toList.take (off * z) ++ (Builtin.zeroCells zv.cells n).toList ++ c.toList.drop (off * z + (Builtin.zeroCells zv.cells n).toList.length)).toArray) W p q := fun h => h.keep (keep_setRow b _) (fun i hi => by rw [hi]; exact q9 rfl) fun _ _ h => h
        by_cases hc : off ≤ k ∧ k < off + n
        · rw [if_pos hc, List.getElem?_replicate, if_pos (by omega)] at hk
          cases hk
          have hjz : j < z := by rw [← hzl]; exact (List.getElem?_eq_some_iff.1 hj).1
          have m1 : off * z ≤ k * z := Nat.mul_le_mul_right z hc.1
          have m2 : (k + 1) * z ≤ (off + n) * z := Nat.mul_le_mul_right z (by omega)
          rw [Nat.add_mul, Nat.add_mul] at m2
          rw [if_pos ⟨by omega, by omega⟩] at hu
          have hq : k * z + j - off * z = (k - off) * z + j := by rw [Nat.sub_mul]; omega
          rw [hq, zeroCells_get (by omega) (by rw [hzs]; have : (k - off + 1) * z ≤ n * z := Nat.mul_le_mul_right z (by omega); rw [Nat.add_mul] at this; omega)] at hu
          rw [hzs, Nat.mul_comm, Nat.mul_add_mod, Nat.mod_eq_of_lt hjz] at hu
          exact keep (v3 j a1 u hj hu)
        · rw [if_neg hc] at hk
          have hjz : j < z := by
            have := (q1 e1 (List.mem_of_getElem? hk)).1
            rw [← this]; exact (List.getElem?_eq_some_iff.1 hj).1
          rw [if_neg] at hu
          · exact keep (q8 k j e1 a1 u hk hj (by simpa using hu))
          · intro ⟨x1, x2⟩
            rcases Nat.lt_or_ge k off with h | h
            · have : (k + 1) * z ≤ off * z := Nat.mul_le_mul_right z h
              rw [Nat.add_mul] at this; omega
            · have h' : off + n ≤ k := by omega
              have : (off + n) * z ≤ k * z := Nat.mul_le_mul_right z h'
              rw [Nat.add_mul] at this; omega
end
end Go.Ab

namespace Go.Ab
open Go
/-! To know less of a row. -/
section
variable {idm : FuncId → FuncId} {m : NMap} {w : World} {W : Nat → Prop} {H : Hp}
theorem ORep.cut {l : Loc} {es : List PV} {z : Nat} {fz : Bool} (h : ORep idm m w W l (.parr es z fz)) (k : Nat) : ORep idm m w W l (.parr (es.take k) z fz) := by
  obtain ⟨q0, q1, q2⟩ := h
  refine ⟨q0, fun e he => q1 e (List.mem_of_mem_take he), ?_⟩
  rcases q2 with ⟨a, b, c⟩ | ⟨b, c, e, g2, g3, g4, g5, g6, g7, g8, g9, g10⟩
  · exact .inl ⟨a, by rw [b]; simp, c⟩
  · refine .inr ⟨b, c, e, g2, g3, g4, by simp; omega, g6, g7, fun i j e a v he ha hv => g8 i j e a v ?_ ha hv, g9, g10⟩
    rw [List.getElem?_take] at he
    split at he
    · exact he
    · cases he
theorem Good.cut (s : SimH idm m w W H) {y : Nm} {es : List PV} {z : Nat} (v : AV) (hy : hget H y = some (.parr es z false)) (k : Nat) : Good idm m w W H { v, up := [(y, some (.parr (es.take k) z false))] } m w W where
  k := Keep.refl _ w
  sub := fun _ _ h => h
  sup := fun _ _ h _ => h
  lt := fun i h => s.lt i h
  mm := fun _ _ _ => rfl
  up := fun x ob ho => by
    simp only [hget] at ho
    split at ho
    · rename_i e
      subst e
      simp only [Option.some.injEq] at ho
      subst ho
      exact ⟨(s.h _ _ hy).cut k, fun n hn => by simp [AObj.names] at hn⟩
    · cases ho
  ups := fun x hx => by simp [upNs] at hx; subst hx; exact ⟨.parr (es.take k) z false, by simp [hget]⟩
  b1 := fun x ob b ho hb _ => by
    simp only [hget] at ho
    split at ho
    · rename_i e; subst e; exact ⟨_, hy, hb, fun _ => rfl⟩
    · cases ho
  b2 := fun x x2 b hx _ hge hb _ => by
    simp [upNs] at hx; subst hx
    have := (s.h _ _ hy).lt hb
    omega
  pgu := fun x h => by simp at h
  ext := fun _ => rfl
end
section
variable {P : Program} {idm : FuncId → FuncId} {N : Nat} {m : NMap} {w : World} {W : Nat → Prop} {st : St} {a : Act} {o : Oper}
theorem OpOK.cut (s : Sim idm N m w W st a) {y : Nm} {k z : Nat} {es : List PV} (h : OpOK P idm m w W st.H o a { v := .hsl y 0 k }) (hy : hget st.H y = some (.parr es z false)) :
    OpOK P idm m w W st.H o a { v := .hsl y 0 k, up := [(y, some (.parr (es.take k) z false))] } := by
  obtain ⟨v, w', m', W', hr, g, rep, nm⟩ := h
  have s1 := g.simH s.toSimH
  refine ⟨v, w', m', W', hr, ?_, rep, fun n hn => ?_⟩
  · have := Good.comp (u1 := []) s.toSimH g (Good.cut (H := [] ++ st.H) s1 (.hsl y 0 k) (by simpa using hy) k)
    simpa using this
  · simp [AV.names] at hn
    subst hn
    simp [hget, pgH]
end
end Go.Ab

/-! All operations. -/
namespace Go.Ab
open Go

section
variable {P : Program} {idm : FuncId → FuncId} {N : Nat} {m : NMap} {w : World} {W : Nat → Prop} {st : St} {a : Act} {o : Go.Oper} (s : Sim idm N m w W st a)
include s

set_option maxHeartbeats 4000000 in
theorem opD_ok {cf : CF} (cfok : CFOK P idm cf) {raw : FuncId → Bool} (r i : Nat) {so : SOp} (hl : opL P idm o.op so = true) {d : Dl} (hd : opD cf raw r i st.T st.H so = some d) : OpStep P idm m w W st.H o a d := by
  generalize ho : o.op = op at hl
  unfold opL at hl
  split at hl
  · simp only [opD, Option.some.injEq] at hd; subst hd
    exact (ok_mv s (.inl ho) hl).step
  · simp only [opD, Option.some.injEq] at hd; subst hd
    exact (ok_mv s (.inr ho) hl).step
  · simp only [opD, Option.ite_none_right_eq_some, Option.some.injEq] at hd
    obtain ⟨h1, rfl⟩ := hd
    exact (ok_nnew s r i ho h1).step
  · simp only [Bool.and_eq_true] at hl
    simp only [opD] at hd
    split at hd
    · rename_i b hb
      simp only [Option.some.injEq] at hd; subst hd
      exact (ok_pick s ho hl.1.1 hl.1.2 hl.2 hb).step
    · cases hd
  · split at hl
    · rename_i z hz
      simp only [opD, Option.ite_none_right_eq_some, Option.some.injEq] at hd
      obtain ⟨h1, rfl⟩ := hd
      exact (ok_alloc s r i ho hz hl h1).step
    · cases hl
  · simp only [opD, Option.ite_none_right_eq_some, Option.some.injEq] at hd
    obtain ⟨⟨h1, h2⟩, rfl⟩ := hd
    exact (ok_box s r i ho hl h1 h2).step
  · rename_i t ps zs qs
    rw [Bool.and_eq_true] at hl
    obtain ⟨hl1, hl2⟩ := hl
    split at hl1
    · rename_i z hz
      simp only [opD] at hd
      split at hd
      · rename_i hn
        split at hd
        · rename_i cs hf
          simp only [Option.some.injEq] at hd; subst hd
          refine (ok_build s r i ho hz hl1 ?_ hn hf).step
          split at hl2
          · rename_i fs hu
            simp only [Bool.and_eq_true, Array.all_eq_true', decide_eq_true_eq] at hl2
            exact .inl ⟨fs, hu, fun f hf => hl2.1 f hf, hl2.2⟩
          · rename_i n e hu
            simp only [Bool.and_eq_true] at hl2
            exact .inr ⟨n, e, hu, hl2.1, hl2.2⟩
          · cases hl2
        · cases hd
      · cases hd
    · cases hl1
  · rename_i t n ps own z qs
    simp only [Bool.and_eq_true] at hl
    obtain ⟨⟨hl1, hl2⟩, hl3⟩ := hl
    split at hl1
    · rename_i e hu
      simp only [Bool.and_eq_true, decide_eq_true_eq, beq_iff_eq] at hl1 hl2
      obtain ⟨⟨⟨q1, q2⟩, q3⟩, q4⟩ := hl1
      split at q1
      · rename_i v hz
        simp only [beq_iff_eq] at q1
        simp only [opD] at hd
        split at hd
        · rename_i es hes
          obtain ⟨g1, g2⟩ := ok_bslice s r i (own := own) ho hu hz q1 q2 q3 q4 hl2 hl3 hes
          split at hd
          · simp only [Option.ite_none_right_eq_some, Option.some.injEq] at hd
            obtain ⟨h1, rfl⟩ := hd
            exact (g2 h1).step
          · simp only [Option.some.injEq] at hd; subst hd
            exact g1.step
        · simp only [Option.ite_none_right_eq_some, Option.some.injEq] at hd
          obtain ⟨⟨rfl, h2, h3⟩, rfl⟩ := hd
          exact (ok_barr s r i (own := own) ho hu hz q1 q2 q4 hl2 hl3 h3 h2).step
      · cases q1
    · cases hl1
  · simp only [Bool.and_eq_true, beq_iff_eq] at hl
    simp only [opD] at hd
    split at hd
    · rename_i v hv
      simp only [Option.some.injEq] at hd; subst hd
      exact (ok_load s ho hl.1.1.1 hl.1.1.2 hl.2 hv).step
    · cases hd
  · simp only [Bool.and_eq_true, beq_iff_eq] at hl
    simp only [opD, storeD] at hd
    split at hd
    · rename_i x off hx
      split at hd
      · rename_i cs hcs
        simp only [Option.ite_none_right_eq_some, Option.some.injEq] at hd
        obtain ⟨⟨h1, h2, h3⟩, rfl⟩ := hd
        exact (ok_store_box s ho hl.1.1 hl.1.2 hl.2 hx hcs h1 h2 h3).step
      · cases hd
    · rename_i x ii off hx
      split at hd
      · rename_i es z vs hes hvs
        split at hd
        · rename_i el hel
          simp only [Option.ite_none_right_eq_some, Option.some.injEq] at hd
          obtain ⟨⟨h1, h2, h3, h4⟩, rfl⟩ := hd
          exact (ok_store_row s ho hl.1.1 hl.1.2 hl.2 hx hes hvs hel h1 h2 h3 h4).step
        · cases hd
      · cases hd
    · cases hd
  · simp only [opD, Option.ite_none_right_eq_some, Option.some.injEq] at hd
    obtain ⟨h1, rfl⟩ := hd
    exact (ok_nilck s ho hl h1).step
  · simp only [Bool.and_eq_true, beq_iff_eq] at hl
    obtain ⟨⟨⟨rfl, h2⟩, h3⟩, h4⟩ := hl
    simp only [opD] at hd
    split at hd
    · rename_i c1 c2 e1 e2
      split at hd
      · rename_i v hv
        simp only [Option.some.injEq] at hd; subst hd
        exact (ok_bin s ho h2 h3 h4 e1 e2 hv).step
      · cases hd
    · cases hd
  · simp only [Bool.and_eq_true] at hl
    obtain ⟨⟨⟨h1, h2⟩, h3⟩, h4⟩ := hl
    simp only [opD] at hd
    split at hd
    · rename_i c1 c2 e1 e2
      simp only [Option.some.injEq] at hd; subst hd
      refine (ok_bbin s ho ?_ ?_ h3 h4 e1 e2).step
      · split at h1
        · exact .inl ⟨rfl, by simpa using h1⟩
        · exact .inr ⟨rfl, h1⟩
        · cases h1
      · split at h2
        · assumption
        · cases h2
    · cases hd
  · simp only [Bool.and_eq_true, beq_iff_eq] at hl
    obtain ⟨⟨⟨h1, h2⟩, h3⟩, h4⟩ := hl
    subst h1
    split at h2
    · rename_i e hu
      split at h3
      · exact (ok_isnil s ho hu h4 hd).step
      · cases h3
    · cases h2
  · simp only [Bool.and_eq_true, beq_iff_eq, Bool.not_eq_true'] at hl
    obtain ⟨⟨⟨⟨⟨h1, h2⟩, h3⟩, h4⟩, h5⟩, h6⟩ := hl
    simp only [opD] at hd
    split at hd
    · rename_i c1 c2 e1 e2
      split at hd
      · rename_i b hb
        simp only [Option.some.injEq] at hd; subst hd
        refine (ok_eqs s ho ?_ h2 h3 ?_ h5 h6 e1 e2 hb).step
        · split at h1
          · exact .inl ⟨rfl, by simpa using h1⟩
          · exact .inr ⟨rfl, h1⟩
          · cases h1
        · split at h4
          · rename_i fs hu; exact ⟨fs, hu⟩
          · cases h4
      · cases hd
    · cases hd
  · simp only [Bool.and_eq_true, beq_iff_eq] at hl
    obtain ⟨rfl, h2⟩ := hl
    simp only [opD] at hd
    split at hd
    · rename_i c1 e1
      split at hd
      · rename_i v hv
        simp only [Option.some.injEq] at hd; subst hd
        exact (ok_un s ho h2 e1 hv).step
      · cases hd
    · cases hd
  · simp only [Bool.and_eq_true] at hl
    obtain ⟨h1, h2⟩ := hl
    simp only [opD] at hd
    split at hd
    · rename_i e1
      simp only [Option.some.injEq] at hd; subst hd
      split at h1
      · rename_i hs hdd
        have := eq_of_beq h1
        subst this
        exact (ok_conv s ho hs hdd h2 e1).step
      · cases h1
    · cases hd
  · simp only [Bool.and_eq_true, beq_iff_eq] at hl
    simp only [opD, Option.some.injEq] at hd; subst hd
    exact (ok_mkfn s ho hl.1.1 hl.1.2 hl.2).step
  · simp only [Bool.and_eq_true] at hl
    obtain ⟨⟨h1, h2⟩, h3⟩ := hl
    simp only [opD] at hd
    split at hd
    · rename_i n hn
      simp only [Option.ite_none_right_eq_some, Option.some.injEq] at hd
      obtain ⟨h4, rfl⟩ := hd
      split at h1
      · rename_i e hu
        split at h1
        · rename_i ti hti
          simp only [Bool.and_eq_true, decide_eq_true_eq] at h1
          obtain ⟨h5, h6⟩ := h1
          split at h6
          · rename_i v hv
            simp only [Bool.and_eq_true, beq_iff_eq] at h6
            exact (ok_mkslice s r i ho hu hti h5 hv h6.1 h6.2 h2 h3 hn h4).step
          · cases h6
        · cases h1
      · cases h1
    · cases hd
  · simp only [Bool.and_eq_true, Bool.or_eq_true] at hl
    obtain ⟨⟨⟨⟨⟨h1, h2⟩, h3⟩, h4⟩, h5⟩, h6⟩ := hl
    split at h1
    · rename_i e hu
      simp only [opD] at hd
      split at hd
      · cases hd
      · rename_i hns
        split at hd
        · rename_i v hv
          simp only [Option.some.injEq] at hd; subst hd
          refine (ok_slice s ho ?_ h2 h3 h4 h5 ?_ ?_ hv).step
          · rw [hu]; exact h1
          · intro hm
            rcases h6 with h6 | h6
            · exact absurd (Option.isNone_iff_eq_none.1 h6) hm
            · intro e; rw [e] at h6; cases h6
          · split
            · rename_i str hs; exact absurd hs (hns str)
            · exact ⟨e, hu⟩
        · cases hd
    · cases h1
  · simp only [Bool.and_eq_true] at hl
    obtain ⟨⟨h1, h2⟩, h3⟩ := hl
    split at h1
    · rename_i e hu
      simp only [opD] at hd
      split at hd
      · rename_i y k hv
        split at hd
        · rename_i es z' hes
          simp only [Option.some.injEq] at hd; subst hd
          refine (OpOK.cut s (ok_slice s (lo' := none) (hi' := some _) (mx' := none) ho ?_ h2 rfl h3 rfl (by simp) ?_ hv) hes).step
          · rw [hu]; exact h1
          · split
            · rename_i str hs
              rw [hs] at hv
              simp only [sliceA] at hv
              (repeat' split at hv) <;> simp at hv
            · exact ⟨e, hu⟩
        · cases hd
      · cases hd
    · cases h1
  · simp only [Bool.and_eq_true] at hl
    obtain ⟨⟨⟨h1, h2⟩, h3⟩, h4⟩ := hl
    split at h1
    · rename_i hu
      simp only [opD] at hd
      split at hd
      · rename_i str hs
        split at hd
        · rename_i v hv
          simp only [Option.some.injEq] at hd; subst hd
          refine (ok_slice s (z := 0) (mx' := none) ho ?_ h2 h3 h4 rfl (by simp) ?_ (by rw [hs]; exact hv)).step
          · rw [hu]
          · rw [hs]; exact hu
        · cases hd
      · cases hd
    · cases h1
  · rename_i t x f off y
    simp only [Bool.and_eq_true] at hl
    obtain ⟨h1, h2⟩ := hl
    split at h1
    · rename_i fs hu
      split at h1
      · rename_i g hg
        simp only [Bool.and_eq_true, beq_iff_eq] at h1
        obtain ⟨h3, h4⟩ := h1
        split at h4
        · rename_i n hn
          simp only [bne_iff_ne, ne_eq] at h4
          simp only [opD] at hd
          obtain ⟨v, hv, rfl⟩ : ∃ v, (match ev st.T y with
              | .ptr x o => some (AV.ptr x (o + off))
              | .eptr x i o => some (.eptr x i (o + off))
              | .rptr cs => some (.rptr (cs.drop off))
              | _ => none) = some v ∧ d = { v } := by
            generalize ev st.T y = u at hd
            cases u <;> simp only [Option.some.injEq, reduceCtorEq] at hd <;> subst hd <;> exact ⟨_, rfl, rfl⟩
          exact (ok_faddr s ho hu hg h3 hn h4 h2 hv).step
        · cases h4
      · cases h1
    · cases h1
  · simp only [Bool.and_eq_true] at hl
    obtain ⟨h1, h2⟩ := hl
    split at h1
    · rename_i fs hu
      split at h1
      · rename_i g hg
        simp only [Bool.and_eq_true, beq_iff_eq] at h1
        simp only [opD] at hd
        split at hd
        · rename_i v hv
          simp only [Option.some.injEq] at hd; subst hd
          exact (ok_fld s ho hu hg h1.1.1 h1.2 h1.1.2 h2 hv).step
        · cases hd
      · cases h1
    · cases h1
  · rename_i t x k n off y
    simp only [Bool.and_eq_true] at hl
    obtain ⟨h1, h2⟩ := hl
    split at h1
    · rename_i len e hu
      simp only [Bool.and_eq_true, decide_eq_true_eq] at h1
      obtain ⟨⟨h3, h4⟩, h5⟩ := h1
      split at h5
      · rename_i z hz
        simp only [opD] at hd
        obtain ⟨v, hv, rfl⟩ : ∃ v, (match ev st.T y with
            | .ptr x o => some (AV.ptr x (o + off))
            | .eptr x i o => some (.eptr x i (o + off))
            | .rptr cs => some (.rptr (cs.drop off))
            | _ => none) = some v ∧ d = { v } := by
          generalize ev st.T y = u at hd
          cases u <;> simp only [Option.some.injEq, reduceCtorEq] at hd <;> subst hd <;> exact ⟨_, rfl, rfl⟩
        exact (ok_aaddr s ho hu h3 h4 hz (eq_of_beq h5) h2 hv).step
      · cases h5
    · cases h1
  · simp only [Bool.and_eq_true] at hl
    obtain ⟨⟨h1, h2⟩, h3⟩ := hl
    split at h1
    · rename_i e hu
      simp only [opD] at hd
      split at hd
      · rename_i k n hn
        split at hd
        · rename_i h0
          split at hd
          · rename_i v hv
            simp only [Option.some.injEq] at hd; subst hd
            exact (ok_iaddr s ho hu (eq_of_beq h1) h2 h3 hn h0 hv).step
          · cases hd
        · cases hd
      · cases hd
    · cases h1
  · simp only [Bool.and_eq_true] at hl
    obtain ⟨⟨h1, h2⟩, h3⟩ := hl
    split at h1
    · rename_i hu
      simp only [opD] at hd
      split at hd
      · rename_i str k n hs hn
        split at hd
        · rename_i h0
          split at hd
          · rename_i v hv
            simp only [Option.some.injEq] at hd; subst hd
            exact (ok_sidx s ho hu h2 h3 hs hn h0 hv).step
          · cases hd
        · cases hd
      · cases hd
    · cases h1
  · simp only [Bool.and_eq_true] at hl
    obtain ⟨⟨h1, h2⟩, h3⟩ := hl
    split at h1
    · rename_i n' e hu
      simp only [Bool.and_eq_true, beq_iff_eq] at h1
      obtain ⟨⟨rfl, h5⟩, h6⟩ := h1
      simp only [opD] at hd
      split at hd
      · rename_i k n hn
        split at hd
        · rename_i h0
          split at hd
          · rename_i v hv
            simp only [Option.some.injEq] at hd; subst hd
            exact (ok_aidx s ho hu h6 h5 h2 h3 hn h0.1 h0.2 hv).step
          · cases hd
        · cases hd
      · cases hd
    · cases h1
  · simp only [Bool.and_eq_true, beq_iff_eq] at hl
    obtain ⟨rfl, h2⟩ := hl
    simp only [opD] at hd
    split at hd
    · rename_i vs hs
      split at hd
      · rename_i v hv
        simp only [Option.some.injEq] at hd; subst hd
        exact (ok_ext s ho h2 hs hv).step
      · cases hd
    · cases hd
  · simp only [Bool.and_eq_true] at hl
    simp only [opD] at hd
    split at hd
    · rename_i f fa fb hf
      exact ok_call s cfok r i ho hl.1 hl.2 hf hd
    · cases hd
  · split at hl
    · rename_i x t hargs htys
      simp only [Bool.and_eq_true] at hl
      obtain ⟨h1, h2⟩ := hl
      split at h2
      · rename_i hu
        subst h2
        simp only [opD] at hd
        split at hd
        · rename_i str hs
          simp only [Option.some.injEq] at hd; subst hd
          exact (ok_len s hargs htys ho (.inl hu) h1 (n := str.size) (by rw [hs]) (by rw [hs]; exact hu)).step
        · cases hd
      · rename_i e hu
        simp only [Bool.not_eq_true'] at h2
        subst h2
        simp only [opD] at hd
        split at hd
        · rename_i z es hs
          simp only [Option.some.injEq] at hd; subst hd
          exact (ok_len s hargs htys ho (.inr ⟨e, hu⟩) h1 (n := es.length) (by rw [hs]) (by rw [hs]; exact ⟨e, hu⟩)).step
        · rename_i z hs
          simp only [Option.some.injEq] at hd; subst hd
          exact (ok_len s hargs htys ho (.inr ⟨e, hu⟩) h1 (n := 0) (by rw [hs]) (by rw [hs]; exact ⟨e, hu⟩)).step
        · rename_i x off n hs
          simp only [Option.some.injEq] at hd; subst hd
          exact (ok_len s hargs htys ho (.inr ⟨e, hu⟩) h1 (n := n) (by rw [hs]) (by rw [hs]; exact ⟨e, hu⟩)).step
        · cases hd
      · cases h2
    · cases hl
  · split at hl
    · rename_i x y t u hargs htys
      simp only [Bool.and_eq_true] at hl
      obtain ⟨⟨h1, h2⟩, h3⟩ := hl
      split at h3
      · rename_i e e' hu hu'
        split at h3
        · rename_i ti hti
          simp only [Bool.and_eq_true, beq_iff_eq, decide_eq_true_eq] at h3
          obtain ⟨⟨⟨q1, q2⟩, q3⟩, q4⟩ := h3
          split at q4
          · rename_i zv hzv
            simp only [Bool.and_eq_true, beq_iff_eq, Array.all_eq_true'] at q4
            simp only [opD] at hd
            split at hd
            · rename_i z' ys hel
              simp only [Option.ite_none_right_eq_some] at hd
              obtain ⟨rfl, hd⟩ := hd
              split at hd
              · rename_i z2 hx
                simp only [Option.ite_none_right_eq_some, Option.some.injEq] at hd
                obtain ⟨⟨g1, g2⟩, rfl⟩ := hd
                exact (ok_append_nils s r i hargs htys ho h1 h2 hu hu' hti hzv q1 q2 q3 q4.1 q4.2 hel hx g1 g2).step
              · rename_i n off len hx
                split at hd
                · rename_i es z2 hes
                  simp only [Option.ite_none_right_eq_some, Option.some.injEq] at hd
                  obtain ⟨⟨rfl, rfl, rfl, g1, g2, g3⟩, rfl⟩ := hd
                  exact (ok_append_hsl s hargs htys ho h1 h2 hu hu' hti hzv q1 q2 q3 q4.1 q4.2 hel hx hes g2 g1).step
                · cases hd
              · cases hd
            · cases hd
          · cases q4
        · cases h3
      · cases h3
    · cases hl
  · split at hl
    · rename_i x y hargs
      simp only [Bool.and_eq_true] at hl
      simp only [opD] at hd
      split at hd
      · rename_i e1 e2
        simp only [Option.ite_none_right_eq_some, Option.some.injEq] at hd
        obtain ⟨rfl, rfl⟩ := hd
        exact (ok_mx s hargs ho hl.1 hl.2 e1 e2).step
      · cases hd
    · cases hl
  · split at hl
    · rename_i x y hargs
      simp only [Bool.and_eq_true] at hl
      simp only [opD] at hd
      split at hd
      · rename_i e1 e2
        simp only [Option.ite_none_right_eq_some, Option.some.injEq] at hd
        obtain ⟨rfl, rfl⟩ := hd
        exact (ok_mn s hargs ho hl.1 hl.2 e1 e2).step
      · cases hd
    · cases hl
  · split at hl
    · rename_i x t hargs htys
      simp only [Bool.and_eq_true] at hl
      obtain ⟨h1, h2⟩ := hl
      split at h2
      · rename_i e hu
        split at h2
        · rename_i ti hti
          split at h2
          · rename_i zv hzv
            simp only [opD] at hd
            split at hd
            · rename_i y off n hx
              split at hd
              · rename_i es z hes
                simp only [Option.ite_none_right_eq_some, Option.some.injEq] at hd
                obtain ⟨⟨g1, g2, g3, g4⟩, rfl⟩ := hd
                obtain rfl := Array.toList_inj.1 (hargs.trans rfl : _ = (#[x] : Array _).toList)
                obtain rfl := Array.toList_inj.1 (htys.trans rfl : _ = (#[t] : Array _).toList)
                exact (ok_clear s ho hu hti hzv h2 h1 hx g1 hes g2 g3 g4).step
              · cases hd
            · cases hd
          · cases h2
        · cases h2
      · cases h2
    · cases hl
  · cases hl
end
end Go.Ab
