/- A part of the proof: an executor over plain data, shown sound for the model, and what it computes of the functions. -/
import Derived.Test.YtmnjnpgmenigiaaRep
set_option linter.all false
/-! One operation: what it needs so that the frame goes on. -/
set_option linter.unusedVariables false
set_option linter.unusedSimpArgs false
namespace Go.Ab
open Go

def upNs : Hp → List Nm
  | [] => []
  | (x, _) :: r => x :: upNs r

theorem hget_append (a b : Hp) (x : Nm) : hget (a ++ b) x = if x ∈ upNs a then hget a x else hget b x := by
  induction a with
  | nil => simp [upNs]
  | cons p r ih =>
    obtain ⟨y, o⟩ := p
    simp only [List.cons_append, hget, upNs, List.mem_cons]
    by_cases h : y = x
    · subst h; simp
    · simp only [h, if_false, ih]
      have : ¬ x = y := fun e => h e.symm
      simp [this]

theorem hget_notin {a : Hp} {x : Nm} (h : x ∉ upNs a) : hget a x = none := by
  induction a with
  | nil => rfl
  | cons p r ih =>
    obtain ⟨y, o⟩ := p
    simp only [upNs, List.mem_cons, not_or] at h
    simp only [hget]
    rw [if_neg (fun e => h.1 e.symm)]
    exact ih h.2

mutual
theorem AV.names_purge (x y : Nm) : ∀ v : AV, y ∈ (v.purge x).names → y ∈ v.names ∧ y ≠ x
  | .agg cs => by simp only [AV.purge, AV.names]; exact namesL_purge x y cs
  | .tup cs => by simp only [AV.purge, AV.names]; exact namesL_purge x y cs
  | .hsl z o l => by
    simp only [AV.purge]
    split
    · simp [AV.names]
    · rename_i h; simp only [AV.names, List.mem_singleton]; rintro rfl; exact ⟨rfl, h⟩
  | .ptr z o => by
    simp only [AV.purge]
    split
    · simp [AV.names]
    · rename_i h; simp only [AV.names, List.mem_singleton]; rintro rfl; exact ⟨rfl, h⟩
  | .eptr z i o => by
    simp only [AV.purge]
    split
    · simp [AV.names]
    · rename_i h; simp only [AV.names, List.mem_singleton]; rintro rfl; exact ⟨rfl, h⟩
  | .fn f a b => by
    simp only [AV.purge, AV.names, List.mem_append]
    rintro (h | h)
    · exact ⟨.inl (namesL_purge x y a h).1, (namesL_purge x y a h).2⟩
    · exact ⟨.inr (namesL_purge x y b h).1, (namesL_purge x y b h).2⟩
  | .undef => by simp [AV.purge, AV.names]
  | .ub => by simp [AV.purge, AV.names]
  | .p v => by simp [AV.purge, AV.names]
  | .nils z => by simp [AV.purge, AV.names]
  | .rptr cs => by simp [AV.purge, AV.names]
theorem namesL_purge (x y : Nm) : ∀ cs : List AV, y ∈ namesL (purgeL x cs) → y ∈ namesL cs ∧ y ≠ x
  | [] => by simp [purgeL, namesL]
  | v :: r => by
    simp only [purgeL, namesL, List.mem_append]
    rintro (h | h)
    · exact ⟨.inl (AV.names_purge x y v h).1, (AV.names_purge x y v h).2⟩
    · exact ⟨.inr (namesL_purge x y r h).1, (namesL_purge x y r h).2⟩
end

theorem purgeL_get (x : Nm) (cs : List AV) (i : Nat) : (purgeL x cs)[i]? = (cs[i]?).map (AV.purge x) := by
  induction cs generalizing i with
  | nil => simp [purgeL]
  | cons v r ih => cases i with
    | zero => simp [purgeL]
    | succ i => simp [purgeL, ih]
theorem purgeL_length (x : Nm) (cs : List AV) : (purgeL x cs).length = cs.length := by
  induction cs with
  | nil => rfl
  | cons v r ih => simp [purgeL, ih]
theorem flat_purge (x : Nm) {v : AV} (h : v.flat = true) : (v.purge x).flat = true := by
  cases v <;> simp only [AV.purge] <;> first | exact h | (split <;> first | rfl | exact h) | simp [AV.flat] at h ⊢
theorem purgeL_flat (x : Nm) {cs : List AV} (h : ∀ c ∈ cs, c.flat = true) : ∀ c ∈ purgeL x cs, c.flat = true := by
  intro c hc
  obtain ⟨i, hi⟩ := List.mem_iff_getElem?.1 hc
  rw [purgeL_get] at hi
  obtain ⟨v, hv, rfl⟩ := Option.map_eq_some_iff.1 hi
  exact flat_purge x (h v (List.mem_of_getElem? hv))

theorem Rep.purge {idm : FuncId → FuncId} {m : NMap} {w : World} {W : Nat → Prop} {c : AV} {v : Value} (h : Rep idm m w W c v) (x : Nm) : Rep idm m w W (c.purge x) v := by
  induction h with
  | undef v => exact .undef v
  | ub b => exact .ub b
  | p c v h => exact .p c v h
  | agg cs vs hl hf h1 h ih =>
    simp only [AV.purge]
    refine .agg _ vs (by rw [purgeL_length]; exact hl) (purgeL_flat x hf) h1 fun i c v hi hv => ?_
    rw [purgeL_get] at hi
    obtain ⟨c', hc', rfl⟩ := Option.map_eq_some_iff.1 hi
    exact ih i c' v hc' hv
  | tup cs vs hl h ih =>
    simp only [AV.purge]
    refine .tup _ vs (by rw [purgeL_length]; exact hl) fun i c v hi hv => ?_
    rw [purgeL_get] at hi
    obtain ⟨c', hc', rfl⟩ := Option.map_eq_some_iff.1 hi
    exact ih i c' v hc' hv
  | nils z a => exact .nils z a
  | hsl y off len a c h hc => simp only [AV.purge]; split <;> first | exact .undef _ | exact .hsl y off len a c h hc
  | ptr y off b hb => simp only [AV.purge]; split <;> first | exact .undef _ | exact .ptr y off b hb
  | eptr y i off b hb => simp only [AV.purge]; split <;> first | exact .undef _ | exact .eptr y i off b hb
  | rptr cs ad f hW hlt hf hc h => exact .rptr cs ad f hW hlt hf hc h
  | fn f a b va vb ha hb h h' ih ih' =>
    simp only [AV.purge]
    refine .fn f _ _ va vb (by rw [purgeL_length]; exact ha) (by rw [purgeL_length]; exact hb) (fun i c v hi hv => ?_) fun i c v hi hv => ?_
    · rw [purgeL_get] at hi
      obtain ⟨c', hc', rfl⟩ := Option.map_eq_some_iff.1 hi
      exact ih i c' v hc' hv
    · rw [purgeL_get] at hi
      obtain ⟨c', hc', rfl⟩ := Option.map_eq_some_iff.1 hi
      exact ih' i c' v hc' hv

theorem AObj.names_purge (x y : Nm) (o : AObj) : y ∈ (o.purge x).names → y ∈ o.names ∧ y ≠ x := by
  cases o with
  | box cs => exact namesL_purge x y cs
  | parr => simp [AObj.purge, AObj.names]
  | arr es => exact namesL_purge x y es
theorem AObj.frozen_purge (x : Nm) (o : AObj) : (o.purge x).frozen = o.frozen := by cases o <;> rfl

theorem ORep.purge {idm : FuncId → FuncId} {m : NMap} {w : World} {W : Nat → Prop} {l : Loc} {o : AObj} (h : ORep idm m w W l o) (x : Nm) : ORep idm m w W l (o.purge x) := by
  cases o with
  | box cs =>
    obtain ⟨b, c, e, h1, h2, h3, h4, h5, h6, h7⟩ := h
    refine ⟨b, c, e, h1, h2, by rw [purgeL_length]; exact h3, purgeL_flat x h4, h5, fun i a v ha hv => ?_, h7⟩
    rw [purgeL_get] at ha
    obtain ⟨a', ha', rfl⟩ := Option.map_eq_some_iff.1 ha
    exact (h6 i a' v ha' hv).purge x
  | parr => exact h
  | arr es =>
    obtain ⟨h0, b, c, e, h1, h2, h3, hc, h4, h5, h6, h7⟩ := h
    refine ⟨h0, b, c, e, h1, h2, by rw [purgeL_length]; exact h3, by rw [purgeL_length]; exact hc, purgeL_flat x h4, h5, fun i a v ha hv => ?_, h7⟩
    rw [purgeL_get] at ha
    obtain ⟨a', ha', rfl⟩ := Option.map_eq_some_iff.1 ha
    exact (h6 i a' v ha' hv).purge x

theorem tget_purgeT (x : Nm) (T : Tm) (i : Nat) : tget (purgeT x T) i = (tget T i).purge x := by
  induction T with
  | nil => rfl
  | cons p r ih => obtain ⟨j, v⟩ := p; simp only [purgeT, tget]; split <;> simp_all
theorem hget_purgeH (x : Nm) (H : Hp) (y : Nm) : hget (purgeH x H) y = (hget H y).map (AObj.purge x) := by
  induction H with
  | nil => rfl
  | cons p r ih => obtain ⟨z, o⟩ := p; simp only [purgeH, hget]; split <;> simp_all

/-- The temporaries and variables behind a purge. -/
def pgT (pg : Option Nm) (T : Tm) : Tm :=
  match pg with
  | some x => purgeT x T
  | none => T
def pgH (pg : Option Nm) (H : Hp) : Hp :=
  match pg with
  | some x => purgeH x H
  | none => H
theorem putD_eq (dst : Option Nat) (d : Dl) (T : Tm) (H : Hp) : putD dst d T H = { T := match dst with | some t => (t, d.v) :: pgT d.pg T | none => pgT d.pg T, H := d.up ++ pgH d.pg H } := rfl

theorem hget_pgH_some {pg : Option Nm} {H : Hp} {x : Nm} : (hget (pgH pg H) x).isSome = (hget H x).isSome := by
  cases pg with
  | none => rfl
  | some y => simp only [pgH, hget_purgeH]; cases hget H x <;> rfl
theorem hget_pgH {pg : Option Nm} {H : Hp} {x : Nm} {o : AObj} (h : hget (pgH pg H) x = some o) : ∃ o', hget H x = some o' ∧ o'.frozen = o.frozen ∧ (∀ y, y ∈ o.names → y ∈ o'.names ∧ pg ≠ some y) ∧
    ∀ {idm : FuncId → FuncId} {m : NMap} {w : World} {W : Nat → Prop} {l : Loc}, ORep idm m w W l o' → ORep idm m w W l o := by
  cases pg with
  | none => exact ⟨o, h, rfl, fun y hy => ⟨hy, by simp⟩, fun h => h⟩
  | some z =>
    simp only [pgH, hget_purgeH] at h
    obtain ⟨o', ho', rfl⟩ := Option.map_eq_some_iff.1 h
    exact ⟨o', ho', (AObj.frozen_purge z o').symm, fun y hy => ⟨(AObj.names_purge z y o' hy).1, fun e => (AObj.names_purge z y o' hy).2 (by injection e with e; exact e.symm)⟩, fun h => h.purge z⟩
theorem tget_pgT (pg : Option Nm) (T : Tm) (i : Nat) : (∀ y, y ∈ (tget (pgT pg T) i).names → y ∈ (tget T i).names ∧ pg ≠ some y) ∧
    ∀ {idm : FuncId → FuncId} {m : NMap} {w : World} {W : Nat → Prop} {v : Value}, Rep idm m w W (tget T i) v → Rep idm m w W (tget (pgT pg T) i) v := by
  cases pg with
  | none => exact ⟨fun y hy => ⟨hy, by simp⟩, fun h => h⟩
  | some z =>
    simp only [pgT, tget_purgeT]
    exact ⟨fun y hy => ⟨(AV.names_purge z y _ hy).1, fun e => (AV.names_purge z y _ hy).2 (by injection e with e; exact e.symm)⟩, fun h => h.purge z⟩

theorem isSome_app {up : Hp} {pg : Option Nm} {H : Hp} {y : Nm} (hu : ∀ x ∈ upNs up, ∃ o, hget up x = some o) (h : (hget H y).isSome = true) : (hget (up ++ pgH pg H) y).isSome = true := by
  rw [hget_append]
  split
  · rename_i hy; obtain ⟨o, ho⟩ := hu y hy; simp [ho]
  · rw [hget_pgH_some]; exact h

/-- The blocks of what is written anew. -/
def OwnU (m : NMap) (H : Hp) (up : Hp) (b : Nat) : Prop := ∃ x o, x ∈ upNs up ∧ hget H x = some o ∧ o.frozen = false ∧ (m x).base = some b

theorem Act.put_size (a : Act) (d : Option Nat) (v : Value) : (a.put d v).tmps.size = a.tmps.size := by cases d <;> simp [Act.put]
theorem Act.put_get (a : Act) (t : Nat) (v : Value) (i : Nat) (h : t < a.tmps.size) : (a.put (some t) v).tmps.getD i undef = if t = i then v else a.tmps.getD i undef := by
  simp only [Act.put, Array.getD_eq_getD_getElem?, Array.getElem?_setIfInBounds]
  by_cases e : t = i
  · subst e; simp [h]
  · simp [e]

/-- What an operation must bring. -/
structure Good (idm : FuncId → FuncId) (m : NMap) (w : World) (W : Nat → Prop) (H : Hp) (d : Dl) (m' : NMap) (w' : World) (W' : Nat → Prop) : Prop where
  k : Keep (OwnU m H d.up) w w'
  sub : ∀ i, i < w.heap.size → W' i → W i
  sup : ∀ i, i < w.heap.size → W i → ¬ OwnU m H d.up i → W' i
  lt : ∀ i, W' i → i < w'.heap.size
  mm : ∀ x, (hget H x).isSome = true → d.pg ≠ some x → m' x = m x
  up : ∀ x o, hget d.up x = some o → ORep idm m' w' W' (m' x) o ∧ ∀ y ∈ o.names, (hget (d.up ++ pgH d.pg H) y).isSome = true
  ups : ∀ x ∈ upNs d.up, ∃ o, hget d.up x = some o
  b1 : ∀ x o b, hget d.up x = some o → (m' x).base = some b → b < w.heap.size → ∃ o', hget H x = some o' ∧ (m x).base = some b ∧ (o.frozen = false → o'.frozen = false)
  b2 : ∀ x y b, x ∈ upNs d.up → y ∈ upNs d.up → w.heap.size ≤ b → (m' x).base = some b → (m' y).base = some b → x = y
  pgu : ∀ x, d.pg = some x → x ∈ upNs d.up
  ext : ∀ k, m' (.ext k) = m (.ext k)

section
variable {idm : FuncId → FuncId} {m : NMap} {w : World} {W : Nat → Prop} {H : Hp} {d : Dl} {m' : NMap} {w' : World} {W' : Nat → Prop}

theorem Good.hOW (s : SimH idm m w W H) : ∀ i, OwnU m H d.up i → W i := fun i ⟨x, o, _, h2, h3, h4⟩ => s.own_W ⟨x, o, h2, h3, h4⟩

theorem Good.old (g : Good idm m w W H d m' w' W') : ∀ x o, x ∉ upNs d.up → hget (pgH d.pg H) x = some o → m' x = m x ∧ ∃ o', hget H x = some o' ∧ o'.frozen = o.frozen := by
  intro x o hx ho
  obtain ⟨o', ho', h1, _, _⟩ := hget_pgH ho
  exact ⟨g.mm x (by rw [ho']; rfl) (fun e => hx (g.pgu x e)), o', ho', h1⟩

theorem Good.simH (g : Good idm m w W H d m' w' W') (s : SimH idm m w W H) : SimH idm m' w' W' (d.up ++ pgH d.pg H) := by
  have hOW := Good.hOW (d := d) s
  have hold := g.old
  have hH : ∀ x o, hget (d.up ++ pgH d.pg H) x = some o → ORep idm m' w' W' (m' x) o ∧ ∀ y ∈ o.names, (hget (d.up ++ pgH d.pg H) y).isSome = true := by
    intro x o ho
    rw [hget_append] at ho
    split at ho
    · exact g.up x o ho
    · rename_i hx
      obtain ⟨o', ho', h1, h2, h3⟩ := hget_pgH ho
      refine ⟨?_, fun y hy => isSome_app g.ups (s.ch x o' y ho' (h2 y hy).1)⟩
      have hmx := (hold x o hx ho).1
      rw [hmx]
      refine (h3 (s.h x o' ho')).keep g.k hOW g.sub (fun y hy => g.mm y (s.ch x o' y ho' (h2 y hy).1) (h2 y hy).2) (fun b hb => ?_)
      have hno : ¬ OwnU m H d.up b := by
        rintro ⟨y, oy, hy1, hy2, hy3, hy4⟩
        exact hx (s.sep x y o' oy b ho' hy2 hb hy4 ▸ hy1)
      exact ⟨hno, fun hWb => g.sup b (s.lt b hWb) hWb hno⟩
  refine { h := fun x o ho => (hH x o ho).1, sep := ?_, ch := fun y o x ho hx => (hH y o ho).2 x hx, lt := g.lt }
  intro x y o o' b hx hy hbx hby
  rw [hget_append] at hx hy
  by_cases hxu : x ∈ upNs d.up
  · rw [if_pos hxu] at hx
    by_cases hyu : y ∈ upNs d.up
    · rw [if_pos hyu] at hy
      rcases Nat.lt_or_ge b w.heap.size with hlt | hge
      · obtain ⟨p, hp, hpb, _⟩ := g.b1 x o b hx hbx hlt
        obtain ⟨q, hq, hqb, _⟩ := g.b1 y o' b hy hby hlt
        exact s.sep x y p q b hp hq hpb hqb
      · exact g.b2 x y b hxu hyu hge hbx hby
    · rw [if_neg hyu] at hy
      obtain ⟨hmy, q, hq, _⟩ := hold y o' hyu hy
      rw [hmy] at hby
      have hlt := (s.h y q hq).lt hby
      obtain ⟨p, hp, hpb, _⟩ := g.b1 x o b hx hbx hlt
      exact s.sep x y p q b hp hq hpb hby
  · rw [if_neg hxu] at hx
    obtain ⟨hmx, p, hp, _⟩ := hold x o hxu hx
    rw [hmx] at hbx
    by_cases hyu : y ∈ upNs d.up
    · rw [if_pos hyu] at hy
      have hlt := (s.h x p hp).lt hbx
      obtain ⟨q, hq, hqb, _⟩ := g.b1 y o' b hy hby hlt
      exact s.sep x y p q b hp hq hbx hqb
    · rw [if_neg hyu] at hy
      obtain ⟨hmy, q, hq, _⟩ := hold y o' hyu hy
      rw [hmy] at hby
      exact s.sep x y p q b hp hq hbx hby

theorem Good.tr (g : Good idm m w W H d m' w' W') : Tr (Own m H) w W w' W' (Own m' (d.up ++ pgH d.pg H)) := by
  have hold := g.old
  refine ⟨?_, g.sub, ?_, ?_⟩
  · exact ⟨g.k.os, g.k.tape, g.k.output, g.k.size, fun i hi hno => g.k.block i hi fun ⟨x, o, _, h2, h3, h4⟩ => hno ⟨x, o, h2, h3, h4⟩⟩
  · exact fun i hi hW hno => g.sup i hi hW fun ⟨x, o, _, h2, h3, h4⟩ => hno ⟨x, o, h2, h3, h4⟩
  · rintro i hi ⟨x, o, hx, hf, hb⟩
    rw [hget_append] at hx
    split at hx
    · obtain ⟨o', ho', hb', hf'⟩ := g.b1 x o i hx hb hi
      exact ⟨x, o', ho', hf' hf, hb'⟩
    · rename_i hxu
      obtain ⟨hmx, q, hq, hqf⟩ := hold x o hxu hx
      exact ⟨x, q, hq, by rw [hqf]; exact hf, by rw [← hmx]; exact hb⟩

/-- A value that no purge touches lives on. -/
theorem Good.rep (g : Good idm m w W H d m' w' W') (s : SimH idm m w W H) {c : AV} {v : Value} (h : Rep idm m w W c v) (hn : ∀ x ∈ c.names, (hget H x).isSome = true ∧ d.pg ≠ some x) : Rep idm m' w' W' c v :=
  h.keep g.k (Good.hOW s) g.sub fun x hx => g.mm x (hn x hx).1 (hn x hx).2

theorem Good.step (g : Good idm m w W H d m' w' W') {N : Nat} {T : Tm} {a : Act} (s : Sim idm N m w W ⟨T, H⟩ a) (dst : Option Nat) (hdst : ∀ t, dst = some t → t < N) (u : Value)
    (hv : Rep idm m' w' W' d.v u) (hn : ∀ y ∈ d.v.names, (hget (d.up ++ pgH d.pg H) y).isSome = true) :
    Sim idm N m' w' W' (putD dst d T H) (a.put dst u) ∧ Tr (Own m H) w W w' W' (Own m' (putD dst d T H).H) := by
  have hT : ∀ i, Rep idm m' w' W' (tget (pgT d.pg T) i) (a.tmps.getD i undef) ∧ ∀ y ∈ (tget (pgT d.pg T) i).names, (hget (d.up ++ pgH d.pg H) y).isSome = true := by
    intro i
    obtain ⟨h1, h2⟩ := tget_pgT d.pg T i
    exact ⟨g.rep s.toSimH (h2 (s.t i)) fun x hx => ⟨s.ct i x (h1 x hx).1, (h1 x hx).2⟩, fun y hy => isSome_app g.ups (s.ct i y (h1 y hy).1)⟩
  rw [putD_eq]
  refine ⟨{ toSimH := g.simH s.toSimH, sz := by rw [Act.put_size]; exact s.sz, t := ?_, ct := ?_ }, g.tr⟩
  · intro i
    cases dst with
    | none => exact (hT i).1
    | some t =>
      rw [Act.put_get _ _ _ _ (by rw [s.sz]; exact hdst t rfl)]
      simp only [tget]
      split
      · exact hv
      · exact (hT i).1
  · intro i x hx
    cases dst with
    | none => exact (hT i).2 x hx
    | some t =>
      simp only [tget] at hx
      split at hx
      · exact hn x hx
      · exact (hT i).2 x hx
end

/-- One change behind another. -/
theorem Good.comp {idm : FuncId → FuncId} {m m1 m2 : NMap} {w w1 w2 : World} {W W1 W2 : Nat → Prop} {H u1 u2 : Hp} {v1 v2 : AV} (s : SimH idm m w W H) (g1 : Good idm m w W H { v := v1, up := u1 } m1 w1 W1)
    (g2 : Good idm m1 w1 W1 (u1 ++ H) { v := v2, up := u2 } m2 w2 W2) : Good idm m w W H { v := v2, up := u2 ++ u1 } m2 w2 W2 := by
  have s1 : SimH idm m1 w1 W1 (u1 ++ H) := g1.simH s
  have s2 : SimH idm m2 w2 W2 (u2 ++ (u1 ++ H)) := g2.simH s1
  have mem : ∀ {x : Nm} {a b : Hp}, x ∈ upNs (a ++ b) ↔ x ∈ upNs a ∨ x ∈ upNs b := by
    intro x a b
    induction a with
    | nil => simp [upNs]
    | cons p r ih => obtain ⟨y, o⟩ := p; simp [upNs, ih, or_assoc]
  have live1 : ∀ {x : Nm}, (hget H x).isSome = true → (hget (u1 ++ H) x).isSome = true := fun h => isSome_app (pg := none) g1.ups h
  have liveu : ∀ x ∈ upNs (u2 ++ u1), ∃ o, hget (u2 ++ u1) x = some o := by
    intro x hx
    rw [hget_append]
    split
    · rename_i h; exact g2.ups x h
    · rename_i h
      rcases mem.1 hx with h' | h'
      · exact absurd h' h
      · exact g1.ups x h'
  have big : ∀ {x : Nm} {o : AObj}, hget (u2 ++ u1) x = some o → hget (u2 ++ (u1 ++ H)) x = some o := by
    intro x o ho
    rw [hget_append] at ho ⊢
    split
    · rename_i h; rw [if_pos h] at ho; exact ho
    · rename_i h
      rw [if_neg h] at ho
      rw [hget_append]
      have : x ∈ upNs u1 := by
        rcases Classical.em (x ∈ upNs u1) with h' | h'
        · exact h'
        · rw [hget_notin h'] at ho; cases ho
      rw [if_pos this]
      exact ho
  have own : ∀ i, i < w.heap.size → OwnU m1 (u1 ++ H) u2 i → OwnU m H (u2 ++ u1) i := by
    rintro i hi ⟨x, o, hx, ho, hf, hb⟩
    rw [hget_append] at ho
    split at ho
    · obtain ⟨o', h1, h2, h3⟩ := g1.b1 x o i ho hb hi
      exact ⟨x, o', mem.2 (.inl hx), h1, h3 hf, h2⟩
    · exact ⟨x, o, mem.2 (.inl hx), ho, hf, by rw [← g1.mm x (by rw [ho]; rfl) (by simp)]; exact hb⟩
  have own1 : ∀ i, OwnU m H u1 i → OwnU m H (u2 ++ u1) i := fun i ⟨x, o, h1, h2⟩ => ⟨x, o, mem.2 (.inr h1), h2⟩
  refine { k := ?_, sub := fun i hi h => g1.sub i hi (g2.sub i (Nat.lt_of_lt_of_le hi g1.k.size) h), sup := ?_, lt := g2.lt, mm := ?_, up := ?_, ups := liveu, b1 := ?_, b2 := ?_, pgu := fun x h => by simp at h, ext := fun k => (g2.ext k).trans (g1.ext k) }
  · exact Keep.trans (O := OwnU m H (u2 ++ u1)) ⟨g1.k.os, g1.k.tape, g1.k.output, g1.k.size, fun i hi h => g1.k.block i hi fun h' => h (own1 i h')⟩ g2.k own
  · exact fun i hi hW hn => g2.sup i (Nat.lt_of_lt_of_le hi g1.k.size) (g1.sup i hi hW fun h => hn (own1 i h)) fun h => hn (own i hi h)
  · intro x hx _
    rw [g2.mm x (live1 hx) (by simp), g1.mm x hx (by simp)]
  · intro x o ho
    have hb := big ho
    exact ⟨s2.h x o hb, fun y hy => by have := s2.ch x o y hb hy; simpa [pgH, List.append_assoc] using this⟩
  · intro x o b ho hb hlt
    rw [hget_append] at ho
    split at ho
    · obtain ⟨o', h1, h2, h3⟩ := g2.b1 x o b ho hb (Nat.lt_of_lt_of_le hlt g1.k.size)
      rw [hget_append] at h1
      split at h1
      · obtain ⟨o'', h4, h5, h6⟩ := g1.b1 x o' b h1 h2 hlt
        exact ⟨o'', h4, h5, fun hf => h6 (h3 hf)⟩
      · exact ⟨o', h1, by rw [← g1.mm x (by rw [h1]; rfl) (by simp)]; exact h2, h3⟩
    · rename_i hx2
      have hx1 : x ∈ upNs u1 := by
        rcases Classical.em (x ∈ upNs u1) with h' | h'
        · exact h'
        · rw [hget_notin h'] at ho; cases ho
      have : m2 x = m1 x := g2.mm x (by rw [hget_append, if_pos hx1, ho]; rfl) (by simp)
      rw [this] at hb
      exact g1.b1 x o b ho hb hlt
  · intro x y b hx hy hge hbx hby
    obtain ⟨o, ho⟩ := liveu x hx
    obtain ⟨o', ho'⟩ := liveu y hy
    exact s2.sep x y o o' b (big ho) (big ho') hbx hby

end Go.Ab
