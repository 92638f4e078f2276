/- A part of the proof: an executor over plain data, shown sound for the model, and what it computes of the functions. -/
import Derived.Test.YtmnjnpgmenigiaaB7b54d77bb2
import Derived.Orders
set_option linter.all false
/-! Any order will do: runs of operations. -/
set_option linter.unusedVariables false
set_option linter.unusedSimpArgs false
set_option linter.unusedSectionVars false
namespace Go.Ab
open Go

def apartS (a b : SOper) : Bool :=
  (match a.dst with
   | some d => !(readsT b).contains d && b.dst != some d
   | none => true) &&
  (match b.dst with
   | some d => !(readsT a).contains d
   | none => true)

theorem apartS_spec {a b : SOper} (h : apartS a b = true) : (∀ d, a.dst = some d → d ∉ readsT b) ∧ (∀ d, a.dst = some d → b.dst ≠ some d) ∧ ∀ d, b.dst = some d → d ∉ readsT a := by
  refine ⟨fun d hd => ?_, fun d hd => ?_, fun d hd => ?_⟩ <;> simp [apartS, hd] at h
  · exact h.1.1
  · exact h.1.2
  · exact h.2

theorem upNames_eq : ∀ H : Hp, upNames H = upNs H
  | [] => rfl
  | (x, _) :: r => by simp [upNames, upNs, upNames_eq r]

structure Eqv (a b : St) : Prop where
  t : ∀ i, tget a.T i = tget b.T i
  h : ∀ x, hget a.H x = hget b.H x
theorem Eqv.refl (a : St) : Eqv a a := ⟨fun _ => rfl, fun _ => rfl⟩
theorem Eqv.symm {a b : St} (h : Eqv a b) : Eqv b a := ⟨fun i => (h.t i).symm, fun x => (h.h x).symm⟩
theorem Eqv.trans {a b c : St} (h : Eqv a b) (g : Eqv b c) : Eqv a c := ⟨fun i => (h.t i).trans (g.t i), fun x => (h.h x).trans (g.h x)⟩

theorem ev_tget {T T' : Tm} {x : Opd} (h : ∀ t ∈ opdT x, tget T' t = tget T t) : ev T' x = ev T x := by
  cases x <;> first | rfl | exact h _ (by simp [opdT])

section
variable {cf : CF} {raw : FuncId → Bool} {r : Nat}

theorem callEnd_pg {H : Hp} {i : Nat} {ns : List Nm} {ups : Hp} {x : Option CR} {d : Dl} (h : callEnd H r i ns ups x = some d) : d.pg = none := by
  obtain ⟨c, _, _, _, av, outs, news, _, _, _, rfl⟩ := callEnd_inv h; rfl

theorem callD_pg {H : Hp} {i : Nat} {b : Bool} {f : FuncId} {args : List AV} {d : Dl} (h : callD cf b H r i f args = some d) : d.pg = none := by
  have hN : ∀ {args : List AV} {ups : Hp}, callNs cf H r i f args ups = some d → d.pg = none := by
    intro args ups h
    unfold callNs at h
    split at h
    · cases h
    · split at h
      · split at h
        · exact callEnd_pg h
        · cases h
      · cases h
  unfold callD at h
  split at h
  · exact callEnd_pg h
  · split at h
    · exact hN h
    · split at h
      · cases h
      · simp only at h
        split at h
        · cases h
        · split at h
          · cases h
          · exact hN h

theorem footV_loc {o : SOper} {T T' : Tm} (hT : ∀ t ∈ readsT o, tget T' t = tget T t) : footV T' o = footV T o := List.map_congr_left hT
theorem footO_loc {ns : List Nm} {H H' : Hp} (h : ∀ x ∈ ns, hget H' x = hget H x) : footO H' ns = footO H ns := List.map_congr_left h
theorem outX_loc {i : Nat} {o : SOper} {st st' : St} {d : Dl} {f : Foot} (h : outX cf raw r i o st = some (d, f)) (hT : ∀ t ∈ readsT o, tget st'.T t = tget st.T t) (hH : ∀ x ∈ f.ns, hget st'.H x = hget st.H x)
    (hf : pureS o.op = false → ∀ j, hget st.H (.loc r i j) = none → hget st'.H (.loc r i j) = none) : outX cf raw r i o st' = some (d, f) := by
  have hg : wantedG st'.T o.guard = wantedG st.T o.guard := by
    cases hg : o.guard with
    | none => rfl
    | some p => obtain ⟨t, b⟩ := p; simp only [wantedG]; rw [hT t (by simp [readsT, guardT, hg])]
  have he : ∀ x ∈ opds o.op, ev st'.T x = ev st.T x := fun x hx => ev_tget fun t ht => hT t (List.mem_append_left _ (List.mem_flatMap.2 ⟨x, hx, ht⟩))
  have hv := footV_loc hT
  unfold outX at h ⊢
  rw [hg]
  cases hw : wantedG st.T o.guard with
  | none => simp [hw] at h
  | some b =>
    cases b with
    | false => simp only [hw, hv] at h ⊢; exact h
    | true =>
      simp only [hw] at h ⊢
      cases hd : opD cf raw r i st.T st.H o.op with
      | none => simp [hd, obind_none] at h
      | some d' =>
        simp only [hd, obind_some, Option.some.injEq, Prod.mk.injEq] at h
        obtain ⟨rfl, rfl⟩ := h
        obtain ⟨h1, h2⟩ := opD_locT (H := st'.H) (cf := cf) (raw := raw) (r := r) (i := i) he
        have ho := footO_loc hH
        cases hp : pureS o.op with
        | true =>
          obtain ⟨h3, h4⟩ := opD_pure (H := st.H) (H' := st'.H) (cf := cf) (raw := raw) (r := r) (i := i) (T := st.T) hp
          rw [h1, h2, h3, h4, hd, hv, ho]
          rfl
        | false =>
          obtain ⟨h3, h4⟩ := opD_locH (H' := st'.H) hH (hf hp) hd
          rw [h1, h2, h3, h4, hv, ho]
          rfl
theorem outX_foot {i : Nat} {o : SOper} {st : St} {d : Dl} {f : Foot} (h : outX cf raw r i o st = some (d, f)) : f.vs = footV st.T o ∧ f.os = footO st.H f.ns := by
  unfold outX at h
  split at h
  · cases hd : opD cf raw r i st.T st.H o.op with
    | none => simp [hd, obind_none] at h
    | some d' =>
      simp only [hd, obind_some, Option.some.injEq, Prod.mk.injEq] at h
      obtain ⟨_, rfl⟩ := h
      exact ⟨rfl, rfl⟩
  · simp only [Option.some.injEq, Prod.mk.injEq] at h
    obtain ⟨_, rfl⟩ := h
    exact ⟨rfl, rfl⟩
  · cases h
/-- Whoever moves a slice writes it. -/
theorem outX_pg {i : Nat} {o : SOper} {st : St} {d : Dl} {f : Foot} {x : Nm} (h : outX cf raw r i o st = some (d, f)) (hp : d.pg = some x) : x ∈ upNs d.up := by
  have hc : ∀ {H : Hp} {b : Bool} {f : FuncId} {args : List AV} {d : Dl}, callD cf b H r i f args = some d → d.pg = none := fun h => callD_pg h
  unfold outX at h
  split at h
  · cases hd : opD cf raw r i st.T st.H o.op with
    | none => simp [hd, obind_none] at h
    | some d' =>
      simp only [hd, obind_some, Option.some.injEq, Prod.mk.injEq] at h
      obtain ⟨rfl, _⟩ := h
      generalize o.op = op at hd
      cases op
      case call => simp only [opD] at hd; split at hd <;> first | (rw [hc hd] at hp; cases hp) | cases hd
      case len s x => cases s <;> simp only [opD] at hd <;> (split at hd <;> first | (simp only [Option.some.injEq] at hd; subst hd; cases hp) | cases hd)
      case append z y ys =>
        simp only [opD] at hd
        (repeat' split at hd) <;> first | (simp only [Option.some.injEq] at hd; subst hd; simp only [Option.some.injEq] at hp; subst hp; simp [upNs]) | (simp only [Option.some.injEq] at hd; subst hd; cases hp) | cases hd
      all_goals (simp only [opD, storeD] at hd; (repeat' split at hd) <;> first | (simp only [Option.some.injEq] at hd; subst hd; cases hp) | cases hd)
  · simp only [Option.some.injEq, Prod.mk.injEq] at h; obtain ⟨rfl, _⟩ := h; cases hp
  · cases h
mutual
theorem AV.purge_whole (x : Nm) : ∀ v : AV, (v.purge x).whole = true → v.purge x = v
  | .undef, h => rfl
  | .ub, h => rfl
  | .p _, h => rfl
  | .agg cs, h => by simp only [AV.purge, AV.whole] at h ⊢; rw [purgeL_whole x cs h]
  | .tup cs, h => by simp only [AV.purge, AV.whole] at h ⊢; rw [purgeL_whole x cs h]
  | .nils _, h => rfl
  | .hsl y o l, h => by simp only [AV.purge] at h ⊢; split <;> simp_all [AV.whole]
  | .ptr y o, h => by simp only [AV.purge] at h ⊢; split <;> simp_all [AV.whole]
  | .eptr y i o, h => by simp only [AV.purge] at h ⊢; split <;> simp_all [AV.whole]
  | .rptr _, h => rfl
  | .fn g a b, h => by simp only [AV.purge, AV.whole, Bool.and_eq_true] at h ⊢; rw [purgeL_whole x a h.1, purgeL_whole x b h.2]
theorem purgeL_whole (x : Nm) : ∀ cs : List AV, wholeL (purgeL x cs) = true → purgeL x cs = cs
  | [], h => rfl
  | v :: r, h => by simp only [purgeL, wholeL, Bool.and_eq_true] at h ⊢; rw [AV.purge_whole x v h.1, purgeL_whole x r h.2]
end
mutual
theorem AV.purge_off (x : Nm) : ∀ v : AV, x ∉ v.names → v.purge x = v
  | .undef, h => rfl
  | .ub, h => rfl
  | .p _, h => rfl
  | .agg cs, h => by simp only [AV.purge]; rw [purgeL_off x cs h]
  | .tup cs, h => by simp only [AV.purge]; rw [purgeL_off x cs h]
  | .nils _, h => rfl
  | .hsl y o l, h => by simp only [AV.purge]; rw [if_neg]; rintro rfl; exact h (by simp [AV.names])
  | .ptr y o, h => by simp only [AV.purge]; rw [if_neg]; rintro rfl; exact h (by simp [AV.names])
  | .eptr y i o, h => by simp only [AV.purge]; rw [if_neg]; rintro rfl; exact h (by simp [AV.names])
  | .rptr _, h => rfl
  | .fn g a b, h => by
    simp only [AV.purge]
    rw [purgeL_off x a fun h' => h (by simp [AV.names, h']), purgeL_off x b fun h' => h (by simp [AV.names, h'])]
theorem purgeL_off (x : Nm) : ∀ cs : List AV, x ∉ namesL cs → purgeL x cs = cs
  | [], h => rfl
  | v :: r, h => by
    simp only [purgeL]
    rw [AV.purge_off x v fun h' => h (by simp [namesL, h']), purgeL_off x r fun h' => h (by simp [namesL, h'])]
end
theorem obj_whole (x : Nm) (o : Option AObj) (h : objWhole (o.map (AObj.purge x)) = true) : o.map (AObj.purge x) = o := by
  cases o with
  | none => rfl
  | some o => cases o with
    | box cs => simp only [Option.map_some, AObj.purge, objWhole] at h ⊢; rw [purgeL_whole x cs h]
    | parr => rfl
    | arr cs => simp only [Option.map_some, AObj.purge, objWhole] at h ⊢; rw [purgeL_whole x cs h]

structure Meet (r i j : Nat) (qa qb : Bool) (da db : Dl) (fa fb : Foot) : Prop where
  pa : da.pg = none
  pb : db.pg = none
  ab : ∀ x ∈ upNs da.up, x ∉ fb.ns ∧ x ∉ upNs db.up ∧ (qb = false → ∀ k, x ≠ .loc r j k)
  ba : ∀ x ∈ upNs db.up, x ∉ fa.ns ∧ (qa = false → ∀ k, x ≠ .loc r i k)

/-- The first moves slices; the second writes nothing, and meets nothing of them. -/
structure MeetP (r j : Nat) (da db : Dl) (fb : Foot) : Prop where
  pb : db.pg = none
  ub : upNs db.up = []
  ab : ∀ x ∈ upNs da.up, x ∉ fb.ns ∧ x ∉ db.v.names ∧ ∀ k, x ≠ .loc r j k
  vs : ∀ v ∈ fb.vs, v.whole = true
  os : ∀ o ∈ fb.os, objWhole o = true

theorem putD_none (dst : Option Nat) {d : Dl} (h : d.pg = none) (T : Tm) (H : Hp) : (putD dst d T H).H = d.up ++ H ∧ ∀ t, tget (putD dst d T H).T t = if dst = some t then d.v else tget T t := by
  rw [putD_eq]
  simp only [h, pgT, pgH]
  refine ⟨trivial, fun t => ?_⟩
  cases dst with
  | none => simp
  | some s => simp only [tget, Option.some.injEq]

theorem put_eqv {dst : Option Nat} {d : Dl} {a b : St} (h : Eqv a b) : Eqv (putD dst d a.T a.H) (putD dst d b.T b.H) := by
  have hH : ∀ x, hget (pgH d.pg a.H) x = hget (pgH d.pg b.H) x := fun x => by
    cases d.pg with
    | none => exact h.h x
    | some y => simp only [pgH, hget_purgeH, h.h x]
  have hT : ∀ t, tget (pgT d.pg a.T) t = tget (pgT d.pg b.T) t := fun t => by
    cases d.pg with
    | none => exact h.t t
    | some y => simp only [pgT, tget_purgeT, h.t t]
  rw [putD_eq, putD_eq]
  refine ⟨fun i => ?_, fun x => ?_⟩
  · cases dst with
    | none => exact hT i
    | some t => simp only [tget, hT]
  · simp only [hget_append, hH]

theorem swap {i j : Nat} {a b : SOper} {st : St} {da db : Dl} {fa fb : Foot} (hap : apartS a b = true) (hm : Meet r i j (pureS a.op) (pureS b.op) da db fa fb) (h1 : outX cf raw r i a st = some (da, fa))
    (h2 : outX cf raw r j b (putD a.dst da st.T st.H) = some (db, fb)) :
    outX cf raw r j b st = some (db, fb) ∧ outX cf raw r i a (putD b.dst db st.T st.H) = some (da, fa) ∧
      Eqv (putD b.dst db (putD a.dst da st.T st.H).T (putD a.dst da st.T st.H).H) (putD a.dst da (putD b.dst db st.T st.H).T (putD b.dst db st.T st.H).H) := by
  obtain ⟨s1, s2, s3⟩ := apartS_spec hap
  obtain ⟨a1, a2⟩ := putD_none a.dst hm.pa st.T st.H
  obtain ⟨b1, b2⟩ := putD_none b.dst hm.pb st.T st.H
  have hget_not : ∀ {u H : Hp} {x : Nm}, x ∉ upNs u → hget (u ++ H) x = hget H x := fun h => by rw [hget_append, if_neg h]
  refine ⟨outX_loc h2 (fun t ht => ?_) (fun x hx => ?_) (fun hq k hk => ?_), outX_loc h1 (fun t ht => ?_) (fun x hx => ?_) (fun hq k hk => ?_), ?_⟩
  · rw [a2, if_neg fun e => s1 t e ht]
  · rw [a1, hget_not fun h => (hm.ab x h).1 hx]
  · rw [a1, hget_not fun h => (hm.ab _ h).2.2 hq k rfl] at hk; exact hk
  · rw [b2, if_neg fun e => s3 t e ht]
  · rw [b1, hget_not fun h => (hm.ba x h).1 hx]
  · rw [b1, hget_not fun h => (hm.ba _ h).2 hq k rfl]; exact hk
  · obtain ⟨c1, c2⟩ := putD_none b.dst hm.pb (putD a.dst da st.T st.H).T (putD a.dst da st.T st.H).H
    obtain ⟨d1, d2⟩ := putD_none a.dst hm.pa (putD b.dst db st.T st.H).T (putD b.dst db st.T st.H).H
    refine ⟨fun t => ?_, fun x => ?_⟩
    · rw [c2, d2, a2, b2]
      by_cases hb : b.dst = some t
      · rw [if_pos hb, if_neg fun e => s2 t e hb, if_pos hb]
      · rw [if_neg hb, if_neg hb]
    · rw [c1, d1, a1, b1]
      simp only [hget_append]
      by_cases ha : x ∈ upNs da.up
      · rw [if_pos ha, if_neg (hm.ab x ha).2.1, if_pos ha]
      · simp only [ha, if_false]

theorem swapP {i j : Nat} {a b : SOper} {st : St} {da db : Dl} {fa fb : Foot} (hap : apartS a b = true) (hm : MeetP r j da db fb) (h1 : outX cf raw r i a st = some (da, fa))
    (h2 : outX cf raw r j b (putD a.dst da st.T st.H) = some (db, fb)) :
    outX cf raw r j b st = some (db, fb) ∧ outX cf raw r i a (putD b.dst db st.T st.H) = some (da, fa) ∧
      Eqv (putD b.dst db (putD a.dst da st.T st.H).T (putD a.dst da st.T st.H).H) (putD a.dst da (putD b.dst db st.T st.H).T (putD b.dst db st.T st.H).H) := by
  obtain ⟨s1, s2, s3⟩ := apartS_spec hap
  obtain ⟨b1, b2⟩ := putD_none b.dst hm.pb st.T st.H
  have hub : db.up = [] := by
    have := hm.ub
    cases hu : db.up with
    | nil => rfl
    | cons p q => rw [hu] at this; simp [upNs] at this
  have hget_not : ∀ {u H : Hp} {x : Nm}, x ∉ upNs u → hget (u ++ H) x = hget H x := fun h => by rw [hget_append, if_neg h]
  obtain ⟨hvs, hos⟩ := outX_foot h2
  -- behind the first one
  have aT : ∀ (T : Tm) (H : Hp) (t : Nat), tget (putD a.dst da T H).T t = if a.dst = some t then da.v else tget (pgT da.pg T) t := fun T H t => by
    rw [putD_eq]
    cases a.dst with
    | none => simp
    | some s => simp only [tget, Option.some.injEq]
  have aH : (putD a.dst da st.T st.H).H = da.up ++ pgH da.pg st.H := rfl
  have pT : ∀ t, t ∈ readsT b → tget (pgT da.pg st.T) t = tget st.T t := fun t ht => by
    have hne : ¬ a.dst = some t := fun e => s1 t e ht
    cases hp : da.pg with
    | none => rfl
    | some x =>
      simp only [pgT, tget_purgeT]
      refine AV.purge_whole x _ ?_
      have := hm.vs (tget (putD a.dst da st.T st.H).T t) (by rw [hvs]; exact List.mem_map_of_mem ht)
      rw [aT, if_neg hne, hp] at this
      simpa only [pgT, tget_purgeT] using this
  refine ⟨outX_loc h2 (fun t ht => ?_) (fun x hx => ?_) (fun hq k hk => ?_), outX_loc h1 (fun t ht => ?_) (fun x hx => ?_) (fun hq k hk => ?_), ?_⟩
  · rw [aT, if_neg fun e => s1 t e ht, pT t ht]
  · have hnx : x ∉ upNs da.up := fun h => (hm.ab x h).1 hx
    rw [aH, hget_not hnx]
    cases hp : da.pg with
    | none => rfl
    | some y =>
      simp only [pgH, hget_purgeH]
      refine (obj_whole y _ ?_).symm
      have := hm.os (hget (putD a.dst da st.T st.H).H x) (by rw [hos]; exact List.mem_map_of_mem hx)
      rw [aH, hget_not hnx, hp] at this
      simpa only [pgH, hget_purgeH] using this
  · rw [aH, hget_not fun h => (hm.ab _ h).2.2 k rfl] at hk
    cases hp : da.pg with
    | none => rw [hp] at hk; exact hk
    | some y =>
      rw [hp] at hk
      simp only [pgH, hget_purgeH, Option.map_eq_none_iff] at hk
      exact hk
  · rw [b2, if_neg fun e => s3 t e ht]
  · rw [b1, hub]; rfl
  · rw [b1, hub]; exact hk
  · obtain ⟨c1, c2⟩ := putD_none b.dst hm.pb (putD a.dst da st.T st.H).T (putD a.dst da st.T st.H).H
    refine ⟨fun t => ?_, fun x => ?_⟩
    · rw [c2, aT]
      rw [aT]
      by_cases hb : b.dst = some t
      · rw [if_pos hb, if_neg fun e => s2 t e hb]
        cases hp : da.pg with
        | none => simp only [pgT]; rw [b2, if_pos hb]
        | some y =>
          simp only [pgT, tget_purgeT]
          rw [b2, if_pos hb]
          exact (AV.purge_off y _ (hm.ab y (outX_pg h1 hp)).2.1).symm
      · rw [if_neg hb]
        split
        · rfl
        · cases hp : da.pg with
          | none => simp only [pgT]; rw [b2, if_neg hb]
          | some y => simp only [pgT, tget_purgeT]; rw [b2, if_neg hb]
    · rw [c1, hub, aH, putD_eq]
      show hget (da.up ++ pgH da.pg st.H) x = hget (da.up ++ pgH da.pg (putD b.dst db st.T st.H).H) x
      rw [b1, hub]; rfl

/-! ### Runs -/
structure Rec where
  i : Nat
  d : Dl
  f : Foot
  q : Bool

inductive Run (cf : CF) (raw : FuncId → Bool) (r : Nat) : List (Nat × SOper) → St → List Rec → St → Prop
  | nil (st : St) : Run cf raw r [] st [] st
  | cons (i : Nat) (o : SOper) (rest : List (Nat × SOper)) (st : St) (d : Dl) (f : Foot) (log : List Rec) (fin : St) (h : outX cf raw r i o st = some (d, f))
      (h2 : Run cf raw r rest (putD o.dst d st.T st.H) log fin) : Run cf raw r ((i, o) :: rest) st (⟨i, d, f, pureS o.op⟩ :: log) fin

theorem Run.eqv {L : List (Nat × SOper)} {st st' fin : St} {log : List Rec} (h : Run cf raw r L st log fin) : Eqv st st' → ∃ fin', Run cf raw r L st' log fin' ∧ Eqv fin fin' := by
  induction h generalizing st' with
  | nil st => exact fun e => ⟨st', .nil st', e⟩
  | cons i o rest st d f log fin h h2 ih =>
    intro e
    obtain ⟨fin', g1, g2⟩ := ih (put_eqv (dst := o.dst) (d := d) e)
    exact ⟨fin', .cons i o rest st' d f log fin' (outX_loc h (fun t _ => (e.t t).symm) (fun x _ => (e.h x).symm) fun _ k hk => by rw [← e.h]; exact hk) g1, g2⟩

/-- Two of the operations may be done in either order. -/
def MeetR (r : Nat) (log : List Rec) (i j : Nat) : Prop := ∀ a ∈ log, ∀ b ∈ log, a.i = i → b.i = j → Meet r i j a.q b.q a.d b.d a.f b.f ∨ MeetP r j a.d b.d b.f

theorem Run.front {x : Nat} {ox : SOper} {post : List (Nat × SOper)} : ∀ {pre : List (Nat × SOper)} {st fin : St} {log : List Rec}, Run cf raw r (pre ++ (x, ox) :: post) st log fin →
    (∀ p ∈ pre, apartS p.2 ox = true ∧ MeetR r log p.1 x) → ∃ dx fx log' fin', outX cf raw r x ox st = some (dx, fx) ∧ Run cf raw r (pre ++ post) (putD ox.dst dx st.T st.H) log' fin' ∧ Eqv fin fin' ∧ (∀ q ∈ log', q ∈ log) ∧ (⟨x, dx, fx, pureS ox.op⟩ : Rec) ∈ log
  | [], st, fin, log, h, hp => by
    cases h with
    | cons _ _ _ _ d f log fin h h2 => exact ⟨d, f, log, fin, h, h2, Eqv.refl _, fun q hq => List.mem_cons_of_mem _ hq, List.mem_cons_self⟩
  | (i, o) :: pre, st, fin, log, h, hp => by
    cases h with
    | cons _ _ _ _ d f log fin h h2 =>
      obtain ⟨dx, fx, log', fin', g1, g2, g3, g4, g5⟩ := Run.front h2 fun p hpp => ⟨(hp p (List.mem_cons_of_mem _ hpp)).1, fun a ha b hb => (hp p (List.mem_cons_of_mem _ hpp)).2 a (List.mem_cons_of_mem _ ha) b (List.mem_cons_of_mem _ hb)⟩
      obtain ⟨hap, hm⟩ := hp (i, o) List.mem_cons_self
      obtain ⟨k1, k2, k3⟩ := (hm ⟨i, d, f, pureS o.op⟩ List.mem_cons_self ⟨x, dx, fx, pureS ox.op⟩ (List.mem_cons_of_mem _ g5) rfl rfl).elim (fun hm => swap hap hm h g1) fun hm => swapP hap hm h g1
      obtain ⟨fin2, m1, m2⟩ := g2.eqv k3
      exact ⟨dx, fx, ⟨i, d, f, pureS o.op⟩ :: log', fin2, k1, .cons i o _ _ d f log' fin2 k2 m1, g3.trans m2, fun q hq => by
        rcases List.mem_cons.1 hq with rfl | hq
        · exact List.mem_cons_self
        · exact List.mem_cons_of_mem _ (g4 q hq), List.mem_cons_of_mem _ g5⟩
end
end Go.Ab

/-! Regions. -/
set_option linter.unusedVariables false
set_option linter.unusedSimpArgs false
set_option linter.unusedSectionVars false
namespace Go.Ab
open Go

/-! ### What must agree -/
def guardL (ops : Array Go.Oper) (N : Nat) (g g' : Option (Nat × Bool)) : Bool :=
  match g, g' with
  | none, none => true
  | some (j, b), some (t, b') => b == b' && ((ops[j]?).bind (·.dst)) == some t && decide (t < N)
  | _, _ => false

def operL (P : Program) (idm : FuncId → FuncId) (N : Nat) (ops : Array Go.Oper) (o : Go.Oper) (s : SOper) : Bool :=
  o.dst == s.dst && (match o.dst with
    | some t => decide (t < N)
    | none => true) && guardL ops N o.guard s.guard && opL P idm o.op s.op

def opersL (P : Program) (idm : FuncId → FuncId) (N : Nat) (ops : Array Go.Oper) : List Go.Oper → List SOper → Bool
  | [], [] => true
  | o :: r, s :: q => operL P idm N ops o s && opersL P idm N ops r q
  | _, _ => false

theorem opersL_get {P : Program} {idm : FuncId → FuncId} {N : Nat} {ops : Array Go.Oper} : ∀ {l : List Go.Oper} {q : List SOper}, opersL P idm N ops l q = true → l.length = q.length ∧ ∀ (i : Nat) (o : Go.Oper) (s : SOper), l[i]? = some o → q[i]? = some s → operL P idm N ops o s = true
  | [], [], _ => ⟨rfl, fun i o s h => by simp at h⟩
  | o :: r, s :: q, h => by
    simp only [opersL, Bool.and_eq_true] at h
    obtain ⟨h1, h2⟩ := opersL_get h.2
    refine ⟨by simp [h1], fun i o' s' ho hs => ?_⟩
    cases i with
    | zero => simp at ho hs; subst ho; subst hs; exact h.1
    | succ i => simp at ho hs; exact h2 i o' s' ho hs
  | [], _ :: _, h => by simp [opersL] at h
  | _ :: _, [], h => by simp [opersL] at h

def bothM (e : Edge) : Bool :=
  match e.ground with
  | .textOnly _ => false
  | .gcOnly _ => false
  | _ => true
theorem bothM_binds {e : Edge} (h : bothM e = true) (md : Region.Mode) : Region.binds md e = true := by
  unfold bothM at h; unfold Region.binds; split at h <;> simp_all

inductive Bef (ops : Array Go.Oper) : Nat → Nat → Prop
  | one (j : Nat) (o : Go.Oper) (e : Edge) (h : ops[j]? = some o) (he : e ∈ o.after) (hb : bothM e = true) : Bef ops e.on j
  | two (i j : Nat) (o : Go.Oper) (e : Edge) (h : ops[j]? = some o) (he : e ∈ o.after) (hb : bothM e = true) (h2 : Bef ops i e.on) : Bef ops i j

def befOf (acc : List (List Nat)) (o : Go.Oper) : List Nat := o.after.toList.flatMap fun e => if bothM e then e.on :: acc.getD e.on [] else []
def befL : List Go.Oper → List (List Nat) → List (List Nat)
  | [], acc => acc
  | o :: r, acc => befL r (acc ++ [befOf acc o])

theorem befL_spec {ops : Array Go.Oper} : ∀ (l : List Go.Oper) (acc : List (List Nat)), (∀ k o, l[k]? = some o → ops[acc.length + k]? = some o) → (∀ j i, i ∈ acc.getD j [] → Bef ops i j) → ∀ j i, i ∈ (befL l acc).getD j [] → Bef ops i j
  | [], acc, _, h => h
  | o :: r, acc, hl, h => by
    refine befL_spec r (acc ++ [befOf acc o]) (fun k o' hk => ?_) fun j i hi => ?_
    · have := hl (k + 1) o' (by simpa using hk)
      simpa [Nat.add_assoc, Nat.add_comm 1 k] using this
    · by_cases hj : j < acc.length
      · have e : (acc ++ [befOf acc o]).getD j [] = acc.getD j [] := by simp [List.getD_eq_getElem?_getD, List.getElem?_append_left hj]
        rw [e] at hi
        exact h j i hi
      · by_cases hj2 : j = acc.length
        · subst hj2
          have e : (acc ++ [befOf acc o]).getD acc.length [] = befOf acc o := by simp [List.getD_eq_getElem?_getD]
          rw [e] at hi
          obtain ⟨ed, h1, h2⟩ := List.mem_flatMap.1 hi
          have ho : ops[acc.length]? = some o := by simpa using hl 0 o rfl
          split at h2
          · rename_i hb
            rcases List.mem_cons.1 h2 with rfl | h2
            · exact .one _ o ed ho (by simpa using h1) hb
            · exact .two _ _ o ed ho (by simpa using h1) hb (h _ _ h2)
          · cases h2
        · have e : (acc ++ [befOf acc o]).getD j [] = [] := by
            rw [List.getD_eq_getElem?_getD, List.getElem?_eq_none (by simp; omega)]; rfl
          rw [e] at hi; cases hi

def pairFree (pairs : List (Nat × Nat)) (a b : SOper) (i j : Nat) : Bool :=
  apartS a b && (pairs.contains (i, j) || (pureS a.op && noPgS b.op) || (pureS b.op && noPgS a.op))

/-- An order that holds all operations, each behind what it waits for. -/
def topo (md : Region.Mode) (ops : Array Go.Oper) : List Nat → List Nat → Bool
  | _, [] => true
  | seen, i :: r => (match ops[i]? with
    | some o => o.after.all fun e => !Region.binds md e || seen.contains e.on
    | none => false) && topo md ops (i :: seen) r
def topoOk (md : Region.Mode) (ops : Array Go.Oper) : Bool :=
  let l := Region.linearise md ops 0
  topo md ops [] l && (List.range ops.size).all fun j => l.contains j

theorem topo_ready {md : Region.Mode} {ops : Array Go.Oper} {listed : Array Bool} (hs : listed.size = ops.size) : ∀ (l seen : List Nat), topo md ops seen l = true → (∀ k ∈ seen, listed.getD k false = true) → (∃ j ∈ l, listed.getD j false = false) → Region.ready md ops listed ≠ []
  | [], seen, _, _, ⟨j, hj, _⟩ => by cases hj
  | i :: r, seen, ht, hseen, ⟨j, hj, hlj⟩ => by
    simp only [topo, Bool.and_eq_true] at ht
    cases hi : listed.getD i false with
    | true => exact topo_ready hs r (i :: seen) ht.2 (fun k hk => by rcases List.mem_cons.1 hk with rfl | hk <;> first | exact hi | exact hseen k hk) (by
        rcases List.mem_cons.1 hj with rfl | hj
        · rw [hi] at hlj; cases hlj
        · exact ⟨j, hj, hlj⟩)
    | false =>
      have h1 := ht.1
      split at h1
      · rename_i o ho
        have hlt := (Array.getElem?_eq_some_iff.1 ho).1
        have : i ∈ Region.ready md ops listed := mem_ready.2 ⟨by rw [← hi]; simp [Array.getD_eq_getD_getElem?, hs, hlt], o, ho, fun e he hb => by
          have := Array.all_eq_true_iff_forall_mem.1 h1 e he
          simp only [hb, Bool.not_true, Bool.false_or, List.contains_iff_mem] at this
          exact hseen _ this⟩
        intro hn
        rw [hn] at this; cases this
      · cases h1

def drawOk (ops : Array Go.Oper) (sops : List SOper) (pairs : List (Nat × Nat)) : Bool :=
  let b := befL ops.toList []
  ((List.range ops.size).all fun j => match ops[j]?, sops[j]? with
    | some o, some s => (List.range j).all fun i => (b.getD j []).contains i || match sops[i]? with
        | some s' => pairFree pairs s' s i j
        | none => false
    | _, _ => false) &&
  (((List.range ops.size).all fun j => match ops[j]? with
    | some o => o.after.all fun e => decide (e.on < j)
    | none => false) || (topoOk .text ops && topoOk .gc ops && topoOk .any ops))

theorem drawOk_spec {ops : Array Go.Oper} {sops : List SOper} {pairs : List (Nat × Nat)} (h : drawOk ops sops pairs = true) {j : Nat} {o : Go.Oper} {s : SOper} (ho : ops[j]? = some o) (hs : sops[j]? = some s) :
    ∀ i s', i < j → sops[i]? = some s' → Bef ops i j ∨ pairFree pairs s' s i j = true := by
  unfold drawOk at h
  rw [Bool.and_eq_true] at h
  have hj := (Array.getElem?_eq_some_iff.1 ho).1
  have h1 := List.all_eq_true.1 h.1 j (List.mem_range.2 hj)
  simp only [ho, hs] at h1
  intro i s' hi hs'
  have h2 := List.all_eq_true.1 h1 i (List.mem_range.2 hi)
  simp only [hs', Bool.or_eq_true] at h2
  rcases h2 with h2 | h2
  · exact .inl (befL_spec ops.toList [] (fun k o h => by simpa using h) (fun j i h => by simp at h) j i (by simpa using h2))
  · exact .inr h2

/-- Who is left finds somebody ready. -/
theorem drawOk_ready {ops : Array Go.Oper} {sops : List SOper} {pairs : List (Nat × Nat)} (h : drawOk ops sops pairs = true) (md : Region.Mode) {listed : Array Bool} (hs : listed.size = ops.size) (hj : ∃ j, j < ops.size ∧ listed.getD j false = false) :
    Region.ready md ops listed ≠ [] := by
  unfold drawOk at h
  simp only [Bool.and_eq_true, Bool.or_eq_true] at h
  obtain ⟨j, hjl, hj⟩ := hj
  have viaTopo : ∀ md, topoOk md ops = true → Region.ready md ops listed ≠ [] := by
    intro md ht
    simp only [topoOk, Bool.and_eq_true] at ht
    exact topo_ready hs _ [] ht.1 (fun k hk => by cases hk) ⟨j, by simpa using List.all_eq_true.1 ht.2 j (List.mem_range.2 hjl), hj⟩
  rcases h.2 with h2 | h2
  · refine topo_ready hs (List.range ops.size) [] ?_ (fun k hk => by cases hk) ⟨j, List.mem_range.2 hjl, hj⟩
    have gen : ∀ (n k : Nat) (seen : List Nat), k + n = ops.size → (∀ i, i < k → i ∈ seen) → topo md ops seen (List.range' k n) = true := by
      intro n
      induction n with
      | zero => exact fun _ _ _ _ => rfl
      | succ n ih =>
        intro k seen hk hseen
        rw [List.range'_succ]
        have hkl : k < ops.size := by omega
        have hok := Array.getElem?_eq_getElem hkl
        have h3 := List.all_eq_true.1 h2 k (List.mem_range.2 hkl)
        simp only [hok] at h3
        simp only [topo, hok, Bool.and_eq_true]
        refine ⟨Array.all_eq_true_iff_forall_mem.2 fun e he => ?_, ih (k + 1) (k :: seen) (by omega) fun i hi => ?_⟩
        · have := Array.all_eq_true_iff_forall_mem.1 h3 e he
          simp only [decide_eq_true_eq] at this
          simp [hseen _ this]
        · rcases Nat.lt_or_ge i k with h | h
          · exact List.mem_cons_of_mem _ (hseen i h)
          · have : i = k := by omega
            subst this; exact List.mem_cons_self
    rw [List.range_eq_range']
    exact gen ops.size 0 [] (by omega) fun i hi => by omega
  · cases md with
    | text => exact viaTopo _ h2.1.1
    | gc => exact viaTopo _ h2.1.2
    | any => exact viaTopo _ h2.2

/-! ### A frame -/
section
variable {P : Program} {idm : FuncId → FuncId} {N : Nat} {m0 : NMap} {w0 : World} {W0 : Nat → Prop} {H0 : Hp}

def FI (idm : FuncId → FuncId) (N : Nat) (m0 : NMap) (w0 : World) (W0 : Nat → Prop) (H0 : Hp) (st : St) (a : Act) (w : World) : Prop :=
  a.defers = [] ∧ ∃ m W, Sim idm N m w W st a ∧ Since m0 w0 W0 H0 m w W st.H

theorem FI.eqv {st st' : St} {a : Act} {w : World} (h : FI idm N m0 w0 W0 H0 st a w) (e : Eqv st st') : FI idm N m0 w0 W0 H0 st' a w := by
  obtain ⟨h0, m, W, s, si⟩ := h
  refine ⟨h0, m, W, { h := fun x o hx => s.h x o (by rw [e.h]; exact hx), sep := fun x y o o' b hx hy => s.sep x y o o' b (by rw [e.h]; exact hx) (by rw [e.h]; exact hy), ch := fun y o x hy hx => (e.h x) ▸ s.ch y o x (by rw [e.h]; exact hy) hx, lt := s.lt, sz := s.sz, t := fun i => (e.t i) ▸ s.t i, ct := fun i x hx => (e.h x) ▸ s.ct i x (by rw [e.t]; exact hx) }, ?_⟩
  exact si.less fun x o hx => by rw [e.h]; exact hx

theorem FI.drew {st : St} {a : Act} {w : World} (h : FI idm N m0 w0 W0 H0 st a w) : FI idm N m0 w0 W0 H0 st a { w with drawn := w.drawn + 1 } := by
  obtain ⟨h0, m, W, s, si⟩ := h
  have k : Keep (fun _ => False) w { w with drawn := w.drawn + 1 } := ⟨rfl, rfl, rfl, Nat.le_refl _, fun _ _ _ => rfl⟩
  have hk : ∀ {x : Nm} {o : AObj}, hget st.H x = some o → ORep idm m { w with drawn := w.drawn + 1 } W (m x) o := fun hx => (s.h _ _ hx).keep k (fun _ h => h.elim) (fun _ _ h => h) (fun _ _ => rfl) fun b hb => ⟨fun h => h, fun h => h⟩
  refine ⟨h0, m, W, { h := fun x o hx => hk hx, sep := s.sep, ch := s.ch, lt := s.lt, sz := s.sz, t := fun i => (s.t i).keep k (fun _ h => h.elim) (fun _ _ h => h) fun _ _ => rfl, ct := s.ct }, ?_⟩
  exact ⟨⟨⟨si.tr.os, si.tr.tape, si.tr.output, si.tr.size, si.tr.block⟩, si.tr.sub, si.tr.sup, si.tr.own⟩, si.born, si.ext⟩

/-- One operation. -/
theorem wpOp_step {cf : CF} (cfok : CFOK P idm cf) {raw : FuncId → Bool} {r i : Nat} {ops : Array Go.Oper} {o : Go.Oper} {so : SOper} (ho : ops[i]? = some o) (hl : operL P idm N ops o so = true) {st : St} {a : Act} {w : World}
    (hfi : FI idm N m0 w0 W0 H0 st a w) {d : Dl} {f : Foot} (h : outX cf raw r i so st = some (d, f)) {K : Act → World → Prop} {Q : Exit → Act → World → Prop}
    (hK : ∀ a' w', FI idm N m0 w0 W0 H0 (putD so.dst d st.T st.H) a' w' → K a' w') : wpOp P ops Q i K a w := by
  obtain ⟨h0, m, W, s, si⟩ := hfi
  simp only [operL, Bool.and_eq_true, beq_iff_eq] at hl
  obtain ⟨⟨⟨l1, l2⟩, l3⟩, l4⟩ := hl
  have hdst : ∀ t, so.dst = some t → t < N := fun t ht => by rw [l1, ht] at l2; simpa using l2
  have hdef : ∀ v, (a.put o.dst v).defers = [] := fun v => by cases o.dst <;> simp [Act.put, h0]
  have hwant : ∀ b, wantedG st.T so.guard = some b → Region.wanted o (yielded ops a.tmps) = b := by
    intro b hb
    unfold Region.wanted
    unfold guardL at l3
    split at l3
    · rename_i e1 e2
      rw [e2] at hb
      simp only [wantedG, Option.some.injEq] at hb
      rw [e1, ← hb]
    · rename_i j want t want' e1 e2
      simp only [Bool.and_eq_true, beq_iff_eq, decide_eq_true_eq] at l3
      obtain ⟨⟨rfl, h3⟩, h4⟩ := l3
      rw [e2] at hb
      rw [e1]
      simp only [wantedG] at hb
      have ht := s.t t
      have hlt : t < a.tmps.size := by rw [s.sz]; exact h4
      have hg : a.tmps[t]? = some (a.tmps.getD t undef) := by simp [hlt]
      simp only [yielded, h3, Option.bind_some, hg]
      split at hb
      · rename_i c hc
        rw [hc] at ht
        simp only [Option.some.injEq] at hb
        rw [ht.bool_inv]
        simpa using hb
      · rename_i hc
        simp only [Option.some.injEq] at hb
        subst hb
        rw [hc] at ht
        generalize a.tmps.getD t undef = u at ht
        cases ht with
        | tup _ vs hl hh =>
          have : vs = #[] := Array.eq_empty_of_size_eq_zero (by simpa using hl)
          subst this
          rfl
      · cases hb
    · cases l3
  unfold wpOp
  simp only [ho]
  unfold outX at h
  split at h
  · rename_i hw
    rw [hwant true hw]
    simp only [if_true]
    left
    cases hd : opD cf raw r i st.T st.H so.op with
    | none => simp [hd, obind_none] at h
    | some d' =>
      simp only [hd, obind_some, Option.some.injEq, Prod.mk.injEq] at h
      obtain ⟨rfl, _⟩ := h
      refine opD_ok s cfok r i l4 hd K Q fun v m' w' W' g1 g2 g3 => ?_
      obtain ⟨s', _⟩ := g1.step s so.dst hdst v g2 g3
      refine hK _ _ ⟨hdef v, m', W', by rw [l1]; exact s', si.trans ?_⟩
      rw [putD_eq]
      exact g1.since s.toSimH
  · rename_i hw
    rw [hwant false hw]
    simp only [Option.some.injEq, Prod.mk.injEq] at h
    obtain ⟨rfl, _⟩ := h
    simp only [Bool.false_eq_true, if_false]
    have g1 : Good idm m w W st.H { v := .tup [] } m w W := Good.id s.lt _
    obtain ⟨s', _⟩ := g1.step s so.dst hdst undef (.tup [] #[] rfl fun i c v h => by simp at h) (by simp [AV.names, namesL])
    refine hK _ _ ⟨hdef _, m, W, by rw [l1]; exact s', si.trans ?_⟩
    rw [putD_eq]
    exact g1.since s.toSimH
  · cases h

/-! ### Runs -/
def enumS : Nat → List SOper → List (Nat × SOper)
  | _, [] => []
  | i, o :: r => (i, o) :: enumS (i + 1) r

theorem mem_enumS : ∀ {l : List SOper} {k i : Nat} {s : SOper}, (i, s) ∈ enumS k l ↔ ∃ j, i = k + j ∧ l[j]? = some s
  | [], k, i, s => by simp [enumS]
  | o :: r, k, i, s => by
    simp only [enumS, List.mem_cons, Prod.mk.injEq]
    rw [mem_enumS]
    constructor
    · rintro (⟨rfl, rfl⟩ | ⟨j, rfl, h⟩)
      · exact ⟨0, rfl, rfl⟩
      · exact ⟨j + 1, by omega, by simpa using h⟩
    · rintro ⟨j, rfl, h⟩
      cases j with
      | zero => simp at h; exact .inl ⟨rfl, h.symm⟩
      | succ j => exact .inr ⟨j, by omega, by simpa using h⟩

theorem enumS_sorted : ∀ {l : List SOper} {k : Nat}, (enumS k l).Pairwise fun p q => p.1 < q.1
  | [], k => List.Pairwise.nil
  | o :: r, k => by
    simp only [enumS]
    refine List.pairwise_cons.2 ⟨fun p hp => ?_, enumS_sorted⟩
    obtain ⟨i, s⟩ := p
    obtain ⟨j, rfl, _⟩ := mem_enumS.1 hp
    show k < _
    omega

section
variable {cf : CF} {raw : FuncId → Bool} {r : Nat}

theorem operX_out {i : Nat} {o : SOper} {st st' : St} (h : operX cf raw r i o st = some st') : ∃ d f, outX cf raw r i o st = some (d, f) ∧ st' = putD o.dst d st.T st.H := by
  unfold operX at h
  unfold outX
  split at h
  · rename_i hw
    cases hd : opD cf raw r i st.T st.H o.op with
    | none => simp [hd, obind_none] at h
    | some d =>
      simp only [hd, obind_some, Option.some.injEq] at h
      exact ⟨d, ⟨fp raw st.T st.H o.op, footV st.T o, footO st.H (fp raw st.T st.H o.op)⟩, by simp only [hw, hd, obind_some], h.symm⟩
  · rename_i hw
    simp only [Option.some.injEq] at h
    exact ⟨{ v := .tup [] }, ⟨[], footV st.T o, []⟩, by simp only [hw], h.symm⟩
  · cases h

theorem opsX_run : ∀ {l : List SOper} {i : Nat} {st fin : St}, opsX cf raw r i l st = some fin → ∃ log, Run cf raw r (enumS i l) st log fin
  | [], i, st, fin, h => by simp only [opsX, Option.some.injEq] at h; subst h; exact ⟨[], .nil st⟩
  | o :: rest, i, st, fin, h => by
    simp only [opsX] at h
    cases ho : operX cf raw r i o st with
    | none => simp [ho, obind_none] at h
    | some st1 =>
      simp only [ho, obind_some] at h
      obtain ⟨d, f, h1, rfl⟩ := operX_out ho
      obtain ⟨log, h2⟩ := opsX_run h
      exact ⟨_, .cons i o _ st d f log fin h1 h2⟩

def entOf (q : Rec) : Ent := ⟨q.f, upNames q.d.up, q.d.pg.isNone, q.d.v⟩

theorem opsLX_run : ∀ {l : List SOper} {i : Nat} {st fin : St} {lg lg' : Log}, opsLX cf raw r i l st lg = some (fin, lg') → ∃ log, Run cf raw r (enumS i l) st log fin ∧ lg' = lg ++ log.map entOf
  | [], i, st, fin, lg, lg', h => by
    simp only [opsLX, Option.some.injEq, Prod.mk.injEq] at h
    obtain ⟨rfl, rfl⟩ := h
    exact ⟨[], .nil st, by simp⟩
  | o :: rest, i, st, fin, lg, lg', h => by
    simp only [opsLX] at h
    cases ho : outX cf raw r i o st with
    | none => simp [ho, obind_none] at h
    | some x =>
      obtain ⟨d, f⟩ := x
      simp only [ho, obind_some] at h
      obtain ⟨log, h2, h3⟩ := opsLX_run h
      exact ⟨⟨i, d, f, pureS o.op⟩ :: log, .cons i o _ st d f log fin ho h2, by rw [h3]; simp [entOf]⟩

theorem Run.pos : ∀ {l : List SOper} {k : Nat} {st fin : St} {log : List Rec}, Run cf raw r (enumS k l) st log fin → log.length = l.length ∧ ∀ (j : Nat) (q : Rec), log[j]? = some q → q.i = k + j
  | [], k, st, fin, log, h => by cases h; exact ⟨rfl, fun j q h => by simp at h⟩
  | o :: l, k, st, fin, log, h => by
    simp only [enumS] at h
    cases h with
    | cons _ _ _ _ d f log fin h h2 =>
      obtain ⟨h3, h4⟩ := Run.pos h2
      refine ⟨by simp [h3], fun j q hq => ?_⟩
      cases j with
      | zero => simp at hq; subst hq; rfl
      | succ j => simp at hq; have := h4 j q hq; omega

theorem Run.recs {L : List (Nat × SOper)} {st fin : St} {log : List Rec} (h : Run cf raw r L st log fin) : ∀ q ∈ log, ∃ o st', (q.i, o) ∈ L ∧ outX cf raw r q.i o st' = some (q.d, q.f) ∧ q.q = pureS o.op := by
  induction h with
  | nil st => exact fun q h => by cases h
  | cons i o rest st d f log fin h h2 ih =>
    intro q hq
    rcases List.mem_cons.1 hq with rfl | hq
    · exact ⟨o, st, List.mem_cons_self, h, rfl⟩
    · obtain ⟨o', st', h3, h4⟩ := ih q hq
      exact ⟨o', st', List.mem_cons_of_mem _ h3, h4⟩

theorem noPg_out {i : Nat} {o : SOper} {st : St} {d : Dl} {f : Foot} (hp : noPgS o.op = true) (h : outX cf raw r i o st = some (d, f)) : d.pg = none := by
  unfold outX at h
  split at h
  · cases hd : opD cf raw r i st.T st.H o.op with
    | none => simp [hd, obind_none] at h
    | some d' =>
      simp only [hd, obind_some, Option.some.injEq, Prod.mk.injEq] at h
      obtain ⟨rfl, _⟩ := h
      generalize o.op = op at hd hp
      cases op
      case append => simp [noPgS] at hp
      case call => simp only [opD] at hd; split at hd <;> first | exact callD_pg hd | cases hd
      case len s x => cases s <;> simp only [opD] at hd <;> (split at hd <;> first | (simp only [Option.some.injEq] at hd; subst hd; rfl) | cases hd)
      all_goals (simp only [opD, storeD] at hd; (repeat' split at hd) <;> first | (simp only [Option.some.injEq] at hd; subst hd; rfl) | cases hd)
  · simp only [Option.some.injEq, Prod.mk.injEq] at h; obtain ⟨rfl, _⟩ := h; rfl
  · cases h

theorem pure_out {i : Nat} {o : SOper} {st : St} {d : Dl} {f : Foot} (hp : pureS o.op = true) (h : outX cf raw r i o st = some (d, f)) : d.up = [] ∧ d.pg = none ∧ f.ns = [] := by
  have h0 := noPg_out (by revert hp; cases o.op <;> simp [pureS, noPgS]) h
  unfold outX at h
  split at h
  · cases hd : opD cf raw r i st.T st.H o.op with
    | none => simp [hd, obind_none] at h
    | some d' =>
      simp only [hd, obind_some, Option.some.injEq, Prod.mk.injEq] at h
      obtain ⟨rfl, rfl⟩ := h
      generalize o.op = op at hd hp
      refine ⟨?_, h0, by revert hp; cases op <;> simp [pureS, fp]⟩
      cases op
      case len s x => cases s <;> simp only [opD] at hd <;> (split at hd <;> first | (simp only [Option.some.injEq] at hd; subst hd; rfl) | cases hd)
      all_goals first
        | (simp [pureS] at hp; done)
        | (simp only [opD] at hd; (repeat' split at hd) <;> first | (simp only [Option.some.injEq] at hd; subst hd; rfl) | cases hd)
  · simp only [Option.some.injEq, Prod.mk.injEq] at h; obtain ⟨rfl, rfl⟩ := h; exact ⟨rfl, rfl, rfl⟩
  · cases h

theorem disj_spec {a b : List Nm} (h : disj a b = true) : ∀ x ∈ a, x ∉ b := fun x hx hb => by
  have := List.all_eq_true.1 h x hx
  simp [hb] at this
theorem offNm_spec {i : Nat} {x : Nm} (h : offNm r i x = true) : ∀ k, x ≠ .loc r i k := by
  rintro k rfl; simp [offNm] at h

theorem entOk_meet {i j : Nat} {a b : Rec} (h : entOk r i j (entOf a) (entOf b) = true) : Meet r i j a.q b.q a.d b.d a.f b.f := by
  simp only [entOk, entOf, Bool.and_eq_true, upNames_eq] at h
  obtain ⟨⟨⟨⟨⟨h1, h2⟩, h3⟩, h4⟩, h5⟩, h6⟩ := h
  refine ⟨Option.isNone_iff_eq_none.1 h1, Option.isNone_iff_eq_none.1 h2, fun x hx => ?_, fun x hx => ⟨disj_spec h4 x hx, fun _ => offNm_spec (List.all_eq_true.1 h6 x hx)⟩⟩
  have := disj_spec h3 x hx
  simp only [List.mem_append, not_or] at this
  exact ⟨this.1, this.2, fun _ => offNm_spec (List.all_eq_true.1 h5 x hx)⟩
theorem entPg_meet {j : Nat} {a b : Rec} (h : entPg r j (entOf a) (entOf b) = true) : MeetP r j a.d b.d b.f := by
  simp only [entPg, entOf, Bool.and_eq_true, upNames_eq] at h
  obtain ⟨⟨⟨⟨⟨⟨h1, h2⟩, h3⟩, h4⟩, h5⟩, h6⟩, h7⟩ := h
  refine ⟨Option.isNone_iff_eq_none.1 h1, List.isEmpty_iff.1 h2, fun x hx => ⟨disj_spec h3 x hx, disj_spec h4 x hx, offNm_spec (List.all_eq_true.1 h5 x hx)⟩, List.all_eq_true.1 h6, List.all_eq_true.1 h7⟩
end
end
end Go.Ab

/-! Regions: every order. -/
set_option linter.unusedVariables false
set_option linter.unusedSimpArgs false
set_option linter.unusedSectionVars false
namespace Go.Ab
open Go

def remain (sops : List SOper) (listed : Array Bool) : List (Nat × SOper) := (enumS 0 sops).filter fun p => !listed.getD p.1 true

def Closed (ops : Array Go.Oper) (listed : Array Bool) : Prop :=
  ∀ j o, listed.getD j false = true → ops[j]? = some o → ∀ e ∈ o.after, bothM e = true → listed.getD e.on false = true

theorem Bef.listed {ops : Array Go.Oper} {listed : Array Bool} (hc : Closed ops listed) {i j : Nat} (h : Bef ops i j) : (∀ o, ops[j]? = some o → ∀ e ∈ o.after, bothM e = true → listed.getD e.on false = true) → listed.getD i false = true := by
  induction h with
  | one j o e h he hb => exact fun ha => ha o h e he hb
  | two i j o e h he hb h2 ih => exact fun ha => ih fun o' ho' => hc e.on o' (ha o h e he hb) ho'

theorem getD_tf {listed : Array Bool} {i : Nat} (h : i < listed.size) : listed.getD i true = listed.getD i false := by simp [Array.getD_eq_getD_getElem?, h]

section
variable {P : Program} {idm : FuncId → FuncId} {N : Nat} {m0 : NMap} {w0 : World} {W0 : Nat → Prop} {H0 : Hp} {cf : CF} {raw : FuncId → Bool} {r : Nat}

theorem draw_any (cfok : CFOK P idm cf) {ops : Array Go.Oper} {sops : List SOper} {pairs : List (Nat × Nat)} (hl : opersL P idm N ops ops.toList sops = true) (hd : drawOk ops sops pairs = true) (md : Region.Mode) {Q : Exit → Act → World → Prop} {fin : St}
    (hQ : ∀ a w, FI idm N m0 w0 W0 H0 fin a w → Q .normal a w) : ∀ (fuel : Nat) (listed : Array Bool) (st : St) (a : Act) (w : World) (log : List Rec) (fin' : St), (remain sops listed).length = fuel → listed.size = ops.size → Closed ops listed →
      Run cf raw r (remain sops listed) st log fin' → Eqv fin fin' → (∀ i j a b, sops[i]? = some a → sops[j]? = some b → i < j → pairFree pairs a b i j = true → MeetR r log i j) → FI idm N m0 w0 W0 H0 st a w → wpAny P md ops Q fuel listed a w := by
  obtain ⟨len, getO⟩ := opersL_get hl
  have hlen : ops.size = sops.length := by simpa using len
  have hrem : ∀ {listed : Array Bool} {i : Nat} {s : SOper}, (i, s) ∈ remain sops listed ↔ sops[i]? = some s ∧ listed.getD i true = false := by
    intro listed i s
    unfold remain
    rw [List.mem_filter, mem_enumS]
    simp only [Bool.not_eq_true', Nat.zero_add]
    constructor
    · rintro ⟨⟨j, rfl, h⟩, h2⟩; exact ⟨h, h2⟩
    · rintro ⟨h, h2⟩; exact ⟨⟨i, rfl, h⟩, h2⟩
  have hsort : ∀ listed, (remain sops listed).Pairwise fun p q => p.1 < q.1 := fun listed => enumS_sorted.sublist List.filter_sublist
  -- whoever is ready remains
  have hready : ∀ {listed : Array Bool} {i : Nat}, i ∈ Region.ready md ops listed → ∃ s, (i, s) ∈ remain sops listed := by
    intro listed i hi
    obtain ⟨h1, o, ho, _⟩ := mem_ready.1 hi
    have hlt := (Array.getElem?_eq_some_iff.1 ho).1
    exact ⟨sops[i], hrem.2 ⟨List.getElem?_eq_getElem (by omega), h1⟩⟩
  intro fuel
  induction fuel with
  | zero =>
    intro listed st a w log fin' hf hs hc hrun he hm hfi
    have hnil : remain sops listed = [] := List.eq_nil_of_length_eq_zero hf
    rw [hnil] at hrun
    cases hrun
    refine ⟨?_, hQ a w (hfi.eqv he.symm)⟩
    rw [List.eq_nil_iff_forall_not_mem]
    intro i hi
    obtain ⟨s, h⟩ := hready hi
    rw [hnil] at h; cases h
  | succ fuel ih =>
    intro listed st a w log fin' hf hs hc hrun he hm hfi
    constructor
    · intro hnone
      exfalso
      cases hL : remain sops listed with
      | nil => rw [hL] at hf; simp at hf
      | cons p L =>
        obtain ⟨i, s⟩ := p
        obtain ⟨hsi, hli⟩ := hrem.1 (show (i, s) ∈ remain sops listed by rw [hL]; exact List.mem_cons_self)
        have hilt := (List.getElem?_eq_some_iff.1 hsi).1
        exact drawOk_ready hd md hs ⟨i, by omega, by rw [← getD_tf (by omega)]; exact hli⟩ hnone
    · intro i hi
      obtain ⟨hli, o, ho, haft⟩ := mem_ready.1 hi
      obtain ⟨s, hin⟩ := hready hi
      obtain ⟨hsi, _⟩ := hrem.1 hin
      obtain ⟨pre, post, hL⟩ := List.append_of_mem hin
      have hsorted := hsort listed
      rw [hL] at hsorted
      rw [List.pairwise_append] at hsorted
      obtain ⟨_, hpost, hcross⟩ := hsorted
      obtain ⟨hpost1, _⟩ := List.pairwise_cons.1 hpost
      have hilt : i < listed.size := by have := (Array.getElem?_eq_some_iff.1 ho).1; omega
      rw [hL] at hrun
      obtain ⟨dx, fx, log', fin2, g1, g2, g3, g4, g5⟩ := Run.front hrun (fun p hp => by
        obtain ⟨k, sk⟩ := p
        have hki : k < i := hcross _ hp (i, s) List.mem_cons_self
        obtain ⟨hsk, hlk⟩ := hrem.1 (show (k, sk) ∈ remain sops listed by rw [hL]; exact List.mem_append_left _ hp)
        rcases drawOk_spec hd ho hsi k sk hki hsk with hb | hfree
        · exfalso
          have := hb.listed hc fun o' ho' e hem hbm => by rw [ho] at ho'; cases ho'; exact haft e hem (bothM_binds hbm md)
          rw [getD_tf (by omega)] at hlk
          rw [hlk] at this; cases this
        · refine ⟨?_, hm k i sk s hsk hsi hki hfree⟩
          simp only [pairFree, Bool.and_eq_true] at hfree
          exact hfree.1)
      have hnext : remain sops (listed.setIfInBounds i true) = pre ++ post := by
        have e1 : remain sops (listed.setIfInBounds i true) = (remain sops listed).filter fun p => p.1 != i := by
          unfold remain
          rw [List.filter_filter]
          refine List.filter_congr fun p hp => ?_
          by_cases hpi : i = p.1
          · subst hpi; simp [hilt]
          · rw [getD_set_ne true hpi]
            have : (p.1 != i) = true := by simp; exact fun h => hpi h.symm
            rw [this]; simp
        rw [e1, hL, List.filter_append, List.filter_cons]
        simp only [bne_self_eq_false, Bool.false_eq_true, if_false]
        congr 1
        · refine List.filter_eq_self.2 fun p hp => ?_
          have := hcross p hp (i, s) List.mem_cons_self
          simp at this ⊢; omega
        · refine List.filter_eq_self.2 fun p hp => ?_
          have := hpost1 p hp
          simp at this ⊢; omega
      refine wpOp_step cfok ho (getO i o s (by simpa using ho) hsi) hfi g1 fun a' w' hfi' => ?_
      refine ih _ _ a' w' log' fin2 ?_ (by simpa using hs) ?_ (by rw [hnext]; exact g2) (he.trans g3) (fun i' j' sa sb h1 h2 h3 h4 => ?_) hfi'
      · rw [hnext]
        rw [hL] at hf
        simp at hf ⊢
        omega
      · intro j o' hj ho' e hem hbm
        by_cases hij : i = j
        · subst hij
          rw [ho] at ho'; cases ho'
          exact getD_set_true (haft e hem (bothM_binds hbm md))
        · rw [getD_set_ne false hij] at hj
          exact getD_set_true (hc j o' hj ho' e hem hbm)
      · exact fun x hx y hy => hm i' j' sa sb h1 h2 h3 h4 x (g4 x hx) y (g4 y hy)

/-- A region in one order. -/
theorem wp_reg (cfok : CFOK P idm cf) {ops : Array Go.Oper} {sops : List SOper} (hl : opersL P idm N ops ops.toList sops = true) {Q : Exit → Act → World → Prop} {fin : St}
    (hQ : ∀ a w, FI idm N m0 w0 W0 H0 fin a w → Q .normal a w) : ∀ (l : List SOper) (k : Nat) (st : St) (a : Act) (w : World) (log : List Rec), (∀ j, l[j]? = sops[k + j]?) → Run cf raw r (enumS k l) st log fin → FI idm N m0 w0 W0 H0 st a w →
      wpOps P ops Q (List.range' k l.length) a w
  | [], k, st, a, w, log, hk, hrun, hfi => by cases hrun; exact hQ a w hfi
  | s :: l, k, st, a, w, log, hk, hrun, hfi => by
    obtain ⟨len, getO⟩ := opersL_get hl
    simp only [enumS] at hrun
    cases hrun with
    | cons _ _ _ _ d f log fin h h2 =>
      have hs : sops[k]? = some s := by simpa using (hk 0).symm
      have hlt := (List.getElem?_eq_some_iff.1 hs).1
      have ho := Array.getElem?_eq_getElem (show k < ops.size by simpa using (by omega : k < ops.toList.length))
      rw [List.length_cons, List.range'_succ, wpOps_cons]
      exact wpOp_step cfok ho (getO k _ s (by simpa using ho) hs) hfi h fun a' w' hfi' =>
        wp_reg cfok hl hQ l (k + 1) _ a' w' log (fun j => by have := hk (j + 1); simpa [Nat.add_assoc, Nat.add_comm 1 j] using this) h2 hfi'

theorem wp_region_reg (cfok : CFOK P idm cf) {id : Nat} {ops : Array Go.Oper} {sops : List SOper} (hl : opersL P idm N ops ops.toList sops = true) {Q : Exit → Act → World → Prop} {st fin : St} (hrun : opsX cf raw r 0 sops st = some fin)
    (hQ : ∀ a w, FI idm N m0 w0 W0 H0 fin a w → Q .normal a w) {a : Act} {w : World} (hfi : FI idm N m0 w0 W0 H0 st a w) : (Code.region id ops false).wp P Q a w := by
  refine wp_region ?_
  obtain ⟨log, h⟩ := opsX_run hrun
  have len := (opersL_get hl).1
  have := wp_reg cfok hl hQ sops 0 st a w log (fun j => by simp) h hfi
  rw [List.range_eq_range']
  rw [← len] at this
  simpa using this

theorem wp_region_drawn (cfok : CFOK P idm cf) {id : Nat} {ops : Array Go.Oper} {sops : List SOper} {pairs : List (Nat × Nat)} (hl : opersL P idm N ops ops.toList sops = true) (hd : drawOk ops sops pairs = true) {Q : Exit → Act → World → Prop} {st fin : St}
    (hrun : drawX cf raw r sops pairs st = some fin) (hQ : ∀ a w, FI idm N m0 w0 W0 H0 fin a w → Q .normal a w) {a : Act} {w : World} (hfi : FI idm N m0 w0 W0 H0 st a w) : (Code.region id ops true).wp P Q a w := by
  have len := (opersL_get hl).1
  -- a run, and who may pass whom
  obtain ⟨log, hlog, hmeet⟩ : ∃ log, Run cf raw r (enumS 0 sops) st log fin ∧ ∀ i j a b, sops[i]? = some a → sops[j]? = some b → i < j → pairFree pairs a b i j = true → MeetR r log i j := by
    have pureMeet : ∀ {log : List Rec}, Run cf raw r (enumS 0 sops) st log fin → ∀ i j a b, sops[i]? = some a → sops[j]? = some b → ((pureS a.op && noPgS b.op) || (pureS b.op && noPgS a.op)) = true → MeetR r log i j := by
      intro log hlog i j sa sb ha hb hp x hx y hy hxi hyj
      obtain ⟨o1, st1, m1, e1, p1⟩ := hlog.recs x hx
      obtain ⟨o2, st2, m2, e2, p2⟩ := hlog.recs y hy
      obtain ⟨k1, h1, h2⟩ := mem_enumS.1 m1
      obtain ⟨k2, h3, h4⟩ := mem_enumS.1 m2
      rw [Nat.zero_add] at h1 h3
      rw [← h1, hxi, ha] at h2; cases h2
      rw [← h3, hyj, hb] at h4; cases h4
      simp only [Bool.or_eq_true, Bool.and_eq_true] at hp
      rcases hp with ⟨q1, q2⟩ | ⟨q1, q2⟩
      · obtain ⟨c1, c2, c3⟩ := pure_out q1 e1
        exact .inl ⟨c2, noPg_out q2 e2, fun z hz => by rw [c1] at hz; simp [upNs] at hz, fun z hz => ⟨by rw [c3]; simp, fun hq => by rw [p1, q1] at hq; cases hq⟩⟩
      · obtain ⟨c1, c2, c3⟩ := pure_out q1 e2
        exact .inl ⟨noPg_out q2 e1, c2, fun z hz => ⟨by rw [c3]; simp, by rw [c1]; simp [upNs], fun hq => by rw [p2, q1] at hq; cases hq⟩, fun z hz => by rw [c1] at hz; simp [upNs] at hz⟩
    cases pairs with
    | nil =>
      obtain ⟨log, hlog⟩ := opsX_run (show opsX cf raw r 0 sops st = some fin from hrun)
      refine ⟨log, hlog, fun i j sa sb ha hb hij hf => ?_⟩
      simp only [pairFree, Bool.and_eq_true, List.contains_nil, Bool.false_or] at hf
      exact pureMeet hlog i j sa sb ha hb hf.2
    | cons p ps =>
      unfold drawX at hrun
      cases hx : opsLX cf raw r 0 sops st [] with
      | none => simp [hx, obind_none] at hrun
      | some x =>
        obtain ⟨fin1, lg⟩ := x
        simp only [hx, obind_some, Option.ite_none_right_eq_some, Option.some.injEq] at hrun
        obtain ⟨hall, rfl⟩ := hrun
        obtain ⟨log, hlog, hlg⟩ := opsLX_run hx
        refine ⟨log, hlog, fun i j sa sb ha hb hij hf => ?_⟩
        simp only [pairFree, Bool.and_eq_true, Bool.or_assoc] at hf
        rw [Bool.or_eq_true] at hf
        rcases hf.2 with hc | hc
        · have h1 := List.all_eq_true.1 hall (i, j) (by simpa using hc)
          obtain ⟨_, hpos⟩ := hlog.pos
          intro x hx y hy hxi hyj
          obtain ⟨kx, hkx⟩ := List.mem_iff_getElem?.1 hx
          obtain ⟨ky, hky⟩ := List.mem_iff_getElem?.1 hy
          have e1 := hpos kx x hkx
          have e2 := hpos ky y hky
          have e3 : kx = i := by omega
          have e4 : ky = j := by omega
          subst e3; subst e4
          rw [hlg] at h1
          simp only [List.nil_append, pairOk, List.getElem?_map, hkx, hky, Option.map_some] at h1
          rw [Bool.or_eq_true] at h1
          exact h1.elim (fun h => .inl (entOk_meet h)) fun h => .inr (entPg_meet h)
        · exact pureMeet hlog i j sa sb ha hb hc
  have hrem : remain sops (Array.replicate ops.size false) = enumS 0 sops := by
    unfold remain
    refine List.filter_eq_self.2 fun p hp => ?_
    obtain ⟨i, s⟩ := p
    obtain ⟨j, h1, h2⟩ := mem_enumS.1 hp
    have hlt := (List.getElem?_eq_some_iff.1 h2).1
    have : i < ops.size := by simp at len; omega
    simp [this]
  have hel : ∀ (l : List SOper) (k : Nat), (enumS k l).length = l.length := by
    intro l
    induction l with
    | nil => exact fun _ => rfl
    | cons s l ih => exact fun k => by simp [enumS, ih]
  have any : ∀ md, wpAny P md ops Q ops.size (Array.replicate ops.size false) a { w with drawn := w.drawn + 1 } := fun md =>
    draw_any cfok hl hd md hQ ops.size _ st a _ log fin (by rw [hrem, hel]; simpa using len.symm) (by simp) (fun j o hj => by
      exfalso
      by_cases h : j < ops.size <;> simp [h] at hj) (by rw [hrem]; exact hlog) (Eqv.refl fin) hmeet hfi.drew
  refine wp_region_draw fun t => ?_
  unfold Region.schedule
  split
  · exact wpAny_sound ops.size t _ a _ (any _)
  · exact wpAny_sound ops.size _ _ a _ (any _)
end
end Go.Ab

/-! Code. -/
set_option linter.unusedVariables false
set_option linter.unusedSimpArgs false
set_option linter.unusedSectionVars false
namespace Go.Ab
open Go

section
variable (P : Program) (idm : FuncId → FuncId) (N : Nat)

def codeL : Code → SCode → Bool
  | c, .trim _ _ _ _ b => codeL c b
  | .skip, .skip => true
  | .region _ ops false, .reg _ sops => opersL P idm N ops ops.toList sops
  | .region _ ops true, .draw _ sops pairs => opersL P idm N ops ops.toList sops && drawOk ops sops pairs
  | .seq a b, .seq a' b' => codeL a a' && codeL b b'
  | .cond c a b, .cond c' a' b' => opdL idm c c' && codeL a a' && codeL b b'
  | .block id b, .blk id' b' => id == id' && codeL b b'
  | .loop b, .loop _ _ b' => codeL b b'
  | .exit id, .exit id' => id == id'
  | .ret, .ret => true
  | _, _ => false

def rvsL : List ResultVar → List RV → Bool
  | [], [] => true
  | .tmp t :: r, .tmp t' :: q => t == t' && rvsL r q
  | .cell a t :: r, .cell a' agg size :: q => a == a' && aggT P t == some agg && sizeT P t == some size && rvsL r q
  | _, _ => false

end

def exOf : Ex → Exit
  | .nrm => .normal
  | .ex id => .exit id
  | .ret => .ret

theorem mem_keepT {T : Tm} : ∀ {kt : List Nat} {i : Nat}, tget (keepT T kt) i = tget T i ∨ tget (keepT T kt) i = .undef
  | [], i => .inr rfl
  | j :: r, i => by
    simp only [keepT, tget]
    split
    · rename_i h; subst h; exact .inl rfl
    · exact mem_keepT
theorem names_tget : ∀ {T : Tm} {i : Nat} {x : Nm}, x ∈ (tget T i).names → x ∈ namesT T
  | [], i, x, h => by simp [tget, AV.names] at h
  | (j, v) :: r, i, x, h => by
    simp only [tget] at h
    simp only [namesT, List.mem_append]
    split at h
    · exact .inl h
    · exact .inr (names_tget h)
theorem names_hget : ∀ {H : Hp} {y x : Nm} {o : AObj}, hget H y = some o → x ∈ o.names → x ∈ namesH H
  | [], y, x, o, h, _ => by simp [hget] at h
  | (z, q) :: r, y, x, o, h, hx => by
    simp only [hget] at h
    split at h
    · subst h; simp only [namesH, List.mem_append]; exact .inl hx
    · have := names_hget h hx
      cases q with
      | none => simpa [namesH] using this
      | some q => simp only [namesH, List.mem_append]; exact .inr this
theorem hget_exts {H : Hp} : ∀ {n k : Nat} {x : Nm} {o : AObj}, hget (exts H k n) x = some o → hget H x = some o
  | 0, k, x, o, h => by simp [exts, hget] at h
  | n + 1, k, x, o, h => by
    simp only [exts, hget] at h
    split at h
    · rename_i e; subst e; exact h
    · exact hget_exts h
theorem hget_keepH {H : Hp} : ∀ {ns : List Nm} {x : Nm} {o : AObj}, hget (keepH H ns) x = some o → hget H x = some o
  | [], x, o, h => by simp [keepH, hget] at h
  | y :: r, x, o, h => by
    simp only [keepH, hget] at h
    split at h
    · rename_i e; subst e; exact h
    · exact hget_keepH h
theorem allIn_spec {H : Hp} : ∀ {ns : List Nm}, allIn H ns = true → ∀ x ∈ ns, (hget H x).isSome = true
  | [], _, x, h => by cases h
  | y :: r, ha, x, h => by
    simp only [allIn, Bool.and_eq_true] at ha
    rcases List.mem_cons.1 h with rfl | h
    · exact ha.1
    · exact allIn_spec ha.2 x h

section
variable {P : Program} {idm : FuncId → FuncId} {N : Nat} {m0 : NMap} {w0 : World} {W0 : Nat → Prop} {H0 : Hp} {cf : CF} {raw : FuncId → Bool} {n : Nat}

theorem cutX_ok {kt : List Nat} {kh : List Nm} {st st' : St} (h : cutX n kt kh st = some st') {a : Act} {w : World} (hfi : FI idm N m0 w0 W0 H0 st a w) : FI idm N m0 w0 W0 H0 st' a w := by
  simp only [cutX] at h
  split at h
  · rename_i hc
    simp only [Option.some.injEq] at h
    subst h
    simp only [Bool.and_eq_true] at hc
    obtain ⟨h0, m, W, s, si⟩ := hfi
    have hsub : ∀ x o, hget (exts st.H 0 n ++ keepH st.H kh) x = some o → hget st.H x = some o := fun x o h => by
      rw [hget_append] at h
      split at h
      · exact hget_exts h
      · exact hget_keepH h
    refine ⟨h0, m, W, { h := fun x o hx => s.h x o (hsub x o hx), sep := fun x y o o' b hx hy => s.sep x y o o' b (hsub x o hx) (hsub y o' hy), ch := fun y o x hy hx => allIn_spec hc.2 x (names_hget hy hx), lt := s.lt, sz := s.sz, t := fun i => ?_, ct := fun i x hx => allIn_spec hc.1 x (names_tget hx) }, si.less hsub⟩
    rcases mem_keepT (T := st.T) (kt := kt) (i := i) with e | e
    · show Rep idm m w W (tget (keepT st.T kt) i) _
      rw [e]; exact s.t i
    · show Rep idm m w W (tget (keepT st.T kt) i) _
      rw [e]; exact .undef _
  · cases h

theorem least_of {p : Nat → Prop} (h : ∃ n, p n) : ∃ n, p n ∧ ∀ m, p m → n ≤ m := by
  obtain ⟨n, hn⟩ := h
  induction n using Nat.strongRecOn with
  | _ n ih =>
    by_cases hx : ∃ m, m < n ∧ p m
    · obtain ⟨m, h1, h2⟩ := hx; exact ih m h1 h2
    · exact ⟨n, hn, fun m hm => by
        rcases Nat.lt_or_ge m n with h | h
        · exact absurd ⟨m, h, hm⟩ hx
        · exact h⟩

open Classical in
noncomputable def least (p : Nat → Prop) : Nat := if h : ∃ n, p n then Classical.choose (least_of h) else 0
theorem least_spec {p : Nat → Prop} (h : ∃ n, p n) : p (least p) ∧ ∀ m, p m → least p ≤ m := by
  unfold least
  rw [dif_pos h]
  exact Classical.choose_spec (least_of h)

theorem sexec_ok (cfok : CFOK P idm cf) (k : Nat) : ∀ (c' : SCode) (c : Code) (st st' : St) (e : Ex) (a : Act) (w : World) (Q : Exit → Act → World → Prop), codeL P idm N c c' = true → sexec cf raw n k c' st = some (e, st') → FI idm N m0 w0 W0 H0 st a w →
    (∀ a w, FI idm N m0 w0 W0 H0 st' a w → Q (exOf e) a w) → c.wp P Q a w := by
  intro c'
  induction c' with
  | skip =>
    intro c st st' e a w Q hl h hfi hQ
    cases c <;> simp [codeL] at hl
    simp only [sexec, Option.some.injEq, Prod.mk.injEq] at h
    obtain ⟨rfl, rfl⟩ := h
    exact wp_skip (hQ a w hfi)
  | reg r sops =>
    intro c st st' e a w Q hl h hfi hQ
    obtain ⟨id, ops, rfl⟩ : ∃ id ops, c = .region id ops false := by
      cases c with
      | region id ops d => cases d with
        | false => exact ⟨id, ops, rfl⟩
        | true => simp [codeL] at hl
      | _ => simp [codeL] at hl
    simp only [codeL] at hl
    simp only [sexec] at h
    cases hx : opsX cf raw r 0 sops st with
    | none => simp [hx, obind_none] at h
    | some st1 =>
      simp only [hx, obind_some, Option.some.injEq, Prod.mk.injEq] at h
      obtain ⟨rfl, rfl⟩ := h
      exact wp_region_reg cfok hl hx hQ hfi
  | draw r sops pairs =>
    intro c st st' e a w Q hl h hfi hQ
    obtain ⟨id, ops, rfl⟩ : ∃ id ops, c = .region id ops true := by
      cases c with
      | region id ops d => cases d with
        | true => exact ⟨id, ops, rfl⟩
        | false => simp [codeL] at hl
      | _ => simp [codeL] at hl
    simp only [codeL, Bool.and_eq_true] at hl
    simp only [sexec] at h
    cases hx : drawX cf raw r sops pairs st with
    | none => simp [hx, obind_none] at h
    | some st1 =>
      simp only [hx, obind_some, Option.some.injEq, Prod.mk.injEq] at h
      obtain ⟨rfl, rfl⟩ := h
      exact wp_region_drawn cfok hl.1 hl.2 hx hQ hfi
  | seq x y ihx ihy =>
    intro c st st' e a w Q hl h hfi hQ
    cases c <;> simp [codeL] at hl
    simp only [sexec, seqX] at h
    cases hx : sexec cf raw n k x st with
    | none => simp [hx] at h
    | some p =>
      obtain ⟨e1, st1⟩ := p
      refine wp_seq (ihx _ st st1 e1 a w _ hl.1 hx hfi fun a1 w1 h1 => ?_)
      rw [hx] at h
      cases e1 with
      | nrm => exact ihy _ st1 st' e a1 w1 Q hl.2 h h1 hQ
      | ex id => simp only [Option.some.injEq, Prod.mk.injEq] at h; obtain ⟨rfl, rfl⟩ := h; exact hQ a1 w1 h1
      | ret => simp only [Option.some.injEq, Prod.mk.injEq] at h; obtain ⟨rfl, rfl⟩ := h; exact hQ a1 w1 h1
  | cond cnd x y ihx ihy =>
    intro c st st' e a w Q hl h hfi hQ
    cases c <;> simp [codeL] at hl
    simp only [sexec, onB] at h
    split at h
    · rename_i b hb
      obtain ⟨h0, m, W, s, si⟩ := hfi
      obtain ⟨hr, _⟩ := opdL_rep hl.1.1 s
      rw [hb] at hr
      refine wp_cond hr.bool_inv ?_
      cases b with
      | true => simp only [if_true] at h ⊢; exact ihx _ st st' e a w Q hl.1.2 h ⟨h0, m, W, s, si⟩ hQ
      | false => simp only [Bool.false_eq_true, if_false] at h ⊢; exact ihy _ st st' e a w Q hl.2 h ⟨h0, m, W, s, si⟩ hQ
    · cases h
  | blk id b ih =>
    intro c st st' e a w Q hl h hfi hQ
    cases c <;> simp [codeL] at hl
    obtain ⟨rfl, hl⟩ := hl
    simp only [sexec, blkX] at h
    cases hx : sexec cf raw n k b st with
    | none => simp [hx] at h
    | some p =>
      obtain ⟨e1, st1⟩ := p
      refine wp_block (ih _ st st1 e1 a w _ hl hx hfi fun a1 w1 h1 => ?_)
      rw [hx] at h
      cases e1 with
      | nrm => simp only [Option.some.injEq, Prod.mk.injEq] at h; obtain ⟨rfl, rfl⟩ := h; exact hQ a1 w1 h1
      | ex id' =>
        simp only [exOf, Exit.inBlock]
        simp only at h
        split at h
        · rename_i hid
          simp only [Option.some.injEq, Prod.mk.injEq] at h
          obtain ⟨rfl, rfl⟩ := h
          rw [if_pos hid]; exact hQ a1 w1 h1
        · rename_i hid
          simp only [Option.some.injEq, Prod.mk.injEq] at h
          obtain ⟨rfl, rfl⟩ := h
          rw [if_neg hid]; exact hQ a1 w1 h1
      | ret => simp only [Option.some.injEq, Prod.mk.injEq] at h; obtain ⟨rfl, rfl⟩ := h; exact hQ a1 w1 h1
  | loop kt kh b ih =>
    intro c st st' e a w Q hl h hfi hQ
    cases c <;> simp [codeL] at hl
    rename_i body
    simp only [sexec] at h
    have key : ∀ (a : Act) (w : World), (∃ j, ∃ st, loopN (fun st => obind (cutX n kt kh st) fun st => sexec cf raw n k b st) j st = some (e, st') ∧ FI idm N m0 w0 W0 H0 st a w) →
        body.wp P (Exit.then (fun a' w' => (∃ j, ∃ st, loopN (fun st => obind (cutX n kt kh st) fun st => sexec cf raw n k b st) j st = some (e, st') ∧ FI idm N m0 w0 W0 H0 st a' w') ∧
          least (fun j => ∃ st, loopN (fun st => obind (cutX n kt kh st) fun st => sexec cf raw n k b st) j st = some (e, st') ∧ FI idm N m0 w0 W0 H0 st a' w') <
          least (fun j => ∃ st, loopN (fun st => obind (cutX n kt kh st) fun st => sexec cf raw n k b st) j st = some (e, st') ∧ FI idm N m0 w0 W0 H0 st a w)) Q) a w := by
      intro a w hI
      obtain ⟨⟨st1, h1, h2⟩, _⟩ := least_spec hI
      generalize least (fun j => ∃ st, loopN (fun st => obind (cutX n kt kh st) fun st => sexec cf raw n k b st) j st = some (e, st') ∧ FI idm N m0 w0 W0 H0 st a w) = j at h1
      cases j with
      | zero => simp [loopN] at h1
      | succ j =>
        simp only [loopN] at h1
        cases hc : cutX n kt kh st1 with
        | none => simp [hc, obind_none] at h1
        | some st2 =>
          simp only [hc, obind_some] at h1
          cases hb : sexec cf raw n k b st2 with
          | none => simp [hb] at h1
          | some p =>
            obtain ⟨e1, st3⟩ := p
            refine ih _ st2 st3 e1 a w _ hl hb (cutX_ok hc h2) fun a1 w1 h3 => ?_
            rw [hb] at h1
            cases e1 with
            | nrm =>
              simp only at h1
              have hI1 : ∃ j, ∃ st, loopN (fun st => obind (cutX n kt kh st) fun st => sexec cf raw n k b st) j st = some (e, st') ∧ FI idm N m0 w0 W0 H0 st a1 w1 := ⟨j, st3, h1, h3⟩
              exact ⟨hI1, Nat.lt_succ_of_le ((least_spec hI1).2 j ⟨st3, h1, h3⟩)⟩
            | ex id => simp only [Option.some.injEq, Prod.mk.injEq] at h1; obtain ⟨rfl, rfl⟩ := h1; exact hQ a1 w1 h3
            | ret => simp only [Option.some.injEq, Prod.mk.injEq] at h1; obtain ⟨rfl, rfl⟩ := h1; exact hQ a1 w1 h3
    exact wp_loop (fun a w => ∃ j, ∃ st, loopN (fun st => obind (cutX n kt kh st) fun st => sexec cf raw n k b st) j st = some (e, st') ∧ FI idm N m0 w0 W0 H0 st a w)
      (fun a w => least (fun j => ∃ st, loopN (fun st => obind (cutX n kt kh st) fun st => sexec cf raw n k b st) j st = some (e, st') ∧ FI idm N m0 w0 W0 H0 st a w)) ⟨k, st, h, hfi⟩ key
  | exit id =>
    intro c st st' e a w Q hl h hfi hQ
    cases c <;> simp [codeL] at hl
    subst hl
    simp only [sexec, Option.some.injEq, Prod.mk.injEq] at h
    obtain ⟨rfl, rfl⟩ := h
    exact wp_exit (hQ a w hfi)
  | ret =>
    intro c st st' e a w Q hl h hfi hQ
    cases c <;> simp [codeL] at hl
    simp only [sexec, Option.some.injEq, Prod.mk.injEq] at h
    obtain ⟨rfl, rfl⟩ := h
    exact wp_ret (hQ a w hfi)
  | cut kt kh =>
    intro c st st' e a w Q hl h hfi hQ
    cases c <;> simp [codeL] at hl
  | trim kn kr ke kh b ih =>
    intro c st st' e a w Q hl h hfi hQ
    have hl' : codeL P idm N c b = true := by cases c <;> simpa [codeL] using hl
    simp only [sexec] at h
    cases hx : sexec cf raw n k b st with
    | none => simp [hx, trimX] at h
    | some p =>
      obtain ⟨e1, st1⟩ := p
      refine ih c st st1 e1 a w Q hl' hx hfi fun a1 w1 h1 => ?_
      rw [hx] at h
      have hcut : ∀ (kt : List Nat) (e2 : Ex), (obind (cutX n kt kh st1) fun st => some (e2, st)) = some (e, st') → e2 = e ∧ FI idm N m0 w0 W0 H0 st' a1 w1 := by
        intro kt e2 hh
        cases hc : cutX n kt kh st1 with
        | none => simp [hc, obind_none] at hh
        | some st2 =>
          simp only [hc, obind_some, Option.some.injEq, Prod.mk.injEq] at hh
          obtain ⟨rfl, rfl⟩ := hh
          exact ⟨rfl, cutX_ok hc h1⟩
      cases e1 with
      | nrm => obtain ⟨rfl, h2⟩ := hcut kn .nrm h; exact hQ a1 w1 h2
      | ret => obtain ⟨rfl, h2⟩ := hcut kr .ret h; exact hQ a1 w1 h2
      | ex id =>
        simp only [trimX] at h
        split at h
        · rename_i k1 _; obtain ⟨rfl, h2⟩ := hcut k1 (.ex id) h; exact hQ a1 w1 h2
        · simp only [Option.some.injEq, Prod.mk.injEq] at h; obtain ⟨rfl, rfl⟩ := h; exact hQ a1 w1 h1
end
end Go.Ab
