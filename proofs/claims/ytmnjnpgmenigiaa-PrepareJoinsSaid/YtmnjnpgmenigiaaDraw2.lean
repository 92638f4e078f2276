/- A part of the proof: an executor over plain data, shown sound for the model, and what it computes of the functions. -/
import Derived.Test.YtmnjnpgmenigiaaDraw
import Derived.Orders
set_option linter.all false
/-! Any order will do: runs of operations. -/
set_option linter.unusedVariables false
set_option linter.unusedSimpArgs false
set_option linter.unusedSectionVars false
namespace Go.Ab
open Go

def opdT : Opd → List Nat
  | .t i => [i]
  | _ => []
def guardT : Option (Nat × Bool) → List Nat
  | some (t, _) => [t]
  | none => []
def readsT (o : SOper) : List Nat := (opds o.op).flatMap opdT ++ guardT o.guard

def apartS (a b : SOper) : Bool :=
  (match a.dst with
   | some d => !(readsT b).contains d && b.dst != some d
   | none => true) &&
  (match b.dst with
   | some d => !(readsT a).contains d
   | none => true)

theorem apartS_spec {a b : SOper} (h : apartS a b = true) : (∀ d, a.dst = some d → d ∉ readsT b) ∧ (∀ d, a.dst = some d → b.dst ≠ some d) ∧ ∀ d, b.dst = some d → d ∉ readsT a := by
  refine ⟨fun d hd => ?_, fun d hd => ?_, fun d hd => ?_⟩ <;> simp [apartS, hd] at h
  · exact h.1.1
  · exact h.1.2
  · exact h.2

theorem upNames_eq : ∀ H : Hp, upNames H = upNs H
  | [] => rfl
  | (x, _) :: r => by simp [upNames, upNs, upNames_eq r]

structure Eqv (a b : St) : Prop where
  t : ∀ i, tget a.T i = tget b.T i
  h : ∀ x, hget a.H x = hget b.H x
theorem Eqv.refl (a : St) : Eqv a a := ⟨fun _ => rfl, fun _ => rfl⟩
theorem Eqv.symm {a b : St} (h : Eqv a b) : Eqv b a := ⟨fun i => (h.t i).symm, fun x => (h.h x).symm⟩
theorem Eqv.trans {a b c : St} (h : Eqv a b) (g : Eqv b c) : Eqv a c := ⟨fun i => (h.t i).trans (g.t i), fun x => (h.h x).trans (g.h x)⟩

theorem ev_tget {T T' : Tm} {x : Opd} (h : ∀ t ∈ opdT x, tget T' t = tget T t) : ev T' x = ev T x := by
  cases x <;> first | rfl | exact h _ (by simp [opdT])

section
variable {cf : CF} {raw : FuncId → Bool} {r : Nat}

theorem outX_loc {i : Nat} {o : SOper} {st st' : St} {d : Dl} {f : List Nm} (h : outX cf raw r i o st = some (d, f)) (hT : ∀ t ∈ readsT o, tget st'.T t = tget st.T t) (hH : ∀ x ∈ f, hget st'.H x = hget st.H x)
    (hf : pureS o.op = false → ∀ j, hget st.H (.loc r i j) = none → hget st'.H (.loc r i j) = none) : outX cf raw r i o st' = some (d, f) := by
  have hg : wantedG st'.T o.guard = wantedG st.T o.guard := by
    cases hg : o.guard with
    | none => rfl
    | some p => obtain ⟨t, b⟩ := p; simp only [wantedG]; rw [hT t (by simp [readsT, guardT, hg])]
  have he : ∀ x ∈ opds o.op, ev st'.T x = ev st.T x := fun x hx => ev_tget fun t ht => hT t (List.mem_append_left _ (List.mem_flatMap.2 ⟨x, hx, ht⟩))
  unfold outX at h ⊢
  rw [hg]
  cases hw : wantedG st.T o.guard with
  | none => simp [hw] at h
  | some b =>
    cases b with
    | false => simp only [hw] at h ⊢; exact h
    | true =>
      simp only [hw] at h ⊢
      cases hd : opD cf raw r i st.T st.H o.op with
      | none => simp [hd, obind_none] at h
      | some d' =>
        simp only [hd, obind_some, Option.some.injEq, Prod.mk.injEq] at h
        obtain ⟨rfl, rfl⟩ := h
        obtain ⟨h1, h2⟩ := opD_locT (H := st'.H) (cf := cf) (raw := raw) (r := r) (i := i) he
        cases hp : pureS o.op with
        | true =>
          obtain ⟨h3, h4⟩ := opD_pure (H := st.H) (H' := st'.H) (cf := cf) (raw := raw) (r := r) (i := i) (T := st.T) hp
          rw [h1, h2, h3, h4, hd]
          rfl
        | false =>
          obtain ⟨h3, h4⟩ := opD_locH (H' := st'.H) hH (hf hp) hd
          rw [h1, h2, h3, h4]
          rfl

structure Meet (r i j : Nat) (qa qb : Bool) (da db : Dl) (fa fb : List Nm) : Prop where
  pa : da.pg = none
  pb : db.pg = none
  ab : ∀ x ∈ upNs da.up, x ∉ fb ∧ x ∉ upNs db.up ∧ (qb = false → ∀ k, x ≠ .loc r j k)
  ba : ∀ x ∈ upNs db.up, x ∉ fa ∧ (qa = false → ∀ k, x ≠ .loc r i k)

theorem putD_none (dst : Option Nat) {d : Dl} (h : d.pg = none) (T : Tm) (H : Hp) : (putD dst d T H).H = d.up ++ H ∧ ∀ t, tget (putD dst d T H).T t = if dst = some t then d.v else tget T t := by
  rw [putD_eq]
  simp only [h, pgT, pgH]
  refine ⟨trivial, fun t => ?_⟩
  cases dst with
  | none => simp
  | some s => simp only [tget, Option.some.injEq]

theorem put_eqv {dst : Option Nat} {d : Dl} {a b : St} (h : Eqv a b) : Eqv (putD dst d a.T a.H) (putD dst d b.T b.H) := by
  have hH : ∀ x, hget (pgH d.pg a.H) x = hget (pgH d.pg b.H) x := fun x => by
    cases d.pg with
    | none => exact h.h x
    | some y => simp only [pgH, hget_purgeH, h.h x]
  have hT : ∀ t, tget (pgT d.pg a.T) t = tget (pgT d.pg b.T) t := fun t => by
    cases d.pg with
    | none => exact h.t t
    | some y => simp only [pgT, tget_purgeT, h.t t]
  rw [putD_eq, putD_eq]
  refine ⟨fun i => ?_, fun x => ?_⟩
  · cases dst with
    | none => exact hT i
    | some t => simp only [tget, hT]
  · simp only [hget_append, hH]

theorem swap {i j : Nat} {a b : SOper} {st : St} {da db : Dl} {fa fb : List Nm} (hap : apartS a b = true) (hm : Meet r i j (pureS a.op) (pureS b.op) da db fa fb) (h1 : outX cf raw r i a st = some (da, fa))
    (h2 : outX cf raw r j b (putD a.dst da st.T st.H) = some (db, fb)) :
    outX cf raw r j b st = some (db, fb) ∧ outX cf raw r i a (putD b.dst db st.T st.H) = some (da, fa) ∧
      Eqv (putD b.dst db (putD a.dst da st.T st.H).T (putD a.dst da st.T st.H).H) (putD a.dst da (putD b.dst db st.T st.H).T (putD b.dst db st.T st.H).H) := by
  obtain ⟨s1, s2, s3⟩ := apartS_spec hap
  obtain ⟨a1, a2⟩ := putD_none a.dst hm.pa st.T st.H
  obtain ⟨b1, b2⟩ := putD_none b.dst hm.pb st.T st.H
  have hget_not : ∀ {u H : Hp} {x : Nm}, x ∉ upNs u → hget (u ++ H) x = hget H x := fun h => by rw [hget_append, if_neg h]
  refine ⟨outX_loc h2 (fun t ht => ?_) (fun x hx => ?_) (fun hq k hk => ?_), outX_loc h1 (fun t ht => ?_) (fun x hx => ?_) (fun hq k hk => ?_), ?_⟩
  · rw [a2, if_neg fun e => s1 t e ht]
  · rw [a1, hget_not fun h => (hm.ab x h).1 hx]
  · rw [a1, hget_not fun h => (hm.ab _ h).2.2 hq k rfl] at hk; exact hk
  · rw [b2, if_neg fun e => s3 t e ht]
  · rw [b1, hget_not fun h => (hm.ba x h).1 hx]
  · rw [b1, hget_not fun h => (hm.ba _ h).2 hq k rfl]; exact hk
  · obtain ⟨c1, c2⟩ := putD_none b.dst hm.pb (putD a.dst da st.T st.H).T (putD a.dst da st.T st.H).H
    obtain ⟨d1, d2⟩ := putD_none a.dst hm.pa (putD b.dst db st.T st.H).T (putD b.dst db st.T st.H).H
    refine ⟨fun t => ?_, fun x => ?_⟩
    · rw [c2, d2, a2, b2]
      by_cases hb : b.dst = some t
      · rw [if_pos hb, if_neg fun e => s2 t e hb, if_pos hb]
      · rw [if_neg hb, if_neg hb]
    · rw [c1, d1, a1, b1]
      simp only [hget_append]
      by_cases ha : x ∈ upNs da.up
      · rw [if_pos ha, if_neg (hm.ab x ha).2.1, if_pos ha]
      · simp only [ha, if_false]

/-! ### Runs -/
structure Rec where
  i : Nat
  d : Dl
  f : List Nm
  q : Bool

inductive Run (cf : CF) (raw : FuncId → Bool) (r : Nat) : List (Nat × SOper) → St → List Rec → St → Prop
  | nil (st : St) : Run cf raw r [] st [] st
  | cons (i : Nat) (o : SOper) (rest : List (Nat × SOper)) (st : St) (d : Dl) (f : List Nm) (log : List Rec) (fin : St) (h : outX cf raw r i o st = some (d, f))
      (h2 : Run cf raw r rest (putD o.dst d st.T st.H) log fin) : Run cf raw r ((i, o) :: rest) st (⟨i, d, f, pureS o.op⟩ :: log) fin

theorem Run.eqv {L : List (Nat × SOper)} {st st' fin : St} {log : List Rec} (h : Run cf raw r L st log fin) : Eqv st st' → ∃ fin', Run cf raw r L st' log fin' ∧ Eqv fin fin' := by
  induction h generalizing st' with
  | nil st => exact fun e => ⟨st', .nil st', e⟩
  | cons i o rest st d f log fin h h2 ih =>
    intro e
    obtain ⟨fin', g1, g2⟩ := ih (put_eqv (dst := o.dst) (d := d) e)
    exact ⟨fin', .cons i o rest st' d f log fin' (outX_loc h (fun t _ => (e.t t).symm) (fun x _ => (e.h x).symm) fun _ k hk => by rw [← e.h]; exact hk) g1, g2⟩

/-- Two of the operations may be done in either order. -/
def MeetR (r : Nat) (log : List Rec) (i j : Nat) : Prop := ∀ a ∈ log, ∀ b ∈ log, a.i = i → b.i = j → Meet r i j a.q b.q a.d b.d a.f b.f

theorem Run.front {x : Nat} {ox : SOper} {post : List (Nat × SOper)} : ∀ {pre : List (Nat × SOper)} {st fin : St} {log : List Rec}, Run cf raw r (pre ++ (x, ox) :: post) st log fin →
    (∀ p ∈ pre, apartS p.2 ox = true ∧ MeetR r log p.1 x) → ∃ dx fx log' fin', outX cf raw r x ox st = some (dx, fx) ∧ Run cf raw r (pre ++ post) (putD ox.dst dx st.T st.H) log' fin' ∧ Eqv fin fin' ∧ (∀ q ∈ log', q ∈ log) ∧ (⟨x, dx, fx, pureS ox.op⟩ : Rec) ∈ log
  | [], st, fin, log, h, hp => by
    cases h with
    | cons _ _ _ _ d f log fin h h2 => exact ⟨d, f, log, fin, h, h2, Eqv.refl _, fun q hq => List.mem_cons_of_mem _ hq, List.mem_cons_self⟩
  | (i, o) :: pre, st, fin, log, h, hp => by
    cases h with
    | cons _ _ _ _ d f log fin h h2 =>
      obtain ⟨dx, fx, log', fin', g1, g2, g3, g4, g5⟩ := Run.front h2 fun p hpp => ⟨(hp p (List.mem_cons_of_mem _ hpp)).1, fun a ha b hb => (hp p (List.mem_cons_of_mem _ hpp)).2 a (List.mem_cons_of_mem _ ha) b (List.mem_cons_of_mem _ hb)⟩
      obtain ⟨hap, hm⟩ := hp (i, o) List.mem_cons_self
      obtain ⟨k1, k2, k3⟩ := swap hap (hm ⟨i, d, f, pureS o.op⟩ List.mem_cons_self ⟨x, dx, fx, pureS ox.op⟩ (List.mem_cons_of_mem _ g5) rfl rfl) h g1
      obtain ⟨fin2, m1, m2⟩ := g2.eqv k3
      exact ⟨dx, fx, ⟨i, d, f, pureS o.op⟩ :: log', fin2, k1, .cons i o _ _ d f log' fin2 k2 m1, g3.trans m2, fun q hq => by
        rcases List.mem_cons.1 hq with rfl | hq
        · exact List.mem_cons_self
        · exact List.mem_cons_of_mem _ (g4 q hq), List.mem_cons_of_mem _ g5⟩
end
end Go.Ab
