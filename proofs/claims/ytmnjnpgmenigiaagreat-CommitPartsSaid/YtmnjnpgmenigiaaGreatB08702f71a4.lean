/- A part of the proof: an executor over plain data, shown sound for the model, and what it computes of the functions. -/
import Derived.Test.YtmnjnpgmenigiaaGreatB59d8999ef7
import Derived.Test.YtmnjnpgmenigiaaGreatBac8f6e1429
import Derived.Test.YtmnjnpgmenigiaaGreatSoB
import Derived.Test.YtmnjnpgmenigiaaGreatB25fb81f422
set_option linter.all false
namespace Go.Ab.S
open Go Go.Ab
variable {E : Env} [EnvS E]

def Evl.av (e : Evl) : List AV := [.p (.int .i64 e.node), .p (.int .i64 e.slot), .p (.int .i64 e.seq), .p (.int .i64 e.t.th), .p (.sl 1 (e.t.ns.map (.int .i64))), .p (.sl 3 (e.t.is.map In.pv)), .p (.int .i64 e.k), .p (.int .i64 e.b.c), .p (.str e.b.v), .p (.int .i64 e.p.c), .p (.str e.p.v), .p (.int .i64 e.q.c), .p (.str e.q.v), .p (.int .i64 e.lo), .p (.int .i64 e.hi)]
def av0 : List AV := [.p (.int .i64 0), .p (.int .i64 0), .p (.int .i64 0), .p (.int .i64 0), .nils 1, .nils 3, .p (.int .i64 0), .p (.int .i64 0), .p (.str ByteArray.empty), .p (.int .i64 0), .p (.str ByteArray.empty), .p (.int .i64 0), .p (.str ByteArray.empty), .p (.int .i64 0), .p (.int .i64 0)]
def Bal.zero : Bal := ⟨0, ByteArray.empty⟩
/-- An envelope that only its ranges and ballots can spoil. -/
structure EnvH (e : Evl) : Prop where
  thin : e.t.thin
  head : headE e = true
  k : e.k = 1
  b : finite e.b = true
  p : optional e.p = true
  lo : 0 ≤ e.lo
  hi : e.lo ≤ e.hi
  top : e.hi ≤ e.b.c
theorem validE_end (e : Evl) (h : EnvH { e with lo := 0, hi := 0, q := Bal.zero }) : validE { e with lo := 0, hi := 0, q := Bal.zero } = true := by
  have h1 := h.head
  have h2 := h.k
  have h3 := h.b
  have h4 := h.p
  have h5 := h.top
  have hz : zeroB Bal.zero = true := by decide
  dsimp only at h2 h3 h4 h5
  unfold validE
  rw [h1]
  simp [h2, prepE, primeE, optional, h3, hz]
  constructor
  · simpa [optional] using h4
  · exact h5

theorem chunk76 (l : List Int) (a : Nat) (e : Evl) (h : EnvH e) : ∃ e' : Evl, validE e' = true ∧ e'.node = e.node ∧ e'.slot = e.slot ∧ e'.seq = e.seq ∧ e'.t = e.t ∧ e'.k = e.k ∧ e'.b = e.b ∧ e'.p = e.p ∧
    ∀ T H, tget T 8 = .ptr (.loc 0 0 0) 0 → tget T 9 = .ptr (.loc 1 8 0) 0 → hget H (.ext 0) = some (.box [.p (.sl 1 (l.map (.int .i64))), .p (.int .i64 a)]) → hget H (.loc 0 0 0) = some (.box av0) → hget H (.loc 1 8 0) = some (.box e.av) →
    sexW E 1 (.seq (.seq (.reg 21 [{ dst := some 99, op := .load true 15 (.t 9) }, { dst := some 100, op := .call (.f 82) [.t 99] }, { dst := some 101, op := .un .not (.t 100) }]) (.trim [8, 9] [8] [] [.loc 0 0 0, .loc 1 8 0] (.cond (.t 101) s76_7 .skip))) (.seq (.seq (.reg 23 [{ dst := some 103, op := .load true 15 (.t 9) }, { dst := some 104, op := .call (.f 82) [.t 103] }, { dst := some 105, op := .un .not (.t 104) }]) (.trim [8, 9] [8] [] [.loc 0 0 0, .loc 1 8 0] (.cond (.t 105) s76_8 .skip))) (.seq (.reg 25 [{ dst := some 107, op := .load true 15 (.t 9) }, { dst := some 108, op := .call (.f 82) [.t 107] }, { dst := some 109, op := .un .not (.t 108) }]) (.trim [8, 9] [8] [] [.loc 0 0 0, .loc 1 8 0] (.cond (.t 109) s76_9 .skip))))) ⟨T, H⟩ =
    some (.nrm, ⟨[(8, .ptr (.loc 0 0 0) 0), (9, .ptr (.loc 1 8 0) 0)], [(.ext 0, some (.box [.p (.sl 1 (l.map (.int .i64))), .p (.int .i64 a)])), (.loc 0 0 0, some (.box av0)), (.loc 1 8 0, some (.box e'.av))]⟩) := by
  have v0 := e82 (E := E) e h.thin
  cases c0 : validE e with
  | true =>
    refine ⟨e, c0, rfl, rfl, rfl, rfl, rfl, rfl, rfl, fun T H t8 t9 h0 h1 h2 => ?_⟩
    unfold Evl.pv at v0
    unfold Evl.av av0 at *
    simp -implicitDefEqProofs only [go_sem, s76_7, s76_8, s76_9, t8, t9, h0, h1, h2, v0, c0]
  | false =>
    have v1 := e82 (E := E) { e with lo := 0 } h.thin
    cases c1 : validE { e with lo := 0 } with
    | true =>
      refine ⟨{ e with lo := 0 }, c1, rfl, rfl, rfl, rfl, rfl, rfl, rfl, fun T H t8 t9 h0 h1 h2 => ?_⟩
      unfold Evl.pv at v0 v1
      unfold Evl.av av0 at *
      dsimp only at v1
      simp -implicitDefEqProofs only [go_sem, s76_7, s76_8, s76_9, t8, t9, h0, h1, h2, v0, c0, v1, c1]
    | false =>
      have v2 := e82 (E := E) { e with lo := 0, hi := 0 } h.thin
      cases c2 : validE { e with lo := 0, hi := 0 } with
      | true =>
        refine ⟨{ e with lo := 0, hi := 0 }, c2, rfl, rfl, rfl, rfl, rfl, rfl, rfl, fun T H t8 t9 h0 h1 h2 => ?_⟩
        unfold Evl.pv at v0 v1 v2
        unfold Evl.av av0 at *
        dsimp only at v1 v2
        simp -implicitDefEqProofs only [go_sem, s76_7, s76_8, s76_9, t8, t9, h0, h1, h2, v0, c0, v1, c1, v2, c2]
      | false =>
        have c3 := validE_end e ⟨h.thin, h.head, h.k, h.b, h.p, Int.le_refl 0, Int.le_refl 0, by have := h.lo; have := h.hi; have := h.top; show 0 ≤ e.b.c; omega⟩
        refine ⟨{ e with lo := 0, hi := 0, q := Bal.zero }, c3, rfl, rfl, rfl, rfl, rfl, rfl, rfl, fun T H t8 t9 h0 h1 h2 => ?_⟩
        unfold Evl.pv at v0 v1 v2
        unfold Evl.av av0 at *
        dsimp only at v1 v2
        simp -implicitDefEqProofs only [go_sem, s76_7, s76_8, s76_9, t8, t9, h0, h1, h2, v0, c0, v1, c1, v2, c2, Bal.zero]
/-- An envelope that has its ballots. -/
structure EnvB (e : Evl) : Prop where
  thin : e.t.thin
  head : headE e = true
  k : e.k = 1
  b : finite e.b = true
  p : optional e.p = true
  c1 : 1 ≤ e.b.c
  c7 : e.b.c ≤ 7
theorem chunk76b (l : List Int) (a : Nat) (e : Evl) (h : EnvB e) (hl : l.length ≤ 800) (ha : a ≤ l.length) : ∃ (e' : Evl) (a' : Nat), a' ≤ l.length ∧ validE e' = true ∧ e'.node = e.node ∧ e'.slot = e.slot ∧ e'.seq = e.seq ∧ e'.t = e.t ∧ e'.k = e.k ∧ e'.b = e.b ∧ e'.p = e.p ∧
    ∀ T H, tget T 0 = .ptr (.ext 0) 0 → tget T 8 = .ptr (.loc 0 0 0) 0 → tget T 9 = .ptr (.loc 1 8 0) 0 → hget H (.ext 0) = some (.box [.p (.sl 1 (l.map (.int .i64))), .p (.int .i64 a)]) → hget H (.loc 0 0 0) = some (.box av0) → hget H (.loc 1 8 0) = some (.box e.av) →
    sexW E 1 (.seq (.reg 19 [{ dst := some 86, op := .mv (.t 0) }, { dst := some 87, op := .faddr 7 (.t 9) }, { dst := some 88, op := .faddr 0 (.t 87) }, { dst := some 89, op := .load false 1 (.t 88) }, { dst := some 90, op := .bin .add (.t 89) (.c (.int .i64 (1))) }, { dst := some 91, op := .call (.f 28) [.t 86, .t 90] }, { dst := some 92, op := .faddr 14 (.t 9) }, { dst := none, op := .store 1 (.t 92) (.t 91) }]) (.seq (.reg 20 [{ dst := some 93, op := .mv (.t 0) }, { dst := some 94, op := .faddr 14 (.t 9) }, { dst := some 95, op := .load false 1 (.t 94) }, { dst := some 96, op := .bin .add (.t 95) (.c (.int .i64 (1))) }, { dst := some 97, op := .call (.f 28) [.t 93, .t 96] }, { dst := some 98, op := .faddr 13 (.t 9) }, { dst := none, op := .store 1 (.t 98) (.t 97) }]) (.seq (.seq (.reg 21 [{ dst := some 99, op := .load true 15 (.t 9) }, { dst := some 100, op := .call (.f 82) [.t 99] }, { dst := some 101, op := .un .not (.t 100) }]) (.trim [8, 9] [8] [] [.loc 0 0 0, .loc 1 8 0] (.cond (.t 101) s76_7 .skip))) (.seq (.seq (.reg 23 [{ dst := some 103, op := .load true 15 (.t 9) }, { dst := some 104, op := .call (.f 82) [.t 103] }, { dst := some 105, op := .un .not (.t 104) }]) (.trim [8, 9] [8] [] [.loc 0 0 0, .loc 1 8 0] (.cond (.t 105) s76_8 .skip))) (.seq (.reg 25 [{ dst := some 107, op := .load true 15 (.t 9) }, { dst := some 108, op := .call (.f 82) [.t 107] }, { dst := some 109, op := .un .not (.t 108) }]) (.trim [8, 9] [8] [] [.loc 0 0 0, .loc 1 8 0] (.cond (.t 109) s76_9 .skip))))))) ⟨T, H⟩ =
    some (.nrm, ⟨[(8, .ptr (.loc 0 0 0) 0), (9, .ptr (.loc 1 8 0) 0)], [(.ext 0, some (.box [.p (.sl 1 (l.map (.int .i64))), .p (.int .i64 a')])), (.loc 0 0 0, some (.box av0)), (.loc 1 8 0, some (.box e'.av))]⟩) := by
  have g1 := h.c1
  have g2 := h.c7
  have b1 := dV_nonneg l a (e.b.c + 1)
  have b2 := dV_lt l a (e.b.c + 1) (by omega)
  have b3 := dV_nonneg l (dA l a (e.b.c + 1)) (dV l a (e.b.c + 1) + 1)
  have b4 := dV_lt l (dA l a (e.b.c + 1)) (dV l a (e.b.c + 1) + 1) (by omega)
  have l1 := dA_le l a (e.b.c + 1) ha
  have e1 := e28 (E := E) l a (e.b.c + 1) hl ha (by omega)
  have e2 := e28 (E := E) l (dA l a (e.b.c + 1)) (dV l a (e.b.c + 1) + 1) hl l1 (by omega)
  have w1 : IntKind.i64.wrap (e.b.c + 1) = e.b.c + 1 := wrap64 (by omega) (by omega)
  have w2 : IntKind.i64.wrap (dV l a (e.b.c + 1) + 1) = dV l a (e.b.c + 1) + 1 := wrap64 (by omega) (by omega)
  obtain ⟨e', p1, p2, p3, p4, p5, p6, p7, p8, hc⟩ := chunk76 (E := E) l (dA l (dA l a (e.b.c + 1)) (dV l a (e.b.c + 1) + 1)) { e with hi := dV l a (e.b.c + 1), lo := dV l (dA l a (e.b.c + 1)) (dV l a (e.b.c + 1) + 1) } ⟨h.thin, h.head, h.k, h.b, h.p, b3, Int.lt_add_one_iff.1 b4, by show dV l a (e.b.c + 1) ≤ e.b.c; omega⟩
  refine ⟨e', dA l (dA l a (e.b.c + 1)) (dV l a (e.b.c + 1) + 1), dA_le l _ _ l1, p1, p2, p3, p4, p5, p6, p7, p8, fun T H t0 t8 t9 h0 h1 h2 => ?_⟩
  unfold Evl.av av0 at *
  dsimp only at hc
  simp -implicitDefEqProofs only [go_sem, ↓hc, t0, t8, t9, h0, h1, h2, e1, e2, w1, w2]
theorem valN_cases (k : Int) (h0 : 0 ≤ k) (h4 : k < 4) : valN k = ⟨#[97]⟩ ∨ valN k = ⟨#[98]⟩ ∨ valN k = ⟨#[99]⟩ ∨ valN k = ⟨#[97, 97]⟩ := by
  have : k = 0 ∨ k = 1 ∨ k = 2 ∨ k = 3 := by omega
  rcases this with rfl | rfl | rfl | rfl
  · exact .inl rfl
  · exact .inr (.inl rfl)
  · exact .inr (.inr (.inl rfl))
  · exact .inr (.inr (.inr rfl))
/-- The values that are made. -/
def isVal (v : ByteArray) : Prop := v = ⟨#[97]⟩ ∨ v = ⟨#[98]⟩ ∨ v = ⟨#[99]⟩ ∨ v = ⟨#[97, 97]⟩
theorem isVal_size {v : ByteArray} (h : isVal v) : 1 ≤ (v.size : Int) ∧ (v.size : Int) ≤ 2 := by
  rcases h with rfl | rfl | rfl | rfl <;> decide
theorem isVal_dV (l : List Int) (a : Nat) : isVal (valN (dV l a 4)) := valN_cases _ (dV_nonneg ..) (dV_lt _ _ _ (by decide))
theorem finite_mk {c : Int} {v : ByteArray} (hc : 1 ≤ c) (hc2 : c ≤ 1000) (hv : isVal v) : finite ⟨c, v⟩ = true := by
  have := isVal_size hv
  simp [finite, validB]
  omega
theorem chunk76c (l : List Int) (a : Nat) (e : Evl) (he : headE { e with k := 1 } = true) (hth : e.t.thin) (hv : isVal e.b.v) (hp : e.p = Bal.zero) (hl : l.length ≤ 800) (ha : a ≤ l.length) : ∃ (e' : Evl) (a' : Nat), a' ≤ l.length ∧ validE e' = true ∧ e'.node = e.node ∧ e'.slot = e.slot ∧ e'.seq = e.seq ∧ e'.t = e.t ∧ e'.k = 1 ∧ e'.b.v = e.b.v ∧ 1 ≤ e'.b.c ∧ e'.b.c ≤ 7 ∧
    ∀ T H v0 c0, tget T 0 = .ptr (.ext 0) 0 → tget T 8 = .ptr (.loc 0 0 0) 0 → tget T 9 = .ptr (.loc 1 8 0) 0 → tget T 10 = .p (.str e.b.v) → hget H (.ext 0) = some (.box [.p (.sl 1 (l.map (.int .i64))), .p (.int .i64 a)]) → hget H (.loc 0 0 0) = some (.box av0) → hget H (.loc 1 8 0) = some (.box ({ e with b := ⟨c0, v0⟩ } : Evl).av) →
    sexW E 1 (.seq (.reg 14 [{ dst := some 68, op := .mv (.t 0) }, { dst := some 69, op := .call (.f 31) [.t 68, .c (.int .i64 (1)), .c (.int .i64 (7))] }, { dst := some 70, op := .mv (.t 10) }, { dst := some 71, op := .build [.c (.int .i64 0), .c (.str ByteArray.empty)] [(0, 1, .t 69), (1, 1, .t 70)] }, { dst := some 72, op := .faddr 6 (.t 9) }, { dst := none, op := .store 1 (.t 72) (.c (.int .i64 (1))) }, { dst := some 73, op := .faddr 7 (.t 9) }, { dst := none, op := .store 2 (.t 73) (.t 71) }]) (.seq (.seq (.reg 15 [{ dst := some 74, op := .mv (.t 0) }, { dst := some 75, op := .call (.f 28) [.t 74, .c (.int .i64 (3))] }, { dst := some 76, op := .bin .gtr (.t 75) (.c (.int .i64 (0))) }]) (.trim [0, 8, 9] [8] [] [.loc 0 0 0, .loc 1 8 0] (.cond (.t 76) s76_6 .skip))) (.seq (.reg 19 [{ dst := some 86, op := .mv (.t 0) }, { dst := some 87, op := .faddr 7 (.t 9) }, { dst := some 88, op := .faddr 0 (.t 87) }, { dst := some 89, op := .load false 1 (.t 88) }, { dst := some 90, op := .bin .add (.t 89) (.c (.int .i64 (1))) }, { dst := some 91, op := .call (.f 28) [.t 86, .t 90] }, { dst := some 92, op := .faddr 14 (.t 9) }, { dst := none, op := .store 1 (.t 92) (.t 91) }]) (.seq (.reg 20 [{ dst := some 93, op := .mv (.t 0) }, { dst := some 94, op := .faddr 14 (.t 9) }, { dst := some 95, op := .load false 1 (.t 94) }, { dst := some 96, op := .bin .add (.t 95) (.c (.int .i64 (1))) }, { dst := some 97, op := .call (.f 28) [.t 93, .t 96] }, { dst := some 98, op := .faddr 13 (.t 9) }, { dst := none, op := .store 1 (.t 98) (.t 97) }]) (.seq (.seq (.reg 21 [{ dst := some 99, op := .load true 15 (.t 9) }, { dst := some 100, op := .call (.f 82) [.t 99] }, { dst := some 101, op := .un .not (.t 100) }]) (.trim [8, 9] [8] [] [.loc 0 0 0, .loc 1 8 0] (.cond (.t 101) s76_7 .skip))) (.seq (.seq (.reg 23 [{ dst := some 103, op := .load true 15 (.t 9) }, { dst := some 104, op := .call (.f 82) [.t 103] }, { dst := some 105, op := .un .not (.t 104) }]) (.trim [8, 9] [8] [] [.loc 0 0 0, .loc 1 8 0] (.cond (.t 105) s76_8 .skip))) (.seq (.reg 25 [{ dst := some 107, op := .load true 15 (.t 9) }, { dst := some 108, op := .call (.f 82) [.t 107] }, { dst := some 109, op := .un .not (.t 108) }]) (.trim [8, 9] [8] [] [.loc 0 0 0, .loc 1 8 0] (.cond (.t 109) s76_9 .skip))))))))) ⟨T, H⟩ =
    some (.nrm, ⟨[(8, .ptr (.loc 0 0 0) 0), (9, .ptr (.loc 1 8 0) 0)], [(.ext 0, some (.box [.p (.sl 1 (l.map (.int .i64))), .p (.int .i64 a')])), (.loc 0 0 0, some (.box av0)), (.loc 1 8 0, some (.box e'.av))]⟩) := by
  have e1 := e31 (E := E) l a 1 7 hl ha (by omega) (by omega) (by omega) (by omega)
  simp only [show (7 : Int) - 1 + 1 = 7 from rfl] at e1
  have l1 := dA_le l a 7 ha
  have e2 := e28 (E := E) l (dA l a 7) 3 hl l1 (by omega)
  have l2 := dA_le l _ 3 l1
  have b1 := dV_nonneg l a 7
  have b2 := dV_lt l a 7 (by decide)
  have fb : finite ⟨1 + dV l a 7, e.b.v⟩ = true := finite_mk (by omega) (by omega) hv
  have oz : optional Bal.zero = true := by decide
  generalize hx2 : dA l (dA l a 7) 3 = x2 at *
  by_cases c1 : 0 < dV l (dA l a 7) 3
  · have e3 := e39 (E := E) l x2 hl l2
    have l3 := dA_le l _ 6 l2
    have l4 := dA_le l _ 4 l3
    have fp : optional ⟨1 + dV l x2 6, valN (dV l (dA l x2 6) 4)⟩ = true := by
      have d1 := dV_nonneg l x2 6
      have d2 := dV_lt l x2 6 (by decide)
      have := finite_mk (c := 1 + dV l x2 6) (by omega) (by omega) (isVal_dV l (dA l x2 6))
      simp [finite] at this
      simp [optional, this.1]
    generalize hx4 : dA l (dA l x2 6) 4 = x4 at *
    have e4 := e28 (E := E) l x4 2 hl l4 (by omega)
    have l5 := dA_le l _ 2 l4
    generalize hx5 : dA l x4 2 = x5 at *
    by_cases c2 : dV l x4 2 = 1
    · have e5 := e39 (E := E) l x5 hl l5
      have l6 := dA_le l _ 6 l5
      have l7 := dA_le l _ 4 l6
      obtain ⟨e', a', q0, q1, q2, q3, q4, q5, q6, q7, q8, hc⟩ := chunk76b (E := E) l (dA l (dA l x5 6) 4) { e with k := 1, b := ⟨1 + dV l a 7, e.b.v⟩, p := ⟨1 + dV l x2 6, valN (dV l (dA l x2 6) 4)⟩, q := ⟨1 + dV l x5 6, valN (dV l (dA l x5 6) 4)⟩ } ⟨hth, he, rfl, fb, fp, by show 1 ≤ 1 + dV l a 7; omega, by show 1 + dV l a 7 ≤ 7; omega⟩ hl l7
      refine ⟨e', a', q0, q1, q2, q3, q4, q5, q6, by rw [q7], by rw [q7]; show 1 ≤ 1 + dV l a 7; omega, by rw [q7]; show 1 + dV l a 7 ≤ 7; omega, fun T H v0 c0 t0 t8 t9 t10 h0 h1 h2 => ?_⟩
      unfold Evl.av av0 at *
      dsimp only at hc h2
      simp -implicitDefEqProofs only [go_sem, ↓hc, s76_5, s76_6, t0, t8, t9, t10, h0, h1, h2, e1, e2, e3, e4, e5, c1, c2]
    · obtain ⟨e', a', q0, q1, q2, q3, q4, q5, q6, q7, q8, hc⟩ := chunk76b (E := E) l x5 { e with k := 1, b := ⟨1 + dV l a 7, e.b.v⟩, p := ⟨1 + dV l x2 6, valN (dV l (dA l x2 6) 4)⟩ } ⟨hth, he, rfl, fb, fp, by show 1 ≤ 1 + dV l a 7; omega, by show 1 + dV l a 7 ≤ 7; omega⟩ hl l5
      refine ⟨e', a', q0, q1, q2, q3, q4, q5, q6, by rw [q7], by rw [q7]; show 1 ≤ 1 + dV l a 7; omega, by rw [q7]; show 1 + dV l a 7 ≤ 7; omega, fun T H v0 c0 t0 t8 t9 t10 h0 h1 h2 => ?_⟩
      unfold Evl.av av0 at *
      dsimp only at hc h2
      simp -implicitDefEqProofs only [go_sem, ↓hc, s76_5, s76_6, t0, t8, t9, t10, h0, h1, h2, e1, e2, e3, e4, c1, c2]
  · obtain ⟨e', a', q0, q1, q2, q3, q4, q5, q6, q7, q8, hc⟩ := chunk76b (E := E) l x2 { e with k := 1, b := ⟨1 + dV l a 7, e.b.v⟩ } ⟨hth, he, rfl, fb, by show optional e.p = true; rw [hp]; exact oz, by show 1 ≤ 1 + dV l a 7; omega, by show 1 + dV l a 7 ≤ 7; omega⟩ hl l2
    refine ⟨e', a', q0, q1, q2, q3, q4, q5, q6, by rw [q7], by rw [q7]; show 1 ≤ 1 + dV l a 7; omega, by rw [q7]; show 1 + dV l a 7 ≤ 7; omega, fun T H v0 c0 t0 t8 t9 t10 h0 h1 h2 => ?_⟩
    unfold Evl.av av0 at *
    dsimp only at hc h2
    simp -implicitDefEqProofs only [go_sem, ↓hc, s76_5, s76_6, t0, t8, t9, t10, h0, h1, h2, e1, e2, c1]
end Go.Ab.S

namespace Go.Ab.S
open Go Go.Ab
variable {E : Env} [EnvS E]

/-- The envelopes that are made. -/
structure EnvG (n : Nat) (e : Evl) : Prop where
  valid : validE e = true
  t : TrG n e.t
  s1 : 1 ≤ e.seq
  s9 : e.seq ≤ 9
  v : isVal e.b.v
  c1 : 1 ≤ e.b.c
  c7 : e.b.c ≤ 7
set_option maxHeartbeats 1000000 in
theorem e76 (l : List Int) (a : Nat) (node slot : Int) (n : Nat) (hl : l.length ≤ 800) (ha : a ≤ l.length) (hn : 1 ≤ n) (hn' : n ≤ 10) (hd : 0 ≤ node) (hd' : node < 10) (hs : 1 ≤ slot) (hs' : slot ≤ 1000000) :
    ∃ (e : Evl) (a' : Nat), a' ≤ l.length ∧ EnvG n e ∧ e.node = node ∧ e.slot = slot ∧ callW E 76 [.ptr (.ext 0) 0, .p (.int .i64 node), .p (.int .i64 slot), .p (.int .i64 n)] [.box [.p (.sl 1 (l.map (.int .i64))), .p (.int .i64 a)]] = some ⟨.p e.pv, [.box [.p (.sl 1 (l.map (.int .i64))), .p (.int .i64 a')]], []⟩ := by
  have e1 := e31 (E := E) l a 1 9 hl ha (by omega) (by omega) (by omega) (by omega)
  simp only [show (9 : Int) - 1 + 1 = 9 from rfl] at e1
  have l1 := dA_le l a 9 ha
  have b1 := dV_nonneg l a 9
  have b2 := dV_lt l a 9 (by decide)
  have e2 := e29 (E := E) l (dA l a 9) n hl l1 hn' hn
  have l2 := trG_le l (dA l a 9) n l1
  have tg := trG_ok l (dA l a 9) n hn hn'
  generalize htt : trG l (dA l a 9) n = tt at *
  obtain ⟨t, x2⟩ := tt
  dsimp only at e2 l2 tg
  have e3 := e30 (E := E) l x2 hl l2
  have l3 := dA_le l x2 4 l2
  have hv := isVal_dV l x2
  generalize hvv : valN (dV l x2 4) = v at *
  generalize hx3 : dA l x2 4 = x3 at *
  have e4 := e28 (E := E) l x3 4 hl l3 (by omega)
  have l4 := dA_le l x3 4 l3
  generalize hx4 : dA l x3 4 = x4 at *
  have b3 := dV_nonneg l x3 4
  generalize hsw : dV l x3 4 = sw at *
  have hz : zeroB Bal.zero = true := by decide
  have hh : ∀ k b p q lo hi, headE ⟨node, slot, 1 + dV l a 9, t, k, b, p, q, lo, hi⟩ = true := by
    intro k b p q lo hi
    simp [headE, tg.ok]
    omega
  by_cases c0 : sw = 0
  · -- commit
    have f1 := e31 (E := E) l x4 1 7 hl l4 (by omega) (by omega) (by omega) (by omega)
    simp only [show (7 : Int) - 1 + 1 = 7 from rfl] at f1
    have m1 := dA_le l x4 7 l4
    have d1 := dV_nonneg l x4 7
    have d1' := dV_lt l x4 7 (by decide)
    generalize hx5 : dA l x4 7 = x5 at *
    have f2 := e31 (E := E) l x5 1 4 hl m1 (by omega) (by omega) (by omega) (by omega)
    simp only [show (4 : Int) - 1 + 1 = 4 from rfl] at f2
    have m2 := dA_le l x5 4 m1
    have d2 := dV_nonneg l x5 4
    have d2' := dV_lt l x5 4 (by decide)
    generalize hx6 : dA l x5 4 = x6 at *
    have f3 := e28 (E := E) l x6 3 hl m2 (by omega)
    have m3 := dA_le l x6 3 m2
    have d3 := dV_nonneg l x6 3
    have d3' := dV_lt l x6 3 (by decide)
    generalize hx7 : dA l x6 3 = x7 at *
    have f4 := e28 (E := E) l x7 3 hl m3 (by omega)
    have m4 := dA_le l x7 3 m3
    have d4 := dV_nonneg l x7 3
    have d4' := dV_lt l x7 3 (by decide)
    generalize hx8 : dA l x7 3 = x8 at *
    have w1 : IntKind.i64.wrap (1 + dV l x5 4 + dV l x6 3) = 1 + dV l x5 4 + dV l x6 3 := wrap64 (by omega) (by omega)
    have w2 : IntKind.i64.wrap (1 + dV l x5 4 + dV l x6 3 + dV l x7 3) = 1 + dV l x5 4 + dV l x6 3 + dV l x7 3 := wrap64 (by omega) (by omega)
    refine ⟨⟨node, slot, 1 + dV l a 9, t, 2, ⟨1 + dV l x4 7, v⟩, ⟨1 + dV l x5 4 + dV l x6 3 + dV l x7 3, v⟩, Bal.zero, 1 + dV l x5 4, 1 + dV l x5 4 + dV l x6 3⟩, x8, m4, ⟨?_, tg, by show 1 ≤ 1 + dV l a 9; omega, by show 1 + dV l a 9 ≤ 9; omega, hv, by show 1 ≤ 1 + dV l x4 7; omega, by show 1 + dV l x4 7 ≤ 7; omega⟩, rfl, rfl, ?_⟩
    · have q1 := finite_mk (c := 1 + dV l x4 7) (by omega) (by omega) hv
      have q2 := finite_mk (c := 1 + dV l x5 4 + dV l x6 3 + dV l x7 3) (by omega) (by omega) hv
      simp only [finite, Bool.and_eq_true] at q2
      unfold validE
      rw [hh]
      simp [q1, q2.1, hz, ranged]
      omega
    · rw [callW_eq, EnvS.h 76 F76 rfl]
      unfold Evl.pv
      simp only [Tr.pv] at e2
      simp -implicitDefEqProofs only [go_sem, F76, s76, s76_10, s76_4, s76_2, s76_1, s76_3, s76_6, s76_5, s76_7, s76_8, s76_9, e1, e2, e3, e4, c0, f1, f2, f3, f4, w1, w2, Bal.zero]
  · have dflt := chunk76c (E := E) l
    by_cases c1 : sw = 1
    · have f0 := e28 (E := E) l x4 3 hl l4 (by omega)
      have m0 := dA_le l x4 3 l4
      generalize hy0 : dA l x4 3 = y0 at *
      by_cases c2 : 0 < dV l x4 3
      · -- external
        have f1 := e31 (E := E) l y0 1 7 hl m0 (by omega) (by omega) (by omega) (by omega)
        simp only [show (7 : Int) - 1 + 1 = 7 from rfl] at f1
        have m1 := dA_le l y0 7 m0
        have d1 := dV_nonneg l y0 7
        have d1' := dV_lt l y0 7 (by decide)
        generalize hx5 : dA l y0 7 = x5 at *
        have f2 := e31 (E := E) l x5 1 4 hl m1 (by omega) (by omega) (by omega) (by omega)
        simp only [show (4 : Int) - 1 + 1 = 4 from rfl] at f2
        have m2 := dA_le l x5 4 m1
        have d2 := dV_nonneg l x5 4
        have d2' := dV_lt l x5 4 (by decide)
        generalize hx6 : dA l x5 4 = x6 at *
        have f3 := e28 (E := E) l x6 3 hl m2 (by omega)
        have m3 := dA_le l x6 3 m2
        have d3 := dV_nonneg l x6 3
        have d3' := dV_lt l x6 3 (by decide)
        generalize hx7 : dA l x6 3 = x7 at *
        have w1 : IntKind.i64.wrap (1 + dV l x5 4 + dV l x6 3) = 1 + dV l x5 4 + dV l x6 3 := wrap64 (by omega) (by omega)
        refine ⟨⟨node, slot, 1 + dV l a 9, t, 3, ⟨1 + dV l y0 7, v⟩, Bal.zero, Bal.zero, 1 + dV l x5 4, 1 + dV l x5 4 + dV l x6 3⟩, x7, m3, ⟨?_, tg, by show 1 ≤ 1 + dV l a 9; omega, by show 1 + dV l a 9 ≤ 9; omega, hv, by show 1 ≤ 1 + dV l y0 7; omega, by show 1 + dV l y0 7 ≤ 7; omega⟩, rfl, rfl, ?_⟩
        · have q1 := finite_mk (c := 1 + dV l y0 7) (by omega) (by omega) hv
          simp only [finite, Bool.and_eq_true] at q1
          unfold validE
          rw [hh]
          simp [q1.1, hz, ranged]
          omega
        · rw [callW_eq, EnvS.h 76 F76 rfl]
          unfold Evl.pv
          simp only [Tr.pv] at e2
          simp -implicitDefEqProofs only [go_sem, F76, s76, s76_10, s76_4, s76_2, s76_1, s76_3, s76_6, s76_5, s76_7, s76_8, s76_9, e1, e2, e3, e4, c0, c1, c2, f0, f1, f2, f3, w1, Bal.zero]
      · obtain ⟨e', a', q0, q1, q2, q3, q4, q5, q6, q7, q8, q9, hc⟩ := dflt y0 ⟨node, slot, 1 + dV l a 9, t, 0, ⟨0, v⟩, Bal.zero, Bal.zero, 0, 0⟩ (hh ..) tg.thin hv rfl hl m0
        refine ⟨e', a', q0, ⟨q1, by rw [q5]; exact tg, by rw [q4]; show 1 ≤ 1 + dV l a 9; omega, by rw [q4]; show 1 + dV l a 9 ≤ 9; omega, by rw [q7]; exact hv, q8, q9⟩, q2, q3, ?_⟩
        rw [callW_eq, EnvS.h 76 F76 rfl]
        simp only [Tr.pv] at e2
        unfold Evl.pv
        replace hc := fun T H => hc T H ByteArray.empty 0
        unfold Evl.av av0 Bal.zero at hc
        dsimp only at hc
        simp -implicitDefEqProofs only [go_sem, ↓hc, F76, s76, s76_10, s76_4, s76_2, s76_1, s76_3, e1, e2, e3, e4, c0, c1, c2, f0, tg.thin]
    · obtain ⟨e', a', q0, q1, q2, q3, q4, q5, q6, q7, q8, q9, hc⟩ := dflt x4 ⟨node, slot, 1 + dV l a 9, t, 0, ⟨0, v⟩, Bal.zero, Bal.zero, 0, 0⟩ (hh ..) tg.thin hv rfl hl l4
      refine ⟨e', a', q0, ⟨q1, by rw [q5]; exact tg, by rw [q4]; show 1 ≤ 1 + dV l a 9; omega, by rw [q4]; show 1 + dV l a 9 ≤ 9; omega, by rw [q7]; exact hv, q8, q9⟩, q2, q3, ?_⟩
      rw [callW_eq, EnvS.h 76 F76 rfl]
      simp only [Tr.pv] at e2
      unfold Evl.pv
      replace hc := fun T H => hc T H ByteArray.empty 0
      unfold Evl.av av0 Bal.zero at hc
      dsimp only at hc
      simp -implicitDefEqProofs only [go_sem, ↓hc, F76, s76, s76_10, s76_4, s76_2, s76_1, s76_3, e1, e2, e3, e4, c0, c1, tg.thin]
end Go.Ab.S

namespace Go.Ab.S
open Go Go.Ab
/-! ### Sorted lists in which nothing stands twice -/
section
variable {α : Type} [DecidableEq α] [Inhabited α] {lt : α → α → Bool}
theorem keepNew_sub : ∀ {l : List α} {a x : α}, x ∈ keepNew a l → x ∈ l
  | [], a, x, h => by simp [keepNew] at h
  | y :: r, a, x, h => by
    unfold keepNew at h
    by_cases e : y = a
    · rw [if_pos e] at h
      exact List.mem_cons_of_mem _ (keepNew_sub h)
    · rw [if_neg e] at h
      rcases List.mem_cons.1 h with h | h
      · subst h; exact List.mem_cons_self
      · exact List.mem_cons_of_mem _ (keepNew_sub h)
theorem keepNew_mem : ∀ {l : List α} {a x : α}, x ∈ l → x = a ∨ x ∈ keepNew a l
  | [], a, x, h => by cases h
  | y :: r, a, x, h => by
    unfold keepNew
    by_cases e : y = a
    · rw [if_pos e]
      rcases List.mem_cons.1 h with h | h
      · exact .inl (h.trans e)
      · subst e; exact keepNew_mem h
    · rw [if_neg e]
      rcases List.mem_cons.1 h with h | h
      · subst h; exact .inr List.mem_cons_self
      · rcases keepNew_mem (a := y) h with h | h
        · subst h; exact .inr List.mem_cons_self
        · exact .inr (List.mem_cons_of_mem _ h)
theorem compactL_mem {l : List α} {x : α} : x ∈ compactL l ↔ x ∈ l := by
  cases l with
  | nil => simp [compactL]
  | cons a r =>
    simp only [compactL, List.mem_cons]
    constructor
    · rintro (h | h)
      · exact .inl h
      · exact .inr (keepNew_sub h)
    · rintro (h | h)
      · exact .inl h
      · exact keepNew_mem h
theorem keepNew_sorted (hs : Go.Sort.SWO lt) (ht : ∀ x y, lt x y = false → lt y x = false → x = y) : ∀ {l : List α} {a : α}, (a :: l).Pairwise (fun x y => lt y x = false) → (a :: keepNew a l).Pairwise (fun x y => lt x y = true)
  | [], a, _ => by simp [keepNew]
  | y :: r, a, h => by
    obtain ⟨h1, h2⟩ := List.pairwise_cons.1 h
    unfold keepNew
    split
    · rename_i e
      subst e
      exact keepNew_sorted hs ht h2
    · rename_i e
      have ih := keepNew_sorted hs ht h2
      refine List.pairwise_cons.2 ⟨fun z hz => ?_, ih⟩
      have hay : lt a y = true := by
        cases hl : lt a y with
        | true => rfl
        | false => exact absurd (ht a y hl (h1 y List.mem_cons_self)).symm e
      rcases List.mem_cons.1 hz with rfl | hz
      · exact hay
      · exact hs.trans _ _ _ hay ((List.pairwise_cons.1 ih).1 z hz)
/-- A list sorted, what stands twice left out. -/
def uniqG (lt : α → α → Bool) (l : List α) : List α := compactL (Go.Sort.sort lt l.toArray).toList
theorem sort_mem (hs : Go.Sort.SWO lt) {l : List α} {x : α} : x ∈ (Go.Sort.sort lt l.toArray).toList ↔ x ∈ l := by
  obtain ⟨⟨h1, _, h2⟩, _⟩ := Go.Sort.sort_sorts lt hs l.toArray
  have e1 : (l.toArray.extract 0 l.toArray.size).toList = l := by simp
  have e2 : ((Go.Sort.sort lt l.toArray).extract 0 l.toArray.size) = Go.Sort.sort lt l.toArray := by rw [← h1]; simp
  rw [e1, e2] at h2
  exact h2.mem_iff
theorem uniqG_mem (hs : Go.Sort.SWO lt) {l : List α} {x : α} : x ∈ uniqG lt l ↔ x ∈ l := by
  unfold uniqG
  rw [compactL_mem, sort_mem hs]
theorem uniqG_sorted (hs : Go.Sort.SWO lt) (ht : ∀ x y, lt x y = false → lt y x = false → x = y) (l : List α) : (uniqG lt l).Pairwise (fun x y => lt x y = true) := by
  obtain ⟨⟨h1, _, _⟩, h3⟩ := Go.Sort.sort_sorts lt hs l.toArray
  have hp : (Go.Sort.sort lt l.toArray).toList.Pairwise (fun x y => lt y x = false) := by
    rw [List.pairwise_iff_getElem]
    intro i j hi hj hij
    have hi' : i < (Go.Sort.sort lt l.toArray).size := by simpa using hi
    have hj' : j < (Go.Sort.sort lt l.toArray).size := by simpa using hj
    have := h3 i j (by omega) hij (by omega)
    simpa [hi', hj'] using this
  unfold uniqG
  generalize (Go.Sort.sort lt l.toArray).toList = m at hp
  cases m with
  | nil => simp [compactL]
  | cons a r => exact keepNew_sorted hs ht hp
theorem keepNew_len : ∀ (l : List α) (a : α), (keepNew a l).length ≤ l.length
  | [], a => Nat.le_refl _
  | y :: r, a => by
    unfold keepNew
    split
    · have := keepNew_len r y; simp; omega
    · have := keepNew_len r y; simp; omega
theorem uniqG_len (hs : Go.Sort.SWO lt) (l : List α) : (uniqG lt l).length ≤ l.length := by
  have h : (Go.Sort.sort lt l.toArray).toList.length = l.length := by
    have := (Go.Sort.sort_sorts lt hs l.toArray).1.1
    simpa using this
  unfold uniqG
  generalize (Go.Sort.sort lt l.toArray).toList = m at h
  cases m with
  | nil => simp [compactL]
  | cons a r => simp only [compactL, List.length_cons] at h ⊢; have := keepNew_len r a; omega
/-- Two such lists with the same elements are one. -/
theorem sorted_ext (hi : ∀ x, lt x x = false) (htr : ∀ x y z, lt x y = true → lt y z = true → lt x z = true) : ∀ {l m : List α}, l.Pairwise (fun x y => lt x y = true) → m.Pairwise (fun x y => lt x y = true) → (∀ x, x ∈ l ↔ x ∈ m) → l = m
  | [], [], _, _, _ => rfl
  | [], y :: m, _, _, h => absurd ((h y).2 List.mem_cons_self) (by simp)
  | x :: l, [], _, _, h => absurd ((h x).1 List.mem_cons_self) (by simp)
  | x :: l, y :: m, hl, hm, h => by
    obtain ⟨l1, l2⟩ := List.pairwise_cons.1 hl
    obtain ⟨m1, m2⟩ := List.pairwise_cons.1 hm
    have e : x = y := by
      rcases List.mem_cons.1 ((h x).1 List.mem_cons_self) with e | hx
      · exact e
      · rcases List.mem_cons.1 ((h y).2 List.mem_cons_self) with e | hy
        · exact e.symm
        · have := htr _ _ _ (m1 x hx) (l1 y hy)
          rw [hi] at this; cases this
    subst e
    congr 1
    refine sorted_ext hi htr l2 m2 fun z => ⟨fun hz => ?_, fun hz => ?_⟩
    · rcases List.mem_cons.1 ((h z).1 (List.mem_cons_of_mem _ hz)) with rfl | hz'
      · have := l1 z hz
        rw [hi] at this; cases this
      · exact hz'
    · rcases List.mem_cons.1 ((h z).2 (List.mem_cons_of_mem _ hz)) with rfl | hz'
      · have := m1 z hz
        rw [hi] at this; cases this
      · exact hz'
end
theorem uniqI_eq (l : List Int) : uniqI l = uniqG ltI l := rfl
end Go.Ab.S

namespace Go.Ab.S
open Go Go.Ab
variable {E : Env} [EnvS E]

/-! ### Envelopes of some nodes -/
structure EnvLs (i : Nat) (es : List Evl) : Prop where
  len : es.length ≤ i
  g : ∀ e ∈ es, EnvG 5 e ∧ e.slot = 1 ∧ 0 ≤ e.node ∧ e.node < i
  asc : es.Pairwise fun a b => a.node < b.node
theorem EnvLs.nil : EnvLs 0 [] := ⟨Nat.le_refl _, (fun _ h => by cases h), List.Pairwise.nil⟩
theorem EnvLs.skip {i : Nat} {es : List Evl} (h : EnvLs i es) : EnvLs (i + 1) es := ⟨by have := h.len; omega, fun e he => by obtain ⟨h1, h2, h3, h4⟩ := h.g e he; exact ⟨h1, h2, h3, by omega⟩, h.asc⟩
theorem EnvLs.add {i : Nat} {es : List Evl} (h : EnvLs i es) {e : Evl} (g : EnvG 5 e) (hs : e.slot = 1) (hn : e.node = (i : Int)) : EnvLs (i + 1) (es ++ [e]) := by
  refine ⟨by have := h.len; simp; omega, fun e' he => ?_, ?_⟩
  · rcases List.mem_append.1 he with he | he
    · obtain ⟨h1, h2, h3, h4⟩ := h.g e' he; exact ⟨h1, h2, h3, by omega⟩
    · rw [List.mem_singleton.1 he]; exact ⟨g, hs, by omega, by omega⟩
  · refine List.pairwise_append.2 ⟨h.asc, by simp, fun a ha b hb => ?_⟩
    rw [List.mem_singleton.1 hb, hn]
    exact (h.g a ha).2.2.2
theorem EnvLs.thin {i : Nat} {es : List Evl} (h : EnvLs i es) : ∀ e ∈ es, e.t.thin := fun e he => (h.g e he).1.t.thin
theorem EnvLs.valid {i : Nat} {es : List Evl} (h : EnvLs i es) : ∀ e ∈ es, validE e = true := fun e he => (h.g e he).1.valid
theorem loop18 (l : List Int) (hl : l.length ≤ 800) : ∀ (k i a : Nat) (es : List Evl), i + k = 5 → a ≤ l.length → EnvLs i es →
    ∃ (es' : List Evl) (a' : Nat), a' ≤ l.length ∧ EnvLs 5 es' ∧
    loopW E 1 [0, 1, 2, 7, 8] [.loc 1 0 0] (.trim [0, 1, 2, 7, 8] [6] [(0, [7])] [.loc 1 0 0] s18_3) (some ⟨[(0, .ptr (.ext 0) 0), (1, .p (.int .i64 5)), (2, .p (.int .i64 1)), (7, .hsl (.loc 1 0 0) 0 es.length), (8, .p (.int .i64 i))], [(.ext 0, some (.box [.p (.sl 1 (l.map (.int .i64))), .p (.int .i64 a)])), (.loc 1 0 0, some (.parr (es.map Evl.pv) 15 false))]⟩) =
    some (.ex 0, ⟨[(7, .hsl (.loc 1 0 0) 0 es'.length)], [(.ext 0, some (.box [.p (.sl 1 (l.map (.int .i64))), .p (.int .i64 a')])), (.loc 1 0 0, some (.parr (es'.map Evl.pv) 15 false))]⟩) := by
  generalize hK : loopW E 1 _ _ _ = K
  intro k
  induction k with
  | zero =>
    intro i a es hi ha hI
    have : i = 5 := by omega
    subst this
    refine ⟨es, a, ha, hI, ?_⟩
    rw [← hK, loopW_some, hK]
    simp -implicitDefEqProofs only [go_sem, s18_3, s18_2, s18_1]
  | succ k ih =>
    intro i a es hi ha hI
    have f1 : (i : Int) < 5 := by omega
    have f3 : IntKind.i64.wrap ((i : Int) + 1) = ((i + 1 : Nat) : Int) := wrap64 (by omega) (by omega)
    have e1 := e28 (E := E) l a 4 hl ha (by decide)
    have b1 := dV_nonneg l a 4
    have l1 := dA_le l a 4 ha
    by_cases h : 0 < dV l a 4
    · obtain ⟨e, a2, l2, g, n1, n2, e2⟩ := e76 (E := E) l (dA l a 4) i 1 5 hl l1 (by decide) (by decide) (by omega) (by omega) (by omega) (by omega)
      obtain ⟨es', a', r1, r2, r3⟩ := ih (i + 1) a2 (es ++ [e]) (by omega) l2 (hI.add g n2 n1)
      refine ⟨es', a', r1, r2, ?_⟩
      have hm : es.length + 1 ≤ most := by have := hI.len; unfold most; omega
      rw [List.map_append, List.length_append] at r3
      simp only [List.map_cons, List.map_nil, List.length_cons, List.length_nil, Nat.zero_add] at r3
      rw [show ((5 : Nat) : Int) = 5 from rfl] at e2
      unfold Evl.pv at *
      rw [← hK, loopW_some, hK]
      simp -implicitDefEqProofs only [go_sem, s18_3, s18_2, s18_1, f1, f3, e1, h, e2, hm]
      exact r3
    · obtain ⟨es', a', r1, r2, r3⟩ := ih (i + 1) (dA l a 4) es (by omega) l1 hI.skip
      refine ⟨es', a', r1, r2, ?_⟩
      rw [← hK, loopW_some, hK]
      simp -implicitDefEqProofs only [go_sem, s18_3, s18_2, s18_1, f1, f3, e1, h]
      exact r3
theorem e18 (l : List Int) (a : Nat) (hl : l.length ≤ 800) (ha : a ≤ l.length) : ∃ (es : List Evl) (a' : Nat), a' ≤ l.length ∧ EnvLs 5 es ∧
    callW E 18 [.ptr (.ext 0) 0, .p (.int .i64 5), .p (.int .i64 1)] [.box [.p (.sl 1 (l.map (.int .i64))), .p (.int .i64 a)]] = some ⟨.p (.sl 15 (es.map Evl.pv)), [.box [.p (.sl 1 (l.map (.int .i64))), .p (.int .i64 a')]], []⟩ := by
  obtain ⟨es, a', r1, r2, lp⟩ := loop18 (E := E) l hl 5 0 a [] (by omega) ha EnvLs.nil
  refine ⟨es, a', r1, r2, ?_⟩
  simp only [Int.natCast_zero, List.length_nil, List.map_nil] at lp
  rw [callW_eq, EnvS.h 18 F18 rfl]
  simp -implicitDefEqProofs only [go_sem, F18, s18, s18_4, lp]

/-! ### What the lists are -/
theorem bndsN_sorted (l : List Evl) (v : ByteArray) : (bndsN l v).Pairwise fun x y => x < y := by
  have := uniqG_sorted swo_ltI (fun x y h1 h2 => by simp [ltI] at h1 h2; omega) (bndL v l)
  simpa [ltI, bndsN, uniqI_eq] using this
theorem bndsN_mem {l : List Evl} {v : ByteArray} {n : Int} : n ∈ bndsN l v ↔ ∃ e ∈ l, bndP v e = true ∧ (n = e.lo ∨ n = e.hi) := by
  unfold bndsN
  rw [uniqI_eq, uniqG_mem swo_ltI]
  simp only [bndL, List.mem_flatMap, List.mem_filter, List.mem_cons, List.not_mem_nil, or_false]
  constructor
  · rintro ⟨e, ⟨h1, h2⟩, h3⟩; exact ⟨e, h1, h2, h3⟩
  · rintro ⟨e, h1, h2, h3⟩; exact ⟨e, ⟨h1, h2⟩, h3⟩
end Go.Ab.S

namespace Go.Ab.S
open Go Go.Ab
variable {E : Env} [EnvS E]
theorem exts_seven (H : Hp) : exts H 0 7 = [(.ext 0, hget H (.ext 0)), (.ext 1, hget H (.ext 1)), (.ext 2, hget H (.ext 2)), (.ext 3, hget H (.ext 3)), (.ext 4, hget H (.ext 4)), (.ext 5, hget H (.ext 5)), (.ext 6, hget H (.ext 6))] := _root_.id rfl
attribute [go_sem] exts_seven
/-- The greatest of the first k bounds that is confirmed, and the range downward. -/
def finK (P : Int → Int → Bool) (zs : List Int) : Nat → Option (Int × Int)
  | 0 => none
  | k + 1 => match zs[k]? with
    | none => none
    | some z => if P z z = true then some (downK (fun y => P y z) zs zs.length z, z) else finK P zs k
def finV : Option (Int × Int) → AV
  | none => .tup [.p (.int .i64 0), .p (.int .i64 0), .p (.bool false)]
  | some (a, b) => .tup [.p (.int .i64 a), .p (.int .i64 b), .p (.bool true)]
theorem bndsN_le (l : List Evl) (v : ByteArray) : (bndsN l v).length ≤ 2 * l.length := by
  have h1 := uniqG_len swo_ltI (bndL v l)
  have h2 := bndL_len v l
  unfold bndsN
  rw [uniqI_eq]; omega
def sureB (ms : List Mem) (node : Nat) (l : List Evl) (v : ByteArray) (y z : Int) : Bool := (great ms (who (accC · v y z) l)).testBit node
theorem lp38 (node : Nat) (hnode : node < 10) (ms : List Mem) (hc : ConfOk ms) (v : ByteArray) (l : List Evl) (hl : l.length < 4000) (hn : nodesOk l) (zs : List Int) (hz : zs.length ≤ most) :
    ∀ (ns : List Nm) (T : Tm), ns = [.loc 0 1 0, .loc 0 2 0, .loc 0 3 0, .loc 0 4 0, .loc 1 4 0, .loc 2 3 0, .loc 3 1 0] → T = [(7, .ptr (.loc 0 1 0) 0), (8, .ptr (.loc 0 2 0) 0), (9, .ptr (.loc 0 3 0) 0), (10, .ptr (.loc 0 4 0) 0), (11, .ptr (.loc 1 4 0) 0), (12, .ptr (.loc 2 3 0) 0), (23, .fn 203 [] [.ptr (.loc 3 1 0) 0])] →
      ∀ k, k ≤ zs.length → roundsX (roundY E ns T 24 25 s38_1 s38_4) (.loc 3 1 0) zs k [(.loc 0 1 0, some (.box [.p (.str v)])), (.loc 0 2 0, some (.box [.p (.int .i64 0)])), (.loc 0 3 0, some (.box [.p (.int .i64 0)])), (.loc 0 4 0, some (.box [.p (.bool false)])), (.loc 1 4 0, some (.box [.p (.int .i64 node), .p (.sl 4 (ms.map Mem.pv)), .p (.sl 15 (l.map Evl.pv))])), (.loc 2 3 0, some (.box [.p (.sl 1 (zs.map (.int .i64)))])), (.loc 3 1 0, some (.box [.p (.sl 1 (zs.map (.int .i64)))]))] =
        match finK (sureB ms node l v) zs k with
        | none => some (.nrm, [(.loc 0 1 0, some (.box [.p (.str v)])), (.loc 0 2 0, some (.box [.p (.int .i64 0)])), (.loc 0 3 0, some (.box [.p (.int .i64 0)])), (.loc 0 4 0, some (.box [.p (.bool false)])), (.loc 1 4 0, some (.box [.p (.int .i64 node), .p (.sl 4 (ms.map Mem.pv)), .p (.sl 15 (l.map Evl.pv))])), (.loc 2 3 0, some (.box [.p (.sl 1 (zs.map (.int .i64)))])), (.loc 3 1 0, some (.box [.p (.sl 1 (zs.map (.int .i64)))]))])
        | some (a, b) => some (.ret, [(.loc 0 1 0, some (.box [.p (.str v)])), (.loc 0 2 0, some (.box [.p (.int .i64 a)])), (.loc 0 3 0, some (.box [.p (.int .i64 b)])), (.loc 0 4 0, some (.box [.p (.bool true)])), (.loc 1 4 0, some (.box [.p (.int .i64 node), .p (.sl 4 (ms.map Mem.pv)), .p (.sl 15 (l.map Evl.pv))])), (.loc 2 3 0, some (.box [.p (.sl 1 (zs.map (.int .i64)))])), (.loc 3 1 0, some (.box [.p (.sl 1 (zs.map (.int .i64)))]))]) := by
  intro ns T hns hT k
  induction k with
  | zero => intro _; rfl
  | succ k ih =>
    intro hk
    obtain ⟨z, hzk⟩ : ∃ z, zs[k]? = some z := ⟨zs[k]'(by omega), List.getElem?_eq_getElem (by omega)⟩
    have e1 := e120 (E := E) node hnode ms hc v z z l hl hn
    have e2 := e124_127 (E := E) node hnode ms hc v z z l hl hn zs hz
    unfold seenPv at e1
    rw [finK, hzk]
    cases h4 : sureB ms node l v z z with
    | true =>
      simp only [h4, if_true]
      rw [roundsX_ret hzk (H' := [(.loc 0 1 0, some (.box [.p (.str v)])), (.loc 0 2 0, some (.box [.p (.int .i64 (downK (fun y => sureB ms node l v y z) zs zs.length z))])), (.loc 0 3 0, some (.box [.p (.int .i64 z)])), (.loc 0 4 0, some (.box [.p (.bool true)])), (.loc 1 4 0, some (.box [.p (.int .i64 node), .p (.sl 4 (ms.map Mem.pv)), .p (.sl 15 (l.map Evl.pv))])), (.loc 2 3 0, some (.box [.p (.sl 1 (zs.map (.int .i64)))])), (.loc 3 1 0, some (.box [.p (.sl 1 (zs.map (.int .i64)))]))]) ?_ (capAt_eq _ _ zs rfl)]
      rw [roundY_eq]
      subst hns hT
      unfold sureB at h4 ⊢
      rw [h4] at e1
      simp -implicitDefEqProofs only [go_sem, s38_1, s38_2, s38_3, s38_4, e1, e2]
    | false =>
      simp only [h4, Bool.false_eq_true, if_false]
      rw [roundsX_step hzk (H' := [(.loc 0 1 0, some (.box [.p (.str v)])), (.loc 0 2 0, some (.box [.p (.int .i64 0)])), (.loc 0 3 0, some (.box [.p (.int .i64 0)])), (.loc 0 4 0, some (.box [.p (.bool false)])), (.loc 1 4 0, some (.box [.p (.int .i64 node), .p (.sl 4 (ms.map Mem.pv)), .p (.sl 15 (l.map Evl.pv))])), (.loc 2 3 0, some (.box [.p (.sl 1 (zs.map (.int .i64)))])), (.loc 3 1 0, some (.box [.p (.sl 1 (zs.map (.int .i64)))]))]) ?_ (capAt_eq _ _ zs rfl)]
      · exact ih (by omega)
      · rw [roundY_eq]
        subst hns hT
        unfold sureB at h4
        rw [h4] at e1
        simp -implicitDefEqProofs only [go_sem, s38_1, s38_2, s38_3, s38_4, e1]
theorem e38 (node : Nat) (hnode : node < 10) (t : Tr) (l : List Evl) (v : ByteArray) (ht : t.thin) (hl : l.length ≤ 16) (hth : ∀ e ∈ l, e.t.thin) :
    callW E 38 [.p (.int .i64 node), .p t.pv, .p (.sl 15 (l.map Evl.pv)), .p (.str v)] [] = some ⟨finV (finK (confirmC node t l v) (bndsN l v) (bndsN l v).length), [], []⟩ := by
  have e1 := e119 (E := E) node hnode t l ht (by omega) hth
  have e2 := e25 (E := E) l v hl hth
  have e3 := e126 (E := E) (bndsN l v)
  have hb := bndsN_le l v
  have hz : (bndsN l v).length ≤ most := by unfold most; omega
  have hcap : capOf 203 [(.loc 0 1 0, some (.box [.p (.str v)])), (.loc 0 2 0, some (.box [.p (.int .i64 0)])), (.loc 0 3 0, some (.box [.p (.int .i64 0)])), (.loc 0 4 0, some (.box [.p (.bool false)])), (.loc 1 4 0, some (.box [.p (.int .i64 node), .p (.sl 4 ((viewM node t l).map Mem.pv)), .p (.sl 15 ((l.filter validE).map Evl.pv))])), (.loc 2 3 0, some (.box [.p (.sl 1 ((bndsN l v).map (.int .i64)))])), (.loc 3 1 0, some (.box [.p (.sl 1 ((bndsN l v).map (.int .i64)))]))] (.fn 203 [] [.ptr (.loc 3 1 0) 0]) = some (.loc 3 1 0, bndsN l v) := capOf_eq 203 _ _ (bndsN l v) hz rfl
  have lp := lp38 (E := E) node hnode _ (viewM_ok node t l ht hth) v _ (Nat.lt_of_le_of_lt (List.length_filter_le validE l) (by omega)) (valid_nodes l) (bndsN l v) hz _ _ rfl rfl _ (Nat.le_refl _)
  rw [show sureB (viewM node t l) node (l.filter validE) v = confirmC node t l v from rfl] at lp
  unfold Tr.pv seenPv at *
  rw [callW_eq, EnvS.h 38 F38 rfl]
  cases hf : finK (confirmC node t l v) (bndsN l v) (bndsN l v).length with
  | none =>
    rw [hf] at lp
    simp -implicitDefEqProofs only [go_sem, F38, s38, s38_5, e1, e2, e3, hcap, lp, finV]
  | some ab =>
    obtain ⟨a, b⟩ := ab
    rw [hf] at lp
    simp -implicitDefEqProofs only [go_sem, F38, s38, s38_5, e1, e2, e3, hcap, lp, finV]
end Go.Ab.S

namespace Go.Ab.S
open Go Go.Ab
variable {E : Env} [EnvS E]

/-! ### The example of the chapter -/
def flat33 : Tr := ⟨3, upto 3 0, []⟩
theorem flat33_thin : flat33.thin := ⟨by decide, by decide, by simp [flat33]⟩
def cE (i : Nat) : Evl := ⟨i, 1, 1, flat33, 2, ⟨5, ⟨#[97]⟩⟩, ⟨5, ⟨#[97]⟩⟩, Bal.zero, if i = 1 then 3 else 2, 5⟩
def commitsL : List Evl := [cE 0, cE 1, cE 2]
theorem loop62 : ∀ (k i : Nat) (es : List Evl), i + k = 3 → es.length = i →
    loopW E 0 [1, 2] [.loc 1 0 0] (.trim [1, 2] [0] [(0, [1])] [.loc 1 0 0] s62_3) (some ⟨[(1, .hsl (.loc 1 0 0) 0 es.length), (2, .p (.int .i64 i))], [(.loc 1 0 0, some (.parr (es.map Evl.pv) 15 false))]⟩) =
    some (.ex 0, ⟨[(1, .hsl (.loc 1 0 0) 0 3)], [(.loc 1 0 0, some (.parr ((es ++ (List.range' i k).map cE).map Evl.pv) 15 false))]⟩) := by
  generalize hK : loopW E 0 _ _ _ = K
  intro k
  induction k with
  | zero =>
    intro i es hi hl
    have : i = 3 := by omega
    subst this
    rw [← hK, loopW_some, hK]
    simp -implicitDefEqProofs only [go_sem, s62_3, s62_2, s62_1, hl, List.range'_zero, List.map_nil, List.append_nil]
  | succ k ih =>
    intro i es hi hl
    have f1 : (i : Int) < 3 := by omega
    have f3 : IntKind.i64.wrap ((i : Int) + 1) = ((i + 1 : Nat) : Int) := wrap64 (by omega) (by omega)
    have e1 := e36 (E := E) 3 3 (by decide)
    have ih' := ih (i + 1) (es ++ [cE i]) (by omega) (by simp; omega)
    have hm : es.length + 1 ≤ most := by unfold most; omega
    rw [show List.range' i (k + 1) = i :: List.range' (i + 1) k from rfl]
    rw [List.append_assoc, List.singleton_append, ← List.map_cons (f := cE), List.map_append (f := Evl.pv) (l₁ := es) (l₂ := [cE i]), List.length_append] at ih'
    rw [show List.map Evl.pv [cE i] = [Evl.pv (cE i)] from rfl, show [cE i].length = 1 from rfl] at ih'
    rw [show Evl.pv (cE i) = .agg [.int .i64 i, .int .i64 1, .int .i64 1, .int .i64 3, .sl 1 ((upto 3 0).map (.int .i64)), .sl 3 [], .int .i64 2, .int .i64 5, .str ⟨#[97]⟩, .int .i64 5, .str ⟨#[97]⟩, .int .i64 0, .str ByteArray.empty, .int .i64 (if i = 1 then 3 else 2), .int .i64 5] from rfl] at ih'
    unfold Tr.pv at e1
    simp only [cast_lit, List.map_nil] at e1
    by_cases h : i = 1
    · subst h
      rw [if_pos rfl] at ih'
      simp only [Int.natCast_one] at ih' f1 f3
      rw [← hK, loopW_some, hK]
      simp -implicitDefEqProofs only [go_sem, s62_3, s62_2, s62_1, f1, f3, e1, hm, Int.natCast_one]
      exact ih'
    · have h' : ¬ (i : Int) = 1 := by omega
      rw [if_neg h] at ih'
      rw [← hK, loopW_some, hK]
      simp -implicitDefEqProofs only [go_sem, s62_3, s62_2, s62_1, f1, f3, e1, hm, h']
      exact ih'
theorem e62 : callW E 62 [] [] = some ⟨.p (.sl 15 (commitsL.map Evl.pv)), [], []⟩ := by
  have lp := loop62 (E := E) 3 0 [] rfl rfl
  simp only [List.length_nil, List.map_nil, List.nil_append, Int.natCast_zero] at lp
  rw [show (List.range' 0 3).map cE = commitsL from rfl] at lp
  have hl : commitsL.length = 3 := rfl
  rw [callW_eq, EnvS.h 62 F62 rfl]
  have h3 : (commitsL.map Evl.pv).take 3 = commitsL.map Evl.pv := rfl
  simp -implicitDefEqProofs only [go_sem, F62, s62, s62_4, lp, hl, h3, List.length_map]
theorem bnds33 : bndsN commitsL ⟨#[97]⟩ = [2, 3, 5] := by
  refine sorted_ext (lt := fun x y : Int => decide (x < y)) (by simp) (by simp; omega) ?_ ?_ fun n => ?_
  · exact (bndsN_sorted _ _).imp fun h => by simpa using h
  · decide
  · rw [bndsN_mem]
    have h0 : bndP ⟨#[97]⟩ (cE 0) = true := by decide +kernel
    have h1 : bndP ⟨#[97]⟩ (cE 1) = true := by decide +kernel
    have h2 : bndP ⟨#[97]⟩ (cE 2) = true := by decide +kernel
    constructor
    · rintro ⟨e, he, _, h⟩
      simp only [commitsL, List.mem_cons, List.not_mem_nil, or_false] at he
      rcases he with rfl | rfl | rfl <;> (rcases h with rfl | rfl <;> decide)
    · intro h
      simp only [List.mem_cons, List.not_mem_nil, or_false] at h
      rcases h with rfl | rfl | rfl
      · exact ⟨cE 0, List.mem_cons_self, h0, .inl rfl⟩
      · exact ⟨cE 1, by simp [commitsL], h1, .inl rfl⟩
      · exact ⟨cE 0, List.mem_cons_self, h0, .inr rfl⟩
theorem conf55 : confirmC 0 flat33 commitsL ⟨#[97]⟩ 5 5 = true := by decide +kernel
theorem conf35 : confirmC 0 flat33 commitsL ⟨#[97]⟩ 3 5 = true := by decide +kernel
theorem conf25 : confirmC 0 flat33 commitsL ⟨#[97]⟩ 2 5 = false := by decide +kernel
theorem acc35 : acceptC 0 flat33 commitsL ⟨#[97]⟩ 3 5 = true := by decide +kernel
theorem fin33 : finK (confirmC 0 flat33 commitsL ⟨#[97]⟩) (bndsN commitsL ⟨#[97]⟩) (bndsN commitsL ⟨#[97]⟩).length = some (3, 5) := by
  rw [bnds33]
  simp [finK, downK, conf55, conf35, conf25]
theorem e35 : callW E 35 [] [] = some ⟨.p (.bool true), [], []⟩ := by
  have hth : ∀ e ∈ commitsL, e.t.thin := by
    intro e he
    simp only [commitsL, List.mem_cons, List.not_mem_nil, or_false] at he
    rcases he with rfl | rfl | rfl <;> exact flat33_thin
  have e1 := e36 (E := E) 3 3 (by decide)
  have e2 := e62 (E := E)
  have e3 := e38 (E := E) 0 (by decide) flat33 commitsL ⟨#[97]⟩ flat33_thin (by decide) hth
  have e4 := e32 (E := E) 0 (by decide) flat33 commitsL ⟨#[97]⟩ 3 5 flat33_thin (by decide) hth
  rw [fin33] at e3
  rw [acc35] at e4
  rw [show (⟨3, upto 3 0, []⟩ : Tr) = flat33 from rfl] at e1
  simp only [cast_lit, Int.natCast_zero, finV] at e1 e3 e4
  unfold Tr.pv at e1 e3 e4
  rw [callW_eq, EnvS.h 35 F35 rfl]
  simp -implicitDefEqProofs only [go_sem, F35, s35, e1, e2, e3, e4]
end Go.Ab.S

namespace Go.Ab.S
open Go Go.Ab
variable {E : Env} [EnvS E]

/-- Envelopes with which some nodes accept a ballot. -/
structure Acc5 (set : Nat) (b : Bal) (i : Nat) (l : List Evl) : Prop where
  thin : ∀ e ∈ l, e.t.thin
  len : l.length ≤ i + 1
  inn : ∀ j, 1 ≤ j → j < i → set.testBit j = true → ∃ e ∈ l, validE e = true ∧ accP e b = true ∧ e.node = (j : Int)
  out : ∀ e ∈ l, accP e b = true → ∃ j : Nat, set.testBit j = true ∧ e.node = (j : Int)
def accE (i : Nat) (t : Tr) (b : Bal) : Evl := ⟨i, 1, 1, t, 1, b, b, Bal.zero, 0, 0⟩
theorem accE_valid {i : Nat} {t : Tr} {b : Bal} (hi : i < 10) (ht : errT t = 0) (hb : finite b = true) : validE (accE i t b) = true := by
  have h := hb
  simp only [finite, Bool.and_eq_true, decide_eq_true_eq] at h
  obtain ⟨h1, h2⟩ := h
  have h3 : 1 ≤ b.c := by
    simp only [validB, Bool.and_eq_true, Bool.or_eq_true, decide_eq_true_eq] at h1; omega
  have hz : zeroB Bal.zero = true := by decide
  simp [accE, validE, headE, ht, prepE, hb, optional, h1, hz, primeE]
  exact ⟨decide_eq_true (by show (i : Int) < 10; omega), decide_eq_true (by show (0 : Int) ≤ b.c; omega)⟩
theorem accE_acc {i : Nat} {t : Tr} {b : Bal} (hb : zeroB b = false) : accP (accE i t b) b = true := by
  simp [accE, accP, hb, prepares, covers_self hb]
theorem Acc5.step {set : Nat} {b : Bal} {i : Nat} {l : List Evl} (h : Acc5 set b i l) {t : Tr} (ht : t.thin) (hok : errT t = 0) (hb : finite b = true) (hz : zeroB b = false) (hi : i < 10) (hs : set.testBit i = true) : Acc5 set b (i + 1) (l ++ [accE i t b]) where
  thin := by
    intro e he
    rcases List.mem_append.1 he with he | he
    · exact h.thin e he
    · rw [List.mem_singleton.1 he]; exact ht
  len := by have := h.len; simp; omega
  inn := by
    intro j h1 h2 h3
    rcases Nat.lt_or_eq_of_le (Nat.le_of_lt_succ h2) with h4 | h4
    · obtain ⟨e, g1, g2⟩ := h.inn j h1 h4 h3
      exact ⟨e, List.mem_append_left _ g1, g2⟩
    · subst h4
      exact ⟨_, List.mem_append_right _ (List.mem_singleton.2 rfl), accE_valid hi hok hb, accE_acc hz, rfl⟩
  out := by
    intro e he ha
    rcases List.mem_append.1 he with he | he
    · exact h.out e he ha
    · rw [List.mem_singleton.1 he]; exact ⟨i, hs, rfl⟩
theorem Acc5.skip {set : Nat} {b : Bal} {i : Nat} {l : List Evl} (h : Acc5 set b i l) (hs : set.testBit i = false) : Acc5 set b (i + 1) l where
  thin := h.thin
  len := by have := h.len; omega
  inn := by
    intro j h1 h2 h3
    refine h.inn j h1 ?_ h3
    rcases Nat.lt_or_eq_of_le (Nat.le_of_lt_succ h2) with h4 | h4
    · exact h4
    · subst h4; rw [hs] at h3; cases h3
  out := h.out
theorem Acc5.who {set : Nat} {b : Bal} {l : List Evl} (h : Acc5 set b 5 l) (h0 : set.testBit 0 = false) (h5 : set < 32) : who (accP · b) (l.filter validE) = set := by
  refine Nat.eq_of_testBit_eq fun k => ?_
  rw [who_bit _ _ _ (valid_nodes l)]
  cases hk : set.testBit k with
  | true =>
    rw [List.any_eq_true]
    have h1 : 1 ≤ k := by
      rcases Nat.eq_zero_or_pos k with rfl | h1
      · rw [h0] at hk; cases hk
      · exact h1
    have h2 : k < 5 := by
      rcases Nat.lt_or_ge k 5 with h2 | h2
      · exact h2
      · have := Nat.testBit_lt_two_pow (Nat.lt_of_lt_of_le h5 (Nat.pow_le_pow_right (n := 2) (by decide) h2))
        rw [this] at hk; cases hk
    obtain ⟨e, g1, g2, g3, g4⟩ := h.inn k h1 h2 hk
    exact ⟨e, List.mem_filter.2 ⟨g1, g2⟩, by simp [g3, g4]⟩
  | false =>
    rw [List.any_eq_false]
    intro e he
    obtain ⟨g1, g2⟩ := List.mem_filter.1 he
    simp only [Bool.and_eq_true, decide_eq_true_eq, not_and]
    intro ha hn
    obtain ⟨j, q1, q2⟩ := h.out e g1 ha
    have : j = k := by omega
    subst this
    rw [hk] at q1; cases q1
end Go.Ab.S

namespace Go.Ab.S
open Go Go.Ab

/-! ### Greatest quorums, plain -/
theorem elim_end (ms : List Mem) : ∀ (f s : Nat), s < f → subM ms s → unhL ms (elim ms f s).2 (nodes (elim ms f s).2) = none ∧ subM ms (elim ms f s).2 ∧ ∀ j, (elim ms f s).2.testBit j = true → s.testBit j = true
  | 0, s, h, _ => by omega
  | f + 1, s, hf, hs => by
    cases hu : unhL ms s (nodes s) with
    | none =>
      rw [show elim ms (f + 1) s = ([], s) by rw [elim, hu]]
      exact ⟨hu, hs, fun _ h => h⟩
    | some k =>
      rw [show elim ms (f + 1) s = (k :: (elim ms f (s ^^^ 2 ^ k)).1, (elim ms f (s ^^^ 2 ^ k)).2) by rw [elim, hu]]
      obtain ⟨h1, h2⟩ := unhL_some hu
      obtain ⟨h3, h4⟩ := (nodes_mem s k).1 h1
      have hlt := xor_lt hs.1 h3 h4
      obtain ⟨r1, r2, r3⟩ := elim_end ms f _ (by omega) (subM_xor hs h3 h4)
      refine ⟨r1, r2, fun j hj => ?_⟩
      have := r3 j hj
      rw [xor_bit h4] at this
      simp only [Bool.and_eq_true] at this
      exact this.1
/-- A quorum: its members are content with it. -/
def quorum (ms : List Mem) (q : Nat) : Prop := ∀ k, q.testBit k = true → ∃ m, ms[k]? = some m ∧ m.d = true ∧ satT q m.t = true
theorem bit10 {s k : Nat} (hs : s < 1024) (h : s.testBit k = true) : k < 10 := by
  rcases Nat.lt_or_ge k 10 with h2 | h2
  · exact h2
  · have := Nat.testBit_lt_two_pow (Nat.lt_of_lt_of_le hs (Nat.pow_le_pow_right (n := 2) (by decide) h2))
    rw [this] at h; cases h
theorem great_sub (ms : List Mem) (s : Nat) : (∀ j, (great ms s).testBit j = true → s.testBit j = true ∧ ∃ m, ms[j]? = some m ∧ m.d = true) := by
  intro j hj
  have hsub := subM_decl ms s
  obtain ⟨_, _, h⟩ := elim_end ms 1024 _ hsub.1 hsub
  have h2 := h j hj
  rw [Nat.testBit_and, decl_bit] at h2
  simp only [Bool.and_eq_true, decide_eq_true_eq, beq_iff_eq] at h2
  refine ⟨h2.1, ?_⟩
  cases hm : ms[j]? with
  | none => rw [hm] at h2; simp at h2
  | some m => rw [hm] at h2; exact ⟨m, rfl, by simpa using h2.2.2⟩
theorem great_quorum (ms : List Mem) (s : Nat) : quorum ms (great ms s) := by
  intro k hk
  have hsub := subM_decl ms s
  obtain ⟨h1, h2, _⟩ := elim_end ms 1024 _ hsub.1 hsub
  obtain ⟨_, m, hm, hd⟩ := great_sub ms s k hk
  refine ⟨m, hm, hd, ?_⟩
  have h3 := unhL_none h1 k ((nodes_mem _ k).2 ⟨bit10 (great_lt ms s) hk, hk⟩)
  simp only [contM, hm] at h3
  exact h3
/-- A set that is a quorum in part of another lies in the greatest one. -/
theorem elim_keep (ms : List Mem) (q : Nat) (hmono : ∀ s : Nat, (∀ j, q.testBit j = true → s.testBit j = true) → ∀ k, q.testBit k = true → contM ms s k = true) : ∀ (f s : Nat), subM ms s → (∀ j, q.testBit j = true → s.testBit j = true) → ∀ j, q.testBit j = true → (elim ms f s).2.testBit j = true
  | 0, s, _, h, j, hj => h j hj
  | f + 1, s, hs, h, j, hj => by
    rw [elim]
    cases hu : unhL ms s (nodes s) with
    | none => exact h j hj
    | some k =>
      obtain ⟨h1, h2⟩ := unhL_some hu
      obtain ⟨h3, h4⟩ := (nodes_mem s k).1 h1
      refine elim_keep ms q hmono f _ (subM_xor hs h3 h4) (fun i hi => ?_) j hj
      rw [xor_bit h4, h i hi]
      simp only [Bool.true_and, Bool.not_eq_true', decide_eq_false_iff_not]
      rintro rfl
      rw [hmono s h i hi] at h2
      cases h2

/-! ### What a node sees of nodes that say the truth -/
end Go.Ab.S

namespace Go.Ab.S
open Go Go.Ab
variable {E : Env} [EnvS E]

/-! ### Larger sets -/
def subN (s s' : Nat) : Prop := ∀ k, s.testBit k = true → s'.testBit k = true
theorem hasN_mono {s s' : Nat} (h : subN s s') (k : Int) (hk : hasN s k = true) : hasN s' k = true := by
  simp only [hasN, Bool.and_eq_true] at hk ⊢
  exact ⟨hk.1, h _ hk.2⟩
theorem cnt_mono {s s' : Nat} (h : subN s s') : ∀ l : List Int, cnt s l ≤ cnt s' l
  | [] => Nat.le_refl _
  | k :: r => by
    simp only [cnt]
    have ih := cnt_mono h r
    cases h1 : hasN s k with
    | true => rw [hasN_mono h k h1]; simp only [if_true]; omega
    | false => simp only [Bool.false_eq_true, if_false]; omega
theorem satI_mono {s s' : Nat} (h : subN s s') (t : In) (ht : satI s t = true) : satI s' t = true := by
  simp only [satI, decide_eq_true_eq] at ht ⊢
  have := cnt_mono h t.ns
  omega
theorem cntI_mono {s s' : Nat} (h : subN s s') : ∀ l : List In, cntI s l ≤ cntI s' l
  | [] => Nat.le_refl _
  | k :: r => by
    simp only [cntI]
    have ih := cntI_mono h r
    cases h1 : satI s k with
    | true => rw [satI_mono h k h1]; simp only [if_true]; omega
    | false => simp only [Bool.false_eq_true, if_false]; omega
theorem satT_mono {s s' : Nat} (h : subN s s') (t : Tr) (ht : satT s t = true) : satT s' t = true := by
  simp only [satT, decide_eq_true_eq] at ht ⊢
  have h1 := cnt_mono h t.ns
  have h2 := cntI_mono h t.is
  omega
theorem great_mono (ms : List Mem) {s s' : Nat} (h : subN s s') : subN (great ms s) (great ms s') := by
  intro j hj
  have hq := great_quorum ms s
  have hsub := subM_decl ms s'
  refine elim_keep ms (great ms s) (fun u hu k hk => ?_) 1024 _ hsub (fun i hi => ?_) j hj
  · obtain ⟨m, h1, _, h3⟩ := hq k hk
    simp only [contM, h1]
    exact satT_mono hu _ h3
  · obtain ⟨h1, m, h2, h3⟩ := great_sub ms s i hi
    rw [Nat.testBit_and, h i h1, decl_bit, h2]
    simp [h3, bit10 (great_lt ms s) hi]
theorem comp_anti {s s' v : Nat} (hs : s < 1024) (hs' : s' < 1024) (h : subN s s') : subN ((1023 ^^^ s') ||| 2 ^ v) ((1023 ^^^ s) ||| 2 ^ v) := by
  intro k hk
  rw [Nat.testBit_or, Nat.testBit_xor] at hk ⊢
  cases h1 : s.testBit k with
  | false =>
    cases h2 : s'.testBit k with
    | false => rw [h2] at hk; exact hk
    | true =>
      have hk10 := bit10 hs' h2
      have : Nat.testBit 1023 k = true := by
        have : (1023 : Nat) = 2 ^ 10 - 1 := rfl
        rw [this, Nat.testBit_two_pow_sub_one]; simp [hk10]
      simp [this]
  | true => rw [h k h1] at hk; exact hk
theorem blk_mono (ms : List Mem) (v : Nat) {s s' : Nat} (hs : s < 1024) (hs' : s' < 1024) (h : subN s s') (hb : blk ms v s = true) : blk ms v s' = true := by
  unfold blk at hb ⊢
  cases hm : ms[v]? with
  | none => rw [hm] at hb; cases hb
  | some m =>
    rw [hm] at hb
    simp only [Bool.and_eq_true, Bool.not_eq_true'] at hb ⊢
    refine ⟨hb.1, ?_⟩
    cases h2 : satT ((1023 ^^^ s') ||| 2 ^ v) m.t with
    | false => rfl
    | true =>
      have := satT_mono (comp_anti (v := v) hs hs' h) _ h2
      rw [hb.2] at this; cases this
theorem accW_mono (ms : List Mem) (v : Nat) {a a' b b' : Nat} (hb : b < 1024) (hb' : b' < 1024) (h1 : subN a a') (h2 : subN b b') (h : accW ms v a b = true) : accW ms v a' b' = true := by
  simp only [accW, Bool.or_eq_true] at h ⊢
  rcases h with h | h
  · exact .inl (blk_mono ms v hb hb' h2 h)
  · refine .inr (great_mono ms (fun k hk => ?_) v h)
    rw [Nat.testBit_or, Bool.or_eq_true] at hk ⊢
    exact hk.imp (h1 k) (h2 k)

/-! ### The others say it, too -/
end Go.Ab.S

namespace Go.Ab.S
open Go Go.Ab
variable {E : Env} [EnvS E]
theorem e34 (e : Evl) (h : e.t.thin) (v : ByteArray) (lo hi : Int) : callW E 34 [.p e.pv, .p (.str v), .p (.int .i64 lo), .p (.int .i64 hi)] [] = some ⟨.p (.bool (validE e && accC e v lo hi)), [], []⟩ := by
  have e1 := e82 (E := E) e h
  rw [callW_eq, EnvS.h 34 F34 rfl]
  unfold Evl.pv at *
  cases hv : validE e with
  | false =>
    rw [hv] at e1
    simp -implicitDefEqProofs only [go_sem, F34, s34, s34_1, e1, Bool.false_and]
  | true =>
    rw [hv] at e1
    have hk : e.k = 1 ∨ e.k = 2 ∨ e.k = 3 := by
      simp only [validE, Bool.and_eq_true] at hv
      by_cases h1 : e.k = 1
      · exact .inl h1
      · by_cases h2 : e.k = 2
        · exact .inr (.inl h2)
        · by_cases h3 : e.k = 3
          · exact .inr (.inr h3)
          · simp [h1, h2, h3] at hv
    unfold accC fromE
    by_cases q1 : lo < 1
    · have : decide (1 ≤ lo) = false := decide_eq_false (by omega)
      rw [this]
      simp -implicitDefEqProofs only [go_sem, F34, s34, s34_1, e1, q1, Bool.false_and, Bool.and_false]
    · by_cases q2 : hi < lo
      · have : decide (lo ≤ hi) = false := decide_eq_false (by omega)
        rw [this]
        simp -implicitDefEqProofs only [go_sem, F34, s34, s34_1, e1, q1, q2, Bool.false_and, Bool.and_false]
      · have t1 : decide (1 ≤ lo) = true := decide_eq_true (by omega)
        have t2 : decide (lo ≤ hi) = true := decide_eq_true (by omega)
        rw [t1, t2]
        by_cases q3 : e.k = 1
        · rw [q3] at e1
          simp -implicitDefEqProofs only [go_sem, F34, s34, s34_1, e1, q1, q2, q3, Bool.false_and, Bool.and_false]
        · by_cases q4 : e.b.v = v
          · subst q4
            by_cases q5 : lo < e.lo
            · have : decide (e.lo ≤ lo) = false := decide_eq_false (by omega)
              rw [this]
              simp -implicitDefEqProofs only [go_sem, F34, s34, s34_1, e1, q1, q2, q3, q5, Bool.false_and, Bool.and_false]
            · have t3 : decide (e.lo ≤ lo) = true := decide_eq_true (by omega)
              rw [t3]
              rcases hk with q6 | q6 | q6
              · exact absurd q6 q3
              · rw [q6] at e1
                simp -implicitDefEqProofs only [go_sem, F34, s34, s34_1, e1, q1, q2, q5, q6, Bool.true_and, Bool.false_or]
              · rw [q6] at e1
                simp -implicitDefEqProofs only [go_sem, F34, s34, s34_1, e1, q1, q2, q5, q6, Bool.true_and, Bool.true_or]
          · simp -implicitDefEqProofs only [go_sem, F34, s34, s34_1, e1, q1, q2, q3, q4, Bool.false_and, Bool.and_false]

theorem fromE_sub {e : Evl} {v : ByteArray} {lo hi k : Int} (h1 : lo ≤ k) (h : fromE e v lo hi = true) : fromE e v k k = true := by
  simp only [fromE, Bool.and_eq_true, decide_eq_true_eq] at h ⊢
  exact ⟨⟨⟨by omega, by omega⟩, h.1.2⟩, by omega⟩
theorem accC_sub {e : Evl} {v : ByteArray} {lo hi k : Int} (h1 : lo ≤ k) (h2 : k ≤ hi) (h : accC e v lo hi = true) : accC e v k k = true := by
  simp only [accC, Bool.and_eq_true, Bool.or_eq_true, decide_eq_true_eq] at h ⊢
  refine ⟨fromE_sub h1 h.1, h.2.imp id fun h => ⟨h.1, by omega⟩⟩
theorem votC_sub {e : Evl} {v : ByteArray} {lo hi k : Int} (h1 : lo ≤ k) (h2 : k ≤ hi) (h : votC e v lo hi = true) : votC e v k k = true := by
  simp only [votC, Bool.and_eq_true, Bool.or_eq_true, decide_eq_true_eq] at h ⊢
  refine ⟨fromE_sub h1 h.1, h.2.imp id fun h => ⟨h.1, by omega⟩⟩
theorem bothC_sub {e : Evl} {v : ByteArray} {lo hi k : Int} (h1 : lo ≤ k) (h2 : k ≤ hi) (h : bothC v lo hi e = true) : bothC v k k e = true := by
  simp only [bothC, Bool.or_eq_true] at h ⊢
  exact h.imp (votC_sub h1 h2) (accC_sub h1 h2)
theorem who_mono {f g : Evl → Bool} {l : List Evl} (hn : nodesOk l) (h : ∀ e, f e = true → g e = true) : subN (who f l) (who g l) := by
  intro k hk
  rw [who_bit _ _ _ hn, List.any_eq_true] at hk ⊢
  obtain ⟨e, h1, h2⟩ := hk
  simp only [Bool.and_eq_true] at h2 ⊢
  exact ⟨e, h1, h _ h2.1, h2.2⟩
theorem acceptC_sub {nd : Nat} {t : Tr} {l : List Evl} {v : ByteArray} {lo hi k : Int} (h1 : lo ≤ k) (h2 : k ≤ hi) (h : acceptC nd t l v lo hi = true) : acceptC nd t l v k k = true := by
  have hn := valid_nodes l
  unfold acceptC at h ⊢
  exact accW_mono _ _ (who_lt _ _ hn) (who_lt _ _ hn) (who_mono hn fun e => bothC_sub h1 h2) (who_mono hn fun e => accC_sub h1 h2) h
theorem confirmC_sub {nd : Nat} {t : Tr} {l : List Evl} {v : ByteArray} {lo hi k : Int} (h1 : lo ≤ k) (h2 : k ≤ hi) (h : confirmC nd t l v lo hi = true) : confirmC nd t l v k k = true := by
  have hn := valid_nodes l
  unfold confirmC at h ⊢
  exact great_mono _ (who_mono hn fun e => accC_sub h1 h2) _ h
theorem accC_val {e : Evl} {v : ByteArray} {lo hi : Int} (h : accC e v lo hi = true) : e.b.v = v := by
  simp only [accC, fromE, Bool.and_eq_true, decide_eq_true_eq] at h
  exact h.1.1.2
theorem loop4 (l : List Evl) (hl : l.length < 4000) (hth : ∀ e ∈ l, e.t.thin) (v w : ByteArray) (k : Int) :
    loopW E 0 [7, 8, 11, 72, 73, 74] [] (.trim [7, 8, 11, 72, 73, 74] [2] [(0, [])] [] s4_4) (some ⟨[(7, .p (.str v)), (8, .p (.str w)), (11, .p (.int .i64 k)), (72, .p (.sl 15 (l.map Evl.pv))), (73, .p (.int .i64 l.length)), (74, .p (.int .i64 0))], []⟩) =
    some (.ex 0, ⟨[], []⟩) := by
  have key := range_loop (loopW E 0 [7, 8, 11, 72, 73, 74] [] (.trim [7, 8, 11, 72, 73, 74] [2] [(0, [])] [] s4_4)) l
    (fun i (_ : Unit) => ⟨[(7, .p (.str v)), (8, .p (.str w)), (11, .p (.int .i64 k)), (72, .p (.sl 15 (l.map Evl.pv))), (73, .p (.int .i64 l.length)), (74, .p (.int .i64 i))], []⟩)
    (fun _ _ => some (.ex 0, ⟨[], []⟩))
  refine key ?_ ?_ ()
  · intro _
    rw [loopW_some]
    generalize hK : loopW E 0 _ _ _ = K
    simp -implicitDefEqProofs only [go_sem, s4_4, s4_3, s4_2]
  · intro i _ e r hx hi ih
    obtain ⟨f1, f2, f3⟩ := rangeFacts i l.length hi (by omega)
    have ih' := ih ()
    have e1 := e34 (E := E) e (hth e (List.mem_of_getElem? hx)) v k k
    have e2 := e34 (E := E) e (hth e (List.mem_of_getElem? hx)) w k k
    rw [loopW_some]
    generalize hK : loopW E 0 _ _ _ = K at ih' ⊢
    unfold Evl.pv at *
    try dsimp only at ih' ⊢
    by_cases hvw : v = w
    · subst hvw
      simp -implicitDefEqProofs only [go_sem, s4_4, s4_3, s4_2, hx, f1, f2, f3] at ih' ⊢
      exact ih'
    · cases hc : (validE e && accC e v k k) with
      | false =>
        rw [hc] at e1
        simp -implicitDefEqProofs only [go_sem, s4_4, s4_3, s4_2, hx, f1, f2, f3, hvw, e1] at ih' ⊢
        exact ih'
      | true =>
        have hc2 : (validE e && accC e w k k) = false := by
          cases h : (validE e && accC e w k k) with
          | false => rfl
          | true =>
            simp only [Bool.and_eq_true] at h hc
            exact absurd ((accC_val hc.2).symm.trans (accC_val h.2)) hvw
        rw [hc] at e1
        rw [hc2] at e2
        simp -implicitDefEqProofs only [go_sem, s4_4, s4_3, s4_2, hx, f1, f2, f3, hvw, e1, e2] at ih' ⊢
        exact ih'
theorem law4 (zs : List Int) : callW E 4 [.p (.sl 1 (zs.map (.int .i64)))] [] = some ⟨.p (.bool true), [], []⟩ := by
  have e0 := e17 (E := E) zs
  have hl : (zs.take 800).length ≤ 800 := by simp; omega
  generalize zs.take 800 = l at *
  obtain ⟨es, a1, l1, g, e1⟩ := e18 (E := E) l 0 hl (Nat.zero_le _)
  have hlen := g.len
  have hth := g.thin
  have e2 := e28 (E := E) l a1 5 hl l1 (by decide)
  have d1 := dV_nonneg l a1 5
  have d2 := dV_lt l a1 5 (by decide)
  have l2 := dA_le l a1 5 l1
  obtain ⟨nd, hnd⟩ : ∃ k : Nat, dV l a1 5 = k := ⟨(dV l a1 5).toNat, by omega⟩
  rw [hnd] at e2 d1 d2
  have hn10 : nd < 10 := by omega
  generalize dA l a1 5 = a2 at *
  have e3 := e29 (E := E) l a2 5 hl l2 (by omega) (by omega)
  have tg := trG_ok l a2 5 (by omega) (by omega)
  have l3 := trG_le l a2 5 l2
  generalize trG l a2 5 = tt at *
  obtain ⟨t, a3⟩ := tt
  dsimp only at e3 tg l3
  have e4 := e30 (E := E) l a3 hl l3
  have l4 := dA_le l a3 4 l3
  generalize valN (dV l a3 4) = v at *
  generalize dA l a3 4 = a4 at *
  have e5 := e30 (E := E) l a4 hl l4
  have l5 := dA_le l a4 4 l4
  generalize valN (dV l a4 4) = w at *
  generalize dA l a4 4 = a5 at *
  have e6 := e31 (E := E) l a5 1 5 hl l5 (by omega) (by omega) (by omega) (by omega)
  simp only [show (5 : Int) - 1 + 1 = 5 from rfl] at e6
  have b1 := dV_nonneg l a5 5
  have b2 := dV_lt l a5 5 (by decide)
  have l6 := dA_le l a5 5 l5
  generalize dA l a5 5 = a6 at *
  obtain ⟨lo, hlo⟩ : ∃ x, 1 + dV l a5 5 = x := ⟨_, rfl⟩
  rw [hlo] at e6
  have e7 := e28 (E := E) l a6 3 hl l6 (by decide)
  have c1 := dV_nonneg l a6 3
  have c2 := dV_lt l a6 3 (by decide)
  have l7 := dA_le l a6 3 l6
  generalize dA l a6 3 = a7 at *
  generalize dV l a6 3 = d at *
  have w1 : IntKind.i64.wrap (lo + d) = lo + d := wrap64 (by omega) (by omega)
  obtain ⟨hi, hhi⟩ : ∃ x, lo + d = x := ⟨_, rfl⟩
  rw [hhi] at w1
  have e8 := e31 (E := E) l a7 lo hi hl l7 (by omega) (by omega) (by omega) (by omega)
  have k1 := dV_nonneg l a7 (hi - lo + 1)
  have k2 := dV_lt l a7 (hi - lo + 1) (by omega)
  generalize dA l a7 (hi - lo + 1) = a8 at *
  obtain ⟨k, hk⟩ : ∃ x, lo + dV l a7 (hi - lo + 1) = x := ⟨_, rfl⟩
  rw [hk] at e8
  have ea := e32 (E := E) nd hn10 t es v lo hi tg.thin (by omega) hth
  have eb := e32 (E := E) nd hn10 t es v k k tg.thin (by omega) hth
  have ec := e33 (E := E) nd hn10 t es v lo hi tg.thin (by omega) hth
  have ed := e33 (E := E) nd hn10 t es v k k tg.thin (by omega) hth
  have ee := e35 (E := E)
  have lp := loop4 (E := E) es (by omega) hth v w k
  have hA : acceptC nd t es v lo hi = true → acceptC nd t es v k k = true := acceptC_sub (by omega) (by omega)
  have hC : confirmC nd t es v lo hi = true → confirmC nd t es v k k = true := confirmC_sub (by omega) (by omega)
  unfold Tr.pv at e3 ea eb ec ed
  simp only [cast_lit, Int.natCast_zero] at e0 e1 e2 e3 e4 e5 e6 e7 e8
  generalize acceptC nd t es v lo hi = A at *
  generalize acceptC nd t es v k k = A' at *
  generalize confirmC nd t es v lo hi = C at *
  generalize confirmC nd t es v k k = C' at *
  have hAA : A = false ∨ (A = true ∧ A' = true) := by cases A <;> simp_all
  have hCC : C = false ∨ (C = true ∧ C' = true) := by cases C <;> simp_all
  rw [callW_eq, EnvS.h 4 F4 rfl]
  rcases hAA with rfl | ⟨rfl, rfl⟩ <;> rcases hCC with rfl | ⟨rfl, rfl⟩ <;>
    (simp -implicitDefEqProofs only [go_sem, F4, s4, s4_1, s4_5, e0, e1, e2, e3, e4, e5, e6, e7, w1, hhi, e8, ea, eb, ec, ed, ee, lp])
end Go.Ab.S
