/- A part of the proof: an executor over plain data, shown sound for the model, and what it computes of the functions. -/
import Derived.Test.YtmnjnpgmenigiaaSp9
set_option linter.all false
set_option linter.unusedSimpArgs false
set_option linter.unusedVariables false
set_option linter.unusedSectionVars false
namespace Go.Ab.S
open Go Go.Ab
variable {E : Env} [EnvS E]

def Evl.av (e : Evl) : List AV := [.p (.int .i64 e.node), .p (.int .i64 e.slot), .p (.int .i64 e.seq), .p (.int .i64 e.t.th), .p (.sl 1 (e.t.ns.map (.int .i64))), .p (.sl 3 (e.t.is.map In.pv)), .p (.int .i64 e.k), .p (.int .i64 e.b.c), .p (.str e.b.v), .p (.int .i64 e.p.c), .p (.str e.p.v), .p (.int .i64 e.q.c), .p (.str e.q.v), .p (.int .i64 e.lo), .p (.int .i64 e.hi)]
def av0 : List AV := [.p (.int .i64 0), .p (.int .i64 0), .p (.int .i64 0), .p (.int .i64 0), .nils 1, .nils 3, .p (.int .i64 0), .p (.int .i64 0), .p (.str ByteArray.empty), .p (.int .i64 0), .p (.str ByteArray.empty), .p (.int .i64 0), .p (.str ByteArray.empty), .p (.int .i64 0), .p (.int .i64 0)]
def srcO (l : List Int) (a : Nat) : Option AObj := some (.box [.p (.sl 1 (l.map (.int .i64))), .p (.int .i64 a)])
def Bal.zero : Bal := ⟨0, ByteArray.empty⟩
/-- An envelope that only its ranges and ballots can spoil. -/
structure EnvH (e : Evl) : Prop where
  thin : e.t.thin
  head : headE e = true
  k : e.k = 1
  b : finite e.b = true
  p : optional e.p = true
  lo : 0 ≤ e.lo
  hi : e.lo ≤ e.hi
  top : e.hi ≤ e.b.c
theorem validE_end (e : Evl) (h : EnvH { e with lo := 0, hi := 0, q := Bal.zero }) : validE { e with lo := 0, hi := 0, q := Bal.zero } = true := by
  have h1 := h.head
  have h2 := h.k
  have h3 := h.b
  have h4 := h.p
  have h5 := h.top
  have hz : zeroB Bal.zero = true := by decide
  dsimp only at h2 h3 h4 h5
  unfold validE
  rw [h1]
  simp [h2, prepE, primeE, optional, h3, hz]
  constructor
  · simpa [optional] using h4
  · exact h5

theorem chunk76 (l : List Int) (a : Nat) (e : Evl) (h : EnvH e) : ∃ e' : Evl, validE e' = true ∧ e'.node = e.node ∧ e'.slot = e.slot ∧ e'.seq = e.seq ∧ e'.t = e.t ∧ e'.k = e.k ∧ e'.b = e.b ∧ e'.p = e.p ∧
    ∀ T H, tget T 8 = .ptr (.loc 0 0 0) 0 → tget T 9 = .ptr (.loc 1 8 0) 0 → hget H (.ext 0) = some (.box [.p (.sl 1 (l.map (.int .i64))), .p (.int .i64 a)]) → hget H (.loc 0 0 0) = some (.box av0) → hget H (.loc 1 8 0) = some (.box e.av) →
    sexW E 1 (.seq (.seq (.reg 21 [{ dst := some 99, op := .load true 15 (.t 9) }, { dst := some 100, op := .call (.f 82) [.t 99] }, { dst := some 101, op := .un .not (.t 100) }]) (.trim [8, 9] [8] [] [.loc 0 0 0, .loc 1 8 0] (.cond (.t 101) s76_7 .skip))) (.seq (.seq (.reg 23 [{ dst := some 103, op := .load true 15 (.t 9) }, { dst := some 104, op := .call (.f 82) [.t 103] }, { dst := some 105, op := .un .not (.t 104) }]) (.trim [8, 9] [8] [] [.loc 0 0 0, .loc 1 8 0] (.cond (.t 105) s76_8 .skip))) (.seq (.reg 25 [{ dst := some 107, op := .load true 15 (.t 9) }, { dst := some 108, op := .call (.f 82) [.t 107] }, { dst := some 109, op := .un .not (.t 108) }]) (.trim [8, 9] [8] [] [.loc 0 0 0, .loc 1 8 0] (.cond (.t 109) s76_9 .skip))))) ⟨T, H⟩ =
    some (.nrm, ⟨[(8, .ptr (.loc 0 0 0) 0), (9, .ptr (.loc 1 8 0) 0)], [(.ext 0, some (.box [.p (.sl 1 (l.map (.int .i64))), .p (.int .i64 a)])), (.loc 0 0 0, some (.box av0)), (.loc 1 8 0, some (.box e'.av))]⟩) := by
  have v0 := e82 (E := E) e h.thin
  cases c0 : validE e with
  | true =>
    refine ⟨e, c0, rfl, rfl, rfl, rfl, rfl, rfl, rfl, fun T H t8 t9 h0 h1 h2 => ?_⟩
    unfold Evl.pv at v0
    unfold Evl.av av0 at *
    simp -implicitDefEqProofs only [go_sem, Nat.reduceEqDiff, Nat.reduceAdd, Nat.reduceLeDiff, Nat.reduceLT, reduceCtorEq, ↓reduceIte, Nat.reduceBEq, Int.reduceLT, Int.reduceLE, Int.reduceNeg, Int.reduceEq, Int.toNat_natCast, cast_lit, Int.reduceToNat, s76_7, s76_8, s76_9, t8, t9, h0, h1, h2, v0, c0]
  | false =>
    have v1 := e82 (E := E) { e with lo := 0 } h.thin
    cases c1 : validE { e with lo := 0 } with
    | true =>
      refine ⟨{ e with lo := 0 }, c1, rfl, rfl, rfl, rfl, rfl, rfl, rfl, fun T H t8 t9 h0 h1 h2 => ?_⟩
      unfold Evl.pv at v0 v1
      unfold Evl.av av0 at *
      dsimp only at v1
      simp -implicitDefEqProofs only [go_sem, Nat.reduceEqDiff, Nat.reduceAdd, Nat.reduceLeDiff, Nat.reduceLT, reduceCtorEq, ↓reduceIte, Nat.reduceBEq, Int.reduceLT, Int.reduceLE, Int.reduceNeg, Int.reduceEq, Int.toNat_natCast, cast_lit, Int.reduceToNat, s76_7, s76_8, s76_9, t8, t9, h0, h1, h2, v0, c0, v1, c1]
    | false =>
      have v2 := e82 (E := E) { e with lo := 0, hi := 0 } h.thin
      cases c2 : validE { e with lo := 0, hi := 0 } with
      | true =>
        refine ⟨{ e with lo := 0, hi := 0 }, c2, rfl, rfl, rfl, rfl, rfl, rfl, rfl, fun T H t8 t9 h0 h1 h2 => ?_⟩
        unfold Evl.pv at v0 v1 v2
        unfold Evl.av av0 at *
        dsimp only at v1 v2
        simp -implicitDefEqProofs only [go_sem, Nat.reduceEqDiff, Nat.reduceAdd, Nat.reduceLeDiff, Nat.reduceLT, reduceCtorEq, ↓reduceIte, Nat.reduceBEq, Int.reduceLT, Int.reduceLE, Int.reduceNeg, Int.reduceEq, Int.toNat_natCast, cast_lit, Int.reduceToNat, s76_7, s76_8, s76_9, t8, t9, h0, h1, h2, v0, c0, v1, c1, v2, c2]
      | false =>
        have c3 := validE_end e ⟨h.thin, h.head, h.k, h.b, h.p, Int.le_refl 0, Int.le_refl 0, by have := h.lo; have := h.hi; have := h.top; show 0 ≤ e.b.c; omega⟩
        refine ⟨{ e with lo := 0, hi := 0, q := Bal.zero }, c3, rfl, rfl, rfl, rfl, rfl, rfl, rfl, fun T H t8 t9 h0 h1 h2 => ?_⟩
        unfold Evl.pv at v0 v1 v2
        unfold Evl.av av0 at *
        dsimp only at v1 v2
        simp -implicitDefEqProofs only [go_sem, Nat.reduceEqDiff, Nat.reduceAdd, Nat.reduceLeDiff, Nat.reduceLT, reduceCtorEq, ↓reduceIte, Nat.reduceBEq, Int.reduceLT, Int.reduceLE, Int.reduceNeg, Int.reduceEq, Int.toNat_natCast, cast_lit, Int.reduceToNat, s76_7, s76_8, s76_9, t8, t9, h0, h1, h2, v0, c0, v1, c1, v2, c2, Bal.zero]
/-- An envelope that has its ballots. -/
structure EnvB (e : Evl) : Prop where
  thin : e.t.thin
  head : headE e = true
  k : e.k = 1
  b : finite e.b = true
  p : optional e.p = true
  c1 : 1 ≤ e.b.c
  c7 : e.b.c ≤ 7
theorem chunk76b (l : List Int) (a : Nat) (e : Evl) (h : EnvB e) (hl : l.length ≤ 800) (ha : a ≤ l.length) : ∃ (e' : Evl) (a' : Nat), a' ≤ l.length ∧ validE e' = true ∧ e'.node = e.node ∧ e'.slot = e.slot ∧ e'.seq = e.seq ∧ e'.t = e.t ∧ e'.k = e.k ∧ e'.b = e.b ∧ e'.p = e.p ∧
    ∀ T H, tget T 0 = .ptr (.ext 0) 0 → tget T 8 = .ptr (.loc 0 0 0) 0 → tget T 9 = .ptr (.loc 1 8 0) 0 → hget H (.ext 0) = some (.box [.p (.sl 1 (l.map (.int .i64))), .p (.int .i64 a)]) → hget H (.loc 0 0 0) = some (.box av0) → hget H (.loc 1 8 0) = some (.box e.av) →
    sexW E 1 (.seq (.reg 19 [{ dst := some 86, op := .mv (.t 0) }, { dst := some 87, op := .faddr 7 (.t 9) }, { dst := some 88, op := .faddr 0 (.t 87) }, { dst := some 89, op := .load false 1 (.t 88) }, { dst := some 90, op := .bin .add (.t 89) (.c (.int .i64 (1))) }, { dst := some 91, op := .call (.f 28) [.t 86, .t 90] }, { dst := some 92, op := .faddr 14 (.t 9) }, { dst := none, op := .store 1 (.t 92) (.t 91) }]) (.seq (.reg 20 [{ dst := some 93, op := .mv (.t 0) }, { dst := some 94, op := .faddr 14 (.t 9) }, { dst := some 95, op := .load false 1 (.t 94) }, { dst := some 96, op := .bin .add (.t 95) (.c (.int .i64 (1))) }, { dst := some 97, op := .call (.f 28) [.t 93, .t 96] }, { dst := some 98, op := .faddr 13 (.t 9) }, { dst := none, op := .store 1 (.t 98) (.t 97) }]) (.seq (.seq (.reg 21 [{ dst := some 99, op := .load true 15 (.t 9) }, { dst := some 100, op := .call (.f 82) [.t 99] }, { dst := some 101, op := .un .not (.t 100) }]) (.trim [8, 9] [8] [] [.loc 0 0 0, .loc 1 8 0] (.cond (.t 101) s76_7 .skip))) (.seq (.seq (.reg 23 [{ dst := some 103, op := .load true 15 (.t 9) }, { dst := some 104, op := .call (.f 82) [.t 103] }, { dst := some 105, op := .un .not (.t 104) }]) (.trim [8, 9] [8] [] [.loc 0 0 0, .loc 1 8 0] (.cond (.t 105) s76_8 .skip))) (.seq (.reg 25 [{ dst := some 107, op := .load true 15 (.t 9) }, { dst := some 108, op := .call (.f 82) [.t 107] }, { dst := some 109, op := .un .not (.t 108) }]) (.trim [8, 9] [8] [] [.loc 0 0 0, .loc 1 8 0] (.cond (.t 109) s76_9 .skip))))))) ⟨T, H⟩ =
    some (.nrm, ⟨[(8, .ptr (.loc 0 0 0) 0), (9, .ptr (.loc 1 8 0) 0)], [(.ext 0, some (.box [.p (.sl 1 (l.map (.int .i64))), .p (.int .i64 a')])), (.loc 0 0 0, some (.box av0)), (.loc 1 8 0, some (.box e'.av))]⟩) := by
  have g1 := h.c1
  have g2 := h.c7
  have b1 := dV_nonneg l a (e.b.c + 1)
  have b2 := dV_lt l a (e.b.c + 1) (by omega)
  have b3 := dV_nonneg l (dA l a (e.b.c + 1)) (dV l a (e.b.c + 1) + 1)
  have b4 := dV_lt l (dA l a (e.b.c + 1)) (dV l a (e.b.c + 1) + 1) (by omega)
  have l1 := dA_le l a (e.b.c + 1) ha
  have e1 := e28 (E := E) l a (e.b.c + 1) hl ha (by omega)
  have e2 := e28 (E := E) l (dA l a (e.b.c + 1)) (dV l a (e.b.c + 1) + 1) hl l1 (by omega)
  have w1 : IntKind.i64.wrap (e.b.c + 1) = e.b.c + 1 := wrap64 (by omega) (by omega)
  have w2 : IntKind.i64.wrap (dV l a (e.b.c + 1) + 1) = dV l a (e.b.c + 1) + 1 := wrap64 (by omega) (by omega)
  obtain ⟨e', p1, p2, p3, p4, p5, p6, p7, p8, hc⟩ := chunk76 (E := E) l (dA l (dA l a (e.b.c + 1)) (dV l a (e.b.c + 1) + 1)) { e with hi := dV l a (e.b.c + 1), lo := dV l (dA l a (e.b.c + 1)) (dV l a (e.b.c + 1) + 1) } ⟨h.thin, h.head, h.k, h.b, h.p, b3, Int.lt_add_one_iff.1 b4, by show dV l a (e.b.c + 1) ≤ e.b.c; omega⟩
  refine ⟨e', dA l (dA l a (e.b.c + 1)) (dV l a (e.b.c + 1) + 1), dA_le l _ _ l1, p1, p2, p3, p4, p5, p6, p7, p8, fun T H t0 t8 t9 h0 h1 h2 => ?_⟩
  unfold Evl.av av0 at *
  dsimp only at hc
  simp -implicitDefEqProofs only [go_sem, Nat.reduceEqDiff, Nat.reduceAdd, Nat.reduceLeDiff, Nat.reduceLT, reduceCtorEq, ↓reduceIte, Nat.reduceBEq, Int.reduceLT, Int.reduceLE, Int.reduceNeg, Int.reduceEq, Int.toNat_natCast, cast_lit, Int.reduceToNat, ↓hc, t0, t8, t9, h0, h1, h2, e1, e2, w1, w2]
theorem valN_cases (k : Int) (h0 : 0 ≤ k) (h4 : k < 4) : valN k = ⟨#[97]⟩ ∨ valN k = ⟨#[98]⟩ ∨ valN k = ⟨#[99]⟩ ∨ valN k = ⟨#[97, 97]⟩ := by
  have : k = 0 ∨ k = 1 ∨ k = 2 ∨ k = 3 := by omega
  rcases this with rfl | rfl | rfl | rfl
  · exact .inl rfl
  · exact .inr (.inl rfl)
  · exact .inr (.inr (.inl rfl))
  · exact .inr (.inr (.inr rfl))
/-- The values that are made. -/
def isVal (v : ByteArray) : Prop := v = ⟨#[97]⟩ ∨ v = ⟨#[98]⟩ ∨ v = ⟨#[99]⟩ ∨ v = ⟨#[97, 97]⟩
theorem isVal_size {v : ByteArray} (h : isVal v) : 1 ≤ (v.size : Int) ∧ (v.size : Int) ≤ 2 := by
  rcases h with rfl | rfl | rfl | rfl <;> decide
theorem isVal_dV (l : List Int) (a : Nat) : isVal (valN (dV l a 4)) := valN_cases _ (dV_nonneg ..) (dV_lt _ _ _ (by decide))
theorem finite_mk {c : Int} {v : ByteArray} (hc : 1 ≤ c) (hc2 : c ≤ 1000) (hv : isVal v) : finite ⟨c, v⟩ = true := by
  have := isVal_size hv
  simp [finite, validB]
  omega
theorem chunk76c (l : List Int) (a : Nat) (e : Evl) (he : headE { e with k := 1 } = true) (hth : e.t.thin) (hv : isVal e.b.v) (hp : e.p = Bal.zero) (hl : l.length ≤ 800) (ha : a ≤ l.length) : ∃ (e' : Evl) (a' : Nat), a' ≤ l.length ∧ validE e' = true ∧ e'.node = e.node ∧ e'.slot = e.slot ∧ e'.seq = e.seq ∧ e'.t = e.t ∧ e'.k = 1 ∧ e'.b.v = e.b.v ∧ 1 ≤ e'.b.c ∧ e'.b.c ≤ 7 ∧
    ∀ T H v0 c0, tget T 0 = .ptr (.ext 0) 0 → tget T 8 = .ptr (.loc 0 0 0) 0 → tget T 9 = .ptr (.loc 1 8 0) 0 → tget T 10 = .p (.str e.b.v) → hget H (.ext 0) = some (.box [.p (.sl 1 (l.map (.int .i64))), .p (.int .i64 a)]) → hget H (.loc 0 0 0) = some (.box av0) → hget H (.loc 1 8 0) = some (.box ({ e with b := ⟨c0, v0⟩ } : Evl).av) →
    sexW E 1 (.seq (.reg 14 [{ dst := some 68, op := .mv (.t 0) }, { dst := some 69, op := .call (.f 31) [.t 68, .c (.int .i64 (1)), .c (.int .i64 (7))] }, { dst := some 70, op := .mv (.t 10) }, { dst := some 71, op := .build [.c (.int .i64 0), .c (.str ByteArray.empty)] [(0, 1, .t 69), (1, 1, .t 70)] }, { dst := some 72, op := .faddr 6 (.t 9) }, { dst := none, op := .store 1 (.t 72) (.c (.int .i64 (1))) }, { dst := some 73, op := .faddr 7 (.t 9) }, { dst := none, op := .store 2 (.t 73) (.t 71) }]) (.seq (.seq (.reg 15 [{ dst := some 74, op := .mv (.t 0) }, { dst := some 75, op := .call (.f 28) [.t 74, .c (.int .i64 (3))] }, { dst := some 76, op := .bin .gtr (.t 75) (.c (.int .i64 (0))) }]) (.trim [0, 8, 9] [8] [] [.loc 0 0 0, .loc 1 8 0] (.cond (.t 76) s76_6 .skip))) (.seq (.reg 19 [{ dst := some 86, op := .mv (.t 0) }, { dst := some 87, op := .faddr 7 (.t 9) }, { dst := some 88, op := .faddr 0 (.t 87) }, { dst := some 89, op := .load false 1 (.t 88) }, { dst := some 90, op := .bin .add (.t 89) (.c (.int .i64 (1))) }, { dst := some 91, op := .call (.f 28) [.t 86, .t 90] }, { dst := some 92, op := .faddr 14 (.t 9) }, { dst := none, op := .store 1 (.t 92) (.t 91) }]) (.seq (.reg 20 [{ dst := some 93, op := .mv (.t 0) }, { dst := some 94, op := .faddr 14 (.t 9) }, { dst := some 95, op := .load false 1 (.t 94) }, { dst := some 96, op := .bin .add (.t 95) (.c (.int .i64 (1))) }, { dst := some 97, op := .call (.f 28) [.t 93, .t 96] }, { dst := some 98, op := .faddr 13 (.t 9) }, { dst := none, op := .store 1 (.t 98) (.t 97) }]) (.seq (.seq (.reg 21 [{ dst := some 99, op := .load true 15 (.t 9) }, { dst := some 100, op := .call (.f 82) [.t 99] }, { dst := some 101, op := .un .not (.t 100) }]) (.trim [8, 9] [8] [] [.loc 0 0 0, .loc 1 8 0] (.cond (.t 101) s76_7 .skip))) (.seq (.seq (.reg 23 [{ dst := some 103, op := .load true 15 (.t 9) }, { dst := some 104, op := .call (.f 82) [.t 103] }, { dst := some 105, op := .un .not (.t 104) }]) (.trim [8, 9] [8] [] [.loc 0 0 0, .loc 1 8 0] (.cond (.t 105) s76_8 .skip))) (.seq (.reg 25 [{ dst := some 107, op := .load true 15 (.t 9) }, { dst := some 108, op := .call (.f 82) [.t 107] }, { dst := some 109, op := .un .not (.t 108) }]) (.trim [8, 9] [8] [] [.loc 0 0 0, .loc 1 8 0] (.cond (.t 109) s76_9 .skip))))))))) ⟨T, H⟩ =
    some (.nrm, ⟨[(8, .ptr (.loc 0 0 0) 0), (9, .ptr (.loc 1 8 0) 0)], [(.ext 0, some (.box [.p (.sl 1 (l.map (.int .i64))), .p (.int .i64 a')])), (.loc 0 0 0, some (.box av0)), (.loc 1 8 0, some (.box e'.av))]⟩) := by
  have e1 := e31 (E := E) l a 1 7 hl ha (by omega) (by omega) (by omega) (by omega)
  simp only [show (7 : Int) - 1 + 1 = 7 from rfl] at e1
  have l1 := dA_le l a 7 ha
  have e2 := e28 (E := E) l (dA l a 7) 3 hl l1 (by omega)
  have l2 := dA_le l _ 3 l1
  have b1 := dV_nonneg l a 7
  have b2 := dV_lt l a 7 (by decide)
  have fb : finite ⟨1 + dV l a 7, e.b.v⟩ = true := finite_mk (by omega) (by omega) hv
  have oz : optional Bal.zero = true := by decide
  generalize hx2 : dA l (dA l a 7) 3 = x2 at *
  by_cases c1 : 0 < dV l (dA l a 7) 3
  · have e3 := e39 (E := E) l x2 hl l2
    have l3 := dA_le l _ 6 l2
    have l4 := dA_le l _ 4 l3
    have fp : optional ⟨1 + dV l x2 6, valN (dV l (dA l x2 6) 4)⟩ = true := by
      have d1 := dV_nonneg l x2 6
      have d2 := dV_lt l x2 6 (by decide)
      have := finite_mk (c := 1 + dV l x2 6) (by omega) (by omega) (isVal_dV l (dA l x2 6))
      simp [finite] at this
      simp [optional, this.1]
    generalize hx4 : dA l (dA l x2 6) 4 = x4 at *
    have e4 := e28 (E := E) l x4 2 hl l4 (by omega)
    have l5 := dA_le l _ 2 l4
    generalize hx5 : dA l x4 2 = x5 at *
    by_cases c2 : dV l x4 2 = 1
    · have e5 := e39 (E := E) l x5 hl l5
      have l6 := dA_le l _ 6 l5
      have l7 := dA_le l _ 4 l6
      obtain ⟨e', a', q0, q1, q2, q3, q4, q5, q6, q7, q8, hc⟩ := chunk76b (E := E) l (dA l (dA l x5 6) 4) { e with k := 1, b := ⟨1 + dV l a 7, e.b.v⟩, p := ⟨1 + dV l x2 6, valN (dV l (dA l x2 6) 4)⟩, q := ⟨1 + dV l x5 6, valN (dV l (dA l x5 6) 4)⟩ } ⟨hth, he, rfl, fb, fp, by show 1 ≤ 1 + dV l a 7; omega, by show 1 + dV l a 7 ≤ 7; omega⟩ hl l7
      refine ⟨e', a', q0, q1, q2, q3, q4, q5, q6, by rw [q7], by rw [q7]; show 1 ≤ 1 + dV l a 7; omega, by rw [q7]; show 1 + dV l a 7 ≤ 7; omega, fun T H v0 c0 t0 t8 t9 t10 h0 h1 h2 => ?_⟩
      unfold Evl.av av0 at *
      dsimp only at hc h2
      simp -implicitDefEqProofs only [go_sem, Nat.reduceEqDiff, Nat.reduceAdd, Nat.reduceLeDiff, Nat.reduceLT, reduceCtorEq, ↓reduceIte, Nat.reduceBEq, Int.reduceLT, Int.reduceLE, Int.reduceNeg, Int.reduceEq, Int.toNat_natCast, cast_lit, Int.reduceToNat, ↓hc, s76_5, s76_6, t0, t8, t9, t10, h0, h1, h2, e1, e2, e3, e4, e5, c1, c2]
    · obtain ⟨e', a', q0, q1, q2, q3, q4, q5, q6, q7, q8, hc⟩ := chunk76b (E := E) l x5 { e with k := 1, b := ⟨1 + dV l a 7, e.b.v⟩, p := ⟨1 + dV l x2 6, valN (dV l (dA l x2 6) 4)⟩ } ⟨hth, he, rfl, fb, fp, by show 1 ≤ 1 + dV l a 7; omega, by show 1 + dV l a 7 ≤ 7; omega⟩ hl l5
      refine ⟨e', a', q0, q1, q2, q3, q4, q5, q6, by rw [q7], by rw [q7]; show 1 ≤ 1 + dV l a 7; omega, by rw [q7]; show 1 + dV l a 7 ≤ 7; omega, fun T H v0 c0 t0 t8 t9 t10 h0 h1 h2 => ?_⟩
      unfold Evl.av av0 at *
      dsimp only at hc h2
      simp -implicitDefEqProofs only [go_sem, Nat.reduceEqDiff, Nat.reduceAdd, Nat.reduceLeDiff, Nat.reduceLT, reduceCtorEq, ↓reduceIte, Nat.reduceBEq, Int.reduceLT, Int.reduceLE, Int.reduceNeg, Int.reduceEq, Int.toNat_natCast, cast_lit, Int.reduceToNat, ↓hc, s76_5, s76_6, t0, t8, t9, t10, h0, h1, h2, e1, e2, e3, e4, c1, c2]
  · obtain ⟨e', a', q0, q1, q2, q3, q4, q5, q6, q7, q8, hc⟩ := chunk76b (E := E) l x2 { e with k := 1, b := ⟨1 + dV l a 7, e.b.v⟩ } ⟨hth, he, rfl, fb, by show optional e.p = true; rw [hp]; exact oz, by show 1 ≤ 1 + dV l a 7; omega, by show 1 + dV l a 7 ≤ 7; omega⟩ hl l2
    refine ⟨e', a', q0, q1, q2, q3, q4, q5, q6, by rw [q7], by rw [q7]; show 1 ≤ 1 + dV l a 7; omega, by rw [q7]; show 1 + dV l a 7 ≤ 7; omega, fun T H v0 c0 t0 t8 t9 t10 h0 h1 h2 => ?_⟩
    unfold Evl.av av0 at *
    dsimp only at hc h2
    simp -implicitDefEqProofs only [go_sem, Nat.reduceEqDiff, Nat.reduceAdd, Nat.reduceLeDiff, Nat.reduceLT, reduceCtorEq, ↓reduceIte, Nat.reduceBEq, Int.reduceLT, Int.reduceLE, Int.reduceNeg, Int.reduceEq, Int.toNat_natCast, cast_lit, Int.reduceToNat, ↓hc, s76_5, s76_6, t0, t8, t9, t10, h0, h1, h2, e1, e2, c1]
end Go.Ab.S
