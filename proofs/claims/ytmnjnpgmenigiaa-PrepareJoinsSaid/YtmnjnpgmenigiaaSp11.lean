/- A part of the proof: an executor over plain data, shown sound for the model, and what it computes of the functions. -/
import Derived.Test.YtmnjnpgmenigiaaSp10
set_option linter.all false
set_option linter.unusedSimpArgs false
set_option linter.unusedVariables false
set_option linter.unusedSectionVars false
namespace Go.Ab.S
open Go Go.Ab
variable {E : Env} [EnvS E]

/-- The envelopes that are made. -/
structure EnvG (n : Nat) (e : Evl) : Prop where
  valid : validE e = true
  t : TrG n e.t
  s1 : 1 ≤ e.seq
  s9 : e.seq ≤ 9
  v : isVal e.b.v
  c1 : 1 ≤ e.b.c
  c7 : e.b.c ≤ 7
set_option maxHeartbeats 1000000 in
theorem e76 (l : List Int) (a : Nat) (node slot : Int) (n : Nat) (hl : l.length ≤ 800) (ha : a ≤ l.length) (hn : 1 ≤ n) (hn' : n ≤ 10) (hd : 0 ≤ node) (hd' : node < 10) (hs : 1 ≤ slot) (hs' : slot ≤ 1000000) :
    ∃ (e : Evl) (a' : Nat), a' ≤ l.length ∧ EnvG n e ∧ e.node = node ∧ e.slot = slot ∧ callW E 76 [.ptr (.ext 0) 0, .p (.int .i64 node), .p (.int .i64 slot), .p (.int .i64 n)] [.box [.p (.sl 1 (l.map (.int .i64))), .p (.int .i64 a)]] = some ⟨.p e.pv, [.box [.p (.sl 1 (l.map (.int .i64))), .p (.int .i64 a')]], []⟩ := by
  have e1 := e31 (E := E) l a 1 9 hl ha (by omega) (by omega) (by omega) (by omega)
  simp only [show (9 : Int) - 1 + 1 = 9 from rfl] at e1
  have l1 := dA_le l a 9 ha
  have b1 := dV_nonneg l a 9
  have b2 := dV_lt l a 9 (by decide)
  have e2 := e29 (E := E) l (dA l a 9) n hl l1 hn' hn
  have l2 := trG_le l (dA l a 9) n l1
  have tg := trG_ok l (dA l a 9) n hn hn'
  generalize htt : trG l (dA l a 9) n = tt at *
  obtain ⟨t, x2⟩ := tt
  dsimp only at e2 l2 tg
  have e3 := e30 (E := E) l x2 hl l2
  have l3 := dA_le l x2 4 l2
  have hv := isVal_dV l x2
  generalize hvv : valN (dV l x2 4) = v at *
  generalize hx3 : dA l x2 4 = x3 at *
  have e4 := e28 (E := E) l x3 4 hl l3 (by omega)
  have l4 := dA_le l x3 4 l3
  generalize hx4 : dA l x3 4 = x4 at *
  have b3 := dV_nonneg l x3 4
  generalize hsw : dV l x3 4 = sw at *
  have hz : zeroB Bal.zero = true := by decide
  have hh : ∀ k b p q lo hi, headE ⟨node, slot, 1 + dV l a 9, t, k, b, p, q, lo, hi⟩ = true := by
    intro k b p q lo hi
    simp [headE, tg.ok]
    omega
  by_cases c0 : sw = 0
  · -- commit
    have f1 := e31 (E := E) l x4 1 7 hl l4 (by omega) (by omega) (by omega) (by omega)
    simp only [show (7 : Int) - 1 + 1 = 7 from rfl] at f1
    have m1 := dA_le l x4 7 l4
    have d1 := dV_nonneg l x4 7
    have d1' := dV_lt l x4 7 (by decide)
    generalize hx5 : dA l x4 7 = x5 at *
    have f2 := e31 (E := E) l x5 1 4 hl m1 (by omega) (by omega) (by omega) (by omega)
    simp only [show (4 : Int) - 1 + 1 = 4 from rfl] at f2
    have m2 := dA_le l x5 4 m1
    have d2 := dV_nonneg l x5 4
    have d2' := dV_lt l x5 4 (by decide)
    generalize hx6 : dA l x5 4 = x6 at *
    have f3 := e28 (E := E) l x6 3 hl m2 (by omega)
    have m3 := dA_le l x6 3 m2
    have d3 := dV_nonneg l x6 3
    have d3' := dV_lt l x6 3 (by decide)
    generalize hx7 : dA l x6 3 = x7 at *
    have f4 := e28 (E := E) l x7 3 hl m3 (by omega)
    have m4 := dA_le l x7 3 m3
    have d4 := dV_nonneg l x7 3
    have d4' := dV_lt l x7 3 (by decide)
    generalize hx8 : dA l x7 3 = x8 at *
    have w1 : IntKind.i64.wrap (1 + dV l x5 4 + dV l x6 3) = 1 + dV l x5 4 + dV l x6 3 := wrap64 (by omega) (by omega)
    have w2 : IntKind.i64.wrap (1 + dV l x5 4 + dV l x6 3 + dV l x7 3) = 1 + dV l x5 4 + dV l x6 3 + dV l x7 3 := wrap64 (by omega) (by omega)
    refine ⟨⟨node, slot, 1 + dV l a 9, t, 2, ⟨1 + dV l x4 7, v⟩, ⟨1 + dV l x5 4 + dV l x6 3 + dV l x7 3, v⟩, Bal.zero, 1 + dV l x5 4, 1 + dV l x5 4 + dV l x6 3⟩, x8, m4, ⟨?_, tg, by show 1 ≤ 1 + dV l a 9; omega, by show 1 + dV l a 9 ≤ 9; omega, hv, by show 1 ≤ 1 + dV l x4 7; omega, by show 1 + dV l x4 7 ≤ 7; omega⟩, rfl, rfl, ?_⟩
    · have q1 := finite_mk (c := 1 + dV l x4 7) (by omega) (by omega) hv
      have q2 := finite_mk (c := 1 + dV l x5 4 + dV l x6 3 + dV l x7 3) (by omega) (by omega) hv
      simp only [finite, Bool.and_eq_true] at q2
      unfold validE
      rw [hh]
      simp [q1, q2.1, hz, ranged]
      omega
    · rw [callW_eq, EnvS.h 76 F76 rfl]
      unfold Evl.pv
      simp only [Tr.pv] at e2
      simp -implicitDefEqProofs only [go_sem, Nat.reduceEqDiff, Nat.reduceAdd, Nat.reduceLeDiff, Nat.reduceLT, reduceCtorEq, ↓reduceIte, Nat.reduceBEq, Int.reduceLT, Int.reduceLE, Int.reduceNeg, Int.reduceEq, Int.toNat_natCast, cast_lit, Int.reduceToNat, F76, s76, s76_10, s76_4, s76_2, s76_1, s76_3, s76_6, s76_5, s76_7, s76_8, s76_9, e1, e2, e3, e4, c0, f1, f2, f3, f4, w1, w2, Bal.zero]
  · have dflt := chunk76c (E := E) l
    by_cases c1 : sw = 1
    · have f0 := e28 (E := E) l x4 3 hl l4 (by omega)
      have m0 := dA_le l x4 3 l4
      generalize hy0 : dA l x4 3 = y0 at *
      by_cases c2 : 0 < dV l x4 3
      · -- external
        have f1 := e31 (E := E) l y0 1 7 hl m0 (by omega) (by omega) (by omega) (by omega)
        simp only [show (7 : Int) - 1 + 1 = 7 from rfl] at f1
        have m1 := dA_le l y0 7 m0
        have d1 := dV_nonneg l y0 7
        have d1' := dV_lt l y0 7 (by decide)
        generalize hx5 : dA l y0 7 = x5 at *
        have f2 := e31 (E := E) l x5 1 4 hl m1 (by omega) (by omega) (by omega) (by omega)
        simp only [show (4 : Int) - 1 + 1 = 4 from rfl] at f2
        have m2 := dA_le l x5 4 m1
        have d2 := dV_nonneg l x5 4
        have d2' := dV_lt l x5 4 (by decide)
        generalize hx6 : dA l x5 4 = x6 at *
        have f3 := e28 (E := E) l x6 3 hl m2 (by omega)
        have m3 := dA_le l x6 3 m2
        have d3 := dV_nonneg l x6 3
        have d3' := dV_lt l x6 3 (by decide)
        generalize hx7 : dA l x6 3 = x7 at *
        have w1 : IntKind.i64.wrap (1 + dV l x5 4 + dV l x6 3) = 1 + dV l x5 4 + dV l x6 3 := wrap64 (by omega) (by omega)
        refine ⟨⟨node, slot, 1 + dV l a 9, t, 3, ⟨1 + dV l y0 7, v⟩, Bal.zero, Bal.zero, 1 + dV l x5 4, 1 + dV l x5 4 + dV l x6 3⟩, x7, m3, ⟨?_, tg, by show 1 ≤ 1 + dV l a 9; omega, by show 1 + dV l a 9 ≤ 9; omega, hv, by show 1 ≤ 1 + dV l y0 7; omega, by show 1 + dV l y0 7 ≤ 7; omega⟩, rfl, rfl, ?_⟩
        · have q1 := finite_mk (c := 1 + dV l y0 7) (by omega) (by omega) hv
          simp only [finite, Bool.and_eq_true] at q1
          unfold validE
          rw [hh]
          simp [q1.1, hz, ranged]
          omega
        · rw [callW_eq, EnvS.h 76 F76 rfl]
          unfold Evl.pv
          simp only [Tr.pv] at e2
          simp -implicitDefEqProofs only [go_sem, Nat.reduceEqDiff, Nat.reduceAdd, Nat.reduceLeDiff, Nat.reduceLT, reduceCtorEq, ↓reduceIte, Nat.reduceBEq, Int.reduceLT, Int.reduceLE, Int.reduceNeg, Int.reduceEq, Int.toNat_natCast, cast_lit, Int.reduceToNat, F76, s76, s76_10, s76_4, s76_2, s76_1, s76_3, s76_6, s76_5, s76_7, s76_8, s76_9, e1, e2, e3, e4, c0, c1, c2, f0, f1, f2, f3, w1, Bal.zero]
      · obtain ⟨e', a', q0, q1, q2, q3, q4, q5, q6, q7, q8, q9, hc⟩ := dflt y0 ⟨node, slot, 1 + dV l a 9, t, 0, ⟨0, v⟩, Bal.zero, Bal.zero, 0, 0⟩ (hh ..) tg.thin hv rfl hl m0
        refine ⟨e', a', q0, ⟨q1, by rw [q5]; exact tg, by rw [q4]; show 1 ≤ 1 + dV l a 9; omega, by rw [q4]; show 1 + dV l a 9 ≤ 9; omega, by rw [q7]; exact hv, q8, q9⟩, q2, q3, ?_⟩
        rw [callW_eq, EnvS.h 76 F76 rfl]
        simp only [Tr.pv] at e2
        unfold Evl.pv
        replace hc := fun T H => hc T H ByteArray.empty 0
        unfold Evl.av av0 Bal.zero at hc
        dsimp only at hc
        simp -implicitDefEqProofs only [go_sem, Nat.reduceEqDiff, Nat.reduceAdd, Nat.reduceLeDiff, Nat.reduceLT, reduceCtorEq, ↓reduceIte, Nat.reduceBEq, Int.reduceLT, Int.reduceLE, Int.reduceNeg, Int.reduceEq, Int.toNat_natCast, cast_lit, Int.reduceToNat, ↓hc, F76, s76, s76_10, s76_4, s76_2, s76_1, s76_3, e1, e2, e3, e4, c0, c1, c2, f0, tg.thin]
    · obtain ⟨e', a', q0, q1, q2, q3, q4, q5, q6, q7, q8, q9, hc⟩ := dflt x4 ⟨node, slot, 1 + dV l a 9, t, 0, ⟨0, v⟩, Bal.zero, Bal.zero, 0, 0⟩ (hh ..) tg.thin hv rfl hl l4
      refine ⟨e', a', q0, ⟨q1, by rw [q5]; exact tg, by rw [q4]; show 1 ≤ 1 + dV l a 9; omega, by rw [q4]; show 1 + dV l a 9 ≤ 9; omega, by rw [q7]; exact hv, q8, q9⟩, q2, q3, ?_⟩
      rw [callW_eq, EnvS.h 76 F76 rfl]
      simp only [Tr.pv] at e2
      unfold Evl.pv
      replace hc := fun T H => hc T H ByteArray.empty 0
      unfold Evl.av av0 Bal.zero at hc
      dsimp only at hc
      simp -implicitDefEqProofs only [go_sem, Nat.reduceEqDiff, Nat.reduceAdd, Nat.reduceLeDiff, Nat.reduceLT, reduceCtorEq, ↓reduceIte, Nat.reduceBEq, Int.reduceLT, Int.reduceLE, Int.reduceNeg, Int.reduceEq, Int.toNat_natCast, cast_lit, Int.reduceToNat, ↓hc, F76, s76, s76_10, s76_4, s76_2, s76_1, s76_3, e1, e2, e3, e4, c0, c1, tg.thin]
end Go.Ab.S
