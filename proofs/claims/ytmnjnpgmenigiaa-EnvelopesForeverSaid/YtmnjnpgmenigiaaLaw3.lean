/- A part of the proof: an executor over plain data, shown sound for the model, and what it computes of the functions. -/
import Derived.Test.YtmnjnpgmenigiaaLaw2
set_option linter.all false
set_option linter.unusedSimpArgs false
set_option linter.unusedVariables false
set_option linter.unusedSectionVars false
namespace Go.Ab.S
open Go Go.Ab
variable {E : Env} [EnvS E]

set_option maxHeartbeats 1000000 in
theorem law1006 (zs : List Int) (n k : Int) (n0 : 0 ≤ n) (n1 : n ≤ 255) (k0 : 0 ≤ k) (k1 : k ≤ 255) : callW E 1006 [.p (.sl 1 (zs.map (.int .i64))), .p (.int .u8 n), .p (.int .u8 k)] [] = some ⟨.p (.bool true), [], []⟩ := by
  have e0 := e17 (E := E) zs
  have hl : (zs.take 800).length ≤ 800 := by simp; omega
  generalize zs.take 800 = l at *
  have f1 := e30 (E := E) l 0 hl (by omega)
  have l1 := dA_le l 0 4 (by omega)
  have hv := isVal_dV l 0
  generalize valN (dV l 0 4) = v at *
  generalize dA l 0 4 = a1 at *
  have f2 := e31 (E := E) l a1 1 5 hl l1 (by omega) (by omega) (by omega) (by omega)
  simp only [show (5 : Int) - 1 + 1 = 5 from rfl] at f2
  have b1 := dV_nonneg l a1 5
  have b2 := dV_lt l a1 5 (by decide)
  have l2 := dA_le l a1 5 l1
  generalize dA l a1 5 = a2 at *
  generalize hlo : 1 + dV l a1 5 = lo at *
  have f3 := e28 (E := E) l a2 5 hl l2 (by omega)
  have b3 := dV_nonneg l a2 5
  have b4 := dV_lt l a2 5 (by decide)
  have l3 := dA_le l a2 5 l2
  generalize dA l a2 5 = a3 at *
  generalize dV l a2 5 = nd at *
  have f4 := e29 (E := E) l a3 5 hl l3 (by omega) (by omega)
  have l4 := trG_le l a3 5 l3
  have tg := trG_ok l a3 5 (by omega) (by omega)
  generalize trG l a3 5 = tt at *
  obtain ⟨t, a4⟩ := tt
  dsimp only at f4 l4 tg
  have f5 := e28 (E := E) l a4 3 hl l4 (by omega)
  have b5 := dV_nonneg l a4 3
  have b6 := dV_lt l a4 3 (by decide)
  have l5 := dA_le l a4 3 l4
  generalize dA l a4 3 = a5 at *
  have w1 : IntKind.i64.wrap (lo + dV l a4 3) = lo + dV l a4 3 := wrap64 (by omega) (by omega)
  generalize hhi : lo + dV l a4 3 = hi at *
  have w2 : IntKind.i64.wrap n = n := wrap64 (by omega) (by omega)
  have w3 : IntKind.i64.wrap k = k := wrap64 (by omega) (by omega)
  have w4 : IntKind.i64.wrap (lo + n) = lo + n := wrap64 (by omega) (by omega)
  have w5 : IntKind.i64.wrap (lo + n + k) = lo + n + k := wrap64 (by omega) (by omega)
  have w6 : IntKind.i64.wrap (lo - 1) = lo - 1 := wrap64 (by omega) (by omega)
  generalize ha : lo + n = a at *
  generalize hb : a + k = b at *
  have f6 := e30 (E := E) l a5 hl l5
  generalize valN (dV l a5 4) = w at *
  have c1 : validE ⟨nd, 1, 1, t, 3, ⟨lo, v⟩, Bal.zero, Bal.zero, lo, hi⟩ = true := by
    have q1 := finite_mk (c := lo) (by omega) (by omega) hv
    simp only [finite, Bool.and_eq_true] at q1
    have hz : zeroB Bal.zero = true := by decide
    simp [validE, headE, tg.ok, q1.1, hz, ranged]
    omega
  have g0 := e81 (E := E) ⟨nd, 1, 1, t, 3, ⟨lo, v⟩, Bal.zero, Bal.zero, lo, hi⟩ tg.thin
  have g1 := e87 (E := E) ⟨nd, 1, 1, t, 3, ⟨lo, v⟩, Bal.zero, Bal.zero, lo, hi⟩ tg.thin v a b
  have g2 := e23 (E := E) ⟨nd, 1, 1, t, 3, ⟨lo, v⟩, Bal.zero, Bal.zero, lo, hi⟩ tg.thin ⟨b, v⟩
  have g3 := e26 (E := E) ⟨nd, 1, 1, t, 3, ⟨lo, v⟩, Bal.zero, Bal.zero, lo, hi⟩ tg.thin w a b
  have g4 := e22 (E := E) ⟨nd, 1, 1, t, 3, ⟨lo, v⟩, Bal.zero, Bal.zero, lo, hi⟩ tg.thin ⟨a, w⟩
  have g5 := e87 (E := E) ⟨nd, 1, 1, t, 3, ⟨lo, v⟩, Bal.zero, Bal.zero, lo, hi⟩ tg.thin v (lo - 1) b
  have g6 := e83 (E := E) ⟨nd, 1, 1, t, 3, ⟨lo, v⟩, Bal.zero, Bal.zero, lo, hi⟩ tg.thin
  have h1 : accC ⟨nd, 1, 1, t, 3, ⟨lo, v⟩, Bal.zero, Bal.zero, lo, hi⟩ v a b = true := by
    simp [accC, fromE]; omega
  have h2 : accP ⟨nd, 1, 1, t, 3, ⟨lo, v⟩, Bal.zero, Bal.zero, lo, hi⟩ ⟨b, v⟩ = true := by
    have : zeroB ⟨b, v⟩ = false := nonzero (by show 1 ≤ b; omega)
    simp [accP, this]
  have h3 : ¬ w = v → votC ⟨nd, 1, 1, t, 3, ⟨lo, v⟩, Bal.zero, Bal.zero, lo, hi⟩ w a b = false := by
    intro h
    have : ¬ v = w := fun h' => h h'.symm
    simp [votC, fromE, this]
  have h4 : ¬ w = v → votP ⟨nd, 1, 1, t, 3, ⟨lo, v⟩, Bal.zero, Bal.zero, lo, hi⟩ ⟨a, w⟩ = false := by
    intro h
    have : ¬ v = w := fun h' => h h'.symm
    simp [votP, this]
  have h5 : accC ⟨nd, 1, 1, t, 3, ⟨lo, v⟩, Bal.zero, Bal.zero, lo, hi⟩ v (lo - 1) b = false := by
    simp [accC, fromE]; omega
  have h6 : countE ⟨nd, 1, 1, t, 3, ⟨lo, v⟩, Bal.zero, Bal.zero, lo, hi⟩ = 1000000 := rfl
  rw [c1] at g0 g1 g2 g3 g4 g5 g6
  rw [h1] at g1
  rw [h2] at g2
  rw [h5] at g5
  rw [h6] at g6
  have gb := e27 (E := E)
  simp only [cast_lit, Int.natCast_zero, Bool.true_and, if_true] at f1 f4 g0 g1 g2 g3 g4 g5 g6
  unfold Evl.pv at g0 g1 g2 g3 g4 g5 g6
  unfold Tr.pv at f4
  dsimp only [Bal.zero] at g0 g1 g2 g3 g4 g5 g6 h3 h4
  rw [callW_eq, EnvS.h 1006 F1006 rfl]
  by_cases hw : w = v
  · subst hw
    by_cases hq : lo = 1
    · subst hq
      simp -implicitDefEqProofs only [go_sem, Nat.reduceEqDiff, Nat.reduceAdd, Nat.reduceLeDiff, Nat.reduceLT, reduceCtorEq, ↓reduceIte, Nat.reduceBEq, Int.reduceLT, Int.reduceLE, Int.reduceNeg, Int.reduceEq, Int.toNat_natCast, cast_lit, Int.reduceToNat, F1006, s1006, e0, f1, f2, f3, f4, f5, f6, hlo, hhi, ha, hb, w1, w2, w3, w4, w5, w6, g0, g1, g2, g6, gb]
    · simp -implicitDefEqProofs only [go_sem, Nat.reduceEqDiff, Nat.reduceAdd, Nat.reduceLeDiff, Nat.reduceLT, reduceCtorEq, ↓reduceIte, Nat.reduceBEq, Int.reduceLT, Int.reduceLE, Int.reduceNeg, Int.reduceEq, Int.toNat_natCast, cast_lit, Int.reduceToNat, F1006, s1006, e0, f1, f2, f3, f4, f5, f6, hlo, hhi, ha, hb, w1, w2, w3, w4, w5, w6, g0, g1, g2, g5, g6, gb, hq]
  · rw [h3 hw] at g3
    rw [h4 hw] at g4
    by_cases hq : lo = 1
    · subst hq
      simp -implicitDefEqProofs only [go_sem, Nat.reduceEqDiff, Nat.reduceAdd, Nat.reduceLeDiff, Nat.reduceLT, reduceCtorEq, ↓reduceIte, Nat.reduceBEq, Int.reduceLT, Int.reduceLE, Int.reduceNeg, Int.reduceEq, Int.toNat_natCast, cast_lit, Int.reduceToNat, F1006, s1006, e0, f1, f2, f3, f4, f5, f6, hlo, hhi, ha, hb, w1, w2, w3, w4, w5, w6, g0, g1, g2, g3, g4, g6, gb, hw]
    · simp -implicitDefEqProofs only [go_sem, Nat.reduceEqDiff, Nat.reduceAdd, Nat.reduceLeDiff, Nat.reduceLT, reduceCtorEq, ↓reduceIte, Nat.reduceBEq, Int.reduceLT, Int.reduceLE, Int.reduceNeg, Int.reduceEq, Int.toNat_natCast, cast_lit, Int.reduceToNat, F1006, s1006, e0, f1, f2, f3, f4, f5, f6, hlo, hhi, ha, hb, w1, w2, w3, w4, w5, w6, g0, g1, g2, g3, g4, g5, g6, gb, hw, hq]
end Go.Ab.S
