/- A part of the proof: an executor over plain data, shown sound for the model, and what it computes of the functions. -/
import Derived.Test.YtmnjnpgmenigiaaSp11
set_option linter.all false
set_option linter.unusedSimpArgs false
set_option linter.unusedVariables false
set_option linter.unusedSectionVars false
namespace Go.Ab.S
open Go Go.Ab
variable {E : Env} [EnvS E]
theorem r17 : E.raw 17 = false := by unfold Env.raw; rw [EnvS.h 17 F17 rfl]; rfl
attribute [go_sem] r17
theorem r36 : E.raw 36 = false := by unfold Env.raw; rw [EnvS.h 36 F36 rfl]; rfl
attribute [go_sem] r36
theorem r83 : E.raw 83 = false := by unfold Env.raw; rw [EnvS.h 83 F83 rfl]; rfl
attribute [go_sem] r83
theorem r90 : E.raw 90 = false := by unfold Env.raw; rw [EnvS.h 90 F90 rfl]; rfl
attribute [go_sem] r90
theorem r27 : E.raw 27 = false := by unfold Env.raw; rw [EnvS.h 27 F27 rfl]; rfl
attribute [go_sem] r27

/-- The chapter's example. -/
def saneE : Evl := ⟨0, 1, 1, ⟨2, upto 3 0, []⟩, 1, ⟨3, ⟨#[97]⟩⟩, ⟨3, ⟨#[97]⟩⟩, Bal.zero, 2, 3⟩
theorem saneE_thin : saneE.t.thin := ⟨by decide, by decide, by simp [saneE]⟩
theorem e27 : callW E 27 [] [] = some ⟨.p (.bool true), [], []⟩ := by
  have h1 := e81 (E := E) saneE saneE_thin
  have h2 := e26 (E := E) saneE saneE_thin ⟨#[97]⟩ 2 3
  have h3 := e87 (E := E) saneE saneE_thin ⟨#[97]⟩ 2 3
  have h4 := e83 (E := E) saneE saneE_thin
  have v1 : validE saneE = true := by decide
  have v2 : votC saneE ⟨#[97]⟩ 2 3 = true := by decide
  have v3 : accC saneE ⟨#[97]⟩ 2 3 = false := by decide
  have v4 : countE saneE = 3 := by decide
  rw [v1] at h1 h2 h3 h4
  rw [v2] at h2
  rw [v3] at h3
  rw [v4] at h4
  have h0 := e36 (E := E) 3 2 (by decide)
  unfold Evl.pv at h1 h2 h3 h4
  unfold Tr.pv at h0
  simp only [saneE, Bal.zero, Bool.and_true, Bool.and_false, if_true, List.map_nil, cast_lit] at h0 h1 h2 h3 h4
  rw [callW_eq, EnvS.h 27 F27 rfl]
  simp -implicitDefEqProofs only [go_sem, Nat.reduceEqDiff, Nat.reduceAdd, Nat.reduceLeDiff, Nat.reduceLT, reduceCtorEq, ↓reduceIte, Nat.reduceBEq, Int.reduceLT, Int.reduceLE, Int.reduceNeg, Int.reduceEq, Int.toNat_natCast, cast_lit, Int.reduceToNat, F27, s27, h0, h1, h2, h3, h4]

theorem less_mono {lo k : Int} {v : ByteArray} {p : Bal} (h : lo ≤ k) (h2 : less ⟨k, v⟩ p = true) : less ⟨lo, v⟩ p = true := by
  rw [less_eq] at h2 ⊢
  dsimp only at h2 ⊢
  by_cases h3 : lo = k
  · subst h3; exact h2
  · split at h2
    · rw [if_neg (by omega)]; simp; omega
    · simp only [decide_eq_true_eq] at h2
      rw [if_neg (by omega)]; simp; omega
theorem aborts_mono {lo k : Int} {v : ByteArray} {p : Bal} (h : lo ≤ k) (h2 : aborts p ⟨lo, v⟩ = false) : aborts p ⟨k, v⟩ = false := by
  unfold aborts at h2 ⊢
  cases hz : zeroB p <;> simp [hz] at h2 ⊢
  intro hv
  have := h2 hv
  cases hl : less ⟨k, v⟩ p with
  | false => rfl
  | true => rw [less_mono h hl] at this; cases this

theorem law1003 (zs : List Int) (n : Int) (h0 : 0 ≤ n) (h1 : n ≤ 255) : callW E 1003 [.p (.sl 1 (zs.map (.int .i64))), .p (.int .u8 n)] [] = some ⟨.p (.bool true), [], []⟩ := by
  have e0 := e17 (E := E) zs
  have hl : (zs.take 800).length ≤ 800 := by simp; omega
  generalize zs.take 800 = l at *
  have f1 := e28 (E := E) l 0 5 hl (by omega) (by omega)
  have d1 := dV_nonneg l 0 5
  have d2 := dV_lt l 0 5 (by decide)
  have l1 := dA_le l 0 5 (by omega)
  obtain ⟨e, a', l2, hg, hn, hs, f2⟩ := e76 (E := E) l (dA l 0 5) (dV l 0 5) 1 5 hl l1 (by decide) (by decide) d1 (by omega) (by decide) (by decide)
  have f3 := e30 (E := E) l a' hl l2
  generalize hv : valN (dV l a' 4) = v at *
  have w0 : IntKind.i64.wrap n = n := wrap64 (by omega) (by omega)
  have t0 : 0 ≤ n.tmod 8 := Int.tmod_nonneg _ h0
  have t1 : n.tmod 8 < 8 := Int.tmod_lt_of_pos _ (by decide)
  have w1 : IntKind.i64.wrap (1 + n.tmod 8) = 1 + n.tmod 8 := wrap64 (by omega) (by omega)
  generalize hk : 1 + n.tmod 8 = k at *
  have f4 := e26 (E := E) e hg.t.thin v k k
  have f5 := e27 (E := E)
  have f6 := e90 (E := E) e.p ⟨k, v⟩
  have f7 := e90 (E := E) e.q ⟨k, v⟩
  simp only [cast_lit, Int.natCast_zero] at f1 f2
  dsimp only at f6 f7
  unfold Evl.pv at f2 f4
  rw [callW_eq, EnvS.h 1003 F1003 rfl]
  cases c1 : validE e && votC e v k k with
  | false =>
    rw [c1] at f4
    simp -implicitDefEqProofs only [go_sem, Nat.reduceEqDiff, Nat.reduceAdd, Nat.reduceLeDiff, Nat.reduceLT, reduceCtorEq, ↓reduceIte, Nat.reduceBEq, Int.reduceLT, Int.reduceLE, Int.reduceNeg, Int.reduceEq, Int.toNat_natCast, cast_lit, Int.reduceToNat, F1003, s1003, s1003_1, e0, f1, f2, f3, f4, f5, w0, w1, hk]
  | true =>
    rw [c1] at f4
    by_cases c2 : e.k = 1
    · have g : aborts e.p ⟨k, v⟩ = false ∧ aborts e.q ⟨k, v⟩ = false := by
        simp only [Bool.and_eq_true, validE, votC, fromE, c2, if_true, prepE, Bool.or_eq_true, decide_eq_true_eq, Bool.not_eq_true', decide_eq_false_iff_not] at c1
        obtain ⟨⟨_, _, _, q1⟩, ⟨⟨_, q2⟩, q3⟩, q4⟩ := c1
        rcases q4 with q4 | ⟨q4, q5⟩
        · exact absurd trivial q4
        · rcases q1 with q1 | ⟨q1, q6⟩
          · exact absurd q1 q4
          · rw [← q2]
            exact ⟨aborts_mono q3 q1, aborts_mono q3 q6⟩
      rw [g.1] at f6
      rw [g.2] at f7
      simp only [c2] at f2 f4
      simp -implicitDefEqProofs only [go_sem, Nat.reduceEqDiff, Nat.reduceAdd, Nat.reduceLeDiff, Nat.reduceLT, reduceCtorEq, ↓reduceIte, Nat.reduceBEq, Int.reduceLT, Int.reduceLE, Int.reduceNeg, Int.reduceEq, Int.toNat_natCast, cast_lit, Int.reduceToNat, F1003, s1003, s1003_1, e0, f1, f2, f3, f4, f5, f6, f7, w0, w1, hk, c2]
    · simp -implicitDefEqProofs only [go_sem, Nat.reduceEqDiff, Nat.reduceAdd, Nat.reduceLeDiff, Nat.reduceLT, reduceCtorEq, ↓reduceIte, Nat.reduceBEq, Int.reduceLT, Int.reduceLE, Int.reduceNeg, Int.reduceEq, Int.toNat_natCast, cast_lit, Int.reduceToNat, F1003, s1003, s1003_1, e0, f1, f2, f3, f4, f5, w0, w1, hk, c2]
end Go.Ab.S
