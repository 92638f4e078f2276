/- A part of the proof: an executor over plain data, shown sound for the model, and what it computes of the functions. -/
import Derived.Test.YtmnjnpgmenigiaaSp6
set_option linter.all false
set_option linter.unusedSimpArgs false
set_option linter.unusedVariables false
set_option linter.unusedSectionVars false
namespace Go.Ab.S
open Go Go.Ab
variable {E : Env} [EnvS E]

/-- The reference's word for what is valid. -/
def validR (e : Evl) : Bool := headE e && validB e.b && (if e.k = 1 then
    !decide (1000 < e.b.c) && (zeroB e.p || validB e.p) && (zeroB e.q || (!zeroB e.p && validB e.q && less e.q e.p && !decide (e.q.v = e.p.v))) && decide (0 ≤ e.lo) && decide (e.lo ≤ e.hi) && decide (e.hi ≤ e.b.c) &&
    ((!decide (0 < e.hi) || prepares e.p e.q ⟨e.hi, e.b.v⟩) && (decide (e.lo = 0) || (!aborts e.p ⟨e.lo, e.b.v⟩ && !aborts e.q ⟨e.lo, e.b.v⟩)))
  else if e.k = 2 then decide (e.b.c ≤ 1000) && validB e.p && decide (e.p.v = e.b.v) && zeroB e.q && ranged e && decide (e.hi ≤ e.p.c) else if e.k = 3 then zeroB e.p && zeroB e.q && ranged e else false)
theorem validR_eq (e : Evl) : validR e = validE e := by
  unfold validR validE
  cases headE e <;> simp
  by_cases k1 : e.k = 1
  · simp only [k1, if_true, prepE, finite, optional, primeE]
    by_cases h4 : 0 ≤ e.lo ∧ e.lo ≤ e.hi
    · have hd : (!decide (0 < e.hi)) = decide (e.hi = 0) := by rw [Bool.eq_iff_iff]; simp; omega
      have h1 : (!decide (1000 < e.b.c)) = decide (e.b.c ≤ 1000) := by rw [Bool.eq_iff_iff]; simp
      rw [hd, h1]
      generalize ((decide (e.hi = 0) || prepares e.p e.q ⟨e.hi, e.b.v⟩) && (decide (e.lo = 0) || (!aborts e.p ⟨e.lo, e.b.v⟩ && !aborts e.q ⟨e.lo, e.b.v⟩))) = X
      cases validB e.b <;> cases decide (e.b.c ≤ 1000) <;> cases zeroB e.p <;> cases validB e.p <;> cases zeroB e.q <;> cases validB e.q <;> cases less e.q e.p <;> simp
    · have : decide (0 ≤ e.lo) = false ∨ decide (e.lo ≤ e.hi) = false := by
        by_cases h5 : 0 ≤ e.lo
        · right; simp; omega
        · left; simp; omega
      rcases this with h | h <;> simp [h]
  · by_cases k2 : e.k = 2
    · simp [k2, finite]
      cases validB e.b <;> simp
    · by_cases k3 : e.k = 3 <;> simp [k1, k2, k3]
      cases validB e.b <;> simp
set_option maxHeartbeats 4000000 in
theorem e82 (e : Evl) (h : e.t.thin) : callW E 82 [.p e.pv] [] = some ⟨.p (.bool (validE e)), [], []⟩ := by
  rw [← validR_eq]
  rw [callW_eq, EnvS.h 82 F82 rfl]
  have h1 := e160 (E := E) e.t h
  have p1 := e46 (E := E) e.p e.q ⟨e.hi, e.b.v⟩
  have p2 := e90 (E := E) e.p ⟨e.lo, e.b.v⟩
  have p3 := e90 (E := E) e.q ⟨e.lo, e.b.v⟩
  unfold Evl.pv at *
  unfold Tr.pv at h1
  unfold validR
  dsimp only at p1 p2 p3
  cases c1 : headE e with
  | false =>
    simp -implicitDefEqProofs only [go_sem, Nat.reduceEqDiff, Nat.reduceAdd, Nat.reduceLeDiff, Nat.reduceLT, reduceCtorEq, ↓reduceIte, Nat.reduceBEq, Int.reduceLT, Int.reduceLE, Int.reduceNeg, Int.reduceEq, Int.toNat_natCast, cast_lit, Int.reduceToNat, F82, s82, s82_1, s82_11, s82_6, s82_2, s82_3, s82_4, s82_5, s82_10, s82_7, s82_9, s82_8, h1, p1, p2, p3]
    repeat' ((first | rw [condW_q] | rw [opsG_q] | rw [opsLG_q]); unfold ifq; split <;> rename_i hq <;> simp -implicitDefEqProofs only [go_sem, Nat.reduceEqDiff, Nat.reduceAdd, Nat.reduceLeDiff, Nat.reduceLT, reduceCtorEq, ↓reduceIte, Nat.reduceBEq, Int.reduceLT, Int.reduceLE, Int.reduceNeg, Int.reduceEq, Int.toNat_natCast, cast_lit, Int.reduceToNat, hq, h1, p1, p2, p3])
    all_goals (clear h1 p1 p2 p3; simp_all [headE])
    all_goals (intros; first | omega | (exfalso; omega))
  | true =>
    have c2 := c1
    unfold headE at c2
    simp only [Bool.and_eq_true, decide_eq_true_eq] at c2
    obtain ⟨⟨⟨⟨⟨⟨d1, d2⟩, d3⟩, d4⟩, d5⟩, d6⟩, d7⟩ := c2
    have f1 : ¬ e.node < 0 := by omega
    have f2 : ¬ 9 < e.node := by omega
    have f3 : ¬ e.slot < 1 := by omega
    have f4 : ¬ 1000000 < e.slot := by omega
    have f5 : ¬ e.seq < 1 := by omega
    have f6 : ¬ 1000000 < e.seq := by omega
    cases c3 : validB e.b with
    | false => simp -implicitDefEqProofs only [go_sem, Nat.reduceEqDiff, Nat.reduceAdd, Nat.reduceLeDiff, Nat.reduceLT, reduceCtorEq, ↓reduceIte, Nat.reduceBEq, Int.reduceLT, Int.reduceLE, Int.reduceNeg, Int.reduceEq, Int.toNat_natCast, cast_lit, Int.reduceToNat, F82, s82, s82_1, s82_11, s82_6, s82_2, s82_3, s82_4, s82_5, s82_10, s82_7, s82_9, s82_8, h1, p1, p2, p3, f1, f2, f3, f4, f5, f6, d7, c3]
    | true =>
      simp -implicitDefEqProofs only [go_sem, Nat.reduceEqDiff, Nat.reduceAdd, Nat.reduceLeDiff, Nat.reduceLT, reduceCtorEq, ↓reduceIte, Nat.reduceBEq, Int.reduceLT, Int.reduceLE, Int.reduceNeg, Int.reduceEq, Int.toNat_natCast, cast_lit, Int.reduceToNat, F82, s82, s82_1, s82_11, s82_6, s82_2, s82_3, s82_4, s82_5, s82_10, s82_7, s82_9, s82_8, h1, p1, p2, p3, f1, f2, f3, f4, f5, f6, d7, c3]
      repeat' ((first | rw [condW_q] | rw [opsG_q] | rw [opsLG_q]); unfold ifq; split <;> rename_i hq <;> simp -implicitDefEqProofs only [go_sem, Nat.reduceEqDiff, Nat.reduceAdd, Nat.reduceLeDiff, Nat.reduceLT, reduceCtorEq, ↓reduceIte, Nat.reduceBEq, Int.reduceLT, Int.reduceLE, Int.reduceNeg, Int.reduceEq, Int.toNat_natCast, cast_lit, Int.reduceToNat, hq, h1, p1, p2, p3, f1, f2, f3, f4, f5, f6, d7, c3])
      all_goals (clear h1 p1 p2 p3; simp_all [ranged])
      all_goals (intros; first | omega | (exfalso; omega))
end Go.Ab.S
