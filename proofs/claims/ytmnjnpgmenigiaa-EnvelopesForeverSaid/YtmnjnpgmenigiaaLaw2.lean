/- A part of the proof: an executor over plain data, shown sound for the model, and what it computes of the functions. -/
import Derived.Test.YtmnjnpgmenigiaaLaw1
set_option linter.all false
set_option linter.unusedSimpArgs false
set_option linter.unusedVariables false
set_option linter.unusedSectionVars false
namespace Go.Ab.S
open Go Go.Ab
variable {E : Env} [EnvS E]

theorem accC_votC {e : Evl} {v : ByteArray} {lo hi : Int} (h : accC e v lo hi = true) : votC e v lo hi = true := by
  simp only [accC, votC, Bool.and_eq_true, Bool.or_eq_true, decide_eq_true_eq, Bool.not_eq_true', decide_eq_false_iff_not] at h ⊢
  refine ⟨h.1, .inl ?_⟩
  omega
theorem fromE_part {e : Evl} {v : ByteArray} {lo hi a : Int} (h : fromE e v lo hi = true) (h1 : lo ≤ a) (h2 : a ≤ hi) : fromE e v a hi = true := by
  simp only [fromE, Bool.and_eq_true, decide_eq_true_eq] at h ⊢
  exact ⟨⟨⟨by omega, h2⟩, h.1.2⟩, by omega⟩
theorem votC_part {e : Evl} {v : ByteArray} {lo hi a : Int} (h : votC e v lo hi = true) (h1 : lo ≤ a) (h2 : a ≤ hi) : votC e v a hi = true := by
  simp only [votC, Bool.and_eq_true] at h ⊢
  exact ⟨fromE_part h.1 h1 h2, h.2⟩
theorem accC_part {e : Evl} {v : ByteArray} {lo hi a : Int} (h : accC e v lo hi = true) (h1 : lo ≤ a) (h2 : a ≤ hi) : accC e v a hi = true := by
  simp only [accC, Bool.and_eq_true] at h ⊢
  exact ⟨fromE_part h.1 h1 h2, h.2⟩
theorem votC_one {e : Evl} {v w : ByteArray} {lo hi : Int} (h : votC e v lo hi = true) (h2 : votC e w lo hi = true) : v = w := by
  simp only [votC, fromE, Bool.and_eq_true, decide_eq_true_eq] at h h2
  rw [← h.1.1.2, h2.1.1.2]
theorem covers_trans {p x y : Bal} (h : covers p x = true) (h2 : covers x y = true) : covers p y = true := by
  simp only [covers, Bool.and_eq_true, decide_eq_true_eq] at h h2 ⊢
  exact ⟨⟨h.1.1, h.1.2.trans h2.1.2⟩, by omega⟩
theorem prepares_trans {p q x y : Bal} (h : prepares p q x = true) (h2 : covers x y = true) : prepares p q y = true := by
  simp only [prepares, Bool.or_eq_true, Bool.and_eq_true] at h ⊢
  rcases h with (h | h) | h
  · exact .inl (.inl (covers_trans h h2))
  · exact .inl (.inr (covers_trans h h2))
  · refine .inr ⟨h.1, ?_⟩
    simp only [covers, Bool.and_eq_true, decide_eq_true_eq] at h2
    obtain ⟨xc, xv⟩ := x
    obtain ⟨yc, yv⟩ := y
    dsimp only at h2
    have := h2.1.2
    subst this
    exact less_mono h2.2 h.2
theorem nonzero {b : Bal} (h : 1 ≤ b.c) : zeroB b = false := by simp [zeroB]; omega
theorem accP_trans {e : Evl} {x y : Bal} (hy : zeroB y = false) (h : accP e x = true) (h2 : covers x y = true) : accP e y = true := by
  have hx : zeroB x = false := by
    simp only [covers, Bool.and_eq_true, Bool.not_eq_true'] at h2
    exact h2.1.1
  simp only [accP, hx, hy, Bool.false_eq_true, if_false] at h ⊢
  split at h
  · rename_i hk; rw [if_pos hk]; exact prepares_trans h h2
  · rename_i hk
    rw [if_neg hk]
    split at h
    · rename_i hk2; rw [if_pos hk2]; exact covers_trans h h2
    · rename_i hk2; rw [if_neg hk2]
      simp only [covers, Bool.and_eq_true, decide_eq_true_eq] at h h2 ⊢
      exact h.trans h2.1.2
theorem votP_trans {e : Evl} {x y : Bal} (hy : zeroB y = false) (h : votP e x = true) (h2 : covers x y = true) : votP e y = true := by
  have hx : zeroB x = false := by
    simp only [covers, Bool.and_eq_true, Bool.not_eq_true'] at h2
    exact h2.1.1
  simp only [votP, hx, hy, Bool.false_eq_true, if_false] at h ⊢
  split at h
  · rename_i hk; rw [if_pos hk]; exact covers_trans h h2
  · rename_i hk; rw [if_neg hk]
    simp only [covers, Bool.and_eq_true, decide_eq_true_eq] at h h2 ⊢
    exact h.trans h2.1.2

set_option maxHeartbeats 1000000 in
theorem law1005 (zs : List Int) : callW E 1005 [.p (.sl 1 (zs.map (.int .i64)))] [] = some ⟨.p (.bool true), [], []⟩ := by
  have e0 := e17 (E := E) zs
  have hl : (zs.take 800).length ≤ 800 := by simp; omega
  generalize zs.take 800 = l at *
  have f1 := e28 (E := E) l 0 5 hl (by omega) (by omega)
  have d1 := dV_nonneg l 0 5
  have d2 := dV_lt l 0 5 (by decide)
  have l1 := dA_le l 0 5 (by omega)
  obtain ⟨e, a1, l2, hg, hn, hs, f2⟩ := e76 (E := E) l (dA l 0 5) (dV l 0 5) 1 5 hl l1 (by decide) (by decide) d1 (by omega) (by decide) (by decide)
  simp only [cast_lit, Int.natCast_zero] at f1 f2
  have f3 := e31 (E := E) l a1 1 6 hl l2 (by omega) (by omega) (by omega) (by omega)
  simp only [show (6 : Int) - 1 + 1 = 6 from rfl] at f3
  have b1 := dV_nonneg l a1 6
  have b2 := dV_lt l a1 6 (by decide)
  have l3 := dA_le l a1 6 l2
  generalize dA l a1 6 = a2 at *
  generalize hlo : 1 + dV l a1 6 = lo at *
  have f4 := e28 (E := E) l a2 4 hl l3 (by omega)
  have b3 := dV_nonneg l a2 4
  have b4 := dV_lt l a2 4 (by decide)
  have l4 := dA_le l a2 4 l3
  generalize dA l a2 4 = a3 at *
  have w1 : IntKind.i64.wrap (lo + dV l a2 4) = lo + dV l a2 4 := wrap64 (by omega) (by omega)
  generalize hhi : lo + dV l a2 4 = hi at *
  have f5 := e31 (E := E) l a3 lo hi hl l4 (by omega) (by omega) (by omega) (by omega)
  have b5 := dV_nonneg l a3 (hi - lo + 1)
  have b6 := dV_lt l a3 (hi - lo + 1) (by omega)
  have l5 := dA_le l a3 (hi - lo + 1) l4
  generalize dA l a3 (hi - lo + 1) = a4 at *
  generalize hm : lo + dV l a3 (hi - lo + 1) = m at *
  have f6 := e30 (E := E) l a4 hl l5
  have l6 := dA_le l a4 4 l5
  generalize dA l a4 4 = a5 at *
  generalize valN (dV l a4 4) = v at *
  have f7 := e30 (E := E) l a5 hl l6
  have l7 := dA_le l a5 4 l6
  generalize dA l a5 4 = a6 at *
  generalize valN (dV l a5 4) = w at *
  have f8 := e39 (E := E) l a6 hl l7
  have b7 := dV_nonneg l a6 6
  have l8 := dA_le l _ 4 (dA_le l a6 6 l7)
  generalize valN (dV l (dA l a6 6) 4) = xv at *
  generalize dA l (dA l a6 6) 4 = a7 at *
  generalize hxc : 1 + dV l a6 6 = xc at *
  have f9 := e39 (E := E) l a7 hl l8
  have b8 := dV_nonneg l a7 6
  generalize valN (dV l (dA l a7 6) 4) = yv at *
  generalize dA l (dA l a7 6) 4 = a8 at *
  generalize hyc : 1 + dV l a7 6 = yc at *
  have hzy : zeroB ⟨yc, yv⟩ = false := nonzero (by show 1 ≤ yc; omega)
  have g0 := e81 (E := E) e hg.t.thin
  have g1 := e87 (E := E) e hg.t.thin v lo hi
  have g2 := e26 (E := E) e hg.t.thin v lo hi
  have g3 := e26 (E := E) e hg.t.thin v m hi
  have g4 := e87 (E := E) e hg.t.thin v m hi
  have g5 := e26 (E := E) e hg.t.thin w lo hi
  have g6 := e23 (E := E) e hg.t.thin ⟨xc, xv⟩
  have g7 := e23 (E := E) e hg.t.thin ⟨yc, yv⟩
  have g8 := e22 (E := E) e hg.t.thin ⟨xc, xv⟩
  have g9 := e22 (E := E) e hg.t.thin ⟨yc, yv⟩
  have ga := e134 (E := E) ⟨xc, xv⟩ ⟨yc, yv⟩
  have gb := e27 (E := E)
  simp only [hg.valid, Bool.true_and] at g0 g1 g2 g3 g4 g5 g6 g7 g8 g9
  dsimp only at g6 g7 g8 g9 ga
  unfold Evl.pv at f2 g0 g1 g2 g3 g4 g5 g6 g7 g8 g9
  have i1 : accC e v lo hi = true → votC e v lo hi = true := accC_votC
  have i2 : votC e v lo hi = true → votC e v m hi = true := fun h => votC_part h (by omega) (by omega)
  have i3 : accC e v lo hi = true → accC e v m hi = true := fun h => accC_part h (by omega) (by omega)
  have i4 : ¬ v = w → votC e v lo hi = true → votC e w lo hi = false := fun h h2 => by
    cases h3 : votC e w lo hi with
    | false => rfl
    | true => exact absurd (votC_one h2 h3) h
  have i5 : accP e ⟨xc, xv⟩ = true → covers ⟨xc, xv⟩ ⟨yc, yv⟩ = true → accP e ⟨yc, yv⟩ = true := accP_trans hzy
  have i6 : votP e ⟨xc, xv⟩ = true → covers ⟨xc, xv⟩ ⟨yc, yv⟩ = true → votP e ⟨yc, yv⟩ = true := votP_trans hzy
  have hT : ∀ T H, tget T 4 = .ptr (.loc 2 4 0) 0 → tget T 11 = .ptr (.loc 9 4 0) 0 → tget T 12 = .ptr (.loc 9 5 0) 0 → hget H (.loc 2 4 0) = some (.box e.av) → hget H (.loc 9 4 0) = some (.box [.p (.int .i64 xc), .p (.str xv)]) → hget H (.loc 9 5 0) = some (.box [.p (.int .i64 yc), .p (.str yv)]) →
      endX F1005 0 (sexW E 0 (.seq (.reg 14 [{ dst := some 101, op := .load true 15 (.t 4) }, { dst := some 102, op := .load true 2 (.t 11) }, { dst := some 103, op := .call (.f 23) [.t 101, .t 102] }, { dst := some 104, op := .un .not (.t 103) }, { dst := some 105, op := .mv (.t 104) }, { dst := some 106, op := .load true 2 (.t 11), guard := some (105, false) }, { dst := some 107, op := .load true 2 (.t 12), guard := some (105, false) }, { dst := some 108, op := .call (.f 134) [.t 106, .t 107], guard := some (105, false) }, { dst := some 109, op := .un .not (.t 108), guard := some (105, false) }, { dst := some 110, op := .pick (.t 105) (.c (.bool true)) (.t 109) }, { dst := some 111, op := .mv (.t 110) }, { dst := some 112, op := .load true 15 (.t 4), guard := some (111, false) }, { dst := some 113, op := .load true 2 (.t 12), guard := some (111, false) }, { dst := some 114, op := .call (.f 23) [.t 112, .t 113], guard := some (111, false) }, { dst := some 115, op := .pick (.t 111) (.c (.bool true)) (.t 114) }, { dst := some 116, op := .mv (.t 115) }, { dst := some 117, op := .load true 15 (.t 4), guard := some (116, true) }, { dst := some 118, op := .load true 2 (.t 11), guard := some (116, true) }, { dst := some 119, op := .call (.f 22) [.t 117, .t 118], guard := some (116, true) }, { dst := some 120, op := .un .not (.t 119), guard := some (116, true) }, { dst := some 121, op := .mv (.t 120), guard := some (116, true) }, { dst := some 122, op := .load true 2 (.t 11), guard := some (121, false) }, { dst := some 123, op := .load true 2 (.t 12), guard := some (121, false) }, { dst := some 124, op := .call (.f 134) [.t 122, .t 123], guard := some (121, false) }, { dst := some 125, op := .un .not (.t 124), guard := some (121, false) }, { dst := some 126, op := .pick (.t 121) (.c (.bool true)) (.t 125), guard := some (116, true) }, { dst := some 127, op := .mv (.t 126), guard := some (116, true) }, { dst := some 128, op := .load true 15 (.t 4), guard := some (127, false) }, { dst := some 129, op := .load true 2 (.t 12), guard := some (127, false) }, { dst := some 130, op := .call (.f 22) [.t 128, .t 129], guard := some (127, false) }, { dst := some 131, op := .pick (.t 127) (.c (.bool true)) (.t 130), guard := some (116, true) }, { dst := some 132, op := .pick (.t 116) (.t 131) (.c (.bool false)) }, { dst := some 133, op := .mv (.t 132) }, { dst := some 134, op := .call (.f 27) [], guard := some (133, true) }, { dst := some 135, op := .pick (.t 133) (.t 134) (.c (.bool false)) }, { dst := some 2, op := .mv (.t 135) }]) .ret) ⟨T, H⟩) = some ⟨.p (.bool true), [], []⟩ := by
    intro T H t4 t11 t12 h1 h2 h3
    unfold Evl.av at h1
    clear e0 f1 f2 f3 f4 f5 f6 f7 f8 f9 g0 g1 g2 g3 g4 g5 i1 i2 i3 i4
    cases P1 : accP e ⟨xc, xv⟩ with
    | false =>
      rw [P1] at g6
      cases P3 : votP e ⟨xc, xv⟩ with
      | false => rw [P3] at g8; simp -implicitDefEqProofs only [go_sem, Nat.reduceEqDiff, Nat.reduceAdd, Nat.reduceLeDiff, Nat.reduceLT, reduceCtorEq, ↓reduceIte, Nat.reduceBEq, Int.reduceLT, Int.reduceLE, Int.reduceNeg, Int.reduceEq, Int.toNat_natCast, cast_lit, Int.reduceToNat, F1005, t4, t11, t12, h1, h2, h3, g6, g8, gb]
      | true =>
        rw [P3] at g8
        cases CC : covers ⟨xc, xv⟩ ⟨yc, yv⟩ with
        | false => rw [CC] at ga; simp -implicitDefEqProofs only [go_sem, Nat.reduceEqDiff, Nat.reduceAdd, Nat.reduceLeDiff, Nat.reduceLT, reduceCtorEq, ↓reduceIte, Nat.reduceBEq, Int.reduceLT, Int.reduceLE, Int.reduceNeg, Int.reduceEq, Int.toNat_natCast, cast_lit, Int.reduceToNat, F1005, t4, t11, t12, h1, h2, h3, g6, g8, ga, gb]
        | true => rw [CC] at ga; rw [i6 P3 CC] at g9; simp -implicitDefEqProofs only [go_sem, Nat.reduceEqDiff, Nat.reduceAdd, Nat.reduceLeDiff, Nat.reduceLT, reduceCtorEq, ↓reduceIte, Nat.reduceBEq, Int.reduceLT, Int.reduceLE, Int.reduceNeg, Int.reduceEq, Int.toNat_natCast, cast_lit, Int.reduceToNat, F1005, t4, t11, t12, h1, h2, h3, g6, g8, g9, ga, gb]
    | true =>
      rw [P1] at g6
      cases CC : covers ⟨xc, xv⟩ ⟨yc, yv⟩ with
      | false =>
        rw [CC] at ga
        cases P3 : votP e ⟨xc, xv⟩ with
        | false => rw [P3] at g8; simp -implicitDefEqProofs only [go_sem, Nat.reduceEqDiff, Nat.reduceAdd, Nat.reduceLeDiff, Nat.reduceLT, reduceCtorEq, ↓reduceIte, Nat.reduceBEq, Int.reduceLT, Int.reduceLE, Int.reduceNeg, Int.reduceEq, Int.toNat_natCast, cast_lit, Int.reduceToNat, F1005, t4, t11, t12, h1, h2, h3, g6, g8, ga, gb]
        | true => rw [P3] at g8; simp -implicitDefEqProofs only [go_sem, Nat.reduceEqDiff, Nat.reduceAdd, Nat.reduceLeDiff, Nat.reduceLT, reduceCtorEq, ↓reduceIte, Nat.reduceBEq, Int.reduceLT, Int.reduceLE, Int.reduceNeg, Int.reduceEq, Int.toNat_natCast, cast_lit, Int.reduceToNat, F1005, t4, t11, t12, h1, h2, h3, g6, g8, ga, gb]
      | true =>
        rw [CC] at ga
        rw [i5 P1 CC] at g7
        cases P3 : votP e ⟨xc, xv⟩ with
        | false => rw [P3] at g8; simp -implicitDefEqProofs only [go_sem, Nat.reduceEqDiff, Nat.reduceAdd, Nat.reduceLeDiff, Nat.reduceLT, reduceCtorEq, ↓reduceIte, Nat.reduceBEq, Int.reduceLT, Int.reduceLE, Int.reduceNeg, Int.reduceEq, Int.toNat_natCast, cast_lit, Int.reduceToNat, F1005, t4, t11, t12, h1, h2, h3, g6, g7, g8, ga, gb]
        | true => rw [P3] at g8; rw [i6 P3 CC] at g9; simp -implicitDefEqProofs only [go_sem, Nat.reduceEqDiff, Nat.reduceAdd, Nat.reduceLeDiff, Nat.reduceLT, reduceCtorEq, ↓reduceIte, Nat.reduceBEq, Int.reduceLT, Int.reduceLE, Int.reduceNeg, Int.reduceEq, Int.toNat_natCast, cast_lit, Int.reduceToNat, F1005, t4, t11, t12, h1, h2, h3, g6, g7, g8, g9, ga, gb]
  unfold Evl.av at hT
  rw [callW_eq, EnvS.h 1005 F1005 rfl]
  simp only [F1005, s1005] at hT ⊢
  generalize ht : ((.seq (.reg 14 [{ dst := some 101, op := .load true 15 (.t 4) }, { dst := some 102, op := .load true 2 (.t 11) }, { dst := some 103, op := .call (.f 23) [.t 101, .t 102] }, { dst := some 104, op := .un .not (.t 103) }, { dst := some 105, op := .mv (.t 104) }, { dst := some 106, op := .load true 2 (.t 11), guard := some (105, false) }, { dst := some 107, op := .load true 2 (.t 12), guard := some (105, false) }, { dst := some 108, op := .call (.f 134) [.t 106, .t 107], guard := some (105, false) }, { dst := some 109, op := .un .not (.t 108), guard := some (105, false) }, { dst := some 110, op := .pick (.t 105) (.c (.bool true)) (.t 109) }, { dst := some 111, op := .mv (.t 110) }, { dst := some 112, op := .load true 15 (.t 4), guard := some (111, false) }, { dst := some 113, op := .load true 2 (.t 12), guard := some (111, false) }, { dst := some 114, op := .call (.f 23) [.t 112, .t 113], guard := some (111, false) }, { dst := some 115, op := .pick (.t 111) (.c (.bool true)) (.t 114) }, { dst := some 116, op := .mv (.t 115) }, { dst := some 117, op := .load true 15 (.t 4), guard := some (116, true) }, { dst := some 118, op := .load true 2 (.t 11), guard := some (116, true) }, { dst := some 119, op := .call (.f 22) [.t 117, .t 118], guard := some (116, true) }, { dst := some 120, op := .un .not (.t 119), guard := some (116, true) }, { dst := some 121, op := .mv (.t 120), guard := some (116, true) }, { dst := some 122, op := .load true 2 (.t 11), guard := some (121, false) }, { dst := some 123, op := .load true 2 (.t 12), guard := some (121, false) }, { dst := some 124, op := .call (.f 134) [.t 122, .t 123], guard := some (121, false) }, { dst := some 125, op := .un .not (.t 124), guard := some (121, false) }, { dst := some 126, op := .pick (.t 121) (.c (.bool true)) (.t 125), guard := some (116, true) }, { dst := some 127, op := .mv (.t 126), guard := some (116, true) }, { dst := some 128, op := .load true 15 (.t 4), guard := some (127, false) }, { dst := some 129, op := .load true 2 (.t 12), guard := some (127, false) }, { dst := some 130, op := .call (.f 22) [.t 128, .t 129], guard := some (127, false) }, { dst := some 131, op := .pick (.t 127) (.c (.bool true)) (.t 130), guard := some (116, true) }, { dst := some 132, op := .pick (.t 116) (.t 131) (.c (.bool false)) }, { dst := some 133, op := .mv (.t 132) }, { dst := some 134, op := .call (.f 27) [], guard := some (133, true) }, { dst := some 135, op := .pick (.t 133) (.t 134) (.c (.bool false)) }, { dst := some 2, op := .mv (.t 135) }]) .ret) : SCode) = tl at hT ⊢
  clear g6 g7 g8 g9 ga gb i5 i6
  cases A1 : accC e v lo hi with
  | true =>
    rw [A1] at g1
    rw [i1 A1] at g2
    rw [i2 (i1 A1)] at g3
    rw [i3 A1] at g4
    by_cases hvw : v = w
    · subst hvw
      simp -implicitDefEqProofs only [go_sem, Nat.reduceEqDiff, Nat.reduceAdd, Nat.reduceLeDiff, Nat.reduceLT, reduceCtorEq, ↓reduceIte, Nat.reduceBEq, Int.reduceLT, Int.reduceLE, Int.reduceNeg, Int.reduceEq, Int.toNat_natCast, cast_lit, Int.reduceToNat, s1005_1, s1005_2, s1005_3, hlo, hhi, hm, hxc, hyc, e0, f1, f2, f3, f4, f5, f6, f7, f8, f9, w1, g0, g1, g2, g3, g4, g5]
      exact hT _ _ rfl rfl rfl rfl rfl rfl
    · rw [i4 hvw (i1 A1)] at g5
      simp -implicitDefEqProofs only [go_sem, Nat.reduceEqDiff, Nat.reduceAdd, Nat.reduceLeDiff, Nat.reduceLT, reduceCtorEq, ↓reduceIte, Nat.reduceBEq, Int.reduceLT, Int.reduceLE, Int.reduceNeg, Int.reduceEq, Int.toNat_natCast, cast_lit, Int.reduceToNat, s1005_1, s1005_2, s1005_3, hvw, hlo, hhi, hm, hxc, hyc, e0, f1, f2, f3, f4, f5, f6, f7, f8, f9, w1, g0, g1, g2, g3, g4, g5]
      exact hT _ _ rfl rfl rfl rfl rfl rfl
  | false =>
    rw [A1] at g1
    cases V1 : votC e v lo hi with
    | false =>
      rw [V1] at g2
      by_cases hvw : v = w
      · subst hvw
        simp -implicitDefEqProofs only [go_sem, Nat.reduceEqDiff, Nat.reduceAdd, Nat.reduceLeDiff, Nat.reduceLT, reduceCtorEq, ↓reduceIte, Nat.reduceBEq, Int.reduceLT, Int.reduceLE, Int.reduceNeg, Int.reduceEq, Int.toNat_natCast, cast_lit, Int.reduceToNat, s1005_1, s1005_2, s1005_3, hlo, hhi, hm, hxc, hyc, e0, f1, f2, f3, f4, f5, f6, f7, f8, f9, w1, g0, g1, g2, g3, g4]
        exact hT _ _ rfl rfl rfl rfl rfl rfl
      · simp -implicitDefEqProofs only [go_sem, Nat.reduceEqDiff, Nat.reduceAdd, Nat.reduceLeDiff, Nat.reduceLT, reduceCtorEq, ↓reduceIte, Nat.reduceBEq, Int.reduceLT, Int.reduceLE, Int.reduceNeg, Int.reduceEq, Int.toNat_natCast, cast_lit, Int.reduceToNat, s1005_1, s1005_2, s1005_3, hvw, hlo, hhi, hm, hxc, hyc, e0, f1, f2, f3, f4, f5, f6, f7, f8, f9, w1, g0, g1, g2, g3, g4]
        exact hT _ _ rfl rfl rfl rfl rfl rfl
    | true =>
      rw [V1] at g2
      rw [i2 V1] at g3
      by_cases hvw : v = w
      · subst hvw
        simp -implicitDefEqProofs only [go_sem, Nat.reduceEqDiff, Nat.reduceAdd, Nat.reduceLeDiff, Nat.reduceLT, reduceCtorEq, ↓reduceIte, Nat.reduceBEq, Int.reduceLT, Int.reduceLE, Int.reduceNeg, Int.reduceEq, Int.toNat_natCast, cast_lit, Int.reduceToNat, s1005_1, s1005_2, s1005_3, hlo, hhi, hm, hxc, hyc, e0, f1, f2, f3, f4, f5, f6, f7, f8, f9, w1, g0, g1, g2, g3, g4]
        exact hT _ _ rfl rfl rfl rfl rfl rfl
      · rw [i4 hvw V1] at g5
        simp -implicitDefEqProofs only [go_sem, Nat.reduceEqDiff, Nat.reduceAdd, Nat.reduceLeDiff, Nat.reduceLT, reduceCtorEq, ↓reduceIte, Nat.reduceBEq, Int.reduceLT, Int.reduceLE, Int.reduceNeg, Int.reduceEq, Int.toNat_natCast, cast_lit, Int.reduceToNat, s1005_1, s1005_2, s1005_3, hvw, hlo, hhi, hm, hxc, hyc, e0, f1, f2, f3, f4, f5, f6, f7, f8, f9, w1, g0, g1, g2, g3, g4, g5]
        exact hT _ _ rfl rfl rfl rfl rfl rfl
end Go.Ab.S
