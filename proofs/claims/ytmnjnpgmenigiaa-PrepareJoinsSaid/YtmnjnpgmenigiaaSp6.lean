/- A part of the proof: an executor over plain data, shown sound for the model, and what it computes of the functions. -/
import Derived.Test.YtmnjnpgmenigiaaSp5
set_option linter.all false
set_option linter.unusedSimpArgs false
set_option linter.unusedVariables false
set_option linter.unusedSectionVars false
namespace Go.Ab.S
open Go Go.Ab
variable {E : Env} [EnvS E]

/-- An envelope. -/
structure Evl where
  node : Int
  slot : Int
  seq : Int
  t : Tr
  k : Int
  b : Bal
  p : Bal
  q : Bal
  lo : Int
  hi : Int
def Evl.pv (e : Evl) : PV := .agg [.int .i64 e.node, .int .i64 e.slot, .int .i64 e.seq, .int .i64 e.t.th, .sl 1 (e.t.ns.map (.int .i64)), .sl 3 (e.t.is.map In.pv), .int .i64 e.k, .int .i64 e.b.c, .str e.b.v, .int .i64 e.p.c, .str e.p.v, .int .i64 e.q.c, .str e.q.v, .int .i64 e.lo, .int .i64 e.hi]
def validB (b : Bal) : Bool := (decide (1 ≤ b.c) && decide (b.c ≤ 1000) || decide (b.c = 1000000)) && (decide (1 ≤ (b.v.size : Int)) && decide ((b.v.size : Int) ≤ 200))
def finite (b : Bal) : Bool := validB b && decide (b.c ≤ 1000)
def optional (b : Bal) : Bool := zeroB b || validB b
def primeE (e : Evl) : Bool := zeroB e.q || (!zeroB e.p && less e.q e.p && !decide (e.q.v = e.p.v))
def ranged (e : Evl) : Bool := decide (1 ≤ e.lo) && decide (e.lo ≤ e.hi) && decide (e.hi ≤ 1000)
def prepE (e : Evl) : Bool := finite e.b && optional e.p && optional e.q && primeE e && decide (0 ≤ e.lo) && decide (e.lo ≤ e.hi) && decide (e.hi ≤ e.b.c) && ((decide (e.hi = 0) || prepares e.p e.q ⟨e.hi, e.b.v⟩) && (decide (e.lo = 0) || (!aborts e.p ⟨e.lo, e.b.v⟩ && !aborts e.q ⟨e.lo, e.b.v⟩)))
def headE (e : Evl) : Bool := decide (0 ≤ e.node) && decide (e.node < 10) && decide (1 ≤ e.slot) && decide (e.slot ≤ 1000000) && decide (1 ≤ e.seq) && decide (e.seq ≤ 1000000) && decide (errT e.t = 0)
def validE (e : Evl) : Bool := headE e && (if e.k = 1 then prepE e else if e.k = 2 then finite e.b && validB e.p && decide (e.p.v = e.b.v) && zeroB e.q && ranged e && decide (e.hi ≤ e.p.c) else if e.k = 3 then validB e.b && zeroB e.p && zeroB e.q && ranged e else false)

theorem e159 (a : Bal) : callW E 159 [.p (.agg [.int .i64 a.c, .str a.v])] [] = some ⟨.p (.bool (validB a)), [], []⟩ := by
  rw [callW_eq, EnvS.h 159 F159 rfl]
  simp -implicitDefEqProofs only [go_sem, Nat.reduceEqDiff, Nat.reduceAdd, Nat.reduceLeDiff, Nat.reduceLT, reduceCtorEq, ↓reduceIte, Nat.reduceBEq, Int.reduceLT, Int.reduceLE, Int.reduceNeg, Int.reduceEq, Int.toNat_natCast, cast_lit, Int.reduceToNat, F159, s159, ]
  repeat' ((first | rw [condW_q] | rw [opsG_q] | rw [opsLG_q]); unfold ifq; split <;> rename_i hq <;> simp -implicitDefEqProofs only [go_sem, Nat.reduceEqDiff, Nat.reduceAdd, Nat.reduceLeDiff, Nat.reduceLT, reduceCtorEq, ↓reduceIte, Nat.reduceBEq, Int.reduceLT, Int.reduceLE, Int.reduceNeg, Int.reduceEq, Int.toNat_natCast, cast_lit, Int.reduceToNat, hq, ])
  all_goals simp_all [validB]
  all_goals (intros; first | omega | (exfalso; omega))
attribute [go_sem] e159
/-! as before -/
theorem e161 (a : Bal) : callW E 161 [.p (.agg [.int .i64 a.c, .str a.v])] [] = some ⟨.p (.bool (validB a)), [], []⟩ := by
  rw [callW_eq, EnvS.h 161 F161 rfl]
  simp -implicitDefEqProofs only [go_sem, Nat.reduceEqDiff, Nat.reduceAdd, Nat.reduceLeDiff, Nat.reduceLT, reduceCtorEq, ↓reduceIte, Nat.reduceBEq, Int.reduceLT, Int.reduceLE, Int.reduceNeg, Int.reduceEq, Int.toNat_natCast, cast_lit, Int.reduceToNat, F161, s161, ]
  repeat' ((first | rw [condW_q] | rw [opsG_q] | rw [opsLG_q]); unfold ifq; split <;> rename_i hq <;> simp -implicitDefEqProofs only [go_sem, Nat.reduceEqDiff, Nat.reduceAdd, Nat.reduceLeDiff, Nat.reduceLT, reduceCtorEq, ↓reduceIte, Nat.reduceBEq, Int.reduceLT, Int.reduceLE, Int.reduceNeg, Int.reduceEq, Int.toNat_natCast, cast_lit, Int.reduceToNat, hq, ])
  all_goals simp_all [validB]
  all_goals (intros; first | omega | (exfalso; omega))
attribute [go_sem] e161
theorem e158 (a : Bal) : callW E 158 [.p (.agg [.int .i64 a.c, .str a.v])] [] = some ⟨.p (.bool (finite a)), [], []⟩ := by
  rw [callW_eq, EnvS.h 158 F158 rfl]
  simp -implicitDefEqProofs only [go_sem, Nat.reduceEqDiff, Nat.reduceAdd, Nat.reduceLeDiff, Nat.reduceLT, reduceCtorEq, ↓reduceIte, Nat.reduceBEq, Int.reduceLT, Int.reduceLE, Int.reduceNeg, Int.reduceEq, Int.toNat_natCast, cast_lit, Int.reduceToNat, F158, s158, ]
  repeat' ((first | rw [condW_q] | rw [opsG_q] | rw [opsLG_q]); unfold ifq; split <;> rename_i hq <;> simp -implicitDefEqProofs only [go_sem, Nat.reduceEqDiff, Nat.reduceAdd, Nat.reduceLeDiff, Nat.reduceLT, reduceCtorEq, ↓reduceIte, Nat.reduceBEq, Int.reduceLT, Int.reduceLE, Int.reduceNeg, Int.reduceEq, Int.toNat_natCast, cast_lit, Int.reduceToNat, hq, ])
  all_goals simp_all [finite]
theorem e215 (a : Bal) : callW E 215 [.p (.agg [.int .i64 a.c, .str a.v])] [] = some ⟨.p (.bool (optional a)), [], []⟩ := by
  rw [callW_eq, EnvS.h 215 F215 rfl]
  simp -implicitDefEqProofs only [go_sem, Nat.reduceEqDiff, Nat.reduceAdd, Nat.reduceLeDiff, Nat.reduceLT, reduceCtorEq, ↓reduceIte, Nat.reduceBEq, Int.reduceLT, Int.reduceLE, Int.reduceNeg, Int.reduceEq, Int.toNat_natCast, cast_lit, Int.reduceToNat, F215, s215, ]
  repeat' ((first | rw [condW_q] | rw [opsG_q] | rw [opsLG_q]); unfold ifq; split <;> rename_i hq <;> simp -implicitDefEqProofs only [go_sem, Nat.reduceEqDiff, Nat.reduceAdd, Nat.reduceLeDiff, Nat.reduceLT, reduceCtorEq, ↓reduceIte, Nat.reduceBEq, Int.reduceLT, Int.reduceLE, Int.reduceNeg, Int.reduceEq, Int.toNat_natCast, cast_lit, Int.reduceToNat, hq, ])
  all_goals simp_all [optional]
attribute [go_sem] e158 e215
theorem e104 (e : Evl) (n : Int) : callW E 104 [.p e.pv, .p (.int .i64 n)] [] = some ⟨.p (.agg [.int .i64 n, .str e.b.v]), [], []⟩ := by
  rw [callW_eq, EnvS.h 104 F104 rfl]
  unfold Evl.pv
  simp -implicitDefEqProofs only [go_sem, Nat.reduceEqDiff, Nat.reduceAdd, Nat.reduceLeDiff, Nat.reduceLT, reduceCtorEq, ↓reduceIte, Nat.reduceBEq, Int.reduceLT, Int.reduceLE, Int.reduceNeg, Int.reduceEq, Int.toNat_natCast, cast_lit, Int.reduceToNat, F104, s104]
theorem e157 (e : Evl) : callW E 157 [.p e.pv] [] = some ⟨.p (.bool (prepE e)), [], []⟩ := by
  rw [callW_eq, EnvS.h 157 F157 rfl]
  have h1 := e104 (E := E) e e.lo
  have h2 := e104 (E := E) e e.hi
  have p1 := e132 (E := E) e.p e.q ⟨e.hi, e.b.v⟩
  have p2 := e122 (E := E) e.p ⟨e.lo, e.b.v⟩
  have p3 := e122 (E := E) e.q ⟨e.lo, e.b.v⟩
  unfold Evl.pv at *
  dsimp only at p1 p2 p3
  simp -implicitDefEqProofs only [go_sem, Nat.reduceEqDiff, Nat.reduceAdd, Nat.reduceLeDiff, Nat.reduceLT, reduceCtorEq, ↓reduceIte, Nat.reduceBEq, Int.reduceLT, Int.reduceLE, Int.reduceNeg, Int.reduceEq, Int.toNat_natCast, cast_lit, Int.reduceToNat, F157, s157, s157_1, h1, h2, p1, p2, p3]
  repeat' ((first | rw [condW_q] | rw [opsG_q] | rw [opsLG_q]); unfold ifq; split <;> rename_i hq <;> simp -implicitDefEqProofs only [go_sem, Nat.reduceEqDiff, Nat.reduceAdd, Nat.reduceLeDiff, Nat.reduceLT, reduceCtorEq, ↓reduceIte, Nat.reduceBEq, Int.reduceLT, Int.reduceLE, Int.reduceNeg, Int.reduceEq, Int.toNat_natCast, cast_lit, Int.reduceToNat, hq, h1, h2, p1, p2, p3])
  all_goals (clear p1 p2 p3 h1 h2; unfold prepE primeE; simp_all)
  all_goals (intros; first | omega | (exfalso; omega))
attribute [go_sem] e157
theorem e81 (e : Evl) (h : e.t.thin) : callW E 81 [.p e.pv] [] = some ⟨.p (.bool (validE e)), [], []⟩ := by
  rw [callW_eq, EnvS.h 81 F81 rfl]
  have h1 := e156 (E := E) e.t h
  have h2 := e157 (E := E) e
  unfold Evl.pv at *
  unfold Tr.pv at h1
  unfold validE
  cases c1 : headE e with
  | false =>
    simp -implicitDefEqProofs only [go_sem, Nat.reduceEqDiff, Nat.reduceAdd, Nat.reduceLeDiff, Nat.reduceLT, reduceCtorEq, ↓reduceIte, Nat.reduceBEq, Int.reduceLT, Int.reduceLE, Int.reduceNeg, Int.reduceEq, Int.toNat_natCast, cast_lit, Int.reduceToNat, F81, s81, s81_1, s81_7, s81_2, s81_6, s81_3, s81_5, s81_4, h1, h2]
    repeat' ((first | rw [condW_q] | rw [opsG_q] | rw [opsLG_q]); unfold ifq; split <;> rename_i hq <;> simp -implicitDefEqProofs only [go_sem, Nat.reduceEqDiff, Nat.reduceAdd, Nat.reduceLeDiff, Nat.reduceLT, reduceCtorEq, ↓reduceIte, Nat.reduceBEq, Int.reduceLT, Int.reduceLE, Int.reduceNeg, Int.reduceEq, Int.toNat_natCast, cast_lit, Int.reduceToNat, hq, h1, h2])
    all_goals (clear h1 h2; simp_all [headE])
  | true =>
    have c2 := c1
    unfold headE at c2
    simp only [Bool.and_eq_true, decide_eq_true_eq] at c2
    obtain ⟨⟨⟨⟨⟨⟨d1, d2⟩, d3⟩, d4⟩, d5⟩, d6⟩, d7⟩ := c2
    have f1 : ¬ e.node < 0 := by omega
    have f2 : ¬ 10 ≤ e.node := by omega
    have f3 : ¬ e.slot < 1 := by omega
    have f4 : ¬ 1000000 < e.slot := by omega
    have f5 : ¬ e.seq < 1 := by omega
    have f6 : ¬ 1000000 < e.seq := by omega
    simp -implicitDefEqProofs only [go_sem, Nat.reduceEqDiff, Nat.reduceAdd, Nat.reduceLeDiff, Nat.reduceLT, reduceCtorEq, ↓reduceIte, Nat.reduceBEq, Int.reduceLT, Int.reduceLE, Int.reduceNeg, Int.reduceEq, Int.toNat_natCast, cast_lit, Int.reduceToNat, F81, s81, s81_1, s81_7, s81_2, s81_6, s81_3, s81_5, s81_4, h1, h2, f1, f2, f3, f4, f5, f6, d7]
    repeat' ((first | rw [condW_q] | rw [opsG_q] | rw [opsLG_q]); unfold ifq; split <;> rename_i hq <;> simp -implicitDefEqProofs only [go_sem, Nat.reduceEqDiff, Nat.reduceAdd, Nat.reduceLeDiff, Nat.reduceLT, reduceCtorEq, ↓reduceIte, Nat.reduceBEq, Int.reduceLT, Int.reduceLE, Int.reduceNeg, Int.reduceEq, Int.toNat_natCast, cast_lit, Int.reduceToNat, hq, h1, h2, f1, f2, f3, f4, f5, f6, d7])
    all_goals (clear h1 h2; simp_all [ranged])
    all_goals (intros; first | omega | (exfalso; omega))
end Go.Ab.S
