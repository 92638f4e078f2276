/- A part of the proof: an executor over plain data, shown sound for the model, and what it computes of the functions. -/
import Derived.Test.YtmnjnpgmenigiaaSp7
set_option linter.all false
set_option linter.unusedSimpArgs false
set_option linter.unusedVariables false
set_option linter.unusedSectionVars false
namespace Go.Ab.S
open Go Go.Ab
variable {E : Env} [EnvS E]

def fromE (e : Evl) (v : ByteArray) (lo hi : Int) : Bool := decide (1 ≤ lo) && decide (lo ≤ hi) && decide (e.b.v = v) && decide (e.lo ≤ lo)
def accC (e : Evl) (v : ByteArray) (lo hi : Int) : Bool := fromE e v lo hi && (decide (e.k = 3) || (decide (e.k = 2) && decide (hi ≤ e.hi)))
def votC (e : Evl) (v : ByteArray) (lo hi : Int) : Bool := fromE e v lo hi && (!decide (e.k = 1) || (!decide (e.lo = 0) && decide (hi ≤ e.hi)))
def accP (e : Evl) (b : Bal) : Bool := if zeroB b = true then false else if e.k = 1 then prepares e.p e.q b else if e.k = 2 then covers e.p b else decide (e.b.v = b.v)
def votP (e : Evl) (b : Bal) : Bool := if zeroB b = true then false else if e.k = 1 then covers e.b b else decide (e.b.v = b.v)
def countE (e : Evl) : Int := if e.k = 3 then 1000000 else e.b.c
theorem e198 (e : Evl) (v : ByteArray) (lo hi : Int) : callW E 198 [.p e.pv, .p (.str v), .p (.int .i64 lo), .p (.int .i64 hi)] [] = some ⟨.p (.bool (fromE e v lo hi)), [], []⟩ := by
  rw [callW_eq, EnvS.h 198 F198 rfl]
  unfold Evl.pv
  simp -implicitDefEqProofs only [go_sem, Nat.reduceEqDiff, Nat.reduceAdd, Nat.reduceLeDiff, Nat.reduceLT, reduceCtorEq, ↓reduceIte, Nat.reduceBEq, Int.reduceLT, Int.reduceLE, Int.reduceNeg, Int.reduceEq, Int.toNat_natCast, cast_lit, Int.reduceToNat, F198, s198, ]
  repeat' ((first | rw [condW_q] | rw [opsG_q] | rw [opsLG_q]); unfold ifq; split <;> rename_i hq <;> simp -implicitDefEqProofs only [go_sem, Nat.reduceEqDiff, Nat.reduceAdd, Nat.reduceLeDiff, Nat.reduceLT, reduceCtorEq, ↓reduceIte, Nat.reduceBEq, Int.reduceLT, Int.reduceLE, Int.reduceNeg, Int.reduceEq, Int.toNat_natCast, cast_lit, Int.reduceToNat, hq, ])
  all_goals simp_all [fromE]
  all_goals (intros; first | omega | (exfalso; omega))
theorem e163 (e : Evl) (v : ByteArray) (lo hi : Int) : callW E 163 [.p e.pv, .p (.str v), .p (.int .i64 lo), .p (.int .i64 hi)] [] = some ⟨.p (.bool (accC e v lo hi)), [], []⟩ := by
  rw [callW_eq, EnvS.h 163 F163 rfl]
  have h1 := e198 (E := E) e v lo hi
  unfold Evl.pv at *
  simp -implicitDefEqProofs only [go_sem, Nat.reduceEqDiff, Nat.reduceAdd, Nat.reduceLeDiff, Nat.reduceLT, reduceCtorEq, ↓reduceIte, Nat.reduceBEq, Int.reduceLT, Int.reduceLE, Int.reduceNeg, Int.reduceEq, Int.toNat_natCast, cast_lit, Int.reduceToNat, F163, s163, h1]
  repeat' ((first | rw [condW_q] | rw [opsG_q] | rw [opsLG_q]); unfold ifq; split <;> rename_i hq <;> simp -implicitDefEqProofs only [go_sem, Nat.reduceEqDiff, Nat.reduceAdd, Nat.reduceLeDiff, Nat.reduceLT, reduceCtorEq, ↓reduceIte, Nat.reduceBEq, Int.reduceLT, Int.reduceLE, Int.reduceNeg, Int.reduceEq, Int.toNat_natCast, cast_lit, Int.reduceToNat, hq, h1])
  all_goals (clear h1; simp_all [accC])
  all_goals (intros; first | omega | (exfalso; omega))
theorem e116 (e : Evl) (v : ByteArray) (lo hi : Int) : callW E 116 [.p e.pv, .p (.str v), .p (.int .i64 lo), .p (.int .i64 hi)] [] = some ⟨.p (.bool (votC e v lo hi)), [], []⟩ := by
  rw [callW_eq, EnvS.h 116 F116 rfl]
  have h1 := e198 (E := E) e v lo hi
  unfold Evl.pv at *
  simp -implicitDefEqProofs only [go_sem, Nat.reduceEqDiff, Nat.reduceAdd, Nat.reduceLeDiff, Nat.reduceLT, reduceCtorEq, ↓reduceIte, Nat.reduceBEq, Int.reduceLT, Int.reduceLE, Int.reduceNeg, Int.reduceEq, Int.toNat_natCast, cast_lit, Int.reduceToNat, F116, s116, h1]
  repeat' ((first | rw [condW_q] | rw [opsG_q] | rw [opsLG_q]); unfold ifq; split <;> rename_i hq <;> simp -implicitDefEqProofs only [go_sem, Nat.reduceEqDiff, Nat.reduceAdd, Nat.reduceLeDiff, Nat.reduceLT, reduceCtorEq, ↓reduceIte, Nat.reduceBEq, Int.reduceLT, Int.reduceLE, Int.reduceNeg, Int.reduceEq, Int.toNat_natCast, cast_lit, Int.reduceToNat, hq, h1])
  all_goals (clear h1; simp_all [votC])
  all_goals (intros; first | omega | (exfalso; omega))
theorem e113 (e : Evl) (b : Bal) : callW E 113 [.p e.pv, .p (.agg [.int .i64 b.c, .str b.v])] [] = some ⟨.p (.bool (accP e b)), [], []⟩ := by
  rw [callW_eq, EnvS.h 113 F113 rfl]
  unfold Evl.pv at *
  simp -implicitDefEqProofs only [go_sem, Nat.reduceEqDiff, Nat.reduceAdd, Nat.reduceLeDiff, Nat.reduceLT, reduceCtorEq, ↓reduceIte, Nat.reduceBEq, Int.reduceLT, Int.reduceLE, Int.reduceNeg, Int.reduceEq, Int.toNat_natCast, cast_lit, Int.reduceToNat, F113, s113, s113_6, s113_1, s113_5, s113_2, s113_4, s113_3, ]
  repeat' ((first | rw [condW_q] | rw [opsG_q] | rw [opsLG_q]); unfold ifq; split <;> rename_i hq <;> simp -implicitDefEqProofs only [go_sem, Nat.reduceEqDiff, Nat.reduceAdd, Nat.reduceLeDiff, Nat.reduceLT, reduceCtorEq, ↓reduceIte, Nat.reduceBEq, Int.reduceLT, Int.reduceLE, Int.reduceNeg, Int.reduceEq, Int.toNat_natCast, cast_lit, Int.reduceToNat, hq, ])
  all_goals simp_all [accP]
theorem e112 (e : Evl) (b : Bal) : callW E 112 [.p e.pv, .p (.agg [.int .i64 b.c, .str b.v])] [] = some ⟨.p (.bool (votP e b)), [], []⟩ := by
  rw [callW_eq, EnvS.h 112 F112 rfl]
  unfold Evl.pv at *
  simp -implicitDefEqProofs only [go_sem, Nat.reduceEqDiff, Nat.reduceAdd, Nat.reduceLeDiff, Nat.reduceLT, reduceCtorEq, ↓reduceIte, Nat.reduceBEq, Int.reduceLT, Int.reduceLE, Int.reduceNeg, Int.reduceEq, Int.toNat_natCast, cast_lit, Int.reduceToNat, F112, s112, s112_4, s112_1, s112_3, s112_2, ]
  repeat' ((first | rw [condW_q] | rw [opsG_q] | rw [opsLG_q]); unfold ifq; split <;> rename_i hq <;> simp -implicitDefEqProofs only [go_sem, Nat.reduceEqDiff, Nat.reduceAdd, Nat.reduceLeDiff, Nat.reduceLT, reduceCtorEq, ↓reduceIte, Nat.reduceBEq, Int.reduceLT, Int.reduceLE, Int.reduceNeg, Int.reduceEq, Int.toNat_natCast, cast_lit, Int.reduceToNat, hq, ])
  all_goals simp_all [votP]
theorem e162 (e : Evl) : callW E 162 [.p e.pv] [] = some ⟨.p (.int .i64 (countE e)), [], []⟩ := by
  rw [callW_eq, EnvS.h 162 F162 rfl]
  unfold Evl.pv at *
  simp -implicitDefEqProofs only [go_sem, Nat.reduceEqDiff, Nat.reduceAdd, Nat.reduceLeDiff, Nat.reduceLT, reduceCtorEq, ↓reduceIte, Nat.reduceBEq, Int.reduceLT, Int.reduceLE, Int.reduceNeg, Int.reduceEq, Int.toNat_natCast, cast_lit, Int.reduceToNat, F162, s162, s162_1, ]
  repeat' ((first | rw [condW_q] | rw [opsG_q] | rw [opsLG_q]); unfold ifq; split <;> rename_i hq <;> simp -implicitDefEqProofs only [go_sem, Nat.reduceEqDiff, Nat.reduceAdd, Nat.reduceLeDiff, Nat.reduceLT, reduceCtorEq, ↓reduceIte, Nat.reduceBEq, Int.reduceLT, Int.reduceLE, Int.reduceNeg, Int.reduceEq, Int.toNat_natCast, cast_lit, Int.reduceToNat, hq, ])
  all_goals simp_all [countE]
theorem e87 (e : Evl) (h : e.t.thin) (v : ByteArray) (lo hi : Int) : callW E 87 [.p e.pv, .p (.str v), .p (.int .i64 lo), .p (.int .i64 hi)] [] = some ⟨.p (.bool (validE e && accC e v lo hi)), [], []⟩ := by
  rw [callW_eq, EnvS.h 87 F87 rfl]
  have h1 := e81 (E := E) e h
  have h2 := e163 (E := E) e v lo hi
  unfold Evl.pv at *
  cases c : validE e <;> simp -implicitDefEqProofs only [go_sem, Nat.reduceEqDiff, Nat.reduceAdd, Nat.reduceLeDiff, Nat.reduceLT, reduceCtorEq, ↓reduceIte, Nat.reduceBEq, Int.reduceLT, Int.reduceLE, Int.reduceNeg, Int.reduceEq, Int.toNat_natCast, cast_lit, Int.reduceToNat, F87, s87, h1, h2, c]
theorem e26 (e : Evl) (h : e.t.thin) (v : ByteArray) (lo hi : Int) : callW E 26 [.p e.pv, .p (.str v), .p (.int .i64 lo), .p (.int .i64 hi)] [] = some ⟨.p (.bool (validE e && votC e v lo hi)), [], []⟩ := by
  rw [callW_eq, EnvS.h 26 F26 rfl]
  have h1 := e81 (E := E) e h
  have h2 := e116 (E := E) e v lo hi
  unfold Evl.pv at *
  cases c : validE e <;> simp -implicitDefEqProofs only [go_sem, Nat.reduceEqDiff, Nat.reduceAdd, Nat.reduceLeDiff, Nat.reduceLT, reduceCtorEq, ↓reduceIte, Nat.reduceBEq, Int.reduceLT, Int.reduceLE, Int.reduceNeg, Int.reduceEq, Int.toNat_natCast, cast_lit, Int.reduceToNat, F26, s26, h1, h2, c]
theorem e23 (e : Evl) (h : e.t.thin) (b : Bal) : callW E 23 [.p e.pv, .p (.agg [.int .i64 b.c, .str b.v])] [] = some ⟨.p (.bool (validE e && accP e b)), [], []⟩ := by
  rw [callW_eq, EnvS.h 23 F23 rfl]
  have h1 := e81 (E := E) e h
  have h2 := e113 (E := E) e b
  unfold Evl.pv at *
  cases c : validE e <;> simp -implicitDefEqProofs only [go_sem, Nat.reduceEqDiff, Nat.reduceAdd, Nat.reduceLeDiff, Nat.reduceLT, reduceCtorEq, ↓reduceIte, Nat.reduceBEq, Int.reduceLT, Int.reduceLE, Int.reduceNeg, Int.reduceEq, Int.toNat_natCast, cast_lit, Int.reduceToNat, F23, s23, h1, h2, c]
theorem e22 (e : Evl) (h : e.t.thin) (b : Bal) : callW E 22 [.p e.pv, .p (.agg [.int .i64 b.c, .str b.v])] [] = some ⟨.p (.bool (validE e && votP e b)), [], []⟩ := by
  rw [callW_eq, EnvS.h 22 F22 rfl]
  have h1 := e81 (E := E) e h
  have h2 := e112 (E := E) e b
  unfold Evl.pv at *
  cases c : validE e <;> simp -implicitDefEqProofs only [go_sem, Nat.reduceEqDiff, Nat.reduceAdd, Nat.reduceLeDiff, Nat.reduceLT, reduceCtorEq, ↓reduceIte, Nat.reduceBEq, Int.reduceLT, Int.reduceLE, Int.reduceNeg, Int.reduceEq, Int.toNat_natCast, cast_lit, Int.reduceToNat, F22, s22, h1, h2, c]
theorem e83 (e : Evl) (h : e.t.thin) : callW E 83 [.p e.pv] [] = some ⟨.p (.int .i64 (if validE e = true then countE e else 0)), [], []⟩ := by
  rw [callW_eq, EnvS.h 83 F83 rfl]
  have h1 := e81 (E := E) e h
  have h2 := e162 (E := E) e
  unfold Evl.pv at *
  cases c : validE e <;> simp -implicitDefEqProofs only [go_sem, Nat.reduceEqDiff, Nat.reduceAdd, Nat.reduceLeDiff, Nat.reduceLT, reduceCtorEq, ↓reduceIte, Nat.reduceBEq, Int.reduceLT, Int.reduceLE, Int.reduceNeg, Int.reduceEq, Int.toNat_natCast, cast_lit, Int.reduceToNat, F83, s83, s83_1, h1, h2, c]
/-- 51 -/
def join (p q b : Bal) : Bal × Bal :=
  if zeroB b = true then (p, q) else if zeroB p = true then (b, q) else if less p b = true then (b, if p.v = b.v then (if q.v = b.v then ⟨0, ByteArray.empty⟩ else q) else p)
  else if (less b p && !decide (p.v = b.v) && (zeroB q || less q b)) = true then (p, b) else (p, q)
def Bal.pv (b : Bal) : PV := .agg [.int .i64 b.c, .str b.v]
theorem e51 (p q b : Bal) : callW E 51 [.p (.agg [.int .i64 p.c, .str p.v]), .p (.agg [.int .i64 q.c, .str q.v]), .p (.agg [.int .i64 b.c, .str b.v])] [] = some ⟨.tup [.p (join p q b).1.pv, .p (join p q b).2.pv], [], []⟩ := by
  rw [callW_eq, EnvS.h 51 F51 rfl]
  simp -implicitDefEqProofs only [go_sem, Nat.reduceEqDiff, Nat.reduceAdd, Nat.reduceLeDiff, Nat.reduceLT, reduceCtorEq, ↓reduceIte, Nat.reduceBEq, Int.reduceLT, Int.reduceLE, Int.reduceNeg, Int.reduceEq, Int.toNat_natCast, cast_lit, Int.reduceToNat, F51, s51, s51_11, s51_10, s51_1, s51_9, s51_6, s51_5, s51_2, s51_4, s51_3, s51_8, s51_7, ]
  repeat' ((first | rw [condW_q] | rw [opsG_q] | rw [opsLG_q]); unfold ifq; split <;> rename_i hq <;> simp -implicitDefEqProofs only [go_sem, Nat.reduceEqDiff, Nat.reduceAdd, Nat.reduceLeDiff, Nat.reduceLT, reduceCtorEq, ↓reduceIte, Nat.reduceBEq, Int.reduceLT, Int.reduceLE, Int.reduceNeg, Int.reduceEq, Int.toNat_natCast, cast_lit, Int.reduceToNat, hq, ])
  all_goals simp_all [join, Bal.pv]
end Go.Ab.S
