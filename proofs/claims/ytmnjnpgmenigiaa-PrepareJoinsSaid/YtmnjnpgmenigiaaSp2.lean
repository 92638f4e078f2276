/- A part of the proof: an executor over plain data, shown sound for the model, and what it computes of the functions. -/
import Derived.Test.YtmnjnpgmenigiaaSp1
set_option linter.all false
set_option linter.unusedSimpArgs false
set_option linter.unusedVariables false
set_option linter.unusedSectionVars false
namespace Go.Ab.S
open Go Go.Ab
variable {E : Env} [EnvS E]

/-- A ballot. -/
structure Bal where
  c : Int
  v : ByteArray
  deriving DecidableEq
def lessV (a b : ByteArray) : Bool := if a.size = b.size then Op.bytesLess a.toList b.toList else decide (a.size < b.size)
def cmpS (a b : ByteArray) : Int := if Op.bytesLess a.toList b.toList = true then -1 else if a = b then 0 else 1
def cmpI (a b : Int) : Int := if a < b then -1 else if b < a then 1 else 0
def or2 (a b : Int) : Int := if a = 0 then b else a
def cmpV (a b : ByteArray) : Int := or2 (cmpI a.size b.size) (cmpS a b)
def cmpB (a b : Bal) : Int := or2 (cmpI a.c b.c) (cmpV a.v b.v)
def less (a b : Bal) : Bool := decide (cmpB a b < 0)
def zeroB (b : Bal) : Bool := decide (b.c = 0) && decide (b.v = ByteArray.empty)
def covers (p b : Bal) : Bool := !zeroB p && decide (p.v = b.v) && decide (b.c ≤ p.c)
def aborts (p b : Bal) : Bool := !zeroB p && !decide (p.v = b.v) && less b p
def prepares (p q b : Bal) : Bool := covers p b || covers q b || (!zeroB q && less b q)

theorem e197 (x : Int) : callW E 197 [.p (.int .i64 x)] [] = some ⟨.p (.bool false), [], []⟩ := by
  rw [callW_eq, EnvS.h 197 F197 rfl]
  simp -implicitDefEqProofs only [go_sem, Nat.reduceEqDiff, Nat.reduceAdd, Nat.reduceLeDiff, Nat.reduceLT, reduceCtorEq, ↓reduceIte, Nat.reduceBEq, Int.reduceLT, Int.reduceLE, Int.reduceNeg, Int.reduceEq, Int.toNat_natCast, cast_lit, Int.reduceToNat, F197, s197, ]
  repeat' ((first | rw [condW_q] | rw [opsG_q] | rw [opsLG_q]); unfold ifq; split <;> rename_i hq <;> simp -implicitDefEqProofs only [go_sem, Nat.reduceEqDiff, Nat.reduceAdd, Nat.reduceLeDiff, Nat.reduceLT, reduceCtorEq, ↓reduceIte, Nat.reduceBEq, Int.reduceLT, Int.reduceLE, Int.reduceNeg, Int.reduceEq, Int.toNat_natCast, cast_lit, Int.reduceToNat, hq, ])
theorem e230 (x : ByteArray) : callW E 230 [.p (.str x)] [] = some ⟨.p (.bool false), [], []⟩ := by
  rw [callW_eq, EnvS.h 230 F230 rfl]
  simp -implicitDefEqProofs only [go_sem, Nat.reduceEqDiff, Nat.reduceAdd, Nat.reduceLeDiff, Nat.reduceLT, reduceCtorEq, ↓reduceIte, Nat.reduceBEq, Int.reduceLT, Int.reduceLE, Int.reduceNeg, Int.reduceEq, Int.toNat_natCast, cast_lit, Int.reduceToNat, F230, s230, ]
  repeat' ((first | rw [condW_q] | rw [opsG_q] | rw [opsLG_q]); unfold ifq; split <;> rename_i hq <;> simp -implicitDefEqProofs only [go_sem, Nat.reduceEqDiff, Nat.reduceAdd, Nat.reduceLeDiff, Nat.reduceLT, reduceCtorEq, ↓reduceIte, Nat.reduceBEq, Int.reduceLT, Int.reduceLE, Int.reduceNeg, Int.reduceEq, Int.toNat_natCast, cast_lit, Int.reduceToNat, hq, ])
theorem e115 (x y : Int) : callW E 115 [.p (.int .i64 x), .p (.int .i64 y)] [] = some ⟨.p (.int .i64 (cmpI x y)), [], []⟩ := by
  rw [callW_eq, EnvS.h 115 F115 rfl]
  unfold cmpI
  by_cases h1 : x < y <;> by_cases h2 : y < x <;> simp -implicitDefEqProofs only [go_sem, Nat.reduceEqDiff, Nat.reduceAdd, Nat.reduceLeDiff, Nat.reduceLT, reduceCtorEq, ↓reduceIte, Nat.reduceBEq, Int.reduceLT, Int.reduceLE, Int.reduceNeg, Int.reduceEq, Int.toNat_natCast, cast_lit, Int.reduceToNat, F115, s115, s115_2, s115_1, s115_3, s115_4, s115_5, e197, h1, h2]
theorem e193 (x y : ByteArray) : callW E 193 [.p (.str x), .p (.str y)] [] = some ⟨.p (.int .i64 (cmpS x y)), [], []⟩ := by
  rw [callW_eq, EnvS.h 193 F193 rfl]
  simp -implicitDefEqProofs only [go_sem, Nat.reduceEqDiff, Nat.reduceAdd, Nat.reduceLeDiff, Nat.reduceLT, reduceCtorEq, ↓reduceIte, Nat.reduceBEq, Int.reduceLT, Int.reduceLE, Int.reduceNeg, Int.reduceEq, Int.toNat_natCast, cast_lit, Int.reduceToNat, F193, s193, s193_2, s193_1, s193_3, s193_4, s193_5, e230]
  repeat' ((first | rw [condW_q] | rw [opsG_q] | rw [opsLG_q]); unfold ifq; split <;> rename_i hq <;> simp -implicitDefEqProofs only [go_sem, Nat.reduceEqDiff, Nat.reduceAdd, Nat.reduceLeDiff, Nat.reduceLT, reduceCtorEq, ↓reduceIte, Nat.reduceBEq, Int.reduceLT, Int.reduceLE, Int.reduceNeg, Int.reduceEq, Int.toNat_natCast, cast_lit, Int.reduceToNat, hq, e230])
  all_goals simp_all [cmpS]
theorem e190 (x y : Int) : callW E 190 [.p (.sl 1 [.int .i64 x, .int .i64 y])] [] = some ⟨.p (.int .i64 (or2 x y)), [], []⟩ := by
  rw [callW_eq, EnvS.h 190 F190 rfl]
  have w1 : IntKind.i64.wrap (0 + 1) = 1 := by decide
  have w2 : IntKind.i64.wrap (1 + 1) = 2 := by decide
  unfold or2
  by_cases h1 : x = 0
  · by_cases h2 : y = 0 <;> simp -implicitDefEqProofs only [go_sem, Nat.reduceEqDiff, Nat.reduceAdd, Nat.reduceLeDiff, Nat.reduceLT, reduceCtorEq, ↓reduceIte, Nat.reduceBEq, Int.reduceLT, Int.reduceLE, Int.reduceNeg, Int.reduceEq, Int.toNat_natCast, cast_lit, Int.reduceToNat, F190, s190, s190_4, s190_3, s190_2, s190_1, loopW_some, h1, h2, w1, w2]
  · simp -implicitDefEqProofs only [go_sem, Nat.reduceEqDiff, Nat.reduceAdd, Nat.reduceLeDiff, Nat.reduceLT, reduceCtorEq, ↓reduceIte, Nat.reduceBEq, Int.reduceLT, Int.reduceLE, Int.reduceNeg, Int.reduceEq, Int.toNat_natCast, cast_lit, Int.reduceToNat, F190, s190, s190_4, s190_3, s190_2, s190_1, loopW_some, h1, w1, w2]
attribute [go_sem] e197 e230 e115 e193 e190
theorem e111 (x y : ByteArray) : callW E 111 [.p (.str x), .p (.str y)] [] = some ⟨.p (.int .i64 (cmpV x y)), [], []⟩ := by
  rw [callW_eq, EnvS.h 111 F111 rfl]
  unfold cmpV
  simp -implicitDefEqProofs only [go_sem, Nat.reduceEqDiff, Nat.reduceAdd, Nat.reduceLeDiff, Nat.reduceLT, reduceCtorEq, ↓reduceIte, Nat.reduceBEq, Int.reduceLT, Int.reduceLE, Int.reduceNeg, Int.reduceEq, Int.toNat_natCast, cast_lit, Int.reduceToNat, F111, s111]
attribute [go_sem] e111
theorem e109 (a b : Bal) : callW E 109 [.p (.agg [.int .i64 a.c, .str a.v]), .p (.agg [.int .i64 b.c, .str b.v])] [] = some ⟨.p (.int .i64 (cmpB a b)), [], []⟩ := by
  rw [callW_eq, EnvS.h 109 F109 rfl]
  unfold cmpB
  simp -implicitDefEqProofs only [go_sem, Nat.reduceEqDiff, Nat.reduceAdd, Nat.reduceLeDiff, Nat.reduceLT, reduceCtorEq, ↓reduceIte, Nat.reduceBEq, Int.reduceLT, Int.reduceLE, Int.reduceNeg, Int.reduceEq, Int.toNat_natCast, cast_lit, Int.reduceToNat, F109, s109]
attribute [go_sem] e109
theorem e123 (a b : Bal) : callW E 123 [.p (.agg [.int .i64 a.c, .str a.v]), .p (.agg [.int .i64 b.c, .str b.v])] [] = some ⟨.p (.bool (less a b)), [], []⟩ := by
  rw [callW_eq, EnvS.h 123 F123 rfl]
  simp -implicitDefEqProofs only [go_sem, Nat.reduceEqDiff, Nat.reduceAdd, Nat.reduceLeDiff, Nat.reduceLT, reduceCtorEq, ↓reduceIte, Nat.reduceBEq, Int.reduceLT, Int.reduceLE, Int.reduceNeg, Int.reduceEq, Int.toNat_natCast, cast_lit, Int.reduceToNat, F123, s123]
  rfl
theorem e107 (a : Bal) : callW E 107 [.p (.agg [.int .i64 a.c, .str a.v])] [] = some ⟨.p (.bool (zeroB a)), [], []⟩ := by
  rw [callW_eq, EnvS.h 107 F107 rfl]
  simp -implicitDefEqProofs only [go_sem, Nat.reduceEqDiff, Nat.reduceAdd, Nat.reduceLeDiff, Nat.reduceLT, reduceCtorEq, ↓reduceIte, Nat.reduceBEq, Int.reduceLT, Int.reduceLE, Int.reduceNeg, Int.reduceEq, Int.toNat_natCast, cast_lit, Int.reduceToNat, F107, s107]
  rfl
theorem e45 (a : Bal) : callW E 45 [.p (.agg [.int .i64 a.c, .str a.v])] [] = some ⟨.p (.bool (zeroB a)), [], []⟩ := by
  rw [callW_eq, EnvS.h 45 F45 rfl]
  simp -implicitDefEqProofs only [go_sem, Nat.reduceEqDiff, Nat.reduceAdd, Nat.reduceLeDiff, Nat.reduceLT, reduceCtorEq, ↓reduceIte, Nat.reduceBEq, Int.reduceLT, Int.reduceLE, Int.reduceNeg, Int.reduceEq, Int.toNat_natCast, cast_lit, Int.reduceToNat, F45, s45]
  rfl
theorem e136 (a b : Bal) : callW E 136 [.p (.agg [.int .i64 a.c, .str a.v]), .p (.agg [.int .i64 b.c, .str b.v])] [] = some ⟨.p (.bool (decide (a.v = b.v))), [], []⟩ := by
  rw [callW_eq, EnvS.h 136 F136 rfl]
  simp -implicitDefEqProofs only [go_sem, Nat.reduceEqDiff, Nat.reduceAdd, Nat.reduceLeDiff, Nat.reduceLT, reduceCtorEq, ↓reduceIte, Nat.reduceBEq, Int.reduceLT, Int.reduceLE, Int.reduceNeg, Int.reduceEq, Int.toNat_natCast, cast_lit, Int.reduceToNat, F136, s136]
theorem e128 (a b : Bal) : callW E 128 [.p (.agg [.int .i64 a.c, .str a.v]), .p (.agg [.int .i64 b.c, .str b.v])] [] = some ⟨.p (.bool (decide (a.v = b.v))), [], []⟩ := by
  rw [callW_eq, EnvS.h 128 F128 rfl]
  simp -implicitDefEqProofs only [go_sem, Nat.reduceEqDiff, Nat.reduceAdd, Nat.reduceLeDiff, Nat.reduceLT, reduceCtorEq, ↓reduceIte, Nat.reduceBEq, Int.reduceLT, Int.reduceLE, Int.reduceNeg, Int.reduceEq, Int.toNat_natCast, cast_lit, Int.reduceToNat, F128, s128]
attribute [go_sem] e123 e107 e45 e136 e128
theorem e24 (x y : ByteArray) : callW E 24 [.p (.str x), .p (.str y)] [] = some ⟨.p (.bool (lessV x y)), [], []⟩ := by
  rw [callW_eq, EnvS.h 24 F24 rfl]
  unfold lessV
  by_cases h : x.size = y.size
  · have h' : (x.size : Int) = y.size := by omega
    simp -implicitDefEqProofs only [go_sem, Nat.reduceEqDiff, Nat.reduceAdd, Nat.reduceLeDiff, Nat.reduceLT, reduceCtorEq, ↓reduceIte, Nat.reduceBEq, Int.reduceLT, Int.reduceLE, Int.reduceNeg, Int.reduceEq, Int.toNat_natCast, cast_lit, Int.reduceToNat, F24, s24, s24_1, h, h']
  · have h' : ¬ (x.size : Int) = y.size := by omega
    simp -implicitDefEqProofs only [go_sem, Nat.reduceEqDiff, Nat.reduceAdd, Nat.reduceLeDiff, Nat.reduceLT, reduceCtorEq, ↓reduceIte, Nat.reduceBEq, Int.reduceLT, Int.reduceLE, Int.reduceNeg, Int.reduceEq, Int.toNat_natCast, cast_lit, Int.reduceToNat, F24, s24, s24_1, h, h', not_false_eq_true, Int.ofNat_lt]
attribute [go_sem] e24
theorem less_eq (a b : Bal) : less a b = if a.c = b.c then lessV a.v b.v else decide (a.c < b.c) := by
  unfold less cmpB cmpV cmpI cmpS or2 lessV
  by_cases h1 : a.c < b.c
  · have : ¬ a.c = b.c := by omega
    simp [h1, this]
  · by_cases h2 : b.c < a.c
    · have : ¬ a.c = b.c := by omega
      simp [h1, h2, this]
    · have : a.c = b.c := by omega
      simp [this]
      by_cases h3 : a.v.size < b.v.size
      · have : ¬ a.v.size = b.v.size := by omega
        simp [h3, this]
      · by_cases h4 : b.v.size < a.v.size
        · have : ¬ a.v.size = b.v.size := by omega
          simp [h3, h4, this]
        · have : a.v.size = b.v.size := by omega
          simp [this]
          split
          · simp_all
          · split <;> simp_all
theorem e21 (a b : Bal) : callW E 21 [.p (.agg [.int .i64 a.c, .str a.v]), .p (.agg [.int .i64 b.c, .str b.v])] [] = some ⟨.p (.bool (less a b)), [], []⟩ := by
  rw [callW_eq, EnvS.h 21 F21 rfl]
  rw [less_eq]
  simp -implicitDefEqProofs only [go_sem, Nat.reduceEqDiff, Nat.reduceAdd, Nat.reduceLeDiff, Nat.reduceLT, reduceCtorEq, ↓reduceIte, Nat.reduceBEq, Int.reduceLT, Int.reduceLE, Int.reduceNeg, Int.reduceEq, Int.toNat_natCast, cast_lit, Int.reduceToNat, F21, s21, s21_1, ]
  repeat' ((first | rw [condW_q] | rw [opsG_q] | rw [opsLG_q]); unfold ifq; split <;> rename_i hq <;> simp -implicitDefEqProofs only [go_sem, Nat.reduceEqDiff, Nat.reduceAdd, Nat.reduceLeDiff, Nat.reduceLT, reduceCtorEq, ↓reduceIte, Nat.reduceBEq, Int.reduceLT, Int.reduceLE, Int.reduceNeg, Int.reduceEq, Int.toNat_natCast, cast_lit, Int.reduceToNat, hq, ])
  all_goals simp_all
theorem e194 (a b : Bal) : callW E 194 [.p (.agg [.int .i64 a.c, .str a.v]), .p (.agg [.int .i64 b.c, .str b.v])] [] = some ⟨.p (.bool (covers a b)), [], []⟩ := by
  rw [callW_eq, EnvS.h 194 F194 rfl]
  unfold covers
  simp -implicitDefEqProofs only [go_sem, Nat.reduceEqDiff, Nat.reduceAdd, Nat.reduceLeDiff, Nat.reduceLT, reduceCtorEq, ↓reduceIte, Nat.reduceBEq, Int.reduceLT, Int.reduceLE, Int.reduceNeg, Int.reduceEq, Int.toNat_natCast, cast_lit, Int.reduceToNat, F194, s194, ]
  repeat' ((first | rw [condW_q] | rw [opsG_q] | rw [opsLG_q]); unfold ifq; split <;> rename_i hq <;> simp -implicitDefEqProofs only [go_sem, Nat.reduceEqDiff, Nat.reduceAdd, Nat.reduceLeDiff, Nat.reduceLT, reduceCtorEq, ↓reduceIte, Nat.reduceBEq, Int.reduceLT, Int.reduceLE, Int.reduceNeg, Int.reduceEq, Int.toNat_natCast, cast_lit, Int.reduceToNat, hq, ])
theorem e134 (a b : Bal) : callW E 134 [.p (.agg [.int .i64 a.c, .str a.v]), .p (.agg [.int .i64 b.c, .str b.v])] [] = some ⟨.p (.bool (covers a b)), [], []⟩ := by
  rw [callW_eq, EnvS.h 134 F134 rfl]
  unfold covers
  simp -implicitDefEqProofs only [go_sem, Nat.reduceEqDiff, Nat.reduceAdd, Nat.reduceLeDiff, Nat.reduceLT, reduceCtorEq, ↓reduceIte, Nat.reduceBEq, Int.reduceLT, Int.reduceLE, Int.reduceNeg, Int.reduceEq, Int.toNat_natCast, cast_lit, Int.reduceToNat, F134, s134, ]
  repeat' ((first | rw [condW_q] | rw [opsG_q] | rw [opsLG_q]); unfold ifq; split <;> rename_i hq <;> simp -implicitDefEqProofs only [go_sem, Nat.reduceEqDiff, Nat.reduceAdd, Nat.reduceLeDiff, Nat.reduceLT, reduceCtorEq, ↓reduceIte, Nat.reduceBEq, Int.reduceLT, Int.reduceLE, Int.reduceNeg, Int.reduceEq, Int.toNat_natCast, cast_lit, Int.reduceToNat, hq, ])
attribute [go_sem] e21 e194 e134
theorem e122 (a b : Bal) : callW E 122 [.p (.agg [.int .i64 a.c, .str a.v]), .p (.agg [.int .i64 b.c, .str b.v])] [] = some ⟨.p (.bool (aborts a b)), [], []⟩ := by
  rw [callW_eq, EnvS.h 122 F122 rfl]
  unfold aborts
  simp -implicitDefEqProofs only [go_sem, Nat.reduceEqDiff, Nat.reduceAdd, Nat.reduceLeDiff, Nat.reduceLT, reduceCtorEq, ↓reduceIte, Nat.reduceBEq, Int.reduceLT, Int.reduceLE, Int.reduceNeg, Int.reduceEq, Int.toNat_natCast, cast_lit, Int.reduceToNat, F122, s122, ]
  repeat' ((first | rw [condW_q] | rw [opsG_q] | rw [opsLG_q]); unfold ifq; split <;> rename_i hq <;> simp -implicitDefEqProofs only [go_sem, Nat.reduceEqDiff, Nat.reduceAdd, Nat.reduceLeDiff, Nat.reduceLT, reduceCtorEq, ↓reduceIte, Nat.reduceBEq, Int.reduceLT, Int.reduceLE, Int.reduceNeg, Int.reduceEq, Int.toNat_natCast, cast_lit, Int.reduceToNat, hq, ])
theorem e90 (a b : Bal) : callW E 90 [.p (.agg [.int .i64 a.c, .str a.v]), .p (.agg [.int .i64 b.c, .str b.v])] [] = some ⟨.p (.bool (aborts a b)), [], []⟩ := by
  rw [callW_eq, EnvS.h 90 F90 rfl]
  unfold aborts
  simp -implicitDefEqProofs only [go_sem, Nat.reduceEqDiff, Nat.reduceAdd, Nat.reduceLeDiff, Nat.reduceLT, reduceCtorEq, ↓reduceIte, Nat.reduceBEq, Int.reduceLT, Int.reduceLE, Int.reduceNeg, Int.reduceEq, Int.toNat_natCast, cast_lit, Int.reduceToNat, F90, s90, ]
  repeat' ((first | rw [condW_q] | rw [opsG_q] | rw [opsLG_q]); unfold ifq; split <;> rename_i hq <;> simp -implicitDefEqProofs only [go_sem, Nat.reduceEqDiff, Nat.reduceAdd, Nat.reduceLeDiff, Nat.reduceLT, reduceCtorEq, ↓reduceIte, Nat.reduceBEq, Int.reduceLT, Int.reduceLE, Int.reduceNeg, Int.reduceEq, Int.toNat_natCast, cast_lit, Int.reduceToNat, hq, ])
theorem e132 (a b c : Bal) : callW E 132 [.p (.agg [.int .i64 a.c, .str a.v]), .p (.agg [.int .i64 b.c, .str b.v]), .p (.agg [.int .i64 c.c, .str c.v])] [] = some ⟨.p (.bool (prepares a b c)), [], []⟩ := by
  rw [callW_eq, EnvS.h 132 F132 rfl]
  unfold prepares
  simp -implicitDefEqProofs only [go_sem, Nat.reduceEqDiff, Nat.reduceAdd, Nat.reduceLeDiff, Nat.reduceLT, reduceCtorEq, ↓reduceIte, Nat.reduceBEq, Int.reduceLT, Int.reduceLE, Int.reduceNeg, Int.reduceEq, Int.toNat_natCast, cast_lit, Int.reduceToNat, F132, s132, ]
  repeat' ((first | rw [condW_q] | rw [opsG_q] | rw [opsLG_q]); unfold ifq; split <;> rename_i hq <;> simp -implicitDefEqProofs only [go_sem, Nat.reduceEqDiff, Nat.reduceAdd, Nat.reduceLeDiff, Nat.reduceLT, reduceCtorEq, ↓reduceIte, Nat.reduceBEq, Int.reduceLT, Int.reduceLE, Int.reduceNeg, Int.reduceEq, Int.toNat_natCast, cast_lit, Int.reduceToNat, hq, ])
theorem e46 (a b c : Bal) : callW E 46 [.p (.agg [.int .i64 a.c, .str a.v]), .p (.agg [.int .i64 b.c, .str b.v]), .p (.agg [.int .i64 c.c, .str c.v])] [] = some ⟨.p (.bool (prepares a b c)), [], []⟩ := by
  rw [callW_eq, EnvS.h 46 F46 rfl]
  unfold prepares
  simp -implicitDefEqProofs only [go_sem, Nat.reduceEqDiff, Nat.reduceAdd, Nat.reduceLeDiff, Nat.reduceLT, reduceCtorEq, ↓reduceIte, Nat.reduceBEq, Int.reduceLT, Int.reduceLE, Int.reduceNeg, Int.reduceEq, Int.toNat_natCast, cast_lit, Int.reduceToNat, F46, s46, ]
  repeat' ((first | rw [condW_q] | rw [opsG_q] | rw [opsLG_q]); unfold ifq; split <;> rename_i hq <;> simp -implicitDefEqProofs only [go_sem, Nat.reduceEqDiff, Nat.reduceAdd, Nat.reduceLeDiff, Nat.reduceLT, reduceCtorEq, ↓reduceIte, Nat.reduceBEq, Int.reduceLT, Int.reduceLE, Int.reduceNeg, Int.reduceEq, Int.toNat_natCast, cast_lit, Int.reduceToNat, hq, ])
attribute [go_sem] e122 e90 e132 e46
end Go.Ab.S
