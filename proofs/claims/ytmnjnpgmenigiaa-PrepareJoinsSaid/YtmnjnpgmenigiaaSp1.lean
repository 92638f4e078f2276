/- A part of the proof: an executor over plain data, shown sound for the model, and what it computes of the functions. -/
import Derived.Test.YtmnjnpgmenigiaaSp0
set_option linter.all false
set_option linter.unusedSimpArgs false
set_option linter.unusedVariables false
namespace Go.Ab.S
open Go Go.Ab
variable {E : Env} [EnvS E]

/-- A trust of one level, and one of two. -/
structure In where
  th : Int
  ns : List Int
structure Tr where
  th : Int
  ns : List Int
  is : List In
def ints (l : List Int) : List PV := l.map (.int .i64)
def In.pv (t : In) : PV := .agg [.int .i64 t.th, .sl 1 (t.ns.map (.int .i64)), .sl 3 []]
def Tr.pv (t : Tr) : PV := .agg [.int .i64 t.th, .sl 1 (t.ns.map (.int .i64)), .sl 3 (t.is.map In.pv)]

def tn (l : List Int) : Nat → Nat → Nat → List Int × Nat
  | 0, i, a => ([], a)
  | k + 1, i, a => let r := tn l k (i + 1) (dA l a 5); if 0 < dV l a 5 then ((i : Int) :: r.1, r.2) else r
theorem tn_le (l : List Int) : ∀ (k i a : Nat), a ≤ l.length → (tn l k i a).2 ≤ l.length
  | 0, i, a, h => h
  | k + 1, i, a, h => by
    have := tn_le l k (i + 1) (dA l a 5) (dA_le l a 5 h)
    simp only [tn]
    split <;> exact this
theorem tn_len (l : List Int) : ∀ (k i a : Nat), (tn l k i a).1.length ≤ k
  | 0, i, a => by simp [tn]
  | k + 1, i, a => by
    have := tn_len l k (i + 1) (dA l a 5)
    simp only [tn]
    split
    · simp only [List.length_cons]; omega
    · omega

theorem loop29 (l : List Int) (n : Nat) (hl : l.length ≤ 800) (hn : n ≤ 10) : ∀ (k i a : Nat) (ns : List Int), k + i = n → a ≤ l.length → ns.length ≤ i →
    loopW E 1 [0, 1, 4, 5, 6] [.loc 0 0 0, .loc 1 0 0, .loc 1 0 2, .loc 1 0 3] (.trim [0, 1, 4, 5, 6] [4] [(0, [0, 1, 4, 5])] [.loc 0 0 0, .loc 1 0 0, .loc 1 0 2, .loc 1 0 3] s29_3)
      (some ⟨[(0, .ptr (.ext 0) 0), (1, .p (.int .i64 n)), (4, .ptr (.loc 0 0 0) 0), (5, .ptr (.loc 1 0 0) 0), (6, .p (.int .i64 i))],
              [(.ext 0, some (.box [.p (.sl 1 (l.map (.int .i64))), .p (.int .i64 a)])), (.loc 0 0 0, some (.box [.p (.int .i64 0), .nils 1, .nils 3])), (.loc 1 0 0, some (.box [.p (.int .i64 0), .hsl (.loc 1 0 2) 0 ns.length, .hsl (.loc 1 0 3) 0 0])), (.loc 1 0 2, some (.parr (ns.map (.int .i64)) 1 false)), (.loc 1 0 3, some (.parr [] 3 false))]⟩) =
    some (.ex 0, ⟨[(0, .ptr (.ext 0) 0), (1, .p (.int .i64 n)), (4, .ptr (.loc 0 0 0) 0), (5, .ptr (.loc 1 0 0) 0)],
              [(.ext 0, some (.box [.p (.sl 1 (l.map (.int .i64))), .p (.int .i64 (tn l k i a).2)])), (.loc 0 0 0, some (.box [.p (.int .i64 0), .nils 1, .nils 3])), (.loc 1 0 0, some (.box [.p (.int .i64 0), .hsl (.loc 1 0 2) 0 (ns ++ (tn l k i a).1).length, .hsl (.loc 1 0 3) 0 0])), (.loc 1 0 2, some (.parr ((ns ++ (tn l k i a).1).map (.int .i64)) 1 false)), (.loc 1 0 3, some (.parr [] 3 false))]⟩) := by
  generalize hK : loopW E 1 _ _ _ = K
  intro k
  induction k with
  | zero =>
    intro i a ns hk ha hns
    have hlt : ¬ (i : Int) < n := by omega
    rw [← hK, loopW_some, hK]
    simp -implicitDefEqProofs only [go_sem, Nat.reduceEqDiff, Nat.reduceAdd, Nat.reduceLeDiff, Nat.reduceLT, reduceCtorEq, ↓reduceIte, Nat.reduceBEq, Int.reduceLT, Int.reduceLE, Int.reduceNeg, Int.reduceEq, Int.toNat_natCast, cast_lit, Int.reduceToNat, s29_3, s29_2, s29_1, hlt, tn]
  | succ k ih =>
    intro i a ns hk ha hns
    have hlt : (i : Int) < n := by omega
    have e := e28 (E := E) l a 5 hl ha (by omega)
    have hw : IntKind.i64.wrap ((i : Int) + 1) = ((i + 1 : Nat) : Int) := by rw [wrap64 (by omega) (by omega)]; omega
    rw [← hK, loopW_some, hK]
    by_cases h : 0 < dV l a 5
    · have hm : ns.length + 1 ≤ most := by unfold most; omega
      have ih' := ih (i + 1) (dA l a 5) (ns ++ [(i : Int)]) (by omega) (dA_le l a 5 ha) (by simp; omega)
      simp only [List.map_append, List.map_cons, List.map_nil, List.length_append, List.length_cons, List.length_nil, Nat.zero_add, List.append_assoc, List.singleton_append] at ih'
      simp -implicitDefEqProofs only [go_sem, Nat.reduceEqDiff, Nat.reduceAdd, Nat.reduceLeDiff, Nat.reduceLT, reduceCtorEq, ↓reduceIte, Nat.reduceBEq, Int.reduceLT, Int.reduceLE, Int.reduceNeg, Int.reduceEq, Int.toNat_natCast, cast_lit, Int.reduceToNat, s29_3, s29_2, s29_1, hlt, e, hw, h, hm, tn, ih', List.map_append, List.append_assoc, List.singleton_append, List.length_append]
    · have ih' := ih (i + 1) (dA l a 5) ns (by omega) (dA_le l a 5 ha) (by omega)
      simp -implicitDefEqProofs only [go_sem, Nat.reduceEqDiff, Nat.reduceAdd, Nat.reduceLeDiff, Nat.reduceLT, reduceCtorEq, ↓reduceIte, Nat.reduceBEq, Int.reduceLT, Int.reduceLE, Int.reduceNeg, Int.reduceEq, Int.toNat_natCast, cast_lit, Int.reduceToNat, s29_3, s29_2, s29_1, hlt, e, hw, h, tn, ih']
def trR2 (l : List Int) (a n : Nat) : List Int × Nat :=
  let r := tn l n 0 a
  if r.1.length = 0 then ([dV l r.2 n], dA l r.2 n) else r
def trI (l : List Int) (a n : Nat) : List In × Nat :=
  let r := trR2 l a n
  if dV l r.2 4 = 3 then ([⟨1, [dV l (dA l r.2 4) n]⟩], dA l (dA l r.2 4) n) else ([], dA l r.2 4)
def trK (l : List Int) (a n : Nat) : Int := ((trR2 l a n).1.length : Int) + ((trI l a n).1.length : Int)
def trD (l : List Int) (a n : Nat) : Int := trK l a n - (trK l a n + 1) / 2 + 1
def trT (l : List Int) (a n : Nat) : Int := (trK l a n + 1) / 2 + dV l (trI l a n).2 (trD l a n)
def trA (l : List Int) (a n : Nat) : Nat := dA l (trI l a n).2 (trD l a n)
def trG (l : List Int) (a n : Nat) : Tr × Nat :=
  (⟨if dV l (trA l a n) 6 = 5 then 1 else trT l a n, (trR2 l a n).1, (trI l a n).1⟩, dA l (trA l a n) 6)
theorem trR2_le (l : List Int) (a n : Nat) (h : a ≤ l.length) : (trR2 l a n).2 ≤ l.length := by
  have := tn_le l n 0 a h
  unfold trR2
  dsimp only
  split
  · exact dA_le l _ _ this
  · exact this
theorem trI_le (l : List Int) (a n : Nat) (h : a ≤ l.length) : (trI l a n).2 ≤ l.length := by
  have := trR2_le l a n h
  unfold trI
  dsimp only
  split
  · exact dA_le l _ _ (dA_le l _ _ this)
  · exact dA_le l _ _ this
theorem trA_le (l : List Int) (a n : Nat) (h : a ≤ l.length) : (trA l a n) ≤ l.length := dA_le l _ _ (trI_le l a n h)
theorem trG_le (l : List Int) (a n : Nat) (h : a ≤ l.length) : (trG l a n).2 ≤ l.length := dA_le l _ _ (trA_le l a n h)
theorem trR2_len (l : List Int) (a n : Nat) (hn : 1 ≤ n) : 1 ≤ (trR2 l a n).1.length ∧ (trR2 l a n).1.length ≤ n := by
  have := tn_len l n 0 a
  unfold trR2
  dsimp only
  split
  · simp; omega
  · omega
theorem trI_len (l : List Int) (a n : Nat) : (trI l a n).1.length ≤ 1 := by
  unfold trI
  dsimp only
  split <;> simp

theorem e29 (l : List Int) (a n : Nat) (hl : l.length ≤ 800) (ha : a ≤ l.length) (hn : n ≤ 10) (hn0 : 1 ≤ n) : callW E 29 [.ptr (.ext 0) 0, .p (.int .i64 n)] [.box [.p (.sl 1 (l.map (.int .i64))), .p (.int .i64 a)]] = some ⟨.p (trG l a n).1.pv, [.box [.p (.sl 1 (l.map (.int .i64))), .p (.int .i64 (trG l a n).2)]], []⟩ := by
  rw [callW_eq, EnvS.h 29 F29 rfl]
  have lp := loop29 (E := E) l n hl hn n 0 a [] (by omega) ha (by simp)
  simp only [List.nil_append, List.map_nil, List.length_nil, Int.natCast_zero] at lp
  have r1 := tn_le l n 0 a ha
  have e1 := e28 (E := E) l (tn l n 0 a).2 n hl r1 (by omega)
  have r2 := trR2_le l a n ha
  have e2 := e28 (E := E) l (trR2 l a n).2 4 hl r2 (by omega)
  have e3 := e28 (E := E) l (dA l (trR2 l a n).2 4) n hl (dA_le l _ _ r2) (by omega)
  have g1 := trR2_len l a n hn0
  have g2 := trI_len l a n
  have g3 : 1 ≤ trK l a n ∧ trK l a n ≤ 11 := by unfold trK; omega
  have e4 := e31 (E := E) l (trI l a n).2 ((trK l a n + 1) / 2) (trK l a n) hl (trI_le l a n ha) (by omega) (by omega) (by omega) (by omega)
  have e5 := e28 (E := E) l (trA l a n) 6 hl (trA_le l a n ha) (by omega)
  have w1 : IntKind.i64.wrap (((trR2 l a n).1.length : Int) + ((trI l a n).1.length : Int)) = trK l a n := wrap64 (by omega) (by omega)
  have w2 : IntKind.i64.wrap (trK l a n + 1) = trK l a n + 1 := wrap64 (by omega) (by omega)
  have w3 : IntKind.i64.wrap ((trK l a n + 1).tdiv 2) = (trK l a n + 1) / 2 := by
    rw [Int.tdiv_eq_ediv_of_nonneg (by omega)]; exact wrap64 (by omega) (by omega)
  have hT : (trK l a n + 1) / 2 + dV l (trI l a n).2 (trK l a n - (trK l a n + 1) / 2 + 1) = trT l a n := rfl
  have hA : dA l (trI l a n).2 (trK l a n - (trK l a n + 1) / 2 + 1) = trA l a n := rfl
  rw [hT, hA] at e4
  generalize hKK : trK l a n = K at *
  generalize hTT : trT l a n = TT at *
  generalize hAA : trA l a n = AA at *
  have fin : trG l a n = (⟨if dV l AA 6 = 5 then 1 else TT, (trR2 l a n).1, (trI l a n).1⟩, dA l AA 6) := by unfold trG; rw [hAA, hTT]
  rw [fin]
  unfold Tr.pv
  dsimp only
  by_cases h1 : (tn l n 0 a).1.length = 0
  · have hR : trR2 l a n = ([dV l (tn l n 0 a).2 n], dA l (tn l n 0 a).2 n) := by unfold trR2; simp only [h1, if_true]
    have hz : (((tn l n 0 a).1.length : Nat) : Int) = 0 := by omega
    by_cases h2 : dV l (dA l (tn l n 0 a).2 n) 4 = 3
    · have hI : trI l a n = ([⟨1, [dV l (dA l (dA l (tn l n 0 a).2 n) 4) n]⟩], dA l (dA l (dA l (tn l n 0 a).2 n) 4) n) := by unfold trI; rw [hR]; simp only [h2, if_true]
      simp only [hR, hI, List.length_cons, List.length_nil, Nat.zero_add, cast_lit, Int.natCast_zero] at e2 e3 e4 w1 ⊢
      by_cases h3 : dV l AA 6 = 5
      · simp -implicitDefEqProofs only [go_sem, Nat.reduceEqDiff, Nat.reduceAdd, Nat.reduceLeDiff, Nat.reduceLT, reduceCtorEq, ↓reduceIte, Nat.reduceBEq, Int.reduceLT, Int.reduceLE, Int.reduceNeg, Int.reduceEq, Int.toNat_natCast, cast_lit, Int.reduceToNat, F29, s29, s29_4, s29_5, s29_6, s29_7, lp, hz, e1, e2, e3, e4, e5, w1, w2, w3, h2, h3, In.pv, most]
      · simp -implicitDefEqProofs only [go_sem, Nat.reduceEqDiff, Nat.reduceAdd, Nat.reduceLeDiff, Nat.reduceLT, reduceCtorEq, ↓reduceIte, Nat.reduceBEq, Int.reduceLT, Int.reduceLE, Int.reduceNeg, Int.reduceEq, Int.toNat_natCast, cast_lit, Int.reduceToNat, F29, s29, s29_4, s29_5, s29_6, s29_7, lp, hz, e1, e2, e3, e4, e5, w1, w2, w3, h2, h3, In.pv, most]
    · have hI : trI l a n = ([], dA l (dA l (tn l n 0 a).2 n) 4) := by unfold trI; rw [hR]; simp only [h2, if_false]
      simp only [hR, hI, List.length_cons, List.length_nil, Nat.zero_add, cast_lit, Int.natCast_zero] at e2 e3 e4 w1 ⊢
      by_cases h3 : dV l AA 6 = 5
      · simp -implicitDefEqProofs only [go_sem, Nat.reduceEqDiff, Nat.reduceAdd, Nat.reduceLeDiff, Nat.reduceLT, reduceCtorEq, ↓reduceIte, Nat.reduceBEq, Int.reduceLT, Int.reduceLE, Int.reduceNeg, Int.reduceEq, Int.toNat_natCast, cast_lit, Int.reduceToNat, F29, s29, s29_4, s29_5, s29_6, s29_7, lp, hz, e1, e2, e3, e4, e5, w1, w2, w3, h2, h3, In.pv, most]
      · simp -implicitDefEqProofs only [go_sem, Nat.reduceEqDiff, Nat.reduceAdd, Nat.reduceLeDiff, Nat.reduceLT, reduceCtorEq, ↓reduceIte, Nat.reduceBEq, Int.reduceLT, Int.reduceLE, Int.reduceNeg, Int.reduceEq, Int.toNat_natCast, cast_lit, Int.reduceToNat, F29, s29, s29_4, s29_5, s29_6, s29_7, lp, hz, e1, e2, e3, e4, e5, w1, w2, w3, h2, h3, In.pv, most]
  · have hR : trR2 l a n = tn l n 0 a := by unfold trR2; simp only [h1, if_false]
    have hz : ¬ (((tn l n 0 a).1.length : Nat) : Int) = 0 := by omega
    by_cases h2 : dV l (tn l n 0 a).2 4 = 3
    · have hI : trI l a n = ([⟨1, [dV l (dA l (tn l n 0 a).2 4) n]⟩], dA l (dA l (tn l n 0 a).2 4) n) := by unfold trI; rw [hR]; simp only [h2, if_true]
      simp only [hR, hI, List.length_cons, List.length_nil, Nat.zero_add, cast_lit, Int.natCast_zero] at e2 e3 e4 w1 ⊢
      by_cases h3 : dV l AA 6 = 5
      · simp -implicitDefEqProofs only [go_sem, Nat.reduceEqDiff, Nat.reduceAdd, Nat.reduceLeDiff, Nat.reduceLT, reduceCtorEq, ↓reduceIte, Nat.reduceBEq, Int.reduceLT, Int.reduceLE, Int.reduceNeg, Int.reduceEq, Int.toNat_natCast, cast_lit, Int.reduceToNat, F29, s29, s29_4, s29_5, s29_6, s29_7, lp, hz, e1, e2, e3, e4, e5, w1, w2, w3, h2, h3, In.pv, most]
      · simp -implicitDefEqProofs only [go_sem, Nat.reduceEqDiff, Nat.reduceAdd, Nat.reduceLeDiff, Nat.reduceLT, reduceCtorEq, ↓reduceIte, Nat.reduceBEq, Int.reduceLT, Int.reduceLE, Int.reduceNeg, Int.reduceEq, Int.toNat_natCast, cast_lit, Int.reduceToNat, F29, s29, s29_4, s29_5, s29_6, s29_7, lp, hz, e1, e2, e3, e4, e5, w1, w2, w3, h2, h3, In.pv, most]
    · have hI : trI l a n = ([], dA l (tn l n 0 a).2 4) := by unfold trI; rw [hR]; simp only [h2, if_false]
      simp only [hR, hI, List.length_cons, List.length_nil, Nat.zero_add, cast_lit, Int.natCast_zero] at e2 e3 e4 w1 ⊢
      by_cases h3 : dV l AA 6 = 5
      · simp -implicitDefEqProofs only [go_sem, Nat.reduceEqDiff, Nat.reduceAdd, Nat.reduceLeDiff, Nat.reduceLT, reduceCtorEq, ↓reduceIte, Nat.reduceBEq, Int.reduceLT, Int.reduceLE, Int.reduceNeg, Int.reduceEq, Int.toNat_natCast, cast_lit, Int.reduceToNat, F29, s29, s29_4, s29_5, s29_6, s29_7, lp, hz, e1, e2, e3, e4, e5, w1, w2, w3, h2, h3, In.pv, most]
      · simp -implicitDefEqProofs only [go_sem, Nat.reduceEqDiff, Nat.reduceAdd, Nat.reduceLeDiff, Nat.reduceLT, reduceCtorEq, ↓reduceIte, Nat.reduceBEq, Int.reduceLT, Int.reduceLE, Int.reduceNeg, Int.reduceEq, Int.toNat_natCast, cast_lit, Int.reduceToNat, F29, s29, s29_4, s29_5, s29_6, s29_7, lp, hz, e1, e2, e3, e4, e5, w1, w2, w3, h2, h3, In.pv, most]
/-- 0, 1, .. -/
def upto : Nat → Nat → List Int
  | 0, _ => []
  | k + 1, i => (i : Int) :: upto k (i + 1)
theorem upto_len : ∀ k i, (upto k i).length = k
  | 0, _ => rfl
  | k + 1, i => by simp [upto, upto_len k]
/-- A slice of one's own that begins as nil. -/
def ownA (z : Nat) (x : Nm) (n : Nat) : AV := if n = 0 then .nils z else .hsl x 0 n
def ownO (z : Nat) (es : List PV) : Option AObj := if es.length = 0 then none else some (.parr es z false)
theorem ownA_nil (z : Nat) (x : Nm) : ownA z x 0 = .nils z := rfl
theorem ownA_succ (z : Nat) (x : Nm) (n : Nat) : ownA z x (n + 1) = .hsl x 0 (n + 1) := rfl
theorem ownO_nil (z : Nat) : ownO z [] = none := rfl
theorem ownO_cons (z : Nat) (e : PV) (es : List PV) : ownO z (e :: es) = some (.parr (e :: es) z false) := rfl
theorem loop36 (n : Nat) (th : Int) (hn : n ≤ 1000) : ∀ (k i : Nat) (ns : List Int), k + i = n → ns.length = i →
    loopW E 0 [0, 4, 5, 6] [.loc 0 0 0, .loc 1 2 0, .loc 5 4 0] (.trim [0, 4, 5, 6] [4] [(0, [4, 5])] [.loc 0 0 0, .loc 1 2 0, .loc 5 4 0] s36_2)
      (some ⟨[(0, .p (.int .i64 n)), (4, .ptr (.loc 0 0 0) 0), (5, .ptr (.loc 1 2 0) 0), (6, .p (.int .i64 i))],
        [(.loc 0 0 0, some (.box [.p (.int .i64 0), .nils 1, .nils 3])), (.loc 1 2 0, some (.box [.p (.int .i64 th), ownA 1 (.loc 5 4 0) ns.length, .nils 3])), (.loc 5 4 0, ownO 1 (ns.map (.int .i64)))]⟩) =
    some (.ex 0, ⟨[(4, .ptr (.loc 0 0 0) 0), (5, .ptr (.loc 1 2 0) 0)],
        [(.loc 0 0 0, some (.box [.p (.int .i64 0), .nils 1, .nils 3])), (.loc 1 2 0, some (.box [.p (.int .i64 th), ownA 1 (.loc 5 4 0) (ns ++ upto k i).length, .nils 3])), (.loc 5 4 0, ownO 1 ((ns ++ upto k i).map (.int .i64)))]⟩) := by
  generalize hK : loopW E 0 _ _ _ = K
  intro k
  induction k with
  | zero =>
    intro i ns hk hns
    have hlt : ¬ (i : Int) < n := by omega
    rw [← hK, loopW_some, hK, upto, List.append_nil]
    cases ns with
    | nil =>
      simp -implicitDefEqProofs only [go_sem, Nat.reduceEqDiff, Nat.reduceAdd, Nat.reduceLeDiff, Nat.reduceLT, reduceCtorEq, ↓reduceIte, Nat.reduceBEq, Int.reduceLT, Int.reduceLE, Int.reduceNeg, Int.reduceEq, Int.toNat_natCast, cast_lit, Int.reduceToNat, s36_2, s36_1, hlt, ownA_nil, ownO_nil]
    | cons n1 ns =>
      simp -implicitDefEqProofs only [go_sem, Nat.reduceEqDiff, Nat.reduceAdd, Nat.reduceLeDiff, Nat.reduceLT, reduceCtorEq, ↓reduceIte, Nat.reduceBEq, Int.reduceLT, Int.reduceLE, Int.reduceNeg, Int.reduceEq, Int.toNat_natCast, cast_lit, Int.reduceToNat, s36_2, s36_1, hlt, ownA_succ, ownO_cons]
  | succ k ih =>
    intro i ns hk hns
    have hlt : (i : Int) < n := by omega
    have hw : IntKind.i64.wrap ((i : Int) + 1) = ((i + 1 : Nat) : Int) := by rw [wrap64 (by omega) (by omega)]; omega
    have ih' := ih (i + 1) (ns ++ [(i : Int)]) (by omega) (by simp; omega)
    rw [← hK, loopW_some, hK]
    cases ns with
    | nil =>
      have hm : 1 ≤ most := by unfold most; omega
      simp only [List.map_cons, List.map_nil, List.length_append, List.length_cons, List.length_nil, Nat.zero_add, List.nil_append, List.singleton_append, ownA_succ, ownO_cons, List.cons_append] at ih'
      simp -implicitDefEqProofs only [go_sem, Nat.reduceEqDiff, Nat.reduceAdd, Nat.reduceLeDiff, Nat.reduceLT, reduceCtorEq, ↓reduceIte, Nat.reduceBEq, Int.reduceLT, Int.reduceLE, Int.reduceNeg, Int.reduceEq, Int.toNat_natCast, cast_lit, Int.reduceToNat, s36_2, s36_1, hlt, hw, hm, upto, ih', ownA_nil, ownO_nil, ownA_succ, ownO_cons]
    | cons n1 ns =>
      have hm : ns.length + 1 + 1 ≤ most := by simp at hns; unfold most; omega
      simp only [List.map_append, List.map_cons, List.map_nil, List.length_append, List.length_cons, List.length_nil, Nat.zero_add, List.append_assoc, List.singleton_append, ownA_succ, ownO_cons, List.cons_append] at ih'
      simp -implicitDefEqProofs only [go_sem, Nat.reduceEqDiff, Nat.reduceAdd, Nat.reduceLeDiff, Nat.reduceLT, reduceCtorEq, ↓reduceIte, Nat.reduceBEq, Int.reduceLT, Int.reduceLE, Int.reduceNeg, Int.reduceEq, Int.toNat_natCast, cast_lit, Int.reduceToNat, s36_2, s36_1, hlt, hw, hm, upto, ih', List.map_append, List.append_assoc, List.singleton_append, List.length_append, ownA_succ, ownO_cons]
theorem e36 (n : Nat) (th : Int) (hn : n ≤ 1000) : callW E 36 [.p (.int .i64 n), .p (.int .i64 th)] [] = some ⟨.p (Tr.pv ⟨th, upto n 0, []⟩), [], []⟩ := by
  rw [callW_eq, EnvS.h 36 F36 rfl]
  have lp := loop36 (E := E) n th hn n 0 [] (by omega) rfl
  simp only [List.nil_append, List.map_nil, List.length_nil, Int.natCast_zero, ownA_nil, ownO_nil] at lp
  unfold Tr.pv
  cases n with
  | zero =>
    simp only [Int.natCast_zero] at lp
    simp -implicitDefEqProofs only [go_sem, Nat.reduceEqDiff, Nat.reduceAdd, Nat.reduceLeDiff, Nat.reduceLT, reduceCtorEq, ↓reduceIte, Nat.reduceBEq, Int.reduceLT, Int.reduceLE, Int.reduceNeg, Int.reduceEq, Int.toNat_natCast, cast_lit, Int.reduceToNat, F36, s36, s36_3, lp, upto, List.length_nil, List.map_nil, ownA_nil, ownO_nil]
  | succ n => simp -implicitDefEqProofs only [go_sem, Nat.reduceEqDiff, Nat.reduceAdd, Nat.reduceLeDiff, Nat.reduceLT, reduceCtorEq, ↓reduceIte, Nat.reduceBEq, Int.reduceLT, Int.reduceLE, Int.reduceNeg, Int.reduceEq, Int.toNat_natCast, cast_lit, Int.reduceToNat, F36, s36, s36_3, lp, upto, List.length_cons, List.map_cons, ownA_succ, ownO_cons]
theorem e17 (zs : List Int) : callW E 17 [.p (.sl 1 (zs.map (.int .i64)))] [] = some ⟨.ptr (.ext 0) 0, [], [.box [.p (.sl 1 ((zs.take 800).map (.int .i64))), .p (.int .i64 0)]]⟩ := by
  rw [callW_eq, EnvS.h 17 F17 rfl]
  have h1 : (if (800 : Int) < (zs.length : Int) then (800 : Int) else zs.length) = ((min zs.length 800 : Nat) : Int) := by split <;> omega
  have h2 : (0 : Int) ≤ ((min zs.length 800 : Nat) : Int) := by omega
  have h3 : ((min zs.length 800 : Nat) : Int) ≤ (zs.length : Int) := by omega
  have h4 : List.take (min zs.length 800) (List.map (PV.int .i64) zs) = (zs.take 800).map (.int .i64) := by
    rw [← List.map_take, Nat.min_comm, ← List.take_take, List.take_length]
  simp -implicitDefEqProofs only [go_sem, Nat.reduceEqDiff, Nat.reduceAdd, Nat.reduceLeDiff, Nat.reduceLT, reduceCtorEq, ↓reduceIte, Nat.reduceBEq, Int.reduceLT, Int.reduceLE, Int.reduceNeg, Int.reduceEq, Int.toNat_natCast, cast_lit, Int.reduceToNat, F17, s17, h1, h2, h3, h4, Nat.sub_zero, Option.isSome, finX, finish.finishG]
end Go.Ab.S
