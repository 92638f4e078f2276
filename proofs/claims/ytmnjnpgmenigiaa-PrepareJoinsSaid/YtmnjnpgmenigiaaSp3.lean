/- A part of the proof: an executor over plain data, shown sound for the model, and what it computes of the functions. -/
import Derived.Test.YtmnjnpgmenigiaaSp2
set_option linter.all false
set_option linter.unusedSimpArgs false
set_option linter.unusedVariables false
set_option linter.unusedSectionVars false
namespace Go.Ab.S
open Go Go.Ab

/-- A loop over a list. -/
theorem range_loopI {α σ : Type} (K : Option St → Option (Ex × St)) (xs : List α) (st : Nat → σ → St) (g : σ → List α → Option (Ex × St)) (Inv : Nat → σ → Prop)
    (hend : ∀ s, Inv xs.length s → K (some (st xs.length s)) = g s [])
    (hstep : ∀ i s x r, xs[i]? = some x → i + (r.length + 1) = xs.length → Inv i s → (∀ s', Inv (i + 1) s' → K (some (st (i + 1) s')) = g s' r) → K (some (st i s)) = g s (x :: r)) (s : σ) (h0 : Inv 0 s) :
    K (some (st 0 s)) = g s xs := by
  have key : ∀ (suf : List α) (i : Nat) (s : σ), xs.drop i = suf → i ≤ xs.length → Inv i s → K (some (st i s)) = g s suf := by
    intro suf
    induction suf with
    | nil =>
      intro i s h hi hI
      have : i = xs.length := by
        have := congrArg List.length h
        simp at this; omega
      subst this
      exact hend s hI
    | cons x r ih =>
      intro i s h hi hI
      have hlen : i + (r.length + 1) = xs.length := by
        have := congrArg List.length h
        simp at this; omega
      have hx : xs[i]? = some x := by
        have := congrArg (fun l => l[0]?) h
        simpa using this
      have hr : xs.drop (i + 1) = r := by
        have := congrArg List.tail h
        simpa using this
      exact hstep i s x r hx hlen hI (fun s' h' => ih (i + 1) s' hr (by omega) h')
  exact key xs 0 s (by simp) (by omega) h0
theorem range_loop {α σ : Type} (K : Option St → Option (Ex × St)) (xs : List α) (st : Nat → σ → St) (g : σ → List α → Option (Ex × St))
    (hend : ∀ s, K (some (st xs.length s)) = g s [])
    (hstep : ∀ i s x r, xs[i]? = some x → i < xs.length → (∀ s', K (some (st (i + 1) s')) = g s' r) → K (some (st i s)) = g s (x :: r)) (s : σ) :
    K (some (st 0 s)) = g s xs :=
  range_loopI K xs st g (fun _ _ => True) (fun s _ => hend s) (fun i s x r hx hl _ ih => hstep i s x r hx (by omega) fun s' => ih s' trivial) s trivial
theorem rangeFacts (i n : Nat) (h : i < n) (hn : n < 4611686018427387904) : ((i : Int) < n) ∧ (0 ≤ (i : Int)) ∧ IntKind.i64.wrap ((i : Int) + 1) = ((i + 1 : Nat) : Int) :=
  ⟨by omega, by omega, by rw [wrap64 (by omega) (by omega)]; omega⟩

/-! ### Sets of nodes -/
theorem wrapN (n : Nat) (h : n < 9223372036854775808) : IntKind.i64.wrap (n : Int) = n := wrap64 (by omega) (by omega)
theorem andI_nat (a b : Nat) (ha : a < 9223372036854775808) (hb : b < 9223372036854775808) : andI .i64 a b = ((a &&& b : Nat) : Int) := by
  unfold andI
  have h1 : (BitVec.ofInt 64 (a : Int) &&& BitVec.ofInt 64 (b : Int)).toNat = a &&& b := by
    rw [BitVec.toNat_and, BitVec.ofInt_natCast, BitVec.ofInt_natCast, BitVec.toNat_ofNat, BitVec.toNat_ofNat, Nat.mod_eq_of_lt (by omega), Nat.mod_eq_of_lt (by omega)]
  show IntKind.i64.wrap ((BitVec.ofInt 64 (a : Int) &&& BitVec.ofInt 64 (b : Int)).toNat : Int) = _
  rw [h1]
  exact wrapN _ (Nat.lt_of_le_of_lt Nat.and_le_left ha)
theorem orI_nat (a b : Nat) (ha : a < 9223372036854775808) (hb : b < 9223372036854775808) : orI .i64 a b = ((a ||| b : Nat) : Int) := by
  unfold orI
  have h1 : (BitVec.ofInt 64 (a : Int) ||| BitVec.ofInt 64 (b : Int)).toNat = a ||| b := by
    rw [BitVec.toNat_or, BitVec.ofInt_natCast, BitVec.ofInt_natCast, BitVec.toNat_ofNat, BitVec.toNat_ofNat, Nat.mod_eq_of_lt (by omega), Nat.mod_eq_of_lt (by omega)]
  show IntKind.i64.wrap ((BitVec.ofInt 64 (a : Int) ||| BitVec.ofInt 64 (b : Int)).toNat : Int) = _
  rw [h1]
  exact wrapN _ (Nat.or_lt_two_pow (n := 63) ha hb)
theorem shl1 (k : Nat) (h : k < 63) : shlI .i64 1 (k : Int) = ((2 ^ k : Nat) : Int) := by
  unfold shlI
  have : min (k : Int).toNat IntKind.i64.bits = k := by simp [IntKind.bits]; omega
  rw [this, Int.one_mul, show ((2 : Int) ^ k) = ((2 ^ k : Nat) : Int) by simp]
  exact wrapN _ (Nat.lt_of_lt_of_le (Nat.pow_lt_pow_right (by decide) h) (by decide))
theorem shrI_nat (a k : Nat) (h : k < 64) : shrI .i64 (a : Int) (k : Int) = ((a >>> k : Nat) : Int) := by
  unfold shrI
  have : min (k : Int).toNat IntKind.i64.bits = k := by simp [IntKind.bits]; omega
  rw [this, Nat.shiftRight_eq_div_pow, Int.fdiv_eq_ediv_of_nonneg _ (Int.le_of_lt (Int.pow_pos (by decide)))]
  simp
theorem pow_lt (k : Nat) (h : k < 10) : 2 ^ k < 1024 := Nat.pow_lt_pow_right (n := 10) (by decide) h

def hasN (s : Nat) (k : Int) : Bool := decide (0 ≤ k) && decide (k < 10) && s.testBit k.toNat
theorem and_pow_ne (s k : Nat) : (s &&& 2 ^ k ≠ 0) ↔ s.testBit k = true := by
  constructor
  · intro h
    cases hb : s.testBit k with
    | true => rfl
    | false =>
      exfalso
      apply h
      apply Nat.eq_of_testBit_eq
      intro j
      rw [Nat.testBit_and, Nat.testBit_two_pow, Nat.zero_testBit]
      by_cases hj : k = j
      · subst hj; simp [hb]
      · simp [hj]
  · intro h h0
    have : (s &&& 2 ^ k).testBit k = true := by rw [Nat.testBit_and, Nat.testBit_two_pow]; simp [h]
    rw [h0, Nat.zero_testBit] at this
    cases this
theorem shr_and_one (s k : Nat) : (s >>> k &&& 1 = 1) ↔ s.testBit k = true := by
  rw [Nat.testBit]
  simp [Nat.and_comm]

variable {E : Env} [EnvS E]
theorem e308 (s : Nat) (h : s < 1024) : callW E 308 [.p (.int .i64 s), .p (.int .i64 10)] [] = some ⟨.p (.bool true), [], []⟩ := by
  rw [callW_eq, EnvS.h 308 F308 rfl]
  have hw : shlI .i64 1 10 = 1024 := by decide
  have h1 : (0 : Int) ≤ s := by omega
  have h2 : (s : Int) < 1024 := by omega
  simp -implicitDefEqProofs only [go_sem, Nat.reduceEqDiff, Nat.reduceAdd, Nat.reduceLeDiff, Nat.reduceLT, reduceCtorEq, ↓reduceIte, Nat.reduceBEq, Int.reduceLT, Int.reduceLE, Int.reduceNeg, Int.reduceEq, Int.toNat_natCast, cast_lit, Int.reduceToNat, F308, s308, h1, h2, hw]
theorem e280 (s : Nat) (h : s < 1024) : callW E 280 [.p (.int .i64 s)] [] = some ⟨.p (.bool true), [], []⟩ := by
  rw [callW_eq, EnvS.h 280 F280 rfl]
  simp -implicitDefEqProofs only [go_sem, Nat.reduceEqDiff, Nat.reduceAdd, Nat.reduceLeDiff, Nat.reduceLT, reduceCtorEq, ↓reduceIte, Nat.reduceBEq, Int.reduceLT, Int.reduceLE, Int.reduceNeg, Int.reduceEq, Int.toNat_natCast, cast_lit, Int.reduceToNat, F280, s280, e308 (E := E) s h]
theorem e173 (s : Nat) (h : s < 1024) : callW E 173 [.p (.int .i64 s)] [] = some ⟨.p (.bool true), [], []⟩ := by
  rw [callW_eq, EnvS.h 173 F173 rfl]
  have h1 : (0 : Int) ≤ s := by omega
  have h2 : (s : Int) ≤ 1023 := by omega
  simp -implicitDefEqProofs only [go_sem, Nat.reduceEqDiff, Nat.reduceAdd, Nat.reduceLeDiff, Nat.reduceLT, reduceCtorEq, ↓reduceIte, Nat.reduceBEq, Int.reduceLT, Int.reduceLE, Int.reduceNeg, Int.reduceEq, Int.toNat_natCast, cast_lit, Int.reduceToNat, F173, s173, h1, h2]
theorem e235 (s : Nat) (k : Int) (h : s < 1024) : callW E 235 [.p (.int .i64 s), .p (.int .i64 k)] [] = some ⟨.p (.bool (hasN s k)), [], []⟩ := by
  rw [callW_eq, EnvS.h 235 F235 rfl]
  unfold hasN
  by_cases h1 : 0 ≤ k
  · have h1' : ¬ k < 0 := by omega
    by_cases h2 : k < 10
    · obtain ⟨m, rfl⟩ : ∃ m : Nat, k = m := ⟨k.toNat, by omega⟩
      have e : andI .i64 (s : Int) (shlI .i64 1 (m : Int)) = ((s &&& 2 ^ m : Nat) : Int) := by
        rw [shl1 m (by omega), andI_nat _ _ (by omega) (Nat.lt_trans (pow_lt m (by omega)) (by decide))]
      have e2 : decide (¬ ((s &&& 2 ^ m : Nat) : Int) = 0) = s.testBit m := by
        rw [Bool.eq_iff_iff, decide_eq_true_eq, ← and_pow_ne]
        omega
      simp -implicitDefEqProofs only [go_sem, Nat.reduceEqDiff, Nat.reduceAdd, Nat.reduceLeDiff, Nat.reduceLT, reduceCtorEq, ↓reduceIte, Nat.reduceBEq, Int.reduceLT, Int.reduceLE, Int.reduceNeg, Int.reduceEq, Int.toNat_natCast, cast_lit, Int.reduceToNat, F235, s235, e280 (E := E) s h, h1, h1', h2, e, e2, Int.toNat_natCast]
    · simp -implicitDefEqProofs only [go_sem, Nat.reduceEqDiff, Nat.reduceAdd, Nat.reduceLeDiff, Nat.reduceLT, reduceCtorEq, ↓reduceIte, Nat.reduceBEq, Int.reduceLT, Int.reduceLE, Int.reduceNeg, Int.reduceEq, Int.toNat_natCast, cast_lit, Int.reduceToNat, F235, s235, e280 (E := E) s h, h1, h1', h2]
  · have h1' : k < 0 := by omega
    simp -implicitDefEqProofs only [go_sem, Nat.reduceEqDiff, Nat.reduceAdd, Nat.reduceLeDiff, Nat.reduceLT, reduceCtorEq, ↓reduceIte, Nat.reduceBEq, Int.reduceLT, Int.reduceLE, Int.reduceNeg, Int.reduceEq, Int.toNat_natCast, cast_lit, Int.reduceToNat, F235, s235, e280 (E := E) s h, h1, h1']
theorem e174 (s : Nat) (k : Int) (h : s < 1024) : callW E 174 [.p (.int .i64 s), .p (.int .i64 k)] [] = some ⟨.p (.bool (hasN s k)), [], []⟩ := by
  rw [callW_eq, EnvS.h 174 F174 rfl]
  unfold hasN
  by_cases h1 : 0 ≤ k
  · have h1' : ¬ k < 0 := by omega
    by_cases h2 : k < 10
    · obtain ⟨m, rfl⟩ : ∃ m : Nat, k = m := ⟨k.toNat, by omega⟩
      have e : andI .i64 (shrI .i64 (s : Int) (m : Int)) 1 = ((s >>> m &&& 1 : Nat) : Int) := by
        rw [shrI_nat _ _ (by omega)]
        exact andI_nat _ 1 (Nat.lt_of_le_of_lt (Nat.shiftRight_le ..) (by omega)) (by decide)
      have e2 : decide (((s >>> m &&& 1 : Nat) : Int) = 1) = s.testBit m := by
        rw [Bool.eq_iff_iff, decide_eq_true_eq, ← shr_and_one]
        omega
      simp -implicitDefEqProofs only [go_sem, Nat.reduceEqDiff, Nat.reduceAdd, Nat.reduceLeDiff, Nat.reduceLT, reduceCtorEq, ↓reduceIte, Nat.reduceBEq, Int.reduceLT, Int.reduceLE, Int.reduceNeg, Int.reduceEq, Int.toNat_natCast, cast_lit, Int.reduceToNat, F174, s174, e173 (E := E) s h, h1, h1', h2, e, e2, Int.toNat_natCast]
    · simp -implicitDefEqProofs only [go_sem, Nat.reduceEqDiff, Nat.reduceAdd, Nat.reduceLeDiff, Nat.reduceLT, reduceCtorEq, ↓reduceIte, Nat.reduceBEq, Int.reduceLT, Int.reduceLE, Int.reduceNeg, Int.reduceEq, Int.toNat_natCast, cast_lit, Int.reduceToNat, F174, s174, e173 (E := E) s h, h1, h1', h2]
  · have h1' : k < 0 := by omega
    simp -implicitDefEqProofs only [go_sem, Nat.reduceEqDiff, Nat.reduceAdd, Nat.reduceLeDiff, Nat.reduceLT, reduceCtorEq, ↓reduceIte, Nat.reduceBEq, Int.reduceLT, Int.reduceLE, Int.reduceNeg, Int.reduceEq, Int.toNat_natCast, cast_lit, Int.reduceToNat, F174, s174, e173 (E := E) s h, h1, h1']
attribute [go_sem] List.getElem?_map Int.lt_irrefl

/-- The set of some nodes (242, 243). -/
def ofL : Nat → List Int → Nat × Int
  | acc, [] => (acc, 0)
  | acc, x :: r => if x < 0 ∨ 10 ≤ x then (0, 5) else if acc.testBit x.toNat = true then (0, 6) else ofL (acc ||| 2 ^ x.toNat) r
def ofR (p : Nat × Int) : Option (Ex × St) := if p.2 = 0 then some (.ex 0, ⟨[(4, .p (.int .i64 p.1))], []⟩) else some (.ret, ⟨[(2, .p (.int .i64 p.1)), (3, .p (.int .i64 p.2))], []⟩)
theorem ofL_cons_bad (acc : Nat) (x : Int) (r : List Int) (h : x < 0 ∨ 10 ≤ x) : ofL acc (x :: r) = (0, 5) := by simp [ofL, h]
theorem ofL_cons_twice (acc : Nat) (x : Int) (r : List Int) (h : ¬ (x < 0 ∨ 10 ≤ x)) (h2 : acc.testBit x.toNat = true) : ofL acc (x :: r) = (0, 6) := by simp [ofL, h, h2]
theorem ofL_cons (acc : Nat) (x : Int) (r : List Int) (h : ¬ (x < 0 ∨ 10 ≤ x)) (h2 : acc.testBit x.toNat = false) : ofL acc (x :: r) = ofL (acc ||| 2 ^ x.toNat) r := by simp [ofL, h, h2]
theorem or_lt (a k : Nat) (ha : a < 1024) (hk : k < 10) : a ||| 2 ^ k < 1024 := Nat.or_lt_two_pow (n := 10) ha (pow_lt k hk)
theorem loop242 (es : List Int) (hl : es.length < 4611686018427387904) (acc : Nat) (hacc : acc < 1024) :
    loopW E 0 [4, 7, 8, 9] [] (.trim [4, 7, 8, 9] [2, 3] [(0, [4])] [] s242_4) (some ⟨[(4, .p (.int .i64 acc)), (7, .p (.sl 1 (es.map (.int .i64)))), (8, .p (.int .i64 es.length)), (9, .p (.int .i64 0))], []⟩) = ofR (ofL acc es) := by
  generalize hK : loopW E 0 _ _ _ = K
  refine range_loop K es (fun i (a : {n : Nat // n < 1024}) => ⟨[(4, .p (.int .i64 a.1)), (7, .p (.sl 1 (es.map (.int .i64)))), (8, .p (.int .i64 es.length)), (9, .p (.int .i64 i))], []⟩) (fun a l => ofR (ofL a.1 l)) ?_ ?_ ⟨acc, hacc⟩
  · intro a
    rw [← hK, loopW_some, hK]
    simp -implicitDefEqProofs only [go_sem, Nat.reduceEqDiff, Nat.reduceAdd, Nat.reduceLeDiff, Nat.reduceLT, reduceCtorEq, ↓reduceIte, Nat.reduceBEq, Int.reduceLT, Int.reduceLE, Int.reduceNeg, Int.reduceEq, Int.toNat_natCast, cast_lit, Int.reduceToNat, s242_4, s242_3, s242_1, s242_2]
    rfl
  · intro i a x r hx hi ih
    obtain ⟨f1, f2, f3⟩ := rangeFacts i _ hi hl
    try dsimp only at ih ⊢
    rw [← hK, loopW_some, hK]
    by_cases c1 : x < 0
    · rw [ofL_cons_bad _ _ _ (.inl c1)]
      simp -implicitDefEqProofs only [go_sem, Nat.reduceEqDiff, Nat.reduceAdd, Nat.reduceLeDiff, Nat.reduceLT, reduceCtorEq, ↓reduceIte, Nat.reduceBEq, Int.reduceLT, Int.reduceLE, Int.reduceNeg, Int.reduceEq, Int.toNat_natCast, cast_lit, Int.reduceToNat, s242_4, s242_3, s242_1, s242_2, hx, f1, f2, f3, c1]
      rfl
    · by_cases c2 : 10 ≤ x
      · rw [ofL_cons_bad _ _ _ (.inr c2)]
        simp -implicitDefEqProofs only [go_sem, Nat.reduceEqDiff, Nat.reduceAdd, Nat.reduceLeDiff, Nat.reduceLT, reduceCtorEq, ↓reduceIte, Nat.reduceBEq, Int.reduceLT, Int.reduceLE, Int.reduceNeg, Int.reduceEq, Int.toNat_natCast, cast_lit, Int.reduceToNat, s242_4, s242_3, s242_1, s242_2, hx, f1, f2, f3, c1, c2]
        rfl
      · obtain ⟨m, rfl⟩ : ∃ m : Nat, x = m := ⟨x.toNat, by omega⟩
        have hm : m < 10 := by omega
        have c3 : hasN a.1 (m : Int) = a.1.testBit m := by
          have h1 : (0 : Int) ≤ m := by omega
          have h2 : (m : Int) < 10 := by omega
          simp [hasN, h1, h2]
        cases c4 : a.1.testBit m with
        | true =>
          rw [ofL_cons_twice _ _ _ (by omega) (by simpa using c4)]
          simp -implicitDefEqProofs only [go_sem, Nat.reduceEqDiff, Nat.reduceAdd, Nat.reduceLeDiff, Nat.reduceLT, reduceCtorEq, ↓reduceIte, Nat.reduceBEq, Int.reduceLT, Int.reduceLE, Int.reduceNeg, Int.reduceEq, Int.toNat_natCast, cast_lit, Int.reduceToNat, s242_4, s242_3, s242_1, s242_2, hx, f1, f2, f3, c1, c2, e235 (E := E) a.1 (m : Int) a.2, c3, c4]
          rfl
        | false =>
          rw [ofL_cons _ _ _ (by omega) (by simpa using c4)]
          have ih' := ih ⟨a.1 ||| 2 ^ m, or_lt _ _ a.2 hm⟩
          have w1 := orI_nat a.1 (2 ^ m) (by have := a.2; omega) (Nat.lt_trans (pow_lt m hm) (by decide))
          simp -implicitDefEqProofs only [go_sem, Nat.reduceEqDiff, Nat.reduceAdd, Nat.reduceLeDiff, Nat.reduceLT, reduceCtorEq, ↓reduceIte, Nat.reduceBEq, Int.reduceLT, Int.reduceLE, Int.reduceNeg, Int.reduceEq, Int.toNat_natCast, cast_lit, Int.reduceToNat, s242_4, s242_3, s242_1, s242_2, hx, f1, f2, f3, c1, c2, e235 (E := E) a.1 (m : Int) a.2, c3, c4, shl1 m (by omega), w1, ih', Int.natCast_nonneg, Int.not_lt]
theorem e242 (es : List Int) (hl : es.length < 4611686018427387904) : callW E 242 [.p (.sl 1 (es.map (.int .i64)))] [] = some ⟨.tup [.p (.int .i64 (ofL 0 es).1), .p (.int .i64 (ofL 0 es).2)], [], []⟩ := by
  rw [callW_eq, EnvS.h 242 F242 rfl]
  have lp := loop242 (E := E) es hl 0 (by decide)
  simp only [Int.natCast_zero] at lp
  unfold ofR at lp
  by_cases h : (ofL 0 es).2 = 0
  · rw [if_pos h] at lp
    simp -implicitDefEqProofs only [go_sem, Nat.reduceEqDiff, Nat.reduceAdd, Nat.reduceLeDiff, Nat.reduceLT, reduceCtorEq, ↓reduceIte, Nat.reduceBEq, Int.reduceLT, Int.reduceLE, Int.reduceNeg, Int.reduceEq, Int.toNat_natCast, cast_lit, Int.reduceToNat, F242, s242, s242_5, lp, h]
  · rw [if_neg h] at lp
    simp -implicitDefEqProofs only [go_sem, Nat.reduceEqDiff, Nat.reduceAdd, Nat.reduceLeDiff, Nat.reduceLT, reduceCtorEq, ↓reduceIte, Nat.reduceBEq, Int.reduceLT, Int.reduceLE, Int.reduceNeg, Int.reduceEq, Int.toNat_natCast, cast_lit, Int.reduceToNat, F242, s242, s242_5, lp, h]
/-! as before -/
theorem loop243 (es : List Int) (hl : es.length < 4611686018427387904) (acc : Nat) (hacc : acc < 1024) :
    loopW E 0 [4, 7, 8, 9] [] (.trim [4, 7, 8, 9] [2, 3] [(0, [4])] [] s243_4) (some ⟨[(4, .p (.int .i64 acc)), (7, .p (.sl 1 (es.map (.int .i64)))), (8, .p (.int .i64 es.length)), (9, .p (.int .i64 0))], []⟩) = ofR (ofL acc es) := by
  generalize hK : loopW E 0 _ _ _ = K
  refine range_loop K es (fun i (a : {n : Nat // n < 1024}) => ⟨[(4, .p (.int .i64 a.1)), (7, .p (.sl 1 (es.map (.int .i64)))), (8, .p (.int .i64 es.length)), (9, .p (.int .i64 i))], []⟩) (fun a l => ofR (ofL a.1 l)) ?_ ?_ ⟨acc, hacc⟩
  · intro a
    rw [← hK, loopW_some, hK]
    simp -implicitDefEqProofs only [go_sem, Nat.reduceEqDiff, Nat.reduceAdd, Nat.reduceLeDiff, Nat.reduceLT, reduceCtorEq, ↓reduceIte, Nat.reduceBEq, Int.reduceLT, Int.reduceLE, Int.reduceNeg, Int.reduceEq, Int.toNat_natCast, cast_lit, Int.reduceToNat, s243_4, s243_3, s243_1, s243_2]
    rfl
  · intro i a x r hx hi ih
    obtain ⟨f1, f2, f3⟩ := rangeFacts i _ hi hl
    try dsimp only at ih ⊢
    rw [← hK, loopW_some, hK]
    by_cases c1 : x < 0
    · rw [ofL_cons_bad _ _ _ (.inl c1)]
      simp -implicitDefEqProofs only [go_sem, Nat.reduceEqDiff, Nat.reduceAdd, Nat.reduceLeDiff, Nat.reduceLT, reduceCtorEq, ↓reduceIte, Nat.reduceBEq, Int.reduceLT, Int.reduceLE, Int.reduceNeg, Int.reduceEq, Int.toNat_natCast, cast_lit, Int.reduceToNat, s243_4, s243_3, s243_1, s243_2, hx, f1, f2, f3, c1]
      rfl
    · by_cases c2 : 10 ≤ x
      · rw [ofL_cons_bad _ _ _ (.inr c2)]
        simp -implicitDefEqProofs only [go_sem, Nat.reduceEqDiff, Nat.reduceAdd, Nat.reduceLeDiff, Nat.reduceLT, reduceCtorEq, ↓reduceIte, Nat.reduceBEq, Int.reduceLT, Int.reduceLE, Int.reduceNeg, Int.reduceEq, Int.toNat_natCast, cast_lit, Int.reduceToNat, s243_4, s243_3, s243_1, s243_2, hx, f1, f2, f3, c1, c2]
        rfl
      · obtain ⟨m, rfl⟩ : ∃ m : Nat, x = m := ⟨x.toNat, by omega⟩
        have hm : m < 10 := by omega
        have c3 : hasN a.1 (m : Int) = a.1.testBit m := by
          have h1 : (0 : Int) ≤ m := by omega
          have h2 : (m : Int) < 10 := by omega
          simp [hasN, h1, h2]
        cases c4 : a.1.testBit m with
        | true =>
          rw [ofL_cons_twice _ _ _ (by omega) (by simpa using c4)]
          simp -implicitDefEqProofs only [go_sem, Nat.reduceEqDiff, Nat.reduceAdd, Nat.reduceLeDiff, Nat.reduceLT, reduceCtorEq, ↓reduceIte, Nat.reduceBEq, Int.reduceLT, Int.reduceLE, Int.reduceNeg, Int.reduceEq, Int.toNat_natCast, cast_lit, Int.reduceToNat, s243_4, s243_3, s243_1, s243_2, hx, f1, f2, f3, c1, c2, e174 (E := E) a.1 (m : Int) a.2, c3, c4]
          rfl
        | false =>
          rw [ofL_cons _ _ _ (by omega) (by simpa using c4)]
          have ih' := ih ⟨a.1 ||| 2 ^ m, or_lt _ _ a.2 hm⟩
          have w1 := orI_nat a.1 (2 ^ m) (by have := a.2; omega) (Nat.lt_trans (pow_lt m hm) (by decide))
          simp -implicitDefEqProofs only [go_sem, Nat.reduceEqDiff, Nat.reduceAdd, Nat.reduceLeDiff, Nat.reduceLT, reduceCtorEq, ↓reduceIte, Nat.reduceBEq, Int.reduceLT, Int.reduceLE, Int.reduceNeg, Int.reduceEq, Int.toNat_natCast, cast_lit, Int.reduceToNat, s243_4, s243_3, s243_1, s243_2, hx, f1, f2, f3, c1, c2, e174 (E := E) a.1 (m : Int) a.2, c3, c4, shl1 m (by omega), w1, ih', Int.natCast_nonneg, Int.not_lt]
theorem e243 (es : List Int) (hl : es.length < 4611686018427387904) : callW E 243 [.p (.sl 1 (es.map (.int .i64)))] [] = some ⟨.tup [.p (.int .i64 (ofL 0 es).1), .p (.int .i64 (ofL 0 es).2)], [], []⟩ := by
  rw [callW_eq, EnvS.h 243 F243 rfl]
  have lp := loop243 (E := E) es hl 0 (by decide)
  simp only [Int.natCast_zero] at lp
  unfold ofR at lp
  by_cases h : (ofL 0 es).2 = 0
  · rw [if_pos h] at lp
    simp -implicitDefEqProofs only [go_sem, Nat.reduceEqDiff, Nat.reduceAdd, Nat.reduceLeDiff, Nat.reduceLT, reduceCtorEq, ↓reduceIte, Nat.reduceBEq, Int.reduceLT, Int.reduceLE, Int.reduceNeg, Int.reduceEq, Int.toNat_natCast, cast_lit, Int.reduceToNat, F243, s243, s243_5, lp, h]
  · rw [if_neg h] at lp
    simp -implicitDefEqProofs only [go_sem, Nat.reduceEqDiff, Nat.reduceAdd, Nat.reduceLeDiff, Nat.reduceLT, reduceCtorEq, ↓reduceIte, Nat.reduceBEq, Int.reduceLT, Int.reduceLE, Int.reduceNeg, Int.reduceEq, Int.toNat_natCast, cast_lit, Int.reduceToNat, F243, s243, s243_5, lp, h]
end Go.Ab.S
