/- A part of the proof (an executor, and what it computes). -/
import Derived.Test.YtmnjnpgmenigiaaGreatB8c93a02b21
import Derived.Test.YtmnjnpgmenigiaaGreatB46f0a96bd9
set_option linter.all false
namespace Go.Ab.S.SV
open Go Go.Ab Go.Ab.S
variable {E : Env} [EnvS E]
set_option maxRecDepth 10000
theorem raw191 : E.raw 191 = true := raw_T 191 F191 rfl rfl
theorem raw229 : E.raw 229 = true := raw_T 229 F229 rfl rfl
theorem raw264 : E.raw 264 = true := raw_T 264 F264 rfl rfl
theorem raw265 : E.raw 265 = true := raw_T 265 F265 rfl rfl
theorem raw266 : E.raw 266 = true := raw_T 266 F266 rfl rfl
theorem raw267 : E.raw 267 = true := raw_T 267 F267 rfl rfl
theorem raw268 : E.raw 268 = true := raw_T 268 F268 rfl rfl
theorem raw269 : E.raw 269 = true := raw_T 269 F269 rfl rfl
theorem raw270 : E.raw 270 = true := raw_T 270 F270 rfl rfl
theorem raw271 : E.raw 271 = true := raw_T 271 F271 rfl rfl
theorem raw302 : E.raw 302 = true := raw_T 302 F302 rfl rfl
theorem raw303 : E.raw 303 = true := raw_T 303 F303 rfl rfl
theorem raw304 : E.raw 304 = true := raw_T 304 F304 rfl rfl
theorem raw318 : E.raw 318 = true := raw_T 318 F318 rfl rfl
attribute [go_sem] raw264 raw265 raw266 raw267 raw268 raw269 raw270 raw271 raw302 raw303 raw304 raw318 raw229 raw191
def ltV (x y : ByteArray) : Bool := decide (cmpV x y < 0)
theorem cmpV_lt (x y : ByteArray) : decide (cmpV x y < 0) = ltV x y := rfl
theorem loop264i (a b i : Nat) (hb : b < 4611686018427387904) (hi : i < 4611686018427387904) : ∀ (j : Nat) (d : Array ByteArray), j < d.size → d.size < 4611686018427387904 →
    loopW E 1 [0, 1, 2, 3, 8, 9] [] (.trim [0, 1, 2, 3, 8, 9] [] [(2, [0, 1, 2, 3, 8])] [] s264_2) (some ⟨[(0, .hsl (.ext 0) 0 d.size), (1, .p (.int .i64 a)), (2, .p (.int .i64 b)), (3, .fn 111 [] []), (8, .p (.int .i64 i)), (9, .p (.int .i64 j))], [(.ext 0, some (.parr (d.toList.map .str) 1 false))]⟩) =
    some (.ex 2, ⟨[(0, .hsl (.ext 0) 0 d.size), (1, .p (.int .i64 a)), (2, .p (.int .i64 b)), (3, .fn 111 [] []), (8, .p (.int .i64 i))], [(.ext 0, some (.parr ((Sort.insInner ltV a j d).toList.map .str) 1 false))]⟩) := by
  generalize hK : loopW E 1 _ _ _ = K
  intro j
  induction j with
  | zero =>
    intro d hj hs
    have f1 : ¬ (a : Int) < 0 := by omega
    rw [← hK, loopW_some, hK]
    simp -implicitDefEqProofs only [go_sem, s264_2, s264_1, f1, Sort.insInner, Int.natCast_zero]
  | succ j ih =>
    intro d hj hs
    have f2 : IntKind.i64.wrap (((j + 1 : Nat) : Int) - 1) = (j : Int) := by rw [wrap64 (by omega) (by omega)]; omega
    have g1 := ar_get hj
    have g2 := ar_get (d := d) (i := j) (by omega)
    have e1 := e111 (E := E) d[j + 1]! d[j]!
    have e2 := cmpV_lt d[j + 1]! d[j]!
    have hn : (0 : Int) ≤ ((j + 1 : Nat) : Int) := by omega
    have hj0 : j < d.size := by omega
    have hp0 : (0 : Int) ≤ (j : Int) := by omega
    have h0 : 0 + d.size ≤ d.size := by omega
    by_cases ha : a < j + 1
    · have f1 : (a : Int) < ((j + 1 : Nat) : Int) := by omega
      rw [Sort.insInner, decide_eq_true ha, Bool.true_and]
      cases hl : ltV d[j + 1]! d[j]! with
      | true =>
        rw [hl] at e2
        have e3 := of_decide_eq_true e2
        have ih' := ih (Sort.swp d (j + 1) j) (by rw [swp_size]; omega) (by rw [swp_size]; omega)
        rw [swp_size, swp_map] at ih'
        obtain ⟨y, hy⟩ := set_get .str d (j + 1) j d[j]! hj0
        rw [← hK, loopW_some, hK]
        simp -implicitDefEqProofs only [go_sem, s264_2, s264_1, f1, f2, g1, g2, e1, e3, hn, hj, hj0, hp0, h0, hy, setE, List.length_map, List.length_set, Array.length_toList]
        exact ih'
      | false =>
        rw [hl] at e2
        have e3 := of_decide_eq_false e2
        rw [← hK, loopW_some, hK]
        simp -implicitDefEqProofs only [go_sem, s264_2, s264_1, f1, f2, g1, g2, e1, e3, hn, hj, hj0, hp0, h0, Array.length_toList]
    · have f1 : ¬ (a : Int) < ((j + 1 : Nat) : Int) := by omega
      rw [Sort.insInner, decide_eq_false ha, Bool.false_and]
      rw [← hK, loopW_some, hK]
      simp -implicitDefEqProofs only [go_sem, s264_2, s264_1, f1]
theorem ins_size (a : Nat) : ∀ (j : Nat) (d : Array ByteArray), (Sort.insInner ltV a j d).size = d.size
  | 0, d => rfl
  | j + 1, d => by
    rw [Sort.insInner]; split
    · rw [ins_size a j, swp_size]
    · rfl
theorem loop264 (a b : Nat) (hb : b < 4611686018427387904) : ∀ (n i : Nat) (d : Array ByteArray), b - i = n → b ≤ d.size → d.size < 4611686018427387904 → i < 4611686018427387904 →
    loopW E 1 [0, 1, 2, 3, 8] [] (.trim [0, 1, 2, 3, 8] [] [(0, [])] [] s264_5) (some ⟨[(0, .hsl (.ext 0) 0 d.size), (1, .p (.int .i64 a)), (2, .p (.int .i64 b)), (3, .fn 111 [] []), (8, .p (.int .i64 i))], [(.ext 0, some (.parr (d.toList.map .str) 1 false))]⟩) =
    some (.ex 0, ⟨[], [(.ext 0, some (.parr ((Sort.insOuter ltV a b i d).toList.map .str) 1 false))]⟩) := by
  generalize hK : loopW E 1 _ _ _ = K
  intro n
  induction n with
  | zero =>
    intro i d hn hbd hs hi
    have f1 : ¬ (i : Int) < b := by omega
    have f2 : ¬ i < b := by omega
    rw [Sort.insOuter, if_neg f2]
    rw [← hK, loopW_some, hK]
    simp -implicitDefEqProofs only [go_sem, s264_5, f1]
  | succ n ih =>
    intro i d hn hbd hs hi
    have f1 : (i : Int) < b := by omega
    have f2 : i < b := by omega
    have f3 : IntKind.i64.wrap ((i : Int) + 1) = ((i + 1 : Nat) : Int) := wrap64 (by omega) (by omega)
    rw [Sort.insOuter, if_pos f2]
    have lp := loop264i (E := E) a b i hb hi i d (by omega) hs
    have ih' := ih (i + 1) (Sort.insInner ltV a i d) (by omega) (by rw [ins_size]; exact hbd) (by rw [ins_size]; exact hs) (by omega)
    rw [ins_size] at ih'
    rw [← hK, loopW_some, hK]
    simp -implicitDefEqProofs only [go_sem, s264_5, s264_4, s264_3, f1, f3, lp]
    exact ih'
theorem e264 (d : Array ByteArray) (a b : Nat) (hb : b ≤ d.size) (ha : a < 4611686018427387903) (hs : d.size < 4611686018427387904) :
    callW E 264 [.hsl (.ext 0) 0 d.size, .p (.int .i64 a), .p (.int .i64 b), .fn 111 [] []] [.parr (d.toList.map .str) 1 false] = some ⟨.tup [], [.parr ((Sort.insertionSort ltV d a b).toList.map .str) 1 false], []⟩ := by
  have f3 : IntKind.i64.wrap ((a : Int) + 1) = ((a + 1 : Nat) : Int) := wrap64 (by omega) (by omega)
  have lp := loop264 (E := E) a b (by omega) _ (a + 1) d rfl hb hs (by omega)
  rw [← Sort.insertionSort] at lp
  rw [callW_eq, EnvS.h 264 F264 rfl]
  simp -implicitDefEqProofs only [go_sem, F264, s264, s264_6, f3, lp]


/-! ### The heap -/
theorem sift_size (hi first : Nat) : ∀ (n root : Nat) (d : Array ByteArray), hi - root ≤ n → (Sort.siftDown ltV hi first root d).size = d.size := by
  intro n
  induction n with
  | zero =>
    intro root d h
    rw [Sort.siftDown, dif_pos (by omega)]
  | succ n ih =>
    intro root d h
    rw [Sort.siftDown]
    split
    · rfl
    · split
      · split
        · rfl
        · split
          · rw [ih _ _ (by omega), swp_size]
          · rfl
      · split
        · rfl
        · rw [ih _ _ (by omega), swp_size]
theorem loop302 (hi first : Nat) : ∀ (n root : Nat) (d : Array ByteArray), hi - root ≤ n → first + hi ≤ d.size → d.size < 1152921504606846976 → root < 1152921504606846976 →
    ∃ ex, (ex = .ex 0 ∨ ex = .ret) ∧ loopW E 1 [0, 2, 3, 4, 10] [] (.trim [0, 2, 3, 4, 10] [] [(0, [])] [] s302_3) (some ⟨[(0, .hsl (.ext 0) 0 d.size), (2, .p (.int .i64 hi)), (3, .p (.int .i64 first)), (4, .fn 111 [] []), (10, .p (.int .i64 root))], [(.ext 0, some (.parr (d.toList.map .str) 1 false))]⟩) =
    some (ex, ⟨[], [(.ext 0, some (.parr ((Sort.siftDown ltV hi first root d).toList.map .str) 1 false))]⟩) := by
  generalize hK : loopW E 1 _ _ _ = K
  intro n
  induction n with
  | zero =>
    intro root d hn hf hs hr
    refine ⟨_, .inl rfl, ?_⟩
    have w1 := wMul2 root (by omega)
    have w2 := wAdd1 (2 * root) (by omega)
    have f1 : (hi : Int) ≤ ((2 * root + 1 : Nat) : Int) := by omega
    rw [Sort.siftDown, dif_pos (by omega)]
    rw [← hK, loopW_some, hK]
    simp -implicitDefEqProofs only [go_sem, s302_3, s302_2, w1, w2, f1]
  | succ n ih =>
    intro root d hn hf hs hr
    have w1 := wMul2 root (by omega)
    have w2 := wAdd1 (2 * root) (by omega)
    by_cases h1 : 2 * root + 1 ≥ hi
    · refine ⟨_, .inl rfl, ?_⟩
      have f1 : (hi : Int) ≤ ((2 * root + 1 : Nat) : Int) := by omega
      rw [Sort.siftDown, dif_pos h1]
      rw [← hK, loopW_some, hK]
      simp -implicitDefEqProofs only [go_sem, s302_3, s302_2, w1, w2, f1]
    · have f1 : ¬ (hi : Int) ≤ ((2 * root + 1 : Nat) : Int) := by omega
      have w3 := wAdd1 (2 * root + 1) (by omega)
      have w4 := wAdd first (2 * root + 1) (by omega)
      have w5 := wAdd1 (first + (2 * root + 1)) (by omega)
      have w6 := wAdd first root (by omega)
      have n4 : (0 : Int) ≤ ((first + (2 * root + 1) : Nat) : Int) := by omega
      have n5 : (0 : Int) ≤ ((first + (2 * root + 1) + 1 : Nat) : Int) := by omega
      have n6 : (0 : Int) ≤ ((first + root : Nat) : Int) := by omega
      have i4 : first + (2 * root + 1) < d.size := by omega
      have i6 : first + root < d.size := by omega
      have g4 := ar_get i4
      have g6 := ar_get i6
      have h0 : 0 + d.size ≤ d.size := by omega
      have a0 : d.toList.length = d.size := Array.length_toList
      by_cases h2 : 2 * root + 1 + 1 < hi
      · have f2 : ((2 * root + 1 + 1 : Nat) : Int) < hi := by omega
        have i5 : first + (2 * root + 1) + 1 < d.size := by omega
        have g5 := ar_get i5
        have e1 := e111 (E := E) d[first + (2 * root + 1)]! d[first + (2 * root + 1) + 1]!
        have e2 := cmpV_lt d[first + (2 * root + 1)]! d[first + (2 * root + 1) + 1]!
        cases hl : ltV d[first + (2 * root + 1)]! d[first + (2 * root + 1) + 1]! with
        | true =>
          rw [hl] at e2
          have e3 := of_decide_eq_true e2
          have w7 := wAdd first (2 * root + 1 + 1) (by omega)
          have i7 : first + (2 * root + 1 + 1) < d.size := by omega
          have n7 : (0 : Int) ≤ ((first + (2 * root + 1 + 1) : Nat) : Int) := by omega
          have g7 := ar_get i7
          have e4 := e111 (E := E) d[first + root]! d[first + (2 * root + 1 + 1)]!
          have e5 := cmpV_lt d[first + root]! d[first + (2 * root + 1 + 1)]!
          cases hl2 : ltV d[first + root]! d[first + (2 * root + 1 + 1)]! with
          | true =>
            rw [hl2] at e5
            have e6 := of_decide_eq_true e5
            obtain ⟨ex, hex, ih'⟩ := ih (2 * root + 1 + 1) (Sort.swp d (first + root) (first + (2 * root + 1 + 1))) (by omega) (by rw [swp_size]; exact hf) (by rw [swp_size]; exact hs) (by omega)
            rw [swp_size, swp_map] at ih'
            obtain ⟨y, hy⟩ := set_get .str d (first + root) (first + (2 * root + 1 + 1)) d[first + (2 * root + 1 + 1)]! i7
            refine ⟨ex, hex, ?_⟩
            rw [Sort.siftDown, dif_neg h1, decide_eq_true h2, hl]
            simp only [Bool.true_and, if_true, show 2 * root + 2 = 2 * root + 1 + 1 from rfl, hl2, Bool.not_true, Bool.false_eq_true, if_false, dif_pos h2]
            rw [← hK, loopW_some, hK]
            simp -implicitDefEqProofs only [go_sem, s302_3, s302_2, s302_1, w1, w2, f1, w3, w4, w5, w6, w7, n4, n5, n6, n7, i4, i5, i6, i7, g4, g5, g6, g7, h0, a0, f2, e1, e3, e4, e6, hy, setE, List.length_map, List.length_set]
            exact ih'
          | false =>
            rw [hl2] at e5
            have e6 := of_decide_eq_false e5
            refine ⟨_, .inr rfl, ?_⟩
            rw [Sort.siftDown, dif_neg h1, decide_eq_true h2, hl]
            simp only [Bool.true_and, if_true, show 2 * root + 2 = 2 * root + 1 + 1 from rfl, hl2, Bool.not_false, if_true]
            rw [← hK, loopW_some, hK]
            simp -implicitDefEqProofs only [go_sem, s302_3, s302_2, s302_1, w1, w2, f1, w3, w4, w5, w6, w7, n4, n5, n6, n7, i4, i5, i6, i7, g4, g5, g6, g7, h0, a0, f2, e1, e3, e4, e6]
        | false =>
          rw [hl] at e2
          have e3 := of_decide_eq_false e2
          have e4 := e111 (E := E) d[first + root]! d[first + (2 * root + 1)]!
          have e5 := cmpV_lt d[first + root]! d[first + (2 * root + 1)]!
          cases hl2 : ltV d[first + root]! d[first + (2 * root + 1)]! with
          | true =>
            rw [hl2] at e5
            have e6 := of_decide_eq_true e5
            obtain ⟨ex, hex, ih'⟩ := ih (2 * root + 1) (Sort.swp d (first + root) (first + (2 * root + 1))) (by omega) (by rw [swp_size]; exact hf) (by rw [swp_size]; exact hs) (by omega)
            rw [swp_size, swp_map] at ih'
            obtain ⟨y, hy⟩ := set_get .str d (first + root) (first + (2 * root + 1)) d[first + (2 * root + 1)]! i4
            refine ⟨ex, hex, ?_⟩
            rw [Sort.siftDown, dif_neg h1, decide_eq_true h2, hl]
            simp only [Bool.true_and, Bool.false_eq_true, if_false, hl2, Bool.not_true]
            rw [← hK, loopW_some, hK]
            simp -implicitDefEqProofs only [go_sem, s302_3, s302_2, s302_1, w1, w2, f1, w3, w4, w5, w6, n4, n5, n6, i4, i5, i6, g4, g5, g6, h0, a0, f2, e1, e3, e4, e6, hy, setE, List.length_map, List.length_set]
            exact ih'
          | false =>
            rw [hl2] at e5
            have e6 := of_decide_eq_false e5
            refine ⟨_, .inr rfl, ?_⟩
            rw [Sort.siftDown, dif_neg h1, decide_eq_true h2, hl]
            simp only [Bool.true_and, Bool.false_eq_true, if_false, hl2, Bool.not_false, if_true]
            rw [← hK, loopW_some, hK]
            simp -implicitDefEqProofs only [go_sem, s302_3, s302_2, s302_1, w1, w2, f1, w3, w4, w5, w6, n4, n5, n6, i4, i5, i6, g4, g5, g6, h0, a0, f2, e1, e3, e4, e6]
      · have f2 : ¬ ((2 * root + 1 + 1 : Nat) : Int) < hi := by omega
        have e4 := e111 (E := E) d[first + root]! d[first + (2 * root + 1)]!
        have e5 := cmpV_lt d[first + root]! d[first + (2 * root + 1)]!
        cases hl2 : ltV d[first + root]! d[first + (2 * root + 1)]! with
        | true =>
          rw [hl2] at e5
          have e6 := of_decide_eq_true e5
          obtain ⟨ex, hex, ih'⟩ := ih (2 * root + 1) (Sort.swp d (first + root) (first + (2 * root + 1))) (by omega) (by rw [swp_size]; exact hf) (by rw [swp_size]; exact hs) (by omega)
          rw [swp_size, swp_map] at ih'
          obtain ⟨y, hy⟩ := set_get .str d (first + root) (first + (2 * root + 1)) d[first + (2 * root + 1)]! i4
          refine ⟨ex, hex, ?_⟩
          rw [Sort.siftDown, dif_neg h1, decide_eq_false h2]
          simp only [Bool.false_and, Bool.false_eq_true, if_false, hl2, Bool.not_true]
          rw [← hK, loopW_some, hK]
          simp -implicitDefEqProofs only [go_sem, s302_3, s302_2, s302_1, w1, w2, f1, w3, w4, w5, w6, n4, n5, n6, i4, i6, g4, g6, h0, a0, f2, e4, e6, hy, setE, List.length_map, List.length_set]
          exact ih'
        | false =>
          rw [hl2] at e5
          have e6 := of_decide_eq_false e5
          refine ⟨_, .inr rfl, ?_⟩
          rw [Sort.siftDown, dif_neg h1, decide_eq_false h2]
          simp only [Bool.false_and, Bool.false_eq_true, if_false, hl2, Bool.not_false, if_true]
          rw [← hK, loopW_some, hK]
          simp -implicitDefEqProofs only [go_sem, s302_3, s302_2, s302_1, w1, w2, f1, w3, w4, w5, w6, n4, n5, n6, i4, i6, g4, g6, h0, a0, f2, e4, e6]
theorem e302 (d : Array ByteArray) (root hi first : Nat) (hf : first + hi ≤ d.size) (hs : d.size < 1152921504606846976) (hr : root < 1152921504606846976) :
    callW E 302 [.hsl (.ext 0) 0 d.size, .p (.int .i64 root), .p (.int .i64 hi), .p (.int .i64 first), .fn 111 [] []] [.parr (d.toList.map .str) 1 false] = some ⟨.tup [], [.parr ((Sort.siftDown ltV hi first root d).toList.map .str) 1 false], []⟩ := by
  obtain ⟨ex, hex, lp⟩ := loop302 (E := E) hi first _ root d (Nat.le_refl _) hf hs hr
  rw [callW_eq, EnvS.h 302 F302 rfl]
  rcases hex with rfl | rfl
  · simp -implicitDefEqProofs only [go_sem, F302, s302, s302_4, lp]
  · simp -implicitDefEqProofs only [go_sem, F302, s302, s302_4, lp]


theorem siftS (hi first root : Nat) (d : Array ByteArray) : (Sort.siftDown ltV hi first root d).size = d.size := sift_size hi first _ root d (Nat.le_refl _)
theorem build_size (hi first : Nat) : ∀ (k : Nat) (d : Array ByteArray), (Sort.heapBuild ltV hi first k d).size = d.size
  | 0, d => rfl
  | k + 1, d => by rw [Sort.heapBuild, build_size hi first k, siftS]
theorem loop265a (hi first : Nat) : ∀ (k : Nat) (d : Array ByteArray) (e : Int), e = (k : Int) - 1 → first + hi ≤ d.size → d.size < 1152921504606846976 → k < 1152921504606846976 →
    loopW E 1 [0, 3, 8, 9, 10, 11] [] (.trim [0, 3, 8, 9, 10, 11] [] [(0, [0, 3, 8, 9, 10])] [] s265_2) (some ⟨[(0, .hsl (.ext 0) 0 d.size), (3, .fn 111 [] []), (8, .p (.int .i64 first)), (9, .p (.int .i64 0)), (10, .p (.int .i64 hi)), (11, .p (.int .i64 e))], [(.ext 0, some (.parr (d.toList.map .str) 1 false))]⟩) =
    some (.ex 0, ⟨[(0, .hsl (.ext 0) 0 d.size), (3, .fn 111 [] []), (8, .p (.int .i64 first)), (9, .p (.int .i64 0)), (10, .p (.int .i64 hi))], [(.ext 0, some (.parr ((Sort.heapBuild ltV hi first k d).toList.map .str) 1 false))]⟩) := by
  generalize hK : loopW E 1 _ _ _ = K
  intro k
  induction k with
  | zero =>
    intro d e he hf hs hk
    have f1 : ¬ (0 : Int) ≤ e := by omega
    rw [← hK, loopW_some, hK]
    simp -implicitDefEqProofs only [go_sem, s265_2, s265_1, f1, Sort.heapBuild]
  | succ k ih =>
    intro d e he hf hs hk
    have he' : e = (k : Int) := by omega
    subst he'
    have f1 : (0 : Int) ≤ (k : Int) := by omega
    have e1 := e302 (E := E) d k hi first hf hs (by omega)
    have w1 : IntKind.i64.wrap ((k : Int) - 1) = (k : Int) - 1 := wrap64 (by omega) (by omega)
    have ih' := ih (Sort.siftDown ltV hi first k d) _ rfl (by rw [siftS]; exact hf) (by rw [siftS]; exact hs) (by omega)
    rw [siftS] at ih'
    rw [← hK, loopW_some, hK]
    simp -implicitDefEqProofs only [go_sem, s265_2, s265_1, f1, e1, w1]
    rw [Sort.heapBuild]
    exact ih'
theorem loop265b (first : Nat) : ∀ (k : Nat) (d : Array ByteArray) (e : Int), e = (k : Int) - 1 → first + k ≤ d.size → d.size < 1152921504606846976 →
    loopW E 1 [0, 3, 8, 9, 12] [] (.trim [0, 3, 8, 9, 12] [] [(2, [])] [] s265_5) (some ⟨[(0, .hsl (.ext 0) 0 d.size), (3, .fn 111 [] []), (8, .p (.int .i64 first)), (9, .p (.int .i64 0)), (12, .p (.int .i64 e))], [(.ext 0, some (.parr (d.toList.map .str) 1 false))]⟩) =
    some (.ex 2, ⟨[], [(.ext 0, some (.parr ((Sort.heapPop ltV first k d).toList.map .str) 1 false))]⟩) := by
  generalize hK : loopW E 1 _ _ _ = K
  intro k
  induction k with
  | zero =>
    intro d e he hf hs
    have f1 : ¬ (0 : Int) ≤ e := by omega
    rw [← hK, loopW_some, hK]
    simp -implicitDefEqProofs only [go_sem, s265_5, s265_4, f1, Sort.heapPop]
  | succ k ih =>
    intro d e he hf hs
    have he' : e = (k : Int) := by omega
    subst he'
    have f1 : (0 : Int) ≤ (k : Int) := by omega
    have w1 : IntKind.i64.wrap ((k : Int) - 1) = (k : Int) - 1 := wrap64 (by omega) (by omega)
    have w2 := wAdd first k (by omega)
    have n1 : (0 : Int) ≤ (first : Int) := by omega
    have n2 : (0 : Int) ≤ ((first + k : Nat) : Int) := by omega
    have i1 : first < d.size := by omega
    have i2 : first + k < d.size := by omega
    have g1 := ar_get i1
    have g2 := ar_get i2
    have h0 : 0 + d.size ≤ d.size := by omega
    have a0 : d.toList.length = d.size := Array.length_toList
    obtain ⟨y, hy⟩ := set_get .str d first (first + k) d[first + k]! i2
    have e1 := e302 (E := E) (Sort.swp d first (first + k)) 0 k first (by rw [swp_size]; omega) (by rw [swp_size]; exact hs) (by omega)
    rw [swp_size, swp_map] at e1
    simp only [Int.natCast_zero] at e1
    have ih' := ih (Sort.siftDown ltV k first 0 (Sort.swp d first (first + k))) _ rfl (by rw [siftS, swp_size]; omega) (by rw [siftS, swp_size]; exact hs)
    rw [siftS, swp_size] at ih'
    rw [← hK, loopW_some, hK]
    simp -implicitDefEqProofs only [go_sem, s265_5, s265_4, f1, w1, w2, n1, n2, i1, i2, g1, g2, h0, a0, hy, setE, List.length_map, List.length_set, e1]
    rw [Sort.heapPop]
    exact ih'
theorem e265 (d : Array ByteArray) (a b : Nat) (hab : a < b) (hb : b ≤ d.size) (hs : d.size < 1152921504606846976) :
    callW E 265 [.hsl (.ext 0) 0 d.size, .p (.int .i64 a), .p (.int .i64 b), .fn 111 [] []] [.parr (d.toList.map .str) 1 false] = some ⟨.tup [], [.parr ((Sort.heapSort ltV d a b).toList.map .str) 1 false], []⟩ := by
  have w1 := wSub b a (by omega) (by omega)
  have w2 : IntKind.i64.wrap (((b - a : Nat) : Int) - 1) = ((b - a - 1 : Nat) : Int) := wSub (b - a) 1 (by omega) (by omega)
  have w3 : IntKind.i64.wrap (((b - a - 1 : Nat) : Int).tdiv 2) = (((b - a - 1) / 2 : Nat) : Int) := by
    rw [show ((b - a - 1 : Nat) : Int).tdiv 2 = (((b - a - 1) / 2 : Nat) : Int) from rfl, wrapN _ (by omega)]
  have lp1 := loop265a (E := E) (b - a) a ((b - a - 1) / 2 + 1) d (((b - a - 1) / 2 : Nat) : Int) (by omega) (by omega) hs (by omega)
  have lp2 := loop265b (E := E) a (b - a) (Sort.heapBuild ltV (b - a) a ((b - a - 1) / 2 + 1) d) ((b - a - 1 : Nat) : Int) (by omega) (by rw [build_size]; omega) (by rw [build_size]; exact hs)
  rw [build_size] at lp2
  rw [← Sort.heapSort] at lp2
  rw [callW_eq, EnvS.h 265 F265 rfl]
  simp -implicitDefEqProofs only [go_sem, F265, s265, s265_3, s265_6, w1, w2, w3, lp1, lp2]
/-! ### Turning a range round -/
theorem loop268 : ∀ (n i j : Nat) (d : Array ByteArray), j - i ≤ n → j < d.size → d.size < 1152921504606846976 → i < 1152921504606846976 →
    loopW E 1 [0, 8, 9] [] (.trim [0, 8, 9] [] [(0, [])] [] s268_2) (some ⟨[(0, .hsl (.ext 0) 0 d.size), (8, .p (.int .i64 i)), (9, .p (.int .i64 j))], [(.ext 0, some (.parr (d.toList.map .str) 1 false))]⟩) =
    some (.ex 0, ⟨[], [(.ext 0, some (.parr ((Sort.reverseLoop i j d).toList.map .str) 1 false))]⟩) := by
  generalize hK : loopW E 1 _ _ _ = K
  intro n
  induction n with
  | zero =>
    intro i j d hn hj hs hi
    have f1 : ¬ (i : Int) < (j : Int) := by omega
    rw [Sort.reverseLoop, if_neg (by omega)]
    rw [← hK, loopW_some, hK]
    simp -implicitDefEqProofs only [go_sem, s268_2, s268_1, f1]
  | succ n ih =>
    intro i j d hn hj hs hi
    by_cases h : i < j
    · have f1 : (i : Int) < (j : Int) := by omega
      have w1 := wAdd1 i (by omega)
      have w2 : IntKind.i64.wrap ((j : Int) - 1) = ((j - 1 : Nat) : Int) := wSub j 1 (by omega) (by omega)
      have n1 : (0 : Int) ≤ (i : Int) := by omega
      have n2 : (0 : Int) ≤ (j : Int) := by omega
      have i1 : i < d.size := by omega
      have g1 := ar_get i1
      have g2 := ar_get hj
      have h0 : 0 + d.size ≤ d.size := by omega
      have a0 : d.toList.length = d.size := Array.length_toList
      obtain ⟨y, hy⟩ := set_get .str d i j d[j]! hj
      have ih' := ih (i + 1) (j - 1) (Sort.swp d i j) (by omega) (by rw [swp_size]; omega) (by rw [swp_size]; exact hs) (by omega)
      rw [swp_size, swp_map] at ih'
      rw [Sort.reverseLoop, if_pos h]
      rw [← hK, loopW_some, hK]
      simp -implicitDefEqProofs only [go_sem, s268_2, s268_1, f1, w1, w2, n1, n2, i1, hj, g1, g2, h0, a0, hy, setE, List.length_map, List.length_set]
      exact ih'
    · have f1 : ¬ (i : Int) < (j : Int) := by omega
      rw [Sort.reverseLoop, if_neg h]
      rw [← hK, loopW_some, hK]
      simp -implicitDefEqProofs only [go_sem, s268_2, s268_1, f1]
theorem e268 (d : Array ByteArray) (a b : Nat) (hab : a < b) (hb : b ≤ d.size) (hs : d.size < 1152921504606846976) :
    callW E 268 [.hsl (.ext 0) 0 d.size, .p (.int .i64 a), .p (.int .i64 b), .fn 111 [] []] [.parr (d.toList.map .str) 1 false] = some ⟨.tup [], [.parr ((Sort.reverseRange d a b).toList.map .str) 1 false], []⟩ := by
  have w2 : IntKind.i64.wrap ((b : Int) - 1) = ((b - 1 : Nat) : Int) := wSub b 1 (by omega) (by omega)
  have lp := loop268 (E := E) _ a (b - 1) d (Nat.le_refl _) (by omega) hs (by omega)
  rw [← Sort.reverseRange] at lp
  rw [callW_eq, EnvS.h 268 F268 rfl]
  simp -implicitDefEqProofs only [go_sem, F268, s268, s268_3, w2, lp]
/-! ### Breaking patterns -/
theorem brk_step (a len modulus : Nat) (hl : 8 ≤ len) (hl2 : len < 1024) (hm : 0 < modulus) (hm2 : modulus ≤ 2 * len) (d : Array ByteArray) (had : a + len ≤ d.size) (hs : d.size < 1152921504606846976) (i : Nat) (hi : i ≤ a + len / 4 * 2 + 1) (r : UInt64) :
    loopW E 1 [0, 1, 8, 9, 10, 11] [.loc 2 2 0] (.trim [0, 1, 8, 9, 10, 11] [] [(0, [])] [.loc 2 2 0] s266_3) (some ⟨[(0, .hsl (.ext 0) 0 d.size), (1, .p (.int .i64 a)), (8, .p (.int .i64 len)), (9, .ptr (.loc 2 2 0) 0), (10, .p (.int .u64 modulus)), (11, .p (.int .i64 i))], [(.ext 0, some (.parr (d.toList.map .str) 1 false)), (.loc 2 2 0, some (.box [.p (.int .u64 r.toNat)]))]⟩) =
    loopW E 1 [0, 1, 8, 9, 10, 11] [.loc 2 2 0] (.trim [0, 1, 8, 9, 10, 11] [] [(0, [])] [.loc 2 2 0] s266_3) (some ⟨[(0, .hsl (.ext 0) 0 d.size), (1, .p (.int .i64 a)), (8, .p (.int .i64 len)), (9, .ptr (.loc 2 2 0) 0), (10, .p (.int .u64 modulus)), (11, .p (.int .i64 (i + 1 : Nat)))], [(.ext 0, some (.parr ((Sort.breakStep a len modulus (r, d) i).2.toList.map .str) 1 false)), (.loc 2 2 0, some (.box [.p (.int .u64 (Sort.breakStep a len modulus (r, d) i).1.toNat)]))]⟩) := by
  generalize hK : loopW E 1 _ _ _ = K
  rw [← hK, loopW_some, hK]
  have e1 := e299 (E := E) r
  have hrl := UInt64.toNat_lt (Sort.xorNext r)
  have q1 : IntKind.i64.wrap ((len : Int).tdiv 4) = ((len / 4 : Nat) : Int) := by
    rw [show (len : Int).tdiv 4 = ((len / 4 : Nat) : Int) from rfl, wrapN _ (by omega)]
  have q2 : IntKind.i64.wrap (((len / 4 : Nat) : Int) * 2) = ((len / 4 * 2 : Nat) : Int) := by rw [wrap64 (by omega) (by omega)]; omega
  have q3 := wAdd a (len / 4 * 2) (by omega)
  have q4 := wAdd1 (a + len / 4 * 2) (by omega)
  have f1 : (i : Int) ≤ ((a + len / 4 * 2 + 1 : Nat) : Int) := by omega
  have q5 : IntKind.u64.wrap ((modulus : Int) - 1) = ((modulus - 1 : Nat) : Int) := by
    rw [show (modulus : Int) - 1 = ((modulus - 1 : Nat) : Int) by omega, u64w _ (by omega)]
  have q6 := andU (Sort.xorNext r).toNat (modulus - 1) hrl (by omega)
  have hand : (Sort.xorNext r).toNat &&& (modulus - 1) ≤ modulus - 1 := Nat.and_le_right
  unfold Sort.breakStep
  dsimp only
  generalize (Sort.xorNext r).toNat &&& (modulus - 1) = o at *
  have q7 := wrapN o (by omega)
  have w1 := wAdd1 i (by omega)
  have n1 : (0 : Int) ≤ (i : Int) := by omega
  have i1 : i < d.size := by omega
  have g1 := ar_get i1
  have h0 : 0 + d.size ≤ d.size := by omega
  have a0 : d.toList.length = d.size := Array.length_toList
  by_cases h : o ≥ len
  · have f2 : (len : Int) ≤ (o : Int) := by omega
    have q8 := wSub o len h (by omega)
    have q9 := wAdd a (o - len) (by omega)
    have n2 : (0 : Int) ≤ ((a + (o - len) : Nat) : Int) := by omega
    have i2 : a + (o - len) < d.size := by omega
    have g2 := ar_get i2
    obtain ⟨y, hy⟩ := set_get .str d i (a + (o - len)) d[a + (o - len)]! i2
    rw [if_pos h, swp_map]
    simp -implicitDefEqProofs only [go_sem, s266_3, s266_2, s266_1, q1, q2, q3, q4, f1, e1, q5, q6, q7, f2, q8, q9, w1, n1, n2, i1, i2, g1, g2, h0, a0, hy, setE, List.length_map, List.length_set]
  · have f2 : ¬ (len : Int) ≤ (o : Int) := by omega
    have q9 := wAdd a o (by omega)
    have n2 : (0 : Int) ≤ ((a + o : Nat) : Int) := by omega
    have i2 : a + o < d.size := by omega
    have g2 := ar_get i2
    obtain ⟨y, hy⟩ := set_get .str d i (a + o) d[a + o]! i2
    rw [if_neg h, swp_map]
    simp -implicitDefEqProofs only [go_sem, s266_3, s266_2, s266_1, q1, q2, q3, q4, f1, e1, q5, q6, q7, f2, q9, w1, n1, n2, i1, i2, g1, g2, h0, a0, hy, setE, List.length_map, List.length_set]
theorem step_size (a len modulus : Nat) (r : UInt64) (d : Array ByteArray) (i : Nat) : (Sort.breakStep a len modulus (r, d) i).2.size = d.size := by
  simp only [Sort.breakStep, swp_size]
theorem e266 (d : Array ByteArray) (a b : Nat) (hab : a < b) (hb : b ≤ d.size) (hs : d.size < 1024) :
    callW E 266 [.hsl (.ext 0) 0 d.size, .p (.int .i64 a), .p (.int .i64 b), .fn 111 [] []] [.parr (d.toList.map .str) 1 false] = some ⟨.tup [], [.parr ((Sort.breakPatterns d a b).toList.map .str) 1 false], []⟩ := by
  have w1 := wSub b a (by omega) (by omega)
  unfold Sort.breakPatterns
  dsimp only
  generalize hlen : b - a = len at *
  by_cases h8 : len ≥ 8
  · have f1 : (8 : Int) ≤ (len : Int) := by omega
    have q0 := u64w len (by omega)
    have e1 := e298 (E := E) len (by omega)
    obtain ⟨_, _, l3⟩ := len_facts (n := len) (by omega)
    obtain ⟨m1, m2⟩ := l3 (by omega)
    generalize 1 <<< Sort.bitsLen len = modulus at *
    have q1 : IntKind.i64.wrap ((len : Int).tdiv 4) = ((len / 4 : Nat) : Int) := by
      rw [show (len : Int).tdiv 4 = ((len / 4 : Nat) : Int) from rfl, wrapN _ (by omega)]
    have q2 : IntKind.i64.wrap (((len / 4 : Nat) : Int) * 2) = ((len / 4 * 2 : Nat) : Int) := by rw [wrap64 (by omega) (by omega)]; omega
    have q3 := wAdd a (len / 4 * 2) (by omega)
    have q4 : IntKind.i64.wrap (((a + len / 4 * 2 : Nat) : Int) - 1) = ((a + len / 4 * 2 - 1 : Nat) : Int) := wSub _ 1 (by omega) (by omega)
    have hr0 : (UInt64.ofNat len).toNat = len := UInt64.toNat_ofNat_of_lt' (by simp [UInt64.size]; omega)
    generalize hidx : a + len / 4 * 2 - 1 = idx at *
    have t1 := brk_step (E := E) a len modulus h8 (by omega) (by omega) m1 d (by omega) (by omega) idx (by omega) (UInt64.ofNat len)
    rw [hr0] at t1
    have z1 := step_size a len modulus (UInt64.ofNat len) d idx
    generalize Sort.breakStep a len modulus (UInt64.ofNat len, d) idx = s1 at *
    obtain ⟨r1, d1⟩ := s1
    dsimp only at t1 z1
    have t2 := brk_step (E := E) a len modulus h8 (by omega) (by omega) m1 d1 (by omega) (by omega) (idx + 1) (by omega) r1
    have z2 := step_size a len modulus r1 d1 (idx + 1)
    generalize Sort.breakStep a len modulus (r1, d1) (idx + 1) = s2 at *
    obtain ⟨r2, d2⟩ := s2
    dsimp only at t2 z2
    have t3 := brk_step (E := E) a len modulus h8 (by omega) (by omega) m1 d2 (by omega) (by omega) (idx + 2) (by omega) r2
    have z3 := step_size a len modulus r2 d2 (idx + 2)
    generalize Sort.breakStep a len modulus (r2, d2) (idx + 2) = s3 at *
    obtain ⟨r3, d3⟩ := s3
    dsimp only at t3 z3
    rw [z1] at t2
    rw [z2, z1] at t3
    rw [if_pos h8]
    have f2 : ¬ ((idx + 2 + 1 : Nat) : Int) ≤ ((a + len / 4 * 2 + 1 : Nat) : Int) := by omega
    have q5 := wAdd1 (a + len / 4 * 2) (by omega)
    have t4 : loopW E 1 [0, 1, 8, 9, 10, 11] [.loc 2 2 0] (.trim [0, 1, 8, 9, 10, 11] [] [(0, [])] [.loc 2 2 0] s266_3) (some ⟨[(0, .hsl (.ext 0) 0 d.size), (1, .p (.int .i64 a)), (8, .p (.int .i64 len)), (9, .ptr (.loc 2 2 0) 0), (10, .p (.int .u64 modulus)), (11, .p (.int .i64 (idx + 2 + 1 : Nat)))], [(.ext 0, some (.parr (d3.toList.map .str) 1 false)), (.loc 2 2 0, some (.box [.p (.int .u64 r3.toNat)]))]⟩) =
        some (.ex 0, ⟨[], [(.ext 0, some (.parr (d3.toList.map .str) 1 false)), (.loc 2 2 0, some (.box [.p (.int .u64 r3.toNat)]))]⟩) := by
      rw [loopW_some]
      generalize hK : loopW E 1 _ _ _ = K
      simp -implicitDefEqProofs only [go_sem, s266_3, s266_2, s266_1, q1, q2, q3, q5, f2]
    have t5 := t1.trans (t2.trans (t3.trans t4))
    rw [callW_eq, EnvS.h 266 F266 rfl]
    simp -implicitDefEqProofs only [go_sem, F266, s266, s266_5, s266_4, w1, f1, q0, e1, q1, q2, q3, q4, t5]
  · have f1 : ¬ (8 : Int) ≤ (len : Int) := by omega
    rw [if_neg h8]
    rw [callW_eq, EnvS.h 266 F266 rfl]
    simp -implicitDefEqProofs only [go_sem, F266, s266, w1, f1]
/-! ### The pivot -/
theorem e318 (d : Array ByteArray) (a b s : Nat) (ha : a < d.size) (hb : b < d.size) (hs : s < 1000) :
    callW E 318 [.hsl (.ext 0) 0 d.size, .p (.int .i64 a), .p (.int .i64 b), .ptr (.ext 1) 0, .fn 111 [] []] [.parr (d.toList.map .str) 1 false, .box [.p (.int .i64 s)]] =
    some ⟨.tup [.p (.int .i64 (Sort.order2 ltV d a b s).1), .p (.int .i64 (Sort.order2 ltV d a b s).2.1)], [.parr (d.toList.map .str) 1 false, .box [.p (.int .i64 (Sort.order2 ltV d a b s).2.2)]], []⟩ := by
  have g1 := ar_get ha
  have g2 := ar_get hb
  have n1 : (0 : Int) ≤ (a : Int) := by omega
  have n2 : (0 : Int) ≤ (b : Int) := by omega
  have h0 : 0 + d.size ≤ d.size := by omega
  have a0 : d.toList.length = d.size := Array.length_toList
  have e1 := e111 (E := E) d[b]! d[a]!
  have e2 := cmpV_lt d[b]! d[a]!
  have w1 := wAdd1 s (by omega)
  unfold Sort.order2
  rw [callW_eq, EnvS.h 318 F318 rfl]
  cases hl : ltV d[b]! d[a]! with
  | true =>
    rw [hl] at e2
    have e3 := of_decide_eq_true e2
    simp -implicitDefEqProofs only [go_sem, F318, s318, s318_1, g1, g2, n1, n2, ha, hb, h0, a0, e1, e3, w1]
  | false =>
    rw [hl] at e2
    have e3 := of_decide_eq_false e2
    simp -implicitDefEqProofs only [go_sem, F318, s318, s318_1, g1, g2, n1, n2, ha, hb, h0, a0, e1, e3, w1]
theorem ord_lt {d : Array ByteArray} {a b s n : Nat} (ha : a < n) (hb : b < n) : (Sort.order2 ltV d a b s).1 < n ∧ (Sort.order2 ltV d a b s).2.1 < n ∧ (Sort.order2 ltV d a b s).2.2 ≤ s + 1 := by
  unfold Sort.order2
  split
  · exact ⟨hb, ha, Nat.le_refl _⟩
  · exact ⟨ha, hb, Nat.le_succ _⟩
theorem e304 (d : Array ByteArray) (a b c s : Nat) (ha : a < d.size) (hb : b < d.size) (hc : c < d.size) (hs : s < 900) :
    callW E 304 [.hsl (.ext 0) 0 d.size, .p (.int .i64 a), .p (.int .i64 b), .p (.int .i64 c), .ptr (.ext 1) 0, .fn 111 [] []] [.parr (d.toList.map .str) 1 false, .box [.p (.int .i64 s)]] =
    some ⟨.p (.int .i64 (Sort.median ltV d a b c s).1), [.parr (d.toList.map .str) 1 false, .box [.p (.int .i64 (Sort.median ltV d a b c s).2)]], []⟩ := by
  unfold Sort.median
  dsimp only
  have e1 := e318 (E := E) d a b s ha hb (by omega)
  obtain ⟨p1, p2, p3⟩ := ord_lt (d := d) (s := s) ha hb
  generalize Sort.order2 ltV d a b s = r1 at *
  obtain ⟨a1, b1, s1⟩ := r1
  dsimp only at e1 p1 p2 p3 ⊢
  have e2 := e318 (E := E) d b1 c s1 p2 hc (by omega)
  obtain ⟨q1, q2, q3⟩ := ord_lt (d := d) (s := s1) p2 hc
  generalize Sort.order2 ltV d b1 c s1 = r2 at *
  obtain ⟨b2, c2, s2⟩ := r2
  dsimp only at e2 q1 q2 q3 ⊢
  have e3 := e318 (E := E) d a1 b2 s2 p1 q1 (by omega)
  generalize Sort.order2 ltV d a1 b2 s2 = r3 at *
  obtain ⟨a3, b3, s3⟩ := r3
  dsimp only at e3 ⊢
  rw [callW_eq, EnvS.h 304 F304 rfl]
  simp -implicitDefEqProofs only [go_sem, F304, s304, e1, e2, e3]
theorem e267 (d : Array ByteArray) (a b : Nat) (hab : a < b) (hb : b ≤ d.size) (hs : d.size < 50) :
    callW E 267 [.hsl (.ext 0) 0 d.size, .p (.int .i64 a), .p (.int .i64 b), .fn 111 [] []] [.parr (d.toList.map .str) 1 false] =
    some ⟨.tup [.p (.int .i64 (Sort.choosePivot ltV d a b).1), .p (.int .i64 (hintN (Sort.choosePivot ltV d a b).2))], [.parr (d.toList.map .str) 1 false], []⟩ := by
  have w1 := wSub b a (by omega) (by omega)
  unfold Sort.choosePivot
  dsimp only
  generalize hlen : b - a = len at *
  have q1 : IntKind.i64.wrap ((len : Int).tdiv 4) = ((len / 4 : Nat) : Int) := by
    rw [show (len : Int).tdiv 4 = ((len / 4 : Nat) : Int) from rfl, wrapN _ (by omega)]
  have q2 : IntKind.i64.wrap (((len / 4 : Nat) : Int) * 1) = ((len / 4 * 1 : Nat) : Int) := by rw [wrap64 (by omega) (by omega)]; omega
  have q3 : IntKind.i64.wrap (((len / 4 : Nat) : Int) * 2) = ((len / 4 * 2 : Nat) : Int) := by rw [wrap64 (by omega) (by omega)]; omega
  have q4 : IntKind.i64.wrap (((len / 4 : Nat) : Int) * 3) = ((len / 4 * 3 : Nat) : Int) := by rw [wrap64 (by omega) (by omega)]; omega
  have q5 := wAdd a (len / 4 * 1) (by omega)
  have q6 := wAdd a (len / 4 * 2) (by omega)
  have q7 := wAdd a (len / 4 * 3) (by omega)
  have f2 : ¬ (50 : Int) ≤ (len : Int) := by omega
  have f2' : ¬ len ≥ 50 := by omega
  by_cases h8 : len ≥ 8
  · have f1 : (8 : Int) ≤ (len : Int) := by omega
    have e1 := e304 (E := E) d (a + len / 4 * 1) (a + len / 4 * 2) (a + len / 4 * 3) 0 (by omega) (by omega) (by omega) (by omega)
    rw [if_pos h8, if_neg f2']
    generalize Sort.median ltV d (a + len / 4 * 1) (a + len / 4 * 2) (a + len / 4 * 3) 0 = m at *
    obtain ⟨m1, m2⟩ := m
    dsimp only at e1 ⊢
    simp only [Int.natCast_zero] at e1
    rw [callW_eq, EnvS.h 267 F267 rfl]
    by_cases hm0 : m2 = 0
    · subst hm0
      simp only [if_true, hintN]
      simp only [Int.natCast_zero] at e1
      simp -implicitDefEqProofs only [go_sem, F267, s267, s267_2, s267_1, s267_7, s267_3, s267_6, s267_4, s267_5, w1, q1, q2, q3, q4, q5, q6, q7, f1, f2, e1]
    · have hm0' : ¬ (m2 : Int) = 0 := by omega
      by_cases hm12 : m2 = 12
      · subst hm12
        simp only [hm0, if_false, if_true, hintN]
        simp -implicitDefEqProofs only [go_sem, F267, s267, s267_2, s267_1, s267_7, s267_3, s267_6, s267_4, s267_5, w1, q1, q2, q3, q4, q5, q6, q7, f1, f2, e1, hm0']
      · have hm12' : ¬ (m2 : Int) = 12 := by omega
        simp only [hm0, hm12, if_false, hintN]
        simp -implicitDefEqProofs only [go_sem, F267, s267, s267_2, s267_1, s267_7, s267_3, s267_6, s267_4, s267_5, w1, q1, q2, q3, q4, q5, q6, q7, f1, f2, e1, hm0', hm12']
  · have f1 : ¬ (8 : Int) ≤ (len : Int) := by omega
    rw [if_neg h8]
    simp only [if_true, hintN]
    rw [callW_eq, EnvS.h 267 F267 rfl]
    simp -implicitDefEqProofs only [go_sem, F267, s267, s267_2, s267_1, s267_7, s267_3, s267_6, s267_4, s267_5, w1, q1, q2, q3, q4, q5, q6, q7, f1]


/-! ### Scans -/
theorem scanUp_ge (p : ByteArray → Bool) (d : Array ByteArray) (j : Nat) : ∀ (n i : Nat), j + 1 - i ≤ n → i ≤ Sort.scanUp p d j i ∧ Sort.scanUp p d j i ≤ max i (j + 1) := by
  intro n
  induction n with
  | zero => intro i h; rw [Sort.scanUp, if_neg (by simp; omega)]; omega
  | succ n ih =>
    intro i h
    rw [Sort.scanUp]
    split
    · rename_i hc
      simp only [Bool.and_eq_true, decide_eq_true_eq] at hc
      have := ih (i + 1) (by omega)
      omega
    · omega
theorem scanDown_le (p : ByteArray → Bool) (d : Array ByteArray) (i : Nat) : ∀ j, Sort.scanDown p d i j ≤ j
  | 0 => Nat.le_refl 0
  | j + 1 => by
    rw [Sort.scanDown]
    split
    · exact Nat.le_succ_of_le (scanDown_le p d i j)
    · exact Nat.le_refl _
theorem up271_2 (d : Array ByteArray) (a j : Nat) (ha : a < d.size) (hj : j < d.size) (hs : d.size < 1152921504606846976) : ∀ (n i : Nat), j + 1 - i ≤ n → i < 1152921504606846977 →
    loopW E 1 [0, 1, 4, 12, 13] [] (.trim [0, 1, 4, 12, 13] [10, 11] [(0, [0, 1, 4, 12, 13])] [] s271_2) (some ⟨[(0, .hsl (.ext 0) 0 d.size), (1, .p (.int .i64 a)), (4, .fn 111 [] []), (12, .p (.int .i64 i)), (13, .p (.int .i64 j))], [(.ext 0, some (.parr (d.toList.map .str) 1 false))]⟩) = some (.ex 0, ⟨[(0, .hsl (.ext 0) 0 d.size), (1, .p (.int .i64 a)), (4, .fn 111 [] []), (12, .p (.int .i64 (Sort.scanUp (fun x => ltV x d[a]!) d j i : Nat))), (13, .p (.int .i64 j))], [(.ext 0, some (.parr (d.toList.map .str) 1 false))]⟩) := by
  generalize hK : loopW E 1 _ _ _ = K
  intro n
  induction n with
  | zero =>
    intro i hn hi
    have f1 : ¬ (i : Int) ≤ (j : Int) := by omega
    rw [Sort.scanUp, if_neg (by simp; omega)]
    rw [← hK, loopW_some, hK]
    simp -implicitDefEqProofs only [go_sem, s271_2, s271_1, f1]
  | succ n ih =>
    intro i hn hi
    by_cases h : i ≤ j
    · have f1 : (i : Int) ≤ (j : Int) := by omega
      have n1 : (0 : Int) ≤ (i : Int) := by omega
      have n2 : (0 : Int) ≤ (a : Int) := by omega
      have i1 : i < d.size := by omega
      have g1 := ar_get i1
      have g2 := ar_get ha
      have h0 : 0 + d.size ≤ d.size := by omega
      have a0 : d.toList.length = d.size := Array.length_toList
      have w1 := wAdd1 i (by omega)
      have e1 := e111 (E := E) d[i]! d[a]!
      have e2 := cmpV_lt d[i]! d[a]!
      cases hl : ltV d[i]! d[a]! with
      | true =>
        rw [hl] at e2
        have e3 := of_decide_eq_true e2
        rw [Sort.scanUp, if_pos (by simp [h, hl])]
        have ih' := ih (i + 1) (by omega) (by omega)
        rw [← hK, loopW_some, hK]
        simp -implicitDefEqProofs only [go_sem, s271_2, s271_1, f1, n1, n2, i1, ha, g1, g2, h0, a0, w1, e1, e3]
        exact ih'
      | false =>
        rw [hl] at e2
        have e3 := of_decide_eq_false e2
        rw [Sort.scanUp, if_neg (by simp [hl])]
        rw [← hK, loopW_some, hK]
        simp -implicitDefEqProofs only [go_sem, s271_2, s271_1, f1, n1, n2, i1, ha, g1, g2, h0, a0, w1, e1, e3]
    · have f1 : ¬ (i : Int) ≤ (j : Int) := by omega
      rw [Sort.scanUp, if_neg (by simp; omega)]
      rw [← hK, loopW_some, hK]
      simp -implicitDefEqProofs only [go_sem, s271_2, s271_1, f1]
theorem down271_5 (d : Array ByteArray) (a i : Nat) (ha : a < d.size) (hi1 : 1 ≤ i) (hs : d.size < 1152921504606846976) : ∀ (j : Nat), j < d.size →
    loopW E 1 [0, 1, 4, 12, 13] [] (.trim [0, 1, 4, 12, 13] [10, 11] [(2, [0, 1, 4, 12, 13])] [] s271_5) (some ⟨[(0, .hsl (.ext 0) 0 d.size), (1, .p (.int .i64 a)), (4, .fn 111 [] []), (12, .p (.int .i64 i)), (13, .p (.int .i64 j))], [(.ext 0, some (.parr (d.toList.map .str) 1 false))]⟩) = some (.ex 2, ⟨[(0, .hsl (.ext 0) 0 d.size), (1, .p (.int .i64 a)), (4, .fn 111 [] []), (12, .p (.int .i64 i)), (13, .p (.int .i64 (Sort.scanDown (fun x => !ltV x d[a]!) d i j : Nat)))], [(.ext 0, some (.parr (d.toList.map .str) 1 false))]⟩) := by
  generalize hK : loopW E 1 _ _ _ = K
  intro j
  induction j with
  | zero =>
    intro hj
    have f1 : ¬ (i : Int) ≤ 0 := by omega
    rw [Sort.scanDown]
    rw [← hK, loopW_some, hK]
    simp -implicitDefEqProofs only [go_sem, s271_5, s271_4, f1, Int.natCast_zero]
  | succ j ih =>
    intro hj
    by_cases h : i ≤ j + 1
    · have f1 : (i : Int) ≤ ((j + 1 : Nat) : Int) := by omega
      have n1 : (0 : Int) ≤ ((j + 1 : Nat) : Int) := by omega
      have n2 : (0 : Int) ≤ (a : Int) := by omega
      have g1 := ar_get hj
      have g2 := ar_get ha
      have h0 : 0 + d.size ≤ d.size := by omega
      have a0 : d.toList.length = d.size := Array.length_toList
      have w1 := wSub1 j (by omega)
      have e1 := e111 (E := E) d[j + 1]! d[a]!
      have e2 := cmpV_lt d[j + 1]! d[a]!
      cases hl : ltV d[j + 1]! d[a]! with
      | false =>
        rw [hl] at e2
        have e3 := of_decide_eq_false e2
        rw [Sort.scanDown, if_pos (by simp [h, hl])]
        have ih' := ih (by omega)
        rw [← hK, loopW_some, hK]
        simp -implicitDefEqProofs only [go_sem, s271_5, s271_4, f1, n1, n2, hj, ha, g1, g2, h0, a0, w1, e1, e3]
        exact ih'
      | true =>
        rw [hl] at e2
        have e3 := of_decide_eq_true e2
        rw [Sort.scanDown, if_neg (by simp [hl])]
        rw [← hK, loopW_some, hK]
        simp -implicitDefEqProofs only [go_sem, s271_5, s271_4, f1, n1, n2, hj, ha, g1, g2, h0, a0, w1, e1, e3]
    · have f1 : ¬ (i : Int) ≤ ((j + 1 : Nat) : Int) := by omega
      rw [Sort.scanDown, if_neg (by simp; omega)]
      rw [← hK, loopW_some, hK]
      simp -implicitDefEqProofs only [go_sem, s271_5, s271_4, f1]
theorem up271_9 (d : Array ByteArray) (a j : Nat) (ha : a < d.size) (hj : j < d.size) (hs : d.size < 1152921504606846976) : ∀ (n i : Nat), j + 1 - i ≤ n → i < 1152921504606846977 →
    loopW E 1 [0, 1, 4, 12, 13] [] (.trim [0, 1, 4, 12, 13] [10, 11] [(6, [0, 1, 4, 12, 13])] [] s271_9) (some ⟨[(0, .hsl (.ext 0) 0 d.size), (1, .p (.int .i64 a)), (4, .fn 111 [] []), (12, .p (.int .i64 i)), (13, .p (.int .i64 j))], [(.ext 0, some (.parr (d.toList.map .str) 1 false))]⟩) = some (.ex 6, ⟨[(0, .hsl (.ext 0) 0 d.size), (1, .p (.int .i64 a)), (4, .fn 111 [] []), (12, .p (.int .i64 (Sort.scanUp (fun x => ltV x d[a]!) d j i : Nat))), (13, .p (.int .i64 j))], [(.ext 0, some (.parr (d.toList.map .str) 1 false))]⟩) := by
  generalize hK : loopW E 1 _ _ _ = K
  intro n
  induction n with
  | zero =>
    intro i hn hi
    have f1 : ¬ (i : Int) ≤ (j : Int) := by omega
    rw [Sort.scanUp, if_neg (by simp; omega)]
    rw [← hK, loopW_some, hK]
    simp -implicitDefEqProofs only [go_sem, s271_9, s271_8, f1]
  | succ n ih =>
    intro i hn hi
    by_cases h : i ≤ j
    · have f1 : (i : Int) ≤ (j : Int) := by omega
      have n1 : (0 : Int) ≤ (i : Int) := by omega
      have n2 : (0 : Int) ≤ (a : Int) := by omega
      have i1 : i < d.size := by omega
      have g1 := ar_get i1
      have g2 := ar_get ha
      have h0 : 0 + d.size ≤ d.size := by omega
      have a0 : d.toList.length = d.size := Array.length_toList
      have w1 := wAdd1 i (by omega)
      have e1 := e111 (E := E) d[i]! d[a]!
      have e2 := cmpV_lt d[i]! d[a]!
      cases hl : ltV d[i]! d[a]! with
      | true =>
        rw [hl] at e2
        have e3 := of_decide_eq_true e2
        rw [Sort.scanUp, if_pos (by simp [h, hl])]
        have ih' := ih (i + 1) (by omega) (by omega)
        rw [← hK, loopW_some, hK]
        simp -implicitDefEqProofs only [go_sem, s271_9, s271_8, f1, n1, n2, i1, ha, g1, g2, h0, a0, w1, e1, e3]
        exact ih'
      | false =>
        rw [hl] at e2
        have e3 := of_decide_eq_false e2
        rw [Sort.scanUp, if_neg (by simp [hl])]
        rw [← hK, loopW_some, hK]
        simp -implicitDefEqProofs only [go_sem, s271_9, s271_8, f1, n1, n2, i1, ha, g1, g2, h0, a0, w1, e1, e3]
    · have f1 : ¬ (i : Int) ≤ (j : Int) := by omega
      rw [Sort.scanUp, if_neg (by simp; omega)]
      rw [← hK, loopW_some, hK]
      simp -implicitDefEqProofs only [go_sem, s271_9, s271_8, f1]
theorem down271_12 (d : Array ByteArray) (a i : Nat) (ha : a < d.size) (hi1 : 1 ≤ i) (hs : d.size < 1152921504606846976) : ∀ (j : Nat), j < d.size →
    loopW E 1 [0, 1, 4, 12, 13] [] (.trim [0, 1, 4, 12, 13] [10, 11] [(8, [0, 1, 4, 12, 13])] [] s271_12) (some ⟨[(0, .hsl (.ext 0) 0 d.size), (1, .p (.int .i64 a)), (4, .fn 111 [] []), (12, .p (.int .i64 i)), (13, .p (.int .i64 j))], [(.ext 0, some (.parr (d.toList.map .str) 1 false))]⟩) = some (.ex 8, ⟨[(0, .hsl (.ext 0) 0 d.size), (1, .p (.int .i64 a)), (4, .fn 111 [] []), (12, .p (.int .i64 i)), (13, .p (.int .i64 (Sort.scanDown (fun x => !ltV x d[a]!) d i j : Nat)))], [(.ext 0, some (.parr (d.toList.map .str) 1 false))]⟩) := by
  generalize hK : loopW E 1 _ _ _ = K
  intro j
  induction j with
  | zero =>
    intro hj
    have f1 : ¬ (i : Int) ≤ 0 := by omega
    rw [Sort.scanDown]
    rw [← hK, loopW_some, hK]
    simp -implicitDefEqProofs only [go_sem, s271_12, s271_11, f1, Int.natCast_zero]
  | succ j ih =>
    intro hj
    by_cases h : i ≤ j + 1
    · have f1 : (i : Int) ≤ ((j + 1 : Nat) : Int) := by omega
      have n1 : (0 : Int) ≤ ((j + 1 : Nat) : Int) := by omega
      have n2 : (0 : Int) ≤ (a : Int) := by omega
      have g1 := ar_get hj
      have g2 := ar_get ha
      have h0 : 0 + d.size ≤ d.size := by omega
      have a0 : d.toList.length = d.size := Array.length_toList
      have w1 := wSub1 j (by omega)
      have e1 := e111 (E := E) d[j + 1]! d[a]!
      have e2 := cmpV_lt d[j + 1]! d[a]!
      cases hl : ltV d[j + 1]! d[a]! with
      | false =>
        rw [hl] at e2
        have e3 := of_decide_eq_false e2
        rw [Sort.scanDown, if_pos (by simp [h, hl])]
        have ih' := ih (by omega)
        rw [← hK, loopW_some, hK]
        simp -implicitDefEqProofs only [go_sem, s271_12, s271_11, f1, n1, n2, hj, ha, g1, g2, h0, a0, w1, e1, e3]
        exact ih'
      | true =>
        rw [hl] at e2
        have e3 := of_decide_eq_true e2
        rw [Sort.scanDown, if_neg (by simp [hl])]
        rw [← hK, loopW_some, hK]
        simp -implicitDefEqProofs only [go_sem, s271_12, s271_11, f1, n1, n2, hj, ha, g1, g2, h0, a0, w1, e1, e3]
    · have f1 : ¬ (i : Int) ≤ ((j + 1 : Nat) : Int) := by omega
      rw [Sort.scanDown, if_neg (by simp; omega)]
      rw [← hK, loopW_some, hK]
      simp -implicitDefEqProofs only [go_sem, s271_12, s271_11, f1]
theorem up270_2 (d : Array ByteArray) (a j : Nat) (ha : a < d.size) (hj : j < d.size) (hs : d.size < 1152921504606846976) : ∀ (n i : Nat), j + 1 - i ≤ n → i < 1152921504606846977 →
    loopW E 1 [0, 1, 4, 11, 12] [] (.trim [0, 1, 4, 11, 12] [10] [(2, [0, 1, 4, 11, 12])] [] s270_2) (some ⟨[(0, .hsl (.ext 0) 0 d.size), (1, .p (.int .i64 a)), (4, .fn 111 [] []), (11, .p (.int .i64 i)), (12, .p (.int .i64 j))], [(.ext 0, some (.parr (d.toList.map .str) 1 false))]⟩) = some (.ex 2, ⟨[(0, .hsl (.ext 0) 0 d.size), (1, .p (.int .i64 a)), (4, .fn 111 [] []), (11, .p (.int .i64 (Sort.scanUp (fun x => !ltV d[a]! x) d j i : Nat))), (12, .p (.int .i64 j))], [(.ext 0, some (.parr (d.toList.map .str) 1 false))]⟩) := by
  generalize hK : loopW E 1 _ _ _ = K
  intro n
  induction n with
  | zero =>
    intro i hn hi
    have f1 : ¬ (i : Int) ≤ (j : Int) := by omega
    rw [Sort.scanUp, if_neg (by simp; omega)]
    rw [← hK, loopW_some, hK]
    simp -implicitDefEqProofs only [go_sem, s270_2, s270_1, f1]
  | succ n ih =>
    intro i hn hi
    by_cases h : i ≤ j
    · have f1 : (i : Int) ≤ (j : Int) := by omega
      have n1 : (0 : Int) ≤ (i : Int) := by omega
      have n2 : (0 : Int) ≤ (a : Int) := by omega
      have i1 : i < d.size := by omega
      have g1 := ar_get i1
      have g2 := ar_get ha
      have h0 : 0 + d.size ≤ d.size := by omega
      have a0 : d.toList.length = d.size := Array.length_toList
      have w1 := wAdd1 i (by omega)
      have e1 := e111 (E := E) d[a]! d[i]!
      have e2 := cmpV_lt d[a]! d[i]!
      cases hl : ltV d[a]! d[i]! with
      | false =>
        rw [hl] at e2
        have e3 := of_decide_eq_false e2
        rw [Sort.scanUp, if_pos (by simp [h, hl])]
        have ih' := ih (i + 1) (by omega) (by omega)
        rw [← hK, loopW_some, hK]
        simp -implicitDefEqProofs only [go_sem, s270_2, s270_1, f1, n1, n2, i1, ha, g1, g2, h0, a0, w1, e1, e3]
        exact ih'
      | true =>
        rw [hl] at e2
        have e3 := of_decide_eq_true e2
        rw [Sort.scanUp, if_neg (by simp [hl])]
        rw [← hK, loopW_some, hK]
        simp -implicitDefEqProofs only [go_sem, s270_2, s270_1, f1, n1, n2, i1, ha, g1, g2, h0, a0, w1, e1, e3]
    · have f1 : ¬ (i : Int) ≤ (j : Int) := by omega
      rw [Sort.scanUp, if_neg (by simp; omega)]
      rw [← hK, loopW_some, hK]
      simp -implicitDefEqProofs only [go_sem, s270_2, s270_1, f1]
theorem down270_5 (d : Array ByteArray) (a i : Nat) (ha : a < d.size) (hi1 : 1 ≤ i) (hs : d.size < 1152921504606846976) : ∀ (j : Nat), j < d.size →
    loopW E 1 [0, 1, 4, 11, 12] [] (.trim [0, 1, 4, 11, 12] [10] [(4, [0, 1, 4, 11, 12])] [] s270_5) (some ⟨[(0, .hsl (.ext 0) 0 d.size), (1, .p (.int .i64 a)), (4, .fn 111 [] []), (11, .p (.int .i64 i)), (12, .p (.int .i64 j))], [(.ext 0, some (.parr (d.toList.map .str) 1 false))]⟩) = some (.ex 4, ⟨[(0, .hsl (.ext 0) 0 d.size), (1, .p (.int .i64 a)), (4, .fn 111 [] []), (11, .p (.int .i64 i)), (12, .p (.int .i64 (Sort.scanDown (fun x => ltV d[a]! x) d i j : Nat)))], [(.ext 0, some (.parr (d.toList.map .str) 1 false))]⟩) := by
  generalize hK : loopW E 1 _ _ _ = K
  intro j
  induction j with
  | zero =>
    intro hj
    have f1 : ¬ (i : Int) ≤ 0 := by omega
    rw [Sort.scanDown]
    rw [← hK, loopW_some, hK]
    simp -implicitDefEqProofs only [go_sem, s270_5, s270_4, f1, Int.natCast_zero]
  | succ j ih =>
    intro hj
    by_cases h : i ≤ j + 1
    · have f1 : (i : Int) ≤ ((j + 1 : Nat) : Int) := by omega
      have n1 : (0 : Int) ≤ ((j + 1 : Nat) : Int) := by omega
      have n2 : (0 : Int) ≤ (a : Int) := by omega
      have g1 := ar_get hj
      have g2 := ar_get ha
      have h0 : 0 + d.size ≤ d.size := by omega
      have a0 : d.toList.length = d.size := Array.length_toList
      have w1 := wSub1 j (by omega)
      have e1 := e111 (E := E) d[a]! d[j + 1]!
      have e2 := cmpV_lt d[a]! d[j + 1]!
      cases hl : ltV d[a]! d[j + 1]! with
      | true =>
        rw [hl] at e2
        have e3 := of_decide_eq_true e2
        rw [Sort.scanDown, if_pos (by simp [h, hl])]
        have ih' := ih (by omega)
        rw [← hK, loopW_some, hK]
        simp -implicitDefEqProofs only [go_sem, s270_5, s270_4, f1, n1, n2, hj, ha, g1, g2, h0, a0, w1, e1, e3]
        exact ih'
      | false =>
        rw [hl] at e2
        have e3 := of_decide_eq_false e2
        rw [Sort.scanDown, if_neg (by simp [hl])]
        rw [← hK, loopW_some, hK]
        simp -implicitDefEqProofs only [go_sem, s270_5, s270_4, f1, n1, n2, hj, ha, g1, g2, h0, a0, w1, e1, e3]
    · have f1 : ¬ (i : Int) ≤ ((j + 1 : Nat) : Int) := by omega
      rw [Sort.scanDown, if_neg (by simp; omega)]
      rw [← hK, loopW_some, hK]
      simp -implicitDefEqProofs only [go_sem, s270_5, s270_4, f1]


/-! ### Partitions -/
theorem pl_size (a : Nat) : ∀ (n i j : Nat) (d : Array ByteArray), j + 1 - i ≤ n → (Sort.partLoop ltV a i j d).2.size = d.size ∧ (Sort.partLoop ltV a i j d).1 ≤ j := by
  intro n
  induction n with
  | zero =>
    intro i j d h
    rw [Sort.partLoop]
    have h1 := scanUp_ge (fun x => ltV x d[a]!) d j _ i (Nat.le_refl _)
    have h2 := scanDown_le (fun x => !ltV x d[a]!) d (Sort.scanUp (fun x => ltV x d[a]!) d j i) j
    rw [if_pos (by omega)]
    exact ⟨rfl, h2⟩
  | succ n ih =>
    intro i j d h
    rw [Sort.partLoop]
    have h1 := scanUp_ge (fun x => ltV x d[a]!) d j _ i (Nat.le_refl _)
    have h2 := scanDown_le (fun x => !ltV x d[a]!) d (Sort.scanUp (fun x => ltV x d[a]!) d j i) j
    split
    · exact ⟨rfl, h2⟩
    · split
      · obtain ⟨q1, q2⟩ := ih (Sort.scanUp (fun x => ltV x d[a]!) d j i + 1) (Sort.scanDown (fun x => !ltV x d[a]!) d (Sort.scanUp (fun x => ltV x d[a]!) d j i) j - 1) (Sort.swp d (Sort.scanUp (fun x => ltV x d[a]!) d j i) (Sort.scanDown (fun x => !ltV x d[a]!) d (Sort.scanUp (fun x => ltV x d[a]!) d j i) j)) (by omega)
        rw [swp_size] at q1
        exact ⟨q1, by omega⟩
      · exact ⟨rfl, h2⟩
theorem loop271 (a : Nat) : ∀ (n i j : Nat) (d : Array ByteArray), j + 1 - i ≤ n → a < d.size → j < d.size → 1 ≤ i → d.size < 1152921504606846976 → i < 1152921504606846976 →
    ∃ jj : Nat, jj = (Sort.partLoop ltV a i j d).1 ∧ loopW E 1 [0, 1, 4, 12, 13] [] (.trim [0, 1, 4, 12, 13] [10, 11] [(4, [0, 1, 13])] [] s271_15) (some ⟨[(0, .hsl (.ext 0) 0 d.size), (1, .p (.int .i64 a)), (4, .fn 111 [] []), (12, .p (.int .i64 i)), (13, .p (.int .i64 j))], [(.ext 0, some (.parr (d.toList.map .str) 1 false))]⟩) =
    some (.ex 4, ⟨[(0, .hsl (.ext 0) 0 d.size), (1, .p (.int .i64 a)), (13, .p (.int .i64 jj))], [(.ext 0, some (.parr ((Sort.partLoop ltV a i j d).2.toList.map .str) 1 false))]⟩) := by
  generalize hK : loopW E 1 _ _ _ = K
  intro n
  induction n with
  | zero =>
    intro i j d hn ha hj hi hs hi2
    refine ⟨_, rfl, ?_⟩
    have lp1 := up271_9 (E := E) d a j ha hj hs _ i (Nat.le_refl _) (by omega)
    have h1 := scanUp_ge (fun x => ltV x d[a]!) d j _ i (Nat.le_refl _)
    have lp2 := down271_12 (E := E) d a (Sort.scanUp (fun x => ltV x d[a]!) d j i) ha (by omega) hs j hj
    have h2 := scanDown_le (fun x => !ltV x d[a]!) d (Sort.scanUp (fun x => ltV x d[a]!) d j i) j
    rw [Sort.partLoop]
    generalize Sort.scanUp (fun x => ltV x d[a]!) d j i = i2 at *
    generalize Sort.scanDown (fun x => !ltV x d[a]!) d i2 j = j2 at *
    have f1 : (j2 : Int) < (i2 : Int) := by omega
    rw [if_pos (by omega)]
    rw [← hK, loopW_some, hK]
    simp -implicitDefEqProofs only [go_sem, s271_15, s271_14, s271_10, s271_13, lp1, lp2, f1]
  | succ n ih =>
    intro i j d hn ha hj hi hs hi2
    have lp1 := up271_9 (E := E) d a j ha hj hs _ i (Nat.le_refl _) (by omega)
    have h1 := scanUp_ge (fun x => ltV x d[a]!) d j _ i (Nat.le_refl _)
    have lp2 := down271_12 (E := E) d a (Sort.scanUp (fun x => ltV x d[a]!) d j i) ha (by omega) hs j hj
    have h2 := scanDown_le (fun x => !ltV x d[a]!) d (Sort.scanUp (fun x => ltV x d[a]!) d j i) j
    rw [Sort.partLoop]
    generalize Sort.scanUp (fun x => ltV x d[a]!) d j i = i2 at *
    generalize Sort.scanDown (fun x => !ltV x d[a]!) d i2 j = j2 at *
    by_cases h : i2 > j2
    · refine ⟨_, rfl, ?_⟩
      have f1 : (j2 : Int) < (i2 : Int) := by omega
      rw [if_pos h]
      rw [← hK, loopW_some, hK]
      simp -implicitDefEqProofs only [go_sem, s271_15, s271_14, s271_10, s271_13, lp1, lp2, f1]
    · have f1 : ¬ (j2 : Int) < (i2 : Int) := by omega
      rw [if_neg h, dif_pos (by omega)]
      obtain ⟨jj, r1, r2⟩ := ih (i2 + 1) (j2 - 1) (Sort.swp d i2 j2) (by omega) (by rw [swp_size]; exact ha) (by rw [swp_size]; omega) (by omega) (by rw [swp_size]; exact hs) (by omega)
      refine ⟨jj, r1, ?_⟩
      rw [swp_size, swp_map] at r2
      have n1 : (0 : Int) ≤ (i2 : Int) := by omega
      have n2 : (0 : Int) ≤ (j2 : Int) := by omega
      have i1 : i2 < d.size := by omega
      have j1 : j2 < d.size := by omega
      have g1 := ar_get i1
      have g2 := ar_get j1
      have h0 : 0 + d.size ≤ d.size := by omega
      have a0 : d.toList.length = d.size := Array.length_toList
      have w1 := wAdd1 i2 (by omega)
      have w2 : IntKind.i64.wrap ((j2 : Int) - 1) = ((j2 - 1 : Nat) : Int) := wSub j2 1 (by omega) (by omega)
      obtain ⟨y, hy⟩ := set_get .str d i2 j2 d[j2]! j1
      rw [← hK, loopW_some, hK]
      simp -implicitDefEqProofs only [go_sem, s271_15, s271_14, s271_10, s271_13, lp1, lp2, f1, n1, n2, i1, j1, g1, g2, h0, a0, w1, w2, hy, setE, List.length_map, List.length_set]
      exact r2
theorem e271 (d : Array ByteArray) (a b p : Nat) (hab : a + 1 < b) (hb : b ≤ d.size) (hp : p < d.size) (hs : d.size < 1152921504606846976) :
    callW E 271 [.hsl (.ext 0) 0 d.size, .p (.int .i64 a), .p (.int .i64 b), .p (.int .i64 p), .fn 111 [] []] [.parr (d.toList.map .str) 1 false] =
    some ⟨.tup [.p (.int .i64 (Sort.partition ltV d a b p).1), .p (.bool (Sort.partition ltV d a b p).2.1)], [.parr ((Sort.partition ltV d a b p).2.2.toList.map .str) 1 false], []⟩ := by
  have ha : a < d.size := by omega
  have n1 : (0 : Int) ≤ (a : Int) := by omega
  have n2 : (0 : Int) ≤ (p : Int) := by omega
  have g1 := ar_get ha
  have g2 := ar_get hp
  have h0 : 0 + d.size ≤ d.size := by omega
  have a0 : d.toList.length = d.size := Array.length_toList
  have w1 := wAdd1 a (by omega)
  have w2 : IntKind.i64.wrap ((b : Int) - 1) = ((b - 1 : Nat) : Int) := wSub b 1 (by omega) (by omega)
  obtain ⟨y, hy⟩ := set_get .str d a p d[p]! hp
  have z := swp_size d a p
  unfold Sort.partition
  dsimp only
  have hm := swp_map .str d a p
  have sw : callW E 271 [.hsl (.ext 0) 0 d.size, .p (.int .i64 a), .p (.int .i64 b), .p (.int .i64 p), .fn 111 [] []] [.parr (d.toList.map .str) 1 false] = callW E 271 [.hsl (.ext 0) 0 d.size, .p (.int .i64 a), .p (.int .i64 b), .p (.int .i64 p), .fn 111 [] []] [.parr (d.toList.map .str) 1 false] := rfl
  generalize hd1 : Sort.swp d a p = d1 at *
  have lp1 := up271_2 (E := E) d1 a (b - 1) (by omega) (by omega) (by omega) _ (a + 1) (Nat.le_refl _) (by omega)
  have h1 := scanUp_ge (fun x => ltV x d1[a]!) d1 (b - 1) _ (a + 1) (Nat.le_refl _)
  have lp2 := down271_5 (E := E) d1 a (Sort.scanUp (fun x => ltV x d1[a]!) d1 (b - 1) (a + 1)) (by omega) (by omega) (by omega) (b - 1) (by omega)
  have h2 := scanDown_le (fun x => !ltV x d1[a]!) d1 (Sort.scanUp (fun x => ltV x d1[a]!) d1 (b - 1) (a + 1)) (b - 1)
  generalize Sort.scanUp (fun x => ltV x d1[a]!) d1 (b - 1) (a + 1) = i2 at *
  generalize Sort.scanDown (fun x => !ltV x d1[a]!) d1 i2 (b - 1) = j2 at *
  rw [z] at lp1 lp2
  rw [hm] at lp1 lp2
  have j1 : j2 < d1.size := by omega
  have a1 : a < d1.size := by omega
  have gj := ar_get j1
  have ga := ar_get a1
  have gj' : (((d.toList.map .str).set a (.str d[p]!)).set p (.str d[a]!))[j2]? = some (PV.str d1[j2]!) := by rw [← hm, List.getElem?_map, gj]; rfl
  have ga' : (((d.toList.map .str).set a (.str d[p]!)).set p (.str d[a]!))[a]? = some (PV.str d1[a]!) := by rw [← hm, List.getElem?_map, ga]; rfl
  have nj : (0 : Int) ≤ (j2 : Int) := by omega
  have j1' : j2 < d.size := by omega
  by_cases h : i2 > j2
  · have f1 : (j2 : Int) < (i2 : Int) := by omega
    rw [if_pos h]
    dsimp only
    obtain ⟨y2, hy2⟩ := set_get .str d1 j2 a d1[a]! a1
    rw [swp_map, hm]
    rw [hm] at hy2
    rw [callW_eq, EnvS.h 271 F271 rfl]
    simp -implicitDefEqProofs only [go_sem, F271, s271, s271_3, s271_6, s271_7, n1, n2, ha, hp, g1, g2, h0, a0, w1, w2, hy, setE, List.length_map, List.length_set, lp1, lp2, f1, gj', ga', nj, j1', hy2]
  · have f1 : ¬ (j2 : Int) < (i2 : Int) := by omega
    rw [if_neg h]
    dsimp only
    have i1 : i2 < d1.size := by omega
    have i1' : i2 < d.size := by omega
    have gi := ar_get i1
    have gi' : (((d.toList.map .str).set a (.str d[p]!)).set p (.str d[a]!))[i2]? = some (PV.str d1[i2]!) := by rw [← hm, List.getElem?_map, gi]; rfl
    have ni : (0 : Int) ≤ (i2 : Int) := by omega
    obtain ⟨y2, hy2⟩ := set_get .str d1 i2 j2 d1[j2]! j1
    rw [hm] at hy2
    have w3 := wAdd1 i2 (by omega)
    have w4 : IntKind.i64.wrap ((j2 : Int) - 1) = ((j2 - 1 : Nat) : Int) := wSub j2 1 (by omega) (by omega)
    have z2 := swp_size d1 i2 j2
    have hm2 := swp_map .str d1 i2 j2
    rw [hm] at hm2
    generalize hd2 : Sort.swp d1 i2 j2 = d2 at *
    obtain ⟨jj, r1, lp3⟩ := loop271 (E := E) a _ (i2 + 1) (j2 - 1) d2 (Nat.le_refl _) (by omega) (by omega) (by omega) (by omega) (by omega)
    obtain ⟨z3, q3⟩ := pl_size a _ (i2 + 1) (j2 - 1) d2 (Nat.le_refl _)
    rw [z2, z, hm2] at lp3
    rw [← r1] at q3 ⊢
    generalize Sort.partLoop ltV a (i2 + 1) (j2 - 1) d2 = pl at *
    obtain ⟨j3, d3⟩ := pl
    dsimp only at r1 lp3 z3 ⊢
    have k1 : jj < d3.size := by omega
    have k1' : jj < d.size := by omega
    have k2 : a < d3.size := by omega
    have gk := ar_get k1
    have gl := ar_get k2
    have nk : (0 : Int) ≤ (jj : Int) := by omega
    have a3 : d3.toList.length = d.size := by rw [Array.length_toList]; omega
    obtain ⟨y3, hy3⟩ := set_get .str d3 jj a d3[a]! k2
    rw [swp_map]
    rw [callW_eq, EnvS.h 271 F271 rfl]
    simp -implicitDefEqProofs only [go_sem, F271, s271, s271_3, s271_6, s271_7, s271_16, n1, n2, ha, hp, g1, g2, h0, a0, w1, w2, hy, setE, List.length_map, List.length_set, lp1, lp2, f1, gj', gi', nj, ni, j1', i1', hy2, w3, w4, lp3, gk, gl, nk, k1', a3, hy3]


/-! ### The other partition -/
theorem loop270 (a : Nat) : ∀ (n i j : Nat) (d : Array ByteArray), j + 1 - i ≤ n → a < d.size → j < d.size → 1 ≤ i → d.size < 1152921504606846976 → i < 1152921504606846976 →
    loopW E 1 [0, 1, 4, 11, 12] [] (.trim [0, 1, 4, 11, 12] [10] [(0, [11])] [] s270_8) (some ⟨[(0, .hsl (.ext 0) 0 d.size), (1, .p (.int .i64 a)), (4, .fn 111 [] []), (11, .p (.int .i64 i)), (12, .p (.int .i64 j))], [(.ext 0, some (.parr (d.toList.map .str) 1 false))]⟩) =
    some (.ex 0, ⟨[(11, .p (.int .i64 (Sort.partEqLoop ltV a i j d).1))], [(.ext 0, some (.parr ((Sort.partEqLoop ltV a i j d).2.toList.map .str) 1 false))]⟩) := by
  generalize hK : loopW E 1 _ _ _ = K
  intro n
  induction n with
  | zero =>
    intro i j d hn ha hj hi hs hi2
    have lp1 := up270_2 (E := E) d a j ha hj hs _ i (Nat.le_refl _) (by omega)
    have h1 := scanUp_ge (fun x => !ltV d[a]! x) d j _ i (Nat.le_refl _)
    have lp2 := down270_5 (E := E) d a (Sort.scanUp (fun x => !ltV d[a]! x) d j i) ha (by omega) hs j hj
    have h2 := scanDown_le (fun x => ltV d[a]! x) d (Sort.scanUp (fun x => !ltV d[a]! x) d j i) j
    rw [Sort.partEqLoop]
    generalize Sort.scanUp (fun x => !ltV d[a]! x) d j i = i2 at *
    generalize Sort.scanDown (fun x => ltV d[a]! x) d i2 j = j2 at *
    have f1 : (j2 : Int) < (i2 : Int) := by omega
    rw [if_pos (by omega)]
    rw [← hK, loopW_some, hK]
    simp -implicitDefEqProofs only [go_sem, s270_8, s270_7, s270_3, s270_6, lp1, lp2, f1]
  | succ n ih =>
    intro i j d hn ha hj hi hs hi2
    have lp1 := up270_2 (E := E) d a j ha hj hs _ i (Nat.le_refl _) (by omega)
    have h1 := scanUp_ge (fun x => !ltV d[a]! x) d j _ i (Nat.le_refl _)
    have lp2 := down270_5 (E := E) d a (Sort.scanUp (fun x => !ltV d[a]! x) d j i) ha (by omega) hs j hj
    have h2 := scanDown_le (fun x => ltV d[a]! x) d (Sort.scanUp (fun x => !ltV d[a]! x) d j i) j
    rw [Sort.partEqLoop]
    generalize Sort.scanUp (fun x => !ltV d[a]! x) d j i = i2 at *
    generalize Sort.scanDown (fun x => ltV d[a]! x) d i2 j = j2 at *
    by_cases h : i2 > j2
    · have f1 : (j2 : Int) < (i2 : Int) := by omega
      rw [if_pos h]
      rw [← hK, loopW_some, hK]
      simp -implicitDefEqProofs only [go_sem, s270_8, s270_7, s270_3, s270_6, lp1, lp2, f1]
    · have f1 : ¬ (j2 : Int) < (i2 : Int) := by omega
      rw [if_neg h, dif_pos (by omega)]
      have r2 := ih (i2 + 1) (j2 - 1) (Sort.swp d i2 j2) (by omega) (by rw [swp_size]; exact ha) (by rw [swp_size]; omega) (by omega) (by rw [swp_size]; exact hs) (by omega)
      rw [swp_size, swp_map] at r2
      have n1 : (0 : Int) ≤ (i2 : Int) := by omega
      have n2 : (0 : Int) ≤ (j2 : Int) := by omega
      have i1 : i2 < d.size := by omega
      have j1 : j2 < d.size := by omega
      have g1 := ar_get i1
      have g2 := ar_get j1
      have h0 : 0 + d.size ≤ d.size := by omega
      have a0 : d.toList.length = d.size := Array.length_toList
      have w1 := wAdd1 i2 (by omega)
      have w2 : IntKind.i64.wrap ((j2 : Int) - 1) = ((j2 - 1 : Nat) : Int) := wSub j2 1 (by omega) (by omega)
      obtain ⟨y, hy⟩ := set_get .str d i2 j2 d[j2]! j1
      rw [← hK, loopW_some, hK]
      simp -implicitDefEqProofs only [go_sem, s270_8, s270_7, s270_3, s270_6, lp1, lp2, f1, n1, n2, i1, j1, g1, g2, h0, a0, w1, w2, hy, setE, List.length_map, List.length_set]
      exact r2
theorem e270 (d : Array ByteArray) (a b p : Nat) (hab : a + 1 < b) (hb : b ≤ d.size) (hp : p < d.size) (hs : d.size < 1152921504606846976) :
    callW E 270 [.hsl (.ext 0) 0 d.size, .p (.int .i64 a), .p (.int .i64 b), .p (.int .i64 p), .fn 111 [] []] [.parr (d.toList.map .str) 1 false] =
    some ⟨.p (.int .i64 (Sort.partitionEqual ltV d a b p).1), [.parr ((Sort.partitionEqual ltV d a b p).2.toList.map .str) 1 false], []⟩ := by
  have ha : a < d.size := by omega
  have n1 : (0 : Int) ≤ (a : Int) := by omega
  have n2 : (0 : Int) ≤ (p : Int) := by omega
  have g1 := ar_get ha
  have g2 := ar_get hp
  have h0 : 0 + d.size ≤ d.size := by omega
  have a0 : d.toList.length = d.size := Array.length_toList
  have w1 := wAdd1 a (by omega)
  have w2 : IntKind.i64.wrap ((b : Int) - 1) = ((b - 1 : Nat) : Int) := wSub b 1 (by omega) (by omega)
  obtain ⟨y, hy⟩ := set_get .str d a p d[p]! hp
  have z := swp_size d a p
  unfold Sort.partitionEqual
  have lp := loop270 (E := E) a _ (a + 1) (b - 1) (Sort.swp d a p) (Nat.le_refl _) (by omega) (by omega) (by omega) (by omega) (by omega)
  rw [swp_size, swp_map] at lp
  rw [callW_eq, EnvS.h 270 F270 rfl]
  simp -implicitDefEqProofs only [go_sem, F270, s270, s270_9, n1, n2, ha, hp, g1, g2, h0, a0, w1, w2, hy, setE, List.length_map, List.length_set, lp]

/-! ### What may be in order already -/
theorem loop269i (a b : Nat) (j : Int) (d : Array ByteArray) (hb : b ≤ d.size) (hs : d.size < 1152921504606846976) : ∀ (n i : Nat), b - i ≤ n → 1 ≤ i → i < 1152921504606846977 →
    loopW E 1 [0, 1, 2, 3, 9, 10] [] (.trim [0, 1, 2, 3, 9, 10] [8] [(2, [0, 1, 2, 3, 9, 10])] [] s269_2) (some ⟨[(0, .hsl (.ext 0) 0 d.size), (1, .p (.int .i64 a)), (2, .p (.int .i64 b)), (3, .fn 111 [] []), (9, .p (.int .i64 i)), (10, .p (.int .i64 j))], [(.ext 0, some (.parr (d.toList.map .str) 1 false))]⟩) =
    some (.ex 2, ⟨[(0, .hsl (.ext 0) 0 d.size), (1, .p (.int .i64 a)), (2, .p (.int .i64 b)), (3, .fn 111 [] []), (9, .p (.int .i64 (Sort.scanSorted ltV d b i : Nat))), (10, .p (.int .i64 j))], [(.ext 0, some (.parr (d.toList.map .str) 1 false))]⟩) := by
  generalize hK : loopW E 1 _ _ _ = K
  intro n
  induction n with
  | zero =>
    intro i hn h1 hi
    have f1 : ¬ (i : Int) < (b : Int) := by omega
    rw [Sort.scanSorted, if_neg (by simp; omega)]
    rw [← hK, loopW_some, hK]
    simp -implicitDefEqProofs only [go_sem, s269_2, s269_1, f1]
  | succ n ih =>
    intro i hn h1 hi
    by_cases h : i < b
    · have f1 : (i : Int) < (b : Int) := by omega
      have n1 : (0 : Int) ≤ (i : Int) := by omega
      have n2 : (0 : Int) ≤ ((i - 1 : Nat) : Int) := by omega
      have i1 : i < d.size := by omega
      have i2 : i - 1 < d.size := by omega
      have g1 := ar_get i1
      have g2 := ar_get i2
      have h0 : 0 + d.size ≤ d.size := by omega
      have a0 : d.toList.length = d.size := Array.length_toList
      have w1 := wAdd1 i (by omega)
      have w2 : IntKind.i64.wrap ((i : Int) - 1) = ((i - 1 : Nat) : Int) := wSub i 1 (by omega) (by omega)
      have e1 := e111 (E := E) d[i]! d[i - 1]!
      have e2 := cmpV_lt d[i]! d[i - 1]!
      cases hl : ltV d[i]! d[i - 1]! with
      | false =>
        rw [hl] at e2
        have e3 := of_decide_eq_false e2
        rw [Sort.scanSorted, if_pos (by simp [h, hl])]
        have ih' := ih (i + 1) (by omega) (by omega) (by omega)
        rw [← hK, loopW_some, hK]
        simp -implicitDefEqProofs only [go_sem, s269_2, s269_1, f1, n1, n2, i1, i2, g1, g2, h0, a0, w1, w2, e1, e3]
        exact ih'
      | true =>
        rw [hl] at e2
        have e3 := of_decide_eq_true e2
        rw [Sort.scanSorted, if_neg (by simp [hl])]
        rw [← hK, loopW_some, hK]
        simp -implicitDefEqProofs only [go_sem, s269_2, s269_1, f1, n1, n2, i1, i2, g1, g2, h0, a0, w1, w2, e1, e3]
    · have f1 : ¬ (i : Int) < (b : Int) := by omega
      rw [Sort.scanSorted, if_neg (by simp; omega)]
      rw [← hK, loopW_some, hK]
      simp -implicitDefEqProofs only [go_sem, s269_2, s269_1, f1]
theorem pi_eq (d : Array ByteArray) (a b : Nat) (h : b - a < 50) : Sort.partialInsertionSort ltV d a b = (d, decide (Sort.scanSorted ltV d b (a + 1) = b)) := by
  rw [Sort.partialInsertionSort, Sort.partialIns]
  dsimp only
  by_cases h1 : Sort.scanSorted ltV d b (a + 1) = b
  · rw [if_pos h1]; simp [h1]
  · rw [if_neg h1, if_pos h]; simp [h1]
theorem e269 (d : Array ByteArray) (a b : Nat) (hab : a < b) (hb : b ≤ d.size) (hs : d.size < 50) :
    callW E 269 [.hsl (.ext 0) 0 d.size, .p (.int .i64 a), .p (.int .i64 b), .fn 111 [] []] [.parr (d.toList.map .str) 1 false] =
    some ⟨.p (.bool (Sort.partialInsertionSort ltV d a b).2), [.parr (d.toList.map .str) 1 false], []⟩ := by
  rw [pi_eq _ _ _ (by omega)]
  dsimp only
  have w1 := wAdd1 a (by omega)
  have w2 := wSub b a (by omega) (by omega)
  have f1 : ((b - a : Nat) : Int) < 50 := by omega
  have lp := loop269i (E := E) a b 0 d hb (by omega) _ (a + 1) (Nat.le_refl _) (by omega) (by omega)
  generalize Sort.scanSorted ltV d b (a + 1) = i2 at *
  rw [callW_eq, EnvS.h 269 F269 rfl]
  by_cases h : i2 = b
  · subst h
    have f2 : decide (i2 = i2) = true := by simp
    rw [f2]
    simp -implicitDefEqProofs only [go_sem, F269, s269, s269_16, s269_15, s269_14, s269_3, s269_4, s269_5, s269_9, s269_8, s269_13, s269_12, loopW_some, w1, w2, lp]
  · have f2 : decide (i2 = b) = false := by simp [h]
    have f3 : ¬ (i2 : Int) = (b : Int) := by omega
    rw [f2]
    simp -implicitDefEqProofs only [go_sem, F269, s269, s269_16, s269_15, s269_14, s269_3, s269_4, s269_5, s269_9, s269_8, s269_13, s269_12, loopW_some, w1, w2, f1, f3, lp]


/-! ### The sort -/
theorem cmpV_less (x y : ByteArray) : ltV x y = lessV x y := by
  unfold ltV lessV cmpV or2 cmpI cmpS
  by_cases h : x.size = y.size
  · simp only [h, if_true]
    by_cases h2 : Op.bytesLess x.toList y.toList = true
    · simp [h2]
    · by_cases h3 : x = y
      · subst h3; simp [bl_irrefl]
      · simp [h2, h3]
  · by_cases h1 : x.size < y.size
    · have : (x.size : Int) < y.size := by omega
      simp [h, h1, this]
    · have h2 : (y.size : Int) < x.size := by omega
      have h3 : ¬ (x.size : Int) < y.size := by omega
      simp [h, h1, h2, h3]
theorem swo_ltV : Sort.SWO ltV where
  irrefl x := by rw [cmpV_less]; exact lv_irrefl x
  trans x y z h1 h2 := by rw [cmpV_less] at *; exact lv_trans h1 h2
  ntrans x y z h1 h2 := by
    rw [cmpV_less] at *
    cases h : lessV x z with
    | false => rfl
    | true =>
      exfalso
      cases h3 : lessV z y with
      | true => rw [lv_trans h h3] at h1; cases h1
      | false =>
        have : y = z := lv_total h2 h3
        subst this
        rw [h1] at h; cases h
section
variable {a b : Nat} {d d' : Array ByteArray}
theorem below_perm (hb : b ≤ d.size) (h : Sort.PermIn a b d d') (hB : Sort.Below ltV a b d) : Sort.Below ltV a b d' := by
  rcases hB with h0 | hB
  · exact .inl h0
  · rcases Nat.eq_zero_or_pos a with h0 | ha
    · exact .inl h0
    right
    intro i h1 h2
    rw [h.2.1 (a - 1) (.inl (by omega))]
    exact Go.Sort.permIn_all d d' a b (fun x => ltV x d[a - 1]! = false) hb h hB i h1 h2
theorem below_eq (ha : ∀ i, a ≤ i + 1 → i < b → d'[i]! = d[i]!) (hB : Sort.Below ltV a b d) : Sort.Below ltV a b d' := by
  rcases hB with h0 | hB
  · exact .inl h0
  · rcases Nat.eq_zero_or_pos a with h0 | ha0
    · exact .inl h0
    right
    intro i h1 h2
    rw [ha i (by omega) h2, ha (a - 1) (by omega) (by omega)]
    exact hB i h1 h2
theorem below_less {c : Nat} (hc : c ≤ b) (hB : Sort.Below ltV a b d) : Sort.Below ltV a c d := by
  rcases hB with h0 | hB
  · exact .inl h0
  · exact .inr fun i h1 h2 => hB i h1 (by omega)
end
/-- What a call of it does, for ranges of so many. -/
def SortCall (E : Env) (N n : Nat) : Prop := ∀ (d : Array ByteArray) (a b limit : Nat), d.size = N → a ≤ b → b - a ≤ n → b ≤ N → N < 50 → limit < 1000 → Sort.Below ltV a b d →
  callW E 229 [.hsl (.ext 0) 0 N, .p (.int .i64 a), .p (.int .i64 b), .p (.int .i64 limit), .fn 111 [] []] [.parr (d.toList.map .str) 1 false] = some ⟨.tup [], [.parr ((Sort.pdq ltV d a b limit true true).toList.map .str) 1 false], []⟩
def p231b : SCode := (.seq (.reg 20 [{ dst := some 106, op := .mv (.t 0) }, { dst := some 107, op := .mv (.t 1) }, { dst := some 108, op := .mv (.t 2) }, { dst := some 109, op := .mv (.t 13) }, { dst := some 110, op := .mv (.t 4) }, { dst := some 111, op := .call (.f 271) [.t 106, .t 107, .t 108, .t 109, .t 110] }, { dst := some 105, op := .mv (.t 111) }, { dst := some 112, op := .ext (.t 105) 0 }, { dst := some 113, op := .ext (.t 105) 1 }, { dst := some 16, op := .mv (.t 112) }, { dst := some 17, op := .mv (.t 113) }]) (.seq (.reg 21 [{ dst := some 114, op := .mv (.t 17) }, { dst := some 11, op := .mv (.t 114) }]) (.seq (.reg 22 [{ dst := some 115, op := .mv (.t 16) }, { dst := some 116, op := .mv (.t 1) }, { dst := some 117, op := .bin .sub (.t 115) (.t 116) }, { dst := some 118, op := .mv (.t 2) }, { dst := some 119, op := .mv (.t 16) }, { dst := some 120, op := .bin .sub (.t 118) (.t 119) }, { dst := some 18, op := .mv (.t 117) }, { dst := some 19, op := .mv (.t 120) }]) (.seq (.reg 23 [{ dst := some 121, op := .mv (.t 12) }, { dst := some 122, op := .bin .quo (.t 121) (.c (.int .i64 (8))) }, { dst := some 20, op := .mv (.t 122) }]) (.seq (.reg 24 [{ dst := some 123, op := .mv (.t 18) }, { dst := some 124, op := .mv (.t 19) }, { dst := some 125, op := .bin .lss (.t 123) (.t 124) }]) (.trim [0, 1, 2, 3, 4, 10, 11] [] [] [] (.cond (.t 125) s229_7 s229_8)))))))
def p231 : SCode := (.seq (.seq (.draw 17 [{ dst := some 81, op := .mv (.t 1) }, { dst := some 82, op := .bin .gtr (.t 81) (.c (.int .i64 (0))) }, { dst := some 83, op := .mv (.t 82) }, { dst := some 84, op := .mv (.t 4), guard := some (83, true) }, { dst := some 85, op := .mv (.t 0), guard := some (83, true) }, { dst := some 86, op := .mv (.t 1), guard := some (83, true) }, { dst := some 87, op := .bin .sub (.t 86) (.c (.int .i64 (1))), guard := some (83, true) }, { dst := some 88, op := .iaddr 1 (.t 85) (.t 87), guard := some (83, true) }, { dst := some 89, op := .load false 1 (.t 88), guard := some (83, true) }, { dst := some 90, op := .mv (.t 0), guard := some (83, true) }, { dst := some 91, op := .mv (.t 13), guard := some (83, true) }, { dst := some 92, op := .iaddr 1 (.t 90) (.t 91), guard := some (83, true) }, { dst := some 93, op := .load false 1 (.t 92), guard := some (83, true) }, { dst := some 94, op := .call (.t 84) [.t 89, .t 93], guard := some (83, true) }, { dst := some 95, op := .bin .lss (.t 94) (.c (.int .i64 (0))), guard := some (83, true) }, { dst := some 96, op := .un .not (.t 95), guard := some (83, true) }, { dst := some 97, op := .pick (.t 83) (.t 96) (.c (.bool false)) }] [(7, 11), (8, 11), (7, 12), (8, 12)]) (.trim [0, 1, 2, 3, 4, 12, 13] [] [(1, [0, 1, 2, 3, 4, 10, 11])] [] (.cond (.t 97) s229_6 .skip))) p231b)
def p231a : SCode := (.seq (.seq (.reg 15 [{ dst := some 68, op := .mv (.t 10) }, { dst := some 69, op := .mv (.t 68) }, { dst := some 70, op := .mv (.t 11), guard := some (69, true) }, { dst := some 71, op := .pick (.t 69) (.t 70) (.c (.bool false)) }, { dst := some 72, op := .mv (.t 71) }, { dst := some 73, op := .mv (.t 14), guard := some (72, true) }, { dst := some 74, op := .bin .eql (.t 73) (.c (.int .i64 (1))), guard := some (72, true) }, { dst := some 75, op := .pick (.t 72) (.t 74) (.c (.bool false)) }]) (.trim [0, 1, 2, 3, 4, 10, 11, 12, 13] [] [] [] (.cond (.t 75) s229_5 .skip))) p231)
theorem e229_9 : s229_9 = (.seq (.reg 2 [{ dst := some 21, op := .mv (.t 2) }, { dst := some 22, op := .mv (.t 1) }, { dst := some 23, op := .bin .sub (.t 21) (.t 22) }, { dst := some 12, op := .mv (.t 23) }]) (.seq (.seq (.reg 3 [{ dst := some 24, op := .mv (.t 12) }, { dst := some 25, op := .bin .leq (.t 24) (.c (.int .i64 (12))) }]) (.trim [0, 1, 2, 3, 4, 10, 11, 12] [] [] [] (.cond (.t 25) s229_1 .skip))) (.seq (.seq (.reg 5 [{ dst := some 31, op := .mv (.t 3) }, { dst := some 32, op := .bin .eql (.t 31) (.c (.int .i64 (0))) }]) (.trim [0, 1, 2, 3, 4, 10, 11, 12] [] [] [] (.cond (.t 32) s229_2 .skip))) (.seq (.seq (.reg 7 [{ dst := some 38, op := .mv (.t 10) }, { dst := some 39, op := .un .not (.t 38) }]) (.trim [0, 1, 2, 3, 4, 10, 11, 12] [] [] [] (.cond (.t 39) s229_3 .skip))) (.seq (.reg 10 [{ dst := some 48, op := .mv (.t 0) }, { dst := some 49, op := .mv (.t 1) }, { dst := some 50, op := .mv (.t 2) }, { dst := some 51, op := .mv (.t 4) }, { dst := some 52, op := .call (.f 267) [.t 48, .t 49, .t 50, .t 51] }, { dst := some 47, op := .mv (.t 52) }, { dst := some 53, op := .ext (.t 47) 0 }, { dst := some 54, op := .ext (.t 47) 1 }, { dst := some 13, op := .mv (.t 53) }, { dst := some 14, op := .mv (.t 54) }]) (.seq (.seq (.reg 11 [{ dst := some 55, op := .mv (.t 14) }, { dst := some 56, op := .bin .eql (.t 55) (.c (.int .i64 (2))) }]) (.trim [0, 1, 2, 3, 4, 10, 11, 12, 13, 14] [] [] [] (.cond (.t 56) s229_4 .skip))) p231a)))))) := rfl
def tailPdq (d3 : Array ByteArray) (a b limit : Nat) (wasBalanced wasPartitioned : Bool) (pivot : Nat) : Array ByteArray :=
  if a > 0 && !ltV d3[a - 1]! d3[pivot]! then
    match Sort.partitionEqual ltV d3 a b pivot with
    | (mid, d4) => if _h : a < mid ∧ mid ≤ b then Sort.pdq ltV d4 mid b limit wasBalanced wasPartitioned else d4
  else
    match Sort.partition ltV d3 a b pivot with
    | (mid, alreadyPartitioned, d4) =>
      if _h : a ≤ mid ∧ mid < b then
        if mid - a < b - mid then
          Sort.pdq ltV (Sort.pdq ltV d4 a mid limit true true) (mid + 1) b limit (decide (mid - a ≥ (b - a) / 8)) alreadyPartitioned
        else
          Sort.pdq ltV (Sort.pdq ltV d4 (mid + 1) b limit true true) a mid limit (decide (b - mid ≥ (b - a) / 8)) alreadyPartitioned
      else d4
theorem pdq_unf (d : Array ByteArray) (a b limit : Nat) (wb wp : Bool) (h1 : ¬ b - a ≤ 12) (h2 : ¬ limit = 0) : Sort.pdq ltV d a b limit wb wp =
    (let d1 := if !wb then Sort.breakPatterns d a b else d
     let limit := if !wb then limit - 1 else limit
     let c := Sort.choosePivot ltV d1 a b
     let d2 := if c.2 = .decreasing then Sort.reverseRange d1 a b else d1
     let pivot := if c.2 = .decreasing then (b - 1) - (c.1 - a) else c.1
     let hint := if c.2 = .decreasing then Sort.Hint.increasing else c.2
     let pi := if wb && wp && hint = .increasing then Sort.partialInsertionSort ltV d2 a b else (d2, false)
     if pi.2 then pi.1 else tailPdq pi.1 a b limit wb wp pivot) := by
  rw [Sort.pdq, if_neg h1, if_neg h2]; rfl
/-- One round, behind the choice of the pivot: what is left to do. -/
theorem tail231 (N n : Nat) (hc : SortCall E N n) (d : Array ByteArray) (a b limit : Nat) (wb wp : Bool) (p : Nat) (hN : d.size = N) (hab : 12 < b - a) (hn : b - a ≤ n + 1) (hb : b ≤ N) (hs : N < 50) (hl : limit < 1000) (hp1 : a ≤ p) (hp2 : p < b) (hB : Sort.Below ltV a b d) :
    ∃ (a' b' : Nat) (wb' wp' : Bool) (d' : Array ByteArray) (ex : Ex), (ex = .nrm ∨ ex = .ex 1) ∧ tailPdq d a b limit wb wp p = Sort.pdq ltV d' a' b' limit wb' wp' ∧ Sort.Below ltV a' b' d' ∧ d'.size = N ∧ a' ≤ b' ∧ b' ≤ N ∧ b' - a' < b - a ∧
    sexW E 1 p231 ⟨[(0, .hsl (.ext 0) 0 d.size), (1, .p (.int .i64 a)), (2, .p (.int .i64 b)), (3, .p (.int .i64 limit)), (4, .fn 111 [] []), (10, .p (.bool wb)), (11, .p (.bool wp)), (12, .p (.int .i64 (b - a : Nat))), (13, .p (.int .i64 p))], [(.ext 0, some (.parr (d.toList.map .str) 1 false))]⟩ = some (ex, ⟨[(0, .hsl (.ext 0) 0 d.size), (1, .p (.int .i64 a')), (2, .p (.int .i64 b')), (3, .p (.int .i64 limit)), (4, .fn 111 [] []), (10, .p (.bool wb')), (11, .p (.bool wp'))], [(.ext 0, some (.parr (d'.toList.map .str) 1 false))]⟩) := by
  subst hN
  have ha : a < d.size := by omega
  have hp : p < d.size := by omega
  have g1 := ar_get hp
  have n1 : (0 : Int) ≤ (p : Int) := by omega
  have h0 : 0 + d.size ≤ d.size := by omega
  have a0 : d.toList.length = d.size := Array.length_toList
  have e3 := e271 (E := E) d a b p (by omega) hb hp (by omega)
  obtain ⟨k1, k2, k3, k4, k5⟩ := Go.Sort.partition_holds ltV swo_ltV d a b p hp1 hp2 hb
  -- the plain way
  have plain : (decide (a > 0) && !ltV d[a - 1]! d[p]!) = false → ∃ (a' b' : Nat) (wb' wp' : Bool) (d' : Array ByteArray), tailPdq d a b limit wb wp p = Sort.pdq ltV d' a' b' limit wb' wp' ∧ Sort.Below ltV a' b' d' ∧ d'.size = d.size ∧ a' ≤ b' ∧ b' ≤ d.size ∧ b' - a' < b - a ∧
      sexW E 1 p231b ⟨[(0, .hsl (.ext 0) 0 d.size), (1, .p (.int .i64 a)), (2, .p (.int .i64 b)), (3, .p (.int .i64 limit)), (4, .fn 111 [] []), (12, .p (.int .i64 (b - a : Nat))), (13, .p (.int .i64 p))], [(.ext 0, some (.parr (d.toList.map .str) 1 false))]⟩ = some (.nrm, ⟨[(0, .hsl (.ext 0) 0 d.size), (1, .p (.int .i64 a')), (2, .p (.int .i64 b')), (3, .p (.int .i64 limit)), (4, .fn 111 [] []), (10, .p (.bool wb')), (11, .p (.bool wp'))], [(.ext 0, some (.parr (d'.toList.map .str) 1 false))]⟩) := by
    intro h1
    unfold tailPdq
    rw [if_neg (by simp [h1])]
    generalize hpt : Sort.partition ltV d a b p = pt at *
    obtain ⟨mid, al, d4⟩ := pt
    dsimp only at k1 k2 k3 k4 k5 e3 ⊢
    rw [dif_pos ⟨k1, k2⟩]
    have w1 := wSub mid a k1 (by omega)
    have w2 := wSub b mid (by omega) (by omega)
    have w3 := wAdd1 mid (by omega)
    have q1 : IntKind.i64.wrap (((b - a : Nat) : Int).tdiv 8) = (((b - a) / 8 : Nat) : Int) := by
      rw [show ((b - a : Nat) : Int).tdiv 8 = (((b - a) / 8 : Nat) : Int) from rfl, wrapN _ (by omega)]
    have z4 : d4.size = d.size := k3.1
    have hB4 := below_perm hb k3 hB
    by_cases h4 : mid - a < b - mid
    · have f1 : ((mid - a : Nat) : Int) < ((b - mid : Nat) : Int) := by omega
      have hB5 := below_less (Nat.le_of_lt k2) hB4
      have c1 := hc d4 a mid limit z4 k1 (by omega) (by omega) hs hl hB5
      obtain ⟨m1, _⟩ := Go.Sort.pdq_sorts ltV swo_ltV d4 a mid limit true true k1 (by omega) hB5
      refine ⟨mid + 1, b, decide (mid - a ≥ (b - a) / 8), al, Sort.pdq ltV d4 a mid limit true true, by rw [if_pos h4], ?_, by rw [m1.1, z4], by omega, hb, by omega, ?_⟩
      · right
        intro i i1 i2
        rw [Nat.add_sub_cancel, m1.2.1 i (.inr (by omega)), m1.2.1 mid (.inr (by omega))]
        exact k5 i (by omega) i2
      · have f2 : decide ((((b - a) / 8 : Nat) : Int) ≤ ((mid - a : Nat) : Int)) = decide (mid - a ≥ (b - a) / 8) := by simp only [decide_eq_decide]; omega
        simp -implicitDefEqProofs only [go_sem, p231b, s229_7, s229_8, e3, w1, w2, w3, q1, f1, f2, c1]
    · have f1 : ¬ ((mid - a : Nat) : Int) < ((b - mid : Nat) : Int) := by omega
      have hB5 : Sort.Below ltV (mid + 1) b d4 := by
        right
        intro i i1 i2
        rw [Nat.add_sub_cancel]
        exact k5 i (by omega) i2
      have c1 := hc d4 (mid + 1) b limit z4 (by omega) (by omega) hb hs hl hB5
      obtain ⟨m1, _⟩ := Go.Sort.pdq_sorts ltV swo_ltV d4 (mid + 1) b limit true true (by omega) (by omega) hB5
      refine ⟨a, mid, decide (b - mid ≥ (b - a) / 8), al, Sort.pdq ltV d4 (mid + 1) b limit true true, by rw [if_neg h4], ?_, by rw [m1.1, z4], by omega, by omega, by omega, ?_⟩
      · refine below_eq (fun i i1 i2 => m1.2.1 i (.inl (by omega))) (below_less (Nat.le_of_lt k2) hB4)
      · have f2 : decide ((((b - a) / 8 : Nat) : Int) ≤ ((b - mid : Nat) : Int)) = decide (b - mid ≥ (b - a) / 8) := by simp only [decide_eq_decide]; omega
        simp -implicitDefEqProofs only [go_sem, p231b, s229_7, s229_8, e3, w1, w2, w3, q1, f1, f2, c1]
  by_cases ha0 : a > 0
  · have f1 : (0 : Int) < (a : Int) := by omega
    have w1 : IntKind.i64.wrap ((a : Int) - 1) = ((a - 1 : Nat) : Int) := wSub a 1 (by omega) (by omega)
    have i1 : a - 1 < d.size := by omega
    have g2 := ar_get i1
    have n2 : (0 : Int) ≤ ((a - 1 : Nat) : Int) := by omega
    have e1 := e111 (E := E) d[a - 1]! d[p]!
    have e2 := cmpV_lt d[a - 1]! d[p]!
    cases hl1 : ltV d[a - 1]! d[p]! with
    | false =>
      rw [hl1] at e2
      have e4 := of_decide_eq_false e2
      have e5 := e270 (E := E) d a b p (by omega) hb hp (by omega)
      have pre : ∀ i, a ≤ i → i < b → ltV d[i]! d[p]! = false := by
        intro i x1 x2
        rcases hB with h0 | hB
        · omega
        · exact swo_ltV.ntrans _ _ _ (hB i x1 x2) hl1
      obtain ⟨m1, m2, m3, m4, m5⟩ := Go.Sort.partitionEqual_holds ltV swo_ltV d a b p hp1 hp2 hb pre
      unfold tailPdq
      rw [if_pos (by simp [ha0, hl1])]
      generalize hpt : Sort.partitionEqual ltV d a b p = pt at *
      obtain ⟨mid, d4⟩ := pt
      dsimp only at m1 m2 m3 m4 m5 e5 ⊢
      refine ⟨mid, b, wb, wp, d4, .ex 1, .inr rfl, by rw [dif_pos ⟨m1, m2⟩], ?_, m3.1, m2, hb, by omega, ?_⟩
      · right
        intro i x1 x2
        cases hc2 : ltV d4[i]! d4[mid - 1]! with
        | false => rfl
        | true =>
          have t1 := m5 i x1 x2
          have t2 := swo_ltV.trans _ _ _ t1 hc2
          rw [m4 (mid - 1) (by omega) (by omega)] at t2
          cases t2
      · simp -implicitDefEqProofs only [go_sem, p231, s229_6, f1, w1, i1, hp, g1, g2, n1, n2, h0, a0, e1, e4, e5]
    | true =>
      rw [hl1] at e2
      have e4 := of_decide_eq_true e2
      obtain ⟨a', b', wb', wp', d', r1, r2, r3, r4, r5, r6, r7⟩ := plain (by simp [hl1])
      refine ⟨a', b', wb', wp', d', .nrm, .inl rfl, r1, r2, r3, r4, r5, r6, ?_⟩
      simp -implicitDefEqProofs only [go_sem, p231, s229_6, f1, w1, i1, hp, g1, g2, n1, n2, h0, a0, e1, e4, r7]
  · have f1 : ¬ (0 : Int) < (a : Int) := by omega
    obtain ⟨a', b', wb', wp', d', r1, r2, r3, r4, r5, r6, r7⟩ := plain (by simp [ha0])
    refine ⟨a', b', wb', wp', d', .nrm, .inl rfl, r1, r2, r3, r4, r5, r6, ?_⟩
    simp -implicitDefEqProofs only [go_sem, p231, s229_6, f1, r7]
/-- A round behind the reversal. -/
theorem step231 (N n : Nat) (hc : SortCall E N n) (d : Array ByteArray) (a b limit : Nat) (wb wp : Bool) (p : Nat) (h : Sort.Hint) (hN : d.size = N) (hab : 12 < b - a) (hn : b - a ≤ n + 1) (hb : b ≤ N) (hs : N < 50) (hl : limit < 1000) (hp1 : a ≤ p) (hp2 : p < b) (hB : Sort.Below ltV a b d) :
    ((if wb && wp && h = .increasing then Sort.partialInsertionSort ltV d a b else (d, false)).2 = true ∧ sexW E 1 p231a ⟨[(0, .hsl (.ext 0) 0 d.size), (1, .p (.int .i64 a)), (2, .p (.int .i64 b)), (3, .p (.int .i64 limit)), (4, .fn 111 [] []), (10, .p (.bool wb)), (11, .p (.bool wp)), (12, .p (.int .i64 (b - a : Nat))), (13, .p (.int .i64 p)), (14, .p (.int .i64 (hintN h)))], [(.ext 0, some (.parr (d.toList.map .str) 1 false))]⟩ = some (.ret, ⟨[], [(.ext 0, some (.parr ((if wb && wp && h = .increasing then Sort.partialInsertionSort ltV d a b else (d, false)).1.toList.map .str) 1 false))]⟩)) ∨
    ((if wb && wp && h = .increasing then Sort.partialInsertionSort ltV d a b else (d, false)).2 = false ∧ (if wb && wp && h = .increasing then Sort.partialInsertionSort ltV d a b else (d, false)).1 = d ∧ ∃ (a' b' : Nat) (wb' wp' : Bool) (d' : Array ByteArray) (ex : Ex), (ex = .nrm ∨ ex = .ex 1) ∧ tailPdq d a b limit wb wp p = Sort.pdq ltV d' a' b' limit wb' wp' ∧ Sort.Below ltV a' b' d' ∧ d'.size = N ∧ a' ≤ b' ∧ b' ≤ N ∧ b' - a' < b - a ∧
    sexW E 1 p231a ⟨[(0, .hsl (.ext 0) 0 d.size), (1, .p (.int .i64 a)), (2, .p (.int .i64 b)), (3, .p (.int .i64 limit)), (4, .fn 111 [] []), (10, .p (.bool wb)), (11, .p (.bool wp)), (12, .p (.int .i64 (b - a : Nat))), (13, .p (.int .i64 p)), (14, .p (.int .i64 (hintN h)))], [(.ext 0, some (.parr (d.toList.map .str) 1 false))]⟩ = some (ex, ⟨[(0, .hsl (.ext 0) 0 d.size), (1, .p (.int .i64 a')), (2, .p (.int .i64 b')), (3, .p (.int .i64 limit)), (4, .fn 111 [] []), (10, .p (.bool wb')), (11, .p (.bool wp'))], [(.ext 0, some (.parr (d'.toList.map .str) 1 false))]⟩)) := by
  obtain ⟨a', b', wb', wp', d', ex, r0, r1, r2, r3, r4, r5, r6, r7⟩ := tail231 (E := E) N n hc d a b limit wb wp p hN hab hn hb hs hl hp1 hp2 hB
  have e1 := e269 (E := E) d a b (by omega) (by omega) (by omega)
  have pe := pi_eq d a b (by omega)
  by_cases hh : (wb && wp && h = .increasing) = true
  · simp only [Bool.and_eq_true, decide_eq_true_eq] at hh
    obtain ⟨⟨rfl, rfl⟩, rfl⟩ := hh
    simp only [Bool.and_self, decide_true, if_true, hintN]
    rw [pe] at e1 ⊢
    dsimp only at e1 ⊢
    cases hsrt : decide (Sort.scanSorted ltV d b (a + 1) = b) with
    | true =>
      rw [hsrt] at e1
      refine .inl ⟨rfl, ?_⟩
      simp -implicitDefEqProofs only [go_sem, p231a, s229_5, e1]
    | false =>
      rw [hsrt] at e1
      refine .inr ⟨rfl, rfl, a', b', wb', wp', d', ex, r0, r1, r2, r3, r4, r5, r6, ?_⟩
      simp -implicitDefEqProofs only [go_sem, p231a, s229_5, e1, r7]
  · rw [if_neg hh]
    refine .inr ⟨rfl, rfl, a', b', wb', wp', d', ex, r0, r1, r2, r3, r4, r5, r6, ?_⟩
    cases wb with
    | false => simp -implicitDefEqProofs only [go_sem, p231a, s229_5, r7]
    | true =>
      cases wp with
      | false => simp -implicitDefEqProofs only [go_sem, p231a, s229_5, r7]
      | true =>
        cases h with
        | increasing => exact absurd (by simp) hh
        | unknown => simp -implicitDefEqProofs only [go_sem, p231a, s229_5, hintN, r7]
        | decreasing => simp -implicitDefEqProofs only [go_sem, p231a, s229_5, hintN, r7]
theorem loop229 (N : Nat) (hs : N < 50) : ∀ (n : Nat) (d : Array ByteArray) (a b limit : Nat) (wb wp : Bool), d.size = N → a ≤ b → b - a ≤ n → b ≤ N → limit < 1000 → Sort.Below ltV a b d →
    loopW E 1 [0, 1, 2, 3, 4, 10, 11] [] (.trim [0, 1, 2, 3, 4, 10, 11] [] [] [] s229_10) (some ⟨[(0, .hsl (.ext 0) 0 d.size), (1, .p (.int .i64 a)), (2, .p (.int .i64 b)), (3, .p (.int .i64 limit)), (4, .fn 111 [] []), (10, .p (.bool wb)), (11, .p (.bool wp))], [(.ext 0, some (.parr (d.toList.map .str) 1 false))]⟩) = some (.ret, ⟨[], [(.ext 0, some (.parr ((Sort.pdq ltV d a b limit wb wp).toList.map .str) 1 false))]⟩) := by
  generalize hK : loopW E 1 _ _ _ = K
  intro n
  induction n with
  | zero =>
    intro d a b limit wb wp hN hab hn hb hl hB
    subst hN
    have w1 := wSub b a hab (by omega)
    have f1 : ((b - a : Nat) : Int) ≤ 12 := by omega
    have e1 := e264 (E := E) d a b hb (by omega) (by omega)
    rw [Sort.pdq, if_pos (by omega)]
    rw [← hK, loopW_some, hK]
    simp -implicitDefEqProofs only [go_sem, s229_10, e229_9, s229_1, w1, f1, e1]
  | succ n ih =>
    intro d a b limit wb wp hN hab hn hb hl hB
    have w1 := wSub b a hab (by omega)
    by_cases h12 : b - a ≤ 12
    · subst hN
      have f1 : ((b - a : Nat) : Int) ≤ 12 := by omega
      have e1 := e264 (E := E) d a b hb (by omega) (by omega)
      rw [Sort.pdq, if_pos h12]
      rw [← hK, loopW_some, hK]
      simp -implicitDefEqProofs only [go_sem, s229_10, e229_9, s229_1, w1, f1, e1]
    have f1 : ¬ ((b - a : Nat) : Int) ≤ 12 := by omega
    by_cases hl0 : limit = 0
    · subst hN
      subst hl0
      have e1 := e265 (E := E) d a b (by omega) hb (by omega)
      rw [Sort.pdq, if_neg h12, if_pos rfl]
      rw [← hK, loopW_some, hK]
      simp -implicitDefEqProofs only [go_sem, s229_10, e229_9, s229_2, w1, f1, e1, Int.natCast_zero]
    have f2 : ¬ (limit : Int) = 0 := by omega
    have hcall : SortCall E N n := by
      intro d a b limit h1 h2 h3 h4 _ h5 h6
      have lp := ih d a b limit true true h1 h2 h3 h4 h5 h6
      rw [h1] at lp
      rw [← hK] at lp
      rw [callW_eq, EnvS.h 229 F229 rfl]
      simp -implicitDefEqProofs only [go_sem, F229, s229, s229_11, lp]
    rw [pdq_unf d a b limit wb wp h12 hl0]
    -- behind breaking the patterns
    obtain ⟨d1, hd1⟩ : ∃ d1, d1 = if !wb then Sort.breakPatterns d a b else d := ⟨_, rfl⟩
    obtain ⟨lim, hlim⟩ : ∃ lim, lim = if !wb then limit - 1 else limit := ⟨_, rfl⟩
    rw [← hd1, ← hlim]
    dsimp only
    have hP1 : Sort.PermIn a b d d1 := by
      rw [hd1]; split
      · exact Go.Sort.breakPatterns_holds d a b hab (by omega)
      · exact Go.Sort.permIn_refl d a b
    have hN1 : d1.size = N := by rw [hP1.1]; exact hN
    have hB1 := below_perm (by omega) hP1 hB
    have hlim2 : lim < 1000 := by rw [hlim]; split <;> omega
    obtain ⟨c1, c2⟩ := Go.Sort.choosePivot_holds ltV d1 a b (by omega)
    have e2 := e267 (E := E) d1 a b (by omega) (by omega) (by omega)
    generalize Sort.choosePivot ltV d1 a b = c at *
    obtain ⟨cp, ch⟩ := c
    dsimp only at c1 c2 e2 ⊢
    obtain ⟨d2, hd2⟩ : ∃ d2, d2 = if ch = .decreasing then Sort.reverseRange d1 a b else d1 := ⟨_, rfl⟩
    obtain ⟨p, hp⟩ : ∃ p, p = if ch = .decreasing then (b - 1) - (cp - a) else cp := ⟨_, rfl⟩
    obtain ⟨h2, hh2⟩ : ∃ h2, h2 = if ch = .decreasing then Sort.Hint.increasing else ch := ⟨_, rfl⟩
    rw [← hd2, ← hp, ← hh2]
    have hP2 : Sort.PermIn a b d1 d2 := by
      rw [hd2]; split
      · exact Go.Sort.reverseRange_holds d1 a b hab (by omega)
      · exact Go.Sort.permIn_refl d1 a b
    have hN2 : d2.size = N := by rw [hP2.1]; exact hN1
    have hB2 := below_perm (by omega) hP2 hB1
    have hp1 : a ≤ p := by rw [hp]; split <;> omega
    have hp2 : p < b := by rw [hp]; split <;> omega
    -- the code up to there
    have code : ∀ R, sexW E 1 p231a ⟨[(0, .hsl (.ext 0) 0 d2.size), (1, .p (.int .i64 a)), (2, .p (.int .i64 b)), (3, .p (.int .i64 lim)), (4, .fn 111 [] []), (10, .p (.bool wb)), (11, .p (.bool wp)), (12, .p (.int .i64 (b - a : Nat))), (13, .p (.int .i64 p)), (14, .p (.int .i64 (hintN h2)))], [(.ext 0, some (.parr (d2.toList.map .str) 1 false))]⟩ = R → sexW E 1 s229_9 ⟨[(0, .hsl (.ext 0) 0 d.size), (1, .p (.int .i64 a)), (2, .p (.int .i64 b)), (3, .p (.int .i64 limit)), (4, .fn 111 [] []), (10, .p (.bool wb)), (11, .p (.bool wp))], [(.ext 0, some (.parr (d.toList.map .str) 1 false))]⟩ = R := by
      intro R hR
      have w3 : IntKind.i64.wrap ((b : Int) - 1) = ((b - 1 : Nat) : Int) := wSub b 1 (by omega) (by omega)
      have w4 := wSub cp a c1 (by omega)
      have w5 := wSub (b - 1) (cp - a) (by omega) (by omega)
      have e4 := e268 (E := E) d1 a b (by omega) (by omega) (by omega)
      subst hN
      rw [hN1] at e2 e4
      rw [hN2] at hR
      cases wb with
      | true =>
        simp only [Bool.not_true, Bool.false_eq_true, if_false] at hd1 hlim
        subst hd1 hlim
        by_cases hdec : ch = .decreasing
        · subst hdec
          simp only [if_true] at hd2 hp hh2
          subst hd2 hp hh2
          simp -implicitDefEqProofs only [go_sem, e229_9, s229_4, w1, f1, f2, e2, hintN, e4, w3, w4, w5]
          exact hR
        · rw [if_neg hdec] at hd2 hp hh2
          subst hd2 hp hh2
          have f3 : ¬ hintN h2 = 2 := by rw [hint_dec]; exact hdec
          simp -implicitDefEqProofs only [go_sem, e229_9, s229_4, w1, f1, f2, e2, f3]
          exact hR
      | false =>
        simp only [Bool.not_false, if_true] at hd1 hlim
        have e5 := e266 (E := E) d a b (by omega) hb (by omega)
        rw [← hd1] at e5
        have w6 : IntKind.i64.wrap ((limit : Int) - 1) = (lim : Int) := by rw [hlim]; exact wSub limit 1 (by omega) (by omega)
        by_cases hdec : ch = .decreasing
        · subst hdec
          simp only [if_true] at hd2 hp hh2
          subst hd2 hp hh2
          simp -implicitDefEqProofs only [go_sem, e229_9, s229_3, s229_4, w1, f1, f2, e5, w6, e2, hintN, e4, w3, w4, w5]
          exact hR
        · rw [if_neg hdec] at hd2 hp hh2
          subst hd2 hp hh2
          have f3 : ¬ hintN h2 = 2 := by rw [hint_dec]; exact hdec
          simp -implicitDefEqProofs only [go_sem, e229_9, s229_3, s229_4, w1, f1, f2, e5, w6, e2, f3]
          exact hR
    rcases step231 (E := E) N n hcall d2 a b lim wb wp p h2 hN2 (by omega) hn hb hs hlim2 hp1 hp2 hB2 with ⟨q1, q2⟩ | ⟨q1, q2, a', b', wb', wp', d', ex, r0, r1, r2, r3, r4, r5, r6, r7⟩
    · have cc := code _ q2
      rw [if_pos q1]
      rw [← hK, loopW_some, hK]
      simp -implicitDefEqProofs only [go_sem, s229_10, cc]
    · have cc := code _ r7
      rw [q1, q2, if_neg (by simp), r1]
      have ih' := ih d' a' b' lim wb' wp' r3 r4 (by omega) r5 hlim2 r2
      rw [show d'.size = d2.size by omega] at ih'
      rw [← hK, loopW_some, hK]
      rcases r0 with rfl | rfl
      · simp -implicitDefEqProofs only [go_sem, s229_10, cc]
        exact ih'
      · simp -implicitDefEqProofs only [go_sem, s229_10, cc]
        exact ih'
theorem e229 (d : Array ByteArray) (a b limit : Nat) (hab : a ≤ b) (hb : b ≤ d.size) (hs : d.size < 50) (hl : limit < 1000) (hB : Sort.Below ltV a b d) :
    callW E 229 [.hsl (.ext 0) 0 d.size, .p (.int .i64 a), .p (.int .i64 b), .p (.int .i64 limit), .fn 111 [] []] [.parr (d.toList.map .str) 1 false] = some ⟨.tup [], [.parr ((Sort.pdq ltV d a b limit true true).toList.map .str) 1 false], []⟩ := by
  have lp := loop229 (E := E) d.size hs _ d a b limit true true rfl hab (Nat.le_refl _) hb hl hB
  rw [callW_eq, EnvS.h 229 F229 rfl]
  simp -implicitDefEqProofs only [go_sem, F229, s229, s229_11, lp]
/-- slices.SortFunc. -/
theorem e191 (d : Array ByteArray) (hs : d.size < 50) :
    callW E 191 [.hsl (.ext 0) 0 d.size, .fn 111 [] []] [.parr (d.toList.map .str) 1 false] = some ⟨.tup [], [.parr ((Sort.sort ltV d).toList.map .str) 1 false], []⟩ := by
  have w := u64w d.size (by omega)
  have e1 := e228 (E := E) d.size (by omega)
  obtain ⟨l1, _, _⟩ := len_facts (n := d.size) (by omega)
  have e2 := e229 (E := E) d 0 d.size (Sort.bitsLen d.size) (by omega) (Nat.le_refl _) hs (by omega) (.inl rfl)
  rw [← Sort.sort] at e2
  simp only [Int.natCast_zero] at e2
  rw [callW_eq, EnvS.h 191 F191 rfl]
  simp -implicitDefEqProofs only [go_sem, F191, s191, w, e1, e2]
end Go.Ab.S.SV
