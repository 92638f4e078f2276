/- A part of the proof: an executor over plain data, shown sound for the model, and what it computes of the functions. -/
import Derived.Test.YtmnjnpgmenigiaaGreatBac8f6e1429
import Derived.Test.YtmnjnpgmenigiaaGreatSoB
import Derived.Test.YtmnjnpgmenigiaaGreatB25fb81f422
import Derived.Test.YtmnjnpgmenigiaaGreatBb4c48b26f7
import Derived.Test.YtmnjnpgmenigiaaGreatB20cd91eac1
set_option linter.all false
namespace Go.Ab.S.SV
open Go Go.Ab Go.Ab.S
variable {E : Env} [EnvS E]
set_option maxRecDepth 10000
theorem raw191 : E.raw 191 = true := raw_T 191 F191 rfl rfl
theorem raw229 : E.raw 229 = true := raw_T 229 F229 rfl rfl
theorem raw264 : E.raw 264 = true := raw_T 264 F264 rfl rfl
theorem raw265 : E.raw 265 = true := raw_T 265 F265 rfl rfl
theorem raw266 : E.raw 266 = true := raw_T 266 F266 rfl rfl
theorem raw267 : E.raw 267 = true := raw_T 267 F267 rfl rfl
theorem raw268 : E.raw 268 = true := raw_T 268 F268 rfl rfl
theorem raw269 : E.raw 269 = true := raw_T 269 F269 rfl rfl
theorem raw270 : E.raw 270 = true := raw_T 270 F270 rfl rfl
theorem raw271 : E.raw 271 = true := raw_T 271 F271 rfl rfl
theorem raw302 : E.raw 302 = true := raw_T 302 F302 rfl rfl
theorem raw303 : E.raw 303 = true := raw_T 303 F303 rfl rfl
theorem raw304 : E.raw 304 = true := raw_T 304 F304 rfl rfl
theorem raw318 : E.raw 318 = true := raw_T 318 F318 rfl rfl
attribute [go_sem] raw264 raw265 raw266 raw267 raw268 raw269 raw270 raw271 raw302 raw303 raw304 raw318 raw229 raw191
def ltV (x y : ByteArray) : Bool := decide (cmpV x y < 0)
theorem cmpV_lt (x y : ByteArray) : decide (cmpV x y < 0) = ltV x y := rfl
theorem ins_size (a : Nat) : ∀ (j : Nat) (d : Array ByteArray), (Sort.insInner ltV a j d).size = d.size
  | 0, d => rfl
  | j + 1, d => by
    rw [Sort.insInner]; split
    · rw [ins_size a j, swp_size]
    · rfl
/-! ### The heap -/
theorem sift_size (hi first : Nat) : ∀ (n root : Nat) (d : Array ByteArray), hi - root ≤ n → (Sort.siftDown ltV hi first root d).size = d.size := by
  intro n
  induction n with
  | zero =>
    intro root d h
    rw [Sort.siftDown, dif_pos (by omega)]
  | succ n ih =>
    intro root d h
    rw [Sort.siftDown]
    split
    · rfl
    · split
      · split
        · rfl
        · split
          · rw [ih _ _ (by omega), swp_size]
          · rfl
      · split
        · rfl
        · rw [ih _ _ (by omega), swp_size]
theorem siftS (hi first root : Nat) (d : Array ByteArray) : (Sort.siftDown ltV hi first root d).size = d.size := sift_size hi first _ root d (Nat.le_refl _)
theorem build_size (hi first : Nat) : ∀ (k : Nat) (d : Array ByteArray), (Sort.heapBuild ltV hi first k d).size = d.size
  | 0, d => rfl
  | k + 1, d => by rw [Sort.heapBuild, build_size hi first k, siftS]
/-! ### Turning a range round -/
/-! ### Breaking patterns -/
theorem brk_step (a len modulus : Nat) (hl : 8 ≤ len) (hl2 : len < 1024) (hm : 0 < modulus) (hm2 : modulus ≤ 2 * len) (d : Array ByteArray) (had : a + len ≤ d.size) (hs : d.size < 1152921504606846976) (i : Nat) (hi : i ≤ a + len / 4 * 2 + 1) (r : UInt64) :
    loopW E 1 [0, 1, 8, 9, 10, 11] [.loc 2 2 0] (.trim [0, 1, 8, 9, 10, 11] [] [(0, [])] [.loc 2 2 0] s266_3) (some ⟨[(0, .hsl (.ext 0) 0 d.size), (1, .p (.int .i64 a)), (8, .p (.int .i64 len)), (9, .ptr (.loc 2 2 0) 0), (10, .p (.int .u64 modulus)), (11, .p (.int .i64 i))], [(.ext 0, some (.parr (d.toList.map .str) 1 false)), (.loc 2 2 0, some (.box [.p (.int .u64 r.toNat)]))]⟩) =
    loopW E 1 [0, 1, 8, 9, 10, 11] [.loc 2 2 0] (.trim [0, 1, 8, 9, 10, 11] [] [(0, [])] [.loc 2 2 0] s266_3) (some ⟨[(0, .hsl (.ext 0) 0 d.size), (1, .p (.int .i64 a)), (8, .p (.int .i64 len)), (9, .ptr (.loc 2 2 0) 0), (10, .p (.int .u64 modulus)), (11, .p (.int .i64 (i + 1 : Nat)))], [(.ext 0, some (.parr ((Sort.breakStep a len modulus (r, d) i).2.toList.map .str) 1 false)), (.loc 2 2 0, some (.box [.p (.int .u64 (Sort.breakStep a len modulus (r, d) i).1.toNat)]))]⟩) := by
  generalize hK : loopW E 1 _ _ _ = K
  rw [← hK, loopW_some, hK]
  have e1 := e299 (E := E) r
  have hrl := UInt64.toNat_lt (Sort.xorNext r)
  have q1 : IntKind.i64.wrap ((len : Int).tdiv 4) = ((len / 4 : Nat) : Int) := by
    rw [show (len : Int).tdiv 4 = ((len / 4 : Nat) : Int) from rfl, wrapN _ (by omega)]
  have q2 : IntKind.i64.wrap (((len / 4 : Nat) : Int) * 2) = ((len / 4 * 2 : Nat) : Int) := by rw [wrap64 (by omega) (by omega)]; omega
  have q3 := wAdd a (len / 4 * 2) (by omega)
  have q4 := wAdd1 (a + len / 4 * 2) (by omega)
  have f1 : (i : Int) ≤ ((a + len / 4 * 2 + 1 : Nat) : Int) := by omega
  have q5 : IntKind.u64.wrap ((modulus : Int) - 1) = ((modulus - 1 : Nat) : Int) := by
    rw [show (modulus : Int) - 1 = ((modulus - 1 : Nat) : Int) by omega, u64w _ (by omega)]
  have q6 := andU (Sort.xorNext r).toNat (modulus - 1) hrl (by omega)
  have hand : (Sort.xorNext r).toNat &&& (modulus - 1) ≤ modulus - 1 := Nat.and_le_right
  unfold Sort.breakStep
  dsimp only
  generalize (Sort.xorNext r).toNat &&& (modulus - 1) = o at *
  have q7 := wrapN o (by omega)
  have w1 := wAdd1 i (by omega)
  have n1 : (0 : Int) ≤ (i : Int) := by omega
  have i1 : i < d.size := by omega
  have g1 := ar_get i1
  have h0 : 0 + d.size ≤ d.size := by omega
  have a0 : d.toList.length = d.size := Array.length_toList
  by_cases h : o ≥ len
  · have f2 : (len : Int) ≤ (o : Int) := by omega
    have q8 := wSub o len h (by omega)
    have q9 := wAdd a (o - len) (by omega)
    have n2 : (0 : Int) ≤ ((a + (o - len) : Nat) : Int) := by omega
    have i2 : a + (o - len) < d.size := by omega
    have g2 := ar_get i2
    obtain ⟨y, hy⟩ := set_get .str d i (a + (o - len)) d[a + (o - len)]! i2
    rw [if_pos h, swp_map]
    simp -implicitDefEqProofs only [go_sem, s266_3, s266_2, s266_1, q1, q2, q3, q4, f1, e1, q5, q6, q7, f2, q8, q9, w1, n1, n2, i1, i2, g1, g2, h0, a0, hy, setE, List.length_map, List.length_set]
  · have f2 : ¬ (len : Int) ≤ (o : Int) := by omega
    have q9 := wAdd a o (by omega)
    have n2 : (0 : Int) ≤ ((a + o : Nat) : Int) := by omega
    have i2 : a + o < d.size := by omega
    have g2 := ar_get i2
    obtain ⟨y, hy⟩ := set_get .str d i (a + o) d[a + o]! i2
    rw [if_neg h, swp_map]
    simp -implicitDefEqProofs only [go_sem, s266_3, s266_2, s266_1, q1, q2, q3, q4, f1, e1, q5, q6, q7, f2, q9, w1, n1, n2, i1, i2, g1, g2, h0, a0, hy, setE, List.length_map, List.length_set]
theorem step_size (a len modulus : Nat) (r : UInt64) (d : Array ByteArray) (i : Nat) : (Sort.breakStep a len modulus (r, d) i).2.size = d.size := by
  simp only [Sort.breakStep, swp_size]
/-! ### The pivot -/
theorem ord_lt {d : Array ByteArray} {a b s n : Nat} (ha : a < n) (hb : b < n) : (Sort.order2 ltV d a b s).1 < n ∧ (Sort.order2 ltV d a b s).2.1 < n ∧ (Sort.order2 ltV d a b s).2.2 ≤ s + 1 := by
  unfold Sort.order2
  split
  · exact ⟨hb, ha, Nat.le_refl _⟩
  · exact ⟨ha, hb, Nat.le_succ _⟩
/-! ### Scans -/
theorem scanUp_ge (p : ByteArray → Bool) (d : Array ByteArray) (j : Nat) : ∀ (n i : Nat), j + 1 - i ≤ n → i ≤ Sort.scanUp p d j i ∧ Sort.scanUp p d j i ≤ max i (j + 1) := by
  intro n
  induction n with
  | zero => intro i h; rw [Sort.scanUp, if_neg (by simp; omega)]; omega
  | succ n ih =>
    intro i h
    rw [Sort.scanUp]
    split
    · rename_i hc
      simp only [Bool.and_eq_true, decide_eq_true_eq] at hc
      have := ih (i + 1) (by omega)
      omega
    · omega
theorem scanDown_le (p : ByteArray → Bool) (d : Array ByteArray) (i : Nat) : ∀ j, Sort.scanDown p d i j ≤ j
  | 0 => Nat.le_refl 0
  | j + 1 => by
    rw [Sort.scanDown]
    split
    · exact Nat.le_succ_of_le (scanDown_le p d i j)
    · exact Nat.le_refl _
theorem up271_2 (d : Array ByteArray) (a j : Nat) (ha : a < d.size) (hj : j < d.size) (hs : d.size < 1152921504606846976) : ∀ (n i : Nat), j + 1 - i ≤ n → i < 1152921504606846977 →
    loopW E 1 [0, 1, 4, 12, 13] [] (.trim [0, 1, 4, 12, 13] [10, 11] [(0, [0, 1, 4, 12, 13])] [] s271_2) (some ⟨[(0, .hsl (.ext 0) 0 d.size), (1, .p (.int .i64 a)), (4, .fn 111 [] []), (12, .p (.int .i64 i)), (13, .p (.int .i64 j))], [(.ext 0, some (.parr (d.toList.map .str) 1 false))]⟩) = some (.ex 0, ⟨[(0, .hsl (.ext 0) 0 d.size), (1, .p (.int .i64 a)), (4, .fn 111 [] []), (12, .p (.int .i64 (Sort.scanUp (fun x => ltV x d[a]!) d j i : Nat))), (13, .p (.int .i64 j))], [(.ext 0, some (.parr (d.toList.map .str) 1 false))]⟩) := by
  generalize hK : loopW E 1 _ _ _ = K
  intro n
  induction n with
  | zero =>
    intro i hn hi
    have f1 : ¬ (i : Int) ≤ (j : Int) := by omega
    rw [Sort.scanUp, if_neg (by simp; omega)]
    rw [← hK, loopW_some, hK]
    simp -implicitDefEqProofs only [go_sem, s271_2, s271_1, f1]
  | succ n ih =>
    intro i hn hi
    by_cases h : i ≤ j
    · have f1 : (i : Int) ≤ (j : Int) := by omega
      have n1 : (0 : Int) ≤ (i : Int) := by omega
      have n2 : (0 : Int) ≤ (a : Int) := by omega
      have i1 : i < d.size := by omega
      have g1 := ar_get i1
      have g2 := ar_get ha
      have h0 : 0 + d.size ≤ d.size := by omega
      have a0 : d.toList.length = d.size := Array.length_toList
      have w1 := wAdd1 i (by omega)
      have e1 := e111 (E := E) d[i]! d[a]!
      have e2 := cmpV_lt d[i]! d[a]!
      cases hl : ltV d[i]! d[a]! with
      | true =>
        rw [hl] at e2
        have e3 := of_decide_eq_true e2
        rw [Sort.scanUp, if_pos (by simp [h, hl])]
        have ih' := ih (i + 1) (by omega) (by omega)
        rw [← hK, loopW_some, hK]
        simp -implicitDefEqProofs only [go_sem, s271_2, s271_1, f1, n1, n2, i1, ha, g1, g2, h0, a0, w1, e1, e3]
        exact ih'
      | false =>
        rw [hl] at e2
        have e3 := of_decide_eq_false e2
        rw [Sort.scanUp, if_neg (by simp [hl])]
        rw [← hK, loopW_some, hK]
        simp -implicitDefEqProofs only [go_sem, s271_2, s271_1, f1, n1, n2, i1, ha, g1, g2, h0, a0, w1, e1, e3]
    · have f1 : ¬ (i : Int) ≤ (j : Int) := by omega
      rw [Sort.scanUp, if_neg (by simp; omega)]
      rw [← hK, loopW_some, hK]
      simp -implicitDefEqProofs only [go_sem, s271_2, s271_1, f1]
theorem down271_5 (d : Array ByteArray) (a i : Nat) (ha : a < d.size) (hi1 : 1 ≤ i) (hs : d.size < 1152921504606846976) : ∀ (j : Nat), j < d.size →
    loopW E 1 [0, 1, 4, 12, 13] [] (.trim [0, 1, 4, 12, 13] [10, 11] [(2, [0, 1, 4, 12, 13])] [] s271_5) (some ⟨[(0, .hsl (.ext 0) 0 d.size), (1, .p (.int .i64 a)), (4, .fn 111 [] []), (12, .p (.int .i64 i)), (13, .p (.int .i64 j))], [(.ext 0, some (.parr (d.toList.map .str) 1 false))]⟩) = some (.ex 2, ⟨[(0, .hsl (.ext 0) 0 d.size), (1, .p (.int .i64 a)), (4, .fn 111 [] []), (12, .p (.int .i64 i)), (13, .p (.int .i64 (Sort.scanDown (fun x => !ltV x d[a]!) d i j : Nat)))], [(.ext 0, some (.parr (d.toList.map .str) 1 false))]⟩) := by
  generalize hK : loopW E 1 _ _ _ = K
  intro j
  induction j with
  | zero =>
    intro hj
    have f1 : ¬ (i : Int) ≤ 0 := by omega
    rw [Sort.scanDown]
    rw [← hK, loopW_some, hK]
    simp -implicitDefEqProofs only [go_sem, s271_5, s271_4, f1, Int.natCast_zero]
  | succ j ih =>
    intro hj
    by_cases h : i ≤ j + 1
    · have f1 : (i : Int) ≤ ((j + 1 : Nat) : Int) := by omega
      have n1 : (0 : Int) ≤ ((j + 1 : Nat) : Int) := by omega
      have n2 : (0 : Int) ≤ (a : Int) := by omega
      have g1 := ar_get hj
      have g2 := ar_get ha
      have h0 : 0 + d.size ≤ d.size := by omega
      have a0 : d.toList.length = d.size := Array.length_toList
      have w1 := wSub1 j (by omega)
      have e1 := e111 (E := E) d[j + 1]! d[a]!
      have e2 := cmpV_lt d[j + 1]! d[a]!
      cases hl : ltV d[j + 1]! d[a]! with
      | false =>
        rw [hl] at e2
        have e3 := of_decide_eq_false e2
        rw [Sort.scanDown, if_pos (by simp [h, hl])]
        have ih' := ih (by omega)
        rw [← hK, loopW_some, hK]
        simp -implicitDefEqProofs only [go_sem, s271_5, s271_4, f1, n1, n2, hj, ha, g1, g2, h0, a0, w1, e1, e3]
        exact ih'
      | true =>
        rw [hl] at e2
        have e3 := of_decide_eq_true e2
        rw [Sort.scanDown, if_neg (by simp [hl])]
        rw [← hK, loopW_some, hK]
        simp -implicitDefEqProofs only [go_sem, s271_5, s271_4, f1, n1, n2, hj, ha, g1, g2, h0, a0, w1, e1, e3]
    · have f1 : ¬ (i : Int) ≤ ((j + 1 : Nat) : Int) := by omega
      rw [Sort.scanDown, if_neg (by simp; omega)]
      rw [← hK, loopW_some, hK]
      simp -implicitDefEqProofs only [go_sem, s271_5, s271_4, f1]
theorem up271_9 (d : Array ByteArray) (a j : Nat) (ha : a < d.size) (hj : j < d.size) (hs : d.size < 1152921504606846976) : ∀ (n i : Nat), j + 1 - i ≤ n → i < 1152921504606846977 →
    loopW E 1 [0, 1, 4, 12, 13] [] (.trim [0, 1, 4, 12, 13] [10, 11] [(6, [0, 1, 4, 12, 13])] [] s271_9) (some ⟨[(0, .hsl (.ext 0) 0 d.size), (1, .p (.int .i64 a)), (4, .fn 111 [] []), (12, .p (.int .i64 i)), (13, .p (.int .i64 j))], [(.ext 0, some (.parr (d.toList.map .str) 1 false))]⟩) = some (.ex 6, ⟨[(0, .hsl (.ext 0) 0 d.size), (1, .p (.int .i64 a)), (4, .fn 111 [] []), (12, .p (.int .i64 (Sort.scanUp (fun x => ltV x d[a]!) d j i : Nat))), (13, .p (.int .i64 j))], [(.ext 0, some (.parr (d.toList.map .str) 1 false))]⟩) := by
  generalize hK : loopW E 1 _ _ _ = K
  intro n
  induction n with
  | zero =>
    intro i hn hi
    have f1 : ¬ (i : Int) ≤ (j : Int) := by omega
    rw [Sort.scanUp, if_neg (by simp; omega)]
    rw [← hK, loopW_some, hK]
    simp -implicitDefEqProofs only [go_sem, s271_9, s271_8, f1]
  | succ n ih =>
    intro i hn hi
    by_cases h : i ≤ j
    · have f1 : (i : Int) ≤ (j : Int) := by omega
      have n1 : (0 : Int) ≤ (i : Int) := by omega
      have n2 : (0 : Int) ≤ (a : Int) := by omega
      have i1 : i < d.size := by omega
      have g1 := ar_get i1
      have g2 := ar_get ha
      have h0 : 0 + d.size ≤ d.size := by omega
      have a0 : d.toList.length = d.size := Array.length_toList
      have w1 := wAdd1 i (by omega)
      have e1 := e111 (E := E) d[i]! d[a]!
      have e2 := cmpV_lt d[i]! d[a]!
      cases hl : ltV d[i]! d[a]! with
      | true =>
        rw [hl] at e2
        have e3 := of_decide_eq_true e2
        rw [Sort.scanUp, if_pos (by simp [h, hl])]
        have ih' := ih (i + 1) (by omega) (by omega)
        rw [← hK, loopW_some, hK]
        simp -implicitDefEqProofs only [go_sem, s271_9, s271_8, f1, n1, n2, i1, ha, g1, g2, h0, a0, w1, e1, e3]
        exact ih'
      | false =>
        rw [hl] at e2
        have e3 := of_decide_eq_false e2
        rw [Sort.scanUp, if_neg (by simp [hl])]
        rw [← hK, loopW_some, hK]
        simp -implicitDefEqProofs only [go_sem, s271_9, s271_8, f1, n1, n2, i1, ha, g1, g2, h0, a0, w1, e1, e3]
    · have f1 : ¬ (i : Int) ≤ (j : Int) := by omega
      rw [Sort.scanUp, if_neg (by simp; omega)]
      rw [← hK, loopW_some, hK]
      simp -implicitDefEqProofs only [go_sem, s271_9, s271_8, f1]
theorem down271_12 (d : Array ByteArray) (a i : Nat) (ha : a < d.size) (hi1 : 1 ≤ i) (hs : d.size < 1152921504606846976) : ∀ (j : Nat), j < d.size →
    loopW E 1 [0, 1, 4, 12, 13] [] (.trim [0, 1, 4, 12, 13] [10, 11] [(8, [0, 1, 4, 12, 13])] [] s271_12) (some ⟨[(0, .hsl (.ext 0) 0 d.size), (1, .p (.int .i64 a)), (4, .fn 111 [] []), (12, .p (.int .i64 i)), (13, .p (.int .i64 j))], [(.ext 0, some (.parr (d.toList.map .str) 1 false))]⟩) = some (.ex 8, ⟨[(0, .hsl (.ext 0) 0 d.size), (1, .p (.int .i64 a)), (4, .fn 111 [] []), (12, .p (.int .i64 i)), (13, .p (.int .i64 (Sort.scanDown (fun x => !ltV x d[a]!) d i j : Nat)))], [(.ext 0, some (.parr (d.toList.map .str) 1 false))]⟩) := by
  generalize hK : loopW E 1 _ _ _ = K
  intro j
  induction j with
  | zero =>
    intro hj
    have f1 : ¬ (i : Int) ≤ 0 := by omega
    rw [Sort.scanDown]
    rw [← hK, loopW_some, hK]
    simp -implicitDefEqProofs only [go_sem, s271_12, s271_11, f1, Int.natCast_zero]
  | succ j ih =>
    intro hj
    by_cases h : i ≤ j + 1
    · have f1 : (i : Int) ≤ ((j + 1 : Nat) : Int) := by omega
      have n1 : (0 : Int) ≤ ((j + 1 : Nat) : Int) := by omega
      have n2 : (0 : Int) ≤ (a : Int) := by omega
      have g1 := ar_get hj
      have g2 := ar_get ha
      have h0 : 0 + d.size ≤ d.size := by omega
      have a0 : d.toList.length = d.size := Array.length_toList
      have w1 := wSub1 j (by omega)
      have e1 := e111 (E := E) d[j + 1]! d[a]!
      have e2 := cmpV_lt d[j + 1]! d[a]!
      cases hl : ltV d[j + 1]! d[a]! with
      | false =>
        rw [hl] at e2
        have e3 := of_decide_eq_false e2
        rw [Sort.scanDown, if_pos (by simp [h, hl])]
        have ih' := ih (by omega)
        rw [← hK, loopW_some, hK]
        simp -implicitDefEqProofs only [go_sem, s271_12, s271_11, f1, n1, n2, hj, ha, g1, g2, h0, a0, w1, e1, e3]
        exact ih'
      | true =>
        rw [hl] at e2
        have e3 := of_decide_eq_true e2
        rw [Sort.scanDown, if_neg (by simp [hl])]
        rw [← hK, loopW_some, hK]
        simp -implicitDefEqProofs only [go_sem, s271_12, s271_11, f1, n1, n2, hj, ha, g1, g2, h0, a0, w1, e1, e3]
    · have f1 : ¬ (i : Int) ≤ ((j + 1 : Nat) : Int) := by omega
      rw [Sort.scanDown, if_neg (by simp; omega)]
      rw [← hK, loopW_some, hK]
      simp -implicitDefEqProofs only [go_sem, s271_12, s271_11, f1]
theorem up270_2 (d : Array ByteArray) (a j : Nat) (ha : a < d.size) (hj : j < d.size) (hs : d.size < 1152921504606846976) : ∀ (n i : Nat), j + 1 - i ≤ n → i < 1152921504606846977 →
    loopW E 1 [0, 1, 4, 11, 12] [] (.trim [0, 1, 4, 11, 12] [10] [(2, [0, 1, 4, 11, 12])] [] s270_2) (some ⟨[(0, .hsl (.ext 0) 0 d.size), (1, .p (.int .i64 a)), (4, .fn 111 [] []), (11, .p (.int .i64 i)), (12, .p (.int .i64 j))], [(.ext 0, some (.parr (d.toList.map .str) 1 false))]⟩) = some (.ex 2, ⟨[(0, .hsl (.ext 0) 0 d.size), (1, .p (.int .i64 a)), (4, .fn 111 [] []), (11, .p (.int .i64 (Sort.scanUp (fun x => !ltV d[a]! x) d j i : Nat))), (12, .p (.int .i64 j))], [(.ext 0, some (.parr (d.toList.map .str) 1 false))]⟩) := by
  generalize hK : loopW E 1 _ _ _ = K
  intro n
  induction n with
  | zero =>
    intro i hn hi
    have f1 : ¬ (i : Int) ≤ (j : Int) := by omega
    rw [Sort.scanUp, if_neg (by simp; omega)]
    rw [← hK, loopW_some, hK]
    simp -implicitDefEqProofs only [go_sem, s270_2, s270_1, f1]
  | succ n ih =>
    intro i hn hi
    by_cases h : i ≤ j
    · have f1 : (i : Int) ≤ (j : Int) := by omega
      have n1 : (0 : Int) ≤ (i : Int) := by omega
      have n2 : (0 : Int) ≤ (a : Int) := by omega
      have i1 : i < d.size := by omega
      have g1 := ar_get i1
      have g2 := ar_get ha
      have h0 : 0 + d.size ≤ d.size := by omega
      have a0 : d.toList.length = d.size := Array.length_toList
      have w1 := wAdd1 i (by omega)
      have e1 := e111 (E := E) d[a]! d[i]!
      have e2 := cmpV_lt d[a]! d[i]!
      cases hl : ltV d[a]! d[i]! with
      | false =>
        rw [hl] at e2
        have e3 := of_decide_eq_false e2
        rw [Sort.scanUp, if_pos (by simp [h, hl])]
        have ih' := ih (i + 1) (by omega) (by omega)
        rw [← hK, loopW_some, hK]
        simp -implicitDefEqProofs only [go_sem, s270_2, s270_1, f1, n1, n2, i1, ha, g1, g2, h0, a0, w1, e1, e3]
        exact ih'
      | true =>
        rw [hl] at e2
        have e3 := of_decide_eq_true e2
        rw [Sort.scanUp, if_neg (by simp [hl])]
        rw [← hK, loopW_some, hK]
        simp -implicitDefEqProofs only [go_sem, s270_2, s270_1, f1, n1, n2, i1, ha, g1, g2, h0, a0, w1, e1, e3]
    · have f1 : ¬ (i : Int) ≤ (j : Int) := by omega
      rw [Sort.scanUp, if_neg (by simp; omega)]
      rw [← hK, loopW_some, hK]
      simp -implicitDefEqProofs only [go_sem, s270_2, s270_1, f1]
theorem down270_5 (d : Array ByteArray) (a i : Nat) (ha : a < d.size) (hi1 : 1 ≤ i) (hs : d.size < 1152921504606846976) : ∀ (j : Nat), j < d.size →
    loopW E 1 [0, 1, 4, 11, 12] [] (.trim [0, 1, 4, 11, 12] [10] [(4, [0, 1, 4, 11, 12])] [] s270_5) (some ⟨[(0, .hsl (.ext 0) 0 d.size), (1, .p (.int .i64 a)), (4, .fn 111 [] []), (11, .p (.int .i64 i)), (12, .p (.int .i64 j))], [(.ext 0, some (.parr (d.toList.map .str) 1 false))]⟩) = some (.ex 4, ⟨[(0, .hsl (.ext 0) 0 d.size), (1, .p (.int .i64 a)), (4, .fn 111 [] []), (11, .p (.int .i64 i)), (12, .p (.int .i64 (Sort.scanDown (fun x => ltV d[a]! x) d i j : Nat)))], [(.ext 0, some (.parr (d.toList.map .str) 1 false))]⟩) := by
  generalize hK : loopW E 1 _ _ _ = K
  intro j
  induction j with
  | zero =>
    intro hj
    have f1 : ¬ (i : Int) ≤ 0 := by omega
    rw [Sort.scanDown]
    rw [← hK, loopW_some, hK]
    simp -implicitDefEqProofs only [go_sem, s270_5, s270_4, f1, Int.natCast_zero]
  | succ j ih =>
    intro hj
    by_cases h : i ≤ j + 1
    · have f1 : (i : Int) ≤ ((j + 1 : Nat) : Int) := by omega
      have n1 : (0 : Int) ≤ ((j + 1 : Nat) : Int) := by omega
      have n2 : (0 : Int) ≤ (a : Int) := by omega
      have g1 := ar_get hj
      have g2 := ar_get ha
      have h0 : 0 + d.size ≤ d.size := by omega
      have a0 : d.toList.length = d.size := Array.length_toList
      have w1 := wSub1 j (by omega)
      have e1 := e111 (E := E) d[a]! d[j + 1]!
      have e2 := cmpV_lt d[a]! d[j + 1]!
      cases hl : ltV d[a]! d[j + 1]! with
      | true =>
        rw [hl] at e2
        have e3 := of_decide_eq_true e2
        rw [Sort.scanDown, if_pos (by simp [h, hl])]
        have ih' := ih (by omega)
        rw [← hK, loopW_some, hK]
        simp -implicitDefEqProofs only [go_sem, s270_5, s270_4, f1, n1, n2, hj, ha, g1, g2, h0, a0, w1, e1, e3]
        exact ih'
      | false =>
        rw [hl] at e2
        have e3 := of_decide_eq_false e2
        rw [Sort.scanDown, if_neg (by simp [hl])]
        rw [← hK, loopW_some, hK]
        simp -implicitDefEqProofs only [go_sem, s270_5, s270_4, f1, n1, n2, hj, ha, g1, g2, h0, a0, w1, e1, e3]
    · have f1 : ¬ (i : Int) ≤ ((j + 1 : Nat) : Int) := by omega
      rw [Sort.scanDown, if_neg (by simp; omega)]
      rw [← hK, loopW_some, hK]
      simp -implicitDefEqProofs only [go_sem, s270_5, s270_4, f1]


/-! ### Partitions -/
theorem pl_size (a : Nat) : ∀ (n i j : Nat) (d : Array ByteArray), j + 1 - i ≤ n → (Sort.partLoop ltV a i j d).2.size = d.size ∧ (Sort.partLoop ltV a i j d).1 ≤ j := by
  intro n
  induction n with
  | zero =>
    intro i j d h
    rw [Sort.partLoop]
    have h1 := scanUp_ge (fun x => ltV x d[a]!) d j _ i (Nat.le_refl _)
    have h2 := scanDown_le (fun x => !ltV x d[a]!) d (Sort.scanUp (fun x => ltV x d[a]!) d j i) j
    rw [if_pos (by omega)]
    exact ⟨rfl, h2⟩
  | succ n ih =>
    intro i j d h
    rw [Sort.partLoop]
    have h1 := scanUp_ge (fun x => ltV x d[a]!) d j _ i (Nat.le_refl _)
    have h2 := scanDown_le (fun x => !ltV x d[a]!) d (Sort.scanUp (fun x => ltV x d[a]!) d j i) j
    split
    · exact ⟨rfl, h2⟩
    · split
      · obtain ⟨q1, q2⟩ := ih (Sort.scanUp (fun x => ltV x d[a]!) d j i + 1) (Sort.scanDown (fun x => !ltV x d[a]!) d (Sort.scanUp (fun x => ltV x d[a]!) d j i) j - 1) (Sort.swp d (Sort.scanUp (fun x => ltV x d[a]!) d j i) (Sort.scanDown (fun x => !ltV x d[a]!) d (Sort.scanUp (fun x => ltV x d[a]!) d j i) j)) (by omega)
        rw [swp_size] at q1
        exact ⟨q1, by omega⟩
      · exact ⟨rfl, h2⟩
theorem loop271 (a : Nat) : ∀ (n i j : Nat) (d : Array ByteArray), j + 1 - i ≤ n → a < d.size → j < d.size → 1 ≤ i → d.size < 1152921504606846976 → i < 1152921504606846976 →
    ∃ jj : Nat, jj = (Sort.partLoop ltV a i j d).1 ∧ loopW E 1 [0, 1, 4, 12, 13] [] (.trim [0, 1, 4, 12, 13] [10, 11] [(4, [0, 1, 13])] [] s271_15) (some ⟨[(0, .hsl (.ext 0) 0 d.size), (1, .p (.int .i64 a)), (4, .fn 111 [] []), (12, .p (.int .i64 i)), (13, .p (.int .i64 j))], [(.ext 0, some (.parr (d.toList.map .str) 1 false))]⟩) =
    some (.ex 4, ⟨[(0, .hsl (.ext 0) 0 d.size), (1, .p (.int .i64 a)), (13, .p (.int .i64 jj))], [(.ext 0, some (.parr ((Sort.partLoop ltV a i j d).2.toList.map .str) 1 false))]⟩) := by
  generalize hK : loopW E 1 _ _ _ = K
  intro n
  induction n with
  | zero =>
    intro i j d hn ha hj hi hs hi2
    refine ⟨_, rfl, ?_⟩
    have lp1 := up271_9 (E := E) d a j ha hj hs _ i (Nat.le_refl _) (by omega)
    have h1 := scanUp_ge (fun x => ltV x d[a]!) d j _ i (Nat.le_refl _)
    have lp2 := down271_12 (E := E) d a (Sort.scanUp (fun x => ltV x d[a]!) d j i) ha (by omega) hs j hj
    have h2 := scanDown_le (fun x => !ltV x d[a]!) d (Sort.scanUp (fun x => ltV x d[a]!) d j i) j
    rw [Sort.partLoop]
    generalize Sort.scanUp (fun x => ltV x d[a]!) d j i = i2 at *
    generalize Sort.scanDown (fun x => !ltV x d[a]!) d i2 j = j2 at *
    have f1 : (j2 : Int) < (i2 : Int) := by omega
    rw [if_pos (by omega)]
    rw [← hK, loopW_some, hK]
    simp -implicitDefEqProofs only [go_sem, s271_15, s271_14, s271_10, s271_13, lp1, lp2, f1]
  | succ n ih =>
    intro i j d hn ha hj hi hs hi2
    have lp1 := up271_9 (E := E) d a j ha hj hs _ i (Nat.le_refl _) (by omega)
    have h1 := scanUp_ge (fun x => ltV x d[a]!) d j _ i (Nat.le_refl _)
    have lp2 := down271_12 (E := E) d a (Sort.scanUp (fun x => ltV x d[a]!) d j i) ha (by omega) hs j hj
    have h2 := scanDown_le (fun x => !ltV x d[a]!) d (Sort.scanUp (fun x => ltV x d[a]!) d j i) j
    rw [Sort.partLoop]
    generalize Sort.scanUp (fun x => ltV x d[a]!) d j i = i2 at *
    generalize Sort.scanDown (fun x => !ltV x d[a]!) d i2 j = j2 at *
    by_cases h : i2 > j2
    · refine ⟨_, rfl, ?_⟩
      have f1 : (j2 : Int) < (i2 : Int) := by omega
      rw [if_pos h]
      rw [← hK, loopW_some, hK]
      simp -implicitDefEqProofs only [go_sem, s271_15, s271_14, s271_10, s271_13, lp1, lp2, f1]
    · have f1 : ¬ (j2 : Int) < (i2 : Int) := by omega
      rw [if_neg h, dif_pos (by omega)]
      obtain ⟨jj, r1, r2⟩ := ih (i2 + 1) (j2 - 1) (Sort.swp d i2 j2) (by omega) (by rw [swp_size]; exact ha) (by rw [swp_size]; omega) (by omega) (by rw [swp_size]; exact hs) (by omega)
      refine ⟨jj, r1, ?_⟩
      rw [swp_size, swp_map] at r2
      have n1 : (0 : Int) ≤ (i2 : Int) := by omega
      have n2 : (0 : Int) ≤ (j2 : Int) := by omega
      have i1 : i2 < d.size := by omega
      have j1 : j2 < d.size := by omega
      have g1 := ar_get i1
      have g2 := ar_get j1
      have h0 : 0 + d.size ≤ d.size := by omega
      have a0 : d.toList.length = d.size := Array.length_toList
      have w1 := wAdd1 i2 (by omega)
      have w2 : IntKind.i64.wrap ((j2 : Int) - 1) = ((j2 - 1 : Nat) : Int) := wSub j2 1 (by omega) (by omega)
      obtain ⟨y, hy⟩ := set_get .str d i2 j2 d[j2]! j1
      rw [← hK, loopW_some, hK]
      simp -implicitDefEqProofs only [go_sem, s271_15, s271_14, s271_10, s271_13, lp1, lp2, f1, n1, n2, i1, j1, g1, g2, h0, a0, w1, w2, hy, setE, List.length_map, List.length_set]
      exact r2
theorem e271 (d : Array ByteArray) (a b p : Nat) (hab : a + 1 < b) (hb : b ≤ d.size) (hp : p < d.size) (hs : d.size < 1152921504606846976) :
    callW E 271 [.hsl (.ext 0) 0 d.size, .p (.int .i64 a), .p (.int .i64 b), .p (.int .i64 p), .fn 111 [] []] [.parr (d.toList.map .str) 1 false] =
    some ⟨.tup [.p (.int .i64 (Sort.partition ltV d a b p).1), .p (.bool (Sort.partition ltV d a b p).2.1)], [.parr ((Sort.partition ltV d a b p).2.2.toList.map .str) 1 false], []⟩ := by
  have ha : a < d.size := by omega
  have n1 : (0 : Int) ≤ (a : Int) := by omega
  have n2 : (0 : Int) ≤ (p : Int) := by omega
  have g1 := ar_get ha
  have g2 := ar_get hp
  have h0 : 0 + d.size ≤ d.size := by omega
  have a0 : d.toList.length = d.size := Array.length_toList
  have w1 := wAdd1 a (by omega)
  have w2 : IntKind.i64.wrap ((b : Int) - 1) = ((b - 1 : Nat) : Int) := wSub b 1 (by omega) (by omega)
  obtain ⟨y, hy⟩ := set_get .str d a p d[p]! hp
  have z := swp_size d a p
  unfold Sort.partition
  dsimp only
  have hm := swp_map .str d a p
  have sw : callW E 271 [.hsl (.ext 0) 0 d.size, .p (.int .i64 a), .p (.int .i64 b), .p (.int .i64 p), .fn 111 [] []] [.parr (d.toList.map .str) 1 false] = callW E 271 [.hsl (.ext 0) 0 d.size, .p (.int .i64 a), .p (.int .i64 b), .p (.int .i64 p), .fn 111 [] []] [.parr (d.toList.map .str) 1 false] := rfl
  generalize hd1 : Sort.swp d a p = d1 at *
  have lp1 := up271_2 (E := E) d1 a (b - 1) (by omega) (by omega) (by omega) _ (a + 1) (Nat.le_refl _) (by omega)
  have h1 := scanUp_ge (fun x => ltV x d1[a]!) d1 (b - 1) _ (a + 1) (Nat.le_refl _)
  have lp2 := down271_5 (E := E) d1 a (Sort.scanUp (fun x => ltV x d1[a]!) d1 (b - 1) (a + 1)) (by omega) (by omega) (by omega) (b - 1) (by omega)
  have h2 := scanDown_le (fun x => !ltV x d1[a]!) d1 (Sort.scanUp (fun x => ltV x d1[a]!) d1 (b - 1) (a + 1)) (b - 1)
  generalize Sort.scanUp (fun x => ltV x d1[a]!) d1 (b - 1) (a + 1) = i2 at *
  generalize Sort.scanDown (fun x => !ltV x d1[a]!) d1 i2 (b - 1) = j2 at *
  rw [z] at lp1 lp2
  rw [hm] at lp1 lp2
  have j1 : j2 < d1.size := by omega
  have a1 : a < d1.size := by omega
  have gj := ar_get j1
  have ga := ar_get a1
  have gj' : (((d.toList.map .str).set a (.str d[p]!)).set p (.str d[a]!))[j2]? = some (PV.str d1[j2]!) := by rw [← hm, List.getElem?_map, gj]; rfl
  have ga' : (((d.toList.map .str).set a (.str d[p]!)).set p (.str d[a]!))[a]? = some (PV.str d1[a]!) := by rw [← hm, List.getElem?_map, ga]; rfl
  have nj : (0 : Int) ≤ (j2 : Int) := by omega
  have j1' : j2 < d.size := by omega
  by_cases h : i2 > j2
  · have f1 : (j2 : Int) < (i2 : Int) := by omega
    rw [if_pos h]
    dsimp only
    obtain ⟨y2, hy2⟩ := set_get .str d1 j2 a d1[a]! a1
    rw [swp_map, hm]
    rw [hm] at hy2
    rw [callW_eq, EnvS.h 271 F271 rfl]
    simp -implicitDefEqProofs only [go_sem, F271, s271, s271_3, s271_6, s271_7, n1, n2, ha, hp, g1, g2, h0, a0, w1, w2, hy, setE, List.length_map, List.length_set, lp1, lp2, f1, gj', ga', nj, j1', hy2]
  · have f1 : ¬ (j2 : Int) < (i2 : Int) := by omega
    rw [if_neg h]
    dsimp only
    have i1 : i2 < d1.size := by omega
    have i1' : i2 < d.size := by omega
    have gi := ar_get i1
    have gi' : (((d.toList.map .str).set a (.str d[p]!)).set p (.str d[a]!))[i2]? = some (PV.str d1[i2]!) := by rw [← hm, List.getElem?_map, gi]; rfl
    have ni : (0 : Int) ≤ (i2 : Int) := by omega
    obtain ⟨y2, hy2⟩ := set_get .str d1 i2 j2 d1[j2]! j1
    rw [hm] at hy2
    have w3 := wAdd1 i2 (by omega)
    have w4 : IntKind.i64.wrap ((j2 : Int) - 1) = ((j2 - 1 : Nat) : Int) := wSub j2 1 (by omega) (by omega)
    have z2 := swp_size d1 i2 j2
    have hm2 := swp_map .str d1 i2 j2
    rw [hm] at hm2
    generalize hd2 : Sort.swp d1 i2 j2 = d2 at *
    obtain ⟨jj, r1, lp3⟩ := loop271 (E := E) a _ (i2 + 1) (j2 - 1) d2 (Nat.le_refl _) (by omega) (by omega) (by omega) (by omega) (by omega)
    obtain ⟨z3, q3⟩ := pl_size a _ (i2 + 1) (j2 - 1) d2 (Nat.le_refl _)
    rw [z2, z, hm2] at lp3
    rw [← r1] at q3 ⊢
    generalize Sort.partLoop ltV a (i2 + 1) (j2 - 1) d2 = pl at *
    obtain ⟨j3, d3⟩ := pl
    dsimp only at r1 lp3 z3 ⊢
    have k1 : jj < d3.size := by omega
    have k1' : jj < d.size := by omega
    have k2 : a < d3.size := by omega
    have gk := ar_get k1
    have gl := ar_get k2
    have nk : (0 : Int) ≤ (jj : Int) := by omega
    have a3 : d3.toList.length = d.size := by rw [Array.length_toList]; omega
    obtain ⟨y3, hy3⟩ := set_get .str d3 jj a d3[a]! k2
    rw [swp_map]
    rw [callW_eq, EnvS.h 271 F271 rfl]
    simp -implicitDefEqProofs only [go_sem, F271, s271, s271_3, s271_6, s271_7, s271_16, n1, n2, ha, hp, g1, g2, h0, a0, w1, w2, hy, setE, List.length_map, List.length_set, lp1, lp2, f1, gj', gi', nj, ni, j1', i1', hy2, w3, w4, lp3, gk, gl, nk, k1', a3, hy3]


/-! ### The other partition -/
theorem loop270 (a : Nat) : ∀ (n i j : Nat) (d : Array ByteArray), j + 1 - i ≤ n → a < d.size → j < d.size → 1 ≤ i → d.size < 1152921504606846976 → i < 1152921504606846976 →
    loopW E 1 [0, 1, 4, 11, 12] [] (.trim [0, 1, 4, 11, 12] [10] [(0, [11])] [] s270_8) (some ⟨[(0, .hsl (.ext 0) 0 d.size), (1, .p (.int .i64 a)), (4, .fn 111 [] []), (11, .p (.int .i64 i)), (12, .p (.int .i64 j))], [(.ext 0, some (.parr (d.toList.map .str) 1 false))]⟩) =
    some (.ex 0, ⟨[(11, .p (.int .i64 (Sort.partEqLoop ltV a i j d).1))], [(.ext 0, some (.parr ((Sort.partEqLoop ltV a i j d).2.toList.map .str) 1 false))]⟩) := by
  generalize hK : loopW E 1 _ _ _ = K
  intro n
  induction n with
  | zero =>
    intro i j d hn ha hj hi hs hi2
    have lp1 := up270_2 (E := E) d a j ha hj hs _ i (Nat.le_refl _) (by omega)
    have h1 := scanUp_ge (fun x => !ltV d[a]! x) d j _ i (Nat.le_refl _)
    have lp2 := down270_5 (E := E) d a (Sort.scanUp (fun x => !ltV d[a]! x) d j i) ha (by omega) hs j hj
    have h2 := scanDown_le (fun x => ltV d[a]! x) d (Sort.scanUp (fun x => !ltV d[a]! x) d j i) j
    rw [Sort.partEqLoop]
    generalize Sort.scanUp (fun x => !ltV d[a]! x) d j i = i2 at *
    generalize Sort.scanDown (fun x => ltV d[a]! x) d i2 j = j2 at *
    have f1 : (j2 : Int) < (i2 : Int) := by omega
    rw [if_pos (by omega)]
    rw [← hK, loopW_some, hK]
    simp -implicitDefEqProofs only [go_sem, s270_8, s270_7, s270_3, s270_6, lp1, lp2, f1]
  | succ n ih =>
    intro i j d hn ha hj hi hs hi2
    have lp1 := up270_2 (E := E) d a j ha hj hs _ i (Nat.le_refl _) (by omega)
    have h1 := scanUp_ge (fun x => !ltV d[a]! x) d j _ i (Nat.le_refl _)
    have lp2 := down270_5 (E := E) d a (Sort.scanUp (fun x => !ltV d[a]! x) d j i) ha (by omega) hs j hj
    have h2 := scanDown_le (fun x => ltV d[a]! x) d (Sort.scanUp (fun x => !ltV d[a]! x) d j i) j
    rw [Sort.partEqLoop]
    generalize Sort.scanUp (fun x => !ltV d[a]! x) d j i = i2 at *
    generalize Sort.scanDown (fun x => ltV d[a]! x) d i2 j = j2 at *
    by_cases h : i2 > j2
    · have f1 : (j2 : Int) < (i2 : Int) := by omega
      rw [if_pos h]
      rw [← hK, loopW_some, hK]
      simp -implicitDefEqProofs only [go_sem, s270_8, s270_7, s270_3, s270_6, lp1, lp2, f1]
    · have f1 : ¬ (j2 : Int) < (i2 : Int) := by omega
      rw [if_neg h, dif_pos (by omega)]
      have r2 := ih (i2 + 1) (j2 - 1) (Sort.swp d i2 j2) (by omega) (by rw [swp_size]; exact ha) (by rw [swp_size]; omega) (by omega) (by rw [swp_size]; exact hs) (by omega)
      rw [swp_size, swp_map] at r2
      have n1 : (0 : Int) ≤ (i2 : Int) := by omega
      have n2 : (0 : Int) ≤ (j2 : Int) := by omega
      have i1 : i2 < d.size := by omega
      have j1 : j2 < d.size := by omega
      have g1 := ar_get i1
      have g2 := ar_get j1
      have h0 : 0 + d.size ≤ d.size := by omega
      have a0 : d.toList.length = d.size := Array.length_toList
      have w1 := wAdd1 i2 (by omega)
      have w2 : IntKind.i64.wrap ((j2 : Int) - 1) = ((j2 - 1 : Nat) : Int) := wSub j2 1 (by omega) (by omega)
      obtain ⟨y, hy⟩ := set_get .str d i2 j2 d[j2]! j1
      rw [← hK, loopW_some, hK]
      simp -implicitDefEqProofs only [go_sem, s270_8, s270_7, s270_3, s270_6, lp1, lp2, f1, n1, n2, i1, j1, g1, g2, h0, a0, w1, w2, hy, setE, List.length_map, List.length_set]
      exact r2
theorem e270 (d : Array ByteArray) (a b p : Nat) (hab : a + 1 < b) (hb : b ≤ d.size) (hp : p < d.size) (hs : d.size < 1152921504606846976) :
    callW E 270 [.hsl (.ext 0) 0 d.size, .p (.int .i64 a), .p (.int .i64 b), .p (.int .i64 p), .fn 111 [] []] [.parr (d.toList.map .str) 1 false] =
    some ⟨.p (.int .i64 (Sort.partitionEqual ltV d a b p).1), [.parr ((Sort.partitionEqual ltV d a b p).2.toList.map .str) 1 false], []⟩ := by
  have ha : a < d.size := by omega
  have n1 : (0 : Int) ≤ (a : Int) := by omega
  have n2 : (0 : Int) ≤ (p : Int) := by omega
  have g1 := ar_get ha
  have g2 := ar_get hp
  have h0 : 0 + d.size ≤ d.size := by omega
  have a0 : d.toList.length = d.size := Array.length_toList
  have w1 := wAdd1 a (by omega)
  have w2 : IntKind.i64.wrap ((b : Int) - 1) = ((b - 1 : Nat) : Int) := wSub b 1 (by omega) (by omega)
  obtain ⟨y, hy⟩ := set_get .str d a p d[p]! hp
  have z := swp_size d a p
  unfold Sort.partitionEqual
  have lp := loop270 (E := E) a _ (a + 1) (b - 1) (Sort.swp d a p) (Nat.le_refl _) (by omega) (by omega) (by omega) (by omega) (by omega)
  rw [swp_size, swp_map] at lp
  rw [callW_eq, EnvS.h 270 F270 rfl]
  simp -implicitDefEqProofs only [go_sem, F270, s270, s270_9, n1, n2, ha, hp, g1, g2, h0, a0, w1, w2, hy, setE, List.length_map, List.length_set, lp]

/-! ### What may be in order already -/
theorem loop269i (a b : Nat) (j : Int) (d : Array ByteArray) (hb : b ≤ d.size) (hs : d.size < 1152921504606846976) : ∀ (n i : Nat), b - i ≤ n → 1 ≤ i → i < 1152921504606846977 →
    loopW E 1 [0, 1, 2, 3, 9, 10] [] (.trim [0, 1, 2, 3, 9, 10] [8] [(2, [0, 1, 2, 3, 9, 10])] [] s269_2) (some ⟨[(0, .hsl (.ext 0) 0 d.size), (1, .p (.int .i64 a)), (2, .p (.int .i64 b)), (3, .fn 111 [] []), (9, .p (.int .i64 i)), (10, .p (.int .i64 j))], [(.ext 0, some (.parr (d.toList.map .str) 1 false))]⟩) =
    some (.ex 2, ⟨[(0, .hsl (.ext 0) 0 d.size), (1, .p (.int .i64 a)), (2, .p (.int .i64 b)), (3, .fn 111 [] []), (9, .p (.int .i64 (Sort.scanSorted ltV d b i : Nat))), (10, .p (.int .i64 j))], [(.ext 0, some (.parr (d.toList.map .str) 1 false))]⟩) := by
  generalize hK : loopW E 1 _ _ _ = K
  intro n
  induction n with
  | zero =>
    intro i hn h1 hi
    have f1 : ¬ (i : Int) < (b : Int) := by omega
    rw [Sort.scanSorted, if_neg (by simp; omega)]
    rw [← hK, loopW_some, hK]
    simp -implicitDefEqProofs only [go_sem, s269_2, s269_1, f1]
  | succ n ih =>
    intro i hn h1 hi
    by_cases h : i < b
    · have f1 : (i : Int) < (b : Int) := by omega
      have n1 : (0 : Int) ≤ (i : Int) := by omega
      have n2 : (0 : Int) ≤ ((i - 1 : Nat) : Int) := by omega
      have i1 : i < d.size := by omega
      have i2 : i - 1 < d.size := by omega
      have g1 := ar_get i1
      have g2 := ar_get i2
      have h0 : 0 + d.size ≤ d.size := by omega
      have a0 : d.toList.length = d.size := Array.length_toList
      have w1 := wAdd1 i (by omega)
      have w2 : IntKind.i64.wrap ((i : Int) - 1) = ((i - 1 : Nat) : Int) := wSub i 1 (by omega) (by omega)
      have e1 := e111 (E := E) d[i]! d[i - 1]!
      have e2 := cmpV_lt d[i]! d[i - 1]!
      cases hl : ltV d[i]! d[i - 1]! with
      | false =>
        rw [hl] at e2
        have e3 := of_decide_eq_false e2
        rw [Sort.scanSorted, if_pos (by simp [h, hl])]
        have ih' := ih (i + 1) (by omega) (by omega) (by omega)
        rw [← hK, loopW_some, hK]
        simp -implicitDefEqProofs only [go_sem, s269_2, s269_1, f1, n1, n2, i1, i2, g1, g2, h0, a0, w1, w2, e1, e3]
        exact ih'
      | true =>
        rw [hl] at e2
        have e3 := of_decide_eq_true e2
        rw [Sort.scanSorted, if_neg (by simp [hl])]
        rw [← hK, loopW_some, hK]
        simp -implicitDefEqProofs only [go_sem, s269_2, s269_1, f1, n1, n2, i1, i2, g1, g2, h0, a0, w1, w2, e1, e3]
    · have f1 : ¬ (i : Int) < (b : Int) := by omega
      rw [Sort.scanSorted, if_neg (by simp; omega)]
      rw [← hK, loopW_some, hK]
      simp -implicitDefEqProofs only [go_sem, s269_2, s269_1, f1]
theorem pi_eq (d : Array ByteArray) (a b : Nat) (h : b - a < 50) : Sort.partialInsertionSort ltV d a b = (d, decide (Sort.scanSorted ltV d b (a + 1) = b)) := by
  rw [Sort.partialInsertionSort, Sort.partialIns]
  dsimp only
  by_cases h1 : Sort.scanSorted ltV d b (a + 1) = b
  · rw [if_pos h1]; simp [h1]
  · rw [if_neg h1, if_pos h]; simp [h1]
theorem e269 (d : Array ByteArray) (a b : Nat) (hab : a < b) (hb : b ≤ d.size) (hs : d.size < 50) :
    callW E 269 [.hsl (.ext 0) 0 d.size, .p (.int .i64 a), .p (.int .i64 b), .fn 111 [] []] [.parr (d.toList.map .str) 1 false] =
    some ⟨.p (.bool (Sort.partialInsertionSort ltV d a b).2), [.parr (d.toList.map .str) 1 false], []⟩ := by
  rw [pi_eq _ _ _ (by omega)]
  dsimp only
  have w1 := wAdd1 a (by omega)
  have w2 := wSub b a (by omega) (by omega)
  have f1 : ((b - a : Nat) : Int) < 50 := by omega
  have lp := loop269i (E := E) a b 0 d hb (by omega) _ (a + 1) (Nat.le_refl _) (by omega) (by omega)
  generalize Sort.scanSorted ltV d b (a + 1) = i2 at *
  rw [callW_eq, EnvS.h 269 F269 rfl]
  by_cases h : i2 = b
  · subst h
    have f2 : decide (i2 = i2) = true := by simp
    rw [f2]
    simp -implicitDefEqProofs only [go_sem, F269, s269, s269_16, s269_15, s269_14, s269_3, s269_4, s269_5, s269_9, s269_8, s269_13, s269_12, loopW_some, w1, w2, lp]
  · have f2 : decide (i2 = b) = false := by simp [h]
    have f3 : ¬ (i2 : Int) = (b : Int) := by omega
    rw [f2]
    simp -implicitDefEqProofs only [go_sem, F269, s269, s269_16, s269_15, s269_14, s269_3, s269_4, s269_5, s269_9, s269_8, s269_13, s269_12, loopW_some, w1, w2, f1, f3, lp]


/-! ### The sort -/
theorem cmpV_less (x y : ByteArray) : ltV x y = lessV x y := by
  unfold ltV lessV cmpV or2 cmpI cmpS
  by_cases h : x.size = y.size
  · simp only [h, if_true]
    by_cases h2 : Op.bytesLess x.toList y.toList = true
    · simp [h2]
    · by_cases h3 : x = y
      · subst h3; simp [bl_irrefl]
      · simp [h2, h3]
  · by_cases h1 : x.size < y.size
    · have : (x.size : Int) < y.size := by omega
      simp [h, h1, this]
    · have h2 : (y.size : Int) < x.size := by omega
      have h3 : ¬ (x.size : Int) < y.size := by omega
      simp [h, h1, h2, h3]
theorem swo_ltV : Sort.SWO ltV where
  irrefl x := by rw [cmpV_less]; exact lv_irrefl x
  trans x y z h1 h2 := by rw [cmpV_less] at *; exact lv_trans h1 h2
  ntrans x y z h1 h2 := by
    rw [cmpV_less] at *
    cases h : lessV x z with
    | false => rfl
    | true =>
      exfalso
      cases h3 : lessV z y with
      | true => rw [lv_trans h h3] at h1; cases h1
      | false =>
        have : y = z := lv_total h2 h3
        subst this
        rw [h1] at h; cases h
section
variable {a b : Nat} {d d' : Array ByteArray}
theorem below_perm (hb : b ≤ d.size) (h : Sort.PermIn a b d d') (hB : Sort.Below ltV a b d) : Sort.Below ltV a b d' := by
  rcases hB with h0 | hB
  · exact .inl h0
  · rcases Nat.eq_zero_or_pos a with h0 | ha
    · exact .inl h0
    right
    intro i h1 h2
    rw [h.2.1 (a - 1) (.inl (by omega))]
    exact Go.Sort.permIn_all d d' a b (fun x => ltV x d[a - 1]! = false) hb h hB i h1 h2
theorem below_eq (ha : ∀ i, a ≤ i + 1 → i < b → d'[i]! = d[i]!) (hB : Sort.Below ltV a b d) : Sort.Below ltV a b d' := by
  rcases hB with h0 | hB
  · exact .inl h0
  · rcases Nat.eq_zero_or_pos a with h0 | ha0
    · exact .inl h0
    right
    intro i h1 h2
    rw [ha i (by omega) h2, ha (a - 1) (by omega) (by omega)]
    exact hB i h1 h2
theorem below_less {c : Nat} (hc : c ≤ b) (hB : Sort.Below ltV a b d) : Sort.Below ltV a c d := by
  rcases hB with h0 | hB
  · exact .inl h0
  · exact .inr fun i h1 h2 => hB i h1 (by omega)
end
/-- What a call of it does, for ranges of so many. -/
def SortCall (E : Env) (N n : Nat) : Prop := ∀ (d : Array ByteArray) (a b limit : Nat), d.size = N → a ≤ b → b - a ≤ n → b ≤ N → N < 50 → limit < 1000 → Sort.Below ltV a b d →
  callW E 229 [.hsl (.ext 0) 0 N, .p (.int .i64 a), .p (.int .i64 b), .p (.int .i64 limit), .fn 111 [] []] [.parr (d.toList.map .str) 1 false] = some ⟨.tup [], [.parr ((Sort.pdq ltV d a b limit true true).toList.map .str) 1 false], []⟩
def p231b : SCode := (.seq (.reg 20 [{ dst := some 106, op := .mv (.t 0) }, { dst := some 107, op := .mv (.t 1) }, { dst := some 108, op := .mv (.t 2) }, { dst := some 109, op := .mv (.t 13) }, { dst := some 110, op := .mv (.t 4) }, { dst := some 111, op := .call (.f 271) [.t 106, .t 107, .t 108, .t 109, .t 110] }, { dst := some 105, op := .mv (.t 111) }, { dst := some 112, op := .ext (.t 105) 0 }, { dst := some 113, op := .ext (.t 105) 1 }, { dst := some 16, op := .mv (.t 112) }, { dst := some 17, op := .mv (.t 113) }]) (.seq (.reg 21 [{ dst := some 114, op := .mv (.t 17) }, { dst := some 11, op := .mv (.t 114) }]) (.seq (.reg 22 [{ dst := some 115, op := .mv (.t 16) }, { dst := some 116, op := .mv (.t 1) }, { dst := some 117, op := .bin .sub (.t 115) (.t 116) }, { dst := some 118, op := .mv (.t 2) }, { dst := some 119, op := .mv (.t 16) }, { dst := some 120, op := .bin .sub (.t 118) (.t 119) }, { dst := some 18, op := .mv (.t 117) }, { dst := some 19, op := .mv (.t 120) }]) (.seq (.reg 23 [{ dst := some 121, op := .mv (.t 12) }, { dst := some 122, op := .bin .quo (.t 121) (.c (.int .i64 (8))) }, { dst := some 20, op := .mv (.t 122) }]) (.seq (.reg 24 [{ dst := some 123, op := .mv (.t 18) }, { dst := some 124, op := .mv (.t 19) }, { dst := some 125, op := .bin .lss (.t 123) (.t 124) }]) (.trim [0, 1, 2, 3, 4, 10, 11] [] [] [] (.cond (.t 125) s229_7 s229_8)))))))
def p231 : SCode := (.seq (.seq (.draw 17 [{ dst := some 81, op := .mv (.t 1) }, { dst := some 82, op := .bin .gtr (.t 81) (.c (.int .i64 (0))) }, { dst := some 83, op := .mv (.t 82) }, { dst := some 84, op := .mv (.t 4), guard := some (83, true) }, { dst := some 85, op := .mv (.t 0), guard := some (83, true) }, { dst := some 86, op := .mv (.t 1), guard := some (83, true) }, { dst := some 87, op := .bin .sub (.t 86) (.c (.int .i64 (1))), guard := some (83, true) }, { dst := some 88, op := .iaddr 1 (.t 85) (.t 87), guard := some (83, true) }, { dst := some 89, op := .load false 1 (.t 88), guard := some (83, true) }, { dst := some 90, op := .mv (.t 0), guard := some (83, true) }, { dst := some 91, op := .mv (.t 13), guard := some (83, true) }, { dst := some 92, op := .iaddr 1 (.t 90) (.t 91), guard := some (83, true) }, { dst := some 93, op := .load false 1 (.t 92), guard := some (83, true) }, { dst := some 94, op := .call (.t 84) [.t 89, .t 93], guard := some (83, true) }, { dst := some 95, op := .bin .lss (.t 94) (.c (.int .i64 (0))), guard := some (83, true) }, { dst := some 96, op := .un .not (.t 95), guard := some (83, true) }, { dst := some 97, op := .pick (.t 83) (.t 96) (.c (.bool false)) }] [(7, 11), (8, 11), (7, 12), (8, 12)]) (.trim [0, 1, 2, 3, 4, 12, 13] [] [(1, [0, 1, 2, 3, 4, 10, 11])] [] (.cond (.t 97) s229_6 .skip))) p231b)
def p231a : SCode := (.seq (.seq (.reg 15 [{ dst := some 68, op := .mv (.t 10) }, { dst := some 69, op := .mv (.t 68) }, { dst := some 70, op := .mv (.t 11), guard := some (69, true) }, { dst := some 71, op := .pick (.t 69) (.t 70) (.c (.bool false)) }, { dst := some 72, op := .mv (.t 71) }, { dst := some 73, op := .mv (.t 14), guard := some (72, true) }, { dst := some 74, op := .bin .eql (.t 73) (.c (.int .i64 (1))), guard := some (72, true) }, { dst := some 75, op := .pick (.t 72) (.t 74) (.c (.bool false)) }]) (.trim [0, 1, 2, 3, 4, 10, 11, 12, 13] [] [] [] (.cond (.t 75) s229_5 .skip))) p231)
def tailPdq (d3 : Array ByteArray) (a b limit : Nat) (wasBalanced wasPartitioned : Bool) (pivot : Nat) : Array ByteArray :=
  if a > 0 && !ltV d3[a - 1]! d3[pivot]! then
    match Sort.partitionEqual ltV d3 a b pivot with
    | (mid, d4) => if _h : a < mid ∧ mid ≤ b then Sort.pdq ltV d4 mid b limit wasBalanced wasPartitioned else d4
  else
    match Sort.partition ltV d3 a b pivot with
    | (mid, alreadyPartitioned, d4) =>
      if _h : a ≤ mid ∧ mid < b then
        if mid - a < b - mid then
          Sort.pdq ltV (Sort.pdq ltV d4 a mid limit true true) (mid + 1) b limit (decide (mid - a ≥ (b - a) / 8)) alreadyPartitioned
        else
          Sort.pdq ltV (Sort.pdq ltV d4 (mid + 1) b limit true true) a mid limit (decide (b - mid ≥ (b - a) / 8)) alreadyPartitioned
      else d4
theorem pdq_unf (d : Array ByteArray) (a b limit : Nat) (wb wp : Bool) (h1 : ¬ b - a ≤ 12) (h2 : ¬ limit = 0) : Sort.pdq ltV d a b limit wb wp =
    (let d1 := if !wb then Sort.breakPatterns d a b else d
     let limit := if !wb then limit - 1 else limit
     let c := Sort.choosePivot ltV d1 a b
     let d2 := if c.2 = .decreasing then Sort.reverseRange d1 a b else d1
     let pivot := if c.2 = .decreasing then (b - 1) - (c.1 - a) else c.1
     let hint := if c.2 = .decreasing then Sort.Hint.increasing else c.2
     let pi := if wb && wp && hint = .increasing then Sort.partialInsertionSort ltV d2 a b else (d2, false)
     if pi.2 then pi.1 else tailPdq pi.1 a b limit wb wp pivot) := by
  rw [Sort.pdq, if_neg h1, if_neg h2]; rfl
/-- One round, behind the choice of the pivot: what is left to do. -/
theorem tail231 (N n : Nat) (hc : SortCall E N n) (d : Array ByteArray) (a b limit : Nat) (wb wp : Bool) (p : Nat) (hN : d.size = N) (hab : 12 < b - a) (hn : b - a ≤ n + 1) (hb : b ≤ N) (hs : N < 50) (hl : limit < 1000) (hp1 : a ≤ p) (hp2 : p < b) (hB : Sort.Below ltV a b d) :
    ∃ (a' b' : Nat) (wb' wp' : Bool) (d' : Array ByteArray) (ex : Ex), (ex = .nrm ∨ ex = .ex 1) ∧ tailPdq d a b limit wb wp p = Sort.pdq ltV d' a' b' limit wb' wp' ∧ Sort.Below ltV a' b' d' ∧ d'.size = N ∧ a' ≤ b' ∧ b' ≤ N ∧ b' - a' < b - a ∧
    sexW E 1 p231 ⟨[(0, .hsl (.ext 0) 0 d.size), (1, .p (.int .i64 a)), (2, .p (.int .i64 b)), (3, .p (.int .i64 limit)), (4, .fn 111 [] []), (10, .p (.bool wb)), (11, .p (.bool wp)), (12, .p (.int .i64 (b - a : Nat))), (13, .p (.int .i64 p))], [(.ext 0, some (.parr (d.toList.map .str) 1 false))]⟩ = some (ex, ⟨[(0, .hsl (.ext 0) 0 d.size), (1, .p (.int .i64 a')), (2, .p (.int .i64 b')), (3, .p (.int .i64 limit)), (4, .fn 111 [] []), (10, .p (.bool wb')), (11, .p (.bool wp'))], [(.ext 0, some (.parr (d'.toList.map .str) 1 false))]⟩) := by
  subst hN
  have ha : a < d.size := by omega
  have hp : p < d.size := by omega
  have g1 := ar_get hp
  have n1 : (0 : Int) ≤ (p : Int) := by omega
  have h0 : 0 + d.size ≤ d.size := by omega
  have a0 : d.toList.length = d.size := Array.length_toList
  have e3 := e271 (E := E) d a b p (by omega) hb hp (by omega)
  obtain ⟨k1, k2, k3, k4, k5⟩ := Go.Sort.partition_holds ltV swo_ltV d a b p hp1 hp2 hb
  -- the plain way
  have plain : (decide (a > 0) && !ltV d[a - 1]! d[p]!) = false → ∃ (a' b' : Nat) (wb' wp' : Bool) (d' : Array ByteArray), tailPdq d a b limit wb wp p = Sort.pdq ltV d' a' b' limit wb' wp' ∧ Sort.Below ltV a' b' d' ∧ d'.size = d.size ∧ a' ≤ b' ∧ b' ≤ d.size ∧ b' - a' < b - a ∧
      sexW E 1 p231b ⟨[(0, .hsl (.ext 0) 0 d.size), (1, .p (.int .i64 a)), (2, .p (.int .i64 b)), (3, .p (.int .i64 limit)), (4, .fn 111 [] []), (12, .p (.int .i64 (b - a : Nat))), (13, .p (.int .i64 p))], [(.ext 0, some (.parr (d.toList.map .str) 1 false))]⟩ = some (.nrm, ⟨[(0, .hsl (.ext 0) 0 d.size), (1, .p (.int .i64 a')), (2, .p (.int .i64 b')), (3, .p (.int .i64 limit)), (4, .fn 111 [] []), (10, .p (.bool wb')), (11, .p (.bool wp'))], [(.ext 0, some (.parr (d'.toList.map .str) 1 false))]⟩) := by
    intro h1
    unfold tailPdq
    rw [if_neg (by simp [h1])]
    generalize hpt : Sort.partition ltV d a b p = pt at *
    obtain ⟨mid, al, d4⟩ := pt
    dsimp only at k1 k2 k3 k4 k5 e3 ⊢
    rw [dif_pos ⟨k1, k2⟩]
    have w1 := wSub mid a k1 (by omega)
    have w2 := wSub b mid (by omega) (by omega)
    have w3 := wAdd1 mid (by omega)
    have q1 : IntKind.i64.wrap (((b - a : Nat) : Int).tdiv 8) = (((b - a) / 8 : Nat) : Int) := by
      rw [show ((b - a : Nat) : Int).tdiv 8 = (((b - a) / 8 : Nat) : Int) from rfl, wrapN _ (by omega)]
    have z4 : d4.size = d.size := k3.1
    have hB4 := below_perm hb k3 hB
    by_cases h4 : mid - a < b - mid
    · have f1 : ((mid - a : Nat) : Int) < ((b - mid : Nat) : Int) := by omega
      have hB5 := below_less (Nat.le_of_lt k2) hB4
      have c1 := hc d4 a mid limit z4 k1 (by omega) (by omega) hs hl hB5
      obtain ⟨m1, _⟩ := Go.Sort.pdq_sorts ltV swo_ltV d4 a mid limit true true k1 (by omega) hB5
      refine ⟨mid + 1, b, decide (mid - a ≥ (b - a) / 8), al, Sort.pdq ltV d4 a mid limit true true, by rw [if_pos h4], ?_, by rw [m1.1, z4], by omega, hb, by omega, ?_⟩
      · right
        intro i i1 i2
        rw [Nat.add_sub_cancel, m1.2.1 i (.inr (by omega)), m1.2.1 mid (.inr (by omega))]
        exact k5 i (by omega) i2
      · have f2 : decide ((((b - a) / 8 : Nat) : Int) ≤ ((mid - a : Nat) : Int)) = decide (mid - a ≥ (b - a) / 8) := by simp only [decide_eq_decide]; omega
        simp -implicitDefEqProofs only [go_sem, p231b, s229_7, s229_8, e3, w1, w2, w3, q1, f1, f2, c1]
    · have f1 : ¬ ((mid - a : Nat) : Int) < ((b - mid : Nat) : Int) := by omega
      have hB5 : Sort.Below ltV (mid + 1) b d4 := by
        right
        intro i i1 i2
        rw [Nat.add_sub_cancel]
        exact k5 i (by omega) i2
      have c1 := hc d4 (mid + 1) b limit z4 (by omega) (by omega) hb hs hl hB5
      obtain ⟨m1, _⟩ := Go.Sort.pdq_sorts ltV swo_ltV d4 (mid + 1) b limit true true (by omega) (by omega) hB5
      refine ⟨a, mid, decide (b - mid ≥ (b - a) / 8), al, Sort.pdq ltV d4 (mid + 1) b limit true true, by rw [if_neg h4], ?_, by rw [m1.1, z4], by omega, by omega, by omega, ?_⟩
      · refine below_eq (fun i i1 i2 => m1.2.1 i (.inl (by omega))) (below_less (Nat.le_of_lt k2) hB4)
      · have f2 : decide ((((b - a) / 8 : Nat) : Int) ≤ ((b - mid : Nat) : Int)) = decide (b - mid ≥ (b - a) / 8) := by simp only [decide_eq_decide]; omega
        simp -implicitDefEqProofs only [go_sem, p231b, s229_7, s229_8, e3, w1, w2, w3, q1, f1, f2, c1]
  by_cases ha0 : a > 0
  · have f1 : (0 : Int) < (a : Int) := by omega
    have w1 : IntKind.i64.wrap ((a : Int) - 1) = ((a - 1 : Nat) : Int) := wSub a 1 (by omega) (by omega)
    have i1 : a - 1 < d.size := by omega
    have g2 := ar_get i1
    have n2 : (0 : Int) ≤ ((a - 1 : Nat) : Int) := by omega
    have e1 := e111 (E := E) d[a - 1]! d[p]!
    have e2 := cmpV_lt d[a - 1]! d[p]!
    cases hl1 : ltV d[a - 1]! d[p]! with
    | false =>
      rw [hl1] at e2
      have e4 := of_decide_eq_false e2
      have e5 := e270 (E := E) d a b p (by omega) hb hp (by omega)
      have pre : ∀ i, a ≤ i → i < b → ltV d[i]! d[p]! = false := by
        intro i x1 x2
        rcases hB with h0 | hB
        · omega
        · exact swo_ltV.ntrans _ _ _ (hB i x1 x2) hl1
      obtain ⟨m1, m2, m3, m4, m5⟩ := Go.Sort.partitionEqual_holds ltV swo_ltV d a b p hp1 hp2 hb pre
      unfold tailPdq
      rw [if_pos (by simp [ha0, hl1])]
      generalize hpt : Sort.partitionEqual ltV d a b p = pt at *
      obtain ⟨mid, d4⟩ := pt
      dsimp only at m1 m2 m3 m4 m5 e5 ⊢
      refine ⟨mid, b, wb, wp, d4, .ex 1, .inr rfl, by rw [dif_pos ⟨m1, m2⟩], ?_, m3.1, m2, hb, by omega, ?_⟩
      · right
        intro i x1 x2
        cases hc2 : ltV d4[i]! d4[mid - 1]! with
        | false => rfl
        | true =>
          have t1 := m5 i x1 x2
          have t2 := swo_ltV.trans _ _ _ t1 hc2
          rw [m4 (mid - 1) (by omega) (by omega)] at t2
          cases t2
      · simp -implicitDefEqProofs only [go_sem, p231, s229_6, f1, w1, i1, hp, g1, g2, n1, n2, h0, a0, e1, e4, e5]
    | true =>
      rw [hl1] at e2
      have e4 := of_decide_eq_true e2
      obtain ⟨a', b', wb', wp', d', r1, r2, r3, r4, r5, r6, r7⟩ := plain (by simp [hl1])
      refine ⟨a', b', wb', wp', d', .nrm, .inl rfl, r1, r2, r3, r4, r5, r6, ?_⟩
      simp -implicitDefEqProofs only [go_sem, p231, s229_6, f1, w1, i1, hp, g1, g2, n1, n2, h0, a0, e1, e4, r7]
  · have f1 : ¬ (0 : Int) < (a : Int) := by omega
    obtain ⟨a', b', wb', wp', d', r1, r2, r3, r4, r5, r6, r7⟩ := plain (by simp [ha0])
    refine ⟨a', b', wb', wp', d', .nrm, .inl rfl, r1, r2, r3, r4, r5, r6, ?_⟩
    simp -implicitDefEqProofs only [go_sem, p231, s229_6, f1, r7]
/-- A round behind the reversal. -/
theorem step231 (N n : Nat) (hc : SortCall E N n) (d : Array ByteArray) (a b limit : Nat) (wb wp : Bool) (p : Nat) (h : Sort.Hint) (hN : d.size = N) (hab : 12 < b - a) (hn : b - a ≤ n + 1) (hb : b ≤ N) (hs : N < 50) (hl : limit < 1000) (hp1 : a ≤ p) (hp2 : p < b) (hB : Sort.Below ltV a b d) :
    ((if wb && wp && h = .increasing then Sort.partialInsertionSort ltV d a b else (d, false)).2 = true ∧ sexW E 1 p231a ⟨[(0, .hsl (.ext 0) 0 d.size), (1, .p (.int .i64 a)), (2, .p (.int .i64 b)), (3, .p (.int .i64 limit)), (4, .fn 111 [] []), (10, .p (.bool wb)), (11, .p (.bool wp)), (12, .p (.int .i64 (b - a : Nat))), (13, .p (.int .i64 p)), (14, .p (.int .i64 (hintN h)))], [(.ext 0, some (.parr (d.toList.map .str) 1 false))]⟩ = some (.ret, ⟨[], [(.ext 0, some (.parr ((if wb && wp && h = .increasing then Sort.partialInsertionSort ltV d a b else (d, false)).1.toList.map .str) 1 false))]⟩)) ∨
    ((if wb && wp && h = .increasing then Sort.partialInsertionSort ltV d a b else (d, false)).2 = false ∧ (if wb && wp && h = .increasing then Sort.partialInsertionSort ltV d a b else (d, false)).1 = d ∧ ∃ (a' b' : Nat) (wb' wp' : Bool) (d' : Array ByteArray) (ex : Ex), (ex = .nrm ∨ ex = .ex 1) ∧ tailPdq d a b limit wb wp p = Sort.pdq ltV d' a' b' limit wb' wp' ∧ Sort.Below ltV a' b' d' ∧ d'.size = N ∧ a' ≤ b' ∧ b' ≤ N ∧ b' - a' < b - a ∧
    sexW E 1 p231a ⟨[(0, .hsl (.ext 0) 0 d.size), (1, .p (.int .i64 a)), (2, .p (.int .i64 b)), (3, .p (.int .i64 limit)), (4, .fn 111 [] []), (10, .p (.bool wb)), (11, .p (.bool wp)), (12, .p (.int .i64 (b - a : Nat))), (13, .p (.int .i64 p)), (14, .p (.int .i64 (hintN h)))], [(.ext 0, some (.parr (d.toList.map .str) 1 false))]⟩ = some (ex, ⟨[(0, .hsl (.ext 0) 0 d.size), (1, .p (.int .i64 a')), (2, .p (.int .i64 b')), (3, .p (.int .i64 limit)), (4, .fn 111 [] []), (10, .p (.bool wb')), (11, .p (.bool wp'))], [(.ext 0, some (.parr (d'.toList.map .str) 1 false))]⟩)) := by
  obtain ⟨a', b', wb', wp', d', ex, r0, r1, r2, r3, r4, r5, r6, r7⟩ := tail231 (E := E) N n hc d a b limit wb wp p hN hab hn hb hs hl hp1 hp2 hB
  have e1 := e269 (E := E) d a b (by omega) (by omega) (by omega)
  have pe := pi_eq d a b (by omega)
  by_cases hh : (wb && wp && h = .increasing) = true
  · simp only [Bool.and_eq_true, decide_eq_true_eq] at hh
    obtain ⟨⟨rfl, rfl⟩, rfl⟩ := hh
    simp only [Bool.and_self, decide_true, if_true, hintN]
    rw [pe] at e1 ⊢
    dsimp only at e1 ⊢
    cases hsrt : decide (Sort.scanSorted ltV d b (a + 1) = b) with
    | true =>
      rw [hsrt] at e1
      refine .inl ⟨rfl, ?_⟩
      simp -implicitDefEqProofs only [go_sem, p231a, s229_5, e1]
    | false =>
      rw [hsrt] at e1
      refine .inr ⟨rfl, rfl, a', b', wb', wp', d', ex, r0, r1, r2, r3, r4, r5, r6, ?_⟩
      simp -implicitDefEqProofs only [go_sem, p231a, s229_5, e1, r7]
  · rw [if_neg hh]
    refine .inr ⟨rfl, rfl, a', b', wb', wp', d', ex, r0, r1, r2, r3, r4, r5, r6, ?_⟩
    cases wb with
    | false => simp -implicitDefEqProofs only [go_sem, p231a, s229_5, r7]
    | true =>
      cases wp with
      | false => simp -implicitDefEqProofs only [go_sem, p231a, s229_5, r7]
      | true =>
        cases h with
        | increasing => exact absurd (by simp) hh
        | unknown => simp -implicitDefEqProofs only [go_sem, p231a, s229_5, hintN, r7]
        | decreasing => simp -implicitDefEqProofs only [go_sem, p231a, s229_5, hintN, r7]
end Go.Ab.S.SV

namespace Go.Ab.S
open Go Go.Ab
variable {E : Env} [EnvS E]

/-! ### The values and the bounds of envelopes -/
def bndP (v : ByteArray) (e : Evl) : Bool := validE e && (decide (e.b.v = v) && !decide (e.lo = 0))
def bndL (v : ByteArray) (l : List Evl) : List Int := (l.filter (bndP v)).flatMap fun e => [e.lo, e.hi]
theorem loop25 (v : ByteArray) (l : List Evl) (hl : l.length < 4000) (hth : ∀ e ∈ l, e.t.thin) :
    loopW E 0 [1, 5, 8, 9, 10] [.loc 1 0 0] (.trim [1, 5, 8, 9, 10] [4] [(0, [5])] [.loc 1 0 0] s25_3) (some ⟨[(1, .p (.str v)), (5, .hsl (.loc 1 0 0) 0 0), (8, .p (.sl 15 (l.map Evl.pv))), (9, .p (.int .i64 l.length)), (10, .p (.int .i64 0))], [(.loc 1 0 0, some (.parr [] 1 false))]⟩) =
    some (.ex 0, ⟨[(5, .hsl (.loc 1 0 0) 0 (bndL v l).length)], [(.loc 1 0 0, some (.parr ((bndL v l).map (.int .i64)) 1 false))]⟩) := by
  have key := range_loopI (loopW E 0 [1, 5, 8, 9, 10] [.loc 1 0 0] (.trim [1, 5, 8, 9, 10] [4] [(0, [5])] [.loc 1 0 0] s25_3)) l
    (fun i (o : List Int) => ⟨[(1, .p (.str v)), (5, .hsl (.loc 1 0 0) 0 o.length), (8, .p (.sl 15 (l.map Evl.pv))), (9, .p (.int .i64 l.length)), (10, .p (.int .i64 i))], [(.loc 1 0 0, some (.parr (o.map (.int .i64)) 1 false))]⟩)
    (fun o r => some (.ex 0, ⟨[(5, .hsl (.loc 1 0 0) 0 (o ++ bndL v r).length)], [(.loc 1 0 0, some (.parr ((o ++ bndL v r).map (.int .i64)) 1 false))]⟩)) (fun i o => o.length ≤ 2 * i)
  refine key ?_ ?_ [] (by simp)
  · intro o _
    rw [loopW_some]
    generalize hK : loopW E 0 _ _ _ = K
    simp -implicitDefEqProofs only [go_sem, s25_3, s25_2, s25_1, show bndL v [] = [] from rfl, List.append_nil]
  · intro i o e r hx hn ho ih
    obtain ⟨f1, f2, f3⟩ := rangeFacts i l.length (by omega) (by omega)
    have e1 := e81 (E := E) e (hth e (List.mem_of_getElem? hx))
    have hm1 : o.length + 2 ≤ most := by unfold most; omega
    rw [loopW_some]
    generalize hK : loopW E 0 _ _ _ = K at ih ⊢
    by_cases hb : bndP v e = true
    · have ih' := ih (o ++ [e.lo, e.hi]) (by simp; omega)
      have hc : bndL v (e :: r) = [e.lo, e.hi] ++ bndL v r := by simp [bndL, hb]
      rw [List.append_assoc, ← hc] at ih'
      have hb' := hb
      simp only [bndP, Bool.and_eq_true, decide_eq_true_eq, Bool.not_eq_true', decide_eq_false_iff_not] at hb'
      obtain ⟨h1, h2, h3⟩ := hb'
      rw [h1] at e1
      try dsimp only at ih' ⊢
      simp only [List.map_append, List.map_cons, List.map_nil, List.length_append, List.length_cons, List.length_nil, Nat.zero_add, Nat.reduceAdd] at ih' ⊢
      unfold Evl.pv at *
      have h2' : decide (e.b.v = v) = true := decide_eq_true h2
      simp -implicitDefEqProofs only [go_sem, s25_3, s25_2, s25_1, hx, f1, f2, f3, e1, h2', h3, hm1]
      exact ih'
    · have ih' := ih o (by omega)
      have hc : bndL v (e :: r) = bndL v r := by simp [bndL, hb]
      rw [hc]
      try dsimp only at ih' ⊢
      unfold Evl.pv at *
      cases h1 : validE e with
      | false =>
        rw [h1] at e1
        simp -implicitDefEqProofs only [go_sem, s25_3, s25_2, s25_1, hx, f1, f2, f3, e1]
        exact ih'
      | true =>
        rw [h1] at e1
        by_cases h2 : e.b.v = v
        · have h3 : e.lo = 0 := by
            by_cases h3 : e.lo = 0
            · exact h3
            · exact absurd (by simp [bndP, h1, h2, h3]) hb
          have h2' : decide (e.b.v = v) = true := decide_eq_true h2
          rw [h3] at e1
          simp -implicitDefEqProofs only [go_sem, s25_3, s25_2, s25_1, hx, f1, f2, f3, h3, e1, h2']
          exact ih'
        · have h2' : decide (e.b.v = v) = false := decide_eq_false h2
          simp -implicitDefEqProofs only [go_sem, s25_3, s25_2, s25_1, hx, f1, f2, f3, e1, h2']
          exact ih'
theorem bndL_len (v : ByteArray) : ∀ l : List Evl, (bndL v l).length ≤ 2 * l.length
  | [] => by simp [bndL]
  | e :: r => by
    have ih := bndL_len v r
    have h : (bndL v (e :: r)).length ≤ 2 + (bndL v r).length := by
      unfold bndL
      rw [List.filter_cons]
      split
      · rw [List.flatMap_cons, List.length_append, List.length_cons, List.length_cons, List.length_nil]; omega
      · omega
    rw [List.length_cons]; omega
def bndsN (l : List Evl) (v : ByteArray) : List Int := uniqI (bndL v l)
theorem e25 (l : List Evl) (v : ByteArray) (hl : l.length ≤ 16) (hth : ∀ e ∈ l, e.t.thin) : callW E 25 [.p (.sl 15 (l.map Evl.pv)), .p (.str v)] [] = some ⟨.p (.sl 1 ((bndsN l v).map (.int .i64))), [], []⟩ := by
  have lp := loop25 (E := E) v l (by omega) hth
  have hf := bndL_len v l
  obtain ⟨es, e2⟩ := e114 (E := E) (bndL v l) (by omega)
  unfold bndsN
  rw [callW_eq, EnvS.h 25 F25 rfl]
  simp -implicitDefEqProofs only [go_sem, F25, s25, s25_4, lp, e2]
end Go.Ab.S

namespace Go.Ab.S
open Go Go.Ab
variable {E : Env} [EnvS E]

/-! ### Downward -/
/-- The range downward: from the greatest of the first k bounds. -/
def downK (h : Int → Bool) (zs : List Int) : Nat → Int → Int
  | 0, x => x
  | k + 1, x => match zs[k]? with
    | none => x
    | some z => if x ≤ z then downK h zs k x else if h z = true then downK h zs k z else x
theorem e126 (zs : List Int) : callW E 126 [.p (.sl 1 (zs.map (.int .i64)))] [] = some ⟨.fn 203 [] [.ptr (.ext 0) 0], [], [.box [.p (.sl 1 (zs.map (.int .i64)))]]⟩ := by
  rw [callW_eq, EnvS.h 126 F126 rfl]
  simp -implicitDefEqProofs only [go_sem, F126, s126]
theorem e127 (node : Nat) (hnode : node < 10) (ms : List Mem) (hc : ConfOk ms) (v : ByteArray) (z w : Int) (l : List Evl) (hl : l.length < 4000) (hn : nodesOk l) :
    callW E 127 [.p (.int .i64 z), .ptr (.ext 0) 0, .ptr (.ext 1) 0, .ptr (.ext 2) 0] [.box [.p (.int .i64 node), .p (.sl 4 (ms.map Mem.pv)), .p (.sl 15 (l.map Evl.pv))], .box [.p (.str v)], .box [.p (.int .i64 w)]] = some ⟨.p (.bool ((great ms (who (accC · v z w) l)).testBit node)), [.box [.p (.int .i64 node), .p (.sl 4 (ms.map Mem.pv)), .p (.sl 15 (l.map Evl.pv))], .box [.p (.str v)], .box [.p (.int .i64 w)]], []⟩ := by
  have e1 := e120 (E := E) node hnode ms hc v z w l hl hn
  unfold seenPv at *
  rw [callW_eq, EnvS.h 127 F127 rfl]
  simp -implicitDefEqProofs only [go_sem, F127, s127, e1]
theorem e124_127 (node : Nat) (hnode : node < 10) (ms : List Mem) (hc : ConfOk ms) (v : ByteArray) (x w : Int) (l : List Evl) (hl : l.length < 4000) (hn : nodesOk l) (zs : List Int) (hz : zs.length ≤ most) :
    callW E 124 [.p (.sl 1 (zs.map (.int .i64))), .p (.int .i64 x), .fn 127 [] [.ptr (.ext 0) 0, .ptr (.ext 1) 0, .ptr (.ext 2) 0]] [.box [.p (.int .i64 node), .p (.sl 4 (ms.map Mem.pv)), .p (.sl 15 (l.map Evl.pv))], .box [.p (.str v)], .box [.p (.int .i64 w)]] = some ⟨.p (.int .i64 (downK (fun z => (great ms (who (accC · v z w) l)).testBit node) zs zs.length x)), [.box [.p (.int .i64 node), .p (.sl 4 (ms.map Mem.pv)), .p (.sl 15 (l.map Evl.pv))], .box [.p (.str v)], .box [.p (.int .i64 w)]], []⟩ := by
  have e0 := e126 (E := E) zs
  have hcap : ∀ x : Int, capOf 203 [(.ext 0, some (.box [.p (.int .i64 node), .p (.sl 4 (ms.map Mem.pv)), .p (.sl 15 (l.map Evl.pv))])), (.ext 1, some (.box [.p (.str v)])), (.ext 2, some (.box [.p (.int .i64 w)])), (.loc 0 0 0, some (.box [.p (.int .i64 x)])), (.loc 0 1 0, some (.box [.fn 127 [] [.ptr (.ext 0) 0, .ptr (.ext 1) 0, .ptr (.ext 2) 0]])), (.loc 1 1 0, some (.box [.p (.sl 1 (zs.map (.int .i64)))]))] (.fn 203 [] [.ptr (.loc 1 1 0) 0]) = some (.loc 1 1 0, zs) := fun x => capOf_eq 203 _ _ zs hz rfl
  have lp : ∀ (ns : List Nm) (T : Tm), ns = [.loc 0 0 0, .loc 0 1 0, .loc 1 1 0, .ext 0, .ext 1, .ext 2] → T = [(4, .ptr (.loc 0 0 0) 0), (5, .ptr (.loc 0 1 0) 0), (10, .fn 203 [] [.ptr (.loc 1 1 0) 0])] →
      ∀ (k : Nat) (x : Int), k ≤ zs.length → ∃ e, (e = .nrm ∨ e = .ex 0) ∧ roundsX (roundY E ns T 11 12 s124_1 s124_3) (.loc 1 1 0) zs k [(.ext 0, some (.box [.p (.int .i64 node), .p (.sl 4 (ms.map Mem.pv)), .p (.sl 15 (l.map Evl.pv))])), (.ext 1, some (.box [.p (.str v)])), (.ext 2, some (.box [.p (.int .i64 w)])), (.loc 0 0 0, some (.box [.p (.int .i64 x)])), (.loc 0 1 0, some (.box [.fn 127 [] [.ptr (.ext 0) 0, .ptr (.ext 1) 0, .ptr (.ext 2) 0]])), (.loc 1 1 0, some (.box [.p (.sl 1 (zs.map (.int .i64)))]))] = some (e, [(.ext 0, some (.box [.p (.int .i64 node), .p (.sl 4 (ms.map Mem.pv)), .p (.sl 15 (l.map Evl.pv))])), (.ext 1, some (.box [.p (.str v)])), (.ext 2, some (.box [.p (.int .i64 w)])), (.loc 0 0 0, some (.box [.p (.int .i64 (downK (fun z => (great ms (who (accC · v z w) l)).testBit node) zs k x))])), (.loc 0 1 0, some (.box [.fn 127 [] [.ptr (.ext 0) 0, .ptr (.ext 1) 0, .ptr (.ext 2) 0]])), (.loc 1 1 0, some (.box [.p (.sl 1 (zs.map (.int .i64)))]))]) := by
    intro ns T hns hT k
    induction k with
    | zero => intro x _; exact ⟨.nrm, .inl rfl, rfl⟩
    | succ k ih =>
      intro x hk
      obtain ⟨z, hzk⟩ : ∃ z, zs[k]? = some z := ⟨zs[k]'(by omega), List.getElem?_eq_getElem (by omega)⟩
      have e1 := e127 (E := E) node hnode ms hc v z w l hl hn
      by_cases h1 : x ≤ z
      · obtain ⟨e, h2, h3⟩ := ih x (by omega)
        refine ⟨e, h2, ?_⟩
        rw [downK, hzk]
        simp only [h1, if_true]
        rw [roundsX_step hzk (H' := [(.ext 0, some (.box [.p (.int .i64 node), .p (.sl 4 (ms.map Mem.pv)), .p (.sl 15 (l.map Evl.pv))])), (.ext 1, some (.box [.p (.str v)])), (.ext 2, some (.box [.p (.int .i64 w)])), (.loc 0 0 0, some (.box [.p (.int .i64 x)])), (.loc 0 1 0, some (.box [.fn 127 [] [.ptr (.ext 0) 0, .ptr (.ext 1) 0, .ptr (.ext 2) 0]])), (.loc 1 1 0, some (.box [.p (.sl 1 (zs.map (.int .i64)))]))]) ?_ (capAt_eq _ _ zs rfl)]
        · exact h3
        · rw [roundY_eq]
          subst hns hT
          simp -implicitDefEqProofs only [go_sem, s124_1, s124_2, s124_3, h1]
      · cases h4 : (fun z => (great ms (who (accC · v z w) l)).testBit node) z with
        | true =>
          obtain ⟨e, h2, h3⟩ := ih z (by omega)
          refine ⟨e, h2, ?_⟩
          rw [downK, hzk]
          simp only [h1, if_false, h4, if_true]
          rw [roundsX_step hzk (H' := [(.ext 0, some (.box [.p (.int .i64 node), .p (.sl 4 (ms.map Mem.pv)), .p (.sl 15 (l.map Evl.pv))])), (.ext 1, some (.box [.p (.str v)])), (.ext 2, some (.box [.p (.int .i64 w)])), (.loc 0 0 0, some (.box [.p (.int .i64 z)])), (.loc 0 1 0, some (.box [.fn 127 [] [.ptr (.ext 0) 0, .ptr (.ext 1) 0, .ptr (.ext 2) 0]])), (.loc 1 1 0, some (.box [.p (.sl 1 (zs.map (.int .i64)))]))]) ?_ (capAt_eq _ _ zs rfl)]
          · exact h3
          · rw [roundY_eq]
            subst hns hT
            dsimp only at h4
            rw [h4] at e1
            simp -implicitDefEqProofs only [go_sem, s124_1, s124_2, s124_3, h1, e1]
        | false =>
          refine ⟨.ex 0, .inr rfl, ?_⟩
          rw [downK, hzk]
          simp only [h1, if_false, h4, Bool.false_eq_true]
          rw [roundsX_ex (id := 0) hzk (H' := [(.ext 0, some (.box [.p (.int .i64 node), .p (.sl 4 (ms.map Mem.pv)), .p (.sl 15 (l.map Evl.pv))])), (.ext 1, some (.box [.p (.str v)])), (.ext 2, some (.box [.p (.int .i64 w)])), (.loc 0 0 0, some (.box [.p (.int .i64 x)])), (.loc 0 1 0, some (.box [.fn 127 [] [.ptr (.ext 0) 0, .ptr (.ext 1) 0, .ptr (.ext 2) 0]])), (.loc 1 1 0, some (.box [.p (.sl 1 (zs.map (.int .i64)))]))]) ?_ (capAt_eq _ _ zs rfl)]
          · rw [roundY_eq]
            subst hns hT
            dsimp only at h4
            rw [h4] at e1
            simp -implicitDefEqProofs only [go_sem, s124_1, s124_2, s124_3, h1, e1]
  obtain ⟨e, h2, h3⟩ := lp _ _ rfl rfl zs.length x (Nat.le_refl _)
  rw [callW_eq, EnvS.h 124 F124 rfl]
  rcases h2 with rfl | rfl
  · simp -implicitDefEqProofs only [go_sem, F124, s124, s124_4, e0, hcap, h3]
  · simp -implicitDefEqProofs only [go_sem, F124, s124, s124_4, e0, hcap, h3]
end Go.Ab.S

namespace Go.Ab.S
open Go Go.Ab
variable {E : Env} [EnvS E]

/-! ### The trusts that are made are valid -/
theorem tn_mem (l : List Int) : ∀ (k i a : Nat), ∀ x ∈ (tn l k i a).1, (i : Int) ≤ x ∧ x < (i + k : Nat)
  | 0, i, a => by simp [tn]
  | k + 1, i, a => by
    intro x hx
    have ih := tn_mem l k (i + 1) (dA l a 5)
    simp only [tn] at hx
    split at hx
    · simp only [List.mem_cons] at hx
      rcases hx with rfl | hx
      · omega
      · have := ih x hx; omega
    · have := ih x hx; omega
theorem tn_of (l : List Int) : ∀ (k i a acc : Nat), i + k ≤ 10 → acc < 2 ^ i → (ofL acc (tn l k i a).1).2 = 0
  | 0, i, a, acc, h, h2 => by simp [tn, ofL]
  | k + 1, i, a, acc, h, h2 => by
    simp only [tn]
    split
    · have h3 : acc.testBit i = false := Nat.testBit_lt_two_pow h2
      have h4 : acc ||| 2 ^ i < 2 ^ (i + 1) := Nat.or_lt_two_pow (Nat.lt_of_lt_of_le h2 (Nat.pow_le_pow_right (by decide) (by omega))) (Nat.pow_lt_pow_right (by decide) (by omega))
      rw [ofL_cons _ _ _ (by omega) (by simpa using h3)]
      simp only [Int.toNat_natCast]
      exact tn_of l k (i + 1) (dA l a 5) _ (by omega) h4
    · exact tn_of l k (i + 1) (dA l a 5) acc (by omega) (Nat.lt_of_lt_of_le h2 (Nat.pow_le_pow_right (by decide) (by omega)))
/-- Trusts of some of the first n nodes. -/
structure TrG (n : Nat) (t : Tr) : Prop where
  thin : t.thin
  ok : errT t = 0
  nn : 1 ≤ t.ns.length
  ns : ∀ x ∈ t.ns, 0 ≤ x ∧ x < n
  is : ∀ x ∈ t.is, ∃ y : Int, x = ⟨1, [y]⟩ ∧ 0 ≤ y ∧ y < n
theorem any_bad {n : Nat} (hn : n ≤ 10) {l : List Int} (h : ∀ x ∈ l, 0 ≤ x ∧ x < n) : l.any badN = false := by
  rw [List.any_eq_false]
  intro x hx
  have := h x hx
  simp [badN]; omega
theorem ofL_one (y : Int) (h : 0 ≤ y ∧ y < 10) : (ofL 0 [y]).2 = 0 := by
  rw [ofL_cons _ _ _ (by omega) (by simp)]
  rfl
theorem trG_ok (l : List Int) (a n : Nat) (h1 : 1 ≤ n) (h10 : n ≤ 10) : TrG n (trG l a n).1 := by
  have g1 := trR2_len l a n h1
  have g2 := trI_len l a n
  have m1 : ∀ x ∈ (trR2 l a n).1, 0 ≤ x ∧ x < n := by
    intro x hx
    unfold trR2 at hx
    dsimp only at hx
    split at hx
    · simp only [List.mem_cons, List.not_mem_nil, or_false] at hx
      subst hx
      exact ⟨dV_nonneg .., dV_lt _ _ _ (by omega)⟩
    · have := tn_mem l n 0 a x hx
      omega
  have m2 : ∀ x ∈ (trI l a n).1, ∃ y : Int, x = ⟨1, [y]⟩ ∧ 0 ≤ y ∧ y < n := by
    intro x hx
    unfold trI at hx
    dsimp only at hx
    split at hx
    · simp only [List.mem_cons, List.not_mem_nil, or_false] at hx
      subst hx
      exact ⟨_, rfl, dV_nonneg .., dV_lt _ _ _ (by omega)⟩
    · simp at hx
  have o1 : (ofL 0 (trR2 l a n).1).2 = 0 := by
    unfold trR2
    dsimp only
    split
    · exact ofL_one _ ⟨dV_nonneg .., by have := dV_lt l (tn l n 0 a).2 n (by omega); omega⟩
    · exact tn_of l n 0 a 0 (by omega) (by decide)
  have o2 : errIs (trI l a n).1 = 0 := by
    cases hi : (trI l a n).1 with
    | nil => rfl
    | cons x r =>
      have hr : r = [] := by
        rw [hi] at g2
        simp only [List.length_cons] at g2
        exact List.length_eq_zero_iff.1 (by omega)
      subst hr
      obtain ⟨y, rfl, y1, y2⟩ := m2 x (by rw [hi]; exact List.mem_cons_self)
      have : errI ⟨1, [y]⟩ = 0 := by
        unfold errI
        rw [if_neg (by simp), if_neg (by simp [badN]; omega)]
        exact ofL_one y ⟨y1, by omega⟩
      simp [errIs, this]
  have gk : 1 ≤ trK l a n ∧ trK l a n ≤ 11 := by unfold trK; omega
  have th : 1 ≤ (trG l a n).1.th ∧ (trG l a n).1.th ≤ trK l a n := by
    unfold trG
    dsimp only
    split
    · omega
    · unfold trT
      have b1 := dV_nonneg l (trI l a n).2 (trD l a n)
      have b2 := dV_lt l (trI l a n).2 (trD l a n) (by unfold trD; omega)
      unfold trD at *
      omega
  refine ⟨⟨?_, ?_, ?_⟩, ?_, ?_, ?_, ?_⟩
  · show (trR2 l a n).1.length ≤ 12; omega
  · show (trI l a n).1.length ≤ 4; omega
  · intro x hx
    obtain ⟨y, rfl, _⟩ := m2 x hx
    unfold In.thin; simp
  · unfold errT
    rw [if_neg (by unfold trK at th; show ¬ ((trG l a n).1.th < 1 ∨ ((trR2 l a n).1.length : Int) + ((trI l a n).1.length : Int) < (trG l a n).1.th); omega), if_neg (by rw [show (trG l a n).1.ns = (trR2 l a n).1 from rfl, any_bad h10 m1]; simp), if_pos (by exact o1)]
    exact o2
  · exact g1.1
  · exact m1
  · exact m2
end Go.Ab.S
