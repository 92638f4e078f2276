/- A part of the proof: an executor over plain data, shown sound for the model, and what it computes of the functions. -/
import Derived.Test.YtmnjnpgmenigiaaGreatBac8f6e1429
set_option linter.all false
namespace Go.Ab.S.SB
open Go Go.Ab Go.Ab.S
variable {E : Env} [EnvS E]
set_option maxRecDepth 10000
instance : Inhabited Bal := ⟨⟨0, ByteArray.empty⟩⟩
theorem raw187 : E.raw 187 = true := raw_T 187 F187 rfl rfl
theorem raw227 : E.raw 227 = true := raw_T 227 F227 rfl rfl
theorem raw254 : E.raw 254 = true := raw_T 254 F254 rfl rfl
theorem raw255 : E.raw 255 = true := raw_T 255 F255 rfl rfl
theorem raw256 : E.raw 256 = true := raw_T 256 F256 rfl rfl
theorem raw257 : E.raw 257 = true := raw_T 257 F257 rfl rfl
theorem raw258 : E.raw 258 = true := raw_T 258 F258 rfl rfl
theorem raw259 : E.raw 259 = true := raw_T 259 F259 rfl rfl
theorem raw260 : E.raw 260 = true := raw_T 260 F260 rfl rfl
theorem raw261 : E.raw 261 = true := raw_T 261 F261 rfl rfl
theorem raw297 : E.raw 297 = true := raw_T 297 F297 rfl rfl
theorem raw300 : E.raw 300 = true := raw_T 300 F300 rfl rfl
theorem raw301 : E.raw 301 = true := raw_T 301 F301 rfl rfl
theorem raw317 : E.raw 317 = true := raw_T 317 F317 rfl rfl
attribute [go_sem] raw254 raw255 raw256 raw257 raw258 raw259 raw260 raw261 raw297 raw300 raw301 raw317 raw227 raw187
def ltB (x y : Bal) : Bool := decide (cmpB y x < 0)
theorem e108 (x y : Bal) : callW E 108 [.p (.agg [.int .i64 x.c, .str x.v]), .p (.agg [.int .i64 y.c, .str y.v])] [] = some ⟨.p (.int .i64 (cmpB y x)), [], []⟩ := by
  have e := e109 (E := E) y x
  rw [callW_eq, EnvS.h 108 F108 rfl]
  simp -implicitDefEqProofs only [go_sem, F108, s108, e]
theorem cmpB_lt (x y : Bal) : decide (cmpB y x < 0) = ltB x y := rfl
theorem ins_size (a : Nat) : ∀ (j : Nat) (d : Array Bal), (Sort.insInner ltB a j d).size = d.size
  | 0, d => rfl
  | j + 1, d => by
    rw [Sort.insInner]; split
    · rw [ins_size a j, swp_size]
    · rfl
/-! ### The heap -/
theorem sift_size (hi first : Nat) : ∀ (n root : Nat) (d : Array Bal), hi - root ≤ n → (Sort.siftDown ltB hi first root d).size = d.size := by
  intro n
  induction n with
  | zero =>
    intro root d h
    rw [Sort.siftDown, dif_pos (by omega)]
  | succ n ih =>
    intro root d h
    rw [Sort.siftDown]
    split
    · rfl
    · split
      · split
        · rfl
        · split
          · rw [ih _ _ (by omega), swp_size]
          · rfl
      · split
        · rfl
        · rw [ih _ _ (by omega), swp_size]
theorem siftS (hi first root : Nat) (d : Array Bal) : (Sort.siftDown ltB hi first root d).size = d.size := sift_size hi first _ root d (Nat.le_refl _)
theorem build_size (hi first : Nat) : ∀ (k : Nat) (d : Array Bal), (Sort.heapBuild ltB hi first k d).size = d.size
  | 0, d => rfl
  | k + 1, d => by rw [Sort.heapBuild, build_size hi first k, siftS]
/-! ### Turning a range round -/
/-! ### Breaking patterns -/
theorem brk_step (a len modulus : Nat) (hl : 8 ≤ len) (hl2 : len < 1024) (hm : 0 < modulus) (hm2 : modulus ≤ 2 * len) (d : Array Bal) (had : a + len ≤ d.size) (hs : d.size < 1152921504606846976) (i : Nat) (hi : i ≤ a + len / 4 * 2 + 1) (r : UInt64) :
    loopW E 1 [0, 1, 8, 9, 10, 11] [.loc 2 2 0] (.trim [0, 1, 8, 9, 10, 11] [] [(0, [])] [.loc 2 2 0] s256_3) (some ⟨[(0, .hsl (.ext 0) 0 d.size), (1, .p (.int .i64 a)), (8, .p (.int .i64 len)), (9, .ptr (.loc 2 2 0) 0), (10, .p (.int .u64 modulus)), (11, .p (.int .i64 i))], [(.ext 0, some (.parr (d.toList.map Bal.pv) 2 false)), (.loc 2 2 0, some (.box [.p (.int .u64 r.toNat)]))]⟩) =
    loopW E 1 [0, 1, 8, 9, 10, 11] [.loc 2 2 0] (.trim [0, 1, 8, 9, 10, 11] [] [(0, [])] [.loc 2 2 0] s256_3) (some ⟨[(0, .hsl (.ext 0) 0 d.size), (1, .p (.int .i64 a)), (8, .p (.int .i64 len)), (9, .ptr (.loc 2 2 0) 0), (10, .p (.int .u64 modulus)), (11, .p (.int .i64 (i + 1 : Nat)))], [(.ext 0, some (.parr ((Sort.breakStep a len modulus (r, d) i).2.toList.map Bal.pv) 2 false)), (.loc 2 2 0, some (.box [.p (.int .u64 (Sort.breakStep a len modulus (r, d) i).1.toNat)]))]⟩) := by
  generalize hK : loopW E 1 _ _ _ = K
  rw [← hK, loopW_some, hK]
  have e1 := e299 (E := E) r
  have hrl := UInt64.toNat_lt (Sort.xorNext r)
  have q1 : IntKind.i64.wrap ((len : Int).tdiv 4) = ((len / 4 : Nat) : Int) := by
    rw [show (len : Int).tdiv 4 = ((len / 4 : Nat) : Int) from rfl, wrapN _ (by omega)]
  have q2 : IntKind.i64.wrap (((len / 4 : Nat) : Int) * 2) = ((len / 4 * 2 : Nat) : Int) := by rw [wrap64 (by omega) (by omega)]; omega
  have q3 := wAdd a (len / 4 * 2) (by omega)
  have q4 := wAdd1 (a + len / 4 * 2) (by omega)
  have f1 : (i : Int) ≤ ((a + len / 4 * 2 + 1 : Nat) : Int) := by omega
  have q5 : IntKind.u64.wrap ((modulus : Int) - 1) = ((modulus - 1 : Nat) : Int) := by
    rw [show (modulus : Int) - 1 = ((modulus - 1 : Nat) : Int) by omega, u64w _ (by omega)]
  have q6 := andU (Sort.xorNext r).toNat (modulus - 1) hrl (by omega)
  have hand : (Sort.xorNext r).toNat &&& (modulus - 1) ≤ modulus - 1 := Nat.and_le_right
  unfold Sort.breakStep
  dsimp only
  generalize (Sort.xorNext r).toNat &&& (modulus - 1) = o at *
  have q7 := wrapN o (by omega)
  have w1 := wAdd1 i (by omega)
  have n1 : (0 : Int) ≤ (i : Int) := by omega
  have i1 : i < d.size := by omega
  have g1 := ar_get i1
  have h0 : 0 + d.size ≤ d.size := by omega
  have a0 : d.toList.length = d.size := Array.length_toList
  by_cases h : o ≥ len
  · have f2 : (len : Int) ≤ (o : Int) := by omega
    have q8 := wSub o len h (by omega)
    have q9 := wAdd a (o - len) (by omega)
    have n2 : (0 : Int) ≤ ((a + (o - len) : Nat) : Int) := by omega
    have i2 : a + (o - len) < d.size := by omega
    have g2 := ar_get i2
    obtain ⟨y, hy⟩ := set_get Bal.pv d i (a + (o - len)) d[a + (o - len)]! i2
    simp only [Bal.pv] at hy
    rw [if_pos h, swp_map]
    simp -implicitDefEqProofs only [go_sem, Bal.pv, s256_3, s256_2, s256_1, q1, q2, q3, q4, f1, e1, q5, q6, q7, f2, q8, q9, w1, n1, n2, i1, i2, g1, g2, h0, a0, hy, setE, List.length_map, List.length_set]
  · have f2 : ¬ (len : Int) ≤ (o : Int) := by omega
    have q9 := wAdd a o (by omega)
    have n2 : (0 : Int) ≤ ((a + o : Nat) : Int) := by omega
    have i2 : a + o < d.size := by omega
    have g2 := ar_get i2
    obtain ⟨y, hy⟩ := set_get Bal.pv d i (a + o) d[a + o]! i2
    simp only [Bal.pv] at hy
    rw [if_neg h, swp_map]
    simp -implicitDefEqProofs only [go_sem, Bal.pv, s256_3, s256_2, s256_1, q1, q2, q3, q4, f1, e1, q5, q6, q7, f2, q9, w1, n1, n2, i1, i2, g1, g2, h0, a0, hy, setE, List.length_map, List.length_set]
theorem step_size (a len modulus : Nat) (r : UInt64) (d : Array Bal) (i : Nat) : (Sort.breakStep a len modulus (r, d) i).2.size = d.size := by
  simp only [Sort.breakStep, swp_size]
/-! ### The pivot -/
theorem ord_lt {d : Array Bal} {a b s n : Nat} (ha : a < n) (hb : b < n) : (Sort.order2 ltB d a b s).1 < n ∧ (Sort.order2 ltB d a b s).2.1 < n ∧ (Sort.order2 ltB d a b s).2.2 ≤ s + 1 := by
  unfold Sort.order2
  split
  · exact ⟨hb, ha, Nat.le_refl _⟩
  · exact ⟨ha, hb, Nat.le_succ _⟩
/-! ### Scans -/
theorem scanUp_ge (p : Bal → Bool) (d : Array Bal) (j : Nat) : ∀ (n i : Nat), j + 1 - i ≤ n → i ≤ Sort.scanUp p d j i ∧ Sort.scanUp p d j i ≤ max i (j + 1) := by
  intro n
  induction n with
  | zero => intro i h; rw [Sort.scanUp, if_neg (by simp; omega)]; omega
  | succ n ih =>
    intro i h
    rw [Sort.scanUp]
    split
    · rename_i hc
      simp only [Bool.and_eq_true, decide_eq_true_eq] at hc
      have := ih (i + 1) (by omega)
      omega
    · omega
theorem scanDown_le (p : Bal → Bool) (d : Array Bal) (i : Nat) : ∀ j, Sort.scanDown p d i j ≤ j
  | 0 => Nat.le_refl 0
  | j + 1 => by
    rw [Sort.scanDown]
    split
    · exact Nat.le_succ_of_le (scanDown_le p d i j)
    · exact Nat.le_refl _
theorem up261_2 (d : Array Bal) (a j : Nat) (ha : a < d.size) (hj : j < d.size) (hs : d.size < 1152921504606846976) : ∀ (n i : Nat), j + 1 - i ≤ n → i < 1152921504606846977 →
    loopW E 1 [0, 1, 4, 12, 13] [] (.trim [0, 1, 4, 12, 13] [10, 11] [(0, [0, 1, 4, 12, 13])] [] s261_2) (some ⟨[(0, .hsl (.ext 0) 0 d.size), (1, .p (.int .i64 a)), (4, .fn 108 [] []), (12, .p (.int .i64 i)), (13, .p (.int .i64 j))], [(.ext 0, some (.parr (d.toList.map Bal.pv) 2 false))]⟩) = some (.ex 0, ⟨[(0, .hsl (.ext 0) 0 d.size), (1, .p (.int .i64 a)), (4, .fn 108 [] []), (12, .p (.int .i64 (Sort.scanUp (fun x => ltB x d[a]!) d j i : Nat))), (13, .p (.int .i64 j))], [(.ext 0, some (.parr (d.toList.map Bal.pv) 2 false))]⟩) := by
  generalize hK : loopW E 1 _ _ _ = K
  intro n
  induction n with
  | zero =>
    intro i hn hi
    have f1 : ¬ (i : Int) ≤ (j : Int) := by omega
    rw [Sort.scanUp, if_neg (by simp; omega)]
    rw [← hK, loopW_some, hK]
    simp -implicitDefEqProofs only [go_sem, Bal.pv, s261_2, s261_1, f1]
  | succ n ih =>
    intro i hn hi
    by_cases h : i ≤ j
    · have f1 : (i : Int) ≤ (j : Int) := by omega
      have n1 : (0 : Int) ≤ (i : Int) := by omega
      have n2 : (0 : Int) ≤ (a : Int) := by omega
      have i1 : i < d.size := by omega
      have g1 := ar_get i1
      have g2 := ar_get ha
      have h0 : 0 + d.size ≤ d.size := by omega
      have a0 : d.toList.length = d.size := Array.length_toList
      have w1 := wAdd1 i (by omega)
      have e1 := e108 (E := E) d[i]! d[a]!
      have e2 := cmpB_lt d[i]! d[a]!
      cases hl : ltB d[i]! d[a]! with
      | true =>
        rw [hl] at e2
        have e3 := of_decide_eq_true e2
        rw [Sort.scanUp, if_pos (by simp [h, hl])]
        have ih' := ih (i + 1) (by omega) (by omega)
        rw [← hK, loopW_some, hK]
        simp -implicitDefEqProofs only [go_sem, Bal.pv, s261_2, s261_1, f1, n1, n2, i1, ha, g1, g2, h0, a0, w1, e1, e3]
        exact ih'
      | false =>
        rw [hl] at e2
        have e3 := of_decide_eq_false e2
        rw [Sort.scanUp, if_neg (by simp [hl])]
        rw [← hK, loopW_some, hK]
        simp -implicitDefEqProofs only [go_sem, Bal.pv, s261_2, s261_1, f1, n1, n2, i1, ha, g1, g2, h0, a0, w1, e1, e3]
    · have f1 : ¬ (i : Int) ≤ (j : Int) := by omega
      rw [Sort.scanUp, if_neg (by simp; omega)]
      rw [← hK, loopW_some, hK]
      simp -implicitDefEqProofs only [go_sem, Bal.pv, s261_2, s261_1, f1]
theorem down261_5 (d : Array Bal) (a i : Nat) (ha : a < d.size) (hi1 : 1 ≤ i) (hs : d.size < 1152921504606846976) : ∀ (j : Nat), j < d.size →
    loopW E 1 [0, 1, 4, 12, 13] [] (.trim [0, 1, 4, 12, 13] [10, 11] [(2, [0, 1, 4, 12, 13])] [] s261_5) (some ⟨[(0, .hsl (.ext 0) 0 d.size), (1, .p (.int .i64 a)), (4, .fn 108 [] []), (12, .p (.int .i64 i)), (13, .p (.int .i64 j))], [(.ext 0, some (.parr (d.toList.map Bal.pv) 2 false))]⟩) = some (.ex 2, ⟨[(0, .hsl (.ext 0) 0 d.size), (1, .p (.int .i64 a)), (4, .fn 108 [] []), (12, .p (.int .i64 i)), (13, .p (.int .i64 (Sort.scanDown (fun x => !ltB x d[a]!) d i j : Nat)))], [(.ext 0, some (.parr (d.toList.map Bal.pv) 2 false))]⟩) := by
  generalize hK : loopW E 1 _ _ _ = K
  intro j
  induction j with
  | zero =>
    intro hj
    have f1 : ¬ (i : Int) ≤ 0 := by omega
    rw [Sort.scanDown]
    rw [← hK, loopW_some, hK]
    simp -implicitDefEqProofs only [go_sem, Bal.pv, s261_5, s261_4, f1, Int.natCast_zero]
  | succ j ih =>
    intro hj
    by_cases h : i ≤ j + 1
    · have f1 : (i : Int) ≤ ((j + 1 : Nat) : Int) := by omega
      have n1 : (0 : Int) ≤ ((j + 1 : Nat) : Int) := by omega
      have n2 : (0 : Int) ≤ (a : Int) := by omega
      have g1 := ar_get hj
      have g2 := ar_get ha
      have h0 : 0 + d.size ≤ d.size := by omega
      have a0 : d.toList.length = d.size := Array.length_toList
      have w1 := wSub1 j (by omega)
      have e1 := e108 (E := E) d[j + 1]! d[a]!
      have e2 := cmpB_lt d[j + 1]! d[a]!
      cases hl : ltB d[j + 1]! d[a]! with
      | false =>
        rw [hl] at e2
        have e3 := of_decide_eq_false e2
        rw [Sort.scanDown, if_pos (by simp [h, hl])]
        have ih' := ih (by omega)
        rw [← hK, loopW_some, hK]
        simp -implicitDefEqProofs only [go_sem, Bal.pv, s261_5, s261_4, f1, n1, n2, hj, ha, g1, g2, h0, a0, w1, e1, e3]
        exact ih'
      | true =>
        rw [hl] at e2
        have e3 := of_decide_eq_true e2
        rw [Sort.scanDown, if_neg (by simp [hl])]
        rw [← hK, loopW_some, hK]
        simp -implicitDefEqProofs only [go_sem, Bal.pv, s261_5, s261_4, f1, n1, n2, hj, ha, g1, g2, h0, a0, w1, e1, e3]
    · have f1 : ¬ (i : Int) ≤ ((j + 1 : Nat) : Int) := by omega
      rw [Sort.scanDown, if_neg (by simp; omega)]
      rw [← hK, loopW_some, hK]
      simp -implicitDefEqProofs only [go_sem, Bal.pv, s261_5, s261_4, f1]
theorem up261_9 (d : Array Bal) (a j : Nat) (ha : a < d.size) (hj : j < d.size) (hs : d.size < 1152921504606846976) : ∀ (n i : Nat), j + 1 - i ≤ n → i < 1152921504606846977 →
    loopW E 1 [0, 1, 4, 12, 13] [] (.trim [0, 1, 4, 12, 13] [10, 11] [(6, [0, 1, 4, 12, 13])] [] s261_9) (some ⟨[(0, .hsl (.ext 0) 0 d.size), (1, .p (.int .i64 a)), (4, .fn 108 [] []), (12, .p (.int .i64 i)), (13, .p (.int .i64 j))], [(.ext 0, some (.parr (d.toList.map Bal.pv) 2 false))]⟩) = some (.ex 6, ⟨[(0, .hsl (.ext 0) 0 d.size), (1, .p (.int .i64 a)), (4, .fn 108 [] []), (12, .p (.int .i64 (Sort.scanUp (fun x => ltB x d[a]!) d j i : Nat))), (13, .p (.int .i64 j))], [(.ext 0, some (.parr (d.toList.map Bal.pv) 2 false))]⟩) := by
  generalize hK : loopW E 1 _ _ _ = K
  intro n
  induction n with
  | zero =>
    intro i hn hi
    have f1 : ¬ (i : Int) ≤ (j : Int) := by omega
    rw [Sort.scanUp, if_neg (by simp; omega)]
    rw [← hK, loopW_some, hK]
    simp -implicitDefEqProofs only [go_sem, Bal.pv, s261_9, s261_8, f1]
  | succ n ih =>
    intro i hn hi
    by_cases h : i ≤ j
    · have f1 : (i : Int) ≤ (j : Int) := by omega
      have n1 : (0 : Int) ≤ (i : Int) := by omega
      have n2 : (0 : Int) ≤ (a : Int) := by omega
      have i1 : i < d.size := by omega
      have g1 := ar_get i1
      have g2 := ar_get ha
      have h0 : 0 + d.size ≤ d.size := by omega
      have a0 : d.toList.length = d.size := Array.length_toList
      have w1 := wAdd1 i (by omega)
      have e1 := e108 (E := E) d[i]! d[a]!
      have e2 := cmpB_lt d[i]! d[a]!
      cases hl : ltB d[i]! d[a]! with
      | true =>
        rw [hl] at e2
        have e3 := of_decide_eq_true e2
        rw [Sort.scanUp, if_pos (by simp [h, hl])]
        have ih' := ih (i + 1) (by omega) (by omega)
        rw [← hK, loopW_some, hK]
        simp -implicitDefEqProofs only [go_sem, Bal.pv, s261_9, s261_8, f1, n1, n2, i1, ha, g1, g2, h0, a0, w1, e1, e3]
        exact ih'
      | false =>
        rw [hl] at e2
        have e3 := of_decide_eq_false e2
        rw [Sort.scanUp, if_neg (by simp [hl])]
        rw [← hK, loopW_some, hK]
        simp -implicitDefEqProofs only [go_sem, Bal.pv, s261_9, s261_8, f1, n1, n2, i1, ha, g1, g2, h0, a0, w1, e1, e3]
    · have f1 : ¬ (i : Int) ≤ (j : Int) := by omega
      rw [Sort.scanUp, if_neg (by simp; omega)]
      rw [← hK, loopW_some, hK]
      simp -implicitDefEqProofs only [go_sem, Bal.pv, s261_9, s261_8, f1]
theorem down261_12 (d : Array Bal) (a i : Nat) (ha : a < d.size) (hi1 : 1 ≤ i) (hs : d.size < 1152921504606846976) : ∀ (j : Nat), j < d.size →
    loopW E 1 [0, 1, 4, 12, 13] [] (.trim [0, 1, 4, 12, 13] [10, 11] [(8, [0, 1, 4, 12, 13])] [] s261_12) (some ⟨[(0, .hsl (.ext 0) 0 d.size), (1, .p (.int .i64 a)), (4, .fn 108 [] []), (12, .p (.int .i64 i)), (13, .p (.int .i64 j))], [(.ext 0, some (.parr (d.toList.map Bal.pv) 2 false))]⟩) = some (.ex 8, ⟨[(0, .hsl (.ext 0) 0 d.size), (1, .p (.int .i64 a)), (4, .fn 108 [] []), (12, .p (.int .i64 i)), (13, .p (.int .i64 (Sort.scanDown (fun x => !ltB x d[a]!) d i j : Nat)))], [(.ext 0, some (.parr (d.toList.map Bal.pv) 2 false))]⟩) := by
  generalize hK : loopW E 1 _ _ _ = K
  intro j
  induction j with
  | zero =>
    intro hj
    have f1 : ¬ (i : Int) ≤ 0 := by omega
    rw [Sort.scanDown]
    rw [← hK, loopW_some, hK]
    simp -implicitDefEqProofs only [go_sem, Bal.pv, s261_12, s261_11, f1, Int.natCast_zero]
  | succ j ih =>
    intro hj
    by_cases h : i ≤ j + 1
    · have f1 : (i : Int) ≤ ((j + 1 : Nat) : Int) := by omega
      have n1 : (0 : Int) ≤ ((j + 1 : Nat) : Int) := by omega
      have n2 : (0 : Int) ≤ (a : Int) := by omega
      have g1 := ar_get hj
      have g2 := ar_get ha
      have h0 : 0 + d.size ≤ d.size := by omega
      have a0 : d.toList.length = d.size := Array.length_toList
      have w1 := wSub1 j (by omega)
      have e1 := e108 (E := E) d[j + 1]! d[a]!
      have e2 := cmpB_lt d[j + 1]! d[a]!
      cases hl : ltB d[j + 1]! d[a]! with
      | false =>
        rw [hl] at e2
        have e3 := of_decide_eq_false e2
        rw [Sort.scanDown, if_pos (by simp [h, hl])]
        have ih' := ih (by omega)
        rw [← hK, loopW_some, hK]
        simp -implicitDefEqProofs only [go_sem, Bal.pv, s261_12, s261_11, f1, n1, n2, hj, ha, g1, g2, h0, a0, w1, e1, e3]
        exact ih'
      | true =>
        rw [hl] at e2
        have e3 := of_decide_eq_true e2
        rw [Sort.scanDown, if_neg (by simp [hl])]
        rw [← hK, loopW_some, hK]
        simp -implicitDefEqProofs only [go_sem, Bal.pv, s261_12, s261_11, f1, n1, n2, hj, ha, g1, g2, h0, a0, w1, e1, e3]
    · have f1 : ¬ (i : Int) ≤ ((j + 1 : Nat) : Int) := by omega
      rw [Sort.scanDown, if_neg (by simp; omega)]
      rw [← hK, loopW_some, hK]
      simp -implicitDefEqProofs only [go_sem, Bal.pv, s261_12, s261_11, f1]
theorem up260_2 (d : Array Bal) (a j : Nat) (ha : a < d.size) (hj : j < d.size) (hs : d.size < 1152921504606846976) : ∀ (n i : Nat), j + 1 - i ≤ n → i < 1152921504606846977 →
    loopW E 1 [0, 1, 4, 11, 12] [] (.trim [0, 1, 4, 11, 12] [10] [(2, [0, 1, 4, 11, 12])] [] s260_2) (some ⟨[(0, .hsl (.ext 0) 0 d.size), (1, .p (.int .i64 a)), (4, .fn 108 [] []), (11, .p (.int .i64 i)), (12, .p (.int .i64 j))], [(.ext 0, some (.parr (d.toList.map Bal.pv) 2 false))]⟩) = some (.ex 2, ⟨[(0, .hsl (.ext 0) 0 d.size), (1, .p (.int .i64 a)), (4, .fn 108 [] []), (11, .p (.int .i64 (Sort.scanUp (fun x => !ltB d[a]! x) d j i : Nat))), (12, .p (.int .i64 j))], [(.ext 0, some (.parr (d.toList.map Bal.pv) 2 false))]⟩) := by
  generalize hK : loopW E 1 _ _ _ = K
  intro n
  induction n with
  | zero =>
    intro i hn hi
    have f1 : ¬ (i : Int) ≤ (j : Int) := by omega
    rw [Sort.scanUp, if_neg (by simp; omega)]
    rw [← hK, loopW_some, hK]
    simp -implicitDefEqProofs only [go_sem, Bal.pv, s260_2, s260_1, f1]
  | succ n ih =>
    intro i hn hi
    by_cases h : i ≤ j
    · have f1 : (i : Int) ≤ (j : Int) := by omega
      have n1 : (0 : Int) ≤ (i : Int) := by omega
      have n2 : (0 : Int) ≤ (a : Int) := by omega
      have i1 : i < d.size := by omega
      have g1 := ar_get i1
      have g2 := ar_get ha
      have h0 : 0 + d.size ≤ d.size := by omega
      have a0 : d.toList.length = d.size := Array.length_toList
      have w1 := wAdd1 i (by omega)
      have e1 := e108 (E := E) d[a]! d[i]!
      have e2 := cmpB_lt d[a]! d[i]!
      cases hl : ltB d[a]! d[i]! with
      | false =>
        rw [hl] at e2
        have e3 := of_decide_eq_false e2
        rw [Sort.scanUp, if_pos (by simp [h, hl])]
        have ih' := ih (i + 1) (by omega) (by omega)
        rw [← hK, loopW_some, hK]
        simp -implicitDefEqProofs only [go_sem, Bal.pv, s260_2, s260_1, f1, n1, n2, i1, ha, g1, g2, h0, a0, w1, e1, e3]
        exact ih'
      | true =>
        rw [hl] at e2
        have e3 := of_decide_eq_true e2
        rw [Sort.scanUp, if_neg (by simp [hl])]
        rw [← hK, loopW_some, hK]
        simp -implicitDefEqProofs only [go_sem, Bal.pv, s260_2, s260_1, f1, n1, n2, i1, ha, g1, g2, h0, a0, w1, e1, e3]
    · have f1 : ¬ (i : Int) ≤ (j : Int) := by omega
      rw [Sort.scanUp, if_neg (by simp; omega)]
      rw [← hK, loopW_some, hK]
      simp -implicitDefEqProofs only [go_sem, Bal.pv, s260_2, s260_1, f1]
theorem down260_5 (d : Array Bal) (a i : Nat) (ha : a < d.size) (hi1 : 1 ≤ i) (hs : d.size < 1152921504606846976) : ∀ (j : Nat), j < d.size →
    loopW E 1 [0, 1, 4, 11, 12] [] (.trim [0, 1, 4, 11, 12] [10] [(4, [0, 1, 4, 11, 12])] [] s260_5) (some ⟨[(0, .hsl (.ext 0) 0 d.size), (1, .p (.int .i64 a)), (4, .fn 108 [] []), (11, .p (.int .i64 i)), (12, .p (.int .i64 j))], [(.ext 0, some (.parr (d.toList.map Bal.pv) 2 false))]⟩) = some (.ex 4, ⟨[(0, .hsl (.ext 0) 0 d.size), (1, .p (.int .i64 a)), (4, .fn 108 [] []), (11, .p (.int .i64 i)), (12, .p (.int .i64 (Sort.scanDown (fun x => ltB d[a]! x) d i j : Nat)))], [(.ext 0, some (.parr (d.toList.map Bal.pv) 2 false))]⟩) := by
  generalize hK : loopW E 1 _ _ _ = K
  intro j
  induction j with
  | zero =>
    intro hj
    have f1 : ¬ (i : Int) ≤ 0 := by omega
    rw [Sort.scanDown]
    rw [← hK, loopW_some, hK]
    simp -implicitDefEqProofs only [go_sem, Bal.pv, s260_5, s260_4, f1, Int.natCast_zero]
  | succ j ih =>
    intro hj
    by_cases h : i ≤ j + 1
    · have f1 : (i : Int) ≤ ((j + 1 : Nat) : Int) := by omega
      have n1 : (0 : Int) ≤ ((j + 1 : Nat) : Int) := by omega
      have n2 : (0 : Int) ≤ (a : Int) := by omega
      have g1 := ar_get hj
      have g2 := ar_get ha
      have h0 : 0 + d.size ≤ d.size := by omega
      have a0 : d.toList.length = d.size := Array.length_toList
      have w1 := wSub1 j (by omega)
      have e1 := e108 (E := E) d[a]! d[j + 1]!
      have e2 := cmpB_lt d[a]! d[j + 1]!
      cases hl : ltB d[a]! d[j + 1]! with
      | true =>
        rw [hl] at e2
        have e3 := of_decide_eq_true e2
        rw [Sort.scanDown, if_pos (by simp [h, hl])]
        have ih' := ih (by omega)
        rw [← hK, loopW_some, hK]
        simp -implicitDefEqProofs only [go_sem, Bal.pv, s260_5, s260_4, f1, n1, n2, hj, ha, g1, g2, h0, a0, w1, e1, e3]
        exact ih'
      | false =>
        rw [hl] at e2
        have e3 := of_decide_eq_false e2
        rw [Sort.scanDown, if_neg (by simp [hl])]
        rw [← hK, loopW_some, hK]
        simp -implicitDefEqProofs only [go_sem, Bal.pv, s260_5, s260_4, f1, n1, n2, hj, ha, g1, g2, h0, a0, w1, e1, e3]
    · have f1 : ¬ (i : Int) ≤ ((j + 1 : Nat) : Int) := by omega
      rw [Sort.scanDown, if_neg (by simp; omega)]
      rw [← hK, loopW_some, hK]
      simp -implicitDefEqProofs only [go_sem, Bal.pv, s260_5, s260_4, f1]


/-! ### Partitions -/
theorem pl_size (a : Nat) : ∀ (n i j : Nat) (d : Array Bal), j + 1 - i ≤ n → (Sort.partLoop ltB a i j d).2.size = d.size ∧ (Sort.partLoop ltB a i j d).1 ≤ j := by
  intro n
  induction n with
  | zero =>
    intro i j d h
    rw [Sort.partLoop]
    have h1 := scanUp_ge (fun x => ltB x d[a]!) d j _ i (Nat.le_refl _)
    have h2 := scanDown_le (fun x => !ltB x d[a]!) d (Sort.scanUp (fun x => ltB x d[a]!) d j i) j
    rw [if_pos (by omega)]
    exact ⟨rfl, h2⟩
  | succ n ih =>
    intro i j d h
    rw [Sort.partLoop]
    have h1 := scanUp_ge (fun x => ltB x d[a]!) d j _ i (Nat.le_refl _)
    have h2 := scanDown_le (fun x => !ltB x d[a]!) d (Sort.scanUp (fun x => ltB x d[a]!) d j i) j
    split
    · exact ⟨rfl, h2⟩
    · split
      · obtain ⟨q1, q2⟩ := ih (Sort.scanUp (fun x => ltB x d[a]!) d j i + 1) (Sort.scanDown (fun x => !ltB x d[a]!) d (Sort.scanUp (fun x => ltB x d[a]!) d j i) j - 1) (Sort.swp d (Sort.scanUp (fun x => ltB x d[a]!) d j i) (Sort.scanDown (fun x => !ltB x d[a]!) d (Sort.scanUp (fun x => ltB x d[a]!) d j i) j)) (by omega)
        rw [swp_size] at q1
        exact ⟨q1, by omega⟩
      · exact ⟨rfl, h2⟩
theorem loop261 (a : Nat) : ∀ (n i j : Nat) (d : Array Bal), j + 1 - i ≤ n → a < d.size → j < d.size → 1 ≤ i → d.size < 1152921504606846976 → i < 1152921504606846976 →
    ∃ jj : Nat, jj = (Sort.partLoop ltB a i j d).1 ∧ loopW E 1 [0, 1, 4, 12, 13] [] (.trim [0, 1, 4, 12, 13] [10, 11] [(4, [0, 1, 13])] [] s261_15) (some ⟨[(0, .hsl (.ext 0) 0 d.size), (1, .p (.int .i64 a)), (4, .fn 108 [] []), (12, .p (.int .i64 i)), (13, .p (.int .i64 j))], [(.ext 0, some (.parr (d.toList.map Bal.pv) 2 false))]⟩) =
    some (.ex 4, ⟨[(0, .hsl (.ext 0) 0 d.size), (1, .p (.int .i64 a)), (13, .p (.int .i64 jj))], [(.ext 0, some (.parr ((Sort.partLoop ltB a i j d).2.toList.map Bal.pv) 2 false))]⟩) := by
  generalize hK : loopW E 1 _ _ _ = K
  intro n
  induction n with
  | zero =>
    intro i j d hn ha hj hi hs hi2
    refine ⟨_, rfl, ?_⟩
    have lp1 := up261_9 (E := E) d a j ha hj hs _ i (Nat.le_refl _) (by omega)
    have h1 := scanUp_ge (fun x => ltB x d[a]!) d j _ i (Nat.le_refl _)
    have lp2 := down261_12 (E := E) d a (Sort.scanUp (fun x => ltB x d[a]!) d j i) ha (by omega) hs j hj
    have h2 := scanDown_le (fun x => !ltB x d[a]!) d (Sort.scanUp (fun x => ltB x d[a]!) d j i) j
    rw [Sort.partLoop]
    generalize Sort.scanUp (fun x => ltB x d[a]!) d j i = i2 at *
    generalize Sort.scanDown (fun x => !ltB x d[a]!) d i2 j = j2 at *
    have f1 : (j2 : Int) < (i2 : Int) := by omega
    rw [if_pos (by omega)]
    rw [← hK, loopW_some, hK]
    simp -implicitDefEqProofs only [go_sem, Bal.pv, s261_15, s261_14, s261_10, s261_13, lp1, lp2, f1]
  | succ n ih =>
    intro i j d hn ha hj hi hs hi2
    have lp1 := up261_9 (E := E) d a j ha hj hs _ i (Nat.le_refl _) (by omega)
    have h1 := scanUp_ge (fun x => ltB x d[a]!) d j _ i (Nat.le_refl _)
    have lp2 := down261_12 (E := E) d a (Sort.scanUp (fun x => ltB x d[a]!) d j i) ha (by omega) hs j hj
    have h2 := scanDown_le (fun x => !ltB x d[a]!) d (Sort.scanUp (fun x => ltB x d[a]!) d j i) j
    rw [Sort.partLoop]
    generalize Sort.scanUp (fun x => ltB x d[a]!) d j i = i2 at *
    generalize Sort.scanDown (fun x => !ltB x d[a]!) d i2 j = j2 at *
    by_cases h : i2 > j2
    · refine ⟨_, rfl, ?_⟩
      have f1 : (j2 : Int) < (i2 : Int) := by omega
      rw [if_pos h]
      rw [← hK, loopW_some, hK]
      simp -implicitDefEqProofs only [go_sem, Bal.pv, s261_15, s261_14, s261_10, s261_13, lp1, lp2, f1]
    · have f1 : ¬ (j2 : Int) < (i2 : Int) := by omega
      rw [if_neg h, dif_pos (by omega)]
      obtain ⟨jj, r1, r2⟩ := ih (i2 + 1) (j2 - 1) (Sort.swp d i2 j2) (by omega) (by rw [swp_size]; exact ha) (by rw [swp_size]; omega) (by omega) (by rw [swp_size]; exact hs) (by omega)
      refine ⟨jj, r1, ?_⟩
      rw [swp_size, swp_map] at r2
      simp only [Bal.pv] at r2
      have n1 : (0 : Int) ≤ (i2 : Int) := by omega
      have n2 : (0 : Int) ≤ (j2 : Int) := by omega
      have i1 : i2 < d.size := by omega
      have j1 : j2 < d.size := by omega
      have g1 := ar_get i1
      have g2 := ar_get j1
      have h0 : 0 + d.size ≤ d.size := by omega
      have a0 : d.toList.length = d.size := Array.length_toList
      have w1 := wAdd1 i2 (by omega)
      have w2 : IntKind.i64.wrap ((j2 : Int) - 1) = ((j2 - 1 : Nat) : Int) := wSub j2 1 (by omega) (by omega)
      obtain ⟨y, hy⟩ := set_get Bal.pv d i2 j2 d[j2]! j1
      simp only [Bal.pv] at hy
      rw [← hK, loopW_some, hK]
      simp -implicitDefEqProofs only [go_sem, Bal.pv, s261_15, s261_14, s261_10, s261_13, lp1, lp2, f1, n1, n2, i1, j1, g1, g2, h0, a0, w1, w2, hy, setE, List.length_map, List.length_set]
      exact r2
theorem e261 (d : Array Bal) (a b p : Nat) (hab : a + 1 < b) (hb : b ≤ d.size) (hp : p < d.size) (hs : d.size < 1152921504606846976) :
    callW E 261 [.hsl (.ext 0) 0 d.size, .p (.int .i64 a), .p (.int .i64 b), .p (.int .i64 p), .fn 108 [] []] [.parr (d.toList.map Bal.pv) 2 false] =
    some ⟨.tup [.p (.int .i64 (Sort.partition ltB d a b p).1), .p (.bool (Sort.partition ltB d a b p).2.1)], [.parr ((Sort.partition ltB d a b p).2.2.toList.map Bal.pv) 2 false], []⟩ := by
  have ha : a < d.size := by omega
  have n1 : (0 : Int) ≤ (a : Int) := by omega
  have n2 : (0 : Int) ≤ (p : Int) := by omega
  have g1 := ar_get ha
  have g2 := ar_get hp
  have h0 : 0 + d.size ≤ d.size := by omega
  have a0 : d.toList.length = d.size := Array.length_toList
  have w1 := wAdd1 a (by omega)
  have w2 : IntKind.i64.wrap ((b : Int) - 1) = ((b - 1 : Nat) : Int) := wSub b 1 (by omega) (by omega)
  obtain ⟨y, hy⟩ := set_get Bal.pv d a p d[p]! hp
  simp only [Bal.pv] at hy
  have z := swp_size d a p
  unfold Sort.partition
  dsimp only
  have hm := swp_map Bal.pv d a p
  have sw : callW E 261 [.hsl (.ext 0) 0 d.size, .p (.int .i64 a), .p (.int .i64 b), .p (.int .i64 p), .fn 108 [] []] [.parr (d.toList.map Bal.pv) 2 false] = callW E 261 [.hsl (.ext 0) 0 d.size, .p (.int .i64 a), .p (.int .i64 b), .p (.int .i64 p), .fn 108 [] []] [.parr (d.toList.map Bal.pv) 2 false] := rfl
  generalize hd1 : Sort.swp d a p = d1 at *
  have lp1 := up261_2 (E := E) d1 a (b - 1) (by omega) (by omega) (by omega) _ (a + 1) (Nat.le_refl _) (by omega)
  have h1 := scanUp_ge (fun x => ltB x d1[a]!) d1 (b - 1) _ (a + 1) (Nat.le_refl _)
  have lp2 := down261_5 (E := E) d1 a (Sort.scanUp (fun x => ltB x d1[a]!) d1 (b - 1) (a + 1)) (by omega) (by omega) (by omega) (b - 1) (by omega)
  have h2 := scanDown_le (fun x => !ltB x d1[a]!) d1 (Sort.scanUp (fun x => ltB x d1[a]!) d1 (b - 1) (a + 1)) (b - 1)
  generalize Sort.scanUp (fun x => ltB x d1[a]!) d1 (b - 1) (a + 1) = i2 at *
  generalize Sort.scanDown (fun x => !ltB x d1[a]!) d1 i2 (b - 1) = j2 at *
  rw [z] at lp1 lp2
  rw [hm] at lp1 lp2
  have j1 : j2 < d1.size := by omega
  have a1 : a < d1.size := by omega
  have gj := ar_get j1
  have ga := ar_get a1
  have gj' : (((d.toList.map Bal.pv).set a (Bal.pv d[p]!)).set p (Bal.pv d[a]!))[j2]? = some (Bal.pv d1[j2]!) := by rw [← hm, List.getElem?_map, gj]; rfl
  have ga' : (((d.toList.map Bal.pv).set a (Bal.pv d[p]!)).set p (Bal.pv d[a]!))[a]? = some (Bal.pv d1[a]!) := by rw [← hm, List.getElem?_map, ga]; rfl
  have nj : (0 : Int) ≤ (j2 : Int) := by omega
  have j1' : j2 < d.size := by omega
  by_cases h : i2 > j2
  · have f1 : (j2 : Int) < (i2 : Int) := by omega
    rw [if_pos h]
    dsimp only
    obtain ⟨y2, hy2⟩ := set_get Bal.pv d1 j2 a d1[a]! a1
    simp only [Bal.pv] at hy2
    rw [swp_map, hm]
    rw [hm] at hy2
    simp only [Bal.pv] at lp1 lp2 gj' ga' hy2
    rw [callW_eq, EnvS.h 261 F261 rfl]
    simp -implicitDefEqProofs only [go_sem, Bal.pv, F261, s261, s261_3, s261_6, s261_7, n1, n2, ha, hp, g1, g2, h0, a0, w1, w2, hy, setE, List.length_map, List.length_set, lp1, lp2, f1, gj', ga', nj, j1', hy2]
  · have f1 : ¬ (j2 : Int) < (i2 : Int) := by omega
    rw [if_neg h]
    dsimp only
    have i1 : i2 < d1.size := by omega
    have i1' : i2 < d.size := by omega
    have gi := ar_get i1
    have gi' : (((d.toList.map Bal.pv).set a (Bal.pv d[p]!)).set p (Bal.pv d[a]!))[i2]? = some (Bal.pv d1[i2]!) := by rw [← hm, List.getElem?_map, gi]; rfl
    have ni : (0 : Int) ≤ (i2 : Int) := by omega
    obtain ⟨y2, hy2⟩ := set_get Bal.pv d1 i2 j2 d1[j2]! j1
    simp only [Bal.pv] at hy2
    rw [hm] at hy2
    have w3 := wAdd1 i2 (by omega)
    have w4 : IntKind.i64.wrap ((j2 : Int) - 1) = ((j2 - 1 : Nat) : Int) := wSub j2 1 (by omega) (by omega)
    have z2 := swp_size d1 i2 j2
    have hm2 := swp_map Bal.pv d1 i2 j2
    rw [hm] at hm2
    generalize hd2 : Sort.swp d1 i2 j2 = d2 at *
    obtain ⟨jj, r1, lp3⟩ := loop261 (E := E) a _ (i2 + 1) (j2 - 1) d2 (Nat.le_refl _) (by omega) (by omega) (by omega) (by omega) (by omega)
    obtain ⟨z3, q3⟩ := pl_size a _ (i2 + 1) (j2 - 1) d2 (Nat.le_refl _)
    rw [z2, z, hm2] at lp3
    rw [← r1] at q3 ⊢
    generalize Sort.partLoop ltB a (i2 + 1) (j2 - 1) d2 = pl at *
    obtain ⟨j3, d3⟩ := pl
    dsimp only at r1 lp3 z3 ⊢
    have k1 : jj < d3.size := by omega
    have k1' : jj < d.size := by omega
    have k2 : a < d3.size := by omega
    have gk := ar_get k1
    have gl := ar_get k2
    have nk : (0 : Int) ≤ (jj : Int) := by omega
    have a3 : d3.toList.length = d.size := by rw [Array.length_toList]; omega
    obtain ⟨y3, hy3⟩ := set_get Bal.pv d3 jj a d3[a]! k2
    simp only [Bal.pv] at hy3
    rw [swp_map]
    simp only [Bal.pv] at lp1 lp2 gj' gi' hy2 lp3
    rw [callW_eq, EnvS.h 261 F261 rfl]
    simp -implicitDefEqProofs only [go_sem, Bal.pv, F261, s261, s261_3, s261_6, s261_7, s261_16, n1, n2, ha, hp, g1, g2, h0, a0, w1, w2, hy, setE, List.length_map, List.length_set, lp1, lp2, f1, gj', gi', nj, ni, j1', i1', hy2, w3, w4, lp3, gk, gl, nk, k1', a3, hy3]


/-! ### The other partition -/
theorem loop260 (a : Nat) : ∀ (n i j : Nat) (d : Array Bal), j + 1 - i ≤ n → a < d.size → j < d.size → 1 ≤ i → d.size < 1152921504606846976 → i < 1152921504606846976 →
    loopW E 1 [0, 1, 4, 11, 12] [] (.trim [0, 1, 4, 11, 12] [10] [(0, [11])] [] s260_8) (some ⟨[(0, .hsl (.ext 0) 0 d.size), (1, .p (.int .i64 a)), (4, .fn 108 [] []), (11, .p (.int .i64 i)), (12, .p (.int .i64 j))], [(.ext 0, some (.parr (d.toList.map Bal.pv) 2 false))]⟩) =
    some (.ex 0, ⟨[(11, .p (.int .i64 (Sort.partEqLoop ltB a i j d).1))], [(.ext 0, some (.parr ((Sort.partEqLoop ltB a i j d).2.toList.map Bal.pv) 2 false))]⟩) := by
  generalize hK : loopW E 1 _ _ _ = K
  intro n
  induction n with
  | zero =>
    intro i j d hn ha hj hi hs hi2
    have lp1 := up260_2 (E := E) d a j ha hj hs _ i (Nat.le_refl _) (by omega)
    have h1 := scanUp_ge (fun x => !ltB d[a]! x) d j _ i (Nat.le_refl _)
    have lp2 := down260_5 (E := E) d a (Sort.scanUp (fun x => !ltB d[a]! x) d j i) ha (by omega) hs j hj
    have h2 := scanDown_le (fun x => ltB d[a]! x) d (Sort.scanUp (fun x => !ltB d[a]! x) d j i) j
    rw [Sort.partEqLoop]
    generalize Sort.scanUp (fun x => !ltB d[a]! x) d j i = i2 at *
    generalize Sort.scanDown (fun x => ltB d[a]! x) d i2 j = j2 at *
    have f1 : (j2 : Int) < (i2 : Int) := by omega
    rw [if_pos (by omega)]
    rw [← hK, loopW_some, hK]
    simp -implicitDefEqProofs only [go_sem, Bal.pv, s260_8, s260_7, s260_3, s260_6, lp1, lp2, f1]
  | succ n ih =>
    intro i j d hn ha hj hi hs hi2
    have lp1 := up260_2 (E := E) d a j ha hj hs _ i (Nat.le_refl _) (by omega)
    have h1 := scanUp_ge (fun x => !ltB d[a]! x) d j _ i (Nat.le_refl _)
    have lp2 := down260_5 (E := E) d a (Sort.scanUp (fun x => !ltB d[a]! x) d j i) ha (by omega) hs j hj
    have h2 := scanDown_le (fun x => ltB d[a]! x) d (Sort.scanUp (fun x => !ltB d[a]! x) d j i) j
    rw [Sort.partEqLoop]
    generalize Sort.scanUp (fun x => !ltB d[a]! x) d j i = i2 at *
    generalize Sort.scanDown (fun x => ltB d[a]! x) d i2 j = j2 at *
    by_cases h : i2 > j2
    · have f1 : (j2 : Int) < (i2 : Int) := by omega
      rw [if_pos h]
      rw [← hK, loopW_some, hK]
      simp -implicitDefEqProofs only [go_sem, Bal.pv, s260_8, s260_7, s260_3, s260_6, lp1, lp2, f1]
    · have f1 : ¬ (j2 : Int) < (i2 : Int) := by omega
      rw [if_neg h, dif_pos (by omega)]
      have r2 := ih (i2 + 1) (j2 - 1) (Sort.swp d i2 j2) (by omega) (by rw [swp_size]; exact ha) (by rw [swp_size]; omega) (by omega) (by rw [swp_size]; exact hs) (by omega)
      rw [swp_size, swp_map] at r2
      simp only [Bal.pv] at r2
      have n1 : (0 : Int) ≤ (i2 : Int) := by omega
      have n2 : (0 : Int) ≤ (j2 : Int) := by omega
      have i1 : i2 < d.size := by omega
      have j1 : j2 < d.size := by omega
      have g1 := ar_get i1
      have g2 := ar_get j1
      have h0 : 0 + d.size ≤ d.size := by omega
      have a0 : d.toList.length = d.size := Array.length_toList
      have w1 := wAdd1 i2 (by omega)
      have w2 : IntKind.i64.wrap ((j2 : Int) - 1) = ((j2 - 1 : Nat) : Int) := wSub j2 1 (by omega) (by omega)
      obtain ⟨y, hy⟩ := set_get Bal.pv d i2 j2 d[j2]! j1
      simp only [Bal.pv] at hy
      rw [← hK, loopW_some, hK]
      simp -implicitDefEqProofs only [go_sem, Bal.pv, s260_8, s260_7, s260_3, s260_6, lp1, lp2, f1, n1, n2, i1, j1, g1, g2, h0, a0, w1, w2, hy, setE, List.length_map, List.length_set]
      exact r2
theorem e260 (d : Array Bal) (a b p : Nat) (hab : a + 1 < b) (hb : b ≤ d.size) (hp : p < d.size) (hs : d.size < 1152921504606846976) :
    callW E 260 [.hsl (.ext 0) 0 d.size, .p (.int .i64 a), .p (.int .i64 b), .p (.int .i64 p), .fn 108 [] []] [.parr (d.toList.map Bal.pv) 2 false] =
    some ⟨.p (.int .i64 (Sort.partitionEqual ltB d a b p).1), [.parr ((Sort.partitionEqual ltB d a b p).2.toList.map Bal.pv) 2 false], []⟩ := by
  have ha : a < d.size := by omega
  have n1 : (0 : Int) ≤ (a : Int) := by omega
  have n2 : (0 : Int) ≤ (p : Int) := by omega
  have g1 := ar_get ha
  have g2 := ar_get hp
  have h0 : 0 + d.size ≤ d.size := by omega
  have a0 : d.toList.length = d.size := Array.length_toList
  have w1 := wAdd1 a (by omega)
  have w2 : IntKind.i64.wrap ((b : Int) - 1) = ((b - 1 : Nat) : Int) := wSub b 1 (by omega) (by omega)
  obtain ⟨y, hy⟩ := set_get Bal.pv d a p d[p]! hp
  simp only [Bal.pv] at hy
  have z := swp_size d a p
  unfold Sort.partitionEqual
  have lp := loop260 (E := E) a _ (a + 1) (b - 1) (Sort.swp d a p) (Nat.le_refl _) (by omega) (by omega) (by omega) (by omega) (by omega)
  rw [swp_size, swp_map] at lp
  simp only [Bal.pv] at lp
  rw [callW_eq, EnvS.h 260 F260 rfl]
  simp -implicitDefEqProofs only [go_sem, Bal.pv, F260, s260, s260_9, n1, n2, ha, hp, g1, g2, h0, a0, w1, w2, hy, setE, List.length_map, List.length_set, lp]

/-! ### What may be in order already -/
theorem loop259i (a b : Nat) (j : Int) (d : Array Bal) (hb : b ≤ d.size) (hs : d.size < 1152921504606846976) : ∀ (n i : Nat), b - i ≤ n → 1 ≤ i → i < 1152921504606846977 →
    loopW E 1 [0, 1, 2, 3, 9, 10] [] (.trim [0, 1, 2, 3, 9, 10] [8] [(2, [0, 1, 2, 3, 9, 10])] [] s259_2) (some ⟨[(0, .hsl (.ext 0) 0 d.size), (1, .p (.int .i64 a)), (2, .p (.int .i64 b)), (3, .fn 108 [] []), (9, .p (.int .i64 i)), (10, .p (.int .i64 j))], [(.ext 0, some (.parr (d.toList.map Bal.pv) 2 false))]⟩) =
    some (.ex 2, ⟨[(0, .hsl (.ext 0) 0 d.size), (1, .p (.int .i64 a)), (2, .p (.int .i64 b)), (3, .fn 108 [] []), (9, .p (.int .i64 (Sort.scanSorted ltB d b i : Nat))), (10, .p (.int .i64 j))], [(.ext 0, some (.parr (d.toList.map Bal.pv) 2 false))]⟩) := by
  generalize hK : loopW E 1 _ _ _ = K
  intro n
  induction n with
  | zero =>
    intro i hn h1 hi
    have f1 : ¬ (i : Int) < (b : Int) := by omega
    rw [Sort.scanSorted, if_neg (by simp; omega)]
    rw [← hK, loopW_some, hK]
    simp -implicitDefEqProofs only [go_sem, Bal.pv, s259_2, s259_1, f1]
  | succ n ih =>
    intro i hn h1 hi
    by_cases h : i < b
    · have f1 : (i : Int) < (b : Int) := by omega
      have n1 : (0 : Int) ≤ (i : Int) := by omega
      have n2 : (0 : Int) ≤ ((i - 1 : Nat) : Int) := by omega
      have i1 : i < d.size := by omega
      have i2 : i - 1 < d.size := by omega
      have g1 := ar_get i1
      have g2 := ar_get i2
      have h0 : 0 + d.size ≤ d.size := by omega
      have a0 : d.toList.length = d.size := Array.length_toList
      have w1 := wAdd1 i (by omega)
      have w2 : IntKind.i64.wrap ((i : Int) - 1) = ((i - 1 : Nat) : Int) := wSub i 1 (by omega) (by omega)
      have e1 := e108 (E := E) d[i]! d[i - 1]!
      have e2 := cmpB_lt d[i]! d[i - 1]!
      cases hl : ltB d[i]! d[i - 1]! with
      | false =>
        rw [hl] at e2
        have e3 := of_decide_eq_false e2
        rw [Sort.scanSorted, if_pos (by simp [h, hl])]
        have ih' := ih (i + 1) (by omega) (by omega) (by omega)
        rw [← hK, loopW_some, hK]
        simp -implicitDefEqProofs only [go_sem, Bal.pv, s259_2, s259_1, f1, n1, n2, i1, i2, g1, g2, h0, a0, w1, w2, e1, e3]
        exact ih'
      | true =>
        rw [hl] at e2
        have e3 := of_decide_eq_true e2
        rw [Sort.scanSorted, if_neg (by simp [hl])]
        rw [← hK, loopW_some, hK]
        simp -implicitDefEqProofs only [go_sem, Bal.pv, s259_2, s259_1, f1, n1, n2, i1, i2, g1, g2, h0, a0, w1, w2, e1, e3]
    · have f1 : ¬ (i : Int) < (b : Int) := by omega
      rw [Sort.scanSorted, if_neg (by simp; omega)]
      rw [← hK, loopW_some, hK]
      simp -implicitDefEqProofs only [go_sem, Bal.pv, s259_2, s259_1, f1]
theorem pi_eq (d : Array Bal) (a b : Nat) (h : b - a < 50) : Sort.partialInsertionSort ltB d a b = (d, decide (Sort.scanSorted ltB d b (a + 1) = b)) := by
  rw [Sort.partialInsertionSort, Sort.partialIns]
  dsimp only
  by_cases h1 : Sort.scanSorted ltB d b (a + 1) = b
  · rw [if_pos h1]; simp [h1]
  · rw [if_neg h1, if_pos h]; simp [h1]
theorem e259 (d : Array Bal) (a b : Nat) (hab : a < b) (hb : b ≤ d.size) (hs : d.size < 50) :
    callW E 259 [.hsl (.ext 0) 0 d.size, .p (.int .i64 a), .p (.int .i64 b), .fn 108 [] []] [.parr (d.toList.map Bal.pv) 2 false] =
    some ⟨.p (.bool (Sort.partialInsertionSort ltB d a b).2), [.parr (d.toList.map Bal.pv) 2 false], []⟩ := by
  rw [pi_eq _ _ _ (by omega)]
  dsimp only
  have w1 := wAdd1 a (by omega)
  have w2 := wSub b a (by omega) (by omega)
  have f1 : ((b - a : Nat) : Int) < 50 := by omega
  have lp := loop259i (E := E) a b 0 d hb (by omega) _ (a + 1) (Nat.le_refl _) (by omega) (by omega)
  generalize Sort.scanSorted ltB d b (a + 1) = i2 at *
  rw [callW_eq, EnvS.h 259 F259 rfl]
  by_cases h : i2 = b
  · subst h
    have f2 : decide (i2 = i2) = true := by simp
    rw [f2]
    simp -implicitDefEqProofs only [go_sem, Bal.pv, F259, s259, s259_16, s259_15, s259_14, s259_3, s259_4, s259_5, s259_9, s259_8, s259_13, s259_12, loopW_some, w1, w2, lp]
  · have f2 : decide (i2 = b) = false := by simp [h]
    have f3 : ¬ (i2 : Int) = (b : Int) := by omega
    rw [f2]
    simp -implicitDefEqProofs only [go_sem, Bal.pv, F259, s259, s259_16, s259_15, s259_14, s259_3, s259_4, s259_5, s259_9, s259_8, s259_13, s259_12, loopW_some, w1, w2, f1, f3, lp]


/-! ### The sort -/
theorem swo_ltB : Sort.SWO ltB where
  irrefl x := less_irrefl x
  trans x y z h1 h2 := less_trans h2 h1
  ntrans x y z h1 h2 := by
    cases h : ltB x z with
    | false => rfl
    | true =>
      exfalso
      cases h3 : less y z with
      | true => exact absurd (show ltB x y = true from (less_trans h3 h)) (by rw [h1]; decide) 
      | false =>
        have : y = z := less_total h3 h2
        subst this
        rw [h1] at h; cases h
section
variable {a b : Nat} {d d' : Array Bal}
theorem below_perm (hb : b ≤ d.size) (h : Sort.PermIn a b d d') (hB : Sort.Below ltB a b d) : Sort.Below ltB a b d' := by
  rcases hB with h0 | hB
  · exact .inl h0
  · rcases Nat.eq_zero_or_pos a with h0 | ha
    · exact .inl h0
    right
    intro i h1 h2
    rw [h.2.1 (a - 1) (.inl (by omega))]
    exact Go.Sort.permIn_all d d' a b (fun x => ltB x d[a - 1]! = false) hb h hB i h1 h2
theorem below_eq (ha : ∀ i, a ≤ i + 1 → i < b → d'[i]! = d[i]!) (hB : Sort.Below ltB a b d) : Sort.Below ltB a b d' := by
  rcases hB with h0 | hB
  · exact .inl h0
  · rcases Nat.eq_zero_or_pos a with h0 | ha0
    · exact .inl h0
    right
    intro i h1 h2
    rw [ha i (by omega) h2, ha (a - 1) (by omega) (by omega)]
    exact hB i h1 h2
theorem below_less {c : Nat} (hc : c ≤ b) (hB : Sort.Below ltB a b d) : Sort.Below ltB a c d := by
  rcases hB with h0 | hB
  · exact .inl h0
  · exact .inr fun i h1 h2 => hB i h1 (by omega)
end
/-- What a call of it does, for ranges of so many. -/
def SortCall (E : Env) (N n : Nat) : Prop := ∀ (d : Array Bal) (a b limit : Nat), d.size = N → a ≤ b → b - a ≤ n → b ≤ N → N < 50 → limit < 1000 → Sort.Below ltB a b d →
  callW E 227 [.hsl (.ext 0) 0 N, .p (.int .i64 a), .p (.int .i64 b), .p (.int .i64 limit), .fn 108 [] []] [.parr (d.toList.map Bal.pv) 2 false] = some ⟨.tup [], [.parr ((Sort.pdq ltB d a b limit true true).toList.map Bal.pv) 2 false], []⟩
def p231b : SCode := (.seq (.reg 20 [{ dst := some 106, op := .mv (.t 0) }, { dst := some 107, op := .mv (.t 1) }, { dst := some 108, op := .mv (.t 2) }, { dst := some 109, op := .mv (.t 13) }, { dst := some 110, op := .mv (.t 4) }, { dst := some 111, op := .call (.f 261) [.t 106, .t 107, .t 108, .t 109, .t 110] }, { dst := some 105, op := .mv (.t 111) }, { dst := some 112, op := .ext (.t 105) 0 }, { dst := some 113, op := .ext (.t 105) 1 }, { dst := some 16, op := .mv (.t 112) }, { dst := some 17, op := .mv (.t 113) }]) (.seq (.reg 21 [{ dst := some 114, op := .mv (.t 17) }, { dst := some 11, op := .mv (.t 114) }]) (.seq (.reg 22 [{ dst := some 115, op := .mv (.t 16) }, { dst := some 116, op := .mv (.t 1) }, { dst := some 117, op := .bin .sub (.t 115) (.t 116) }, { dst := some 118, op := .mv (.t 2) }, { dst := some 119, op := .mv (.t 16) }, { dst := some 120, op := .bin .sub (.t 118) (.t 119) }, { dst := some 18, op := .mv (.t 117) }, { dst := some 19, op := .mv (.t 120) }]) (.seq (.reg 23 [{ dst := some 121, op := .mv (.t 12) }, { dst := some 122, op := .bin .quo (.t 121) (.c (.int .i64 (8))) }, { dst := some 20, op := .mv (.t 122) }]) (.seq (.reg 24 [{ dst := some 123, op := .mv (.t 18) }, { dst := some 124, op := .mv (.t 19) }, { dst := some 125, op := .bin .lss (.t 123) (.t 124) }]) (.trim [0, 1, 2, 3, 4, 10, 11] [] [] [] (.cond (.t 125) s227_7 s227_8)))))))
def p231 : SCode := (.seq (.seq (.draw 17 [{ dst := some 81, op := .mv (.t 1) }, { dst := some 82, op := .bin .gtr (.t 81) (.c (.int .i64 (0))) }, { dst := some 83, op := .mv (.t 82) }, { dst := some 84, op := .mv (.t 4), guard := some (83, true) }, { dst := some 85, op := .mv (.t 0), guard := some (83, true) }, { dst := some 86, op := .mv (.t 1), guard := some (83, true) }, { dst := some 87, op := .bin .sub (.t 86) (.c (.int .i64 (1))), guard := some (83, true) }, { dst := some 88, op := .iaddr 2 (.t 85) (.t 87), guard := some (83, true) }, { dst := some 89, op := .load true 2 (.t 88), guard := some (83, true) }, { dst := some 90, op := .mv (.t 0), guard := some (83, true) }, { dst := some 91, op := .mv (.t 13), guard := some (83, true) }, { dst := some 92, op := .iaddr 2 (.t 90) (.t 91), guard := some (83, true) }, { dst := some 93, op := .load true 2 (.t 92), guard := some (83, true) }, { dst := some 94, op := .call (.t 84) [.t 89, .t 93], guard := some (83, true) }, { dst := some 95, op := .bin .lss (.t 94) (.c (.int .i64 (0))), guard := some (83, true) }, { dst := some 96, op := .un .not (.t 95), guard := some (83, true) }, { dst := some 97, op := .pick (.t 83) (.t 96) (.c (.bool false)) }] [(7, 11), (8, 11), (7, 12), (8, 12)]) (.trim [0, 1, 2, 3, 4, 12, 13] [] [(1, [0, 1, 2, 3, 4, 10, 11])] [] (.cond (.t 97) s227_6 .skip))) p231b)
def p231a : SCode := (.seq (.seq (.reg 15 [{ dst := some 68, op := .mv (.t 10) }, { dst := some 69, op := .mv (.t 68) }, { dst := some 70, op := .mv (.t 11), guard := some (69, true) }, { dst := some 71, op := .pick (.t 69) (.t 70) (.c (.bool false)) }, { dst := some 72, op := .mv (.t 71) }, { dst := some 73, op := .mv (.t 14), guard := some (72, true) }, { dst := some 74, op := .bin .eql (.t 73) (.c (.int .i64 (1))), guard := some (72, true) }, { dst := some 75, op := .pick (.t 72) (.t 74) (.c (.bool false)) }]) (.trim [0, 1, 2, 3, 4, 10, 11, 12, 13] [] [] [] (.cond (.t 75) s227_5 .skip))) p231)
def tailPdq (d3 : Array Bal) (a b limit : Nat) (wasBalanced wasPartitioned : Bool) (pivot : Nat) : Array Bal :=
  if a > 0 && !ltB d3[a - 1]! d3[pivot]! then
    match Sort.partitionEqual ltB d3 a b pivot with
    | (mid, d4) => if _h : a < mid ∧ mid ≤ b then Sort.pdq ltB d4 mid b limit wasBalanced wasPartitioned else d4
  else
    match Sort.partition ltB d3 a b pivot with
    | (mid, alreadyPartitioned, d4) =>
      if _h : a ≤ mid ∧ mid < b then
        if mid - a < b - mid then
          Sort.pdq ltB (Sort.pdq ltB d4 a mid limit true true) (mid + 1) b limit (decide (mid - a ≥ (b - a) / 8)) alreadyPartitioned
        else
          Sort.pdq ltB (Sort.pdq ltB d4 (mid + 1) b limit true true) a mid limit (decide (b - mid ≥ (b - a) / 8)) alreadyPartitioned
      else d4
theorem pdq_unf (d : Array Bal) (a b limit : Nat) (wb wp : Bool) (h1 : ¬ b - a ≤ 12) (h2 : ¬ limit = 0) : Sort.pdq ltB d a b limit wb wp =
    (let d1 := if !wb then Sort.breakPatterns d a b else d
     let limit := if !wb then limit - 1 else limit
     let c := Sort.choosePivot ltB d1 a b
     let d2 := if c.2 = .decreasing then Sort.reverseRange d1 a b else d1
     let pivot := if c.2 = .decreasing then (b - 1) - (c.1 - a) else c.1
     let hint := if c.2 = .decreasing then Sort.Hint.increasing else c.2
     let pi := if wb && wp && hint = .increasing then Sort.partialInsertionSort ltB d2 a b else (d2, false)
     if pi.2 then pi.1 else tailPdq pi.1 a b limit wb wp pivot) := by
  rw [Sort.pdq, if_neg h1, if_neg h2]; rfl
/-- One round, behind the choice of the pivot: what is left to do. -/
theorem tail231 (N n : Nat) (hc : SortCall E N n) (d : Array Bal) (a b limit : Nat) (wb wp : Bool) (p : Nat) (hN : d.size = N) (hab : 12 < b - a) (hn : b - a ≤ n + 1) (hb : b ≤ N) (hs : N < 50) (hl : limit < 1000) (hp1 : a ≤ p) (hp2 : p < b) (hB : Sort.Below ltB a b d) :
    ∃ (a' b' : Nat) (wb' wp' : Bool) (d' : Array Bal) (ex : Ex), (ex = .nrm ∨ ex = .ex 1) ∧ tailPdq d a b limit wb wp p = Sort.pdq ltB d' a' b' limit wb' wp' ∧ Sort.Below ltB a' b' d' ∧ d'.size = N ∧ a' ≤ b' ∧ b' ≤ N ∧ b' - a' < b - a ∧
    sexW E 1 p231 ⟨[(0, .hsl (.ext 0) 0 d.size), (1, .p (.int .i64 a)), (2, .p (.int .i64 b)), (3, .p (.int .i64 limit)), (4, .fn 108 [] []), (10, .p (.bool wb)), (11, .p (.bool wp)), (12, .p (.int .i64 (b - a : Nat))), (13, .p (.int .i64 p))], [(.ext 0, some (.parr (d.toList.map Bal.pv) 2 false))]⟩ = some (ex, ⟨[(0, .hsl (.ext 0) 0 d.size), (1, .p (.int .i64 a')), (2, .p (.int .i64 b')), (3, .p (.int .i64 limit)), (4, .fn 108 [] []), (10, .p (.bool wb')), (11, .p (.bool wp'))], [(.ext 0, some (.parr (d'.toList.map Bal.pv) 2 false))]⟩) := by
  subst hN
  have ha : a < d.size := by omega
  have hp : p < d.size := by omega
  have g1 := ar_get hp
  have n1 : (0 : Int) ≤ (p : Int) := by omega
  have h0 : 0 + d.size ≤ d.size := by omega
  have a0 : d.toList.length = d.size := Array.length_toList
  have e3 := e261 (E := E) d a b p (by omega) hb hp (by omega)
  obtain ⟨k1, k2, k3, k4, k5⟩ := Go.Sort.partition_holds ltB swo_ltB d a b p hp1 hp2 hb
  -- the plain way
  have plain : (decide (a > 0) && !ltB d[a - 1]! d[p]!) = false → ∃ (a' b' : Nat) (wb' wp' : Bool) (d' : Array Bal), tailPdq d a b limit wb wp p = Sort.pdq ltB d' a' b' limit wb' wp' ∧ Sort.Below ltB a' b' d' ∧ d'.size = d.size ∧ a' ≤ b' ∧ b' ≤ d.size ∧ b' - a' < b - a ∧
      sexW E 1 p231b ⟨[(0, .hsl (.ext 0) 0 d.size), (1, .p (.int .i64 a)), (2, .p (.int .i64 b)), (3, .p (.int .i64 limit)), (4, .fn 108 [] []), (12, .p (.int .i64 (b - a : Nat))), (13, .p (.int .i64 p))], [(.ext 0, some (.parr (d.toList.map Bal.pv) 2 false))]⟩ = some (.nrm, ⟨[(0, .hsl (.ext 0) 0 d.size), (1, .p (.int .i64 a')), (2, .p (.int .i64 b')), (3, .p (.int .i64 limit)), (4, .fn 108 [] []), (10, .p (.bool wb')), (11, .p (.bool wp'))], [(.ext 0, some (.parr (d'.toList.map Bal.pv) 2 false))]⟩) := by
    intro h1
    unfold tailPdq
    rw [if_neg (by simp [h1])]
    generalize hpt : Sort.partition ltB d a b p = pt at *
    obtain ⟨mid, al, d4⟩ := pt
    dsimp only at k1 k2 k3 k4 k5 e3 ⊢
    rw [dif_pos ⟨k1, k2⟩]
    have w1 := wSub mid a k1 (by omega)
    have w2 := wSub b mid (by omega) (by omega)
    have w3 := wAdd1 mid (by omega)
    have q1 : IntKind.i64.wrap (((b - a : Nat) : Int).tdiv 8) = (((b - a) / 8 : Nat) : Int) := by
      rw [show ((b - a : Nat) : Int).tdiv 8 = (((b - a) / 8 : Nat) : Int) from rfl, wrapN _ (by omega)]
    have z4 : d4.size = d.size := k3.1
    have hB4 := below_perm hb k3 hB
    by_cases h4 : mid - a < b - mid
    · have f1 : ((mid - a : Nat) : Int) < ((b - mid : Nat) : Int) := by omega
      have hB5 := below_less (Nat.le_of_lt k2) hB4
      have c1 := hc d4 a mid limit z4 k1 (by omega) (by omega) hs hl hB5
      obtain ⟨m1, _⟩ := Go.Sort.pdq_sorts ltB swo_ltB d4 a mid limit true true k1 (by omega) hB5
      refine ⟨mid + 1, b, decide (mid - a ≥ (b - a) / 8), al, Sort.pdq ltB d4 a mid limit true true, by rw [if_pos h4], ?_, by rw [m1.1, z4], by omega, hb, by omega, ?_⟩
      · right
        intro i i1 i2
        rw [Nat.add_sub_cancel, m1.2.1 i (.inr (by omega)), m1.2.1 mid (.inr (by omega))]
        exact k5 i (by omega) i2
      · have f2 : decide ((((b - a) / 8 : Nat) : Int) ≤ ((mid - a : Nat) : Int)) = decide (mid - a ≥ (b - a) / 8) := by simp only [decide_eq_decide]; omega
        simp -implicitDefEqProofs only [go_sem, Bal.pv, p231b, s227_7, s227_8, e3, w1, w2, w3, q1, f1, f2, c1]
    · have f1 : ¬ ((mid - a : Nat) : Int) < ((b - mid : Nat) : Int) := by omega
      have hB5 : Sort.Below ltB (mid + 1) b d4 := by
        right
        intro i i1 i2
        rw [Nat.add_sub_cancel]
        exact k5 i (by omega) i2
      have c1 := hc d4 (mid + 1) b limit z4 (by omega) (by omega) hb hs hl hB5
      obtain ⟨m1, _⟩ := Go.Sort.pdq_sorts ltB swo_ltB d4 (mid + 1) b limit true true (by omega) (by omega) hB5
      refine ⟨a, mid, decide (b - mid ≥ (b - a) / 8), al, Sort.pdq ltB d4 (mid + 1) b limit true true, by rw [if_neg h4], ?_, by rw [m1.1, z4], by omega, by omega, by omega, ?_⟩
      · refine below_eq (fun i i1 i2 => m1.2.1 i (.inl (by omega))) (below_less (Nat.le_of_lt k2) hB4)
      · have f2 : decide ((((b - a) / 8 : Nat) : Int) ≤ ((b - mid : Nat) : Int)) = decide (b - mid ≥ (b - a) / 8) := by simp only [decide_eq_decide]; omega
        simp -implicitDefEqProofs only [go_sem, Bal.pv, p231b, s227_7, s227_8, e3, w1, w2, w3, q1, f1, f2, c1]
  by_cases ha0 : a > 0
  · have f1 : (0 : Int) < (a : Int) := by omega
    have w1 : IntKind.i64.wrap ((a : Int) - 1) = ((a - 1 : Nat) : Int) := wSub a 1 (by omega) (by omega)
    have i1 : a - 1 < d.size := by omega
    have g2 := ar_get i1
    have n2 : (0 : Int) ≤ ((a - 1 : Nat) : Int) := by omega
    have e1 := e108 (E := E) d[a - 1]! d[p]!
    have e2 := cmpB_lt d[a - 1]! d[p]!
    cases hl1 : ltB d[a - 1]! d[p]! with
    | false =>
      rw [hl1] at e2
      have e4 := of_decide_eq_false e2
      have e5 := e260 (E := E) d a b p (by omega) hb hp (by omega)
      have pre : ∀ i, a ≤ i → i < b → ltB d[i]! d[p]! = false := by
        intro i x1 x2
        rcases hB with h0 | hB
        · omega
        · exact swo_ltB.ntrans _ _ _ (hB i x1 x2) hl1
      obtain ⟨m1, m2, m3, m4, m5⟩ := Go.Sort.partitionEqual_holds ltB swo_ltB d a b p hp1 hp2 hb pre
      unfold tailPdq
      rw [if_pos (by simp [ha0, hl1])]
      generalize hpt : Sort.partitionEqual ltB d a b p = pt at *
      obtain ⟨mid, d4⟩ := pt
      dsimp only at m1 m2 m3 m4 m5 e5 ⊢
      refine ⟨mid, b, wb, wp, d4, .ex 1, .inr rfl, by rw [dif_pos ⟨m1, m2⟩], ?_, m3.1, m2, hb, by omega, ?_⟩
      · right
        intro i x1 x2
        cases hc2 : ltB d4[i]! d4[mid - 1]! with
        | false => rfl
        | true =>
          have t1 := m5 i x1 x2
          have t2 := swo_ltB.trans _ _ _ t1 hc2
          rw [m4 (mid - 1) (by omega) (by omega)] at t2
          cases t2
      · simp -implicitDefEqProofs only [go_sem, Bal.pv, p231, s227_6, f1, w1, i1, hp, g1, g2, n1, n2, h0, a0, e1, e4, e5]
    | true =>
      rw [hl1] at e2
      have e4 := of_decide_eq_true e2
      obtain ⟨a', b', wb', wp', d', r1, r2, r3, r4, r5, r6, r7⟩ := plain (by simp [hl1])
      refine ⟨a', b', wb', wp', d', .nrm, .inl rfl, r1, r2, r3, r4, r5, r6, ?_⟩
      simp -implicitDefEqProofs only [go_sem, Bal.pv, p231, s227_6, f1, w1, i1, hp, g1, g2, n1, n2, h0, a0, e1, e4, r7]
  · have f1 : ¬ (0 : Int) < (a : Int) := by omega
    obtain ⟨a', b', wb', wp', d', r1, r2, r3, r4, r5, r6, r7⟩ := plain (by simp [ha0])
    refine ⟨a', b', wb', wp', d', .nrm, .inl rfl, r1, r2, r3, r4, r5, r6, ?_⟩
    simp -implicitDefEqProofs only [go_sem, Bal.pv, p231, s227_6, f1, r7]
/-- A round behind the reversal. -/
theorem step231 (N n : Nat) (hc : SortCall E N n) (d : Array Bal) (a b limit : Nat) (wb wp : Bool) (p : Nat) (h : Sort.Hint) (hN : d.size = N) (hab : 12 < b - a) (hn : b - a ≤ n + 1) (hb : b ≤ N) (hs : N < 50) (hl : limit < 1000) (hp1 : a ≤ p) (hp2 : p < b) (hB : Sort.Below ltB a b d) :
    ((if wb && wp && h = .increasing then Sort.partialInsertionSort ltB d a b else (d, false)).2 = true ∧ sexW E 1 p231a ⟨[(0, .hsl (.ext 0) 0 d.size), (1, .p (.int .i64 a)), (2, .p (.int .i64 b)), (3, .p (.int .i64 limit)), (4, .fn 108 [] []), (10, .p (.bool wb)), (11, .p (.bool wp)), (12, .p (.int .i64 (b - a : Nat))), (13, .p (.int .i64 p)), (14, .p (.int .i64 (hintN h)))], [(.ext 0, some (.parr (d.toList.map Bal.pv) 2 false))]⟩ = some (.ret, ⟨[], [(.ext 0, some (.parr ((if wb && wp && h = .increasing then Sort.partialInsertionSort ltB d a b else (d, false)).1.toList.map Bal.pv) 2 false))]⟩)) ∨
    ((if wb && wp && h = .increasing then Sort.partialInsertionSort ltB d a b else (d, false)).2 = false ∧ (if wb && wp && h = .increasing then Sort.partialInsertionSort ltB d a b else (d, false)).1 = d ∧ ∃ (a' b' : Nat) (wb' wp' : Bool) (d' : Array Bal) (ex : Ex), (ex = .nrm ∨ ex = .ex 1) ∧ tailPdq d a b limit wb wp p = Sort.pdq ltB d' a' b' limit wb' wp' ∧ Sort.Below ltB a' b' d' ∧ d'.size = N ∧ a' ≤ b' ∧ b' ≤ N ∧ b' - a' < b - a ∧
    sexW E 1 p231a ⟨[(0, .hsl (.ext 0) 0 d.size), (1, .p (.int .i64 a)), (2, .p (.int .i64 b)), (3, .p (.int .i64 limit)), (4, .fn 108 [] []), (10, .p (.bool wb)), (11, .p (.bool wp)), (12, .p (.int .i64 (b - a : Nat))), (13, .p (.int .i64 p)), (14, .p (.int .i64 (hintN h)))], [(.ext 0, some (.parr (d.toList.map Bal.pv) 2 false))]⟩ = some (ex, ⟨[(0, .hsl (.ext 0) 0 d.size), (1, .p (.int .i64 a')), (2, .p (.int .i64 b')), (3, .p (.int .i64 limit)), (4, .fn 108 [] []), (10, .p (.bool wb')), (11, .p (.bool wp'))], [(.ext 0, some (.parr (d'.toList.map Bal.pv) 2 false))]⟩)) := by
  obtain ⟨a', b', wb', wp', d', ex, r0, r1, r2, r3, r4, r5, r6, r7⟩ := tail231 (E := E) N n hc d a b limit wb wp p hN hab hn hb hs hl hp1 hp2 hB
  have e1 := e259 (E := E) d a b (by omega) (by omega) (by omega)
  have pe := pi_eq d a b (by omega)
  by_cases hh : (wb && wp && h = .increasing) = true
  · simp only [Bool.and_eq_true, decide_eq_true_eq] at hh
    obtain ⟨⟨rfl, rfl⟩, rfl⟩ := hh
    simp only [Bool.and_self, decide_true, if_true, hintN]
    rw [pe] at e1 ⊢
    dsimp only at e1 ⊢
    cases hsrt : decide (Sort.scanSorted ltB d b (a + 1) = b) with
    | true =>
      rw [hsrt] at e1
      refine .inl ⟨rfl, ?_⟩
      simp -implicitDefEqProofs only [go_sem, Bal.pv, p231a, s227_5, e1]
    | false =>
      rw [hsrt] at e1
      refine .inr ⟨rfl, rfl, a', b', wb', wp', d', ex, r0, r1, r2, r3, r4, r5, r6, ?_⟩
      simp -implicitDefEqProofs only [go_sem, Bal.pv, p231a, s227_5, e1, r7]
  · rw [if_neg hh]
    refine .inr ⟨rfl, rfl, a', b', wb', wp', d', ex, r0, r1, r2, r3, r4, r5, r6, ?_⟩
    cases wb with
    | false => simp -implicitDefEqProofs only [go_sem, Bal.pv, p231a, s227_5, r7]
    | true =>
      cases wp with
      | false => simp -implicitDefEqProofs only [go_sem, Bal.pv, p231a, s227_5, r7]
      | true =>
        cases h with
        | increasing => exact absurd (by simp) hh
        | unknown => simp -implicitDefEqProofs only [go_sem, Bal.pv, p231a, s227_5, hintN, r7]
        | decreasing => simp -implicitDefEqProofs only [go_sem, Bal.pv, p231a, s227_5, hintN, r7]
end Go.Ab.S.SB
