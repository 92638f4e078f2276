/- A part of the proof (an executor, and what it computes). -/
import Derived.Test.YtmnjnpgmenigiaaBec2cd9a88d
set_option linter.all false
namespace Go.Ab.S
open Go Go.Ab

/-! ### Nodes that all trust alike -/
def flat (n : Nat) (th : Int) : Tr := ⟨th, upto n 0, []⟩
theorem five {n : Nat} (h : n ≤ 5) : n = 0 ∨ n = 1 ∨ n = 2 ∨ n = 3 ∨ n = 4 ∨ n = 5 := by omega
theorem flat_thin {n : Nat} (h : n ≤ 5) (th : Int) : (flat n th).thin := by
  have := upto_len n 0
  exact ⟨by show (upto n 0).length ≤ _; omega, by simp [flat], by simp [flat]⟩
theorem flat_err {n : Nat} (h : n ≤ 5) {th : Int} (h1 : 1 ≤ th) (h2 : th ≤ n) : errT (flat n th) = 0 := by
  have h3 := upto_len n 0
  have h4 : ((upto n 0).any badN) = false := by rcases five h with rfl | rfl | rfl | rfl | rfl | rfl <;> decide
  have h5 : (ofL 0 (upto n 0)).2 = 0 := by rcases five h with rfl | rfl | rfl | rfl | rfl | rfl <;> decide
  unfold errT flat
  rw [if_neg (by simp; omega), if_neg (by rw [h4]; decide), if_pos h5]
  rfl
theorem flat_cnt {n : Nat} (h : n ≤ 5) : cnt (2 ^ n - 1) (upto n 0) = n := by rcases five h with rfl | rfl | rfl | rfl | rfl | rfl <;> decide
theorem flat_bit {n : Nat} (h : n ≤ 5) (k : Nat) : (2 ^ n - 1).testBit k = decide (k < n) := Nat.testBit_two_pow_sub_one n k
theorem flat_sat {n : Nat} (h : n ≤ 5) {th : Int} (h2 : th ≤ n) : satT (2 ^ n - 1) (flat n th) = true := by
  simp only [satT, flat, flat_cnt h, cntI, decide_eq_true_eq]
  omega
/-- All of a list, one of each node, trust alike. -/
structure AllN (n : Nat) (t : Tr) (l : List Evl) : Prop where
  val : ∀ e ∈ l, validE e = true ∧ e.t = t
  inn : ∀ k : Nat, k < n → ∃ e ∈ l, e.node = (k : Int)
  out : ∀ e ∈ l, ∃ k : Nat, k < n ∧ e.node = (k : Int)
theorem AllN.view {n : Nat} {t : Tr} {l : List Evl} (h : AllN n t l) (hn : n ≤ 5) {i : Nat} (hi : i < n) (k : Nat) (hk : k < n) : (viewM i t l)[k]? = some ⟨true, t⟩ :=
  viewM_true (fun _ => t) i (by omega) l h.val k (by omega) (.inr (h.inn k hk))
theorem AllN.filter {n : Nat} {t : Tr} {l : List Evl} (h : AllN n t l) : l.filter validE = l := List.filter_eq_self.2 fun e he => (h.val e he).1
theorem AllN.nodes {n : Nat} {t : Tr} {l : List Evl} (h : AllN n t l) : nodesOk l := fun e he => validE_node (h.val e he).1
theorem AllN.sub {n : Nat} {t : Tr} {l : List Evl} (h : AllN n t l) (hn : n ≤ 5) (f : Evl → Bool) (hf : ∀ e ∈ l, f e = true) : subN (2 ^ n - 1) (who f l) := by
  intro k hk
  rw [flat_bit hn] at hk
  obtain ⟨e, h1, h2⟩ := h.inn k (of_decide_eq_true hk)
  rw [who_bit _ _ _ h.nodes, List.any_eq_true]
  exact ⟨e, h1, by simp [hf e h1, h2]⟩
theorem AllN.great {n : Nat} {th : Int} {l : List Evl} (h : AllN n (flat n th) l) (hn : n ≤ 5) (h2 : th ≤ n) {i : Nat} (hi : i < n) {s : Nat} (hs : subN (2 ^ n - 1) s) : (great (viewM i (flat n th) l) s).testBit i = true := by
  have hq : quorum (viewM i (flat n th) l) (2 ^ n - 1) := by
    intro k hk
    rw [flat_bit hn] at hk
    exact ⟨_, h.view hn hi k (of_decide_eq_true hk), rfl, flat_sat hn h2⟩
  have h3 := great_fix (viewM i (flat n th) l) (2 ^ n - 1) (by rcases five hn with rfl | rfl | rfl | rfl | rfl | rfl <;> decide) hq
  have h4 := great_mono (viewM i (flat n th) l) hs
  refine h4 i ?_
  rw [h3, flat_bit hn]
  exact decide_eq_true hi
theorem AllN.accept {n : Nat} {th : Int} {l : List Evl} (h : AllN n (flat n th) l) (hn : n ≤ 5) (h2 : th ≤ n) {i : Nat} (hi : i < n) {v : ByteArray} {y z : Int} (hb : ∀ e ∈ l, bothC v y z e = true) : acceptC i (flat n th) l v y z = true := by
  unfold acceptC accW
  rw [h.filter, h.great hn h2 hi (s := who (bothC v y z) l ||| _) fun k hk => by rw [Nat.testBit_or, h.sub hn _ hb k hk, Bool.true_or], Bool.or_true]
theorem AllN.confirm {n : Nat} {th : Int} {l : List Evl} (h : AllN n (flat n th) l) (hn : n ≤ 5) (h2 : th ≤ n) {i : Nat} (hi : i < n) {v : ByteArray} {y z : Int} (hb : ∀ e ∈ l, accC e v y z = true) : confirmC i (flat n th) l v y z = true := by
  unfold confirmC
  rw [h.filter]
  exact h.great hn h2 hi (h.sub hn _ hb)
theorem who_none {f : Evl → Bool} {l : List Evl} (hn : nodesOk l) (hf : ∀ e ∈ l, f e = false) : who f l = 0 := by
  refine Nat.eq_of_testBit_eq fun k => ?_
  rw [who_bit _ _ _ hn, Nat.zero_testBit, List.any_eq_false]
  intro e he
  simp [hf e he]
theorem bnds_list {l : List Evl} {v : ByteArray} {bs : List Int} (hs : bs.Pairwise (· < ·)) (h1 : ∀ e ∈ l, bndP v e = true → e.lo ∈ bs ∧ e.hi ∈ bs) (h2 : ∀ n ∈ bs, ∃ e ∈ l, bndP v e = true ∧ (n = e.lo ∨ n = e.hi)) : bndsN l v = bs := by
  refine sorted_ext (lt := fun x y : Int => decide (x < y)) (by simp) (by simp; omega) ?_ ?_ fun n => ?_
  · exact (bndsN_sorted _ _).imp fun h => by simpa using h
  · exact hs.imp fun h => by simpa using h
  · rw [bndsN_mem]
    constructor
    · rintro ⟨e, he, hb, h | h⟩
      · rw [h]; exact (h1 e he hb).1
      · rw [h]; exact (h1 e he hb).2
    · exact h2 n
end Go.Ab.S

namespace Go.Ab.S
open Go Go.Ab
variable {E : Env} [EnvS E]
/-- What a node says: kind 1 votes for the range, kind 2 accepts it. -/
def qE (n : Nat) (th low high : Int) (v : ByteArray) (k : Int) (i : Nat) : Evl := ⟨i, 1, 1, flat n th, k, ⟨high, v⟩, ⟨high, v⟩, Bal.zero, low, high⟩
end Go.Ab.S

namespace Go.Ab.S
open Go Go.Ab
variable {E : Env} [EnvS E]
def bsL (low high : Int) : List Int := if low = high then [low] else [low, high]
theorem fin_q {P : Int → Int → Bool} {low high : Int} (h1 : low ≤ high) (hP : ∀ y z, low ≤ y → y ≤ z → z ≤ high → P y z = true) : finK P (bsL low high) (bsL low high).length = some (low, high) := by
  have a2 := hP high high h1 (by omega) (by omega)
  have a3 := hP low high (by omega) h1 (by omega)
  by_cases h : low = high
  · subst h
    simp [bsL, finK, downK, a2]
  · have h5 : ¬ high ≤ low := by omega
    simp [bsL, h, finK, downK, a2, a3, h5]
theorem qE_valid {n : Nat} {th low high : Int} {v : ByteArray} {i : Nat} {k : Int} (hk : k = 1 ∨ k = 2) (hn : n ≤ 5) (t1 : 1 ≤ th) (t2 : th ≤ n) (h0 : 1 ≤ low) (h1 : low ≤ high) (hb : finite ⟨high, v⟩ = true) (hi : i < n) : validE (qE n th low high v k i) = true := by
  have h := hb
  simp only [finite, Bool.and_eq_true, decide_eq_true_eq] at h
  have h2 : validB ⟨high, v⟩ = true := h.1
  have h3 : high ≤ 1000 := h.2
  have he := flat_err hn t1 t2
  have hz : zeroB Bal.zero = true := by decide
  have hz2 : zeroB ⟨high, v⟩ = false := by simp [zeroB]; omega
  have n1 : (i : Int) < 10 := by omega
  have n2 : (0 : Int) ≤ i := by omega
  have p1 : (0 : Int) ≤ low := by omega
  have p2 : ¬ low = 0 := by omega
  have c1 : prepares ⟨high, v⟩ Bal.zero ⟨high, v⟩ = true := by simp [prepares, covers, hz2]
  have c2 : aborts ⟨high, v⟩ ⟨low, v⟩ = false := by simp [aborts]
  have c3 : aborts Bal.zero ⟨low, v⟩ = false := by simp [aborts, hz]
  rcases hk with rfl | rfl
  · simp [qE, validE, headE, he, n1, prepE, hb, optional, h2, hz, primeE, p1, h1, c1, c2, c3]
  · simp [qE, validE, headE, he, n1, hb, h2, hz, ranged, h0, h1, h3]
def qL (n : Nat) (th low high : Int) (v : ByteArray) (k : Int) : List Evl := (List.range' 0 n).map (qE n th low high v k)
theorem qL_mem {n : Nat} {th low high : Int} {v : ByteArray} {k : Int} {e : Evl} : e ∈ qL n th low high v k ↔ ∃ i, i < n ∧ e = qE n th low high v k i := by
  simp only [qL, List.mem_map, List.mem_range'_1]
  constructor
  · rintro ⟨i, h, rfl⟩; exact ⟨i, by omega, rfl⟩
  · rintro ⟨i, h, rfl⟩; exact ⟨i, by omega, rfl⟩
section
variable {n : Nat} {th low high : Int} {v : ByteArray} {k : Int} (hk : k = 1 ∨ k = 2) (hn : n ≤ 5) (t1 : 1 ≤ th) (t2 : th ≤ n) (h0 : 1 ≤ low) (h1 : low ≤ high) (hb : finite ⟨high, v⟩ = true)
include hk hn t1 t2 h0 h1 hb
theorem qL_all : AllN n (flat n th) (qL n th low high v k) where
  val := by
    intro e he
    obtain ⟨i, hi, rfl⟩ := qL_mem.1 he
    exact ⟨qE_valid hk hn t1 t2 h0 h1 hb hi, rfl⟩
  inn := fun j hj => ⟨_, qL_mem.2 ⟨j, hj, rfl⟩, rfl⟩
  out := by
    intro e he
    obtain ⟨i, hi, rfl⟩ := qL_mem.1 he
    exact ⟨i, hi, rfl⟩
theorem qL_bnds (hn0 : 0 < n) : bndsN (qL n th low high v k) v = bsL low high := by
  have hP : ∀ i, i < n → bndP v (qE n th low high v k i) = true := by
    intro i hi
    have h2 : ¬ low = 0 := by omega
    simp only [bndP, qE_valid hk hn t1 t2 h0 h1 hb hi]
    simp [qE, h2]
  refine bnds_list ?_ ?_ ?_
  · unfold bsL; split
    · simp
    · simp; omega
  · intro e he _
    obtain ⟨i, hi, rfl⟩ := qL_mem.1 he
    show low ∈ bsL low high ∧ high ∈ bsL low high
    unfold bsL; split <;> simp [*]
  · intro x hx
    refine ⟨_, qL_mem.2 ⟨0, hn0, rfl⟩, hP 0 hn0, ?_⟩
    show x = low ∨ x = high
    unfold bsL at hx; split at hx <;> simp at hx
    · exact .inl hx
    · exact hx
end
theorem q_from {n : Nat} {th low high : Int} {v : ByteArray} {k : Int} {i : Nat} {y z : Int} (h0 : 1 ≤ low) (h1 : low ≤ y) (h2 : y ≤ z) : fromE (qE n th low high v k i) v y z = true := by
  have : 1 ≤ y := by omega
  simp [fromE, qE, this, h1, h2]
end Go.Ab.S

namespace Go.Ab.S
open Go Go.Ab
variable {E : Env} [EnvS E]
/-- What a node says: the first one has accepted the old commit, the others the new one. -/
def jE (n : Nat) (th old frm : Int) (v : ByteArray) (i : Nat) : Evl := ⟨i, 1, 1, flat n th, 2, ⟨frm, v⟩, ⟨frm, v⟩, Bal.zero, if i = 0 then old else frm, if i = 0 then old else frm⟩
theorem loop1010 (n : Nat) (hn : n ≤ 5) (th old frm : Int) (v : ByteArray) : ∀ (k i : Nat) (es : List Evl), i + k = n → es.length = i →
    loopW E 0 [8, 9, 10, 11, 12, 13, 14] [.loc 3 4 0, .loc 7 0 0] (.trim [8, 9, 10, 11, 12, 13, 14] [6] [(0, [9, 10, 11, 12, 13])] [.loc 3 4 0, .loc 7 0 0] s1010_3) (some ⟨[(8, .p (.int .i64 n)), (9, .ptr (.loc 3 4 0) 0), (10, .p (.str v)), (11, .p (.int .i64 old)), (12, .p (.int .i64 frm)), (13, .hsl (.loc 7 0 0) 0 es.length), (14, .p (.int .i64 i))], [(.loc 3 4 0, some (.box [.p (.int .i64 th), .p (.sl 1 ((upto n 0).map (.int .i64))), .p (.sl 3 [])])), (.loc 7 0 0, some (.parr (es.map Evl.pv) 15 false))]⟩) =
    some (.ex 0, ⟨[(9, .ptr (.loc 3 4 0) 0), (10, .p (.str v)), (11, .p (.int .i64 old)), (12, .p (.int .i64 frm)), (13, .hsl (.loc 7 0 0) 0 n)], [(.loc 3 4 0, some (.box [.p (.int .i64 th), .p (.sl 1 ((upto n 0).map (.int .i64))), .p (.sl 3 [])])), (.loc 7 0 0, some (.parr ((es ++ (List.range' i k).map (jE n th old frm v)).map Evl.pv) 15 false))]⟩) := by
  generalize hK : loopW E 0 _ _ _ = K
  intro k
  induction k with
  | zero =>
    intro i es hi h1
    have : i = n := by omega
    subst this
    have f1 : ¬ (i : Int) < i := by omega
    rw [← hK, loopW_some, hK]
    simp -implicitDefEqProofs only [go_sem, s1010_3, s1010_2, s1010_1, f1, h1, List.range'_zero, List.map_nil, List.append_nil]
  | succ k ih =>
    intro i es hi h1
    have f1 : (i : Int) < n := by omega
    have f3 : IntKind.i64.wrap ((i : Int) + 1) = ((i + 1 : Nat) : Int) := wrap64 (by omega) (by omega)
    have ih' := ih (i + 1) (es ++ [jE n th old frm v i]) (by omega) (by simp; omega)
    have m1 : es.length + 1 ≤ most := by unfold most; omega
    rw [show List.range' i (k + 1) = i :: List.range' (i + 1) k from rfl]
    rw [List.append_assoc, List.singleton_append, ← List.map_cons (f := jE n th old frm v), List.map_append (f := Evl.pv) (l₁ := es) (l₂ := [jE n th old frm v i]), List.length_append] at ih'
    rw [show List.map Evl.pv [jE n th old frm v i] = [(.agg [.int .i64 i, .int .i64 1, .int .i64 1, .int .i64 th, .sl 1 ((upto n 0).map (.int .i64)), .sl 3 [], .int .i64 2, .int .i64 frm, .str v, .int .i64 frm, .str v, .int .i64 0, .str ByteArray.empty, .int .i64 (if i = 0 then old else frm), .int .i64 (if i = 0 then old else frm)])] from rfl, show [jE n th old frm v i].length = 1 from rfl] at ih'
    by_cases h : i = 0
    · subst h
      rw [if_pos rfl] at ih'
      simp only [Int.natCast_zero, Nat.zero_add, Int.natCast_one] at ih' f1 f3 ⊢
      rw [← hK, loopW_some, hK]
      simp -implicitDefEqProofs only [go_sem, s1010_3, s1010_2, s1010_1, f1, f3, m1]
      exact ih'
    · have h' : ¬ (i : Int) = 0 := by omega
      rw [if_neg h] at ih'
      rw [← hK, loopW_some, hK]
      simp -implicitDefEqProofs only [go_sem, s1010_3, s1010_2, s1010_1, f1, f3, m1, h']
      exact ih'
def jL (n : Nat) (th old frm : Int) (v : ByteArray) : List Evl := (List.range' 0 n).map (jE n th old frm v)
theorem jL_mem {n : Nat} {th old frm : Int} {v : ByteArray} {e : Evl} : e ∈ jL n th old frm v ↔ ∃ i, i < n ∧ e = jE n th old frm v i := by
  simp only [jL, List.mem_map, List.mem_range'_1]
  constructor
  · rintro ⟨i, h, rfl⟩; exact ⟨i, by omega, rfl⟩
  · rintro ⟨i, h, rfl⟩; exact ⟨i, by omega, rfl⟩
section
variable {n : Nat} {th old frm : Int} {v : ByteArray} (hn : n ≤ 5) (hn3 : 3 ≤ n) (ht : th = (n : Int) - 1) (h0 : 1 ≤ old) (h1 : old + 2 ≤ frm) (hb : finite ⟨frm, v⟩ = true)
include hn hn3 ht h0 h1 hb
theorem jE_valid {i : Nat} (hi : i < n) : validE (jE n th old frm v i) = true := by
  have h := hb
  simp only [finite, Bool.and_eq_true, decide_eq_true_eq] at h
  have h2 : validB ⟨frm, v⟩ = true := h.1
  have h3 : frm ≤ 1000 := h.2
  have he : errT (flat n th) = 0 := flat_err hn (by omega) (by omega)
  have hz : zeroB Bal.zero = true := by decide
  have n1 : (i : Int) < 10 := by omega
  by_cases hc : i = 0
  · subst hc
    have p1 : old ≤ 1000 := by omega
    have p2 : old ≤ frm := by omega
    simp [jE, validE, headE, he, hb, h2, hz, ranged, h0, p1, p2]
  · have p1 : 1 ≤ frm := by omega
    simp [jE, hc, validE, headE, he, n1, hb, h2, hz, ranged, p1, h3]
theorem jL_all : AllN n (flat n th) (jL n th old frm v) where
  val := by
    intro e he
    obtain ⟨i, hi, rfl⟩ := jL_mem.1 he
    exact ⟨jE_valid hn hn3 ht h0 h1 hb hi, rfl⟩
  inn := fun j hj => ⟨_, jL_mem.2 ⟨j, hj, rfl⟩, rfl⟩
  out := by
    intro e he
    obtain ⟨i, hi, rfl⟩ := jL_mem.1 he
    exact ⟨i, hi, rfl⟩
theorem jL_bnds : bndsN (jL n th old frm v) v = [old, frm] := by
  have hP : ∀ i, i < n → bndP v (jE n th old frm v i) = true := by
    intro i hi
    simp only [bndP, jE_valid hn hn3 ht h0 h1 hb hi, Bool.true_and, Bool.and_eq_true, decide_eq_true_eq, Bool.not_eq_true', decide_eq_false_iff_not]
    refine ⟨rfl, ?_⟩
    show ¬ (if i = 0 then old else frm) = 0
    split <;> omega
  refine bnds_list ?_ ?_ ?_
  · simp; omega
  · intro e he _
    obtain ⟨i, hi, rfl⟩ := jL_mem.1 he
    show (if i = 0 then old else frm) ∈ _ ∧ (if i = 0 then old else frm) ∈ _
    split <;> simp
  · intro x hx
    simp only [List.mem_cons, List.not_mem_nil, or_false] at hx
    rcases hx with rfl | rfl
    · exact ⟨_, jL_mem.2 ⟨0, by omega, rfl⟩, hP 0 (by omega), .inl rfl⟩
    · exact ⟨_, jL_mem.2 ⟨1, by omega, rfl⟩, hP 1 (by omega), .inl rfl⟩
theorem jL_new : acceptC 0 (flat n th) (jL n th old frm v) v frm frm = true := by
  refine (jL_all hn hn3 ht h0 h1 hb).accept hn (by omega) (by omega) fun e he => ?_
  obtain ⟨i, hi, rfl⟩ := jL_mem.1 he
  have h3 : 1 ≤ frm := by omega
  have h4 : (if i = 0 then old else frm) ≤ frm := by split <;> omega
  simp [bothC, votC, fromE, jE, h3, h4]
theorem jL_old : acceptC 0 (flat n th) (jL n th old frm v) v old frm = false := by
  have A := jL_all hn hn3 ht h0 h1 hb
  have h3 : ¬ frm ≤ old := by omega
  have ha : who (accC · v old frm) (jL n th old frm v) = 0 := who_none A.nodes fun e he => by
    obtain ⟨i, hi, rfl⟩ := jL_mem.1 he
    by_cases hc : i = 0 <;> simp [accC, fromE, jE, hc, h3]
  have hs : ∀ k, (who (bothC v old frm) (jL n th old frm v)).testBit k = true → k = 0 := by
    intro k hk
    rw [who_bit _ _ _ A.nodes, List.any_eq_true] at hk
    obtain ⟨e, he, h4⟩ := hk
    obtain ⟨i, hi, rfl⟩ := jL_mem.1 he
    simp only [Bool.and_eq_true, decide_eq_true_eq] at h4
    by_cases hc : i = 0
    · have : ((i : Nat) : Int) = (k : Int) := h4.2
      omega
    · have := h4.1
      simp [bothC, votC, accC, fromE, jE, hc, h3] at this
  have hv := A.view hn (i := 0) (by omega) 0 (by omega)
  simp only [Int.natCast_zero] at hv
  unfold acceptC accW
  rw [A.filter, ha]
  have hblk : blk (viewM (0 : Nat) (flat n th) (jL n th old frm v)) 0 0 = false := by
    simp only [blk, Int.natCast_zero, hv]
    have : satT ((1023 ^^^ 0) ||| 2 ^ 0) (flat n th) = true := by
      simp only [satT, flat, cntI, decide_eq_true_eq]
      have : cnt ((1023 ^^^ 0) ||| 2 ^ 0) (upto n 0) = n := by rcases five hn with rfl | rfl | rfl | rfl | rfl | rfl <;> decide
      omega
    rw [this]; rfl
  rw [hblk, Bool.false_or]
  cases hg : (great (viewM (0 : Nat) (flat n th) (jL n th old frm v)) (who (bothC v old frm) (jL n th old frm v) ||| 0)).testBit 0 with
  | false => rfl
  | true =>
    obtain ⟨m, hm, _, hsat⟩ := great_quorum _ _ 0 hg
    simp only [Int.natCast_zero] at hm
    rw [hv] at hm
    cases hm
    have hsub : subN (great (viewM (0 : Nat) (flat n th) (jL n th old frm v)) (who (bothC v old frm) (jL n th old frm v) ||| 0)) 1 := by
      intro k hk
      have := (great_sub _ _ k hk).1
      rw [Nat.or_zero] at this
      rw [hs k this]; decide
    have hc := cnt_mono hsub (upto n 0)
    have h1' : cnt 1 (upto n 0) ≤ 1 := by rcases five hn with rfl | rfl | rfl | rfl | rfl | rfl <;> decide
    have hsat' := of_decide_eq_true hsat
    change th ≤ ((cnt _ (upto n 0) + 0 : Nat) : Int) at hsat'
    simp only [Int.natCast_zero] at hsat' hc
    omega
theorem jL_ext : extK (acceptC 0 (flat n th) (jL n th old frm v) v) [old, frm] old old 2 = (frm, frm) ∧ downK (fun y => acceptC 0 (flat n th) (jL n th old frm v) v y frm) [old, frm] 2 frm = frm := by
  have a1 := jL_new hn hn3 ht h0 h1 hb
  have a2 := jL_old hn hn3 ht h0 h1 hb
  have g1 : ¬ frm ≤ old := by omega
  have g2 : old < frm - 1 := by omega
  have d : downK (fun y => acceptC 0 (flat n th) (jL n th old frm v) v y frm) [old, frm] 2 frm = frm := by
    simp [downK, g1, a2]
  refine ⟨?_, d⟩
  rw [extK]
  simp only [List.getElem?_cons_succ, List.getElem?_cons_zero, g1, if_false, a1, if_true, List.length_cons, List.length_nil, Nat.zero_add, Nat.reduceAdd, d, g2, true_or]
end
theorem jL_cons {n : Nat} (hn : 0 < n) (th old frm : Int) (v : ByteArray) : ∃ tl : List PV, tl.length + 1 = n ∧ (jL n th old frm v).map Evl.pv = (.agg [.int .i64 0, .int .i64 1, .int .i64 1, .int .i64 th, .sl 1 ((upto n 0).map (.int .i64)), .sl 3 [], .int .i64 2, .int .i64 frm, .str v, .int .i64 frm, .str v, .int .i64 0, .str ByteArray.empty, .int .i64 old, .int .i64 old]) :: tl ∧ (qL n th frm frm v 2).map Evl.pv = (.agg [.int .i64 0, .int .i64 1, .int .i64 1, .int .i64 th, .sl 1 ((upto n 0).map (.int .i64)), .sl 3 [], .int .i64 2, .int .i64 frm, .str v, .int .i64 frm, .str v, .int .i64 0, .str ByteArray.empty, .int .i64 frm, .int .i64 frm]) :: tl := by
  obtain ⟨m, rfl⟩ : ∃ m, n = m + 1 := ⟨n - 1, by omega⟩
  refine ⟨((List.range' 1 m).map (jE (m + 1) th old frm v)).map Evl.pv, by simp, by simp only [jL, List.range'_succ, List.map_cons]; rfl, ?_⟩
  simp only [qL, List.range'_succ, List.map_cons]
  rw [List.map_map, List.map_map]
  refine congr (congrArg List.cons rfl) (List.map_congr_left fun i hi => ?_)
  have : ¬ i = 0 := by have := List.mem_range'_1.1 hi; omega
  simp only [Function.comp, qE, jE, this, if_false]
theorem law1010 (zs : List Int) (a b : Int) (ha : 0 ≤ a) (ha' : a ≤ 255) (hb0 : 0 ≤ b) (hb' : b ≤ 255) : callW E 1010 [.p (.sl 1 (zs.map (.int .i64))), .p (.int .u8 a), .p (.int .u8 b)] [] = some ⟨.p (.bool true), [], []⟩ := by
  have e0 := e17 (E := E) zs
  have hl : (zs.take 800).length ≤ 800 := by simp; omega
  generalize zs.take 800 = l at *
  have e1 := e31 (E := E) l 0 3 5 hl (by omega) (by omega) (by omega) (by omega) (by omega)
  simp only [show (5 : Int) - 3 + 1 = 3 from rfl] at e1
  have b1 := dV_nonneg l 0 3
  have b2 := dV_lt l 0 3 (by decide)
  have l1 := dA_le l 0 3 (by omega)
  generalize dA l 0 3 = a1 at *
  obtain ⟨n, hn⟩ : ∃ n : Nat, 3 + dV l 0 3 = n := ⟨(3 + dV l 0 3).toNat, by omega⟩
  rw [hn] at e1
  have w1 : IntKind.i64.wrap ((n : Int) - 1) = (n : Int) - 1 := wrap64 (by omega) (by omega)
  have e2 := e36 (E := E) n ((n : Int) - 1) (by omega)
  have e3 := e30 (E := E) l a1 hl l1
  have hval := isVal_dV l a1
  generalize valN (dV l a1 4) = v at *
  have w2 : IntKind.i64.wrap a = a := wrap64 (by omega) (by omega)
  have w3 : IntKind.i64.wrap b = b := wrap64 (by omega) (by omega)
  have t0 : 0 ≤ a.tmod 4 := Int.tmod_nonneg _ ha
  have t1 : a.tmod 4 < 4 := Int.tmod_lt_of_pos _ (by decide)
  have t2 : 0 ≤ b.tmod 4 := Int.tmod_nonneg _ hb0
  have t3 : b.tmod 4 < 4 := Int.tmod_lt_of_pos _ (by decide)
  have w4 : IntKind.i64.wrap (1 + a.tmod 4) = 1 + a.tmod 4 := wrap64 (by omega) (by omega)
  obtain ⟨old, hold⟩ : ∃ o, 1 + a.tmod 4 = o := ⟨_, rfl⟩
  rw [hold] at w4
  have w5 : IntKind.i64.wrap (old + 2) = old + 2 := wrap64 (by omega) (by omega)
  have w6 : IntKind.i64.wrap (old + 2 + b.tmod 4) = old + 2 + b.tmod 4 := wrap64 (by omega) (by omega)
  obtain ⟨frm, hfrm⟩ : ∃ o, old + 2 + b.tmod 4 = o := ⟨_, rfl⟩
  rw [hfrm] at w6
  have hn5 : n ≤ 5 := by omega
  have hb : finite ⟨frm, v⟩ = true := finite_mk (by omega) (by omega) hval
  have q0 : 1 ≤ old := by omega
  have q1 : old + 2 ≤ frm := by omega
  have J := jL_all hn5 (by omega) rfl q0 q1 hb
  have jb := jL_bnds hn5 (by omega) rfl q0 q1 hb
  obtain ⟨x1, x2⟩ := jL_ext hn5 (by omega) rfl q0 q1 hb
  have Q := qL_all (n := n) (th := (n : Int) - 1) (low := frm) (high := frm) (v := v) (k := 2) (.inr rfl) hn5 (by omega) (by omega) (by omega) (Int.le_refl _) hb
  have qb := qL_bnds (n := n) (th := (n : Int) - 1) (low := frm) (high := frm) (v := v) (k := 2) (.inr rfl) hn5 (by omega) (by omega) (by omega) (Int.le_refl _) hb (by omega)
  have ht := flat_thin hn5 ((n : Int) - 1)
  have e4 := e65 (E := E) 0 (by decide) (flat n ((n : Int) - 1)) (jL n ((n : Int) - 1) old frm v) v old old ht (by simp [jL]; omega) (fun e he => by rw [(J.val e he).2]; exact ht)
  have e5 := e38 (E := E) 0 (by decide) (flat n ((n : Int) - 1)) (qL n ((n : Int) - 1) frm frm v 2) v ht (by simp [qL]; omega) (fun e he => by rw [(Q.val e he).2]; exact ht)
  have hf : finK (confirmC 0 (flat n ((n : Int) - 1)) (qL n ((n : Int) - 1) frm frm v 2) v) (bsL frm frm) (bsL frm frm).length = some (frm, frm) :=
    fin_q (Int.le_refl _) fun y z y1 y2 y3 => Q.confirm hn5 (by omega) (by omega) fun e he => by
      obtain ⟨j, _, rfl⟩ := qL_mem.1 he
      have hf := q_from (n := n) (th := (n : Int) - 1) (high := frm) (v := v) (k := 2) (i := j) (show 1 ≤ frm by omega) y1 y2
      simp only [accC, hf]
      simp [qE, y3]
  rw [qb, hf] at e5
  rw [jb] at e4
  simp only [List.length_cons, List.length_nil, Nat.zero_add, Nat.reduceAdd, x1, extV, x2] at e4
  have e6 := e35 (E := E)
  have lp := loop1010 (E := E) n hn5 ((n : Int) - 1) old frm v n 0 [] (by omega) rfl
  simp only [List.nil_append, List.map_nil, List.length_nil, Int.natCast_zero] at lp
  rw [← jL] at lp
  obtain ⟨tl, htl, hj, hq⟩ := jL_cons (n := n) (by omega) ((n : Int) - 1) old frm v
  rw [hj] at lp e4
  rw [hq] at e5
  have hlen : (tl.length : Int) + 1 = n := by omega
  have k1 : ∀ x : PV, (x :: tl).take n = x :: tl := fun x => List.take_of_length_le (by simp; omega)
  have k2 : ∀ x : PV, (x :: tl).length = n := fun x => by simp; omega
  have k3 : 0 < n := by omega
  have k4 : (0 : Int) < (n : Int) := by omega
  have s1 : setE (.agg [.int .i64 0, .int .i64 1, .int .i64 1, .int .i64 ((n : Int) - 1), .sl 1 ((upto n 0).map (.int .i64)), .sl 3 [], .int .i64 2, .int .i64 frm, .str v, .int .i64 frm, .str v, .int .i64 0, .str ByteArray.empty, .int .i64 old, .int .i64 old] : PV) 13 [.int .i64 frm] = (.agg [.int .i64 0, .int .i64 1, .int .i64 1, .int .i64 ((n : Int) - 1), .sl 1 ((upto n 0).map (.int .i64)), .sl 3 [], .int .i64 2, .int .i64 frm, .str v, .int .i64 frm, .str v, .int .i64 0, .str ByteArray.empty, .int .i64 frm, .int .i64 old] : PV) := rfl
  have s2 : setE (.agg [.int .i64 0, .int .i64 1, .int .i64 1, .int .i64 ((n : Int) - 1), .sl 1 ((upto n 0).map (.int .i64)), .sl 3 [], .int .i64 2, .int .i64 frm, .str v, .int .i64 frm, .str v, .int .i64 0, .str ByteArray.empty, .int .i64 frm, .int .i64 old] : PV) 14 [.int .i64 frm] = (.agg [.int .i64 0, .int .i64 1, .int .i64 1, .int .i64 ((n : Int) - 1), .sl 1 ((upto n 0).map (.int .i64)), .sl 3 [], .int .i64 2, .int .i64 frm, .str v, .int .i64 frm, .str v, .int .i64 0, .str ByteArray.empty, .int .i64 frm, .int .i64 frm] : PV) := rfl
  unfold Tr.pv flat at e4 e5
  unfold Tr.pv at e2
  simp only [cast_lit, Int.natCast_zero, List.map_nil, finV] at e0 e1 e2 e3 e4 e5
  rw [callW_eq, EnvS.h 1010 F1010 rfl]
  simp -implicitDefEqProofs only [go_sem, F1010, s1010, s1010_4, e0, e1, w1, e2, e3, w2, w3, w4, hold, w5, w6, hfrm, e4, e5, e6, lp, k1, k2, htl, k3, k4, s1, s2, List.set_cons_zero, List.getElem?_cons_zero]
end Go.Ab.S
