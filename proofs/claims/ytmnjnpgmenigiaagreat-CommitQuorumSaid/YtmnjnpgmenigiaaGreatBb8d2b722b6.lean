/- A part of the proof (an executor, and what it computes). -/
import Derived.Test.YtmnjnpgmenigiaaGreatB814486688c
set_option linter.all false
namespace Go.Ab.S
open Go Go.Ab

/-! ### Nodes that all trust alike -/
def flat (n : Nat) (th : Int) : Tr := ⟨th, upto n 0, []⟩
theorem five {n : Nat} (h : n ≤ 5) : n = 0 ∨ n = 1 ∨ n = 2 ∨ n = 3 ∨ n = 4 ∨ n = 5 := by omega
theorem flat_thin {n : Nat} (h : n ≤ 5) (th : Int) : (flat n th).thin := by
  have := upto_len n 0
  exact ⟨by show (upto n 0).length ≤ _; omega, by simp [flat], by simp [flat]⟩
theorem flat_err {n : Nat} (h : n ≤ 5) {th : Int} (h1 : 1 ≤ th) (h2 : th ≤ n) : errT (flat n th) = 0 := by
  have h3 := upto_len n 0
  have h4 : ((upto n 0).any badN) = false := by rcases five h with rfl | rfl | rfl | rfl | rfl | rfl <;> decide
  have h5 : (ofL 0 (upto n 0)).2 = 0 := by rcases five h with rfl | rfl | rfl | rfl | rfl | rfl <;> decide
  unfold errT flat
  rw [if_neg (by simp; omega), if_neg (by rw [h4]; decide), if_pos h5]
  rfl
theorem flat_cnt {n : Nat} (h : n ≤ 5) : cnt (2 ^ n - 1) (upto n 0) = n := by rcases five h with rfl | rfl | rfl | rfl | rfl | rfl <;> decide
theorem flat_bit {n : Nat} (h : n ≤ 5) (k : Nat) : (2 ^ n - 1).testBit k = decide (k < n) := Nat.testBit_two_pow_sub_one n k
theorem flat_sat {n : Nat} (h : n ≤ 5) {th : Int} (h2 : th ≤ n) : satT (2 ^ n - 1) (flat n th) = true := by
  simp only [satT, flat, flat_cnt h, cntI, decide_eq_true_eq]
  omega
/-- All of a list, one of each node, trust alike. -/
structure AllN (n : Nat) (t : Tr) (l : List Evl) : Prop where
  val : ∀ e ∈ l, validE e = true ∧ e.t = t
  inn : ∀ k : Nat, k < n → ∃ e ∈ l, e.node = (k : Int)
  out : ∀ e ∈ l, ∃ k : Nat, k < n ∧ e.node = (k : Int)
theorem AllN.view {n : Nat} {t : Tr} {l : List Evl} (h : AllN n t l) (hn : n ≤ 5) {i : Nat} (hi : i < n) (k : Nat) (hk : k < n) : (viewM i t l)[k]? = some ⟨true, t⟩ :=
  viewM_true (fun _ => t) i (by omega) l h.val k (by omega) (.inr (h.inn k hk))
theorem AllN.filter {n : Nat} {t : Tr} {l : List Evl} (h : AllN n t l) : l.filter validE = l := List.filter_eq_self.2 fun e he => (h.val e he).1
theorem AllN.nodes {n : Nat} {t : Tr} {l : List Evl} (h : AllN n t l) : nodesOk l := fun e he => validE_node (h.val e he).1
theorem AllN.sub {n : Nat} {t : Tr} {l : List Evl} (h : AllN n t l) (hn : n ≤ 5) (f : Evl → Bool) (hf : ∀ e ∈ l, f e = true) : subN (2 ^ n - 1) (who f l) := by
  intro k hk
  rw [flat_bit hn] at hk
  obtain ⟨e, h1, h2⟩ := h.inn k (of_decide_eq_true hk)
  rw [who_bit _ _ _ h.nodes, List.any_eq_true]
  exact ⟨e, h1, by simp [hf e h1, h2]⟩
theorem AllN.great {n : Nat} {th : Int} {l : List Evl} (h : AllN n (flat n th) l) (hn : n ≤ 5) (h2 : th ≤ n) {i : Nat} (hi : i < n) {s : Nat} (hs : subN (2 ^ n - 1) s) : (great (viewM i (flat n th) l) s).testBit i = true := by
  have hq : quorum (viewM i (flat n th) l) (2 ^ n - 1) := by
    intro k hk
    rw [flat_bit hn] at hk
    exact ⟨_, h.view hn hi k (of_decide_eq_true hk), rfl, flat_sat hn h2⟩
  have h3 := great_fix (viewM i (flat n th) l) (2 ^ n - 1) (by rcases five hn with rfl | rfl | rfl | rfl | rfl | rfl <;> decide) hq
  have h4 := great_mono (viewM i (flat n th) l) hs
  refine h4 i ?_
  rw [h3, flat_bit hn]
  exact decide_eq_true hi
theorem AllN.accept {n : Nat} {th : Int} {l : List Evl} (h : AllN n (flat n th) l) (hn : n ≤ 5) (h2 : th ≤ n) {i : Nat} (hi : i < n) {v : ByteArray} {y z : Int} (hb : ∀ e ∈ l, bothC v y z e = true) : acceptC i (flat n th) l v y z = true := by
  unfold acceptC accW
  rw [h.filter, h.great hn h2 hi (s := who (bothC v y z) l ||| _) fun k hk => by rw [Nat.testBit_or, h.sub hn _ hb k hk, Bool.true_or], Bool.or_true]
theorem AllN.confirm {n : Nat} {th : Int} {l : List Evl} (h : AllN n (flat n th) l) (hn : n ≤ 5) (h2 : th ≤ n) {i : Nat} (hi : i < n) {v : ByteArray} {y z : Int} (hb : ∀ e ∈ l, accC e v y z = true) : confirmC i (flat n th) l v y z = true := by
  unfold confirmC
  rw [h.filter]
  exact h.great hn h2 hi (h.sub hn _ hb)
theorem who_none {f : Evl → Bool} {l : List Evl} (hn : nodesOk l) (hf : ∀ e ∈ l, f e = false) : who f l = 0 := by
  refine Nat.eq_of_testBit_eq fun k => ?_
  rw [who_bit _ _ _ hn, Nat.zero_testBit, List.any_eq_false]
  intro e he
  simp [hf e he]
theorem AllN.deny {n : Nat} {t : Tr} {l : List Evl} (h : AllN n t l) {i : Nat} {v : ByteArray} {y z : Int} (hb : ∀ e ∈ l, accC e v y z = false) : confirmC i t l v y z = false := by
  unfold confirmC
  rw [h.filter, who_none h.nodes hb, great_zero, Nat.zero_testBit]
theorem bnds_list {l : List Evl} {v : ByteArray} {bs : List Int} (hs : bs.Pairwise (· < ·)) (h1 : ∀ e ∈ l, bndP v e = true → e.lo ∈ bs ∧ e.hi ∈ bs) (h2 : ∀ n ∈ bs, ∃ e ∈ l, bndP v e = true ∧ (n = e.lo ∨ n = e.hi)) : bndsN l v = bs := by
  refine sorted_ext (lt := fun x y : Int => decide (x < y)) (by simp) (by simp; omega) ?_ ?_ fun n => ?_
  · exact (bndsN_sorted _ _).imp fun h => by simpa using h
  · exact hs.imp fun h => by simpa using h
  · rw [bndsN_mem]
    constructor
    · rintro ⟨e, he, hb, h | h⟩
      · rw [h]; exact (h1 e he hb).1
      · rw [h]; exact (h1 e he hb).2
    · exact h2 n
theorem lessV_irrefl (v : ByteArray) : lessV v v = false := by rw [← lessV_lt]; exact SV.swo_ltV.irrefl v
theorem vals_one {l : List Evl} {v : ByteArray} (h1 : ∀ e ∈ l, validE e = true ∧ e.b.v = v) (h2 : l ≠ []) : valsN l = [v] := by
  have hs := valsN_sorted l
  have hm : ∀ x ∈ valsN l, x = v := fun x hx => by
    obtain ⟨e, h3, _, h4⟩ := valsN_mem.1 hx
    rw [← h4]; exact (h1 e h3).2
  have hv : v ∈ valsN l := by
    obtain ⟨e, r, rfl⟩ := List.exists_cons_of_ne_nil h2
    exact valsN_mem.2 ⟨e, List.mem_cons_self, (h1 e List.mem_cons_self).1, (h1 e List.mem_cons_self).2⟩
  cases hl : valsN l with
  | nil => rw [hl] at hv; cases hv
  | cons x r =>
    rw [hl] at hs hm
    cases r with
    | nil => rw [hm x List.mem_cons_self]
    | cons y r =>
      have h3 := (List.pairwise_cons.1 hs).1 y List.mem_cons_self
      rw [hm x List.mem_cons_self, hm y (List.mem_cons_of_mem _ List.mem_cons_self), lessV_irrefl] at h3
      cases h3
end Go.Ab.S

namespace Go.Ab.S
open Go Go.Ab
variable {E : Env} [EnvS E]
/-- What a node says: kind 1 votes for the range, kind 2 accepts it. -/
def qE (n : Nat) (th low high : Int) (v : ByteArray) (k : Int) (i : Nat) : Evl := ⟨i, 1, 1, flat n th, k, ⟨high, v⟩, ⟨high, v⟩, Bal.zero, low, high⟩
theorem loop5a (n : Nat) (hn : n ≤ 5) (th low high : Int) (v : ByteArray) : ∀ (k i : Nat) (ev ea : List Evl), i + k = n → ev.length = i → ea.length = i →
    loopW E 0 [4, 5, 6, 7, 8, 9, 10, 11] [.loc 5 4 0, .loc 6 5 0, .loc 7 0 0, .loc 7 1 0] (.trim [4, 5, 6, 7, 8, 9, 10, 11] [2] [(0, [4, 5, 6, 7, 8, 9, 10])] [.loc 5 4 0, .loc 6 5 0, .loc 7 0 0, .loc 7 1 0] s5_2) (some ⟨[(4, .p (.int .i64 n)), (5, .p (.int .i64 low)), (6, .p (.int .i64 high)), (7, .ptr (.loc 5 4 0) 0), (8, .ptr (.loc 6 5 0) 0), (9, .hsl (.loc 7 0 0) 0 ev.length), (10, .hsl (.loc 7 1 0) 0 ea.length), (11, .p (.int .i64 i))], [(.loc 5 4 0, some (.box [.p (.int .i64 high), .p (.str v)])), (.loc 6 5 0, some (.box [.p (.int .i64 th), .p (.sl 1 ((upto n 0).map (.int .i64))), .p (.sl 3 [])])), (.loc 7 0 0, some (.parr (ev.map Evl.pv) 15 false)), (.loc 7 1 0, some (.parr (ea.map Evl.pv) 15 false))]⟩) =
    some (.ex 0, ⟨[(4, .p (.int .i64 n)), (5, .p (.int .i64 low)), (6, .p (.int .i64 high)), (7, .ptr (.loc 5 4 0) 0), (8, .ptr (.loc 6 5 0) 0), (9, .hsl (.loc 7 0 0) 0 n), (10, .hsl (.loc 7 1 0) 0 n)], [(.loc 5 4 0, some (.box [.p (.int .i64 high), .p (.str v)])), (.loc 6 5 0, some (.box [.p (.int .i64 th), .p (.sl 1 ((upto n 0).map (.int .i64))), .p (.sl 3 [])])), (.loc 7 0 0, some (.parr ((ev ++ (List.range' i k).map (qE n th low high v 1)).map Evl.pv) 15 false)), (.loc 7 1 0, some (.parr ((ea ++ (List.range' i k).map (qE n th low high v 2)).map Evl.pv) 15 false))]⟩) := by
  generalize hK : loopW E 0 _ _ _ = K
  intro k
  induction k with
  | zero =>
    intro i ev ea hi h1 h2
    have : i = n := by omega
    subst this
    have f1 : ¬ (i : Int) < i := by omega
    rw [← hK, loopW_some, hK]
    simp -implicitDefEqProofs only [go_sem, s5_2, s5_1, f1, h1, h2, List.range'_zero, List.map_nil, List.append_nil]
  | succ k ih =>
    intro i ev ea hi h1 h2
    have f1 : (i : Int) < n := by omega
    have f3 : IntKind.i64.wrap ((i : Int) + 1) = ((i + 1 : Nat) : Int) := wrap64 (by omega) (by omega)
    have ih' := ih (i + 1) (ev ++ [qE n th low high v 1 i]) (ea ++ [qE n th low high v 2 i]) (by omega) (by simp; omega) (by simp; omega)
    have m1 : ev.length + 1 ≤ most := by unfold most; omega
    have m2 : ea.length + 1 ≤ most := by unfold most; omega
    rw [show List.range' i (k + 1) = i :: List.range' (i + 1) k from rfl]
    rw [List.append_assoc, List.singleton_append, ← List.map_cons (f := qE n th low high v 1), List.append_assoc, List.singleton_append, ← List.map_cons (f := qE n th low high v 2), List.map_append (f := Evl.pv) (l₁ := ev) (l₂ := [qE n th low high v 1 i]), List.map_append (f := Evl.pv) (l₁ := ea) (l₂ := [qE n th low high v 2 i]), List.length_append, List.length_append] at ih'
    rw [show List.map Evl.pv [qE n th low high v 1 i] = [(.agg [.int .i64 i, .int .i64 1, .int .i64 1, .int .i64 th, .sl 1 ((upto n 0).map (.int .i64)), .sl 3 [], .int .i64 1, .int .i64 high, .str v, .int .i64 high, .str v, .int .i64 0, .str ByteArray.empty, .int .i64 low, .int .i64 high])] from rfl, show List.map Evl.pv [qE n th low high v 2 i] = [(.agg [.int .i64 i, .int .i64 1, .int .i64 1, .int .i64 th, .sl 1 ((upto n 0).map (.int .i64)), .sl 3 [], .int .i64 2, .int .i64 high, .str v, .int .i64 high, .str v, .int .i64 0, .str ByteArray.empty, .int .i64 low, .int .i64 high])] from rfl, show [qE n th low high v 1 i].length = 1 from rfl, show [qE n th low high v 2 i].length = 1 from rfl] at ih'
    rw [← hK, loopW_some, hK]
    simp -implicitDefEqProofs only [go_sem, s5_2, s5_1, f1, f3, m1, m2]
    exact ih'

theorem loop5b (n : Nat) (hn : n ≤ 5) (th low high : Int) (v : ByteArray) (ev ea : List Evl) (lv : ev.length = n) (la : ea.length = n) (tv : ∀ e ∈ ev, e.t.thin) (ta : ∀ e ∈ ea, e.t.thin)
    (h1 : ∀ i : Nat, i < n → firstV ⟨high, v⟩ ⟨0, ByteArray.empty⟩ (acceptC i (flat n th) ev) ev (firstF ⟨high, v⟩ ⟨0, ByteArray.empty⟩ (acceptC i (flat n th) ev) ev) = .tup [.p (.str v), .p (.int .i64 low), .p (.int .i64 high), .p (.bool true)])
    (h2 : ∀ i : Nat, i < n → finK (confirmC i (flat n th) ea v) (bndsN ea v) (bndsN ea v).length = some (low, high))
    (h3 : ∀ i : Nat, i < n → finK (confirmC i (flat n th) ev v) (bndsN ev v) (bndsN ev v).length = none) : ∀ (k i : Nat) (fl : Bool), i + k = n →
    ∃ fl', loopW E 0 [4, 5, 6, 7, 8, 9, 10, 13] [.loc 5 4 0, .loc 6 5 0, .loc 7 0 0, .loc 7 1 0] (.trim [4, 5, 6, 7, 8, 9, 10, 13] [2] [(2, [])] [.loc 5 4 0, .loc 6 5 0, .loc 7 0 0, .loc 7 1 0] s5_6) (some ⟨[(4, .p (.int .i64 n)), (5, .p (.int .i64 low)), (6, .p (.int .i64 high)), (7, .ptr (.loc 5 4 0) 0), (8, .ptr (.loc 6 5 0) 0), (9, .hsl (.loc 7 0 0) 0 n), (10, .hsl (.loc 7 1 0) 0 n), (13, .p (.int .i64 i))], [(.loc 5 4 0, some (.box [.p (.int .i64 high), .p (.str v)])), (.loc 6 5 0, some (.box [.p (.int .i64 th), .p (.sl 1 ((upto n 0).map (.int .i64))), .p (.sl 3 [])])), (.loc 7 0 0, some (.parr (ev.map Evl.pv) 15 fl)), (.loc 7 1 0, some (.parr (ea.map Evl.pv) 15 fl))]⟩) =
    some (.ex 2, ⟨[], [(.loc 5 4 0, some (.box [.p (.int .i64 high), .p (.str v)])), (.loc 6 5 0, some (.box [.p (.int .i64 th), .p (.sl 1 ((upto n 0).map (.int .i64))), .p (.sl 3 [])])), (.loc 7 0 0, some (.parr (ev.map Evl.pv) 15 fl')), (.loc 7 1 0, some (.parr (ea.map Evl.pv) 15 fl'))]⟩) := by
  generalize hK : loopW E 0 _ _ _ = K
  intro k
  induction k with
  | zero =>
    intro i fl hi
    have : i = n := by omega
    subst this
    have f1 : ¬ (i : Int) < i := by omega
    refine ⟨fl, ?_⟩
    rw [← hK, loopW_some, hK]
    simp -implicitDefEqProofs only [go_sem, s5_6, s5_5, s5_4, f1]
  | succ k ih =>
    intro i fl hi
    have f1 : (i : Int) < n := by omega
    have f3 : IntKind.i64.wrap ((i : Int) + 1) = ((i + 1 : Nat) : Int) := wrap64 (by omega) (by omega)
    obtain ⟨fl', ih'⟩ := ih (i + 1) fl (by omega)
    refine ⟨fl', ?_⟩
    have ht := flat_thin hn th
    have e1 := e37 (E := E) i (by omega) (flat n th) ev ⟨high, v⟩ ⟨0, ByteArray.empty⟩ ht (by omega) tv
    have e2 := e38 (E := E) i (by omega) (flat n th) ea v ht (by omega) ta
    have e3 := e38 (E := E) i (by omega) (flat n th) ev v ht (by omega) tv
    rw [h1 i (by omega)] at e1
    rw [h2 i (by omega)] at e2
    rw [h3 i (by omega)] at e3
    unfold Tr.pv flat at e1 e2 e3
    simp only [List.map_nil, finV] at e1 e2 e3
    have t1 : (ev.map Evl.pv).take n = ev.map Evl.pv := List.take_of_length_le (by simp; omega)
    have t2 : (ea.map Evl.pv).take n = ea.map Evl.pv := List.take_of_length_le (by simp; omega)
    have l1 : (ev.map Evl.pv).length = n := by simp [lv]
    have l2 : (ea.map Evl.pv).length = n := by simp [la]
    rw [← hK, loopW_some, hK]
    simp -implicitDefEqProofs only [go_sem, s5_6, s5_5, s5_4, f1, f3, e1, e2, e3, t1, t2, l1, l2]
    exact ih'
end Go.Ab.S

namespace Go.Ab.S
open Go Go.Ab
variable {E : Env} [EnvS E]
theorem less_lt {a b : Bal} (h : a.c < b.c) : less a b = true := by
  simp [less, cmpB, or2, cmpI, h]
theorem free_self (c : Int) (v : ByteArray) (y : Int) : freeB ⟨c, v⟩ ⟨0, ByteArray.empty⟩ v y = true := by
  have hz : zeroB ⟨0, ByteArray.empty⟩ = true := by decide
  simp [freeB, aborts, hz]
def bsL (low high : Int) : List Int := if low = high then [low] else [low, high]
theorem first_q {A : ByteArray → Int → Int → Bool} {l : List Evl} {low high : Int} {v : ByteArray} (h0 : 1 ≤ low) (h1 : low ≤ high) (hA : ∀ y z, low ≤ y → y ≤ z → z ≤ high → A v y z = true) (hv : valsN l = [v]) (hb : bndsN l v = bsL low high) :
    firstV ⟨high, v⟩ ⟨0, ByteArray.empty⟩ A l (firstF ⟨high, v⟩ ⟨0, ByteArray.empty⟩ A l) = .tup [.p (.str v), .p (.int .i64 low), .p (.int .i64 high), .p (.bool true)] := by
  have a1 := hA low low (by omega) (by omega) h1
  have a2 := hA high high h1 (by omega) (by omega)
  have a3 := hA low high (by omega) h1 (by omega)
  have z1 : less Bal.zero ⟨low, v⟩ = true := less_lt (by show (0 : Int) < low; omega)
  have f1 := free_self high v low
  have f2 := free_self high v high
  by_cases h : low = high
  · subst h
    have : firstF ⟨low, v⟩ ⟨0, ByteArray.empty⟩ A l = (⟨low, v⟩, true) := by
      simp only [firstF, hv, hb, bsL, if_true, List.foldl_cons, List.foldl_nil, stepF, z1, f1, a1, Bool.and_self]
    rw [this]
    simp only [firstV, hb, bsL, if_true]
    simp [downK]
  · have hlt : low < high := by omega
    have z2 : less (⟨low, v⟩ : Bal) ⟨high, v⟩ = true := less_lt hlt
    have : firstF ⟨high, v⟩ ⟨0, ByteArray.empty⟩ A l = (⟨high, v⟩, true) := by
      simp only [firstF, hv, hb, bsL, h, if_false, if_true, List.foldl_cons, List.foldl_nil, stepF, z1, z2, f1, f2, a1, a2, Bool.and_self]
    rw [this]
    simp only [firstV, hb, bsL, h, if_false, if_true]
    have h5 : ¬ high ≤ low := by omega
    simp [downK, h5, f1, a3]
theorem fin_q {P : Int → Int → Bool} {low high : Int} (h1 : low ≤ high) (hP : ∀ y z, low ≤ y → y ≤ z → z ≤ high → P y z = true) : finK P (bsL low high) (bsL low high).length = some (low, high) := by
  have a2 := hP high high h1 (by omega) (by omega)
  have a3 := hP low high (by omega) h1 (by omega)
  by_cases h : low = high
  · subst h
    simp [bsL, finK, downK, a2]
  · have h5 : ¬ high ≤ low := by omega
    simp [bsL, h, finK, downK, a2, a3, h5]
theorem fin_no {P : Int → Int → Bool} {zs : List Int} (hP : ∀ z, P z z = false) : ∀ k, finK P zs k = none
  | 0 => rfl
  | k + 1 => by
    rw [finK]
    cases zs[k]? with
    | none => rfl
    | some z => simp only [hP z, Bool.false_eq_true, if_false]; exact fin_no hP k
theorem qE_valid {n : Nat} {th low high : Int} {v : ByteArray} {i : Nat} {k : Int} (hk : k = 1 ∨ k = 2) (hn : n ≤ 5) (t1 : 1 ≤ th) (t2 : th ≤ n) (h0 : 1 ≤ low) (h1 : low ≤ high) (hb : finite ⟨high, v⟩ = true) (hi : i < n) : validE (qE n th low high v k i) = true := by
  have h := hb
  simp only [finite, Bool.and_eq_true, decide_eq_true_eq] at h
  have h2 : validB ⟨high, v⟩ = true := h.1
  have h3 : high ≤ 1000 := h.2
  have he := flat_err hn t1 t2
  have hz : zeroB Bal.zero = true := by decide
  have hz2 : zeroB ⟨high, v⟩ = false := by simp [zeroB]; omega
  have n1 : (i : Int) < 10 := by omega
  have n2 : (0 : Int) ≤ i := by omega
  have p1 : (0 : Int) ≤ low := by omega
  have p2 : ¬ low = 0 := by omega
  have c1 : prepares ⟨high, v⟩ Bal.zero ⟨high, v⟩ = true := by simp [prepares, covers, hz2]
  have c2 : aborts ⟨high, v⟩ ⟨low, v⟩ = false := by simp [aborts]
  have c3 : aborts Bal.zero ⟨low, v⟩ = false := by simp [aborts, hz]
  rcases hk with rfl | rfl
  · simp [qE, validE, headE, he, n1, prepE, hb, optional, h2, hz, primeE, p1, h1, c1, c2, c3]
  · simp [qE, validE, headE, he, n1, hb, h2, hz, ranged, h0, h1, h3]
def qL (n : Nat) (th low high : Int) (v : ByteArray) (k : Int) : List Evl := (List.range' 0 n).map (qE n th low high v k)
theorem qL_mem {n : Nat} {th low high : Int} {v : ByteArray} {k : Int} {e : Evl} : e ∈ qL n th low high v k ↔ ∃ i, i < n ∧ e = qE n th low high v k i := by
  simp only [qL, List.mem_map, List.mem_range'_1]
  constructor
  · rintro ⟨i, h, rfl⟩; exact ⟨i, by omega, rfl⟩
  · rintro ⟨i, h, rfl⟩; exact ⟨i, by omega, rfl⟩
section
variable {n : Nat} {th low high : Int} {v : ByteArray} {k : Int} (hk : k = 1 ∨ k = 2) (hn : n ≤ 5) (t1 : 1 ≤ th) (t2 : th ≤ n) (h0 : 1 ≤ low) (h1 : low ≤ high) (hb : finite ⟨high, v⟩ = true)
include hk hn t1 t2 h0 h1 hb
theorem qL_all : AllN n (flat n th) (qL n th low high v k) where
  val := by
    intro e he
    obtain ⟨i, hi, rfl⟩ := qL_mem.1 he
    exact ⟨qE_valid hk hn t1 t2 h0 h1 hb hi, rfl⟩
  inn := fun j hj => ⟨_, qL_mem.2 ⟨j, hj, rfl⟩, rfl⟩
  out := by
    intro e he
    obtain ⟨i, hi, rfl⟩ := qL_mem.1 he
    exact ⟨i, hi, rfl⟩
theorem qL_bnds (hn0 : 0 < n) : bndsN (qL n th low high v k) v = bsL low high := by
  have hP : ∀ i, i < n → bndP v (qE n th low high v k i) = true := by
    intro i hi
    have h2 : ¬ low = 0 := by omega
    simp only [bndP, qE_valid hk hn t1 t2 h0 h1 hb hi]
    simp [qE, h2]
  refine bnds_list ?_ ?_ ?_
  · unfold bsL; split
    · simp
    · simp; omega
  · intro e he _
    obtain ⟨i, hi, rfl⟩ := qL_mem.1 he
    show low ∈ bsL low high ∧ high ∈ bsL low high
    unfold bsL; split <;> simp [*]
  · intro x hx
    refine ⟨_, qL_mem.2 ⟨0, hn0, rfl⟩, hP 0 hn0, ?_⟩
    show x = low ∨ x = high
    unfold bsL at hx; split at hx <;> simp at hx
    · exact .inl hx
    · exact hx
theorem qL_vals (hn0 : 0 < n) : valsN (qL n th low high v k) = [v] := by
  refine vals_one ?_ ?_
  · intro e he
    obtain ⟨i, hi, rfl⟩ := qL_mem.1 he
    exact ⟨qE_valid hk hn t1 t2 h0 h1 hb hi, rfl⟩
  · intro h
    have := qL_mem (n := n) (th := th) (low := low) (high := high) (v := v) (k := k) (e := qE n th low high v k 0) |>.2 ⟨0, hn0, rfl⟩
    rw [h] at this; cases this
end
theorem q_from {n : Nat} {th low high : Int} {v : ByteArray} {k : Int} {i : Nat} {y z : Int} (h0 : 1 ≤ low) (h1 : low ≤ y) (h2 : y ≤ z) : fromE (qE n th low high v k i) v y z = true := by
  have : 1 ≤ y := by omega
  simp [fromE, qE, this, h1, h2]
theorem law5 (zs : List Int) : callW E 5 [.p (.sl 1 (zs.map (.int .i64)))] [] = some ⟨.p (.bool true), [], []⟩ := by
  have e0 := e17 (E := E) zs
  have hl : (zs.take 800).length ≤ 800 := by simp; omega
  generalize zs.take 800 = l at *
  have e1 := e31 (E := E) l 0 1 5 hl (by omega) (by omega) (by omega) (by omega) (by omega)
  simp only [show (5 : Int) - 1 + 1 = 5 from rfl] at e1
  have b1 := dV_nonneg l 0 5
  have b2 := dV_lt l 0 5 (by decide)
  have l1 := dA_le l 0 5 (by omega)
  generalize dA l 0 5 = a1 at *
  obtain ⟨n, hn⟩ : ∃ n : Nat, 1 + dV l 0 5 = n := ⟨(1 + dV l 0 5).toNat, by omega⟩
  rw [hn] at e1
  have e2 := e31 (E := E) l a1 1 4 hl l1 (by omega) (by omega) (by omega) (by omega)
  simp only [show (4 : Int) - 1 + 1 = 4 from rfl] at e2
  have c1 := dV_nonneg l a1 4
  have c2 := dV_lt l a1 4 (by decide)
  have l2 := dA_le l a1 4 l1
  generalize dA l a1 4 = a2 at *
  obtain ⟨low, hlow⟩ : ∃ x, 1 + dV l a1 4 = x := ⟨_, rfl⟩
  rw [hlow] at e2
  have e3 := e28 (E := E) l a2 3 hl l2 (by decide)
  have d1 := dV_nonneg l a2 3
  have d2 := dV_lt l a2 3 (by decide)
  have l3 := dA_le l a2 3 l2
  generalize dA l a2 3 = a3 at *
  generalize dV l a2 3 = d at *
  have w1 : IntKind.i64.wrap (low + d) = low + d := wrap64 (by omega) (by omega)
  obtain ⟨high, hhigh⟩ : ∃ x, low + d = x := ⟨_, rfl⟩
  rw [hhigh] at w1
  have e4 := e30 (E := E) l a3 hl l3
  have hval := isVal_dV l a3
  have l4 := dA_le l a3 4 l3
  generalize valN (dV l a3 4) = v at *
  generalize dA l a3 4 = a4 at *
  have e5 := e31 (E := E) l a4 1 n hl l4 (by omega) (by omega) (by omega) (by omega)
  have g1 := dV_nonneg l a4 ((n : Int) - 1 + 1)
  have g2 := dV_lt l a4 ((n : Int) - 1 + 1) (by omega)
  generalize dA l a4 ((n : Int) - 1 + 1) = a5 at *
  obtain ⟨th, hth⟩ : ∃ x, 1 + dV l a4 ((n : Int) - 1 + 1) = x := ⟨_, rfl⟩
  rw [hth] at e5
  have e6 := e36 (E := E) n th (by omega)
  have e7 := e35 (E := E)
  have hb : finite ⟨high, v⟩ = true := finite_mk (by omega) (by omega) hval
  have hn5 : n ≤ 5 := by omega
  have t1 : 1 ≤ th := by omega
  have t2 : th ≤ n := by omega
  have q0 : 1 ≤ low := by omega
  have q1 : low ≤ high := by omega
  have n0 : 0 < n := by omega
  have A1 := qL_all (k := 1) (.inl rfl) hn5 t1 t2 q0 q1 hb
  have A2 := qL_all (k := 2) (.inr rfl) hn5 t1 t2 q0 q1 hb
  have lp1 := loop5a (E := E) n hn5 th low high v n 0 [] [] (by omega) rfl rfl
  simp only [List.nil_append, List.map_nil, List.length_nil, Int.natCast_zero] at lp1
  rw [← qL, ← qL] at lp1
  obtain ⟨fl, lp2⟩ := loop5b (E := E) n hn5 th low high v (qL n th low high v 1) (qL n th low high v 2) (by simp [qL]) (by simp [qL])
    (fun e he => by rw [(A1.val e he).2]; exact flat_thin hn5 th) (fun e he => by rw [(A2.val e he).2]; exact flat_thin hn5 th)
    (fun i hi => first_q q0 q1 (fun y z y1 y2 y3 => A1.accept hn5 t2 hi fun e he => by
      obtain ⟨j, _, rfl⟩ := qL_mem.1 he
      have hf := q_from (n := n) (th := th) (high := high) (v := v) (k := 1) (i := j) q0 y1 y2
      have p2 : ¬ low = 0 := by omega
      simp only [bothC, votC, hf]
      simp [qE, p2, y3]) (qL_vals (.inl rfl) hn5 t1 t2 q0 q1 hb n0) (qL_bnds (.inl rfl) hn5 t1 t2 q0 q1 hb n0))
    (fun i hi => by
      rw [qL_bnds (.inr rfl) hn5 t1 t2 q0 q1 hb n0]
      exact fin_q q1 fun y z y1 y2 y3 => A2.confirm hn5 t2 hi fun e he => by
        obtain ⟨j, _, rfl⟩ := qL_mem.1 he
        have hf := q_from (n := n) (th := th) (high := high) (v := v) (k := 2) (i := j) q0 y1 y2
        simp only [accC, hf]
        simp [qE, y3])
    (fun i hi => fin_no (fun z => A1.deny fun e he => by
      obtain ⟨j, _, rfl⟩ := qL_mem.1 he
      simp [accC, qE]) _) n 0 false (by omega)
  simp only [Int.natCast_zero] at lp2
  unfold Tr.pv at e6
  simp only [cast_lit, Int.natCast_zero, List.map_nil] at e0 e1 e2 e3 e4 e5 e6
  rw [callW_eq, EnvS.h 5 F5 rfl]
  simp -implicitDefEqProofs only [go_sem, F5, s5, s5_3, s5_7, e0, e1, e2, e3, w1, hhigh, e4, e5, e6, e7, lp1, lp2]
end Go.Ab.S
