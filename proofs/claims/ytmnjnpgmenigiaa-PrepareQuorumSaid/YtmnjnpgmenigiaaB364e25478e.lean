/- A part of the proof: an executor over plain data, shown sound for the model, and what it computes of the functions. -/
import Derived.Test.YtmnjnpgmenigiaaB62ab95e24d
import Derived.Test.YtmnjnpgmenigiaaB4091710f3a
import Derived.Laws.Strings
set_option linter.all false
set_option linter.unusedSimpArgs false
set_option linter.unusedVariables false
set_option linter.unusedSectionVars false
namespace Go.Ab.S
open Go Go.Ab
variable {E : Env} [EnvS E]

/-! ### What a node sees, in the reference -/
theorem loop54 (l : List Evl) (hl : l.length < 4611686018427387904) (hth : ∀ e ∈ l, e.t.thin) (ms : List Mem) (hms : ms.length = 10) :
    loopW E 0 [6, 7, 25, 26, 27] [.loc 0 1 0, .loc 1 0 0, .loc 1 2 0] (.trim [6, 7, 25, 26, 27] [6] [(0, [6, 7])] [.loc 0 1 0, .loc 1 0 0, .loc 1 2 0] s54_4) (some ⟨[(6, .ptr (.loc 0 1 0) 0), (7, .ptr (.loc 1 2 0) 0), (25, .p (.sl 15 (l.map Evl.pv))), (26, .p (.int .i64 l.length)), (27, .p (.int .i64 0))],
      [(.loc 0 1 0, some (.box [.nils 4])), (.loc 1 0 0, some (.parr (ms.map Mem.pv) 4 false)), (.loc 1 2 0, some (.box [.hsl (.loc 1 0 0) 0 10]))]⟩) =
    some (.ex 0, ⟨[(6, .ptr (.loc 0 1 0) 0), (7, .ptr (.loc 1 2 0) 0)],
      [(.loc 0 1 0, some (.box [.nils 4])), (.loc 1 0 0, some (.parr ((l.foldl viewS ms).map Mem.pv) 4 false)), (.loc 1 2 0, some (.box [.hsl (.loc 1 0 0) 0 10]))]⟩) := by
  generalize hK : loopW E 0 _ _ _ = K
  refine range_loopI K l (fun i (ms : List Mem) => ⟨[(6, .ptr (.loc 0 1 0) 0), (7, .ptr (.loc 1 2 0) 0), (25, .p (.sl 15 (l.map Evl.pv))), (26, .p (.int .i64 l.length)), (27, .p (.int .i64 i))],
      [(.loc 0 1 0, some (.box [.nils 4])), (.loc 1 0 0, some (.parr (ms.map Mem.pv) 4 false)), (.loc 1 2 0, some (.box [.hsl (.loc 1 0 0) 0 10]))]⟩)
    (fun ms r => some (.ex 0, ⟨[(6, .ptr (.loc 0 1 0) 0), (7, .ptr (.loc 1 2 0) 0)],
      [(.loc 0 1 0, some (.box [.nils 4])), (.loc 1 0 0, some (.parr ((r.foldl viewS ms).map Mem.pv) 4 false)), (.loc 1 2 0, some (.box [.hsl (.loc 1 0 0) 0 10]))]⟩)) (fun _ ms => ms.length = 10) ?_ ?_ ms hms
  · intro ms _
    rw [← hK, loopW_some, hK]
    simp -implicitDefEqProofs only [go_sem, Nat.reduceEqDiff, Nat.reduceAdd, Nat.reduceLeDiff, Nat.reduceLT, reduceCtorEq, ↓reduceIte, Nat.reduceBEq, Int.reduceLT, Int.reduceLE, Int.reduceNeg, Int.reduceEq, Int.toNat_natCast, cast_lit, Int.reduceToNat, s54_4, s54_3, s54_2, List.foldl_nil]
  · intro i ms e r hx hn hm10 ih
    obtain ⟨f1, f2, f3⟩ := rangeFacts i l.length (by omega) hl
    have ht := hth e (List.mem_of_getElem? hx)
    have e1 := e82 (E := E) e ht
    have ih' := ih (viewS ms e) (by rw [viewS_len]; exact hm10)
    try dsimp only at ih' ⊢
    rw [← hK, loopW_some, hK]
    unfold Evl.pv at e1
    cases hv : validE e with
    | false =>
      have hs : viewS ms e = ms := by unfold viewS; simp [hv]
      rw [hs] at ih'
      rw [hv] at e1
      simp -implicitDefEqProofs only [go_sem, Nat.reduceEqDiff, Nat.reduceAdd, Nat.reduceLeDiff, Nat.reduceLT, reduceCtorEq, ↓reduceIte, Nat.reduceBEq, Int.reduceLT, Int.reduceLE, Int.reduceNeg, Int.reduceEq, Int.toNat_natCast, cast_lit, Int.reduceToNat, s54_4, s54_3, s54_2, hx, f1, f2, f3, Evl.pv, e1, ih', List.foldl_cons, hs]
    | true =>
      rw [hv] at e1
      obtain ⟨n0, n1⟩ := validE_node hv
      obtain ⟨k, hk⟩ : ∃ k : Nat, e.node = k := ⟨e.node.toNat, by omega⟩
      have hk10 : k < 10 := by omega
      have hkm : k < ms.length := by omega
      have hg : ms[k]? = some ms[k] := by simp [hkm]
      have hkn : e.node.toNat = k := by omega
      have hm10' : (ms.map Mem.pv).length = 10 := by simp [hm10]
      have h10 : 0 + 10 ≤ ms.length := by omega
      cases hd : ms[k].d with
      | true =>
        have hs : viewS ms e = ms := by unfold viewS; simp [hkn, hg, hd]
        rw [hs] at ih'
        simp -implicitDefEqProofs only [go_sem, Nat.reduceEqDiff, Nat.reduceAdd, Nat.reduceLeDiff, Nat.reduceLT, reduceCtorEq, ↓reduceIte, Nat.reduceBEq, Int.reduceLT, Int.reduceLE, Int.reduceNeg, Int.reduceEq, Int.toNat_natCast, cast_lit, Int.reduceToNat, s54_4, s54_3, s54_2, hx, f1, f2, f3, Evl.pv, e1, ih', List.foldl_cons, hs, n0, hkn, hk10, hg, Mem.pv, hd, hm10, h10]
      | false =>
        have hs : viewS ms e = ms.set k ⟨true, e.t⟩ := by unfold viewS; simp [hkn, hg, hd, hv]
        rw [hs] at ih'
        simp -implicitDefEqProofs only [go_sem, Nat.reduceEqDiff, Nat.reduceAdd, Nat.reduceLeDiff, Nat.reduceLT, reduceCtorEq, ↓reduceIte, Nat.reduceBEq, Int.reduceLT, Int.reduceLE, Int.reduceNeg, Int.reduceEq, Int.toNat_natCast, cast_lit, Int.reduceToNat, s54_4, s54_3, s54_2, hx, f1, f2, f3, Evl.pv, e1, List.foldl_cons, hs, n0, hkn, hk10, hg, Mem.pv, hd, hm10, h10, setE]
        rw [List.map_set] at ih'
        exact ih'
theorem e54 (node : Int) (t : Tr) (l : List Evl) (ht : t.thin) (hl : l.length < 4611686018427387904) (hth : ∀ e ∈ l, e.t.thin) :
    callW E 54 [.p (.int .i64 node), .p t.pv, .p (.sl 15 (l.map Evl.pv))] [] = some ⟨.p (confPv (viewM node t l)), [], []⟩ := by
  have hlen := viewM_len node t l
  have htk : List.take 10 ((viewM node t l).map Mem.pv) = (viewM node t l).map Mem.pv := List.take_of_length_le (by simp [hlen])
  rw [callW_eq, EnvS.h 54 F54 rfl]
  unfold Tr.pv at *
  unfold confPv
  have h10 : (10 : Int) ≤ ((most : Nat) : Int) := by decide
  by_cases c : node < 0 ∨ 10 ≤ node
  · have hv : viewM node t l = List.replicate 10 memZ := by unfold viewM; rw [if_pos c]
    rw [hv] at htk ⊢
    rcases c with c | c
    · simp -implicitDefEqProofs only [go_sem, Nat.reduceEqDiff, Nat.reduceAdd, Nat.reduceLeDiff, Nat.reduceLT, reduceCtorEq, ↓reduceIte, Nat.reduceBEq, Int.reduceLT, Int.reduceLE, Int.reduceNeg, Int.reduceEq, Int.toNat_natCast, cast_lit, Int.reduceToNat, F54, s54, s54_1, s54_5, c, h10, mkMem, Nat.sub_zero, List.length_replicate, htk]
    · have c' : ¬ node < 0 := by omega
      have c2 : (9 : Int) < node := by omega
      simp -implicitDefEqProofs only [go_sem, Nat.reduceEqDiff, Nat.reduceAdd, Nat.reduceLeDiff, Nat.reduceLT, reduceCtorEq, ↓reduceIte, Nat.reduceBEq, Int.reduceLT, Int.reduceLE, Int.reduceNeg, Int.reduceEq, Int.toNat_natCast, cast_lit, Int.reduceToNat, F54, s54, s54_1, s54_5, c2, c', h10, mkMem, Nat.sub_zero, List.length_replicate, htk]
  · obtain ⟨k, rfl⟩ : ∃ k : Nat, node = k := ⟨node.toNat, by omega⟩
    have c1 : ¬ (k : Int) < 0 := by omega
    have c2 : ¬ (9 : Int) < k := by omega
    have c3 : (0 : Int) ≤ k := by omega
    have c4 : k < 10 := by omega
    have lp := loop54 (E := E) l hl hth ((List.replicate 10 memZ).set k ⟨true, t⟩) (by simp)
    have hv : viewM k t l = l.foldl viewS ((List.replicate 10 memZ).set k ⟨true, t⟩) := by unfold viewM; rw [if_neg c]; rfl
    rw [← hv] at lp
    rw [List.map_set] at lp
    have hg : ((List.replicate 10 memZ).map Mem.pv)[k]? = some (Mem.pv memZ) := by rw [List.getElem?_map, List.getElem?_replicate, if_pos c4]; rfl
    have hmz : Mem.pv memZ = .agg [.bool false, .int .i64 0, .sl 1 [], .sl 3 []] := rfl
    rw [hmz] at hg
    rw [show Mem.pv ⟨true, t⟩ = .agg [.bool true, .int .i64 t.th, .sl 1 (t.ns.map (.int .i64)), .sl 3 (t.is.map In.pv)] from rfl] at lp
    simp -implicitDefEqProofs only [go_sem, Nat.reduceEqDiff, Nat.reduceAdd, Nat.reduceLeDiff, Nat.reduceLT, reduceCtorEq, ↓reduceIte, Nat.reduceBEq, Int.reduceLT, Int.reduceLE, Int.reduceNeg, Int.reduceEq, Int.toNat_natCast, cast_lit, Int.reduceToNat, F54, s54, s54_1, s54_5, c1, c2, c3, c4, h10, mkMem, Nat.sub_zero, List.length_replicate, hg, setE, lp, hlen, htk]

/-! ### Sets drawn -/
theorem u64N (n : Nat) (h : n < 9223372036854775808) : IntKind.u64.wrap (n : Int) = n := by
  have : IntKind.u64.wrap (n : Int) = (n : Int) % 18446744073709551616 := by simp [IntKind.wrap, IntKind.signed, IntKind.bits]
  rw [this]; omega
theorem shlB (d k : Nat) (hd : d < 2) (hk : k < 10) : shlI .i64 d (k : Int) = ((d * 2 ^ k : Nat) : Int) := by
  have h := shl1 k (by omega)
  match d, hd with
  | 0, _ => simp [shlI]; rfl
  | 1, _ => simpa using h
theorem dec_even : ((List.range 1024).all fun s => andNotI .i64 (s : Int) 1 == ((s - s % 2 : Nat) : Int)) = true := by decide +kernel
theorem andNot_one {s : Nat} (hs : s < 1024) : andNotI .i64 (s : Int) 1 = ((s - s % 2 : Nat) : Int) := by
  have := List.all_eq_true.1 dec_even s (List.mem_range.2 hs)
  simpa using this
theorem even_bit (s : Nat) : (s - s % 2).testBit 0 = false := by
  rw [Nat.testBit_zero]; simp; omega
theorem shrB (s k : Nat) (hs : s < 1024) (hk : k < 60) : shrI .i64 (s : Int) (k : Int) = ((s >>> k : Nat) : Int) := by
  unfold shrI
  have : min (k : Int).toNat IntKind.i64.bits = k := by simp [IntKind.bits]; omega
  rw [this, Nat.shiftRight_eq_div_pow, show ((2 : Int) ^ k) = ((2 ^ k : Nat) : Int) by simp]
  rw [Int.fdiv_eq_ediv_of_nonneg _ (Int.natCast_nonneg _)]; rfl
theorem bitB (s k : Nat) (hs : s < 1024) : andI .i64 ((s >>> k : Nat) : Int) 1 = (((s.testBit k).toNat : Nat) : Int) := by
  have h1 : s >>> k ≤ s := by rw [Nat.shiftRight_eq_div_pow]; exact Nat.div_le_self _ _
  have := andI_nat (s >>> k) 1 (by omega) (by decide)
  rw [show ((1 : Nat) : Int) = 1 from rfl] at this
  rw [this, Nat.and_one_is_mod, Nat.testBit, Nat.and_comm, Nat.and_one_is_mod]
  rcases Nat.mod_two_eq_zero_or_one (s >>> k) with h | h <;> simp [h]
theorem loop1033 (l : List Int) (hl : l.length ≤ 800) (n : Nat) (hn : n ≤ 10) : ∀ (k i a x : Nat), i + k = n → x < 2 ^ i → a ≤ l.length →
    ∃ x' a' : Nat, x' < 2 ^ n ∧ a' ≤ l.length ∧
    loopW E 1 [0, 1, 5, 6] [] (.trim [0, 1, 5, 6] [4] [(0, [5])] [] s1033_2) (some ⟨[(0, .ptr (.ext 0) 0), (1, .p (.int .i64 n)), (5, .p (.int .i64 x)), (6, .p (.int .i64 i))], [(.ext 0, some (.box [.p (.sl 1 (l.map (.int .i64))), .p (.int .i64 a)]))]⟩) =
    some (.ex 0, ⟨[(5, .p (.int .i64 x'))], [(.ext 0, some (.box [.p (.sl 1 (l.map (.int .i64))), .p (.int .i64 a')]))]⟩) := by
  generalize hK : loopW E 1 _ _ _ = K
  intro k
  induction k with
  | zero =>
    intro i a x hi hx ha
    have : i = n := by omega
    subst this
    refine ⟨x, a, hx, ha, ?_⟩
    rw [← hK, loopW_some, hK]
    simp -implicitDefEqProofs only [go_sem, Nat.reduceEqDiff, Nat.reduceAdd, Nat.reduceLeDiff, Nat.reduceLT, reduceCtorEq, ↓reduceIte, Nat.reduceBEq, Int.reduceLT, Int.reduceLE, Int.reduceNeg, Int.reduceEq, Int.toNat_natCast, cast_lit, Int.reduceToNat, s1033_2, s1033_1]
  | succ k ih =>
    intro i a x hi hx ha
    have e1 := e28 (E := E) l a 2 hl ha (by decide)
    have b1 := dV_nonneg l a 2
    have b2 := dV_lt l a 2 (by decide)
    obtain ⟨d, hd⟩ : ∃ d : Nat, dV l a 2 = d := ⟨(dV l a 2).toNat, by omega⟩
    rw [hd] at e1 b2
    have h2 : d < 2 := by omega
    have hp := pow_lt i (by omega)
    have hd2 : d * 2 ^ i ≤ 2 ^ i := by
      have := Nat.mul_le_mul_right (2 ^ i) (show d ≤ 1 by omega)
      omega
    have hx2 : x ||| d * 2 ^ i < 2 ^ (i + 1) := by
      refine Nat.or_lt_two_pow (Nat.lt_of_lt_of_le hx (Nat.pow_le_pow_right (by decide) (by omega))) ?_
      rw [Nat.pow_succ]; have := Nat.two_pow_pos i; omega
    have w := orI_nat x (d * 2 ^ i) (by omega) (by omega)
    obtain ⟨x', a', r1, r2, r3⟩ := ih (i + 1) (dA l a 2) (x ||| d * 2 ^ i) (by omega) hx2 (dA_le l a 2 ha)
    refine ⟨x', a', r1, r2, ?_⟩
    obtain ⟨f1, f2, f3⟩ := rangeFacts i n (by omega) (by omega)
    have f4 : ¬ (i : Int) < 0 := by omega
    rw [← hK, loopW_some, hK]
    simp -implicitDefEqProofs only [go_sem, Nat.reduceEqDiff, Nat.reduceAdd, Nat.reduceLeDiff, Nat.reduceLT, reduceCtorEq, ↓reduceIte, Nat.reduceBEq, Int.reduceLT, Int.reduceLE, Int.reduceNeg, Int.reduceEq, Int.toNat_natCast, cast_lit, Int.reduceToNat, s1033_2, s1033_1, f1, f2, f3, f4, e1, u64N i (by omega), shlB d i h2 (by omega), w]
    exact r3
theorem e1033 (l : List Int) (a n : Nat) (hl : l.length ≤ 800) (hn : n ≤ 10) (ha : a ≤ l.length) : ∃ x a' : Nat, x < 2 ^ n ∧ a' ≤ l.length ∧
    callW E 1033 [.ptr (.ext 0) 0, .p (.int .i64 n)] [.box [.p (.sl 1 (l.map (.int .i64))), .p (.int .i64 a)]] = some ⟨.p (.int .i64 x), [.box [.p (.sl 1 (l.map (.int .i64))), .p (.int .i64 a')]], []⟩ := by
  obtain ⟨x, a', r1, r2, lp⟩ := loop1033 (E := E) l hl n hn n 0 a 0 (by omega) (by simp) ha
  refine ⟨x, a', r1, r2, ?_⟩
  simp only [Int.natCast_zero] at lp
  rw [callW_eq, EnvS.h 1033 F1033 rfl]
  simp -implicitDefEqProofs only [go_sem, Nat.reduceEqDiff, Nat.reduceAdd, Nat.reduceLeDiff, Nat.reduceLT, reduceCtorEq, ↓reduceIte, Nat.reduceBEq, Int.reduceLT, Int.reduceLE, Int.reduceNeg, Int.reduceEq, Int.toNat_natCast, cast_lit, Int.reduceToNat, F1033, s1033, s1033_3, lp]
end Go.Ab.S

set_option linter.unusedSimpArgs false
set_option linter.unusedVariables false
set_option linter.unusedSectionVars false
namespace Go.Ab.S
open Go Go.Ab
variable {E : Env} [EnvS E]

/-! ### The trusts that are made are valid -/
theorem tn_mem (l : List Int) : ∀ (k i a : Nat), ∀ x ∈ (tn l k i a).1, (i : Int) ≤ x ∧ x < (i + k : Nat)
  | 0, i, a => by simp [tn]
  | k + 1, i, a => by
    intro x hx
    have ih := tn_mem l k (i + 1) (dA l a 5)
    simp only [tn] at hx
    split at hx
    · simp only [List.mem_cons] at hx
      rcases hx with rfl | hx
      · omega
      · have := ih x hx; omega
    · have := ih x hx; omega
theorem tn_of (l : List Int) : ∀ (k i a acc : Nat), i + k ≤ 10 → acc < 2 ^ i → (ofL acc (tn l k i a).1).2 = 0
  | 0, i, a, acc, h, h2 => by simp [tn, ofL]
  | k + 1, i, a, acc, h, h2 => by
    simp only [tn]
    split
    · have h3 : acc.testBit i = false := Nat.testBit_lt_two_pow h2
      have h4 : acc ||| 2 ^ i < 2 ^ (i + 1) := Nat.or_lt_two_pow (Nat.lt_of_lt_of_le h2 (Nat.pow_le_pow_right (by decide) (by omega))) (Nat.pow_lt_pow_right (by decide) (by omega))
      rw [ofL_cons _ _ _ (by omega) (by simpa using h3)]
      simp only [Int.toNat_natCast]
      exact tn_of l k (i + 1) (dA l a 5) _ (by omega) h4
    · exact tn_of l k (i + 1) (dA l a 5) acc (by omega) (Nat.lt_of_lt_of_le h2 (Nat.pow_le_pow_right (by decide) (by omega)))
/-- Trusts of some of the first n nodes. -/
structure TrG (n : Nat) (t : Tr) : Prop where
  thin : t.thin
  ok : errT t = 0
  nn : 1 ≤ t.ns.length
  ns : ∀ x ∈ t.ns, 0 ≤ x ∧ x < n
  is : ∀ x ∈ t.is, ∃ y : Int, x = ⟨1, [y]⟩ ∧ 0 ≤ y ∧ y < n
theorem any_bad {n : Nat} (hn : n ≤ 10) {l : List Int} (h : ∀ x ∈ l, 0 ≤ x ∧ x < n) : l.any badN = false := by
  rw [List.any_eq_false]
  intro x hx
  have := h x hx
  simp [badN]; omega
theorem ofL_one (y : Int) (h : 0 ≤ y ∧ y < 10) : (ofL 0 [y]).2 = 0 := by
  rw [ofL_cons _ _ _ (by omega) (by simp)]
  rfl
theorem trG_ok (l : List Int) (a n : Nat) (h1 : 1 ≤ n) (h10 : n ≤ 10) : TrG n (trG l a n).1 := by
  have g1 := trR2_len l a n h1
  have g2 := trI_len l a n
  have m1 : ∀ x ∈ (trR2 l a n).1, 0 ≤ x ∧ x < n := by
    intro x hx
    unfold trR2 at hx
    dsimp only at hx
    split at hx
    · simp only [List.mem_cons, List.not_mem_nil, or_false] at hx
      subst hx
      exact ⟨dV_nonneg .., dV_lt _ _ _ (by omega)⟩
    · have := tn_mem l n 0 a x hx
      omega
  have m2 : ∀ x ∈ (trI l a n).1, ∃ y : Int, x = ⟨1, [y]⟩ ∧ 0 ≤ y ∧ y < n := by
    intro x hx
    unfold trI at hx
    dsimp only at hx
    split at hx
    · simp only [List.mem_cons, List.not_mem_nil, or_false] at hx
      subst hx
      exact ⟨_, rfl, dV_nonneg .., dV_lt _ _ _ (by omega)⟩
    · simp at hx
  have o1 : (ofL 0 (trR2 l a n).1).2 = 0 := by
    unfold trR2
    dsimp only
    split
    · exact ofL_one _ ⟨dV_nonneg .., by have := dV_lt l (tn l n 0 a).2 n (by omega); omega⟩
    · exact tn_of l n 0 a 0 (by omega) (by decide)
  have o2 : errIs (trI l a n).1 = 0 := by
    cases hi : (trI l a n).1 with
    | nil => rfl
    | cons x r =>
      have hr : r = [] := by
        rw [hi] at g2
        simp only [List.length_cons] at g2
        exact List.length_eq_zero_iff.1 (by omega)
      subst hr
      obtain ⟨y, rfl, y1, y2⟩ := m2 x (by rw [hi]; exact List.mem_cons_self)
      have : errI ⟨1, [y]⟩ = 0 := by
        unfold errI
        rw [if_neg (by simp), if_neg (by simp [badN]; omega)]
        exact ofL_one y ⟨y1, by omega⟩
      simp [errIs, this]
  have gk : 1 ≤ trK l a n ∧ trK l a n ≤ 11 := by unfold trK; omega
  have th : 1 ≤ (trG l a n).1.th ∧ (trG l a n).1.th ≤ trK l a n := by
    unfold trG
    dsimp only
    split
    · omega
    · unfold trT
      have b1 := dV_nonneg l (trI l a n).2 (trD l a n)
      have b2 := dV_lt l (trI l a n).2 (trD l a n) (by unfold trD; omega)
      unfold trD at *
      omega
  refine ⟨⟨?_, ?_, ?_⟩, ?_, ?_, ?_, ?_⟩
  · show (trR2 l a n).1.length ≤ 12; omega
  · show (trI l a n).1.length ≤ 4; omega
  · intro x hx
    obtain ⟨y, rfl, _⟩ := m2 x hx
    unfold In.thin; simp
  · unfold errT
    rw [if_neg (by unfold trK at th; show ¬ ((trG l a n).1.th < 1 ∨ ((trR2 l a n).1.length : Int) + ((trI l a n).1.length : Int) < (trG l a n).1.th); omega), if_neg (by rw [show (trG l a n).1.ns = (trR2 l a n).1 from rfl, any_bad h10 m1]; simp), if_pos (by exact o1)]
    exact o2
  · exact g1.1
  · exact m1
  · exact m2
end Go.Ab.S

set_option linter.unusedSimpArgs false
set_option linter.unusedVariables false
set_option linter.unusedSectionVars false
namespace Go.Ab.S
open Go Go.Ab
variable {E : Env} [EnvS E]

def Evl.av (e : Evl) : List AV := [.p (.int .i64 e.node), .p (.int .i64 e.slot), .p (.int .i64 e.seq), .p (.int .i64 e.t.th), .p (.sl 1 (e.t.ns.map (.int .i64))), .p (.sl 3 (e.t.is.map In.pv)), .p (.int .i64 e.k), .p (.int .i64 e.b.c), .p (.str e.b.v), .p (.int .i64 e.p.c), .p (.str e.p.v), .p (.int .i64 e.q.c), .p (.str e.q.v), .p (.int .i64 e.lo), .p (.int .i64 e.hi)]
def av0 : List AV := [.p (.int .i64 0), .p (.int .i64 0), .p (.int .i64 0), .p (.int .i64 0), .nils 1, .nils 3, .p (.int .i64 0), .p (.int .i64 0), .p (.str ByteArray.empty), .p (.int .i64 0), .p (.str ByteArray.empty), .p (.int .i64 0), .p (.str ByteArray.empty), .p (.int .i64 0), .p (.int .i64 0)]
def srcO (l : List Int) (a : Nat) : Option AObj := some (.box [.p (.sl 1 (l.map (.int .i64))), .p (.int .i64 a)])
def Bal.zero : Bal := ⟨0, ByteArray.empty⟩
/-- An envelope that only its ranges and ballots can spoil. -/
structure EnvH (e : Evl) : Prop where
  thin : e.t.thin
  head : headE e = true
  k : e.k = 1
  b : finite e.b = true
  p : optional e.p = true
  lo : 0 ≤ e.lo
  hi : e.lo ≤ e.hi
  top : e.hi ≤ e.b.c
theorem validE_end (e : Evl) (h : EnvH { e with lo := 0, hi := 0, q := Bal.zero }) : validE { e with lo := 0, hi := 0, q := Bal.zero } = true := by
  have h1 := h.head
  have h2 := h.k
  have h3 := h.b
  have h4 := h.p
  have h5 := h.top
  have hz : zeroB Bal.zero = true := by decide
  dsimp only at h2 h3 h4 h5
  unfold validE
  rw [h1]
  simp [h2, prepE, primeE, optional, h3, hz]
  constructor
  · simpa [optional] using h4
  · exact h5

theorem chunk76 (l : List Int) (a : Nat) (e : Evl) (h : EnvH e) : ∃ e' : Evl, validE e' = true ∧ e'.node = e.node ∧ e'.slot = e.slot ∧ e'.seq = e.seq ∧ e'.t = e.t ∧ e'.k = e.k ∧ e'.b = e.b ∧ e'.p = e.p ∧
    ∀ T H, tget T 8 = .ptr (.loc 0 0 0) 0 → tget T 9 = .ptr (.loc 1 8 0) 0 → hget H (.ext 0) = some (.box [.p (.sl 1 (l.map (.int .i64))), .p (.int .i64 a)]) → hget H (.loc 0 0 0) = some (.box av0) → hget H (.loc 1 8 0) = some (.box e.av) →
    sexW E 1 (.seq (.seq (.reg 21 [{ dst := some 99, op := .load true 15 (.t 9) }, { dst := some 100, op := .call (.f 82) [.t 99] }, { dst := some 101, op := .un .not (.t 100) }]) (.trim [8, 9] [8] [] [.loc 0 0 0, .loc 1 8 0] (.cond (.t 101) s76_7 .skip))) (.seq (.seq (.reg 23 [{ dst := some 103, op := .load true 15 (.t 9) }, { dst := some 104, op := .call (.f 82) [.t 103] }, { dst := some 105, op := .un .not (.t 104) }]) (.trim [8, 9] [8] [] [.loc 0 0 0, .loc 1 8 0] (.cond (.t 105) s76_8 .skip))) (.seq (.reg 25 [{ dst := some 107, op := .load true 15 (.t 9) }, { dst := some 108, op := .call (.f 82) [.t 107] }, { dst := some 109, op := .un .not (.t 108) }]) (.trim [8, 9] [8] [] [.loc 0 0 0, .loc 1 8 0] (.cond (.t 109) s76_9 .skip))))) ⟨T, H⟩ =
    some (.nrm, ⟨[(8, .ptr (.loc 0 0 0) 0), (9, .ptr (.loc 1 8 0) 0)], [(.ext 0, some (.box [.p (.sl 1 (l.map (.int .i64))), .p (.int .i64 a)])), (.loc 0 0 0, some (.box av0)), (.loc 1 8 0, some (.box e'.av))]⟩) := by
  have v0 := e82 (E := E) e h.thin
  cases c0 : validE e with
  | true =>
    refine ⟨e, c0, rfl, rfl, rfl, rfl, rfl, rfl, rfl, fun T H t8 t9 h0 h1 h2 => ?_⟩
    unfold Evl.pv at v0
    unfold Evl.av av0 at *
    simp -implicitDefEqProofs only [go_sem, Nat.reduceEqDiff, Nat.reduceAdd, Nat.reduceLeDiff, Nat.reduceLT, reduceCtorEq, ↓reduceIte, Nat.reduceBEq, Int.reduceLT, Int.reduceLE, Int.reduceNeg, Int.reduceEq, Int.toNat_natCast, cast_lit, Int.reduceToNat, s76_7, s76_8, s76_9, t8, t9, h0, h1, h2, v0, c0]
  | false =>
    have v1 := e82 (E := E) { e with lo := 0 } h.thin
    cases c1 : validE { e with lo := 0 } with
    | true =>
      refine ⟨{ e with lo := 0 }, c1, rfl, rfl, rfl, rfl, rfl, rfl, rfl, fun T H t8 t9 h0 h1 h2 => ?_⟩
      unfold Evl.pv at v0 v1
      unfold Evl.av av0 at *
      dsimp only at v1
      simp -implicitDefEqProofs only [go_sem, Nat.reduceEqDiff, Nat.reduceAdd, Nat.reduceLeDiff, Nat.reduceLT, reduceCtorEq, ↓reduceIte, Nat.reduceBEq, Int.reduceLT, Int.reduceLE, Int.reduceNeg, Int.reduceEq, Int.toNat_natCast, cast_lit, Int.reduceToNat, s76_7, s76_8, s76_9, t8, t9, h0, h1, h2, v0, c0, v1, c1]
    | false =>
      have v2 := e82 (E := E) { e with lo := 0, hi := 0 } h.thin
      cases c2 : validE { e with lo := 0, hi := 0 } with
      | true =>
        refine ⟨{ e with lo := 0, hi := 0 }, c2, rfl, rfl, rfl, rfl, rfl, rfl, rfl, fun T H t8 t9 h0 h1 h2 => ?_⟩
        unfold Evl.pv at v0 v1 v2
        unfold Evl.av av0 at *
        dsimp only at v1 v2
        simp -implicitDefEqProofs only [go_sem, Nat.reduceEqDiff, Nat.reduceAdd, Nat.reduceLeDiff, Nat.reduceLT, reduceCtorEq, ↓reduceIte, Nat.reduceBEq, Int.reduceLT, Int.reduceLE, Int.reduceNeg, Int.reduceEq, Int.toNat_natCast, cast_lit, Int.reduceToNat, s76_7, s76_8, s76_9, t8, t9, h0, h1, h2, v0, c0, v1, c1, v2, c2]
      | false =>
        have c3 := validE_end e ⟨h.thin, h.head, h.k, h.b, h.p, Int.le_refl 0, Int.le_refl 0, by have := h.lo; have := h.hi; have := h.top; show 0 ≤ e.b.c; omega⟩
        refine ⟨{ e with lo := 0, hi := 0, q := Bal.zero }, c3, rfl, rfl, rfl, rfl, rfl, rfl, rfl, fun T H t8 t9 h0 h1 h2 => ?_⟩
        unfold Evl.pv at v0 v1 v2
        unfold Evl.av av0 at *
        dsimp only at v1 v2
        simp -implicitDefEqProofs only [go_sem, Nat.reduceEqDiff, Nat.reduceAdd, Nat.reduceLeDiff, Nat.reduceLT, reduceCtorEq, ↓reduceIte, Nat.reduceBEq, Int.reduceLT, Int.reduceLE, Int.reduceNeg, Int.reduceEq, Int.toNat_natCast, cast_lit, Int.reduceToNat, s76_7, s76_8, s76_9, t8, t9, h0, h1, h2, v0, c0, v1, c1, v2, c2, Bal.zero]
/-- An envelope that has its ballots. -/
structure EnvB (e : Evl) : Prop where
  thin : e.t.thin
  head : headE e = true
  k : e.k = 1
  b : finite e.b = true
  p : optional e.p = true
  c1 : 1 ≤ e.b.c
  c7 : e.b.c ≤ 7
theorem chunk76b (l : List Int) (a : Nat) (e : Evl) (h : EnvB e) (hl : l.length ≤ 800) (ha : a ≤ l.length) : ∃ (e' : Evl) (a' : Nat), a' ≤ l.length ∧ validE e' = true ∧ e'.node = e.node ∧ e'.slot = e.slot ∧ e'.seq = e.seq ∧ e'.t = e.t ∧ e'.k = e.k ∧ e'.b = e.b ∧ e'.p = e.p ∧
    ∀ T H, tget T 0 = .ptr (.ext 0) 0 → tget T 8 = .ptr (.loc 0 0 0) 0 → tget T 9 = .ptr (.loc 1 8 0) 0 → hget H (.ext 0) = some (.box [.p (.sl 1 (l.map (.int .i64))), .p (.int .i64 a)]) → hget H (.loc 0 0 0) = some (.box av0) → hget H (.loc 1 8 0) = some (.box e.av) →
    sexW E 1 (.seq (.reg 19 [{ dst := some 86, op := .mv (.t 0) }, { dst := some 87, op := .faddr 7 (.t 9) }, { dst := some 88, op := .faddr 0 (.t 87) }, { dst := some 89, op := .load false 1 (.t 88) }, { dst := some 90, op := .bin .add (.t 89) (.c (.int .i64 (1))) }, { dst := some 91, op := .call (.f 28) [.t 86, .t 90] }, { dst := some 92, op := .faddr 14 (.t 9) }, { dst := none, op := .store 1 (.t 92) (.t 91) }]) (.seq (.reg 20 [{ dst := some 93, op := .mv (.t 0) }, { dst := some 94, op := .faddr 14 (.t 9) }, { dst := some 95, op := .load false 1 (.t 94) }, { dst := some 96, op := .bin .add (.t 95) (.c (.int .i64 (1))) }, { dst := some 97, op := .call (.f 28) [.t 93, .t 96] }, { dst := some 98, op := .faddr 13 (.t 9) }, { dst := none, op := .store 1 (.t 98) (.t 97) }]) (.seq (.seq (.reg 21 [{ dst := some 99, op := .load true 15 (.t 9) }, { dst := some 100, op := .call (.f 82) [.t 99] }, { dst := some 101, op := .un .not (.t 100) }]) (.trim [8, 9] [8] [] [.loc 0 0 0, .loc 1 8 0] (.cond (.t 101) s76_7 .skip))) (.seq (.seq (.reg 23 [{ dst := some 103, op := .load true 15 (.t 9) }, { dst := some 104, op := .call (.f 82) [.t 103] }, { dst := some 105, op := .un .not (.t 104) }]) (.trim [8, 9] [8] [] [.loc 0 0 0, .loc 1 8 0] (.cond (.t 105) s76_8 .skip))) (.seq (.reg 25 [{ dst := some 107, op := .load true 15 (.t 9) }, { dst := some 108, op := .call (.f 82) [.t 107] }, { dst := some 109, op := .un .not (.t 108) }]) (.trim [8, 9] [8] [] [.loc 0 0 0, .loc 1 8 0] (.cond (.t 109) s76_9 .skip))))))) ⟨T, H⟩ =
    some (.nrm, ⟨[(8, .ptr (.loc 0 0 0) 0), (9, .ptr (.loc 1 8 0) 0)], [(.ext 0, some (.box [.p (.sl 1 (l.map (.int .i64))), .p (.int .i64 a')])), (.loc 0 0 0, some (.box av0)), (.loc 1 8 0, some (.box e'.av))]⟩) := by
  have g1 := h.c1
  have g2 := h.c7
  have b1 := dV_nonneg l a (e.b.c + 1)
  have b2 := dV_lt l a (e.b.c + 1) (by omega)
  have b3 := dV_nonneg l (dA l a (e.b.c + 1)) (dV l a (e.b.c + 1) + 1)
  have b4 := dV_lt l (dA l a (e.b.c + 1)) (dV l a (e.b.c + 1) + 1) (by omega)
  have l1 := dA_le l a (e.b.c + 1) ha
  have e1 := e28 (E := E) l a (e.b.c + 1) hl ha (by omega)
  have e2 := e28 (E := E) l (dA l a (e.b.c + 1)) (dV l a (e.b.c + 1) + 1) hl l1 (by omega)
  have w1 : IntKind.i64.wrap (e.b.c + 1) = e.b.c + 1 := wrap64 (by omega) (by omega)
  have w2 : IntKind.i64.wrap (dV l a (e.b.c + 1) + 1) = dV l a (e.b.c + 1) + 1 := wrap64 (by omega) (by omega)
  obtain ⟨e', p1, p2, p3, p4, p5, p6, p7, p8, hc⟩ := chunk76 (E := E) l (dA l (dA l a (e.b.c + 1)) (dV l a (e.b.c + 1) + 1)) { e with hi := dV l a (e.b.c + 1), lo := dV l (dA l a (e.b.c + 1)) (dV l a (e.b.c + 1) + 1) } ⟨h.thin, h.head, h.k, h.b, h.p, b3, Int.lt_add_one_iff.1 b4, by show dV l a (e.b.c + 1) ≤ e.b.c; omega⟩
  refine ⟨e', dA l (dA l a (e.b.c + 1)) (dV l a (e.b.c + 1) + 1), dA_le l _ _ l1, p1, p2, p3, p4, p5, p6, p7, p8, fun T H t0 t8 t9 h0 h1 h2 => ?_⟩
  unfold Evl.av av0 at *
  dsimp only at hc
  simp -implicitDefEqProofs only [go_sem, Nat.reduceEqDiff, Nat.reduceAdd, Nat.reduceLeDiff, Nat.reduceLT, reduceCtorEq, ↓reduceIte, Nat.reduceBEq, Int.reduceLT, Int.reduceLE, Int.reduceNeg, Int.reduceEq, Int.toNat_natCast, cast_lit, Int.reduceToNat, ↓hc, t0, t8, t9, h0, h1, h2, e1, e2, w1, w2]
theorem valN_cases (k : Int) (h0 : 0 ≤ k) (h4 : k < 4) : valN k = ⟨#[97]⟩ ∨ valN k = ⟨#[98]⟩ ∨ valN k = ⟨#[99]⟩ ∨ valN k = ⟨#[97, 97]⟩ := by
  have : k = 0 ∨ k = 1 ∨ k = 2 ∨ k = 3 := by omega
  rcases this with rfl | rfl | rfl | rfl
  · exact .inl rfl
  · exact .inr (.inl rfl)
  · exact .inr (.inr (.inl rfl))
  · exact .inr (.inr (.inr rfl))
/-- The values that are made. -/
def isVal (v : ByteArray) : Prop := v = ⟨#[97]⟩ ∨ v = ⟨#[98]⟩ ∨ v = ⟨#[99]⟩ ∨ v = ⟨#[97, 97]⟩
theorem isVal_size {v : ByteArray} (h : isVal v) : 1 ≤ (v.size : Int) ∧ (v.size : Int) ≤ 2 := by
  rcases h with rfl | rfl | rfl | rfl <;> decide
theorem isVal_dV (l : List Int) (a : Nat) : isVal (valN (dV l a 4)) := valN_cases _ (dV_nonneg ..) (dV_lt _ _ _ (by decide))
theorem finite_mk {c : Int} {v : ByteArray} (hc : 1 ≤ c) (hc2 : c ≤ 1000) (hv : isVal v) : finite ⟨c, v⟩ = true := by
  have := isVal_size hv
  simp [finite, validB]
  omega
theorem chunk76c (l : List Int) (a : Nat) (e : Evl) (he : headE { e with k := 1 } = true) (hth : e.t.thin) (hv : isVal e.b.v) (hp : e.p = Bal.zero) (hl : l.length ≤ 800) (ha : a ≤ l.length) : ∃ (e' : Evl) (a' : Nat), a' ≤ l.length ∧ validE e' = true ∧ e'.node = e.node ∧ e'.slot = e.slot ∧ e'.seq = e.seq ∧ e'.t = e.t ∧ e'.k = 1 ∧ e'.b.v = e.b.v ∧ 1 ≤ e'.b.c ∧ e'.b.c ≤ 7 ∧
    ∀ T H v0 c0, tget T 0 = .ptr (.ext 0) 0 → tget T 8 = .ptr (.loc 0 0 0) 0 → tget T 9 = .ptr (.loc 1 8 0) 0 → tget T 10 = .p (.str e.b.v) → hget H (.ext 0) = some (.box [.p (.sl 1 (l.map (.int .i64))), .p (.int .i64 a)]) → hget H (.loc 0 0 0) = some (.box av0) → hget H (.loc 1 8 0) = some (.box ({ e with b := ⟨c0, v0⟩ } : Evl).av) →
    sexW E 1 (.seq (.reg 14 [{ dst := some 68, op := .mv (.t 0) }, { dst := some 69, op := .call (.f 31) [.t 68, .c (.int .i64 (1)), .c (.int .i64 (7))] }, { dst := some 70, op := .mv (.t 10) }, { dst := some 71, op := .build [.c (.int .i64 0), .c (.str ByteArray.empty)] [(0, 1, .t 69), (1, 1, .t 70)] }, { dst := some 72, op := .faddr 6 (.t 9) }, { dst := none, op := .store 1 (.t 72) (.c (.int .i64 (1))) }, { dst := some 73, op := .faddr 7 (.t 9) }, { dst := none, op := .store 2 (.t 73) (.t 71) }]) (.seq (.seq (.reg 15 [{ dst := some 74, op := .mv (.t 0) }, { dst := some 75, op := .call (.f 28) [.t 74, .c (.int .i64 (3))] }, { dst := some 76, op := .bin .gtr (.t 75) (.c (.int .i64 (0))) }]) (.trim [0, 8, 9] [8] [] [.loc 0 0 0, .loc 1 8 0] (.cond (.t 76) s76_6 .skip))) (.seq (.reg 19 [{ dst := some 86, op := .mv (.t 0) }, { dst := some 87, op := .faddr 7 (.t 9) }, { dst := some 88, op := .faddr 0 (.t 87) }, { dst := some 89, op := .load false 1 (.t 88) }, { dst := some 90, op := .bin .add (.t 89) (.c (.int .i64 (1))) }, { dst := some 91, op := .call (.f 28) [.t 86, .t 90] }, { dst := some 92, op := .faddr 14 (.t 9) }, { dst := none, op := .store 1 (.t 92) (.t 91) }]) (.seq (.reg 20 [{ dst := some 93, op := .mv (.t 0) }, { dst := some 94, op := .faddr 14 (.t 9) }, { dst := some 95, op := .load false 1 (.t 94) }, { dst := some 96, op := .bin .add (.t 95) (.c (.int .i64 (1))) }, { dst := some 97, op := .call (.f 28) [.t 93, .t 96] }, { dst := some 98, op := .faddr 13 (.t 9) }, { dst := none, op := .store 1 (.t 98) (.t 97) }]) (.seq (.seq (.reg 21 [{ dst := some 99, op := .load true 15 (.t 9) }, { dst := some 100, op := .call (.f 82) [.t 99] }, { dst := some 101, op := .un .not (.t 100) }]) (.trim [8, 9] [8] [] [.loc 0 0 0, .loc 1 8 0] (.cond (.t 101) s76_7 .skip))) (.seq (.seq (.reg 23 [{ dst := some 103, op := .load true 15 (.t 9) }, { dst := some 104, op := .call (.f 82) [.t 103] }, { dst := some 105, op := .un .not (.t 104) }]) (.trim [8, 9] [8] [] [.loc 0 0 0, .loc 1 8 0] (.cond (.t 105) s76_8 .skip))) (.seq (.reg 25 [{ dst := some 107, op := .load true 15 (.t 9) }, { dst := some 108, op := .call (.f 82) [.t 107] }, { dst := some 109, op := .un .not (.t 108) }]) (.trim [8, 9] [8] [] [.loc 0 0 0, .loc 1 8 0] (.cond (.t 109) s76_9 .skip))))))))) ⟨T, H⟩ =
    some (.nrm, ⟨[(8, .ptr (.loc 0 0 0) 0), (9, .ptr (.loc 1 8 0) 0)], [(.ext 0, some (.box [.p (.sl 1 (l.map (.int .i64))), .p (.int .i64 a')])), (.loc 0 0 0, some (.box av0)), (.loc 1 8 0, some (.box e'.av))]⟩) := by
  have e1 := e31 (E := E) l a 1 7 hl ha (by omega) (by omega) (by omega) (by omega)
  simp only [show (7 : Int) - 1 + 1 = 7 from rfl] at e1
  have l1 := dA_le l a 7 ha
  have e2 := e28 (E := E) l (dA l a 7) 3 hl l1 (by omega)
  have l2 := dA_le l _ 3 l1
  have b1 := dV_nonneg l a 7
  have b2 := dV_lt l a 7 (by decide)
  have fb : finite ⟨1 + dV l a 7, e.b.v⟩ = true := finite_mk (by omega) (by omega) hv
  have oz : optional Bal.zero = true := by decide
  generalize hx2 : dA l (dA l a 7) 3 = x2 at *
  by_cases c1 : 0 < dV l (dA l a 7) 3
  · have e3 := e39 (E := E) l x2 hl l2
    have l3 := dA_le l _ 6 l2
    have l4 := dA_le l _ 4 l3
    have fp : optional ⟨1 + dV l x2 6, valN (dV l (dA l x2 6) 4)⟩ = true := by
      have d1 := dV_nonneg l x2 6
      have d2 := dV_lt l x2 6 (by decide)
      have := finite_mk (c := 1 + dV l x2 6) (by omega) (by omega) (isVal_dV l (dA l x2 6))
      simp [finite] at this
      simp [optional, this.1]
    generalize hx4 : dA l (dA l x2 6) 4 = x4 at *
    have e4 := e28 (E := E) l x4 2 hl l4 (by omega)
    have l5 := dA_le l _ 2 l4
    generalize hx5 : dA l x4 2 = x5 at *
    by_cases c2 : dV l x4 2 = 1
    · have e5 := e39 (E := E) l x5 hl l5
      have l6 := dA_le l _ 6 l5
      have l7 := dA_le l _ 4 l6
      obtain ⟨e', a', q0, q1, q2, q3, q4, q5, q6, q7, q8, hc⟩ := chunk76b (E := E) l (dA l (dA l x5 6) 4) { e with k := 1, b := ⟨1 + dV l a 7, e.b.v⟩, p := ⟨1 + dV l x2 6, valN (dV l (dA l x2 6) 4)⟩, q := ⟨1 + dV l x5 6, valN (dV l (dA l x5 6) 4)⟩ } ⟨hth, he, rfl, fb, fp, by show 1 ≤ 1 + dV l a 7; omega, by show 1 + dV l a 7 ≤ 7; omega⟩ hl l7
      refine ⟨e', a', q0, q1, q2, q3, q4, q5, q6, by rw [q7], by rw [q7]; show 1 ≤ 1 + dV l a 7; omega, by rw [q7]; show 1 + dV l a 7 ≤ 7; omega, fun T H v0 c0 t0 t8 t9 t10 h0 h1 h2 => ?_⟩
      unfold Evl.av av0 at *
      dsimp only at hc h2
      simp -implicitDefEqProofs only [go_sem, Nat.reduceEqDiff, Nat.reduceAdd, Nat.reduceLeDiff, Nat.reduceLT, reduceCtorEq, ↓reduceIte, Nat.reduceBEq, Int.reduceLT, Int.reduceLE, Int.reduceNeg, Int.reduceEq, Int.toNat_natCast, cast_lit, Int.reduceToNat, ↓hc, s76_5, s76_6, t0, t8, t9, t10, h0, h1, h2, e1, e2, e3, e4, e5, c1, c2]
    · obtain ⟨e', a', q0, q1, q2, q3, q4, q5, q6, q7, q8, hc⟩ := chunk76b (E := E) l x5 { e with k := 1, b := ⟨1 + dV l a 7, e.b.v⟩, p := ⟨1 + dV l x2 6, valN (dV l (dA l x2 6) 4)⟩ } ⟨hth, he, rfl, fb, fp, by show 1 ≤ 1 + dV l a 7; omega, by show 1 + dV l a 7 ≤ 7; omega⟩ hl l5
      refine ⟨e', a', q0, q1, q2, q3, q4, q5, q6, by rw [q7], by rw [q7]; show 1 ≤ 1 + dV l a 7; omega, by rw [q7]; show 1 + dV l a 7 ≤ 7; omega, fun T H v0 c0 t0 t8 t9 t10 h0 h1 h2 => ?_⟩
      unfold Evl.av av0 at *
      dsimp only at hc h2
      simp -implicitDefEqProofs only [go_sem, Nat.reduceEqDiff, Nat.reduceAdd, Nat.reduceLeDiff, Nat.reduceLT, reduceCtorEq, ↓reduceIte, Nat.reduceBEq, Int.reduceLT, Int.reduceLE, Int.reduceNeg, Int.reduceEq, Int.toNat_natCast, cast_lit, Int.reduceToNat, ↓hc, s76_5, s76_6, t0, t8, t9, t10, h0, h1, h2, e1, e2, e3, e4, c1, c2]
  · obtain ⟨e', a', q0, q1, q2, q3, q4, q5, q6, q7, q8, hc⟩ := chunk76b (E := E) l x2 { e with k := 1, b := ⟨1 + dV l a 7, e.b.v⟩ } ⟨hth, he, rfl, fb, by show optional e.p = true; rw [hp]; exact oz, by show 1 ≤ 1 + dV l a 7; omega, by show 1 + dV l a 7 ≤ 7; omega⟩ hl l2
    refine ⟨e', a', q0, q1, q2, q3, q4, q5, q6, by rw [q7], by rw [q7]; show 1 ≤ 1 + dV l a 7; omega, by rw [q7]; show 1 + dV l a 7 ≤ 7; omega, fun T H v0 c0 t0 t8 t9 t10 h0 h1 h2 => ?_⟩
    unfold Evl.av av0 at *
    dsimp only at hc h2
    simp -implicitDefEqProofs only [go_sem, Nat.reduceEqDiff, Nat.reduceAdd, Nat.reduceLeDiff, Nat.reduceLT, reduceCtorEq, ↓reduceIte, Nat.reduceBEq, Int.reduceLT, Int.reduceLE, Int.reduceNeg, Int.reduceEq, Int.toNat_natCast, cast_lit, Int.reduceToNat, ↓hc, s76_5, s76_6, t0, t8, t9, t10, h0, h1, h2, e1, e2, c1]
end Go.Ab.S

set_option linter.unusedSimpArgs false
set_option linter.unusedVariables false
set_option linter.unusedSectionVars false
namespace Go.Ab.S
open Go Go.Ab
variable {E : Env} [EnvS E]

/-- The envelopes that are made. -/
structure EnvG (n : Nat) (e : Evl) : Prop where
  valid : validE e = true
  t : TrG n e.t
  s1 : 1 ≤ e.seq
  s9 : e.seq ≤ 9
  v : isVal e.b.v
  c1 : 1 ≤ e.b.c
  c7 : e.b.c ≤ 7
set_option maxHeartbeats 1000000 in
theorem e76 (l : List Int) (a : Nat) (node slot : Int) (n : Nat) (hl : l.length ≤ 800) (ha : a ≤ l.length) (hn : 1 ≤ n) (hn' : n ≤ 10) (hd : 0 ≤ node) (hd' : node < 10) (hs : 1 ≤ slot) (hs' : slot ≤ 1000000) :
    ∃ (e : Evl) (a' : Nat), a' ≤ l.length ∧ EnvG n e ∧ e.node = node ∧ e.slot = slot ∧ callW E 76 [.ptr (.ext 0) 0, .p (.int .i64 node), .p (.int .i64 slot), .p (.int .i64 n)] [.box [.p (.sl 1 (l.map (.int .i64))), .p (.int .i64 a)]] = some ⟨.p e.pv, [.box [.p (.sl 1 (l.map (.int .i64))), .p (.int .i64 a')]], []⟩ := by
  have e1 := e31 (E := E) l a 1 9 hl ha (by omega) (by omega) (by omega) (by omega)
  simp only [show (9 : Int) - 1 + 1 = 9 from rfl] at e1
  have l1 := dA_le l a 9 ha
  have b1 := dV_nonneg l a 9
  have b2 := dV_lt l a 9 (by decide)
  have e2 := e29 (E := E) l (dA l a 9) n hl l1 hn' hn
  have l2 := trG_le l (dA l a 9) n l1
  have tg := trG_ok l (dA l a 9) n hn hn'
  generalize htt : trG l (dA l a 9) n = tt at *
  obtain ⟨t, x2⟩ := tt
  dsimp only at e2 l2 tg
  have e3 := e30 (E := E) l x2 hl l2
  have l3 := dA_le l x2 4 l2
  have hv := isVal_dV l x2
  generalize hvv : valN (dV l x2 4) = v at *
  generalize hx3 : dA l x2 4 = x3 at *
  have e4 := e28 (E := E) l x3 4 hl l3 (by omega)
  have l4 := dA_le l x3 4 l3
  generalize hx4 : dA l x3 4 = x4 at *
  have b3 := dV_nonneg l x3 4
  generalize hsw : dV l x3 4 = sw at *
  have hz : zeroB Bal.zero = true := by decide
  have hh : ∀ k b p q lo hi, headE ⟨node, slot, 1 + dV l a 9, t, k, b, p, q, lo, hi⟩ = true := by
    intro k b p q lo hi
    simp [headE, tg.ok]
    omega
  by_cases c0 : sw = 0
  · -- commit
    have f1 := e31 (E := E) l x4 1 7 hl l4 (by omega) (by omega) (by omega) (by omega)
    simp only [show (7 : Int) - 1 + 1 = 7 from rfl] at f1
    have m1 := dA_le l x4 7 l4
    have d1 := dV_nonneg l x4 7
    have d1' := dV_lt l x4 7 (by decide)
    generalize hx5 : dA l x4 7 = x5 at *
    have f2 := e31 (E := E) l x5 1 4 hl m1 (by omega) (by omega) (by omega) (by omega)
    simp only [show (4 : Int) - 1 + 1 = 4 from rfl] at f2
    have m2 := dA_le l x5 4 m1
    have d2 := dV_nonneg l x5 4
    have d2' := dV_lt l x5 4 (by decide)
    generalize hx6 : dA l x5 4 = x6 at *
    have f3 := e28 (E := E) l x6 3 hl m2 (by omega)
    have m3 := dA_le l x6 3 m2
    have d3 := dV_nonneg l x6 3
    have d3' := dV_lt l x6 3 (by decide)
    generalize hx7 : dA l x6 3 = x7 at *
    have f4 := e28 (E := E) l x7 3 hl m3 (by omega)
    have m4 := dA_le l x7 3 m3
    have d4 := dV_nonneg l x7 3
    have d4' := dV_lt l x7 3 (by decide)
    generalize hx8 : dA l x7 3 = x8 at *
    have w1 : IntKind.i64.wrap (1 + dV l x5 4 + dV l x6 3) = 1 + dV l x5 4 + dV l x6 3 := wrap64 (by omega) (by omega)
    have w2 : IntKind.i64.wrap (1 + dV l x5 4 + dV l x6 3 + dV l x7 3) = 1 + dV l x5 4 + dV l x6 3 + dV l x7 3 := wrap64 (by omega) (by omega)
    refine ⟨⟨node, slot, 1 + dV l a 9, t, 2, ⟨1 + dV l x4 7, v⟩, ⟨1 + dV l x5 4 + dV l x6 3 + dV l x7 3, v⟩, Bal.zero, 1 + dV l x5 4, 1 + dV l x5 4 + dV l x6 3⟩, x8, m4, ⟨?_, tg, by show 1 ≤ 1 + dV l a 9; omega, by show 1 + dV l a 9 ≤ 9; omega, hv, by show 1 ≤ 1 + dV l x4 7; omega, by show 1 + dV l x4 7 ≤ 7; omega⟩, rfl, rfl, ?_⟩
    · have q1 := finite_mk (c := 1 + dV l x4 7) (by omega) (by omega) hv
      have q2 := finite_mk (c := 1 + dV l x5 4 + dV l x6 3 + dV l x7 3) (by omega) (by omega) hv
      simp only [finite, Bool.and_eq_true] at q2
      unfold validE
      rw [hh]
      simp [q1, q2.1, hz, ranged]
      omega
    · rw [callW_eq, EnvS.h 76 F76 rfl]
      unfold Evl.pv
      simp only [Tr.pv] at e2
      simp -implicitDefEqProofs only [go_sem, Nat.reduceEqDiff, Nat.reduceAdd, Nat.reduceLeDiff, Nat.reduceLT, reduceCtorEq, ↓reduceIte, Nat.reduceBEq, Int.reduceLT, Int.reduceLE, Int.reduceNeg, Int.reduceEq, Int.toNat_natCast, cast_lit, Int.reduceToNat, F76, s76, s76_10, s76_4, s76_2, s76_1, s76_3, s76_6, s76_5, s76_7, s76_8, s76_9, e1, e2, e3, e4, c0, f1, f2, f3, f4, w1, w2, Bal.zero]
  · have dflt := chunk76c (E := E) l
    by_cases c1 : sw = 1
    · have f0 := e28 (E := E) l x4 3 hl l4 (by omega)
      have m0 := dA_le l x4 3 l4
      generalize hy0 : dA l x4 3 = y0 at *
      by_cases c2 : 0 < dV l x4 3
      · -- external
        have f1 := e31 (E := E) l y0 1 7 hl m0 (by omega) (by omega) (by omega) (by omega)
        simp only [show (7 : Int) - 1 + 1 = 7 from rfl] at f1
        have m1 := dA_le l y0 7 m0
        have d1 := dV_nonneg l y0 7
        have d1' := dV_lt l y0 7 (by decide)
        generalize hx5 : dA l y0 7 = x5 at *
        have f2 := e31 (E := E) l x5 1 4 hl m1 (by omega) (by omega) (by omega) (by omega)
        simp only [show (4 : Int) - 1 + 1 = 4 from rfl] at f2
        have m2 := dA_le l x5 4 m1
        have d2 := dV_nonneg l x5 4
        have d2' := dV_lt l x5 4 (by decide)
        generalize hx6 : dA l x5 4 = x6 at *
        have f3 := e28 (E := E) l x6 3 hl m2 (by omega)
        have m3 := dA_le l x6 3 m2
        have d3 := dV_nonneg l x6 3
        have d3' := dV_lt l x6 3 (by decide)
        generalize hx7 : dA l x6 3 = x7 at *
        have w1 : IntKind.i64.wrap (1 + dV l x5 4 + dV l x6 3) = 1 + dV l x5 4 + dV l x6 3 := wrap64 (by omega) (by omega)
        refine ⟨⟨node, slot, 1 + dV l a 9, t, 3, ⟨1 + dV l y0 7, v⟩, Bal.zero, Bal.zero, 1 + dV l x5 4, 1 + dV l x5 4 + dV l x6 3⟩, x7, m3, ⟨?_, tg, by show 1 ≤ 1 + dV l a 9; omega, by show 1 + dV l a 9 ≤ 9; omega, hv, by show 1 ≤ 1 + dV l y0 7; omega, by show 1 + dV l y0 7 ≤ 7; omega⟩, rfl, rfl, ?_⟩
        · have q1 := finite_mk (c := 1 + dV l y0 7) (by omega) (by omega) hv
          simp only [finite, Bool.and_eq_true] at q1
          unfold validE
          rw [hh]
          simp [q1.1, hz, ranged]
          omega
        · rw [callW_eq, EnvS.h 76 F76 rfl]
          unfold Evl.pv
          simp only [Tr.pv] at e2
          simp -implicitDefEqProofs only [go_sem, Nat.reduceEqDiff, Nat.reduceAdd, Nat.reduceLeDiff, Nat.reduceLT, reduceCtorEq, ↓reduceIte, Nat.reduceBEq, Int.reduceLT, Int.reduceLE, Int.reduceNeg, Int.reduceEq, Int.toNat_natCast, cast_lit, Int.reduceToNat, F76, s76, s76_10, s76_4, s76_2, s76_1, s76_3, s76_6, s76_5, s76_7, s76_8, s76_9, e1, e2, e3, e4, c0, c1, c2, f0, f1, f2, f3, w1, Bal.zero]
      · obtain ⟨e', a', q0, q1, q2, q3, q4, q5, q6, q7, q8, q9, hc⟩ := dflt y0 ⟨node, slot, 1 + dV l a 9, t, 0, ⟨0, v⟩, Bal.zero, Bal.zero, 0, 0⟩ (hh ..) tg.thin hv rfl hl m0
        refine ⟨e', a', q0, ⟨q1, by rw [q5]; exact tg, by rw [q4]; show 1 ≤ 1 + dV l a 9; omega, by rw [q4]; show 1 + dV l a 9 ≤ 9; omega, by rw [q7]; exact hv, q8, q9⟩, q2, q3, ?_⟩
        rw [callW_eq, EnvS.h 76 F76 rfl]
        simp only [Tr.pv] at e2
        unfold Evl.pv
        replace hc := fun T H => hc T H ByteArray.empty 0
        unfold Evl.av av0 Bal.zero at hc
        dsimp only at hc
        simp -implicitDefEqProofs only [go_sem, Nat.reduceEqDiff, Nat.reduceAdd, Nat.reduceLeDiff, Nat.reduceLT, reduceCtorEq, ↓reduceIte, Nat.reduceBEq, Int.reduceLT, Int.reduceLE, Int.reduceNeg, Int.reduceEq, Int.toNat_natCast, cast_lit, Int.reduceToNat, ↓hc, F76, s76, s76_10, s76_4, s76_2, s76_1, s76_3, e1, e2, e3, e4, c0, c1, c2, f0, tg.thin]
    · obtain ⟨e', a', q0, q1, q2, q3, q4, q5, q6, q7, q8, q9, hc⟩ := dflt x4 ⟨node, slot, 1 + dV l a 9, t, 0, ⟨0, v⟩, Bal.zero, Bal.zero, 0, 0⟩ (hh ..) tg.thin hv rfl hl l4
      refine ⟨e', a', q0, ⟨q1, by rw [q5]; exact tg, by rw [q4]; show 1 ≤ 1 + dV l a 9; omega, by rw [q4]; show 1 + dV l a 9 ≤ 9; omega, by rw [q7]; exact hv, q8, q9⟩, q2, q3, ?_⟩
      rw [callW_eq, EnvS.h 76 F76 rfl]
      simp only [Tr.pv] at e2
      unfold Evl.pv
      replace hc := fun T H => hc T H ByteArray.empty 0
      unfold Evl.av av0 Bal.zero at hc
      dsimp only at hc
      simp -implicitDefEqProofs only [go_sem, Nat.reduceEqDiff, Nat.reduceAdd, Nat.reduceLeDiff, Nat.reduceLT, reduceCtorEq, ↓reduceIte, Nat.reduceBEq, Int.reduceLT, Int.reduceLE, Int.reduceNeg, Int.reduceEq, Int.toNat_natCast, cast_lit, Int.reduceToNat, ↓hc, F76, s76, s76_10, s76_4, s76_2, s76_1, s76_3, e1, e2, e3, e4, c0, c1, tg.thin]
end Go.Ab.S

/-! The order of ballots. -/
namespace Go.Ab.S
open Go Go.Ab

theorem bl_irrefl : ∀ x : List UInt8, Op.bytesLess x x = false
  | [] => rfl
  | a :: x => by simp [Op.bytesLess, bl_irrefl x]
theorem bl_trans : ∀ x y z : List UInt8, Op.bytesLess x y = true → Op.bytesLess y z = true → Op.bytesLess x z = true
  | x, [], z, h, _ => by cases x <;> simp [Op.bytesLess] at h
  | _, b :: y, [], _, h => by simp [Op.bytesLess] at h
  | [], b :: y, c :: z, _, _ => rfl
  | a :: x, b :: y, c :: z, h, h2 => by
    simp only [Op.bytesLess, Bool.or_eq_true, Bool.and_eq_true, decide_eq_true_eq, beq_iff_eq] at h h2 ⊢
    rcases h with h | ⟨rfl, h⟩
    · rcases h2 with h2 | ⟨rfl, h2⟩
      · exact .inl (UInt8.lt_trans h h2)
      · exact .inl h
    · rcases h2 with h2 | ⟨rfl, h2⟩
      · exact .inl h2
      · exact .inr ⟨rfl, bl_trans x y z h h2⟩
theorem bl_total : ∀ x y : List UInt8, Op.bytesLess x y = false → Op.bytesLess y x = false → x = y
  | [], [], _, _ => rfl
  | [], b :: y, h, _ => by simp [Op.bytesLess] at h
  | a :: x, [], _, h => by simp [Op.bytesLess] at h
  | a :: x, b :: y, h, h2 => by
    simp only [Op.bytesLess, Bool.or_eq_false_iff, Bool.and_eq_false_iff, decide_eq_false_iff_not, beq_eq_false_iff_ne] at h h2
    have hab : a = b := by
      have h3 := h.1
      have h4 := h2.1
      rw [UInt8.lt_iff_toNat_lt] at h3 h4
      exact UInt8.toNat_inj.1 (by omega)
    subst hab
    have h3 : Op.bytesLess x y = false := by rcases h.2 with h | h <;> simp_all
    have h4 : Op.bytesLess y x = false := by rcases h2.2 with h | h <;> simp_all
    rw [bl_total x y h3 h4]
theorem ba_ext {a b : ByteArray} (h : a.toList = b.toList) : a = b := by
  rw [ByteArray.toList_eq, ByteArray.toList_eq] at h
  have h2 : a.data = b.data := Array.toList_inj.1 h
  cases a; cases b; simp_all
theorem lv_irrefl (a : ByteArray) : lessV a a = false := by simp [lessV, bl_irrefl]
theorem lv_trans {a b c : ByteArray} (h : lessV a b = true) (h2 : lessV b c = true) : lessV a c = true := by
  unfold lessV at *
  by_cases h3 : a.size = b.size
  · rw [if_pos h3] at h
    by_cases h4 : b.size = c.size
    · rw [if_pos h4] at h2
      rw [if_pos (h3.trans h4)]
      exact bl_trans _ _ _ h h2
    · rw [if_neg h4] at h2
      simp only [decide_eq_true_eq] at h2
      rw [if_neg (by omega)]
      simp; omega
  · rw [if_neg h3] at h
    simp only [decide_eq_true_eq] at h
    by_cases h4 : b.size = c.size
    · rw [if_neg (by omega)]
      simp; omega
    · rw [if_neg h4] at h2
      simp only [decide_eq_true_eq] at h2
      rw [if_neg (by omega)]
      simp; omega
theorem lv_total {a b : ByteArray} (h : lessV a b = false) (h2 : lessV b a = false) : a = b := by
  unfold lessV at *
  by_cases h3 : a.size = b.size
  · rw [if_pos h3] at h
    rw [if_pos h3.symm] at h2
    exact ba_ext (bl_total _ _ h h2)
  · rw [if_neg h3] at h
    rw [if_neg (fun h => h3 h.symm)] at h2
    simp at h h2
    omega
theorem less_irrefl (a : Bal) : less a a = false := by rw [less_eq]; simp [lv_irrefl]
theorem less_trans {a b c : Bal} (h : less a b = true) (h2 : less b c = true) : less a c = true := by
  rw [less_eq] at *
  by_cases h3 : a.c = b.c
  · rw [if_pos h3] at h
    by_cases h4 : b.c = c.c
    · rw [if_pos h4] at h2
      rw [if_pos (h3.trans h4)]
      exact lv_trans h h2
    · rw [if_neg h4] at h2
      simp only [decide_eq_true_eq] at h2
      rw [if_neg (by omega)]
      simp; omega
  · rw [if_neg h3] at h
    simp only [decide_eq_true_eq] at h
    by_cases h4 : b.c = c.c
    · rw [if_neg (by omega)]
      simp; omega
    · rw [if_neg h4] at h2
      simp only [decide_eq_true_eq] at h2
      rw [if_neg (by omega)]
      simp; omega
theorem less_total {a b : Bal} (h : less a b = false) (h2 : less b a = false) : a = b := by
  rw [less_eq] at *
  by_cases h3 : a.c = b.c
  · rw [if_pos h3] at h
    rw [if_pos h3.symm] at h2
    have := lv_total h h2
    cases a; cases b; simp_all
  · rw [if_neg h3] at h
    rw [if_neg (fun h => h3 h.symm)] at h2
    simp at h h2
    omega
theorem less_asymm {a b : Bal} (h : less a b = true) : less b a = false := by
  cases h2 : less b a with
  | false => rfl
  | true => have := less_trans h h2; rw [less_irrefl] at this; cases this
theorem less_c {a b : Bal} (h : less a b = true) : a.c ≤ b.c := by
  rw [less_eq] at h
  by_cases h3 : a.c = b.c
  · omega
  · rw [if_neg h3] at h
    simp at h
    omega
/-! ### Joining -/
theorem less_mono' {lo k : Int} {v : ByteArray} {p : Bal} (h : lo ≤ k) (h2 : less ⟨k, v⟩ p = true) : less ⟨lo, v⟩ p = true := by
  rw [less_eq] at h2 ⊢
  dsimp only at h2 ⊢
  by_cases h3 : lo = k
  · subst h3; exact h2
  · split at h2
    · rw [if_neg (by omega)]; simp; omega
    · simp only [decide_eq_true_eq] at h2
      rw [if_neg (by omega)]; simp; omega
theorem join_zero {p q b : Bal} (hb : zeroB b = false) (hp : zeroB p = true) : join p q b = (b, q) := by simp [join, hb, hp]
/-- What holds of the two greatest of some ballots. -/
structure JInv (p q : Bal) (all : List Bal) : Prop where
  pz : zeroB p = false
  qq : q = ⟨0, ByteArray.empty⟩ ∨ (zeroB q = false ∧ less q p = true ∧ q.v ≠ p.v)
  all : ∀ x ∈ all, prepares p q x = true
theorem zeroB_iff {b : Bal} : zeroB b = true ↔ b = ⟨0, ByteArray.empty⟩ := by
  obtain ⟨c, v⟩ := b
  simp [zeroB]
theorem less_val {x q p : Bal} (hv : q.v = x.v) (hc : x.c ≤ q.c) (h : less q p = true) : less x p = true := by
  obtain ⟨xc, xv⟩ := x
  obtain ⟨qc, qv⟩ := q
  dsimp only at hv hc
  subst hv
  exact less_mono' hc h
theorem covers_self {b : Bal} (h : zeroB b = false) : covers b b = true := by simp [covers, h]
theorem join_inv {p q b : Bal} {all : List Bal} (h : JInv p q all) (hb : zeroB b = false) (hbv : b.v ≠ ByteArray.empty) : JInv (join p q b).1 (join p q b).2 (b :: all) := by
  have hpz := h.pz
  have hz0 : zeroB ⟨0, ByteArray.empty⟩ = true := by decide
  unfold join
  rw [if_neg (by simp [hb]), if_neg (by simp [hpz])]
  by_cases h1 : less p b = true
  · rw [if_pos h1]
    dsimp only
    by_cases h2 : p.v = b.v
    · rw [if_pos h2]
      have hq : (if q.v = b.v then (⟨0, ByteArray.empty⟩ : Bal) else q) = q := by
        split
        · rename_i hqb
          rcases h.qq with hq | ⟨_, _, hq⟩
          · rw [hq]
          · exact absurd (hqb.trans h2.symm) hq
        · rfl
      rw [hq]
      refine ⟨hb, ?_, ?_⟩
      · rcases h.qq with hq | ⟨hq0, hq1, hq2⟩
        · exact .inl hq
        · exact .inr ⟨hq0, less_trans hq1 h1, fun hv => hq2 (hv.trans h2.symm)⟩
      · intro x hx
        rcases List.mem_cons.1 hx with rfl | hx
        · simp [prepares, covers_self hb]
        · have := h.all x hx
          simp only [prepares, Bool.or_eq_true] at this ⊢
          rcases this with (h3 | h3) | h3
          · refine .inl (.inl ?_)
            simp only [covers, Bool.and_eq_true, decide_eq_true_eq, Bool.not_eq_true'] at h3 ⊢
            have := less_c h1
            exact ⟨⟨hb, h2.symm.trans h3.1.2⟩, by omega⟩
          · exact .inl (.inr h3)
          · exact .inr h3
    · rw [if_neg h2]
      refine ⟨hb, .inr ⟨hpz, h1, h2⟩, ?_⟩
      intro x hx
      rcases List.mem_cons.1 hx with rfl | hx
      · simp [prepares, covers_self hb]
      · have := h.all x hx
        simp only [prepares, Bool.or_eq_true, Bool.and_eq_true] at this ⊢
        rcases this with (h3 | h3) | h3
        · exact .inl (.inr h3)
        · refine .inr ⟨by simp [hpz], ?_⟩
          simp only [covers, Bool.and_eq_true, decide_eq_true_eq, Bool.not_eq_true'] at h3
          rcases h.qq with hq | ⟨_, hq1, _⟩
          · rw [hq, hz0] at h3; exact absurd h3.1.1 (by simp)
          · exact less_val h3.1.2 h3.2 hq1
        · refine .inr ⟨by simp [hpz], ?_⟩
          rcases h.qq with hq | ⟨_, hq1, _⟩
          · rw [hq, hz0] at h3; exact absurd h3.1 (by simp)
          · exact less_trans h3.2 hq1
  · rw [if_neg h1]
    have h1' : less p b = false := by simpa using h1
    by_cases h2 : (less b p && !decide (p.v = b.v) && (zeroB q || less q b)) = true
    · rw [if_pos h2]
      simp only [Bool.and_eq_true, Bool.or_eq_true, Bool.not_eq_true', decide_eq_false_iff_not] at h2
      obtain ⟨⟨g1, g2⟩, g3⟩ := h2
      refine ⟨hpz, .inr ⟨hb, g1, fun hv => g2 hv.symm⟩, ?_⟩
      intro x hx
      rcases List.mem_cons.1 hx with rfl | hx
      · simp [prepares, covers_self hb]
      · have := h.all x hx
        simp only [prepares, Bool.or_eq_true, Bool.and_eq_true] at this ⊢
        rcases this with (h3 | h3) | h3
        · exact .inl (.inl h3)
        · refine .inr ⟨by simp [hb], ?_⟩
          simp only [covers, Bool.and_eq_true, decide_eq_true_eq, Bool.not_eq_true'] at h3
          rcases g3 with g3 | g3
          · rw [g3] at h3; exact absurd h3.1.1 (by simp)
          · exact less_val h3.1.2 h3.2 g3
        · refine .inr ⟨by simp [hb], ?_⟩
          rcases g3 with g3 | g3
          · rw [g3] at h3; exact absurd h3.1 (by simp)
          · exact less_trans h3.2 g3
    · rw [if_neg h2]
      refine ⟨hpz, h.qq, ?_⟩
      intro x hx
      rcases List.mem_cons.1 hx with rfl | hx
      · simp only [prepares, Bool.or_eq_true, Bool.and_eq_true]
        cases h3 : less x p with
        | false =>
          have := less_total h1' h3
          subst this
          exact .inl (.inl (covers_self hb))
        | true =>
          by_cases h4 : p.v = x.v
          · refine .inl (.inl ?_)
            have := less_c h3
            simp [covers, hpz, h4, this]
          · simp only [h3, h4, Bool.true_and, Bool.and_eq_true, Bool.or_eq_true, decide_false, Bool.not_false, not_or, Bool.not_eq_true] at h2
            cases h5 : less x q with
            | true => exact .inr ⟨by simp [h2.1], rfl⟩
            | false =>
              have := less_total h2.2 h5
              subst this
              exact .inl (.inr (covers_self hb))
      · exact h.all x hx
end Go.Ab.S

set_option linter.unusedSimpArgs false
set_option linter.unusedVariables false
set_option linter.unusedSectionVars false
namespace Go.Ab.S
open Go Go.Ab
variable {E : Env} [EnvS E]

theorem e47 : callW E 47 [] [] = some ⟨.p (.bool true), [], []⟩ := by
  have h0 := e36 (E := E) 2 1 (by decide)
  have h1 := e51 (E := E) ⟨2, ⟨#[97]⟩⟩ ⟨0, ByteArray.empty⟩ ⟨3, ⟨#[98]⟩⟩
  have h2 : join ⟨2, ⟨#[97]⟩⟩ ⟨0, ByteArray.empty⟩ ⟨3, ⟨#[98]⟩⟩ = (⟨3, ⟨#[98]⟩⟩, ⟨2, ⟨#[97]⟩⟩) := by decide +kernel
  have h3 := e53 (E := E) 0 ⟨1, upto 2 0, []⟩ [] ⟨by decide, by decide, by simp⟩ (by decide) (by simp)
  have h4 : (viewM 0 ⟨1, upto 2 0, []⟩ []) = ⟨true, ⟨1, upto 2 0, []⟩⟩ :: List.replicate 9 memZ := rfl
  rw [h2] at h1
  rw [h4] at h3
  unfold Tr.pv at h0 h3
  simp only [Bal.pv, cast_lit, confPv, List.map_cons, List.map_nil] at h0 h1 h3
  have hl : (List.map Mem.pv (List.replicate 9 memZ)).length + 1 = 10 := rfl
  rw [callW_eq, EnvS.h 47 F47 rfl]
  simp -implicitDefEqProofs only [go_sem, Nat.reduceEqDiff, Nat.reduceAdd, Nat.reduceLeDiff, Nat.reduceLT, reduceCtorEq, ↓reduceIte, Nat.reduceBEq, Int.reduceLT, Int.reduceLE, Int.reduceNeg, Int.reduceEq, Int.toNat_natCast, cast_lit, Int.reduceToNat, F47, s47, h0, h1, h3, Mem.pv, List.length_cons, hl, List.length_map, List.length_replicate, Nat.reduceAdd]

theorem loop1004b (l : List Int) (a : Nat) (p q : Bal) (all : List Bal) (h : ∀ x ∈ all, prepares p q x = true) (hl : all.length ≤ 100) (k : Int) :
    loopW E 0 [3, 4, 5, 6, 7, 50, 51, 52] [.loc 1 1 0, .loc 1 1 1, .loc 1 1 2, .loc 1 1 3, .loc 2 0 0, .loc 2 1 0, .loc 3 0 0] (.trim [3, 4, 5, 6, 7, 50, 51, 52] [2] [(2, [3, 4, 5, 6, 7])] [.loc 1 1 0, .loc 1 1 1, .loc 1 1 2, .loc 1 1 3, .loc 2 0 0, .loc 2 1 0, .loc 3 0 0] s1004_4) (some ⟨[(3, .ptr (.loc 1 1 0) 0), (4, .ptr (.loc 2 0 0) 0), (5, .ptr (.loc 2 1 0) 0), (6, .hsl (.loc 3 0 0) 0 all.length), (7, .p (.int .i64 k)), (50, .hsl (.loc 3 0 0) 0 all.length), (51, .p (.int .i64 all.length)), (52, .p (.int .i64 0))],
      [(.loc 1 1 0, some (.box [.p (.sl 1 (l.map (.int .i64))), .p (.int .i64 a)])), (.loc 1 1 1, none), (.loc 1 1 2, none), (.loc 1 1 3, none), (.loc 2 0 0, some (.box [.p (.int .i64 p.c), .p (.str p.v)])), (.loc 2 1 0, some (.box [.p (.int .i64 q.c), .p (.str q.v)])), (.loc 3 0 0, some (.parr (all.map Bal.pv) 2 false))]⟩) =
    some (.ex 2, ⟨[(3, .ptr (.loc 1 1 0) 0), (4, .ptr (.loc 2 0 0) 0), (5, .ptr (.loc 2 1 0) 0), (6, .hsl (.loc 3 0 0) 0 all.length), (7, .p (.int .i64 k))],
      [(.loc 1 1 0, some (.box [.p (.sl 1 (l.map (.int .i64))), .p (.int .i64 a)])), (.loc 1 1 1, none), (.loc 1 1 2, none), (.loc 1 1 3, none), (.loc 2 0 0, some (.box [.p (.int .i64 p.c), .p (.str p.v)])), (.loc 2 1 0, some (.box [.p (.int .i64 q.c), .p (.str q.v)])), (.loc 3 0 0, some (.parr (all.map Bal.pv) 2 false))]⟩) := by
  generalize hK : loopW E 0 _ _ _ = K
  refine range_loopI K all (fun i (_ : Unit) => ⟨[(3, .ptr (.loc 1 1 0) 0), (4, .ptr (.loc 2 0 0) 0), (5, .ptr (.loc 2 1 0) 0), (6, .hsl (.loc 3 0 0) 0 all.length), (7, .p (.int .i64 k)), (50, .hsl (.loc 3 0 0) 0 all.length), (51, .p (.int .i64 all.length)), (52, .p (.int .i64 i))],
      [(.loc 1 1 0, some (.box [.p (.sl 1 (l.map (.int .i64))), .p (.int .i64 a)])), (.loc 1 1 1, none), (.loc 1 1 2, none), (.loc 1 1 3, none), (.loc 2 0 0, some (.box [.p (.int .i64 p.c), .p (.str p.v)])), (.loc 2 1 0, some (.box [.p (.int .i64 q.c), .p (.str q.v)])), (.loc 3 0 0, some (.parr (all.map Bal.pv) 2 false))]⟩)
    (fun _ _ => some (.ex 2, ⟨[(3, .ptr (.loc 1 1 0) 0), (4, .ptr (.loc 2 0 0) 0), (5, .ptr (.loc 2 1 0) 0), (6, .hsl (.loc 3 0 0) 0 all.length), (7, .p (.int .i64 k))],
      [(.loc 1 1 0, some (.box [.p (.sl 1 (l.map (.int .i64))), .p (.int .i64 a)])), (.loc 1 1 1, none), (.loc 1 1 2, none), (.loc 1 1 3, none), (.loc 2 0 0, some (.box [.p (.int .i64 p.c), .p (.str p.v)])), (.loc 2 1 0, some (.box [.p (.int .i64 q.c), .p (.str q.v)])), (.loc 3 0 0, some (.parr (all.map Bal.pv) 2 false))]⟩)) (fun _ _ => True) ?_ ?_ () trivial
  · intro _ _
    rw [← hK, loopW_some, hK]
    simp -implicitDefEqProofs only [go_sem, Nat.reduceEqDiff, Nat.reduceAdd, Nat.reduceLeDiff, Nat.reduceLT, reduceCtorEq, ↓reduceIte, Nat.reduceBEq, Int.reduceLT, Int.reduceLE, Int.reduceNeg, Int.reduceEq, Int.toNat_natCast, cast_lit, Int.reduceToNat, s1004_4, s1004_3, s1004_2]
  · intro i _ x r hx hn _ ih
    obtain ⟨f1, f2, f3⟩ := rangeFacts i all.length (by omega) (by omega)
    have hi : i < all.length := by omega
    have e1 := e46 (E := E) p q x
    rw [h x (List.mem_of_getElem? hx)] at e1
    have ih' := ih () trivial
    try dsimp only at ih' ⊢
    rw [← hK, loopW_some, hK]
    have hi0 : 0 + all.length ≤ all.length := by omega
    simp -implicitDefEqProofs only [go_sem, Nat.reduceEqDiff, Nat.reduceAdd, Nat.reduceLeDiff, Nat.reduceLT, reduceCtorEq, ↓reduceIte, Nat.reduceBEq, Int.reduceLT, Int.reduceLE, Int.reduceNeg, Int.reduceEq, Int.toNat_natCast, cast_lit, Int.reduceToNat, s1004_4, s1004_3, s1004_2, hx, f1, f2, f3, hi, Bal.pv, e1, hi0]
    exact ih'
theorem loop1004 (l : List Int) (hl : l.length ≤ 800) : ∀ (k a : Nat) (p q : Bal) (all : List Bal), all.length + k ≤ 50 → a ≤ l.length → (all = [] ∧ p = ⟨0, ByteArray.empty⟩ ∧ q = ⟨0, ByteArray.empty⟩ ∨ all ≠ [] ∧ JInv p q all) →
    ∃ (p' : Bal) (n' : Nat) (H' : Hp), (n' = 0 → zeroB p' = true) ∧ hget H' (.loc 2 0 0) = some (.box [.p (.int .i64 p'.c), .p (.str p'.v)]) ∧
    loopW E 0 [3, 4, 5, 6, 7] [.loc 1 1 0, .loc 1 1 1, .loc 1 1 2, .loc 1 1 3, .loc 2 0 0, .loc 2 1 0, .loc 3 0 0] (.trim [3, 4, 5, 6, 7] [2] [(0, [4, 6])] [.loc 1 1 0, .loc 1 1 1, .loc 1 1 2, .loc 1 1 3, .loc 2 0 0, .loc 2 1 0, .loc 3 0 0] s1004_7) (some ⟨[(3, .ptr (.loc 1 1 0) 0), (4, .ptr (.loc 2 0 0) 0), (5, .ptr (.loc 2 1 0) 0), (6, .hsl (.loc 3 0 0) 0 all.length), (7, .p (.int .i64 k))],
      [(.loc 1 1 0, some (.box [.p (.sl 1 (l.map (.int .i64))), .p (.int .i64 a)])), (.loc 1 1 1, none), (.loc 1 1 2, none), (.loc 1 1 3, none), (.loc 2 0 0, some (.box [.p (.int .i64 p.c), .p (.str p.v)])), (.loc 2 1 0, some (.box [.p (.int .i64 q.c), .p (.str q.v)])), (.loc 3 0 0, some (.parr (all.map Bal.pv) 2 false))]⟩) =
    some (.ex 0, ⟨[(4, .ptr (.loc 2 0 0) 0), (6, .hsl (.loc 3 0 0) 0 n')], H'⟩) := by
  generalize hK : loopW E 0 _ _ _ = K
  intro k
  induction k with
  | zero =>
    intro a p q all hk ha hI
    refine ⟨p, all.length, [(.loc 1 1 0, some (.box [.p (.sl 1 (l.map (.int .i64))), .p (.int .i64 a)])), (.loc 1 1 1, none), (.loc 1 1 2, none), (.loc 1 1 3, none), (.loc 2 0 0, some (.box [.p (.int .i64 p.c), .p (.str p.v)])), (.loc 2 1 0, some (.box [.p (.int .i64 q.c), .p (.str q.v)])), (.loc 3 0 0, some (.parr (all.map Bal.pv) 2 false))], ?_, ?_, ?_⟩
    · intro h0
      rcases hI with ⟨_, rfl, _⟩ | ⟨h1, _⟩
      · decide
      · exact absurd (List.length_eq_zero_iff.1 h0) h1
    · simp [hget]
    · rw [← hK, loopW_some, hK]
      simp -implicitDefEqProofs only [go_sem, Nat.reduceEqDiff, Nat.reduceAdd, Nat.reduceLeDiff, Nat.reduceLT, reduceCtorEq, ↓reduceIte, Nat.reduceBEq, Int.reduceLT, Int.reduceLE, Int.reduceNeg, Int.reduceEq, Int.toNat_natCast, cast_lit, Int.reduceToNat, s1004_7, s1004_6, s1004_1, s1004_5, Int.natCast_zero]
  | succ k ih =>
    intro a p q all hk ha hI
    have e1 := e39 (E := E) l a hl ha
    have b1 := dV_nonneg l a 6
    have l1 := dA_le l _ 4 (dA_le l a 6 ha)
    have hv := isVal_dV l (dA l a 6)
    generalize valN (dV l (dA l a 6) 4) = bv at *
    generalize dA l (dA l a 6) 4 = a1 at *
    generalize hbc : 1 + dV l a 6 = bc at *
    have hbz : zeroB ⟨bc, bv⟩ = false := by simp [zeroB]; omega
    have hbv : bv ≠ ByteArray.empty := by
      intro h; have := isVal_size hv; rw [h] at this; simp at this
    have e2 := e51 (E := E) p q ⟨bc, bv⟩
    have hJ : JInv (join p q ⟨bc, bv⟩).1 (join p q ⟨bc, bv⟩).2 (all ++ [⟨bc, bv⟩]) := by
      rcases hI with ⟨rfl, rfl, rfl⟩ | ⟨_, hJ⟩
      · rw [join_zero hbz (by decide)]
        refine ⟨hbz, .inl rfl, fun x hx => ?_⟩
        simp only [List.nil_append, List.mem_singleton] at hx
        subst hx
        simp [prepares, covers_self hbz]
      · have := join_inv hJ hbz hbv
        exact ⟨this.pz, this.qq, fun x hx => this.all x (by simp only [List.mem_append, List.mem_singleton] at hx; simp only [List.mem_cons]; exact hx.symm)⟩
    generalize join p q ⟨bc, bv⟩ = pq at *
    obtain ⟨p', q'⟩ := pq
    dsimp only at hJ e2
    obtain ⟨p2, n2, H2, r1, r2, r3⟩ := ih a1 p' q' (all ++ [⟨bc, bv⟩]) (by simp; omega) l1 (.inr ⟨by simp, hJ⟩)
    refine ⟨p2, n2, H2, r1, r2, ?_⟩
    have f1 : (0 : Int) < ((k + 1 : Nat) : Int) := by omega
    have f2 : IntKind.i64.wrap (((k + 1 : Nat) : Int) - 1) = (k : Int) := by rw [wrap64 (by omega) (by omega)]; omega
    have f3 : all.length + 1 ≤ most := by unfold most; omega
    have e3 := e45 (E := E) p'
    rw [hJ.pz] at e3
    have e4 := e45 (E := E) q'
    have e5 := e21 (E := E) q' p'
    have e6 := e128 (E := E) q' p'
    have lp := loop1004b (E := E) l a1 p' q' (all ++ [⟨bc, bv⟩]) hJ.all (by simp; omega) ((k + 1 : Nat) : Int)
    simp only [List.map_append, List.map_cons, List.map_nil, List.length_append, List.length_cons, List.length_nil, Nat.zero_add] at lp r3
    have hbp : Bal.pv ⟨bc, bv⟩ = .agg [.int .i64 bc, .str bv] := rfl
    rw [hbp] at lp r3
    rw [← hK, loopW_some, hK]
    rcases hJ.qq with hq | ⟨g1, g2, g3⟩
    · have : zeroB q' = true := by rw [hq]; decide
      rw [this] at e4
      simp -implicitDefEqProofs only [go_sem, Nat.reduceEqDiff, Nat.reduceAdd, Nat.reduceLeDiff, Nat.reduceLT, reduceCtorEq, ↓reduceIte, Nat.reduceBEq, Int.reduceLT, Int.reduceLE, Int.reduceNeg, Int.reduceEq, Int.toNat_natCast, cast_lit, Int.reduceToNat, s1004_7, s1004_6, s1004_1, s1004_5, f1, f2, f3, hbc, e1, e2, e3, e4, lp, Bal.pv]
      exact r3
    · rw [g1] at e4
      rw [g2] at e5
      simp -implicitDefEqProofs only [go_sem, Nat.reduceEqDiff, Nat.reduceAdd, Nat.reduceLeDiff, Nat.reduceLT, reduceCtorEq, ↓reduceIte, Nat.reduceBEq, Int.reduceLT, Int.reduceLE, Int.reduceNeg, Int.reduceEq, Int.toNat_natCast, cast_lit, Int.reduceToNat, s1004_7, s1004_6, s1004_1, s1004_5, f1, f2, f3, hbc, e1, e2, e3, e4, e5, e6, g3, lp, Bal.pv]
      exact r3
theorem law1004 (zs : List Int) : callW E 1004 [.p (.sl 1 (zs.map (.int .i64)))] [] = some ⟨.p (.bool true), [], []⟩ := by
  have e0 := e17 (E := E) zs
  have hl : (zs.take 800).length ≤ 800 := by simp; omega
  generalize zs.take 800 = l at *
  have f1 := e28 (E := E) l 0 8 hl (by omega) (by omega)
  have d1 := dV_nonneg l 0 8
  have d2 := dV_lt l 0 8 (by decide)
  have l1 := dA_le l 0 8 (by omega)
  simp only [cast_lit, Int.natCast_zero] at f1
  obtain ⟨k, hk⟩ : ∃ k : Nat, dV l 0 8 = k := ⟨(dV l 0 8).toNat, by omega⟩
  rw [hk] at f1
  obtain ⟨p', n', H', h1, h2, h3⟩ := loop1004 (E := E) l hl k (dA l 0 8) ⟨0, ByteArray.empty⟩ ⟨0, ByteArray.empty⟩ [] (by simp; omega) l1 (.inl ⟨rfl, rfl, rfl⟩)
  simp only [List.length_nil, List.map_nil] at h3
  have e1 := e45 (E := E) p'
  have e2 := e47 (E := E)
  rw [callW_eq, EnvS.h 1004 F1004 rfl]
  by_cases hn : n' = 0
  · rw [h1 hn] at e1
    subst hn
    simp -implicitDefEqProofs only [go_sem, Nat.reduceEqDiff, Nat.reduceAdd, Nat.reduceLeDiff, Nat.reduceLT, reduceCtorEq, ↓reduceIte, Nat.reduceBEq, Int.reduceLT, Int.reduceLE, Int.reduceNeg, Int.reduceEq, Int.toNat_natCast, cast_lit, Int.reduceToNat, F1004, s1004, s1004_8, e0, f1, h3, h2, e1, e2, Int.natCast_zero]
  · have hn' : (0 : Int) < (n' : Int) := by omega
    simp -implicitDefEqProofs only [go_sem, Nat.reduceEqDiff, Nat.reduceAdd, Nat.reduceLeDiff, Nat.reduceLT, reduceCtorEq, ↓reduceIte, Nat.reduceBEq, Int.reduceLT, Int.reduceLE, Int.reduceNeg, Int.reduceEq, Int.toNat_natCast, cast_lit, Int.reduceToNat, F1004, s1004, s1004_8, e0, f1, h3, h2, e2, hn']
end Go.Ab.S

set_option linter.unusedSimpArgs false
set_option linter.unusedVariables false
set_option linter.unusedSectionVars false
namespace Go.Ab.S
open Go Go.Ab
variable {E : Env} [EnvS E]

/-- The chapter's example. -/
def saneE : Evl := ⟨0, 1, 1, ⟨2, upto 3 0, []⟩, 1, ⟨3, ⟨#[97]⟩⟩, ⟨3, ⟨#[97]⟩⟩, Bal.zero, 2, 3⟩
theorem saneE_thin : saneE.t.thin := ⟨by decide, by decide, by simp [saneE]⟩
theorem e27 : callW E 27 [] [] = some ⟨.p (.bool true), [], []⟩ := by
  have h1 := e81 (E := E) saneE saneE_thin
  have h2 := e26 (E := E) saneE saneE_thin ⟨#[97]⟩ 2 3
  have h3 := e87 (E := E) saneE saneE_thin ⟨#[97]⟩ 2 3
  have h4 := e83 (E := E) saneE saneE_thin
  have v1 : validE saneE = true := by decide
  have v2 : votC saneE ⟨#[97]⟩ 2 3 = true := by decide
  have v3 : accC saneE ⟨#[97]⟩ 2 3 = false := by decide
  have v4 : countE saneE = 3 := by decide
  rw [v1] at h1 h2 h3 h4
  rw [v2] at h2
  rw [v3] at h3
  rw [v4] at h4
  have h0 := e36 (E := E) 3 2 (by decide)
  unfold Evl.pv at h1 h2 h3 h4
  unfold Tr.pv at h0
  simp only [saneE, Bal.zero, Bool.and_true, Bool.and_false, if_true, List.map_nil, cast_lit] at h0 h1 h2 h3 h4
  rw [callW_eq, EnvS.h 27 F27 rfl]
  simp -implicitDefEqProofs only [go_sem, Nat.reduceEqDiff, Nat.reduceAdd, Nat.reduceLeDiff, Nat.reduceLT, reduceCtorEq, ↓reduceIte, Nat.reduceBEq, Int.reduceLT, Int.reduceLE, Int.reduceNeg, Int.reduceEq, Int.toNat_natCast, cast_lit, Int.reduceToNat, F27, s27, h0, h1, h2, h3, h4]

theorem less_mono {lo k : Int} {v : ByteArray} {p : Bal} (h : lo ≤ k) (h2 : less ⟨k, v⟩ p = true) : less ⟨lo, v⟩ p = true := by
  rw [less_eq] at h2 ⊢
  dsimp only at h2 ⊢
  by_cases h3 : lo = k
  · subst h3; exact h2
  · split at h2
    · rw [if_neg (by omega)]; simp; omega
    · simp only [decide_eq_true_eq] at h2
      rw [if_neg (by omega)]; simp; omega
theorem aborts_mono {lo k : Int} {v : ByteArray} {p : Bal} (h : lo ≤ k) (h2 : aborts p ⟨lo, v⟩ = false) : aborts p ⟨k, v⟩ = false := by
  unfold aborts at h2 ⊢
  cases hz : zeroB p <;> simp [hz] at h2 ⊢
  intro hv
  have := h2 hv
  cases hl : less ⟨k, v⟩ p with
  | false => rfl
  | true => rw [less_mono h hl] at this; cases this

theorem law1003 (zs : List Int) (n : Int) (h0 : 0 ≤ n) (h1 : n ≤ 255) : callW E 1003 [.p (.sl 1 (zs.map (.int .i64))), .p (.int .u8 n)] [] = some ⟨.p (.bool true), [], []⟩ := by
  have e0 := e17 (E := E) zs
  have hl : (zs.take 800).length ≤ 800 := by simp; omega
  generalize zs.take 800 = l at *
  have f1 := e28 (E := E) l 0 5 hl (by omega) (by omega)
  have d1 := dV_nonneg l 0 5
  have d2 := dV_lt l 0 5 (by decide)
  have l1 := dA_le l 0 5 (by omega)
  obtain ⟨e, a', l2, hg, hn, hs, f2⟩ := e76 (E := E) l (dA l 0 5) (dV l 0 5) 1 5 hl l1 (by decide) (by decide) d1 (by omega) (by decide) (by decide)
  have f3 := e30 (E := E) l a' hl l2
  generalize hv : valN (dV l a' 4) = v at *
  have w0 : IntKind.i64.wrap n = n := wrap64 (by omega) (by omega)
  have t0 : 0 ≤ n.tmod 8 := Int.tmod_nonneg _ h0
  have t1 : n.tmod 8 < 8 := Int.tmod_lt_of_pos _ (by decide)
  have w1 : IntKind.i64.wrap (1 + n.tmod 8) = 1 + n.tmod 8 := wrap64 (by omega) (by omega)
  generalize hk : 1 + n.tmod 8 = k at *
  have f4 := e26 (E := E) e hg.t.thin v k k
  have f5 := e27 (E := E)
  have f6 := e90 (E := E) e.p ⟨k, v⟩
  have f7 := e90 (E := E) e.q ⟨k, v⟩
  simp only [cast_lit, Int.natCast_zero] at f1 f2
  dsimp only at f6 f7
  unfold Evl.pv at f2 f4
  rw [callW_eq, EnvS.h 1003 F1003 rfl]
  cases c1 : validE e && votC e v k k with
  | false =>
    rw [c1] at f4
    simp -implicitDefEqProofs only [go_sem, Nat.reduceEqDiff, Nat.reduceAdd, Nat.reduceLeDiff, Nat.reduceLT, reduceCtorEq, ↓reduceIte, Nat.reduceBEq, Int.reduceLT, Int.reduceLE, Int.reduceNeg, Int.reduceEq, Int.toNat_natCast, cast_lit, Int.reduceToNat, F1003, s1003, s1003_1, e0, f1, f2, f3, f4, f5, w0, w1, hk]
  | true =>
    rw [c1] at f4
    by_cases c2 : e.k = 1
    · have g : aborts e.p ⟨k, v⟩ = false ∧ aborts e.q ⟨k, v⟩ = false := by
        simp only [Bool.and_eq_true, validE, votC, fromE, c2, if_true, prepE, Bool.or_eq_true, decide_eq_true_eq, Bool.not_eq_true', decide_eq_false_iff_not] at c1
        obtain ⟨⟨_, _, _, q1⟩, ⟨⟨_, q2⟩, q3⟩, q4⟩ := c1
        rcases q4 with q4 | ⟨q4, q5⟩
        · exact absurd trivial q4
        · rcases q1 with q1 | ⟨q1, q6⟩
          · exact absurd q1 q4
          · rw [← q2]
            exact ⟨aborts_mono q3 q1, aborts_mono q3 q6⟩
      rw [g.1] at f6
      rw [g.2] at f7
      simp only [c2] at f2 f4
      simp -implicitDefEqProofs only [go_sem, Nat.reduceEqDiff, Nat.reduceAdd, Nat.reduceLeDiff, Nat.reduceLT, reduceCtorEq, ↓reduceIte, Nat.reduceBEq, Int.reduceLT, Int.reduceLE, Int.reduceNeg, Int.reduceEq, Int.toNat_natCast, cast_lit, Int.reduceToNat, F1003, s1003, s1003_1, e0, f1, f2, f3, f4, f5, f6, f7, w0, w1, hk, c2]
    · simp -implicitDefEqProofs only [go_sem, Nat.reduceEqDiff, Nat.reduceAdd, Nat.reduceLeDiff, Nat.reduceLT, reduceCtorEq, ↓reduceIte, Nat.reduceBEq, Int.reduceLT, Int.reduceLE, Int.reduceNeg, Int.reduceEq, Int.toNat_natCast, cast_lit, Int.reduceToNat, F1003, s1003, s1003_1, e0, f1, f2, f3, f4, f5, w0, w1, hk, c2]
end Go.Ab.S

set_option linter.unusedSimpArgs false
set_option linter.unusedVariables false
set_option linter.unusedSectionVars false
namespace Go.Ab.S
open Go Go.Ab
variable {E : Env} [EnvS E]

theorem accC_votC {e : Evl} {v : ByteArray} {lo hi : Int} (h : accC e v lo hi = true) : votC e v lo hi = true := by
  simp only [accC, votC, Bool.and_eq_true, Bool.or_eq_true, decide_eq_true_eq, Bool.not_eq_true', decide_eq_false_iff_not] at h ⊢
  refine ⟨h.1, .inl ?_⟩
  omega
theorem fromE_part {e : Evl} {v : ByteArray} {lo hi a : Int} (h : fromE e v lo hi = true) (h1 : lo ≤ a) (h2 : a ≤ hi) : fromE e v a hi = true := by
  simp only [fromE, Bool.and_eq_true, decide_eq_true_eq] at h ⊢
  exact ⟨⟨⟨by omega, h2⟩, h.1.2⟩, by omega⟩
theorem votC_part {e : Evl} {v : ByteArray} {lo hi a : Int} (h : votC e v lo hi = true) (h1 : lo ≤ a) (h2 : a ≤ hi) : votC e v a hi = true := by
  simp only [votC, Bool.and_eq_true] at h ⊢
  exact ⟨fromE_part h.1 h1 h2, h.2⟩
theorem accC_part {e : Evl} {v : ByteArray} {lo hi a : Int} (h : accC e v lo hi = true) (h1 : lo ≤ a) (h2 : a ≤ hi) : accC e v a hi = true := by
  simp only [accC, Bool.and_eq_true] at h ⊢
  exact ⟨fromE_part h.1 h1 h2, h.2⟩
theorem votC_one {e : Evl} {v w : ByteArray} {lo hi : Int} (h : votC e v lo hi = true) (h2 : votC e w lo hi = true) : v = w := by
  simp only [votC, fromE, Bool.and_eq_true, decide_eq_true_eq] at h h2
  rw [← h.1.1.2, h2.1.1.2]
theorem covers_trans {p x y : Bal} (h : covers p x = true) (h2 : covers x y = true) : covers p y = true := by
  simp only [covers, Bool.and_eq_true, decide_eq_true_eq] at h h2 ⊢
  exact ⟨⟨h.1.1, h.1.2.trans h2.1.2⟩, by omega⟩
theorem prepares_trans {p q x y : Bal} (h : prepares p q x = true) (h2 : covers x y = true) : prepares p q y = true := by
  simp only [prepares, Bool.or_eq_true, Bool.and_eq_true] at h ⊢
  rcases h with (h | h) | h
  · exact .inl (.inl (covers_trans h h2))
  · exact .inl (.inr (covers_trans h h2))
  · refine .inr ⟨h.1, ?_⟩
    simp only [covers, Bool.and_eq_true, decide_eq_true_eq] at h2
    obtain ⟨xc, xv⟩ := x
    obtain ⟨yc, yv⟩ := y
    dsimp only at h2
    have := h2.1.2
    subst this
    exact less_mono h2.2 h.2
theorem nonzero {b : Bal} (h : 1 ≤ b.c) : zeroB b = false := by simp [zeroB]; omega
theorem accP_trans {e : Evl} {x y : Bal} (hy : zeroB y = false) (h : accP e x = true) (h2 : covers x y = true) : accP e y = true := by
  have hx : zeroB x = false := by
    simp only [covers, Bool.and_eq_true, Bool.not_eq_true'] at h2
    exact h2.1.1
  simp only [accP, hx, hy, Bool.false_eq_true, if_false] at h ⊢
  split at h
  · rename_i hk; rw [if_pos hk]; exact prepares_trans h h2
  · rename_i hk
    rw [if_neg hk]
    split at h
    · rename_i hk2; rw [if_pos hk2]; exact covers_trans h h2
    · rename_i hk2; rw [if_neg hk2]
      simp only [covers, Bool.and_eq_true, decide_eq_true_eq] at h h2 ⊢
      exact h.trans h2.1.2
theorem votP_trans {e : Evl} {x y : Bal} (hy : zeroB y = false) (h : votP e x = true) (h2 : covers x y = true) : votP e y = true := by
  have hx : zeroB x = false := by
    simp only [covers, Bool.and_eq_true, Bool.not_eq_true'] at h2
    exact h2.1.1
  simp only [votP, hx, hy, Bool.false_eq_true, if_false] at h ⊢
  split at h
  · rename_i hk; rw [if_pos hk]; exact covers_trans h h2
  · rename_i hk; rw [if_neg hk]
    simp only [covers, Bool.and_eq_true, decide_eq_true_eq] at h h2 ⊢
    exact h.trans h2.1.2

set_option maxHeartbeats 1000000 in
theorem law1005 (zs : List Int) : callW E 1005 [.p (.sl 1 (zs.map (.int .i64)))] [] = some ⟨.p (.bool true), [], []⟩ := by
  have e0 := e17 (E := E) zs
  have hl : (zs.take 800).length ≤ 800 := by simp; omega
  generalize zs.take 800 = l at *
  have f1 := e28 (E := E) l 0 5 hl (by omega) (by omega)
  have d1 := dV_nonneg l 0 5
  have d2 := dV_lt l 0 5 (by decide)
  have l1 := dA_le l 0 5 (by omega)
  obtain ⟨e, a1, l2, hg, hn, hs, f2⟩ := e76 (E := E) l (dA l 0 5) (dV l 0 5) 1 5 hl l1 (by decide) (by decide) d1 (by omega) (by decide) (by decide)
  simp only [cast_lit, Int.natCast_zero] at f1 f2
  have f3 := e31 (E := E) l a1 1 6 hl l2 (by omega) (by omega) (by omega) (by omega)
  simp only [show (6 : Int) - 1 + 1 = 6 from rfl] at f3
  have b1 := dV_nonneg l a1 6
  have b2 := dV_lt l a1 6 (by decide)
  have l3 := dA_le l a1 6 l2
  generalize dA l a1 6 = a2 at *
  generalize hlo : 1 + dV l a1 6 = lo at *
  have f4 := e28 (E := E) l a2 4 hl l3 (by omega)
  have b3 := dV_nonneg l a2 4
  have b4 := dV_lt l a2 4 (by decide)
  have l4 := dA_le l a2 4 l3
  generalize dA l a2 4 = a3 at *
  have w1 : IntKind.i64.wrap (lo + dV l a2 4) = lo + dV l a2 4 := wrap64 (by omega) (by omega)
  generalize hhi : lo + dV l a2 4 = hi at *
  have f5 := e31 (E := E) l a3 lo hi hl l4 (by omega) (by omega) (by omega) (by omega)
  have b5 := dV_nonneg l a3 (hi - lo + 1)
  have b6 := dV_lt l a3 (hi - lo + 1) (by omega)
  have l5 := dA_le l a3 (hi - lo + 1) l4
  generalize dA l a3 (hi - lo + 1) = a4 at *
  generalize hm : lo + dV l a3 (hi - lo + 1) = m at *
  have f6 := e30 (E := E) l a4 hl l5
  have l6 := dA_le l a4 4 l5
  generalize dA l a4 4 = a5 at *
  generalize valN (dV l a4 4) = v at *
  have f7 := e30 (E := E) l a5 hl l6
  have l7 := dA_le l a5 4 l6
  generalize dA l a5 4 = a6 at *
  generalize valN (dV l a5 4) = w at *
  have f8 := e39 (E := E) l a6 hl l7
  have b7 := dV_nonneg l a6 6
  have l8 := dA_le l _ 4 (dA_le l a6 6 l7)
  generalize valN (dV l (dA l a6 6) 4) = xv at *
  generalize dA l (dA l a6 6) 4 = a7 at *
  generalize hxc : 1 + dV l a6 6 = xc at *
  have f9 := e39 (E := E) l a7 hl l8
  have b8 := dV_nonneg l a7 6
  generalize valN (dV l (dA l a7 6) 4) = yv at *
  generalize dA l (dA l a7 6) 4 = a8 at *
  generalize hyc : 1 + dV l a7 6 = yc at *
  have hzy : zeroB ⟨yc, yv⟩ = false := nonzero (by show 1 ≤ yc; omega)
  have g0 := e81 (E := E) e hg.t.thin
  have g1 := e87 (E := E) e hg.t.thin v lo hi
  have g2 := e26 (E := E) e hg.t.thin v lo hi
  have g3 := e26 (E := E) e hg.t.thin v m hi
  have g4 := e87 (E := E) e hg.t.thin v m hi
  have g5 := e26 (E := E) e hg.t.thin w lo hi
  have g6 := e23 (E := E) e hg.t.thin ⟨xc, xv⟩
  have g7 := e23 (E := E) e hg.t.thin ⟨yc, yv⟩
  have g8 := e22 (E := E) e hg.t.thin ⟨xc, xv⟩
  have g9 := e22 (E := E) e hg.t.thin ⟨yc, yv⟩
  have ga := e134 (E := E) ⟨xc, xv⟩ ⟨yc, yv⟩
  have gb := e27 (E := E)
  simp only [hg.valid, Bool.true_and] at g0 g1 g2 g3 g4 g5 g6 g7 g8 g9
  dsimp only at g6 g7 g8 g9 ga
  unfold Evl.pv at f2 g0 g1 g2 g3 g4 g5 g6 g7 g8 g9
  have i1 : accC e v lo hi = true → votC e v lo hi = true := accC_votC
  have i2 : votC e v lo hi = true → votC e v m hi = true := fun h => votC_part h (by omega) (by omega)
  have i3 : accC e v lo hi = true → accC e v m hi = true := fun h => accC_part h (by omega) (by omega)
  have i4 : ¬ v = w → votC e v lo hi = true → votC e w lo hi = false := fun h h2 => by
    cases h3 : votC e w lo hi with
    | false => rfl
    | true => exact absurd (votC_one h2 h3) h
  have i5 : accP e ⟨xc, xv⟩ = true → covers ⟨xc, xv⟩ ⟨yc, yv⟩ = true → accP e ⟨yc, yv⟩ = true := accP_trans hzy
  have i6 : votP e ⟨xc, xv⟩ = true → covers ⟨xc, xv⟩ ⟨yc, yv⟩ = true → votP e ⟨yc, yv⟩ = true := votP_trans hzy
  have hT : ∀ T H, tget T 4 = .ptr (.loc 2 4 0) 0 → tget T 11 = .ptr (.loc 9 4 0) 0 → tget T 12 = .ptr (.loc 9 5 0) 0 → hget H (.loc 2 4 0) = some (.box e.av) → hget H (.loc 9 4 0) = some (.box [.p (.int .i64 xc), .p (.str xv)]) → hget H (.loc 9 5 0) = some (.box [.p (.int .i64 yc), .p (.str yv)]) →
      endX F1005 0 (sexW E 0 (.seq (.reg 14 [{ dst := some 101, op := .load true 15 (.t 4) }, { dst := some 102, op := .load true 2 (.t 11) }, { dst := some 103, op := .call (.f 23) [.t 101, .t 102] }, { dst := some 104, op := .un .not (.t 103) }, { dst := some 105, op := .mv (.t 104) }, { dst := some 106, op := .load true 2 (.t 11), guard := some (105, false) }, { dst := some 107, op := .load true 2 (.t 12), guard := some (105, false) }, { dst := some 108, op := .call (.f 134) [.t 106, .t 107], guard := some (105, false) }, { dst := some 109, op := .un .not (.t 108), guard := some (105, false) }, { dst := some 110, op := .pick (.t 105) (.c (.bool true)) (.t 109) }, { dst := some 111, op := .mv (.t 110) }, { dst := some 112, op := .load true 15 (.t 4), guard := some (111, false) }, { dst := some 113, op := .load true 2 (.t 12), guard := some (111, false) }, { dst := some 114, op := .call (.f 23) [.t 112, .t 113], guard := some (111, false) }, { dst := some 115, op := .pick (.t 111) (.c (.bool true)) (.t 114) }, { dst := some 116, op := .mv (.t 115) }, { dst := some 117, op := .load true 15 (.t 4), guard := some (116, true) }, { dst := some 118, op := .load true 2 (.t 11), guard := some (116, true) }, { dst := some 119, op := .call (.f 22) [.t 117, .t 118], guard := some (116, true) }, { dst := some 120, op := .un .not (.t 119), guard := some (116, true) }, { dst := some 121, op := .mv (.t 120), guard := some (116, true) }, { dst := some 122, op := .load true 2 (.t 11), guard := some (121, false) }, { dst := some 123, op := .load true 2 (.t 12), guard := some (121, false) }, { dst := some 124, op := .call (.f 134) [.t 122, .t 123], guard := some (121, false) }, { dst := some 125, op := .un .not (.t 124), guard := some (121, false) }, { dst := some 126, op := .pick (.t 121) (.c (.bool true)) (.t 125), guard := some (116, true) }, { dst := some 127, op := .mv (.t 126), guard := some (116, true) }, { dst := some 128, op := .load true 15 (.t 4), guard := some (127, false) }, { dst := some 129, op := .load true 2 (.t 12), guard := some (127, false) }, { dst := some 130, op := .call (.f 22) [.t 128, .t 129], guard := some (127, false) }, { dst := some 131, op := .pick (.t 127) (.c (.bool true)) (.t 130), guard := some (116, true) }, { dst := some 132, op := .pick (.t 116) (.t 131) (.c (.bool false)) }, { dst := some 133, op := .mv (.t 132) }, { dst := some 134, op := .call (.f 27) [], guard := some (133, true) }, { dst := some 135, op := .pick (.t 133) (.t 134) (.c (.bool false)) }, { dst := some 2, op := .mv (.t 135) }]) .ret) ⟨T, H⟩) = some ⟨.p (.bool true), [], []⟩ := by
    intro T H t4 t11 t12 h1 h2 h3
    unfold Evl.av at h1
    clear e0 f1 f2 f3 f4 f5 f6 f7 f8 f9 g0 g1 g2 g3 g4 g5 i1 i2 i3 i4
    cases P1 : accP e ⟨xc, xv⟩ with
    | false =>
      rw [P1] at g6
      cases P3 : votP e ⟨xc, xv⟩ with
      | false => rw [P3] at g8; simp -implicitDefEqProofs only [go_sem, Nat.reduceEqDiff, Nat.reduceAdd, Nat.reduceLeDiff, Nat.reduceLT, reduceCtorEq, ↓reduceIte, Nat.reduceBEq, Int.reduceLT, Int.reduceLE, Int.reduceNeg, Int.reduceEq, Int.toNat_natCast, cast_lit, Int.reduceToNat, F1005, t4, t11, t12, h1, h2, h3, g6, g8, gb]
      | true =>
        rw [P3] at g8
        cases CC : covers ⟨xc, xv⟩ ⟨yc, yv⟩ with
        | false => rw [CC] at ga; simp -implicitDefEqProofs only [go_sem, Nat.reduceEqDiff, Nat.reduceAdd, Nat.reduceLeDiff, Nat.reduceLT, reduceCtorEq, ↓reduceIte, Nat.reduceBEq, Int.reduceLT, Int.reduceLE, Int.reduceNeg, Int.reduceEq, Int.toNat_natCast, cast_lit, Int.reduceToNat, F1005, t4, t11, t12, h1, h2, h3, g6, g8, ga, gb]
        | true => rw [CC] at ga; rw [i6 P3 CC] at g9; simp -implicitDefEqProofs only [go_sem, Nat.reduceEqDiff, Nat.reduceAdd, Nat.reduceLeDiff, Nat.reduceLT, reduceCtorEq, ↓reduceIte, Nat.reduceBEq, Int.reduceLT, Int.reduceLE, Int.reduceNeg, Int.reduceEq, Int.toNat_natCast, cast_lit, Int.reduceToNat, F1005, t4, t11, t12, h1, h2, h3, g6, g8, g9, ga, gb]
    | true =>
      rw [P1] at g6
      cases CC : covers ⟨xc, xv⟩ ⟨yc, yv⟩ with
      | false =>
        rw [CC] at ga
        cases P3 : votP e ⟨xc, xv⟩ with
        | false => rw [P3] at g8; simp -implicitDefEqProofs only [go_sem, Nat.reduceEqDiff, Nat.reduceAdd, Nat.reduceLeDiff, Nat.reduceLT, reduceCtorEq, ↓reduceIte, Nat.reduceBEq, Int.reduceLT, Int.reduceLE, Int.reduceNeg, Int.reduceEq, Int.toNat_natCast, cast_lit, Int.reduceToNat, F1005, t4, t11, t12, h1, h2, h3, g6, g8, ga, gb]
        | true => rw [P3] at g8; simp -implicitDefEqProofs only [go_sem, Nat.reduceEqDiff, Nat.reduceAdd, Nat.reduceLeDiff, Nat.reduceLT, reduceCtorEq, ↓reduceIte, Nat.reduceBEq, Int.reduceLT, Int.reduceLE, Int.reduceNeg, Int.reduceEq, Int.toNat_natCast, cast_lit, Int.reduceToNat, F1005, t4, t11, t12, h1, h2, h3, g6, g8, ga, gb]
      | true =>
        rw [CC] at ga
        rw [i5 P1 CC] at g7
        cases P3 : votP e ⟨xc, xv⟩ with
        | false => rw [P3] at g8; simp -implicitDefEqProofs only [go_sem, Nat.reduceEqDiff, Nat.reduceAdd, Nat.reduceLeDiff, Nat.reduceLT, reduceCtorEq, ↓reduceIte, Nat.reduceBEq, Int.reduceLT, Int.reduceLE, Int.reduceNeg, Int.reduceEq, Int.toNat_natCast, cast_lit, Int.reduceToNat, F1005, t4, t11, t12, h1, h2, h3, g6, g7, g8, ga, gb]
        | true => rw [P3] at g8; rw [i6 P3 CC] at g9; simp -implicitDefEqProofs only [go_sem, Nat.reduceEqDiff, Nat.reduceAdd, Nat.reduceLeDiff, Nat.reduceLT, reduceCtorEq, ↓reduceIte, Nat.reduceBEq, Int.reduceLT, Int.reduceLE, Int.reduceNeg, Int.reduceEq, Int.toNat_natCast, cast_lit, Int.reduceToNat, F1005, t4, t11, t12, h1, h2, h3, g6, g7, g8, g9, ga, gb]
  unfold Evl.av at hT
  rw [callW_eq, EnvS.h 1005 F1005 rfl]
  simp only [F1005, s1005] at hT ⊢
  generalize ht : ((.seq (.reg 14 [{ dst := some 101, op := .load true 15 (.t 4) }, { dst := some 102, op := .load true 2 (.t 11) }, { dst := some 103, op := .call (.f 23) [.t 101, .t 102] }, { dst := some 104, op := .un .not (.t 103) }, { dst := some 105, op := .mv (.t 104) }, { dst := some 106, op := .load true 2 (.t 11), guard := some (105, false) }, { dst := some 107, op := .load true 2 (.t 12), guard := some (105, false) }, { dst := some 108, op := .call (.f 134) [.t 106, .t 107], guard := some (105, false) }, { dst := some 109, op := .un .not (.t 108), guard := some (105, false) }, { dst := some 110, op := .pick (.t 105) (.c (.bool true)) (.t 109) }, { dst := some 111, op := .mv (.t 110) }, { dst := some 112, op := .load true 15 (.t 4), guard := some (111, false) }, { dst := some 113, op := .load true 2 (.t 12), guard := some (111, false) }, { dst := some 114, op := .call (.f 23) [.t 112, .t 113], guard := some (111, false) }, { dst := some 115, op := .pick (.t 111) (.c (.bool true)) (.t 114) }, { dst := some 116, op := .mv (.t 115) }, { dst := some 117, op := .load true 15 (.t 4), guard := some (116, true) }, { dst := some 118, op := .load true 2 (.t 11), guard := some (116, true) }, { dst := some 119, op := .call (.f 22) [.t 117, .t 118], guard := some (116, true) }, { dst := some 120, op := .un .not (.t 119), guard := some (116, true) }, { dst := some 121, op := .mv (.t 120), guard := some (116, true) }, { dst := some 122, op := .load true 2 (.t 11), guard := some (121, false) }, { dst := some 123, op := .load true 2 (.t 12), guard := some (121, false) }, { dst := some 124, op := .call (.f 134) [.t 122, .t 123], guard := some (121, false) }, { dst := some 125, op := .un .not (.t 124), guard := some (121, false) }, { dst := some 126, op := .pick (.t 121) (.c (.bool true)) (.t 125), guard := some (116, true) }, { dst := some 127, op := .mv (.t 126), guard := some (116, true) }, { dst := some 128, op := .load true 15 (.t 4), guard := some (127, false) }, { dst := some 129, op := .load true 2 (.t 12), guard := some (127, false) }, { dst := some 130, op := .call (.f 22) [.t 128, .t 129], guard := some (127, false) }, { dst := some 131, op := .pick (.t 127) (.c (.bool true)) (.t 130), guard := some (116, true) }, { dst := some 132, op := .pick (.t 116) (.t 131) (.c (.bool false)) }, { dst := some 133, op := .mv (.t 132) }, { dst := some 134, op := .call (.f 27) [], guard := some (133, true) }, { dst := some 135, op := .pick (.t 133) (.t 134) (.c (.bool false)) }, { dst := some 2, op := .mv (.t 135) }]) .ret) : SCode) = tl at hT ⊢
  clear g6 g7 g8 g9 ga gb i5 i6
  cases A1 : accC e v lo hi with
  | true =>
    rw [A1] at g1
    rw [i1 A1] at g2
    rw [i2 (i1 A1)] at g3
    rw [i3 A1] at g4
    by_cases hvw : v = w
    · subst hvw
      simp -implicitDefEqProofs only [go_sem, Nat.reduceEqDiff, Nat.reduceAdd, Nat.reduceLeDiff, Nat.reduceLT, reduceCtorEq, ↓reduceIte, Nat.reduceBEq, Int.reduceLT, Int.reduceLE, Int.reduceNeg, Int.reduceEq, Int.toNat_natCast, cast_lit, Int.reduceToNat, s1005_1, s1005_2, s1005_3, hlo, hhi, hm, hxc, hyc, e0, f1, f2, f3, f4, f5, f6, f7, f8, f9, w1, g0, g1, g2, g3, g4, g5]
      exact hT _ _ rfl rfl rfl rfl rfl rfl
    · rw [i4 hvw (i1 A1)] at g5
      simp -implicitDefEqProofs only [go_sem, Nat.reduceEqDiff, Nat.reduceAdd, Nat.reduceLeDiff, Nat.reduceLT, reduceCtorEq, ↓reduceIte, Nat.reduceBEq, Int.reduceLT, Int.reduceLE, Int.reduceNeg, Int.reduceEq, Int.toNat_natCast, cast_lit, Int.reduceToNat, s1005_1, s1005_2, s1005_3, hvw, hlo, hhi, hm, hxc, hyc, e0, f1, f2, f3, f4, f5, f6, f7, f8, f9, w1, g0, g1, g2, g3, g4, g5]
      exact hT _ _ rfl rfl rfl rfl rfl rfl
  | false =>
    rw [A1] at g1
    cases V1 : votC e v lo hi with
    | false =>
      rw [V1] at g2
      by_cases hvw : v = w
      · subst hvw
        simp -implicitDefEqProofs only [go_sem, Nat.reduceEqDiff, Nat.reduceAdd, Nat.reduceLeDiff, Nat.reduceLT, reduceCtorEq, ↓reduceIte, Nat.reduceBEq, Int.reduceLT, Int.reduceLE, Int.reduceNeg, Int.reduceEq, Int.toNat_natCast, cast_lit, Int.reduceToNat, s1005_1, s1005_2, s1005_3, hlo, hhi, hm, hxc, hyc, e0, f1, f2, f3, f4, f5, f6, f7, f8, f9, w1, g0, g1, g2, g3, g4]
        exact hT _ _ rfl rfl rfl rfl rfl rfl
      · simp -implicitDefEqProofs only [go_sem, Nat.reduceEqDiff, Nat.reduceAdd, Nat.reduceLeDiff, Nat.reduceLT, reduceCtorEq, ↓reduceIte, Nat.reduceBEq, Int.reduceLT, Int.reduceLE, Int.reduceNeg, Int.reduceEq, Int.toNat_natCast, cast_lit, Int.reduceToNat, s1005_1, s1005_2, s1005_3, hvw, hlo, hhi, hm, hxc, hyc, e0, f1, f2, f3, f4, f5, f6, f7, f8, f9, w1, g0, g1, g2, g3, g4]
        exact hT _ _ rfl rfl rfl rfl rfl rfl
    | true =>
      rw [V1] at g2
      rw [i2 V1] at g3
      by_cases hvw : v = w
      · subst hvw
        simp -implicitDefEqProofs only [go_sem, Nat.reduceEqDiff, Nat.reduceAdd, Nat.reduceLeDiff, Nat.reduceLT, reduceCtorEq, ↓reduceIte, Nat.reduceBEq, Int.reduceLT, Int.reduceLE, Int.reduceNeg, Int.reduceEq, Int.toNat_natCast, cast_lit, Int.reduceToNat, s1005_1, s1005_2, s1005_3, hlo, hhi, hm, hxc, hyc, e0, f1, f2, f3, f4, f5, f6, f7, f8, f9, w1, g0, g1, g2, g3, g4]
        exact hT _ _ rfl rfl rfl rfl rfl rfl
      · rw [i4 hvw V1] at g5
        simp -implicitDefEqProofs only [go_sem, Nat.reduceEqDiff, Nat.reduceAdd, Nat.reduceLeDiff, Nat.reduceLT, reduceCtorEq, ↓reduceIte, Nat.reduceBEq, Int.reduceLT, Int.reduceLE, Int.reduceNeg, Int.reduceEq, Int.toNat_natCast, cast_lit, Int.reduceToNat, s1005_1, s1005_2, s1005_3, hvw, hlo, hhi, hm, hxc, hyc, e0, f1, f2, f3, f4, f5, f6, f7, f8, f9, w1, g0, g1, g2, g3, g4, g5]
        exact hT _ _ rfl rfl rfl rfl rfl rfl
end Go.Ab.S
