/- A part of the proof: an executor over plain data, shown sound for the model, and what it computes of the functions. -/
import Derived.Test.YtmnjnpgmenigiaaBbac7b15283
set_option linter.all false
set_option linter.unusedSimpArgs false
set_option linter.unusedVariables false
set_option linter.unusedSectionVars false
namespace Go.Ab.S
open Go Go.Ab
variable {E : Env} [EnvS E]

/-- Envelopes with which some nodes accept a ballot. -/
structure Acc5 (set : Nat) (b : Bal) (i : Nat) (l : List Evl) : Prop where
  thin : ∀ e ∈ l, e.t.thin
  len : l.length ≤ i + 1
  inn : ∀ j, 1 ≤ j → j < i → set.testBit j = true → ∃ e ∈ l, validE e = true ∧ accP e b = true ∧ e.node = (j : Int)
  out : ∀ e ∈ l, accP e b = true → ∃ j : Nat, set.testBit j = true ∧ e.node = (j : Int)
def accE (i : Nat) (t : Tr) (b : Bal) : Evl := ⟨i, 1, 1, t, 1, b, b, Bal.zero, 0, 0⟩
theorem accE_valid {i : Nat} {t : Tr} {b : Bal} (hi : i < 10) (ht : errT t = 0) (hb : finite b = true) : validE (accE i t b) = true := by
  have h := hb
  simp only [finite, Bool.and_eq_true, decide_eq_true_eq] at h
  obtain ⟨h1, h2⟩ := h
  have h3 : 1 ≤ b.c := by
    simp only [validB, Bool.and_eq_true, Bool.or_eq_true, decide_eq_true_eq] at h1; omega
  have hz : zeroB Bal.zero = true := by decide
  simp [accE, validE, headE, ht, prepE, hb, optional, h1, hz, primeE]
  exact ⟨decide_eq_true (by show (i : Int) < 10; omega), decide_eq_true (by show (0 : Int) ≤ b.c; omega)⟩
theorem accE_acc {i : Nat} {t : Tr} {b : Bal} (hb : zeroB b = false) : accP (accE i t b) b = true := by
  simp [accE, accP, hb, prepares, covers_self hb]
theorem Acc5.step {set : Nat} {b : Bal} {i : Nat} {l : List Evl} (h : Acc5 set b i l) {t : Tr} (ht : t.thin) (hok : errT t = 0) (hb : finite b = true) (hz : zeroB b = false) (hi : i < 10) (hs : set.testBit i = true) : Acc5 set b (i + 1) (l ++ [accE i t b]) where
  thin := by
    intro e he
    rcases List.mem_append.1 he with he | he
    · exact h.thin e he
    · rw [List.mem_singleton.1 he]; exact ht
  len := by have := h.len; simp; omega
  inn := by
    intro j h1 h2 h3
    rcases Nat.lt_or_eq_of_le (Nat.le_of_lt_succ h2) with h4 | h4
    · obtain ⟨e, g1, g2⟩ := h.inn j h1 h4 h3
      exact ⟨e, List.mem_append_left _ g1, g2⟩
    · subst h4
      exact ⟨_, List.mem_append_right _ (List.mem_singleton.2 rfl), accE_valid hi hok hb, accE_acc hz, rfl⟩
  out := by
    intro e he ha
    rcases List.mem_append.1 he with he | he
    · exact h.out e he ha
    · rw [List.mem_singleton.1 he]; exact ⟨i, hs, rfl⟩
theorem Acc5.skip {set : Nat} {b : Bal} {i : Nat} {l : List Evl} (h : Acc5 set b i l) (hs : set.testBit i = false) : Acc5 set b (i + 1) l where
  thin := h.thin
  len := by have := h.len; omega
  inn := by
    intro j h1 h2 h3
    refine h.inn j h1 ?_ h3
    rcases Nat.lt_or_eq_of_le (Nat.le_of_lt_succ h2) with h4 | h4
    · exact h4
    · subst h4; rw [hs] at h3; cases h3
  out := h.out
theorem Acc5.who {set : Nat} {b : Bal} {l : List Evl} (h : Acc5 set b 5 l) (h0 : set.testBit 0 = false) (h5 : set < 32) : who (accP · b) (l.filter validE) = set := by
  refine Nat.eq_of_testBit_eq fun k => ?_
  rw [who_bit _ _ _ (valid_nodes l)]
  cases hk : set.testBit k with
  | true =>
    rw [List.any_eq_true]
    have h1 : 1 ≤ k := by
      rcases Nat.eq_zero_or_pos k with rfl | h1
      · rw [h0] at hk; cases hk
      · exact h1
    have h2 : k < 5 := by
      rcases Nat.lt_or_ge k 5 with h2 | h2
      · exact h2
      · have := Nat.testBit_lt_two_pow (Nat.lt_of_lt_of_le h5 (Nat.pow_le_pow_right (n := 2) (by decide) h2))
        rw [this] at hk; cases hk
    obtain ⟨e, g1, g2, g3, g4⟩ := h.inn k h1 h2 hk
    exact ⟨e, List.mem_filter.2 ⟨g1, g2⟩, by simp [g3, g4]⟩
  | false =>
    rw [List.any_eq_false]
    intro e he
    obtain ⟨g1, g2⟩ := List.mem_filter.1 he
    simp only [Bool.and_eq_true, decide_eq_true_eq, not_and]
    intro ha hn
    obtain ⟨j, q1, q2⟩ := h.out e g1 ha
    have : j = k := by omega
    subst this
    rw [hk] at q1; cases q1
theorem loop1007 (l : List Int) (hl : l.length ≤ 800) (tr : Tr) (bc : Int) (bv : ByteArray) (hb : finite ⟨bc, bv⟩ = true) (hz : zeroB ⟨bc, bv⟩ = false) (set : Nat) (hs : set < 32) :
    ∀ (k i a : Nat) (es : List Evl), i + k = 5 → a ≤ l.length → Acc5 set ⟨bc, bv⟩ i es →
    ∃ (es' : List Evl) (a' : Nat), a' ≤ l.length ∧ Acc5 set ⟨bc, bv⟩ 5 es' ∧
    loopW E 0 [3, 4, 5, 6, 7, 8] [.loc 1 1 0, .loc 1 1 1, .loc 1 1 2, .loc 1 1 3, .loc 2 4 0, .loc 2 5 0, .loc 4 0 0] (.trim [3, 4, 5, 6, 7, 8] [2] [(0, [4, 5, 6, 7])] [.loc 1 1 0, .loc 1 1 1, .loc 1 1 2, .loc 1 1 3, .loc 2 4 0, .loc 2 5 0, .loc 4 0 0] s1007_4) (some ⟨[(3, .ptr (.loc 1 1 0) 0), (4, .ptr (.loc 2 4 0) 0), (5, .ptr (.loc 2 5 0) 0), (6, .p (.int .i64 set)), (7, .hsl (.loc 4 0 0) 0 es.length), (8, .p (.int .i64 i))],
      [(.loc 1 1 0, some (.box [.p (.sl 1 (l.map (.int .i64))), .p (.int .i64 a)])), (.loc 1 1 1, none), (.loc 1 1 2, none), (.loc 1 1 3, none), (.loc 2 4 0, some (.box [.p (.int .i64 tr.th), .p (.sl 1 (tr.ns.map (.int .i64))), .p (.sl 3 (tr.is.map In.pv))])), (.loc 2 5 0, some (.box [.p (.int .i64 bc), .p (.str bv)])), (.loc 4 0 0, some (.parr (es.map Evl.pv) 15 false))]⟩) =
    some (.ex 0, ⟨[(4, .ptr (.loc 2 4 0) 0), (5, .ptr (.loc 2 5 0) 0), (6, .p (.int .i64 set)), (7, .hsl (.loc 4 0 0) 0 es'.length)],
      [(.loc 1 1 0, some (.box [.p (.sl 1 (l.map (.int .i64))), .p (.int .i64 a')])), (.loc 1 1 1, none), (.loc 1 1 2, none), (.loc 1 1 3, none), (.loc 2 4 0, some (.box [.p (.int .i64 tr.th), .p (.sl 1 (tr.ns.map (.int .i64))), .p (.sl 3 (tr.is.map In.pv))])), (.loc 2 5 0, some (.box [.p (.int .i64 bc), .p (.str bv)])), (.loc 4 0 0, some (.parr (es'.map Evl.pv) 15 false))]⟩) := by
  generalize hK : loopW E 0 _ _ _ = K
  intro k
  induction k with
  | zero =>
    intro i a es hi ha hI
    have : i = 5 := by omega
    subst this
    refine ⟨es, a, ha, hI, ?_⟩
    rw [← hK, loopW_some, hK]
    simp -implicitDefEqProofs only [go_sem, Nat.reduceEqDiff, Nat.reduceAdd, Nat.reduceLeDiff, Nat.reduceLT, reduceCtorEq, ↓reduceIte, Nat.reduceBEq, Int.reduceLT, Int.reduceLE, Int.reduceNeg, Int.reduceEq, Int.toNat_natCast, cast_lit, Int.reduceToNat, s1007_4, s1007_3, s1007_2]
  | succ k ih =>
    intro i a es hi ha hI
    have f4 : ¬ (i : Int) < 0 := by omega
    have f1 : (i : Int) < 5 := by omega
    have f3 : IntKind.i64.wrap ((i : Int) + 1) = ((i + 1 : Nat) : Int) := wrap64 (by omega) (by omega)
    have w0 := u64N i (by omega)
    have w1 := shrB set i (by omega) (by omega)
    have w2 := bitB set i (by omega)
    cases hbit : set.testBit i with
    | true =>
      rw [hbit] at w2
      have e1 := e29 (E := E) l a 5 hl ha (by omega) (by omega)
      have tg := trG_ok l a 5 (by omega) (by omega)
      have l1 := trG_le l a 5 ha
      generalize trG l a 5 = tt at *
      obtain ⟨t, a1⟩ := tt
      dsimp only at e1 tg l1
      obtain ⟨es', a', r1, r2, r3⟩ := ih (i + 1) a1 (es ++ [accE i t ⟨bc, bv⟩]) (by omega) l1 (hI.step tg.thin tg.ok hb hz (by omega) hbit)
      refine ⟨es', a', r1, r2, ?_⟩
      have hm : es.length + 1 ≤ most := by have := hI.len; unfold most; omega
      simp only [List.map_append, List.map_cons, List.map_nil, List.length_append, List.length_cons, List.length_nil, Nat.zero_add, accE, Evl.pv, Bal.zero] at r3
      unfold Tr.pv at e1
      simp only [cast_lit] at e1
      rw [← hK, loopW_some, hK]
      simp -implicitDefEqProofs only [go_sem, Nat.reduceEqDiff, Nat.reduceAdd, Nat.reduceLeDiff, Nat.reduceLT, reduceCtorEq, ↓reduceIte, Nat.reduceBEq, Int.reduceLT, Int.reduceLE, Int.reduceNeg, Int.reduceEq, Int.toNat_natCast, cast_lit, Int.reduceToNat, s1007_4, s1007_3, s1007_2, f1, f3, f4, w0, w1, w2, e1, hm, Bool.toNat_true, Int.natCast_one]
      exact r3
    | false =>
      rw [hbit] at w2
      obtain ⟨es', a', r1, r2, r3⟩ := ih (i + 1) a es (by omega) ha (hI.skip hbit)
      refine ⟨es', a', r1, r2, ?_⟩
      rw [← hK, loopW_some, hK]
      simp -implicitDefEqProofs only [go_sem, Nat.reduceEqDiff, Nat.reduceAdd, Nat.reduceLeDiff, Nat.reduceLT, reduceCtorEq, ↓reduceIte, Nat.reduceBEq, Int.reduceLT, Int.reduceLE, Int.reduceNeg, Int.reduceEq, Int.toNat_natCast, cast_lit, Int.reduceToNat, s1007_4, s1007_3, s1007_2, f1, f3, f4, w0, w1, w2, Bool.toNat_false, Int.natCast_zero]
      exact r3
theorem zero_acc (e : Evl) (hk : e.k = 1) (hp : e.p = Bal.zero) (hq : e.q = Bal.zero) (b : Bal) : accP e b = false := by
  have hz : zeroB Bal.zero = true := by decide
  simp only [accP, hk, hp, hq, prepares, covers, hz]
  simp
theorem law1007 (zs : List Int) : callW E 1007 [.p (.sl 1 (zs.map (.int .i64)))] [] = some ⟨.p (.bool true), [], []⟩ := by
  have e0 := e17 (E := E) zs
  have hl : (zs.take 800).length ≤ 800 := by simp; omega
  generalize zs.take 800 = l at *
  have e1 := e29 (E := E) l 0 5 hl (by omega) (by omega) (by omega)
  have tg := trG_ok l 0 5 (by omega) (by omega)
  have l1 := trG_le l 0 5 (by omega)
  generalize trG l 0 5 = tt at *
  obtain ⟨t, a1⟩ := tt
  dsimp only at e1 tg l1
  have e2 := e39 (E := E) l a1 hl l1
  have b1 := dV_nonneg l a1 6
  have b2 := dV_lt l a1 6 (by decide)
  have l2 := dA_le l _ 4 (dA_le l a1 6 l1)
  have hv := isVal_dV l (dA l a1 6)
  generalize valN (dV l (dA l a1 6) 4) = bv at *
  generalize dA l (dA l a1 6) 4 = a2 at *
  have hbf : finite ⟨1 + dV l a1 6, bv⟩ = true := finite_mk (by omega) (by omega) hv
  have hbz : zeroB ⟨1 + dV l a1 6, bv⟩ = false := nonzero (by show 1 ≤ 1 + dV l a1 6; omega)
  generalize 1 + dV l a1 6 = bc at *
  obtain ⟨s, a3, hs, l3, e3⟩ := e1033 (E := E) l a2 5 hl (by omega) l2
  have w := andNot_one (s := s) (by omega)
  have h0 := even_bit s
  have hs' : s - s % 2 < 32 := by omega
  generalize s - s % 2 = set at *
  have e4 := e28 (E := E) l a3 2 hl l3 (by decide)
  have l4 := dA_le l a3 2 l3
  have b3 := dV_nonneg l a3 2
  generalize dV l a3 2 = d at *
  generalize dA l a3 2 = a4 at *
  have es := e47 (E := E)
  have h1m : 1 ≤ most := by decide
  -- once the list is there
  have fin : ∀ es' : List Evl, Acc5 set ⟨bc, bv⟩ 5 es' → ∃ r r2 : Bool, callW E 54 [.p (.int .i64 0), .p t.pv, .p (.sl 15 (es'.map Evl.pv))] [] = some ⟨.p (confPv (viewM 0 t es')), [], []⟩ ∧
      callW E 95 [.p (confPv (viewM 0 t es')), .p (.int .i64 0), .p (.int .i64 set)] [] = some ⟨.p (.bool r), [], []⟩ ∧
      callW E 41 [.p (.int .i64 0), .p t.pv, .p (.sl 15 (es'.map Evl.pv)), .p (.agg [.int .i64 bc, .str bv])] [] = some ⟨.p (.bool r2), [], []⟩ ∧ (r = true → r2 = true) := by
    intro es' h
    have hlen := h.len
    have g1 := e54 (E := E) 0 t es' tg.thin (by omega) h.thin
    have g2 := e95 (E := E) _ (viewM_ok 0 t es' tg.thin h.thin) 0 set (by omega) (by omega)
    have g3 := e41 (E := E) 0 (by omega) t es' ⟨bc, bv⟩ tg.thin (by omega) h.thin
    refine ⟨_, _, g1, g2, g3, fun hr => ?_⟩
    unfold acceptW accW
    rw [h.who h0 hs']
    simp only [Int.natCast_zero]
    rw [hr, Bool.true_or]
  have hnil : Acc5 set ⟨bc, bv⟩ 1 [] := ⟨by simp, by simp, by intro j h1 h2; omega, by simp⟩
  unfold Tr.pv at e1
  simp only [cast_lit, Int.natCast_zero] at e0 e1 e3 e4
  by_cases hd : d = 1
  · subst hd
    have e5 := e39 (E := E) l a4 hl l4
    have l5 := dA_le l _ 4 (dA_le l a4 6 l4)
    generalize valN (dV l (dA l a4 6) 4) = cv at *
    generalize dA l (dA l a4 6) 4 = a5 at *
    generalize 1 + dV l a4 6 = cc at *
    have hI : Acc5 set ⟨bc, bv⟩ 1 [⟨0, 1, 1, t, 1, ⟨cc, cv⟩, Bal.zero, Bal.zero, 0, 0⟩] := by
      refine ⟨?_, by simp, by intro j h1 h2; omega, ?_⟩
      · intro e he; rw [List.mem_singleton.1 he]; exact tg.thin
      · intro e he ha
        rw [List.mem_singleton.1 he, zero_acc _ rfl rfl rfl] at ha; cases ha
    obtain ⟨es', a6, l6, hA, lp⟩ := loop1007 (E := E) l hl t bc bv hbf hbz set hs' 4 1 a5 _ (by omega) l5 hI
    obtain ⟨r, r2, g1, g2, g3, g4⟩ := fin es' hA
    unfold confPv at g1 g2
    unfold Tr.pv at g1 g3
    simp only [List.map_cons, List.map_nil, List.length_cons, List.length_nil, Nat.zero_add, Evl.pv, Bal.zero, cast_lit, Int.natCast_one] at lp
    rw [callW_eq, EnvS.h 1007 F1007 rfl]
    cases r with
    | true =>
      rw [g4 rfl] at g3
      simp -implicitDefEqProofs only [go_sem, Nat.reduceEqDiff, Nat.reduceAdd, Nat.reduceLeDiff, Nat.reduceLT, reduceCtorEq, ↓reduceIte, Nat.reduceBEq, Int.reduceLT, Int.reduceLE, Int.reduceNeg, Int.reduceEq, Int.toNat_natCast, cast_lit, Int.reduceToNat, F1007, s1007, s1007_1, s1007_5, e0, e1, e2, e3, e4, e5, h1m, w, lp, g1, g2, g3, es]
    | false =>
      simp -implicitDefEqProofs only [go_sem, Nat.reduceEqDiff, Nat.reduceAdd, Nat.reduceLeDiff, Nat.reduceLT, reduceCtorEq, ↓reduceIte, Nat.reduceBEq, Int.reduceLT, Int.reduceLE, Int.reduceNeg, Int.reduceEq, Int.toNat_natCast, cast_lit, Int.reduceToNat, F1007, s1007, s1007_1, s1007_5, e0, e1, e2, e3, e4, e5, h1m, w, lp, g1, g2, g3, es]
  · obtain ⟨es', a6, l6, hA, lp⟩ := loop1007 (E := E) l hl t bc bv hbf hbz set hs' 4 1 a4 _ (by omega) l4 hnil
    obtain ⟨r, r2, g1, g2, g3, g4⟩ := fin es' hA
    unfold confPv at g1 g2
    unfold Tr.pv at g1 g3
    simp only [List.map_nil, List.length_nil, cast_lit, Int.natCast_one] at lp
    rw [callW_eq, EnvS.h 1007 F1007 rfl]
    cases r with
    | true =>
      rw [g4 rfl] at g3
      simp -implicitDefEqProofs only [go_sem, Nat.reduceEqDiff, Nat.reduceAdd, Nat.reduceLeDiff, Nat.reduceLT, reduceCtorEq, ↓reduceIte, Nat.reduceBEq, Int.reduceLT, Int.reduceLE, Int.reduceNeg, Int.reduceEq, Int.toNat_natCast, cast_lit, Int.reduceToNat, F1007, s1007, s1007_1, s1007_5, e0, e1, e2, e3, e4, hd, w, lp, g1, g2, g3, es]
    | false =>
      simp -implicitDefEqProofs only [go_sem, Nat.reduceEqDiff, Nat.reduceAdd, Nat.reduceLeDiff, Nat.reduceLT, reduceCtorEq, ↓reduceIte, Nat.reduceBEq, Int.reduceLT, Int.reduceLE, Int.reduceNeg, Int.reduceEq, Int.toNat_natCast, cast_lit, Int.reduceToNat, F1007, s1007, s1007_1, s1007_5, e0, e1, e2, e3, e4, hd, w, lp, g1, g2, g3, es]
end Go.Ab.S
