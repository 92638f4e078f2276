/- A part of the proof: an executor over plain data, shown sound for the model, and what it computes of the functions. -/
import Derived.Test.YtmnjnpgmenigiaaB364e25478e
set_option linter.all false
set_option linter.unusedSimpArgs false
set_option linter.unusedVariables false
set_option linter.unusedSectionVars false
namespace Go.Ab.S
open Go Go.Ab
variable {E : Env} [EnvS E]

/-- Envelopes with which some nodes accept a ballot. -/
structure Acc5 (set : Nat) (b : Bal) (i : Nat) (l : List Evl) : Prop where
  thin : ∀ e ∈ l, e.t.thin
  len : l.length ≤ i + 1
  inn : ∀ j, 1 ≤ j → j < i → set.testBit j = true → ∃ e ∈ l, validE e = true ∧ accP e b = true ∧ e.node = (j : Int)
  out : ∀ e ∈ l, accP e b = true → ∃ j : Nat, set.testBit j = true ∧ e.node = (j : Int)
def accE (i : Nat) (t : Tr) (b : Bal) : Evl := ⟨i, 1, 1, t, 1, b, b, Bal.zero, 0, 0⟩
theorem accE_valid {i : Nat} {t : Tr} {b : Bal} (hi : i < 10) (ht : errT t = 0) (hb : finite b = true) : validE (accE i t b) = true := by
  have h := hb
  simp only [finite, Bool.and_eq_true, decide_eq_true_eq] at h
  obtain ⟨h1, h2⟩ := h
  have h3 : 1 ≤ b.c := by
    simp only [validB, Bool.and_eq_true, Bool.or_eq_true, decide_eq_true_eq] at h1; omega
  have hz : zeroB Bal.zero = true := by decide
  simp [accE, validE, headE, ht, prepE, hb, optional, h1, hz, primeE]
  exact ⟨decide_eq_true (by show (i : Int) < 10; omega), decide_eq_true (by show (0 : Int) ≤ b.c; omega)⟩
theorem accE_acc {i : Nat} {t : Tr} {b : Bal} (hb : zeroB b = false) : accP (accE i t b) b = true := by
  simp [accE, accP, hb, prepares, covers_self hb]
theorem Acc5.step {set : Nat} {b : Bal} {i : Nat} {l : List Evl} (h : Acc5 set b i l) {t : Tr} (ht : t.thin) (hok : errT t = 0) (hb : finite b = true) (hz : zeroB b = false) (hi : i < 10) (hs : set.testBit i = true) : Acc5 set b (i + 1) (l ++ [accE i t b]) where
  thin := by
    intro e he
    rcases List.mem_append.1 he with he | he
    · exact h.thin e he
    · rw [List.mem_singleton.1 he]; exact ht
  len := by have := h.len; simp; omega
  inn := by
    intro j h1 h2 h3
    rcases Nat.lt_or_eq_of_le (Nat.le_of_lt_succ h2) with h4 | h4
    · obtain ⟨e, g1, g2⟩ := h.inn j h1 h4 h3
      exact ⟨e, List.mem_append_left _ g1, g2⟩
    · subst h4
      exact ⟨_, List.mem_append_right _ (List.mem_singleton.2 rfl), accE_valid hi hok hb, accE_acc hz, rfl⟩
  out := by
    intro e he ha
    rcases List.mem_append.1 he with he | he
    · exact h.out e he ha
    · rw [List.mem_singleton.1 he]; exact ⟨i, hs, rfl⟩
theorem Acc5.skip {set : Nat} {b : Bal} {i : Nat} {l : List Evl} (h : Acc5 set b i l) (hs : set.testBit i = false) : Acc5 set b (i + 1) l where
  thin := h.thin
  len := by have := h.len; omega
  inn := by
    intro j h1 h2 h3
    refine h.inn j h1 ?_ h3
    rcases Nat.lt_or_eq_of_le (Nat.le_of_lt_succ h2) with h4 | h4
    · exact h4
    · subst h4; rw [hs] at h3; cases h3
  out := h.out
theorem Acc5.who {set : Nat} {b : Bal} {l : List Evl} (h : Acc5 set b 5 l) (h0 : set.testBit 0 = false) (h5 : set < 32) : who (accP · b) (l.filter validE) = set := by
  refine Nat.eq_of_testBit_eq fun k => ?_
  rw [who_bit _ _ _ (valid_nodes l)]
  cases hk : set.testBit k with
  | true =>
    rw [List.any_eq_true]
    have h1 : 1 ≤ k := by
      rcases Nat.eq_zero_or_pos k with rfl | h1
      · rw [h0] at hk; cases hk
      · exact h1
    have h2 : k < 5 := by
      rcases Nat.lt_or_ge k 5 with h2 | h2
      · exact h2
      · have := Nat.testBit_lt_two_pow (Nat.lt_of_lt_of_le h5 (Nat.pow_le_pow_right (n := 2) (by decide) h2))
        rw [this] at hk; cases hk
    obtain ⟨e, g1, g2, g3, g4⟩ := h.inn k h1 h2 hk
    exact ⟨e, List.mem_filter.2 ⟨g1, g2⟩, by simp [g3, g4]⟩
  | false =>
    rw [List.any_eq_false]
    intro e he
    obtain ⟨g1, g2⟩ := List.mem_filter.1 he
    simp only [Bool.and_eq_true, decide_eq_true_eq, not_and]
    intro ha hn
    obtain ⟨j, q1, q2⟩ := h.out e g1 ha
    have : j = k := by omega
    subst this
    rw [hk] at q1; cases q1
theorem loop1007 (l : List Int) (hl : l.length ≤ 800) (tr : Tr) (bc : Int) (bv : ByteArray) (hb : finite ⟨bc, bv⟩ = true) (hz : zeroB ⟨bc, bv⟩ = false) (set : Nat) (hs : set < 32) :
    ∀ (k i a : Nat) (es : List Evl), i + k = 5 → a ≤ l.length → Acc5 set ⟨bc, bv⟩ i es →
    ∃ (es' : List Evl) (a' : Nat), a' ≤ l.length ∧ Acc5 set ⟨bc, bv⟩ 5 es' ∧
    loopW E 0 [3, 4, 5, 6, 7, 8] [.loc 1 1 0, .loc 1 1 1, .loc 1 1 2, .loc 1 1 3, .loc 2 4 0, .loc 2 5 0, .loc 4 0 0] (.trim [3, 4, 5, 6, 7, 8] [2] [(0, [4, 5, 6, 7])] [.loc 1 1 0, .loc 1 1 1, .loc 1 1 2, .loc 1 1 3, .loc 2 4 0, .loc 2 5 0, .loc 4 0 0] s1007_4) (some ⟨[(3, .ptr (.loc 1 1 0) 0), (4, .ptr (.loc 2 4 0) 0), (5, .ptr (.loc 2 5 0) 0), (6, .p (.int .i64 set)), (7, .hsl (.loc 4 0 0) 0 es.length), (8, .p (.int .i64 i))],
      [(.loc 1 1 0, some (.box [.p (.sl 1 (l.map (.int .i64))), .p (.int .i64 a)])), (.loc 1 1 1, none), (.loc 1 1 2, none), (.loc 1 1 3, none), (.loc 2 4 0, some (.box [.p (.int .i64 tr.th), .p (.sl 1 (tr.ns.map (.int .i64))), .p (.sl 3 (tr.is.map In.pv))])), (.loc 2 5 0, some (.box [.p (.int .i64 bc), .p (.str bv)])), (.loc 4 0 0, some (.parr (es.map Evl.pv) 15 false))]⟩) =
    some (.ex 0, ⟨[(4, .ptr (.loc 2 4 0) 0), (5, .ptr (.loc 2 5 0) 0), (6, .p (.int .i64 set)), (7, .hsl (.loc 4 0 0) 0 es'.length)],
      [(.loc 1 1 0, some (.box [.p (.sl 1 (l.map (.int .i64))), .p (.int .i64 a')])), (.loc 1 1 1, none), (.loc 1 1 2, none), (.loc 1 1 3, none), (.loc 2 4 0, some (.box [.p (.int .i64 tr.th), .p (.sl 1 (tr.ns.map (.int .i64))), .p (.sl 3 (tr.is.map In.pv))])), (.loc 2 5 0, some (.box [.p (.int .i64 bc), .p (.str bv)])), (.loc 4 0 0, some (.parr (es'.map Evl.pv) 15 false))]⟩) := by
  generalize hK : loopW E 0 _ _ _ = K
  intro k
  induction k with
  | zero =>
    intro i a es hi ha hI
    have : i = 5 := by omega
    subst this
    refine ⟨es, a, ha, hI, ?_⟩
    rw [← hK, loopW_some, hK]
    simp -implicitDefEqProofs only [go_sem, Nat.reduceEqDiff, Nat.reduceAdd, Nat.reduceLeDiff, Nat.reduceLT, reduceCtorEq, ↓reduceIte, Nat.reduceBEq, Int.reduceLT, Int.reduceLE, Int.reduceNeg, Int.reduceEq, Int.toNat_natCast, cast_lit, Int.reduceToNat, s1007_4, s1007_3, s1007_2]
  | succ k ih =>
    intro i a es hi ha hI
    have f4 : ¬ (i : Int) < 0 := by omega
    have f1 : (i : Int) < 5 := by omega
    have f3 : IntKind.i64.wrap ((i : Int) + 1) = ((i + 1 : Nat) : Int) := wrap64 (by omega) (by omega)
    have w0 := u64N i (by omega)
    have w1 := shrB set i (by omega) (by omega)
    have w2 := bitB set i (by omega)
    cases hbit : set.testBit i with
    | true =>
      rw [hbit] at w2
      have e1 := e29 (E := E) l a 5 hl ha (by omega) (by omega)
      have tg := trG_ok l a 5 (by omega) (by omega)
      have l1 := trG_le l a 5 ha
      generalize trG l a 5 = tt at *
      obtain ⟨t, a1⟩ := tt
      dsimp only at e1 tg l1
      obtain ⟨es', a', r1, r2, r3⟩ := ih (i + 1) a1 (es ++ [accE i t ⟨bc, bv⟩]) (by omega) l1 (hI.step tg.thin tg.ok hb hz (by omega) hbit)
      refine ⟨es', a', r1, r2, ?_⟩
      have hm : es.length + 1 ≤ most := by have := hI.len; unfold most; omega
      simp only [List.map_append, List.map_cons, List.map_nil, List.length_append, List.length_cons, List.length_nil, Nat.zero_add, accE, Evl.pv, Bal.zero] at r3
      unfold Tr.pv at e1
      simp only [cast_lit] at e1
      rw [← hK, loopW_some, hK]
      simp -implicitDefEqProofs only [go_sem, Nat.reduceEqDiff, Nat.reduceAdd, Nat.reduceLeDiff, Nat.reduceLT, reduceCtorEq, ↓reduceIte, Nat.reduceBEq, Int.reduceLT, Int.reduceLE, Int.reduceNeg, Int.reduceEq, Int.toNat_natCast, cast_lit, Int.reduceToNat, s1007_4, s1007_3, s1007_2, f1, f3, f4, w0, w1, w2, e1, hm, Bool.toNat_true, Int.natCast_one]
      exact r3
    | false =>
      rw [hbit] at w2
      obtain ⟨es', a', r1, r2, r3⟩ := ih (i + 1) a es (by omega) ha (hI.skip hbit)
      refine ⟨es', a', r1, r2, ?_⟩
      rw [← hK, loopW_some, hK]
      simp -implicitDefEqProofs only [go_sem, Nat.reduceEqDiff, Nat.reduceAdd, Nat.reduceLeDiff, Nat.reduceLT, reduceCtorEq, ↓reduceIte, Nat.reduceBEq, Int.reduceLT, Int.reduceLE, Int.reduceNeg, Int.reduceEq, Int.toNat_natCast, cast_lit, Int.reduceToNat, s1007_4, s1007_3, s1007_2, f1, f3, f4, w0, w1, w2, Bool.toNat_false, Int.natCast_zero]
      exact r3
theorem zero_acc (e : Evl) (hk : e.k = 1) (hp : e.p = Bal.zero) (hq : e.q = Bal.zero) (b : Bal) : accP e b = false := by
  have hz : zeroB Bal.zero = true := by decide
  simp only [accP, hk, hp, hq, prepares, covers, hz]
  simp
theorem law1007 (zs : List Int) : callW E 1007 [.p (.sl 1 (zs.map (.int .i64)))] [] = some ⟨.p (.bool true), [], []⟩ := by
  have e0 := e17 (E := E) zs
  have hl : (zs.take 800).length ≤ 800 := by simp; omega
  generalize zs.take 800 = l at *
  have e1 := e29 (E := E) l 0 5 hl (by omega) (by omega) (by omega)
  have tg := trG_ok l 0 5 (by omega) (by omega)
  have l1 := trG_le l 0 5 (by omega)
  generalize trG l 0 5 = tt at *
  obtain ⟨t, a1⟩ := tt
  dsimp only at e1 tg l1
  have e2 := e39 (E := E) l a1 hl l1
  have b1 := dV_nonneg l a1 6
  have b2 := dV_lt l a1 6 (by decide)
  have l2 := dA_le l _ 4 (dA_le l a1 6 l1)
  have hv := isVal_dV l (dA l a1 6)
  generalize valN (dV l (dA l a1 6) 4) = bv at *
  generalize dA l (dA l a1 6) 4 = a2 at *
  have hbf : finite ⟨1 + dV l a1 6, bv⟩ = true := finite_mk (by omega) (by omega) hv
  have hbz : zeroB ⟨1 + dV l a1 6, bv⟩ = false := nonzero (by show 1 ≤ 1 + dV l a1 6; omega)
  generalize 1 + dV l a1 6 = bc at *
  obtain ⟨s, a3, hs, l3, e3⟩ := e1033 (E := E) l a2 5 hl (by omega) l2
  have w := andNot_one (s := s) (by omega)
  have h0 := even_bit s
  have hs' : s - s % 2 < 32 := by omega
  generalize s - s % 2 = set at *
  have e4 := e28 (E := E) l a3 2 hl l3 (by decide)
  have l4 := dA_le l a3 2 l3
  have b3 := dV_nonneg l a3 2
  generalize dV l a3 2 = d at *
  generalize dA l a3 2 = a4 at *
  have es := e47 (E := E)
  have h1m : 1 ≤ most := by decide
  -- once the list is there
  have fin : ∀ es' : List Evl, Acc5 set ⟨bc, bv⟩ 5 es' → ∃ r r2 : Bool, callW E 54 [.p (.int .i64 0), .p t.pv, .p (.sl 15 (es'.map Evl.pv))] [] = some ⟨.p (confPv (viewM 0 t es')), [], []⟩ ∧
      callW E 95 [.p (confPv (viewM 0 t es')), .p (.int .i64 0), .p (.int .i64 set)] [] = some ⟨.p (.bool r), [], []⟩ ∧
      callW E 41 [.p (.int .i64 0), .p t.pv, .p (.sl 15 (es'.map Evl.pv)), .p (.agg [.int .i64 bc, .str bv])] [] = some ⟨.p (.bool r2), [], []⟩ ∧ (r = true → r2 = true) := by
    intro es' h
    have hlen := h.len
    have g1 := e54 (E := E) 0 t es' tg.thin (by omega) h.thin
    have g2 := e95 (E := E) _ (viewM_ok 0 t es' tg.thin h.thin) 0 set (by omega) (by omega)
    have g3 := e41 (E := E) 0 (by omega) t es' ⟨bc, bv⟩ tg.thin (by omega) h.thin
    refine ⟨_, _, g1, g2, g3, fun hr => ?_⟩
    unfold acceptW accW
    rw [h.who h0 hs']
    simp only [Int.natCast_zero]
    rw [hr, Bool.true_or]
  have hnil : Acc5 set ⟨bc, bv⟩ 1 [] := ⟨by simp, by simp, by intro j h1 h2; omega, by simp⟩
  unfold Tr.pv at e1
  simp only [cast_lit, Int.natCast_zero] at e0 e1 e3 e4
  by_cases hd : d = 1
  · subst hd
    have e5 := e39 (E := E) l a4 hl l4
    have l5 := dA_le l _ 4 (dA_le l a4 6 l4)
    generalize valN (dV l (dA l a4 6) 4) = cv at *
    generalize dA l (dA l a4 6) 4 = a5 at *
    generalize 1 + dV l a4 6 = cc at *
    have hI : Acc5 set ⟨bc, bv⟩ 1 [⟨0, 1, 1, t, 1, ⟨cc, cv⟩, Bal.zero, Bal.zero, 0, 0⟩] := by
      refine ⟨?_, by simp, by intro j h1 h2; omega, ?_⟩
      · intro e he; rw [List.mem_singleton.1 he]; exact tg.thin
      · intro e he ha
        rw [List.mem_singleton.1 he, zero_acc _ rfl rfl rfl] at ha; cases ha
    obtain ⟨es', a6, l6, hA, lp⟩ := loop1007 (E := E) l hl t bc bv hbf hbz set hs' 4 1 a5 _ (by omega) l5 hI
    obtain ⟨r, r2, g1, g2, g3, g4⟩ := fin es' hA
    unfold confPv at g1 g2
    unfold Tr.pv at g1 g3
    simp only [List.map_cons, List.map_nil, List.length_cons, List.length_nil, Nat.zero_add, Evl.pv, Bal.zero, cast_lit, Int.natCast_one] at lp
    rw [callW_eq, EnvS.h 1007 F1007 rfl]
    cases r with
    | true =>
      rw [g4 rfl] at g3
      simp -implicitDefEqProofs only [go_sem, Nat.reduceEqDiff, Nat.reduceAdd, Nat.reduceLeDiff, Nat.reduceLT, reduceCtorEq, ↓reduceIte, Nat.reduceBEq, Int.reduceLT, Int.reduceLE, Int.reduceNeg, Int.reduceEq, Int.toNat_natCast, cast_lit, Int.reduceToNat, F1007, s1007, s1007_1, s1007_5, e0, e1, e2, e3, e4, e5, h1m, w, lp, g1, g2, g3, es]
    | false =>
      simp -implicitDefEqProofs only [go_sem, Nat.reduceEqDiff, Nat.reduceAdd, Nat.reduceLeDiff, Nat.reduceLT, reduceCtorEq, ↓reduceIte, Nat.reduceBEq, Int.reduceLT, Int.reduceLE, Int.reduceNeg, Int.reduceEq, Int.toNat_natCast, cast_lit, Int.reduceToNat, F1007, s1007, s1007_1, s1007_5, e0, e1, e2, e3, e4, e5, h1m, w, lp, g1, g2, g3, es]
  · obtain ⟨es', a6, l6, hA, lp⟩ := loop1007 (E := E) l hl t bc bv hbf hbz set hs' 4 1 a4 _ (by omega) l4 hnil
    obtain ⟨r, r2, g1, g2, g3, g4⟩ := fin es' hA
    unfold confPv at g1 g2
    unfold Tr.pv at g1 g3
    simp only [List.map_nil, List.length_nil, cast_lit, Int.natCast_one] at lp
    rw [callW_eq, EnvS.h 1007 F1007 rfl]
    cases r with
    | true =>
      rw [g4 rfl] at g3
      simp -implicitDefEqProofs only [go_sem, Nat.reduceEqDiff, Nat.reduceAdd, Nat.reduceLeDiff, Nat.reduceLT, reduceCtorEq, ↓reduceIte, Nat.reduceBEq, Int.reduceLT, Int.reduceLE, Int.reduceNeg, Int.reduceEq, Int.toNat_natCast, cast_lit, Int.reduceToNat, F1007, s1007, s1007_1, s1007_5, e0, e1, e2, e3, e4, hd, w, lp, g1, g2, g3, es]
    | false =>
      simp -implicitDefEqProofs only [go_sem, Nat.reduceEqDiff, Nat.reduceAdd, Nat.reduceLeDiff, Nat.reduceLT, reduceCtorEq, ↓reduceIte, Nat.reduceBEq, Int.reduceLT, Int.reduceLE, Int.reduceNeg, Int.reduceEq, Int.toNat_natCast, cast_lit, Int.reduceToNat, F1007, s1007, s1007_1, s1007_5, e0, e1, e2, e3, e4, hd, w, lp, g1, g2, g3, es]
end Go.Ab.S

set_option linter.unusedSimpArgs false
set_option linter.unusedVariables false
set_option linter.unusedSectionVars false
namespace Go.Ab.S
open Go Go.Ab

/-! ### Greatest quorums, plain -/
theorem elim_end (ms : List Mem) : ∀ (f s : Nat), s < f → subM ms s → unhL ms (elim ms f s).2 (nodes (elim ms f s).2) = none ∧ subM ms (elim ms f s).2 ∧ ∀ j, (elim ms f s).2.testBit j = true → s.testBit j = true
  | 0, s, h, _ => by omega
  | f + 1, s, hf, hs => by
    cases hu : unhL ms s (nodes s) with
    | none =>
      rw [show elim ms (f + 1) s = ([], s) by rw [elim, hu]]
      exact ⟨hu, hs, fun _ h => h⟩
    | some k =>
      rw [show elim ms (f + 1) s = (k :: (elim ms f (s ^^^ 2 ^ k)).1, (elim ms f (s ^^^ 2 ^ k)).2) by rw [elim, hu]]
      obtain ⟨h1, h2⟩ := unhL_some hu
      obtain ⟨h3, h4⟩ := (nodes_mem s k).1 h1
      have hlt := xor_lt hs.1 h3 h4
      obtain ⟨r1, r2, r3⟩ := elim_end ms f _ (by omega) (subM_xor hs h3 h4)
      refine ⟨r1, r2, fun j hj => ?_⟩
      have := r3 j hj
      rw [xor_bit h4] at this
      simp only [Bool.and_eq_true] at this
      exact this.1
/-- A quorum: its members are content with it. -/
def quorum (ms : List Mem) (q : Nat) : Prop := ∀ k, q.testBit k = true → ∃ m, ms[k]? = some m ∧ m.d = true ∧ satT q m.t = true
theorem bit10 {s k : Nat} (hs : s < 1024) (h : s.testBit k = true) : k < 10 := by
  rcases Nat.lt_or_ge k 10 with h2 | h2
  · exact h2
  · have := Nat.testBit_lt_two_pow (Nat.lt_of_lt_of_le hs (Nat.pow_le_pow_right (n := 2) (by decide) h2))
    rw [this] at h; cases h
theorem great_sub (ms : List Mem) (s : Nat) : (∀ j, (great ms s).testBit j = true → s.testBit j = true ∧ ∃ m, ms[j]? = some m ∧ m.d = true) := by
  intro j hj
  have hsub := subM_decl ms s
  obtain ⟨_, _, h⟩ := elim_end ms 1024 _ hsub.1 hsub
  have h2 := h j hj
  rw [Nat.testBit_and, decl_bit] at h2
  simp only [Bool.and_eq_true, decide_eq_true_eq, beq_iff_eq] at h2
  refine ⟨h2.1, ?_⟩
  cases hm : ms[j]? with
  | none => rw [hm] at h2; simp at h2
  | some m => rw [hm] at h2; exact ⟨m, rfl, by simpa using h2.2.2⟩
theorem great_quorum (ms : List Mem) (s : Nat) : quorum ms (great ms s) := by
  intro k hk
  have hsub := subM_decl ms s
  obtain ⟨h1, h2, _⟩ := elim_end ms 1024 _ hsub.1 hsub
  obtain ⟨_, m, hm, hd⟩ := great_sub ms s k hk
  refine ⟨m, hm, hd, ?_⟩
  have h3 := unhL_none h1 k ((nodes_mem _ k).2 ⟨bit10 (great_lt ms s) hk, hk⟩)
  simp only [contM, hm] at h3
  exact h3
theorem great_fix (ms : List Mem) (q : Nat) (hq : q < 1024) (h : quorum ms q) : great ms q = q := by
  have hd : q &&& decl ms = q := by
    refine Nat.eq_of_testBit_eq fun k => ?_
    rw [Nat.testBit_and]
    cases hk : q.testBit k with
    | false => simp
    | true =>
      obtain ⟨m, h1, h2, _⟩ := h k hk
      rw [decl_bit, h1]
      simp [h2, bit10 hq hk]
  have hu : unhL ms q (nodes q) = none := by
    cases hu : unhL ms q (nodes q) with
    | none => rfl
    | some k =>
      obtain ⟨h1, h2⟩ := unhL_some hu
      obtain ⟨m, g1, _, g3⟩ := h k ((nodes_mem q k).1 h1).2
      simp only [contM, g1, g3] at h2
      cases h2
  rw [great, elimS, hd, elim, hu]
theorem great_zero (ms : List Mem) : great ms 0 = 0 := great_fix ms 0 (by decide) (fun k hk => by simp at hk)
/-- A set that is a quorum in part of another lies in the greatest one. -/
theorem elim_keep (ms : List Mem) (q : Nat) (hmono : ∀ s : Nat, (∀ j, q.testBit j = true → s.testBit j = true) → ∀ k, q.testBit k = true → contM ms s k = true) : ∀ (f s : Nat), subM ms s → (∀ j, q.testBit j = true → s.testBit j = true) → ∀ j, q.testBit j = true → (elim ms f s).2.testBit j = true
  | 0, s, _, h, j, hj => h j hj
  | f + 1, s, hs, h, j, hj => by
    rw [elim]
    cases hu : unhL ms s (nodes s) with
    | none => exact h j hj
    | some k =>
      obtain ⟨h1, h2⟩ := unhL_some hu
      obtain ⟨h3, h4⟩ := (nodes_mem s k).1 h1
      refine elim_keep ms q hmono f _ (subM_xor hs h3 h4) (fun i hi => ?_) j hj
      rw [xor_bit h4, h i hi]
      simp only [Bool.true_and, Bool.not_eq_true', decide_eq_false_iff_not]
      rintro rfl
      rw [hmono s h i hi] at h2
      cases h2

/-! ### What a node sees of nodes that say the truth -/
theorem view_true (T : Nat → Tr) : ∀ (l : List Evl) (ms : List Mem), (∀ e ∈ l, validE e = true ∧ e.t = T e.node.toNat) → ms.length = 10 → (∀ j : Nat, j < 10 → ms[j]? = some memZ ∨ ms[j]? = some ⟨true, T j⟩) →
    ∀ j : Nat, j < 10 → (ms[j]? = some ⟨true, T j⟩ ∨ ∃ e ∈ l, e.node = (j : Int)) → (l.foldl viewS ms)[j]? = some ⟨true, T j⟩
  | [], ms, _, _, _, j, _, h => by
    rcases h with h | ⟨e, he, _⟩
    · exact h
    · cases he
  | e :: r, ms, hv, hl, hI, j, hj, h => by
    obtain ⟨v1, v2⟩ := hv e List.mem_cons_self
    obtain ⟨n1, n2⟩ := validE_node v1
    have hI' : ∀ i : Nat, i < 10 → (viewS ms e)[i]? = some memZ ∨ (viewS ms e)[i]? = some ⟨true, T i⟩ := by
      intro i hi
      unfold viewS
      split
      · rw [List.getElem?_set]
        split
        · rename_i h1 h2
          right
          rw [if_pos (by omega), v2, h2]
        · exact hI i hi
      · exact hI i hi
    refine view_true T r (viewS ms e) (fun x hx => hv x (List.mem_cons_of_mem _ hx)) (by rw [viewS_len]; exact hl) hI' j hj ?_
    have keep : ms[j]? = some ⟨true, T j⟩ → (viewS ms e)[j]? = some ⟨true, T j⟩ := by
      intro h0
      unfold viewS
      split
      · rename_i h1
        rw [List.getElem?_set]
        split
        · rename_i h2
          rw [if_pos (by omega), v2, h2]
        · exact h0
      · exact h0
    rcases h with h | ⟨x, hx, hn⟩
    · exact .inl (keep h)
    · rcases List.mem_cons.1 hx with rfl | hx
      · left
        have hj' : x.node.toNat = j := by omega
        rcases hI j hj with h0 | h0
        · unfold viewS
          rw [if_pos ⟨v1, by rw [hj', h0]; rfl⟩, hj', List.getElem?_set, if_pos rfl, if_pos (by omega), v2, hj']
        · exact keep h0
      · exact .inr ⟨x, hx, hn⟩
theorem viewM_true (T : Nat → Tr) (i : Nat) (hi : i < 10) (l : List Evl) (h : ∀ e ∈ l, validE e = true ∧ e.t = T e.node.toNat) (j : Nat) (hj : j < 10) (hin : j = i ∨ ∃ e ∈ l, e.node = (j : Int)) :
    (viewM i (T i) l)[j]? = some ⟨true, T j⟩ := by
  unfold viewM
  rw [if_neg (by omega)]
  refine view_true T l _ h (by simp) ?_ j hj ?_
  · intro k hk
    rw [List.getElem?_set]
    split
    · rename_i h1
      right; rw [if_pos (by simp; omega)]
      have : k = i := by omega
      rw [this]
    · left; rw [List.getElem?_replicate, if_pos hk]
  · rcases hin with rfl | h
    · left
      rw [List.getElem?_set, if_pos (by omega), if_pos (by simp; omega)]
    · exact .inr h
end Go.Ab.S

set_option linter.unusedSimpArgs false
set_option linter.unusedVariables false
set_option linter.unusedSectionVars false
namespace Go.Ab.S
open Go Go.Ab
variable {E : Env} [EnvS E]

def voteE (b : Bal) (i : Nat) (t : Tr) : Evl := ⟨i, 1, 1, t, 1, b, Bal.zero, Bal.zero, 0, 0⟩
def acceE (b : Bal) (i : Nat) (t : Tr) : Evl := accE i t b
theorem voteE_valid {i : Nat} {t : Tr} {b : Bal} (hi : i < 10) (ht : errT t = 0) (hb : finite b = true) : validE (voteE b i t) = true := by
  have h := hb
  simp only [finite, Bool.and_eq_true, decide_eq_true_eq] at h
  obtain ⟨h1, h2⟩ := h
  have h3 : 1 ≤ b.c := by
    simp only [validB, Bool.and_eq_true, Bool.or_eq_true, decide_eq_true_eq] at h1; omega
  have hz : zeroB Bal.zero = true := by decide
  simp [voteE, validE, headE, ht, prepE, hb, optional, h1, hz, primeE]
  exact ⟨decide_eq_true (by show (i : Int) < 10; omega), decide_eq_true (by show (0 : Int) ≤ b.c; omega)⟩
def sel (q : Nat) (f : Nat → Tr → Evl) (T : Nat → Tr) (n : Nat) : List Evl := ((List.range n).filter (q.testBit ·)).map fun j => f j (T j)
theorem sel_mem {q : Nat} {f : Nat → Tr → Evl} {T : Nat → Tr} {n : Nat} {e : Evl} : e ∈ sel q f T n ↔ ∃ j, j < n ∧ q.testBit j = true ∧ e = f j (T j) := by
  simp only [sel, List.mem_map, List.mem_filter, List.mem_range]
  constructor
  · rintro ⟨j, ⟨h1, h2⟩, rfl⟩; exact ⟨j, h1, h2, rfl⟩
  · rintro ⟨j, h1, h2, rfl⟩; exact ⟨j, ⟨h1, h2⟩, rfl⟩
theorem sel_succ (q : Nat) (f : Nat → Tr → Evl) (T : Nat → Tr) (n : Nat) : sel q f T (n + 1) = if q.testBit n = true then sel q f T n ++ [f n (T n)] else sel q f T n := by
  simp only [sel, List.range_succ, List.filter_append, List.map_append, List.filter_cons, List.filter_nil]
  split <;> simp
theorem sel_len (q : Nat) (f : Nat → Tr → Evl) (T : Nat → Tr) (n : Nat) : (sel q f T n).length ≤ n := by
  have := List.length_filter_le (q.testBit ·) (List.range n)
  simpa [sel] using this
structure Sel (q n : Nat) (b : Bal) (T : Nat → Tr) (f : Nat → Tr → Evl) : Prop where
  val : ∀ j, q.testBit j = true → validE (f j (T j)) = true
  node : ∀ j, (f j (T j)).node = (j : Int)
  t : ∀ j, (f j (T j)).t = T j
theorem sel_filter {q n : Nat} {b : Bal} {T : Nat → Tr} {f : Nat → Tr → Evl} (h : Sel q n b T f) : (sel q f T n).filter validE = sel q f T n := by
  rw [List.filter_eq_self]
  intro e he
  obtain ⟨j, _, h2, rfl⟩ := sel_mem.1 he
  exact h.val j h2
theorem who_sel {q n : Nat} {b : Bal} {T : Nat → Tr} {f : Nat → Tr → Evl} (h : Sel q n b T f) (hq : ∀ j, q.testBit j = true → j < n) (p : Evl → Bool) (hp : ∀ j, q.testBit j = true → p (f j (T j)) = true) : who p (sel q f T n) = q := by
  have hn : nodesOk (sel q f T n) := by
    intro e he
    obtain ⟨j, _, h2, rfl⟩ := sel_mem.1 he
    exact validE_node (h.val j h2)
  refine Nat.eq_of_testBit_eq fun k => ?_
  rw [who_bit _ _ _ hn]
  cases hk : q.testBit k with
  | true =>
    rw [List.any_eq_true]
    exact ⟨f k (T k), sel_mem.2 ⟨k, hq k hk, hk, rfl⟩, by simp [hp k hk, h.node k]⟩
  | false =>
    rw [List.any_eq_false]
    intro e he
    obtain ⟨j, _, h2, rfl⟩ := sel_mem.1 he
    simp only [Bool.and_eq_true, decide_eq_true_eq, not_and]
    intro _ hn
    rw [h.node] at hn
    have : j = k := by omega
    subst this
    rw [hk] at h2; cases h2
theorem who_none (p : Evl → Bool) (l : List Evl) (hn : nodesOk l) (h : ∀ e ∈ l, p e = false) : who p l = 0 := by
  refine Nat.eq_of_testBit_eq fun k => ?_
  rw [who_bit _ _ _ hn, Nat.zero_testBit, List.any_eq_false]
  intro e he
  simp [h e he]
theorem sel_view {q n : Nat} {b : Bal} {T : Nat → Tr} {f : Nat → Tr → Evl} (h : Sel q n b T f) (hq : ∀ j, q.testBit j = true → j < n) (hn : n ≤ 10) (hs : ∀ j, q.testBit j = true → satT q (T j) = true) (i : Nat) (hi : i < 10) : quorum (viewM i (T i) (sel q f T n)) q := by
  intro k hk
  refine ⟨⟨true, T k⟩, ?_, rfl, hs k hk⟩
  refine viewM_true T i hi _ ?_ k (by have := hq k hk; omega) (.inr ⟨f k (T k), sel_mem.2 ⟨k, hq k hk, hk, rfl⟩, h.node k⟩)
  intro e he
  obtain ⟨j, _, h2, rfl⟩ := sel_mem.1 he
  refine ⟨h.val j h2, ?_⟩
  rw [h.t, h.node]; rfl
theorem quorum_laws {q n : Nat} {b : Bal} {T : Nat → Tr} (hT : ∀ j, j < n → errT (T j) = 0) (hb : finite b = true) (hz : zeroB b = false) (hq : ∀ j, q.testBit j = true → j < n) (hn : n ≤ 10) (hq10 : q < 1024) (hs : ∀ j, q.testBit j = true → satT q (T j) = true) (i : Nat) (hi : q.testBit i = true) :
    acceptW i (T i) (sel q (voteE b) T n) b = true ∧ confirmW i (T i) (sel q (acceE b) T n) b = true ∧ confirmW i (T i) (sel q (voteE b) T n) b = false := by
  have hi10 : i < 10 := by have := hq i hi; omega
  have hv : Sel q n b T (voteE b) := ⟨fun j hj => voteE_valid (by have := hq j hj; omega) (hT j (hq j hj)) hb, fun _ => rfl, fun _ => rfl⟩
  have ha : Sel q n b T (acceE b) := ⟨fun j hj => accE_valid (by have := hq j hj; omega) (hT j (hq j hj)) hb, fun _ => rfl, fun _ => rfl⟩
  have w0 : who (accP · b) (sel q (voteE b) T n) = 0 := by
    refine who_none _ _ ?_ ?_
    · intro e he
      obtain ⟨j, _, h2, rfl⟩ := sel_mem.1 he
      exact validE_node (hv.val j h2)
    · intro e he
      obtain ⟨j, _, h2, rfl⟩ := sel_mem.1 he
      exact zero_acc _ rfl rfl rfl b
  have w1 : who (bothP b) (sel q (voteE b) T n) = q := by
    refine who_sel hv hq _ fun j hj => ?_
    simp [bothP, votP, voteE, hz, covers_self hz]
  have w2 : who (accP · b) (sel q (acceE b) T n) = q := who_sel ha hq _ fun j hj => accE_acc hz
  refine ⟨?_, ?_, ?_⟩
  · unfold acceptW accW
    rw [sel_filter hv, w0, w1, Nat.or_zero, great_fix _ q hq10 (sel_view hv hq hn hs i hi10), hi, Bool.or_true]
  · unfold confirmW
    rw [sel_filter ha, w2, great_fix _ q hq10 (sel_view ha hq hn hs i hi10), hi]
  · unfold confirmW
    rw [sel_filter hv, w0, great_zero, Nat.zero_testBit]
end Go.Ab.S

set_option linter.unusedSimpArgs false
set_option linter.unusedVariables false
set_option linter.unusedSectionVars false
namespace Go.Ab.S
open Go Go.Ab
variable {E : Env} [EnvS E]

def memT (t : Tr) : Mem := ⟨true, t⟩
def srcH (l : List Int) (a : Nat) : AObj := .box [.p (.sl 1 (l.map (.int .i64))), .p (.int .i64 a)]
theorem loop1009a (l : List Int) (hl : l.length ≤ 800) (bc : Int) (bv : ByteArray) (n : Nat) (hn : n ≤ 5) (hn1 : 1 ≤ n) :
    ∀ (k a : Nat) (ts : List Tr), ts.length + k = n → a ≤ l.length → (∀ t ∈ ts, t.thin ∧ errT t = 0) →
    ∃ (ts' : List Tr) (a' : Nat), a' ≤ l.length ∧ ts'.length = n ∧ (∀ t ∈ ts', t.thin ∧ errT t = 0) ∧
    loopW E 0 [3, 4, 5, 6, 7, 8, 9] [.loc 1 1 0, .loc 1 1 1, .loc 1 1 2, .loc 1 1 3, .loc 3 2 0, .loc 4 0 0, .loc 4 0 1, .loc 5 0 0, .loc 5 1 0] (.trim [3, 4, 5, 6, 7, 8, 9] [2] [(0, [4, 5, 6, 7, 8])] [.loc 1 1 0, .loc 1 1 1, .loc 1 1 2, .loc 1 1 3, .loc 3 2 0, .loc 4 0 0, .loc 4 0 1, .loc 5 0 0, .loc 5 1 0] s1009_2) (some ⟨[(3, .ptr (.loc 1 1 0) 0), (4, .p (.int .i64 n)), (5, .ptr (.loc 3 2 0) 0), (6, .ptr (.loc 4 0 0) 0), (7, .hsl (.loc 5 0 0) 0 ts.length), (8, .hsl (.loc 5 1 0) 0 ts.length), (9, .p (.int .i64 ts.length))],
      [(.loc 1 1 0, some (.box [.p (.sl 1 (l.map (.int .i64))), .p (.int .i64 a)])), (.loc 1 1 1, none), (.loc 1 1 2, none), (.loc 1 1 3, none), (.loc 3 2 0, some (.box [.p (.int .i64 bc), .p (.str bv)])), (.loc 4 0 0, some (.box [.hsl (.loc 4 0 1) 0 ts.length])), (.loc 4 0 1, some (.parr ((ts.map memT).map Mem.pv) 4 false)), (.loc 5 0 0, some (.parr ((ts.mapIdx (voteE ⟨bc, bv⟩)).map Evl.pv) 15 false)), (.loc 5 1 0, some (.parr ((ts.mapIdx (acceE ⟨bc, bv⟩)).map Evl.pv) 15 false))]⟩) =
    some (.ex 0, ⟨[(4, .p (.int .i64 n)), (5, .ptr (.loc 3 2 0) 0), (6, .ptr (.loc 4 0 0) 0), (7, .hsl (.loc 5 0 0) 0 ts'.length), (8, .hsl (.loc 5 1 0) 0 ts'.length)],
      [(.loc 1 1 0, some (.box [.p (.sl 1 (l.map (.int .i64))), .p (.int .i64 a')])), (.loc 1 1 1, none), (.loc 1 1 2, none), (.loc 1 1 3, none), (.loc 3 2 0, some (.box [.p (.int .i64 bc), .p (.str bv)])), (.loc 4 0 0, some (.box [.hsl (.loc 4 0 1) 0 ts'.length])), (.loc 4 0 1, some (.parr ((ts'.map memT).map Mem.pv) 4 false)), (.loc 5 0 0, some (.parr ((ts'.mapIdx (voteE ⟨bc, bv⟩)).map Evl.pv) 15 false)), (.loc 5 1 0, some (.parr ((ts'.mapIdx (acceE ⟨bc, bv⟩)).map Evl.pv) 15 false))]⟩) := by
  generalize hK : loopW E 0 _ _ _ = K
  intro k
  induction k with
  | zero =>
    intro a ts hk ha hT
    refine ⟨ts, a, ha, by omega, hT, ?_⟩
    have f1 : ¬ (ts.length : Int) < n := by omega
    rw [← hK, loopW_some, hK]
    simp -implicitDefEqProofs only [go_sem, Nat.reduceEqDiff, Nat.reduceAdd, Nat.reduceLeDiff, Nat.reduceLT, reduceCtorEq, ↓reduceIte, Nat.reduceBEq, Int.reduceLT, Int.reduceLE, Int.reduceNeg, Int.reduceEq, Int.toNat_natCast, cast_lit, Int.reduceToNat, s1009_2, s1009_1, f1]
  | succ k ih =>
    intro a ts hk ha hT
    obtain ⟨f1, f2, f3⟩ := rangeFacts ts.length n (by omega) (by omega)
    have e1 := e29 (E := E) l a n hl ha (by omega) hn1
    have tg := trG_ok l a n hn1 (by omega)
    have l1 := trG_le l a n ha
    generalize trG l a n = tt at *
    obtain ⟨t, a1⟩ := tt
    dsimp only at e1 tg l1
    obtain ⟨ts', a', r1, r2, r3, r4⟩ := ih a1 (ts ++ [t]) (by simp; omega) l1 (by
      intro x hx
      rcases List.mem_append.1 hx with hx | hx
      · exact hT x hx
      · rw [List.mem_singleton.1 hx]; exact ⟨tg.thin, tg.ok⟩)
    refine ⟨ts', a', r1, r2, r3, ?_⟩
    have hm : ts.length + 1 ≤ most := by unfold most; omega
    simp only [List.map_append, List.map_cons, List.map_nil, List.length_append, List.length_cons, List.length_nil, Nat.zero_add, List.mapIdx_append, List.mapIdx_cons, List.mapIdx_nil, voteE, acceE, accE, memT, Mem.pv, Evl.pv, Bal.zero] at r4
    unfold Tr.pv at e1
    rw [← hK, loopW_some, hK]
    simp -implicitDefEqProofs only [go_sem, Nat.reduceEqDiff, Nat.reduceAdd, Nat.reduceLeDiff, Nat.reduceLT, reduceCtorEq, ↓reduceIte, Nat.reduceBEq, Int.reduceLT, Int.reduceLE, Int.reduceNeg, Int.reduceEq, Int.toNat_natCast, cast_lit, Int.reduceToNat, s1009_2, s1009_1, f1, f2, f3, e1, hm, List.length_map, List.length_mapIdx]
    exact r4
def trAt (ts : List Tr) (j : Nat) : Tr := (ts[j]?).getD ⟨0, [], []⟩
theorem trAt_some {ts : List Tr} {j : Nat} (h : j < ts.length) : ts[j]? = some (trAt ts j) := by
  have : ts[j]? = some ts[j] := by simp [h]
  rw [trAt, this]; rfl
theorem loop1009b (bc : Int) (bv : ByteArray) (n : Nat) (hn : n ≤ 5) (q : Nat) (hq : q < 1024) (ts : List Tr) (ht : ts.length = n) :
    ∀ (k i : Nat), i + k = n →
    loopW E 0 [4, 5, 6, 7, 8, 12, 13, 14, 15] [.loc 3 2 0, .loc 4 0 0, .loc 4 0 1, .loc 5 0 0, .loc 5 1 0, .loc 16 0 0, .loc 16 1 0] (.trim [4, 5, 6, 7, 8, 12, 13, 14, 15] [2] [(2, [4, 5, 6, 12, 13, 14])] [.loc 3 2 0, .loc 4 0 0, .loc 4 0 1, .loc 5 0 0, .loc 5 1 0, .loc 16 0 0, .loc 16 1 0] s1009_6) (some ⟨[(4, .p (.int .i64 n)), (5, .ptr (.loc 3 2 0) 0), (6, .ptr (.loc 4 0 0) 0), (7, .hsl (.loc 5 0 0) 0 ts.length), (8, .hsl (.loc 5 1 0) 0 ts.length), (12, .p (.int .i64 q)), (13, .hsl (.loc 16 0 0) 0 (sel q (voteE ⟨bc, bv⟩) (trAt ts) i).length), (14, .hsl (.loc 16 1 0) 0 (sel q (acceE ⟨bc, bv⟩) (trAt ts) i).length), (15, .p (.int .i64 i))],
      [(.loc 3 2 0, some (.box [.p (.int .i64 bc), .p (.str bv)])), (.loc 4 0 0, some (.box [.hsl (.loc 4 0 1) 0 ts.length])), (.loc 4 0 1, some (.parr ((ts.map memT).map Mem.pv) 4 true)), (.loc 5 0 0, some (.parr ((ts.mapIdx (voteE ⟨bc, bv⟩)).map Evl.pv) 15 false)), (.loc 5 1 0, some (.parr ((ts.mapIdx (acceE ⟨bc, bv⟩)).map Evl.pv) 15 false)), (.loc 16 0 0, some (.parr ((sel q (voteE ⟨bc, bv⟩) (trAt ts) i).map Evl.pv) 15 false)), (.loc 16 1 0, some (.parr ((sel q (acceE ⟨bc, bv⟩) (trAt ts) i).map Evl.pv) 15 false))]⟩) =
    some (.ex 2, ⟨[(4, .p (.int .i64 n)), (5, .ptr (.loc 3 2 0) 0), (6, .ptr (.loc 4 0 0) 0), (12, .p (.int .i64 q)), (13, .hsl (.loc 16 0 0) 0 (sel q (voteE ⟨bc, bv⟩) (trAt ts) n).length), (14, .hsl (.loc 16 1 0) 0 (sel q (acceE ⟨bc, bv⟩) (trAt ts) n).length)],
      [(.loc 3 2 0, some (.box [.p (.int .i64 bc), .p (.str bv)])), (.loc 4 0 0, some (.box [.hsl (.loc 4 0 1) 0 ts.length])), (.loc 4 0 1, some (.parr ((ts.map memT).map Mem.pv) 4 true)), (.loc 5 0 0, some (.parr ((ts.mapIdx (voteE ⟨bc, bv⟩)).map Evl.pv) 15 false)), (.loc 5 1 0, some (.parr ((ts.mapIdx (acceE ⟨bc, bv⟩)).map Evl.pv) 15 false)), (.loc 16 0 0, some (.parr ((sel q (voteE ⟨bc, bv⟩) (trAt ts) n).map Evl.pv) 15 false)), (.loc 16 1 0, some (.parr ((sel q (acceE ⟨bc, bv⟩) (trAt ts) n).map Evl.pv) 15 false))]⟩) := by
  generalize hK : loopW E 0 _ _ _ = K
  intro k
  induction k with
  | zero =>
    intro i hi
    have : i = n := by omega
    subst this
    have f1 : ¬ (i : Int) < i := by omega
    rw [← hK, loopW_some, hK]
    simp -implicitDefEqProofs only [go_sem, Nat.reduceEqDiff, Nat.reduceAdd, Nat.reduceLeDiff, Nat.reduceLT, reduceCtorEq, ↓reduceIte, Nat.reduceBEq, Int.reduceLT, Int.reduceLE, Int.reduceNeg, Int.reduceEq, Int.toNat_natCast, cast_lit, Int.reduceToNat, s1009_6, s1009_5, s1009_4, f1]
  | succ k ih =>
    intro i hi
    obtain ⟨f1, f2, f3⟩ := rangeFacts i n (by omega) (by omega)
    have f4 : ¬ (i : Int) < 0 := by omega
    have w0 := u64N i (by omega)
    have w1 := shrB q i (by omega) (by omega)
    have w2 := bitB q i (by omega)
    have hi' : i < ts.length := by omega
    have hx := trAt_some hi'
    have hx1 : (ts.mapIdx (voteE ⟨bc, bv⟩))[i]? = some (voteE ⟨bc, bv⟩ i (trAt ts i)) := by rw [List.getElem?_mapIdx, hx]; rfl
    have hx2 : (ts.mapIdx (acceE ⟨bc, bv⟩))[i]? = some (acceE ⟨bc, bv⟩ i (trAt ts i)) := by rw [List.getElem?_mapIdx, hx]; rfl
    have r := ih (i + 1) (by omega)
    have s1 := sel_len q (voteE ⟨bc, bv⟩) (trAt ts) i
    have s2 := sel_len q (acceE ⟨bc, bv⟩) (trAt ts) i
    have m1 : (sel q (voteE ⟨bc, bv⟩) (trAt ts) i).length + 1 ≤ most := by unfold most; omega
    have m2 : (sel q (acceE ⟨bc, bv⟩) (trAt ts) i).length + 1 ≤ most := by unfold most; omega
    have m3 : 0 + ts.length ≤ ts.length := by omega
    rw [sel_succ, sel_succ] at r
    cases hbit : q.testBit i with
    | true =>
      rw [hbit] at w2 r
      simp only [if_true, List.map_append, List.map_cons, List.map_nil, List.length_append, List.length_cons, List.length_nil, Nat.zero_add, voteE, acceE, accE, Evl.pv, Bal.zero] at r
      rw [← hK, loopW_some, hK]
      simp -implicitDefEqProofs only [go_sem, Nat.reduceEqDiff, Nat.reduceAdd, Nat.reduceLeDiff, Nat.reduceLT, reduceCtorEq, ↓reduceIte, Nat.reduceBEq, Int.reduceLT, Int.reduceLE, Int.reduceNeg, Int.reduceEq, Int.toNat_natCast, cast_lit, Int.reduceToNat, s1009_6, s1009_5, s1009_4, f1, f2, f3, f4, w0, w1, w2, hx1, hx2, hi', m1, m2, m3, Bool.toNat_true, Int.natCast_one, List.length_mapIdx, voteE, acceE, accE, Evl.pv, Bal.zero, entPg, footV, footO, readsT, opds, opdT, guardT, AV.whole, wholeL, objWhole, List.isEmpty_nil, List.isEmpty_cons]
      exact r
    | false =>
      rw [hbit] at w2 r
      simp only [Bool.false_eq_true, if_false] at r
      rw [← hK, loopW_some, hK]
      simp -implicitDefEqProofs only [go_sem, Nat.reduceEqDiff, Nat.reduceAdd, Nat.reduceLeDiff, Nat.reduceLT, reduceCtorEq, ↓reduceIte, Nat.reduceBEq, Int.reduceLT, Int.reduceLE, Int.reduceNeg, Int.reduceEq, Int.toNat_natCast, cast_lit, Int.reduceToNat, s1009_6, s1009_5, s1009_4, f1, f2, f3, f4, w0, w1, w2, Bool.toNat_false, Int.natCast_zero]
      exact r
theorem loop1009c (bc : Int) (bv : ByteArray) (n : Nat) (hn : n ≤ 5) (q : Nat) (hq : q < 1024) (ts : List Tr) (ht : ts.length = n) (v a : List Evl) (hv : v.length ≤ 10) (ha : a.length ≤ 10) (hvt : ∀ e ∈ v, e.t.thin) (hat : ∀ e ∈ a, e.t.thin) (htt : ∀ j, j < n → (trAt ts j).thin)
    (hl : ∀ i, q.testBit i = true → acceptW i (trAt ts i) v ⟨bc, bv⟩ = true ∧ confirmW i (trAt ts i) a ⟨bc, bv⟩ = true ∧ confirmW i (trAt ts i) v ⟨bc, bv⟩ = false) :
    ∀ (k i : Nat) (z1 z2 : Bool), i + k = n → ∃ z1' z2' : Bool,
    loopW E 0 [4, 5, 6, 12, 13, 14, 16] [.loc 3 2 0, .loc 4 0 0, .loc 4 0 1, .loc 16 0 0, .loc 16 1 0] (.trim [4, 5, 6, 12, 13, 14, 16] [2] [(4, [])] [.loc 3 2 0, .loc 4 0 0, .loc 4 0 1, .loc 16 0 0, .loc 16 1 0] s1009_10) (some ⟨[(4, .p (.int .i64 n)), (5, .ptr (.loc 3 2 0) 0), (6, .ptr (.loc 4 0 0) 0), (12, .p (.int .i64 q)), (13, .hsl (.loc 16 0 0) 0 v.length), (14, .hsl (.loc 16 1 0) 0 a.length), (16, .p (.int .i64 i))],
      [(.loc 3 2 0, some (.box [.p (.int .i64 bc), .p (.str bv)])), (.loc 4 0 0, some (.box [.hsl (.loc 4 0 1) 0 ts.length])), (.loc 4 0 1, some (.parr ((ts.map memT).map Mem.pv) 4 true)), (.loc 16 0 0, some (.parr (v.map Evl.pv) 15 z1)), (.loc 16 1 0, some (.parr (a.map Evl.pv) 15 z2))]⟩) =
    some (.ex 4, ⟨[],
      [(.loc 3 2 0, some (.box [.p (.int .i64 bc), .p (.str bv)])), (.loc 4 0 0, some (.box [.hsl (.loc 4 0 1) 0 ts.length])), (.loc 4 0 1, some (.parr ((ts.map memT).map Mem.pv) 4 true)), (.loc 16 0 0, some (.parr (v.map Evl.pv) 15 z1')), (.loc 16 1 0, some (.parr (a.map Evl.pv) 15 z2'))]⟩) := by
  generalize hK : loopW E 0 _ _ _ = K
  intro k
  induction k with
  | zero =>
    intro i z1 z2 hi
    have : i = n := by omega
    subst this
    refine ⟨z1, z2, ?_⟩
    have f1 : ¬ (i : Int) < i := by omega
    rw [← hK, loopW_some, hK]
    simp -implicitDefEqProofs only [go_sem, Nat.reduceEqDiff, Nat.reduceAdd, Nat.reduceLeDiff, Nat.reduceLT, reduceCtorEq, ↓reduceIte, Nat.reduceBEq, Int.reduceLT, Int.reduceLE, Int.reduceNeg, Int.reduceEq, Int.toNat_natCast, cast_lit, Int.reduceToNat, s1009_10, s1009_9, s1009_8, f1]
  | succ k ih =>
    intro i z1 z2 hi
    obtain ⟨f1, f2, f3⟩ := rangeFacts i n (by omega) (by omega)
    have f4 : ¬ (i : Int) < 0 := by omega
    have w0 := u64N i (by omega)
    have w1 := shrB q i (by omega) (by omega)
    have w2 := bitB q i (by omega)
    have hi' : i < ts.length := by omega
    have hx := trAt_some hi'
    have m3 : 0 + ts.length ≤ ts.length := by omega
    cases hbit : q.testBit i with
    | true =>
      rw [hbit] at w2
      obtain ⟨z1', z2', r⟩ := ih (i + 1) true true (by omega)
      refine ⟨z1', z2', ?_⟩
      have g1 := e41 (E := E) i (by omega) (trAt ts i) v ⟨bc, bv⟩ (htt i (by omega)) (by omega) hvt
      have g2 := e42 (E := E) i (by omega) (trAt ts i) a ⟨bc, bv⟩ (htt i (by omega)) (by omega) hat
      have g3 := e42 (E := E) i (by omega) (trAt ts i) v ⟨bc, bv⟩ (htt i (by omega)) (by omega) hvt
      obtain ⟨q1, q2, q3⟩ := hl i hbit
      rw [q1] at g1
      rw [q2] at g2
      rw [q3] at g3
      unfold Tr.pv at g1 g2 g3
      rw [← hK, loopW_some, hK]
      simp -implicitDefEqProofs only [go_sem, Nat.reduceEqDiff, Nat.reduceAdd, Nat.reduceLeDiff, Nat.reduceLT, reduceCtorEq, ↓reduceIte, Nat.reduceBEq, Int.reduceLT, Int.reduceLE, Int.reduceNeg, Int.reduceEq, Int.toNat_natCast, cast_lit, Int.reduceToNat, s1009_10, s1009_9, s1009_8, f1, f2, f3, f4, w0, w1, w2, hx, hi', m3, g1, g2, g3, Bool.toNat_true, Int.natCast_one, memT, Mem.pv, List.length_map]
      exact r
    | false =>
      rw [hbit] at w2
      obtain ⟨z1', z2', r⟩ := ih (i + 1) z1 z2 (by omega)
      refine ⟨z1', z2', ?_⟩
      rw [← hK, loopW_some, hK]
      simp -implicitDefEqProofs only [go_sem, Nat.reduceEqDiff, Nat.reduceAdd, Nat.reduceLeDiff, Nat.reduceLT, reduceCtorEq, ↓reduceIte, Nat.reduceBEq, Int.reduceLT, Int.reduceLE, Int.reduceNeg, Int.reduceEq, Int.toNat_natCast, cast_lit, Int.reduceToNat, s1009_10, s1009_9, s1009_8, f1, f2, f3, f4, w0, w1, w2, Bool.toNat_false, Int.natCast_zero]
      exact r
theorem law1009 (zs : List Int) : callW E 1009 [.p (.sl 1 (zs.map (.int .i64)))] [] = some ⟨.p (.bool true), [], []⟩ := by
  have e0 := e17 (E := E) zs
  have hl : (zs.take 800).length ≤ 800 := by simp; omega
  generalize zs.take 800 = l at *
  have e1 := e31 (E := E) l 0 1 5 hl (by omega) (by omega) (by omega) (by omega) (by omega)
  simp only [show (5 : Int) - 1 + 1 = 5 from _root_.id rfl] at e1
  have b1 := dV_nonneg l 0 5
  have b2 := dV_lt l 0 5 (by decide)
  have l1 := dA_le l 0 5 (by omega)
  obtain ⟨n, hn⟩ : ∃ n : Nat, 1 + dV l 0 5 = n := ⟨(1 + dV l 0 5).toNat, by omega⟩
  rw [hn] at e1
  have hn1 : 1 ≤ n := by omega
  have hn5 : n ≤ 5 := by omega
  generalize dA l 0 5 = a1 at *
  have e2 := e39 (E := E) l a1 hl l1
  have b3 := dV_nonneg l a1 6
  have b4 := dV_lt l a1 6 (by decide)
  have l2 := dA_le l _ 4 (dA_le l a1 6 l1)
  have hv := isVal_dV l (dA l a1 6)
  generalize valN (dV l (dA l a1 6) 4) = bv at *
  generalize dA l (dA l a1 6) 4 = a2 at *
  have hbf : finite ⟨1 + dV l a1 6, bv⟩ = true := finite_mk (by omega) (by omega) hv
  have hbz : zeroB ⟨1 + dV l a1 6, bv⟩ = false := nonzero (by show 1 ≤ 1 + dV l a1 6; omega)
  generalize 1 + dV l a1 6 = bc at *
  obtain ⟨ts, a3, l3, hts, hT, lp1⟩ := loop1009a (E := E) l hl bc bv n hn5 hn1 n a2 [] (by simp) l2 (by simp)
  simp only [List.map_nil, List.length_nil, List.mapIdx_nil, Int.natCast_zero] at lp1
  have hp : 2 ^ n ≤ 32 := Nat.le_trans (Nat.pow_le_pow_right (n := 2) (by decide) hn5) (by decide)
  have hp1 := Nat.two_pow_pos n
  have hs : 2 ^ n - 1 < 1024 := by omega
  have hc : ConfOk (ts.map memT) := ⟨by simp; omega, by
    intro m hm
    obtain ⟨t, ht, rfl⟩ := List.mem_map.1 hm
    exact (hT t ht).1⟩
  have e3 := e209 (E := E) (ts.map memT) hc (2 ^ n - 1) hs
  have w1 := shl1 n (by omega)
  have w2 : IntKind.i64.wrap (((2 ^ n : Nat) : Int) - 1) = ((2 ^ n - 1 : Nat) : Int) := by rw [wrap64 (by omega) (by omega)]; omega
  have w0 := u64N n (by omega)
  have hqq := great_quorum (ts.map memT) (2 ^ n - 1)
  have hq := great_lt (ts.map memT) (2 ^ n - 1)
  generalize great (ts.map memT) (2 ^ n - 1) = q at *
  have hqn : ∀ j, q.testBit j = true → j < n ∧ satT q (trAt ts j) = true := by
    intro j hj
    obtain ⟨m, h1, h2, h3⟩ := hqq j hj
    rw [List.getElem?_map] at h1
    cases ht : ts[j]? with
    | none => rw [ht] at h1; cases h1
    | some t =>
      rw [ht] at h1
      cases h1
      have := (List.getElem?_eq_some_iff.1 ht).1
      refine ⟨by omega, ?_⟩
      rw [trAt, ht]; exact h3
  have hTt : ∀ j, j < n → (trAt ts j).thin ∧ errT (trAt ts j) = 0 := by
    intro j hj
    exact hT _ (List.mem_of_getElem? (trAt_some (by omega)))
  have laws : ∀ i, q.testBit i = true → _ := fun i hi => quorum_laws (q := q) (n := n) (b := ⟨bc, bv⟩) (T := trAt ts) (fun j hj => (hTt j hj).2) hbf hbz (fun j hj => (hqn j hj).1) (by omega) hq (fun j hj => (hqn j hj).2) i hi
  have lp2 := loop1009b (E := E) bc bv n hn5 q hq ts hts n 0 (by omega)
  have hs0 : ∀ f, sel q f (trAt ts) 0 = [] := fun _ => rfl
  have sv := sel_len q (voteE ⟨bc, bv⟩) (trAt ts) n
  have sa := sel_len q (acceE ⟨bc, bv⟩) (trAt ts) n
  have tv : ∀ e ∈ sel q (voteE ⟨bc, bv⟩) (trAt ts) n, e.t.thin := by
    intro e he
    obtain ⟨j, hj, _, rfl⟩ := sel_mem.1 he
    exact (hTt j hj).1
  have ta : ∀ e ∈ sel q (acceE ⟨bc, bv⟩) (trAt ts) n, e.t.thin := by
    intro e he
    obtain ⟨j, hj, _, rfl⟩ := sel_mem.1 he
    exact (hTt j hj).1
  obtain ⟨z1, z2, lp3⟩ := loop1009c (E := E) bc bv n hn5 q hq ts hts _ _ (by omega) (by omega) tv ta (fun j hj => (hTt j hj).1) laws n 0 false false (by omega)
  simp only [hs0, List.map_nil, List.length_nil, Int.natCast_zero] at lp2 lp3
  have es := e47 (E := E)
  have f4 : ¬ (n : Int) < 0 := by omega
  have htk : List.take ts.length ((ts.map memT).map Mem.pv) = (ts.map memT).map Mem.pv := List.take_of_length_le (by simp)
  simp only [cast_lit, Int.natCast_zero] at e0 e1
  unfold confPv at e3
  rw [callW_eq, EnvS.h 1009 F1009 rfl]
  simp -implicitDefEqProofs only [go_sem, Nat.reduceEqDiff, Nat.reduceAdd, Nat.reduceLeDiff, Nat.reduceLT, reduceCtorEq, ↓reduceIte, Nat.reduceBEq, Int.reduceLT, Int.reduceLE, Int.reduceNeg, Int.reduceEq, Int.toNat_natCast, cast_lit, Int.reduceToNat, F1009, s1009, s1009_3, s1009_7, s1009_11, e0, e1, e2, lp1, w0, w1, w2, f4, htk, e3, lp2, lp3, es]
end Go.Ab.S
