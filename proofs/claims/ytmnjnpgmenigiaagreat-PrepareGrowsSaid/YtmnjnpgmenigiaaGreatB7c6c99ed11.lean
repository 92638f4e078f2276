/- A part of the proof: an executor over plain data, shown sound for the model, and what it computes of the functions. -/
import Derived.Test.YtmnjnpgmenigiaaGreatB10774b5256
import Derived.Test.YtmnjnpgmenigiaaGreatB910c02cb16
import Derived.Laws.Strings
import Derived.Sort.AssemblyPlain
set_option linter.all false
namespace Go.Ab.S
open Go Go.Ab
variable {E : Env} [EnvS E]

/-- The envelopes that are made. -/
structure EnvG (n : Nat) (e : Evl) : Prop where
  valid : validE e = true
  t : TrG n e.t
  s1 : 1 ≤ e.seq
  s9 : e.seq ≤ 9
  v : isVal e.b.v
  c1 : 1 ≤ e.b.c
  c7 : e.b.c ≤ 7
set_option maxHeartbeats 1000000 in
theorem e76 (l : List Int) (a : Nat) (node slot : Int) (n : Nat) (hl : l.length ≤ 800) (ha : a ≤ l.length) (hn : 1 ≤ n) (hn' : n ≤ 10) (hd : 0 ≤ node) (hd' : node < 10) (hs : 1 ≤ slot) (hs' : slot ≤ 1000000) :
    ∃ (e : Evl) (a' : Nat), a' ≤ l.length ∧ EnvG n e ∧ e.node = node ∧ e.slot = slot ∧ callW E 76 [.ptr (.ext 0) 0, .p (.int .i64 node), .p (.int .i64 slot), .p (.int .i64 n)] [.box [.p (.sl 1 (l.map (.int .i64))), .p (.int .i64 a)]] = some ⟨.p e.pv, [.box [.p (.sl 1 (l.map (.int .i64))), .p (.int .i64 a')]], []⟩ := by
  have e1 := e31 (E := E) l a 1 9 hl ha (by omega) (by omega) (by omega) (by omega)
  simp only [show (9 : Int) - 1 + 1 = 9 from rfl] at e1
  have l1 := dA_le l a 9 ha
  have b1 := dV_nonneg l a 9
  have b2 := dV_lt l a 9 (by decide)
  have e2 := e29 (E := E) l (dA l a 9) n hl l1 hn' hn
  have l2 := trG_le l (dA l a 9) n l1
  have tg := trG_ok l (dA l a 9) n hn hn'
  generalize htt : trG l (dA l a 9) n = tt at *
  obtain ⟨t, x2⟩ := tt
  dsimp only at e2 l2 tg
  have e3 := e30 (E := E) l x2 hl l2
  have l3 := dA_le l x2 4 l2
  have hv := isVal_dV l x2
  generalize hvv : valN (dV l x2 4) = v at *
  generalize hx3 : dA l x2 4 = x3 at *
  have e4 := e28 (E := E) l x3 4 hl l3 (by omega)
  have l4 := dA_le l x3 4 l3
  generalize hx4 : dA l x3 4 = x4 at *
  have b3 := dV_nonneg l x3 4
  generalize hsw : dV l x3 4 = sw at *
  have hz : zeroB Bal.zero = true := by decide
  have hh : ∀ k b p q lo hi, headE ⟨node, slot, 1 + dV l a 9, t, k, b, p, q, lo, hi⟩ = true := by
    intro k b p q lo hi
    simp [headE, tg.ok]
    omega
  by_cases c0 : sw = 0
  · -- commit
    have f1 := e31 (E := E) l x4 1 7 hl l4 (by omega) (by omega) (by omega) (by omega)
    simp only [show (7 : Int) - 1 + 1 = 7 from rfl] at f1
    have m1 := dA_le l x4 7 l4
    have d1 := dV_nonneg l x4 7
    have d1' := dV_lt l x4 7 (by decide)
    generalize hx5 : dA l x4 7 = x5 at *
    have f2 := e31 (E := E) l x5 1 4 hl m1 (by omega) (by omega) (by omega) (by omega)
    simp only [show (4 : Int) - 1 + 1 = 4 from rfl] at f2
    have m2 := dA_le l x5 4 m1
    have d2 := dV_nonneg l x5 4
    have d2' := dV_lt l x5 4 (by decide)
    generalize hx6 : dA l x5 4 = x6 at *
    have f3 := e28 (E := E) l x6 3 hl m2 (by omega)
    have m3 := dA_le l x6 3 m2
    have d3 := dV_nonneg l x6 3
    have d3' := dV_lt l x6 3 (by decide)
    generalize hx7 : dA l x6 3 = x7 at *
    have f4 := e28 (E := E) l x7 3 hl m3 (by omega)
    have m4 := dA_le l x7 3 m3
    have d4 := dV_nonneg l x7 3
    have d4' := dV_lt l x7 3 (by decide)
    generalize hx8 : dA l x7 3 = x8 at *
    have w1 : IntKind.i64.wrap (1 + dV l x5 4 + dV l x6 3) = 1 + dV l x5 4 + dV l x6 3 := wrap64 (by omega) (by omega)
    have w2 : IntKind.i64.wrap (1 + dV l x5 4 + dV l x6 3 + dV l x7 3) = 1 + dV l x5 4 + dV l x6 3 + dV l x7 3 := wrap64 (by omega) (by omega)
    refine ⟨⟨node, slot, 1 + dV l a 9, t, 2, ⟨1 + dV l x4 7, v⟩, ⟨1 + dV l x5 4 + dV l x6 3 + dV l x7 3, v⟩, Bal.zero, 1 + dV l x5 4, 1 + dV l x5 4 + dV l x6 3⟩, x8, m4, ⟨?_, tg, by show 1 ≤ 1 + dV l a 9; omega, by show 1 + dV l a 9 ≤ 9; omega, hv, by show 1 ≤ 1 + dV l x4 7; omega, by show 1 + dV l x4 7 ≤ 7; omega⟩, rfl, rfl, ?_⟩
    · have q1 := finite_mk (c := 1 + dV l x4 7) (by omega) (by omega) hv
      have q2 := finite_mk (c := 1 + dV l x5 4 + dV l x6 3 + dV l x7 3) (by omega) (by omega) hv
      simp only [finite, Bool.and_eq_true] at q2
      unfold validE
      rw [hh]
      simp [q1, q2.1, hz, ranged]
      omega
    · rw [callW_eq, EnvS.h 76 F76 rfl]
      unfold Evl.pv
      simp only [Tr.pv] at e2
      simp -implicitDefEqProofs only [go_sem, F76, s76, s76_10, s76_4, s76_2, s76_1, s76_3, s76_6, s76_5, s76_7, s76_8, s76_9, e1, e2, e3, e4, c0, f1, f2, f3, f4, w1, w2, Bal.zero]
  · have dflt := chunk76c (E := E) l
    by_cases c1 : sw = 1
    · have f0 := e28 (E := E) l x4 3 hl l4 (by omega)
      have m0 := dA_le l x4 3 l4
      generalize hy0 : dA l x4 3 = y0 at *
      by_cases c2 : 0 < dV l x4 3
      · -- external
        have f1 := e31 (E := E) l y0 1 7 hl m0 (by omega) (by omega) (by omega) (by omega)
        simp only [show (7 : Int) - 1 + 1 = 7 from rfl] at f1
        have m1 := dA_le l y0 7 m0
        have d1 := dV_nonneg l y0 7
        have d1' := dV_lt l y0 7 (by decide)
        generalize hx5 : dA l y0 7 = x5 at *
        have f2 := e31 (E := E) l x5 1 4 hl m1 (by omega) (by omega) (by omega) (by omega)
        simp only [show (4 : Int) - 1 + 1 = 4 from rfl] at f2
        have m2 := dA_le l x5 4 m1
        have d2 := dV_nonneg l x5 4
        have d2' := dV_lt l x5 4 (by decide)
        generalize hx6 : dA l x5 4 = x6 at *
        have f3 := e28 (E := E) l x6 3 hl m2 (by omega)
        have m3 := dA_le l x6 3 m2
        have d3 := dV_nonneg l x6 3
        have d3' := dV_lt l x6 3 (by decide)
        generalize hx7 : dA l x6 3 = x7 at *
        have w1 : IntKind.i64.wrap (1 + dV l x5 4 + dV l x6 3) = 1 + dV l x5 4 + dV l x6 3 := wrap64 (by omega) (by omega)
        refine ⟨⟨node, slot, 1 + dV l a 9, t, 3, ⟨1 + dV l y0 7, v⟩, Bal.zero, Bal.zero, 1 + dV l x5 4, 1 + dV l x5 4 + dV l x6 3⟩, x7, m3, ⟨?_, tg, by show 1 ≤ 1 + dV l a 9; omega, by show 1 + dV l a 9 ≤ 9; omega, hv, by show 1 ≤ 1 + dV l y0 7; omega, by show 1 + dV l y0 7 ≤ 7; omega⟩, rfl, rfl, ?_⟩
        · have q1 := finite_mk (c := 1 + dV l y0 7) (by omega) (by omega) hv
          simp only [finite, Bool.and_eq_true] at q1
          unfold validE
          rw [hh]
          simp [q1.1, hz, ranged]
          omega
        · rw [callW_eq, EnvS.h 76 F76 rfl]
          unfold Evl.pv
          simp only [Tr.pv] at e2
          simp -implicitDefEqProofs only [go_sem, F76, s76, s76_10, s76_4, s76_2, s76_1, s76_3, s76_6, s76_5, s76_7, s76_8, s76_9, e1, e2, e3, e4, c0, c1, c2, f0, f1, f2, f3, w1, Bal.zero]
      · obtain ⟨e', a', q0, q1, q2, q3, q4, q5, q6, q7, q8, q9, hc⟩ := dflt y0 ⟨node, slot, 1 + dV l a 9, t, 0, ⟨0, v⟩, Bal.zero, Bal.zero, 0, 0⟩ (hh ..) tg.thin hv rfl hl m0
        refine ⟨e', a', q0, ⟨q1, by rw [q5]; exact tg, by rw [q4]; show 1 ≤ 1 + dV l a 9; omega, by rw [q4]; show 1 + dV l a 9 ≤ 9; omega, by rw [q7]; exact hv, q8, q9⟩, q2, q3, ?_⟩
        rw [callW_eq, EnvS.h 76 F76 rfl]
        simp only [Tr.pv] at e2
        unfold Evl.pv
        replace hc := fun T H => hc T H ByteArray.empty 0
        unfold Evl.av av0 Bal.zero at hc
        dsimp only at hc
        simp -implicitDefEqProofs only [go_sem, ↓hc, F76, s76, s76_10, s76_4, s76_2, s76_1, s76_3, e1, e2, e3, e4, c0, c1, c2, f0, tg.thin]
    · obtain ⟨e', a', q0, q1, q2, q3, q4, q5, q6, q7, q8, q9, hc⟩ := dflt x4 ⟨node, slot, 1 + dV l a 9, t, 0, ⟨0, v⟩, Bal.zero, Bal.zero, 0, 0⟩ (hh ..) tg.thin hv rfl hl l4
      refine ⟨e', a', q0, ⟨q1, by rw [q5]; exact tg, by rw [q4]; show 1 ≤ 1 + dV l a 9; omega, by rw [q4]; show 1 + dV l a 9 ≤ 9; omega, by rw [q7]; exact hv, q8, q9⟩, q2, q3, ?_⟩
      rw [callW_eq, EnvS.h 76 F76 rfl]
      simp only [Tr.pv] at e2
      unfold Evl.pv
      replace hc := fun T H => hc T H ByteArray.empty 0
      unfold Evl.av av0 Bal.zero at hc
      dsimp only at hc
      simp -implicitDefEqProofs only [go_sem, ↓hc, F76, s76, s76_10, s76_4, s76_2, s76_1, s76_3, e1, e2, e3, e4, c0, c1, tg.thin]
end Go.Ab.S

/-! The order of ballots. -/
namespace Go.Ab.S
open Go Go.Ab

theorem bl_irrefl : ∀ x : List UInt8, Op.bytesLess x x = false
  | [] => rfl
  | a :: x => by simp [Op.bytesLess, bl_irrefl x]
theorem bl_trans : ∀ x y z : List UInt8, Op.bytesLess x y = true → Op.bytesLess y z = true → Op.bytesLess x z = true
  | x, [], z, h, _ => by cases x <;> simp [Op.bytesLess] at h
  | _, b :: y, [], _, h => by simp [Op.bytesLess] at h
  | [], b :: y, c :: z, _, _ => rfl
  | a :: x, b :: y, c :: z, h, h2 => by
    simp only [Op.bytesLess, Bool.or_eq_true, Bool.and_eq_true, decide_eq_true_eq, beq_iff_eq] at h h2 ⊢
    rcases h with h | ⟨rfl, h⟩
    · rcases h2 with h2 | ⟨rfl, h2⟩
      · exact .inl (UInt8.lt_trans h h2)
      · exact .inl h
    · rcases h2 with h2 | ⟨rfl, h2⟩
      · exact .inl h2
      · exact .inr ⟨rfl, bl_trans x y z h h2⟩
theorem bl_total : ∀ x y : List UInt8, Op.bytesLess x y = false → Op.bytesLess y x = false → x = y
  | [], [], _, _ => rfl
  | [], b :: y, h, _ => by simp [Op.bytesLess] at h
  | a :: x, [], _, h => by simp [Op.bytesLess] at h
  | a :: x, b :: y, h, h2 => by
    simp only [Op.bytesLess, Bool.or_eq_false_iff, Bool.and_eq_false_iff, decide_eq_false_iff_not, beq_eq_false_iff_ne] at h h2
    have hab : a = b := by
      have h3 := h.1
      have h4 := h2.1
      rw [UInt8.lt_iff_toNat_lt] at h3 h4
      exact UInt8.toNat_inj.1 (by omega)
    subst hab
    have h3 : Op.bytesLess x y = false := by rcases h.2 with h | h <;> simp_all
    have h4 : Op.bytesLess y x = false := by rcases h2.2 with h | h <;> simp_all
    rw [bl_total x y h3 h4]
theorem ba_ext {a b : ByteArray} (h : a.toList = b.toList) : a = b := by
  rw [ByteArray.toList_eq, ByteArray.toList_eq] at h
  have h2 : a.data = b.data := Array.toList_inj.1 h
  cases a; cases b; simp_all
theorem lv_irrefl (a : ByteArray) : lessV a a = false := by simp [lessV, bl_irrefl]
theorem lv_trans {a b c : ByteArray} (h : lessV a b = true) (h2 : lessV b c = true) : lessV a c = true := by
  unfold lessV at *
  by_cases h3 : a.size = b.size
  · rw [if_pos h3] at h
    by_cases h4 : b.size = c.size
    · rw [if_pos h4] at h2
      rw [if_pos (h3.trans h4)]
      exact bl_trans _ _ _ h h2
    · rw [if_neg h4] at h2
      simp only [decide_eq_true_eq] at h2
      rw [if_neg (by omega)]
      simp; omega
  · rw [if_neg h3] at h
    simp only [decide_eq_true_eq] at h
    by_cases h4 : b.size = c.size
    · rw [if_neg (by omega)]
      simp; omega
    · rw [if_neg h4] at h2
      simp only [decide_eq_true_eq] at h2
      rw [if_neg (by omega)]
      simp; omega
theorem lv_total {a b : ByteArray} (h : lessV a b = false) (h2 : lessV b a = false) : a = b := by
  unfold lessV at *
  by_cases h3 : a.size = b.size
  · rw [if_pos h3] at h
    rw [if_pos h3.symm] at h2
    exact ba_ext (bl_total _ _ h h2)
  · rw [if_neg h3] at h
    rw [if_neg (fun h => h3 h.symm)] at h2
    simp at h h2
    omega
theorem less_irrefl (a : Bal) : less a a = false := by rw [less_eq]; simp [lv_irrefl]
theorem less_trans {a b c : Bal} (h : less a b = true) (h2 : less b c = true) : less a c = true := by
  rw [less_eq] at *
  by_cases h3 : a.c = b.c
  · rw [if_pos h3] at h
    by_cases h4 : b.c = c.c
    · rw [if_pos h4] at h2
      rw [if_pos (h3.trans h4)]
      exact lv_trans h h2
    · rw [if_neg h4] at h2
      simp only [decide_eq_true_eq] at h2
      rw [if_neg (by omega)]
      simp; omega
  · rw [if_neg h3] at h
    simp only [decide_eq_true_eq] at h
    by_cases h4 : b.c = c.c
    · rw [if_neg (by omega)]
      simp; omega
    · rw [if_neg h4] at h2
      simp only [decide_eq_true_eq] at h2
      rw [if_neg (by omega)]
      simp; omega
theorem less_total {a b : Bal} (h : less a b = false) (h2 : less b a = false) : a = b := by
  rw [less_eq] at *
  by_cases h3 : a.c = b.c
  · rw [if_pos h3] at h
    rw [if_pos h3.symm] at h2
    have := lv_total h h2
    cases a; cases b; simp_all
  · rw [if_neg h3] at h
    rw [if_neg (fun h => h3 h.symm)] at h2
    simp at h h2
    omega
/-! ### Joining -/
/-- What holds of the two greatest of some ballots. -/
structure JInv (p q : Bal) (all : List Bal) : Prop where
  pz : zeroB p = false
  qq : q = ⟨0, ByteArray.empty⟩ ∨ (zeroB q = false ∧ less q p = true ∧ q.v ≠ p.v)
  all : ∀ x ∈ all, prepares p q x = true
theorem covers_self {b : Bal} (h : zeroB b = false) : covers b b = true := by simp [covers, h]
end Go.Ab.S

namespace Go.Ab.S
open Go Go.Ab
variable {E : Env} [EnvS E]

theorem e47 : callW E 47 [] [] = some ⟨.p (.bool true), [], []⟩ := by
  have h0 := e36 (E := E) 2 1 (by decide)
  have h1 := e51 (E := E) ⟨2, ⟨#[97]⟩⟩ ⟨0, ByteArray.empty⟩ ⟨3, ⟨#[98]⟩⟩
  have h2 : join ⟨2, ⟨#[97]⟩⟩ ⟨0, ByteArray.empty⟩ ⟨3, ⟨#[98]⟩⟩ = (⟨3, ⟨#[98]⟩⟩, ⟨2, ⟨#[97]⟩⟩) := by decide +kernel
  have h3 := e53 (E := E) 0 ⟨1, upto 2 0, []⟩ [] ⟨by decide, by decide, by simp⟩ (by decide) (by simp)
  have h4 : (viewM 0 ⟨1, upto 2 0, []⟩ []) = ⟨true, ⟨1, upto 2 0, []⟩⟩ :: List.replicate 9 memZ := rfl
  rw [h2] at h1
  rw [h4] at h3
  unfold Tr.pv at h0 h3
  simp only [Bal.pv, cast_lit, confPv, List.map_cons, List.map_nil] at h0 h1 h3
  have hl : (List.map Mem.pv (List.replicate 9 memZ)).length + 1 = 10 := rfl
  rw [callW_eq, EnvS.h 47 F47 rfl]
  simp -implicitDefEqProofs only [go_sem, F47, s47, h0, h1, h3, Mem.pv, List.length_cons, hl, List.length_map, List.length_replicate, Nat.reduceAdd]
end Go.Ab.S

namespace Go.Ab.S
open Go Go.Ab
variable {E : Env} [EnvS E]

/-- Envelopes with which some nodes accept a ballot. -/
structure Acc5 (set : Nat) (b : Bal) (i : Nat) (l : List Evl) : Prop where
  thin : ∀ e ∈ l, e.t.thin
  len : l.length ≤ i + 1
  inn : ∀ j, 1 ≤ j → j < i → set.testBit j = true → ∃ e ∈ l, validE e = true ∧ accP e b = true ∧ e.node = (j : Int)
  out : ∀ e ∈ l, accP e b = true → ∃ j : Nat, set.testBit j = true ∧ e.node = (j : Int)
def accE (i : Nat) (t : Tr) (b : Bal) : Evl := ⟨i, 1, 1, t, 1, b, b, Bal.zero, 0, 0⟩
theorem accE_valid {i : Nat} {t : Tr} {b : Bal} (hi : i < 10) (ht : errT t = 0) (hb : finite b = true) : validE (accE i t b) = true := by
  have h := hb
  simp only [finite, Bool.and_eq_true, decide_eq_true_eq] at h
  obtain ⟨h1, h2⟩ := h
  have h3 : 1 ≤ b.c := by
    simp only [validB, Bool.and_eq_true, Bool.or_eq_true, decide_eq_true_eq] at h1; omega
  have hz : zeroB Bal.zero = true := by decide
  simp [accE, validE, headE, ht, prepE, hb, optional, h1, hz, primeE]
  exact ⟨decide_eq_true (by show (i : Int) < 10; omega), decide_eq_true (by show (0 : Int) ≤ b.c; omega)⟩
theorem accE_acc {i : Nat} {t : Tr} {b : Bal} (hb : zeroB b = false) : accP (accE i t b) b = true := by
  simp [accE, accP, hb, prepares, covers_self hb]
theorem Acc5.step {set : Nat} {b : Bal} {i : Nat} {l : List Evl} (h : Acc5 set b i l) {t : Tr} (ht : t.thin) (hok : errT t = 0) (hb : finite b = true) (hz : zeroB b = false) (hi : i < 10) (hs : set.testBit i = true) : Acc5 set b (i + 1) (l ++ [accE i t b]) where
  thin := by
    intro e he
    rcases List.mem_append.1 he with he | he
    · exact h.thin e he
    · rw [List.mem_singleton.1 he]; exact ht
  len := by have := h.len; simp; omega
  inn := by
    intro j h1 h2 h3
    rcases Nat.lt_or_eq_of_le (Nat.le_of_lt_succ h2) with h4 | h4
    · obtain ⟨e, g1, g2⟩ := h.inn j h1 h4 h3
      exact ⟨e, List.mem_append_left _ g1, g2⟩
    · subst h4
      exact ⟨_, List.mem_append_right _ (List.mem_singleton.2 rfl), accE_valid hi hok hb, accE_acc hz, rfl⟩
  out := by
    intro e he ha
    rcases List.mem_append.1 he with he | he
    · exact h.out e he ha
    · rw [List.mem_singleton.1 he]; exact ⟨i, hs, rfl⟩
theorem Acc5.skip {set : Nat} {b : Bal} {i : Nat} {l : List Evl} (h : Acc5 set b i l) (hs : set.testBit i = false) : Acc5 set b (i + 1) l where
  thin := h.thin
  len := by have := h.len; omega
  inn := by
    intro j h1 h2 h3
    refine h.inn j h1 ?_ h3
    rcases Nat.lt_or_eq_of_le (Nat.le_of_lt_succ h2) with h4 | h4
    · exact h4
    · subst h4; rw [hs] at h3; cases h3
  out := h.out
theorem Acc5.who {set : Nat} {b : Bal} {l : List Evl} (h : Acc5 set b 5 l) (h0 : set.testBit 0 = false) (h5 : set < 32) : who (accP · b) (l.filter validE) = set := by
  refine Nat.eq_of_testBit_eq fun k => ?_
  rw [who_bit _ _ _ (valid_nodes l)]
  cases hk : set.testBit k with
  | true =>
    rw [List.any_eq_true]
    have h1 : 1 ≤ k := by
      rcases Nat.eq_zero_or_pos k with rfl | h1
      · rw [h0] at hk; cases hk
      · exact h1
    have h2 : k < 5 := by
      rcases Nat.lt_or_ge k 5 with h2 | h2
      · exact h2
      · have := Nat.testBit_lt_two_pow (Nat.lt_of_lt_of_le h5 (Nat.pow_le_pow_right (n := 2) (by decide) h2))
        rw [this] at hk; cases hk
    obtain ⟨e, g1, g2, g3, g4⟩ := h.inn k h1 h2 hk
    exact ⟨e, List.mem_filter.2 ⟨g1, g2⟩, by simp [g3, g4]⟩
  | false =>
    rw [List.any_eq_false]
    intro e he
    obtain ⟨g1, g2⟩ := List.mem_filter.1 he
    simp only [Bool.and_eq_true, decide_eq_true_eq, not_and]
    intro ha hn
    obtain ⟨j, q1, q2⟩ := h.out e g1 ha
    have : j = k := by omega
    subst this
    rw [hk] at q1; cases q1
end Go.Ab.S

namespace Go.Ab.S
open Go Go.Ab

/-! ### Greatest quorums, plain -/
theorem elim_end (ms : List Mem) : ∀ (f s : Nat), s < f → subM ms s → unhL ms (elim ms f s).2 (nodes (elim ms f s).2) = none ∧ subM ms (elim ms f s).2 ∧ ∀ j, (elim ms f s).2.testBit j = true → s.testBit j = true
  | 0, s, h, _ => by omega
  | f + 1, s, hf, hs => by
    cases hu : unhL ms s (nodes s) with
    | none =>
      rw [show elim ms (f + 1) s = ([], s) by rw [elim, hu]]
      exact ⟨hu, hs, fun _ h => h⟩
    | some k =>
      rw [show elim ms (f + 1) s = (k :: (elim ms f (s ^^^ 2 ^ k)).1, (elim ms f (s ^^^ 2 ^ k)).2) by rw [elim, hu]]
      obtain ⟨h1, h2⟩ := unhL_some hu
      obtain ⟨h3, h4⟩ := (nodes_mem s k).1 h1
      have hlt := xor_lt hs.1 h3 h4
      obtain ⟨r1, r2, r3⟩ := elim_end ms f _ (by omega) (subM_xor hs h3 h4)
      refine ⟨r1, r2, fun j hj => ?_⟩
      have := r3 j hj
      rw [xor_bit h4] at this
      simp only [Bool.and_eq_true] at this
      exact this.1
/-- A quorum: its members are content with it. -/
def quorum (ms : List Mem) (q : Nat) : Prop := ∀ k, q.testBit k = true → ∃ m, ms[k]? = some m ∧ m.d = true ∧ satT q m.t = true
theorem bit10 {s k : Nat} (hs : s < 1024) (h : s.testBit k = true) : k < 10 := by
  rcases Nat.lt_or_ge k 10 with h2 | h2
  · exact h2
  · have := Nat.testBit_lt_two_pow (Nat.lt_of_lt_of_le hs (Nat.pow_le_pow_right (n := 2) (by decide) h2))
    rw [this] at h; cases h
theorem great_sub (ms : List Mem) (s : Nat) : (∀ j, (great ms s).testBit j = true → s.testBit j = true ∧ ∃ m, ms[j]? = some m ∧ m.d = true) := by
  intro j hj
  have hsub := subM_decl ms s
  obtain ⟨_, _, h⟩ := elim_end ms 1024 _ hsub.1 hsub
  have h2 := h j hj
  rw [Nat.testBit_and, decl_bit] at h2
  simp only [Bool.and_eq_true, decide_eq_true_eq, beq_iff_eq] at h2
  refine ⟨h2.1, ?_⟩
  cases hm : ms[j]? with
  | none => rw [hm] at h2; simp at h2
  | some m => rw [hm] at h2; exact ⟨m, rfl, by simpa using h2.2.2⟩
theorem great_quorum (ms : List Mem) (s : Nat) : quorum ms (great ms s) := by
  intro k hk
  have hsub := subM_decl ms s
  obtain ⟨h1, h2, _⟩ := elim_end ms 1024 _ hsub.1 hsub
  obtain ⟨_, m, hm, hd⟩ := great_sub ms s k hk
  refine ⟨m, hm, hd, ?_⟩
  have h3 := unhL_none h1 k ((nodes_mem _ k).2 ⟨bit10 (great_lt ms s) hk, hk⟩)
  simp only [contM, hm] at h3
  exact h3
/-- A set that is a quorum in part of another lies in the greatest one. -/
theorem elim_keep (ms : List Mem) (q : Nat) (hmono : ∀ s : Nat, (∀ j, q.testBit j = true → s.testBit j = true) → ∀ k, q.testBit k = true → contM ms s k = true) : ∀ (f s : Nat), subM ms s → (∀ j, q.testBit j = true → s.testBit j = true) → ∀ j, q.testBit j = true → (elim ms f s).2.testBit j = true
  | 0, s, _, h, j, hj => h j hj
  | f + 1, s, hs, h, j, hj => by
    rw [elim]
    cases hu : unhL ms s (nodes s) with
    | none => exact h j hj
    | some k =>
      obtain ⟨h1, h2⟩ := unhL_some hu
      obtain ⟨h3, h4⟩ := (nodes_mem s k).1 h1
      refine elim_keep ms q hmono f _ (subM_xor hs h3 h4) (fun i hi => ?_) j hj
      rw [xor_bit h4, h i hi]
      simp only [Bool.true_and, Bool.not_eq_true', decide_eq_false_iff_not]
      rintro rfl
      rw [hmono s h i hi] at h2
      cases h2

/-! ### What a node sees of nodes that say the truth -/
end Go.Ab.S

namespace Go.Ab
/-! ### Functions that write in slices of others -/
theorem callD_raw (cf : CF) (H : Hp) (r i : Nat) (f : FuncId) (x : Nm) (o n : Nat) (rest : List AV) : callD cf true H r i f (.hsl x o n :: rest) = gD cf H r i f (.hsl x o n :: rest) [] (reach H 64 (namesL (.hsl x o n :: rest)) []) := by
  simp only [callD, allP, if_true, callNs, List.nil_append]
  cases reach H 64 (namesL (.hsl x o n :: rest)) [] with
  | none => rfl
  | some ns =>
    simp only [gD, List.nil_append]
    cases renL (toExt ns) (.hsl x o n :: rest) with
    | none => rfl
    | some a' => cases hgets H ns with
      | none => rfl
      | some os =>
        simp only [gE]
        cases renOs (toExt ns) os <;> rfl
def gT (ns : List Nm) (ups : Hp) (v : List AV) : Option (List AObj) → Option Dl
  | some outs => some { v := .tup v, up := zipUp ns outs ++ ups }
  | none => none
theorem gT_some (ns : List Nm) (ups : Hp) (v : List AV) (outs : List AObj) : gT ns ups v (some outs) = some { v := .tup v, up := zipUp ns outs ++ ups } := _root_.id rfl
theorem gG_tup (H : Hp) (r i : Nat) (ns : List Nm) (ups : Hp) (vs : List AV) (outs : List AObj) (h : outs.length = ns.length) (hv : plainL vs = true) : gG H r i ns ups (some ⟨.tup vs, outs, []⟩) = gT ns ups vs (renOs (fromExt ns r i) outs) := by
  obtain ⟨_, h2⟩ := plainL_facts hv
  cases outs with
  | nil => cases ns with
    | nil => simp [gG, callEnd, newUp, freeH, AV.ren, h2, renOs, zipUp, gT]
    | cons n ns => cases h
  | cons o os => cases ns with
    | nil => cases h
    | cons n ns =>
      simp only [gG, callEnd, h, newUp, freeH, and_self, if_true, AV.ren, h2, Option.map_some]
      cases renOs (fromExt (n :: ns) r i) (o :: os) <;> rfl
theorem plainL_frzNs : ∀ {vs : List AV}, plainL vs = true → frzNs vs = []
  | [], _ => rfl
  | .p _ :: r, h => by simp only [plainL] at h; simp only [frzNs, hslN, plainL_frzNs h, List.nil_append]
theorem fin1_parr (F : SFn) (st : St) (vs vs' : List AV) (es : List PV) (z : Nat) (b : Bool) (hF : F.rawR = false) (hx : hget st.H (.ext 0) = some (.parr es z b)) (h : plainL vs = true) : fin1 F st vs (some vs') (some (.parr es z b)) = some ⟨tup1 vs, [.parr es z b], []⟩ := by
  simp only [fin1]
  rw [finX_succ, finishG_eq _ _ _ _ hF, allP_frz h, hA_some, plainL_frzNs h]
  obtain ⟨h1, h2⟩ := plainL_facts h
  have hre : reach ([] ++ st.H) 64 (extNs 0 1 ++ namesL vs) [] = some [.ext 0] := by simp [reach, extNs, hx, AObj.names, h1]
  rw [show frzUp st.H [] = [] from rfl, hre]
  simp [hB, hD, extNs, h2, hgets, hx, renOs, AObj.ren, hE]
theorem opD_clear (cf : CF) (raw : FuncId → Bool) (r i : Nat) (T : Tm) (H : Hp) (zp : PV) (x : Opd) : opD cf raw r i T H (.clear zp x) = (match ev T x with
    | .hsl y off n => match hget H y with
      | some (.parr es z false) =>
        if n ≠ 0 ∧ off + n ≤ es.length ∧ zp.cells.length = z ∧ 0 < z then
          some { v := .tup [], up := [(y, some (.parr (es.take off ++ List.replicate n zp ++ es.drop (off + n)) z false))] } else none
      | _ => none
    | _ => none) := _root_.id rfl
theorem opD_shrink (cf : CF) (raw : FuncId → Bool) (r i : Nat) (T : Tm) (H : Hp) (z : Nat) (x hi : Opd) : opD cf raw r i T H (.shrink z x hi) = (match sliceA H z (ev T x) none (some (ev T hi)) none with
    | some (.hsl y 0 k) => match hget H y with
      | some (.parr es z' false) => some { v := .hsl y 0 k, up := [(y, some (.parr (es.take k) z' false))] }
      | _ => none
    | _ => none) := _root_.id rfl
attribute [go_sem] opD_shrink opD_clear callD_raw gT_some gG_tup fin1_parr
end Go.Ab

namespace Go.Ab.S
open Go Go.Ab
variable {E : Env} [EnvS E]

/-! ### Rows of data -/
theorem raw_T (f : Nat) (F : SFn) (h : fnSA f = some F) (hr : F.rawA = true) : E.raw f = true := by
  unfold Env.raw
  rw [EnvS.h f F h]
  exact hr
theorem raw195 : E.raw 195 = true := raw_T 195 F195 rfl rfl
theorem raw231 : E.raw 231 = true := raw_T 231 F231 rfl rfl
theorem raw272 : E.raw 272 = true := raw_T 272 F272 rfl rfl
theorem raw273 : E.raw 273 = true := raw_T 273 F273 rfl rfl
theorem raw274 : E.raw 274 = true := raw_T 274 F274 rfl rfl
theorem raw275 : E.raw 275 = true := raw_T 275 F275 rfl rfl
theorem raw276 : E.raw 276 = true := raw_T 276 F276 rfl rfl
theorem raw277 : E.raw 277 = true := raw_T 277 F277 rfl rfl
theorem raw278 : E.raw 278 = true := raw_T 278 F278 rfl rfl
theorem raw279 : E.raw 279 = true := raw_T 279 F279 rfl rfl
theorem raw305 : E.raw 305 = true := raw_T 305 F305 rfl rfl
theorem raw306 : E.raw 306 = true := raw_T 306 F306 rfl rfl
theorem raw307 : E.raw 307 = true := raw_T 307 F307 rfl rfl
theorem raw319 : E.raw 319 = true := raw_T 319 F319 rfl rfl
attribute [go_sem] raw195 raw231 raw272 raw273 raw274 raw275 raw276 raw277 raw278 raw279 raw305 raw306 raw307 raw319
section
variable {α : Type} [Inhabited α]
theorem ar_get {d : Array α} {i : Nat} (h : i < d.size) : d.toList[i]? = some d[i]! := by
  rw [Array.getElem?_toList, Array.getElem?_eq_getElem h, getElem!_pos d i h]
theorem swp_size (d : Array α) (i j : Nat) : (Sort.swp d i j).size = d.size := by simp [Sort.swp]
theorem swp_map (pv : α → PV) (d : Array α) (i j : Nat) : (Sort.swp d i j).toList.map pv = ((d.toList.map pv).set i (pv d[j]!)).set j (pv d[i]!) := by
  simp [Sort.swp, List.map_set]
theorem set_get (pv : α → PV) (d : Array α) (i j : Nat) (x : α) (hj : j < d.size) : ∃ y, ((d.toList.map pv).set i (pv x))[j]? = some (pv y) := by
  rw [← List.map_set, List.getElem?_map]
  have : j < (d.toList.set i x).length := by simpa using hj
  exact ⟨(d.toList.set i x)[j], by rw [List.getElem?_eq_getElem this]; rfl⟩
end
def ltI (x y : Int) : Bool := decide (x < y)
theorem cmpI_lt (x y : Int) : decide (cmpI x y < 0) = ltI x y := by
  unfold cmpI ltI
  by_cases h : x < y
  · simp [h]
  · by_cases h2 : y < x <;> simp [h, h2]
theorem ins_size (a : Nat) : ∀ (j : Nat) (d : Array Int), (Sort.insInner ltI a j d).size = d.size
  | 0, d => rfl
  | j + 1, d => by
    rw [Sort.insInner]; split
    · rw [ins_size a j, swp_size]
    · rfl
end Go.Ab.S

namespace Go.Ab.S
open Go Go.Ab
variable {E : Env} [EnvS E]

/-! ### The heap -/
theorem wAdd (a b : Nat) (h : a + b < 9223372036854775808) : IntKind.i64.wrap ((a : Int) + (b : Int)) = ((a + b : Nat) : Int) := by rw [wrap64 (by omega) (by omega)]; omega
theorem wAdd1 (a : Nat) (h : a + 1 < 9223372036854775808) : IntKind.i64.wrap ((a : Int) + 1) = ((a + 1 : Nat) : Int) := wAdd a 1 h
theorem wSub1 (a : Nat) (h : a + 1 < 9223372036854775808) : IntKind.i64.wrap (((a + 1 : Nat) : Int) - 1) = (a : Int) := by rw [wrap64 (by omega) (by omega)]; omega
theorem wSub (a b : Nat) (h : b ≤ a) (h2 : a < 9223372036854775808) : IntKind.i64.wrap ((a : Int) - (b : Int)) = ((a - b : Nat) : Int) := by rw [wrap64 (by omega) (by omega)]; omega
theorem wMul2 (a : Nat) (h : 2 * a < 9223372036854775808) : IntKind.i64.wrap (2 * (a : Int)) = ((2 * a : Nat) : Int) := by rw [wrap64 (by omega) (by omega)]; omega
theorem sift_size (hi first : Nat) : ∀ (n root : Nat) (d : Array Int), hi - root ≤ n → (Sort.siftDown ltI hi first root d).size = d.size := by
  intro n
  induction n with
  | zero =>
    intro root d h
    rw [Sort.siftDown, dif_pos (by omega)]
  | succ n ih =>
    intro root d h
    rw [Sort.siftDown]
    split
    · rfl
    · split
      · split
        · rfl
        · split
          · rw [ih _ _ (by omega), swp_size]
          · rfl
      · split
        · rfl
        · rw [ih _ _ (by omega), swp_size]
end Go.Ab.S

namespace Go.Ab.S
open Go Go.Ab
variable {E : Env} [EnvS E]

theorem siftS (hi first root : Nat) (d : Array Int) : (Sort.siftDown ltI hi first root d).size = d.size := sift_size hi first _ root d (Nat.le_refl _)
theorem build_size (hi first : Nat) : ∀ (k : Nat) (d : Array Int), (Sort.heapBuild ltI hi first k d).size = d.size
  | 0, d => rfl
  | k + 1, d => by rw [Sort.heapBuild, build_size hi first k, siftS]
/-! ### Turning a range round -/
end Go.Ab.S

namespace Go.Ab.S
open Go Go.Ab
variable {E : Env} [EnvS E]

/-! ### Lengths in bits, numbers that look drawn -/
theorem dec_tab : ((List.range 256).all fun n => ((⟨#[0, 1, 2, 2, 3, 3, 3, 3, 4, 4, 4, 4, 4, 4, 4, 4, 5, 5, 5, 5, 5, 5, 5, 5, 5, 5, 5, 5, 5, 5, 5, 5, 6, 6, 6, 6, 6, 6, 6, 6, 6, 6, 6, 6, 6, 6, 6, 6, 6, 6, 6, 6, 6, 6, 6, 6, 6, 6, 6, 6, 6, 6, 6, 6, 7, 7, 7, 7, 7, 7, 7, 7, 7, 7, 7, 7, 7, 7, 7, 7, 7, 7, 7, 7, 7, 7, 7, 7, 7, 7, 7, 7, 7, 7, 7, 7, 7, 7, 7, 7, 7, 7, 7, 7, 7, 7, 7, 7, 7, 7, 7, 7, 7, 7, 7, 7, 7, 7, 7, 7, 7, 7, 7, 7, 7, 7, 7, 7, 8, 8, 8, 8, 8, 8, 8, 8, 8, 8, 8, 8, 8, 8, 8, 8, 8, 8, 8, 8, 8, 8, 8, 8, 8, 8, 8, 8, 8, 8, 8, 8, 8, 8, 8, 8, 8, 8, 8, 8, 8, 8, 8, 8, 8, 8, 8, 8, 8, 8, 8, 8, 8, 8, 8, 8, 8, 8, 8, 8, 8, 8, 8, 8, 8, 8, 8, 8, 8, 8, 8, 8, 8, 8, 8, 8, 8, 8, 8, 8, 8, 8, 8, 8, 8, 8, 8, 8, 8, 8, 8, 8, 8, 8, 8, 8, 8, 8, 8, 8, 8, 8, 8, 8, 8, 8, 8, 8, 8, 8, 8, 8, 8, 8, 8, 8, 8, 8, 8, 8, 8, 8, 8, 8, 8, 8, 8, 8]⟩ : ByteArray)[n]?).map UInt8.toNat == some (Sort.bitsLen n)) = true := by decide +kernel
theorem tab_get (n : Nat) (h : n < 256) : ∃ b : UInt8, (⟨#[0, 1, 2, 2, 3, 3, 3, 3, 4, 4, 4, 4, 4, 4, 4, 4, 5, 5, 5, 5, 5, 5, 5, 5, 5, 5, 5, 5, 5, 5, 5, 5, 6, 6, 6, 6, 6, 6, 6, 6, 6, 6, 6, 6, 6, 6, 6, 6, 6, 6, 6, 6, 6, 6, 6, 6, 6, 6, 6, 6, 6, 6, 6, 6, 7, 7, 7, 7, 7, 7, 7, 7, 7, 7, 7, 7, 7, 7, 7, 7, 7, 7, 7, 7, 7, 7, 7, 7, 7, 7, 7, 7, 7, 7, 7, 7, 7, 7, 7, 7, 7, 7, 7, 7, 7, 7, 7, 7, 7, 7, 7, 7, 7, 7, 7, 7, 7, 7, 7, 7, 7, 7, 7, 7, 7, 7, 7, 7, 8, 8, 8, 8, 8, 8, 8, 8, 8, 8, 8, 8, 8, 8, 8, 8, 8, 8, 8, 8, 8, 8, 8, 8, 8, 8, 8, 8, 8, 8, 8, 8, 8, 8, 8, 8, 8, 8, 8, 8, 8, 8, 8, 8, 8, 8, 8, 8, 8, 8, 8, 8, 8, 8, 8, 8, 8, 8, 8, 8, 8, 8, 8, 8, 8, 8, 8, 8, 8, 8, 8, 8, 8, 8, 8, 8, 8, 8, 8, 8, 8, 8, 8, 8, 8, 8, 8, 8, 8, 8, 8, 8, 8, 8, 8, 8, 8, 8, 8, 8, 8, 8, 8, 8, 8, 8, 8, 8, 8, 8, 8, 8, 8, 8, 8, 8, 8, 8, 8, 8, 8, 8, 8, 8, 8, 8, 8, 8]⟩ : ByteArray)[n]? = some b ∧ b.toNat = Sort.bitsLen n := by
  have := List.all_eq_true.1 dec_tab n (List.mem_range.2 h)
  exact Option.map_eq_some_iff.1 (eq_of_beq this)
theorem dec_len : ((List.range 1024).all fun n => decide (Sort.bitsLen n ≤ 10) && (decide (n < 256) || Sort.bitsLen n == 8 + Sort.bitsLen (n / 256)) && (n == 0 || (decide (1 <<< Sort.bitsLen n ≤ 2 * n) && decide (n < 1 <<< Sort.bitsLen n)))) = true := by decide +kernel
theorem len_facts {n : Nat} (h : n < 1024) : Sort.bitsLen n ≤ 10 ∧ (256 ≤ n → Sort.bitsLen n = 8 + Sort.bitsLen (n / 256)) ∧ (0 < n → 1 <<< Sort.bitsLen n ≤ 2 * n ∧ n < 1 <<< Sort.bitsLen n) := by
  have := List.all_eq_true.1 dec_len n (List.mem_range.2 h)
  simp only [Bool.and_eq_true, Bool.or_eq_true, decide_eq_true_eq, beq_iff_eq] at this
  obtain ⟨⟨h1, h2⟩, h3⟩ := this
  exact ⟨h1, fun hn => h2.resolve_left (by omega), fun hn => h3.resolve_left (by omega)⟩
theorem u64w (n : Nat) (h : n < 18446744073709551616) : IntKind.u64.wrap (n : Int) = n := by
  have : IntKind.u64.wrap (n : Int) = (n : Int) % 18446744073709551616 := by simp [IntKind.wrap, IntKind.signed, IntKind.bits]
  rw [this]; omega
theorem u8w (n : Nat) (h : n < 256) : IntKind.u8.wrap (n : Int) = n := by
  have : IntKind.u8.wrap (n : Int) = (n : Int) % 256 := by simp [IntKind.wrap, IntKind.signed, IntKind.bits]
  rw [this]; omega
set_option maxRecDepth 100000 in
theorem e263 (n : Nat) (h : n < 1024) : callW E 263 [.p (.int .u64 n)] [] = some ⟨.p (.int .i64 (Sort.bitsLen n)), [], []⟩ := by
  have f1 : ¬ (4294967296 : Int) ≤ n := by omega
  have f2 : ¬ (65536 : Int) ≤ n := by omega
  obtain ⟨l1, l2, _⟩ := len_facts h
  by_cases h8 : 256 ≤ n
  · have f3 : (256 : Int) ≤ n := by omega
    have w1 : shrI .u64 (n : Int) 8 = ((n / 256 : Nat) : Int) := by
      unfold shrI
      show (n : Int).fdiv 256 = _
      rw [Int.fdiv_eq_ediv_of_nonneg _ (by omega)]; rfl
    obtain ⟨b, hb1, hb2⟩ := tab_get (n / 256) (by omega)
    have w2 := u8w (n / 256) (by omega)
    have w3 : IntKind.i64.wrap ((b.toNat : Nat) : Int) = (b.toNat : Int) := wrapN _ (by have := UInt8.toNat_lt b; omega)
    have w4 : IntKind.i64.wrap (8 + (b.toNat : Int)) = ((8 + b.toNat : Nat) : Int) := by rw [wrap64 (by omega) (by have := UInt8.toNat_lt b; omega)]; omega
    have w5 : IntKind.i64.wrap 8 = 8 := by decide
    have n1 : (0 : Int) ≤ ((n / 256 : Nat) : Int) := by omega
    rw [l2 h8, ← hb2]
    rw [callW_eq, EnvS.h 263 F263 rfl]
    simp -implicitDefEqProofs only [go_sem, F263, s263, s263_1, s263_2, s263_3, f1, f2, f3, w1, hb1, w2, w3, w4, w5, n1, Int.zero_add]
  · have f3 : ¬ (256 : Int) ≤ n := by omega
    obtain ⟨b, hb1, hb2⟩ := tab_get n (by omega)
    have w2 := u8w n (by omega)
    have w3 : IntKind.i64.wrap ((b.toNat : Nat) : Int) = (b.toNat : Int) := wrapN _ (by have := UInt8.toNat_lt b; omega)
    have n1 : (0 : Int) ≤ (n : Int) := by omega
    rw [← hb2]
    rw [callW_eq, EnvS.h 263 F263 rfl]
    simp -implicitDefEqProofs only [go_sem, F263, s263, s263_1, s263_2, s263_3, f1, f2, f3, hb1, w2, w3, n1, Int.zero_add]
theorem e228 (n : Nat) (h : n < 1024) : callW E 228 [.p (.int .u64 n)] [] = some ⟨.p (.int .i64 (Sort.bitsLen n)), [], []⟩ := by
  have e := e263 (E := E) n h
  rw [callW_eq, EnvS.h 228 F228 rfl]
  simp -implicitDefEqProofs only [go_sem, F228, s228, s228_1, e]
theorem e298 (n : Nat) (h : n < 1024) : callW E 298 [.p (.int .i64 n)] [] = some ⟨.p (.int .u64 (1 <<< Sort.bitsLen n : Nat)), [], []⟩ := by
  have e := e228 (E := E) n h
  have w := u64w n (by omega)
  obtain ⟨l1, _, _⟩ := len_facts h
  have f : ¬ ((Sort.bitsLen n : Nat) : Int) < 0 := by omega
  have w2 : shlI .u64 1 ((Sort.bitsLen n : Nat) : Int) = ((1 <<< Sort.bitsLen n : Nat) : Int) := by
    unfold shlI
    have : min ((Sort.bitsLen n : Nat) : Int).toNat IntKind.u64.bits = Sort.bitsLen n := by simp [IntKind.bits]; omega
    rw [this, Nat.one_shiftLeft, Int.one_mul, show ((2 : Int) ^ Sort.bitsLen n) = ((2 ^ Sort.bitsLen n : Nat) : Int) by simp, u64w]
    exact Nat.lt_of_le_of_lt (Nat.pow_le_pow_right (n := 2) (by decide) l1) (by decide)
  rw [callW_eq, EnvS.h 298 F298 rfl]
  simp -implicitDefEqProofs only [go_sem, F298, s298, w, e, f, w2]
theorem xorU (a b : UInt64) : xorI .u64 (a.toNat : Int) (b.toNat : Int) = ((a ^^^ b).toNat : Int) := by
  unfold xorI
  have h1 : (BitVec.ofInt 64 (a.toNat : Int) ^^^ BitVec.ofInt 64 (b.toNat : Int)).toNat = (a ^^^ b).toNat := by
    rw [BitVec.toNat_xor, BitVec.ofInt_natCast, BitVec.ofInt_natCast, BitVec.toNat_ofNat, BitVec.toNat_ofNat, Nat.mod_eq_of_lt a.toNat_lt, Nat.mod_eq_of_lt b.toNat_lt, UInt64.toNat_xor]
  show IntKind.u64.wrap ((BitVec.ofInt 64 (a.toNat : Int) ^^^ BitVec.ofInt 64 (b.toNat : Int)).toNat : Int) = _
  rw [h1, u64w _ (UInt64.toNat_lt _)]
theorem shlU (a : UInt64) (k : Nat) (hk : k < 64) : shlI .u64 (a.toNat : Int) (k : Int) = ((a <<< UInt64.ofNat k).toNat : Int) := by
  unfold shlI
  have : min ((k : Nat) : Int).toNat IntKind.u64.bits = k := by simp [IntKind.bits]; omega
  rw [this, UInt64.toNat_shiftLeft]
  have hm : (UInt64.ofNat k).toNat % 64 = k := by rw [UInt64.toNat_ofNat_of_lt' (by simp [UInt64.size]; omega)]; omega
  rw [hm, Nat.shiftLeft_eq]
  have h2 : IntKind.u64.wrap ((a.toNat : Int) * 2 ^ k) = ((a.toNat : Int) * 2 ^ k) % 18446744073709551616 := by simp [IntKind.wrap, IntKind.signed, IntKind.bits]
  rw [h2, show ((2 : Int) ^ k) = ((2 ^ k : Nat) : Int) by simp]
  rfl
theorem shrU (a : UInt64) (k : Nat) (hk : k < 64) : shrI .u64 (a.toNat : Int) (k : Int) = ((a >>> UInt64.ofNat k).toNat : Int) := by
  unfold shrI
  have : min ((k : Nat) : Int).toNat IntKind.u64.bits = k := by simp [IntKind.bits]; omega
  rw [this, UInt64.toNat_shiftRight]
  have hm : (UInt64.ofNat k).toNat % 64 = k := by rw [UInt64.toNat_ofNat_of_lt' (by simp [UInt64.size]; omega)]; omega
  rw [hm, Nat.shiftRight_eq_div_pow, show ((2 : Int) ^ k) = ((2 ^ k : Nat) : Int) by simp, Int.fdiv_eq_ediv_of_nonneg _ (Int.natCast_nonneg _)]
  rfl
theorem e299 (r : UInt64) : callW E 299 [.ptr (.ext 0) 0] [.box [.p (.int .u64 r.toNat)]] = some ⟨.p (.int .u64 (Sort.xorNext r).toNat), [.box [.p (.int .u64 (Sort.xorNext r).toNat)]], []⟩ := by
  have a1 := shlU r 13 (by decide)
  have a2 := xorU r (r <<< 13)
  have b1 := shrU (r ^^^ (r <<< 13)) 7 (by decide)
  have b2 := xorU (r ^^^ (r <<< 13)) ((r ^^^ (r <<< 13)) >>> 7)
  have c1 := shlU ((r ^^^ (r <<< 13)) ^^^ ((r ^^^ (r <<< 13)) >>> 7)) 17 (by decide)
  have c2 := xorU ((r ^^^ (r <<< 13)) ^^^ ((r ^^^ (r <<< 13)) >>> 7)) (((r ^^^ (r <<< 13)) ^^^ ((r ^^^ (r <<< 13)) >>> 7)) <<< 17)
  rw [show UInt64.ofNat 13 = (13 : UInt64) from rfl] at a1
  rw [show UInt64.ofNat 7 = (7 : UInt64) from rfl] at b1
  rw [show UInt64.ofNat 17 = (17 : UInt64) from rfl] at c1
  simp only [cast_lit] at a1 b1 c1
  rw [callW_eq, EnvS.h 299 F299 rfl]
  simp -implicitDefEqProofs only [go_sem, F299, s299, a1, a2, b1, b2, c1, c2]
  rfl
end Go.Ab.S

namespace Go.Ab.S
open Go Go.Ab
variable {E : Env} [EnvS E]

/-! ### Breaking patterns -/
theorem andU (a b : Nat) (ha : a < 18446744073709551616) (hb : b < 18446744073709551616) : andI .u64 a b = ((a &&& b : Nat) : Int) := by
  unfold andI
  have h1 : (BitVec.ofInt 64 (a : Int) &&& BitVec.ofInt 64 (b : Int)).toNat = a &&& b := by
    rw [BitVec.toNat_and, BitVec.ofInt_natCast, BitVec.ofInt_natCast, BitVec.toNat_ofNat, BitVec.toNat_ofNat, Nat.mod_eq_of_lt (by omega), Nat.mod_eq_of_lt (by omega)]
  show IntKind.u64.wrap ((BitVec.ofInt 64 (a : Int) &&& BitVec.ofInt 64 (b : Int)).toNat : Int) = _
  rw [h1, u64w _ (Nat.lt_of_le_of_lt Nat.and_le_left ha)]
theorem brk_step (a len modulus : Nat) (hl : 8 ≤ len) (hl2 : len < 1024) (hm : 0 < modulus) (hm2 : modulus ≤ 2 * len) (d : Array Int) (had : a + len ≤ d.size) (hs : d.size < 1152921504606846976) (i : Nat) (hi : i ≤ a + len / 4 * 2 + 1) (r : UInt64) :
    loopW E 1 [0, 1, 8, 9, 10, 11] [.loc 2 2 0] (.trim [0, 1, 8, 9, 10, 11] [] [(0, [])] [.loc 2 2 0] s274_3) (some ⟨[(0, .hsl (.ext 0) 0 d.size), (1, .p (.int .i64 a)), (8, .p (.int .i64 len)), (9, .ptr (.loc 2 2 0) 0), (10, .p (.int .u64 modulus)), (11, .p (.int .i64 i))], [(.ext 0, some (.parr (d.toList.map (.int .i64)) 1 false)), (.loc 2 2 0, some (.box [.p (.int .u64 r.toNat)]))]⟩) =
    loopW E 1 [0, 1, 8, 9, 10, 11] [.loc 2 2 0] (.trim [0, 1, 8, 9, 10, 11] [] [(0, [])] [.loc 2 2 0] s274_3) (some ⟨[(0, .hsl (.ext 0) 0 d.size), (1, .p (.int .i64 a)), (8, .p (.int .i64 len)), (9, .ptr (.loc 2 2 0) 0), (10, .p (.int .u64 modulus)), (11, .p (.int .i64 (i + 1 : Nat)))], [(.ext 0, some (.parr ((Sort.breakStep a len modulus (r, d) i).2.toList.map (.int .i64)) 1 false)), (.loc 2 2 0, some (.box [.p (.int .u64 (Sort.breakStep a len modulus (r, d) i).1.toNat)]))]⟩) := by
  generalize hK : loopW E 1 _ _ _ = K
  rw [← hK, loopW_some, hK]
  have e1 := e299 (E := E) r
  have hrl := UInt64.toNat_lt (Sort.xorNext r)
  have q1 : IntKind.i64.wrap ((len : Int).tdiv 4) = ((len / 4 : Nat) : Int) := by
    rw [show (len : Int).tdiv 4 = ((len / 4 : Nat) : Int) from rfl, wrapN _ (by omega)]
  have q2 : IntKind.i64.wrap (((len / 4 : Nat) : Int) * 2) = ((len / 4 * 2 : Nat) : Int) := by rw [wrap64 (by omega) (by omega)]; omega
  have q3 := wAdd a (len / 4 * 2) (by omega)
  have q4 := wAdd1 (a + len / 4 * 2) (by omega)
  have f1 : (i : Int) ≤ ((a + len / 4 * 2 + 1 : Nat) : Int) := by omega
  have q5 : IntKind.u64.wrap ((modulus : Int) - 1) = ((modulus - 1 : Nat) : Int) := by
    rw [show (modulus : Int) - 1 = ((modulus - 1 : Nat) : Int) by omega, u64w _ (by omega)]
  have q6 := andU (Sort.xorNext r).toNat (modulus - 1) hrl (by omega)
  have hand : (Sort.xorNext r).toNat &&& (modulus - 1) ≤ modulus - 1 := Nat.and_le_right
  unfold Sort.breakStep
  dsimp only
  generalize (Sort.xorNext r).toNat &&& (modulus - 1) = o at *
  have q7 := wrapN o (by omega)
  have w1 := wAdd1 i (by omega)
  have n1 : (0 : Int) ≤ (i : Int) := by omega
  have i1 : i < d.size := by omega
  have g1 := ar_get i1
  have h0 : 0 + d.size ≤ d.size := by omega
  have a0 : d.toList.length = d.size := Array.length_toList
  by_cases h : o ≥ len
  · have f2 : (len : Int) ≤ (o : Int) := by omega
    have q8 := wSub o len h (by omega)
    have q9 := wAdd a (o - len) (by omega)
    have n2 : (0 : Int) ≤ ((a + (o - len) : Nat) : Int) := by omega
    have i2 : a + (o - len) < d.size := by omega
    have g2 := ar_get i2
    obtain ⟨y, hy⟩ := set_get (.int .i64) d i (a + (o - len)) d[a + (o - len)]! i2
    rw [if_pos h, swp_map]
    simp -implicitDefEqProofs only [go_sem, s274_3, s274_2, s274_1, q1, q2, q3, q4, f1, e1, q5, q6, q7, f2, q8, q9, w1, n1, n2, i1, i2, g1, g2, h0, a0, hy, setE, List.length_map, List.length_set]
  · have f2 : ¬ (len : Int) ≤ (o : Int) := by omega
    have q9 := wAdd a o (by omega)
    have n2 : (0 : Int) ≤ ((a + o : Nat) : Int) := by omega
    have i2 : a + o < d.size := by omega
    have g2 := ar_get i2
    obtain ⟨y, hy⟩ := set_get (.int .i64) d i (a + o) d[a + o]! i2
    rw [if_neg h, swp_map]
    simp -implicitDefEqProofs only [go_sem, s274_3, s274_2, s274_1, q1, q2, q3, q4, f1, e1, q5, q6, q7, f2, q9, w1, n1, n2, i1, i2, g1, g2, h0, a0, hy, setE, List.length_map, List.length_set]
theorem step_size (a len modulus : Nat) (r : UInt64) (d : Array Int) (i : Nat) : (Sort.breakStep a len modulus (r, d) i).2.size = d.size := by
  simp only [Sort.breakStep, swp_size]
/-! ### The pivot -/
theorem ord_lt {d : Array Int} {a b s n : Nat} (ha : a < n) (hb : b < n) : (Sort.order2 ltI d a b s).1 < n ∧ (Sort.order2 ltI d a b s).2.1 < n ∧ (Sort.order2 ltI d a b s).2.2 ≤ s + 1 := by
  unfold Sort.order2
  split
  · exact ⟨hb, ha, Nat.le_refl _⟩
  · exact ⟨ha, hb, Nat.le_succ _⟩
def hintN : Sort.Hint → Int
  | .unknown => 0
  | .increasing => 1
  | .decreasing => 2
end Go.Ab.S

namespace Go.Ab.S
open Go Go.Ab
variable {E : Env} [EnvS E]

/-! ### Scans -/
theorem scanUp_ge (p : Int → Bool) (d : Array Int) (j : Nat) : ∀ (n i : Nat), j + 1 - i ≤ n → i ≤ Sort.scanUp p d j i ∧ Sort.scanUp p d j i ≤ max i (j + 1) := by
  intro n
  induction n with
  | zero => intro i h; rw [Sort.scanUp, if_neg (by simp; omega)]; omega
  | succ n ih =>
    intro i h
    rw [Sort.scanUp]
    split
    · rename_i hc
      simp only [Bool.and_eq_true, decide_eq_true_eq] at hc
      have := ih (i + 1) (by omega)
      omega
    · omega
theorem scanDown_le (p : Int → Bool) (d : Array Int) (i : Nat) : ∀ j, Sort.scanDown p d i j ≤ j
  | 0 => Nat.le_refl 0
  | j + 1 => by
    rw [Sort.scanDown]
    split
    · exact Nat.le_succ_of_le (scanDown_le p d i j)
    · exact Nat.le_refl _
theorem up279_2 (d : Array Int) (a j : Nat) (ha : a < d.size) (hj : j < d.size) (hs : d.size < 1152921504606846976) : ∀ (n i : Nat), j + 1 - i ≤ n → i < 1152921504606846977 →
    loopW E 1 [0, 1, 4, 12, 13] [] (.trim [0, 1, 4, 12, 13] [10, 11] [(0, [0, 1, 4, 12, 13])] [] s279_2) (some ⟨[(0, .hsl (.ext 0) 0 d.size), (1, .p (.int .i64 a)), (4, .fn 115 [] []), (12, .p (.int .i64 i)), (13, .p (.int .i64 j))], [(.ext 0, some (.parr (d.toList.map (.int .i64)) 1 false))]⟩) = some (.ex 0, ⟨[(0, .hsl (.ext 0) 0 d.size), (1, .p (.int .i64 a)), (4, .fn 115 [] []), (12, .p (.int .i64 (Sort.scanUp (fun x => ltI x d[a]!) d j i : Nat))), (13, .p (.int .i64 j))], [(.ext 0, some (.parr (d.toList.map (.int .i64)) 1 false))]⟩) := by
  generalize hK : loopW E 1 _ _ _ = K
  intro n
  induction n with
  | zero =>
    intro i hn hi
    have f1 : ¬ (i : Int) ≤ (j : Int) := by omega
    rw [Sort.scanUp, if_neg (by simp; omega)]
    rw [← hK, loopW_some, hK]
    simp -implicitDefEqProofs only [go_sem, s279_2, s279_1, f1]
  | succ n ih =>
    intro i hn hi
    by_cases h : i ≤ j
    · have f1 : (i : Int) ≤ (j : Int) := by omega
      have n1 : (0 : Int) ≤ (i : Int) := by omega
      have n2 : (0 : Int) ≤ (a : Int) := by omega
      have i1 : i < d.size := by omega
      have g1 := ar_get i1
      have g2 := ar_get ha
      have h0 : 0 + d.size ≤ d.size := by omega
      have a0 : d.toList.length = d.size := Array.length_toList
      have w1 := wAdd1 i (by omega)
      have e1 := e115 (E := E) d[i]! d[a]!
      have e2 := cmpI_lt d[i]! d[a]!
      cases hl : ltI d[i]! d[a]! with
      | true =>
        rw [hl] at e2
        have e3 := of_decide_eq_true e2
        rw [Sort.scanUp, if_pos (by simp [h, hl])]
        have ih' := ih (i + 1) (by omega) (by omega)
        rw [← hK, loopW_some, hK]
        simp -implicitDefEqProofs only [go_sem, s279_2, s279_1, f1, n1, n2, i1, ha, g1, g2, h0, a0, w1, e1, e3]
        exact ih'
      | false =>
        rw [hl] at e2
        have e3 := of_decide_eq_false e2
        rw [Sort.scanUp, if_neg (by simp [hl])]
        rw [← hK, loopW_some, hK]
        simp -implicitDefEqProofs only [go_sem, s279_2, s279_1, f1, n1, n2, i1, ha, g1, g2, h0, a0, w1, e1, e3]
    · have f1 : ¬ (i : Int) ≤ (j : Int) := by omega
      rw [Sort.scanUp, if_neg (by simp; omega)]
      rw [← hK, loopW_some, hK]
      simp -implicitDefEqProofs only [go_sem, s279_2, s279_1, f1]
theorem down279_5 (d : Array Int) (a i : Nat) (ha : a < d.size) (hi1 : 1 ≤ i) (hs : d.size < 1152921504606846976) : ∀ (j : Nat), j < d.size →
    loopW E 1 [0, 1, 4, 12, 13] [] (.trim [0, 1, 4, 12, 13] [10, 11] [(2, [0, 1, 4, 12, 13])] [] s279_5) (some ⟨[(0, .hsl (.ext 0) 0 d.size), (1, .p (.int .i64 a)), (4, .fn 115 [] []), (12, .p (.int .i64 i)), (13, .p (.int .i64 j))], [(.ext 0, some (.parr (d.toList.map (.int .i64)) 1 false))]⟩) = some (.ex 2, ⟨[(0, .hsl (.ext 0) 0 d.size), (1, .p (.int .i64 a)), (4, .fn 115 [] []), (12, .p (.int .i64 i)), (13, .p (.int .i64 (Sort.scanDown (fun x => !ltI x d[a]!) d i j : Nat)))], [(.ext 0, some (.parr (d.toList.map (.int .i64)) 1 false))]⟩) := by
  generalize hK : loopW E 1 _ _ _ = K
  intro j
  induction j with
  | zero =>
    intro hj
    have f1 : ¬ (i : Int) ≤ 0 := by omega
    rw [Sort.scanDown]
    rw [← hK, loopW_some, hK]
    simp -implicitDefEqProofs only [go_sem, s279_5, s279_4, f1, Int.natCast_zero]
  | succ j ih =>
    intro hj
    by_cases h : i ≤ j + 1
    · have f1 : (i : Int) ≤ ((j + 1 : Nat) : Int) := by omega
      have n1 : (0 : Int) ≤ ((j + 1 : Nat) : Int) := by omega
      have n2 : (0 : Int) ≤ (a : Int) := by omega
      have g1 := ar_get hj
      have g2 := ar_get ha
      have h0 : 0 + d.size ≤ d.size := by omega
      have a0 : d.toList.length = d.size := Array.length_toList
      have w1 := wSub1 j (by omega)
      have e1 := e115 (E := E) d[j + 1]! d[a]!
      have e2 := cmpI_lt d[j + 1]! d[a]!
      cases hl : ltI d[j + 1]! d[a]! with
      | false =>
        rw [hl] at e2
        have e3 := of_decide_eq_false e2
        rw [Sort.scanDown, if_pos (by simp [h, hl])]
        have ih' := ih (by omega)
        rw [← hK, loopW_some, hK]
        simp -implicitDefEqProofs only [go_sem, s279_5, s279_4, f1, n1, n2, hj, ha, g1, g2, h0, a0, w1, e1, e3]
        exact ih'
      | true =>
        rw [hl] at e2
        have e3 := of_decide_eq_true e2
        rw [Sort.scanDown, if_neg (by simp [hl])]
        rw [← hK, loopW_some, hK]
        simp -implicitDefEqProofs only [go_sem, s279_5, s279_4, f1, n1, n2, hj, ha, g1, g2, h0, a0, w1, e1, e3]
    · have f1 : ¬ (i : Int) ≤ ((j + 1 : Nat) : Int) := by omega
      rw [Sort.scanDown, if_neg (by simp; omega)]
      rw [← hK, loopW_some, hK]
      simp -implicitDefEqProofs only [go_sem, s279_5, s279_4, f1]
theorem up279_9 (d : Array Int) (a j : Nat) (ha : a < d.size) (hj : j < d.size) (hs : d.size < 1152921504606846976) : ∀ (n i : Nat), j + 1 - i ≤ n → i < 1152921504606846977 →
    loopW E 1 [0, 1, 4, 12, 13] [] (.trim [0, 1, 4, 12, 13] [10, 11] [(6, [0, 1, 4, 12, 13])] [] s279_9) (some ⟨[(0, .hsl (.ext 0) 0 d.size), (1, .p (.int .i64 a)), (4, .fn 115 [] []), (12, .p (.int .i64 i)), (13, .p (.int .i64 j))], [(.ext 0, some (.parr (d.toList.map (.int .i64)) 1 false))]⟩) = some (.ex 6, ⟨[(0, .hsl (.ext 0) 0 d.size), (1, .p (.int .i64 a)), (4, .fn 115 [] []), (12, .p (.int .i64 (Sort.scanUp (fun x => ltI x d[a]!) d j i : Nat))), (13, .p (.int .i64 j))], [(.ext 0, some (.parr (d.toList.map (.int .i64)) 1 false))]⟩) := by
  generalize hK : loopW E 1 _ _ _ = K
  intro n
  induction n with
  | zero =>
    intro i hn hi
    have f1 : ¬ (i : Int) ≤ (j : Int) := by omega
    rw [Sort.scanUp, if_neg (by simp; omega)]
    rw [← hK, loopW_some, hK]
    simp -implicitDefEqProofs only [go_sem, s279_9, s279_8, f1]
  | succ n ih =>
    intro i hn hi
    by_cases h : i ≤ j
    · have f1 : (i : Int) ≤ (j : Int) := by omega
      have n1 : (0 : Int) ≤ (i : Int) := by omega
      have n2 : (0 : Int) ≤ (a : Int) := by omega
      have i1 : i < d.size := by omega
      have g1 := ar_get i1
      have g2 := ar_get ha
      have h0 : 0 + d.size ≤ d.size := by omega
      have a0 : d.toList.length = d.size := Array.length_toList
      have w1 := wAdd1 i (by omega)
      have e1 := e115 (E := E) d[i]! d[a]!
      have e2 := cmpI_lt d[i]! d[a]!
      cases hl : ltI d[i]! d[a]! with
      | true =>
        rw [hl] at e2
        have e3 := of_decide_eq_true e2
        rw [Sort.scanUp, if_pos (by simp [h, hl])]
        have ih' := ih (i + 1) (by omega) (by omega)
        rw [← hK, loopW_some, hK]
        simp -implicitDefEqProofs only [go_sem, s279_9, s279_8, f1, n1, n2, i1, ha, g1, g2, h0, a0, w1, e1, e3]
        exact ih'
      | false =>
        rw [hl] at e2
        have e3 := of_decide_eq_false e2
        rw [Sort.scanUp, if_neg (by simp [hl])]
        rw [← hK, loopW_some, hK]
        simp -implicitDefEqProofs only [go_sem, s279_9, s279_8, f1, n1, n2, i1, ha, g1, g2, h0, a0, w1, e1, e3]
    · have f1 : ¬ (i : Int) ≤ (j : Int) := by omega
      rw [Sort.scanUp, if_neg (by simp; omega)]
      rw [← hK, loopW_some, hK]
      simp -implicitDefEqProofs only [go_sem, s279_9, s279_8, f1]
theorem down279_12 (d : Array Int) (a i : Nat) (ha : a < d.size) (hi1 : 1 ≤ i) (hs : d.size < 1152921504606846976) : ∀ (j : Nat), j < d.size →
    loopW E 1 [0, 1, 4, 12, 13] [] (.trim [0, 1, 4, 12, 13] [10, 11] [(8, [0, 1, 4, 12, 13])] [] s279_12) (some ⟨[(0, .hsl (.ext 0) 0 d.size), (1, .p (.int .i64 a)), (4, .fn 115 [] []), (12, .p (.int .i64 i)), (13, .p (.int .i64 j))], [(.ext 0, some (.parr (d.toList.map (.int .i64)) 1 false))]⟩) = some (.ex 8, ⟨[(0, .hsl (.ext 0) 0 d.size), (1, .p (.int .i64 a)), (4, .fn 115 [] []), (12, .p (.int .i64 i)), (13, .p (.int .i64 (Sort.scanDown (fun x => !ltI x d[a]!) d i j : Nat)))], [(.ext 0, some (.parr (d.toList.map (.int .i64)) 1 false))]⟩) := by
  generalize hK : loopW E 1 _ _ _ = K
  intro j
  induction j with
  | zero =>
    intro hj
    have f1 : ¬ (i : Int) ≤ 0 := by omega
    rw [Sort.scanDown]
    rw [← hK, loopW_some, hK]
    simp -implicitDefEqProofs only [go_sem, s279_12, s279_11, f1, Int.natCast_zero]
  | succ j ih =>
    intro hj
    by_cases h : i ≤ j + 1
    · have f1 : (i : Int) ≤ ((j + 1 : Nat) : Int) := by omega
      have n1 : (0 : Int) ≤ ((j + 1 : Nat) : Int) := by omega
      have n2 : (0 : Int) ≤ (a : Int) := by omega
      have g1 := ar_get hj
      have g2 := ar_get ha
      have h0 : 0 + d.size ≤ d.size := by omega
      have a0 : d.toList.length = d.size := Array.length_toList
      have w1 := wSub1 j (by omega)
      have e1 := e115 (E := E) d[j + 1]! d[a]!
      have e2 := cmpI_lt d[j + 1]! d[a]!
      cases hl : ltI d[j + 1]! d[a]! with
      | false =>
        rw [hl] at e2
        have e3 := of_decide_eq_false e2
        rw [Sort.scanDown, if_pos (by simp [h, hl])]
        have ih' := ih (by omega)
        rw [← hK, loopW_some, hK]
        simp -implicitDefEqProofs only [go_sem, s279_12, s279_11, f1, n1, n2, hj, ha, g1, g2, h0, a0, w1, e1, e3]
        exact ih'
      | true =>
        rw [hl] at e2
        have e3 := of_decide_eq_true e2
        rw [Sort.scanDown, if_neg (by simp [hl])]
        rw [← hK, loopW_some, hK]
        simp -implicitDefEqProofs only [go_sem, s279_12, s279_11, f1, n1, n2, hj, ha, g1, g2, h0, a0, w1, e1, e3]
    · have f1 : ¬ (i : Int) ≤ ((j + 1 : Nat) : Int) := by omega
      rw [Sort.scanDown, if_neg (by simp; omega)]
      rw [← hK, loopW_some, hK]
      simp -implicitDefEqProofs only [go_sem, s279_12, s279_11, f1]
theorem up278_2 (d : Array Int) (a j : Nat) (ha : a < d.size) (hj : j < d.size) (hs : d.size < 1152921504606846976) : ∀ (n i : Nat), j + 1 - i ≤ n → i < 1152921504606846977 →
    loopW E 1 [0, 1, 4, 11, 12] [] (.trim [0, 1, 4, 11, 12] [10] [(2, [0, 1, 4, 11, 12])] [] s278_2) (some ⟨[(0, .hsl (.ext 0) 0 d.size), (1, .p (.int .i64 a)), (4, .fn 115 [] []), (11, .p (.int .i64 i)), (12, .p (.int .i64 j))], [(.ext 0, some (.parr (d.toList.map (.int .i64)) 1 false))]⟩) = some (.ex 2, ⟨[(0, .hsl (.ext 0) 0 d.size), (1, .p (.int .i64 a)), (4, .fn 115 [] []), (11, .p (.int .i64 (Sort.scanUp (fun x => !ltI d[a]! x) d j i : Nat))), (12, .p (.int .i64 j))], [(.ext 0, some (.parr (d.toList.map (.int .i64)) 1 false))]⟩) := by
  generalize hK : loopW E 1 _ _ _ = K
  intro n
  induction n with
  | zero =>
    intro i hn hi
    have f1 : ¬ (i : Int) ≤ (j : Int) := by omega
    rw [Sort.scanUp, if_neg (by simp; omega)]
    rw [← hK, loopW_some, hK]
    simp -implicitDefEqProofs only [go_sem, s278_2, s278_1, f1]
  | succ n ih =>
    intro i hn hi
    by_cases h : i ≤ j
    · have f1 : (i : Int) ≤ (j : Int) := by omega
      have n1 : (0 : Int) ≤ (i : Int) := by omega
      have n2 : (0 : Int) ≤ (a : Int) := by omega
      have i1 : i < d.size := by omega
      have g1 := ar_get i1
      have g2 := ar_get ha
      have h0 : 0 + d.size ≤ d.size := by omega
      have a0 : d.toList.length = d.size := Array.length_toList
      have w1 := wAdd1 i (by omega)
      have e1 := e115 (E := E) d[a]! d[i]!
      have e2 := cmpI_lt d[a]! d[i]!
      cases hl : ltI d[a]! d[i]! with
      | false =>
        rw [hl] at e2
        have e3 := of_decide_eq_false e2
        rw [Sort.scanUp, if_pos (by simp [h, hl])]
        have ih' := ih (i + 1) (by omega) (by omega)
        rw [← hK, loopW_some, hK]
        simp -implicitDefEqProofs only [go_sem, s278_2, s278_1, f1, n1, n2, i1, ha, g1, g2, h0, a0, w1, e1, e3]
        exact ih'
      | true =>
        rw [hl] at e2
        have e3 := of_decide_eq_true e2
        rw [Sort.scanUp, if_neg (by simp [hl])]
        rw [← hK, loopW_some, hK]
        simp -implicitDefEqProofs only [go_sem, s278_2, s278_1, f1, n1, n2, i1, ha, g1, g2, h0, a0, w1, e1, e3]
    · have f1 : ¬ (i : Int) ≤ (j : Int) := by omega
      rw [Sort.scanUp, if_neg (by simp; omega)]
      rw [← hK, loopW_some, hK]
      simp -implicitDefEqProofs only [go_sem, s278_2, s278_1, f1]
theorem down278_5 (d : Array Int) (a i : Nat) (ha : a < d.size) (hi1 : 1 ≤ i) (hs : d.size < 1152921504606846976) : ∀ (j : Nat), j < d.size →
    loopW E 1 [0, 1, 4, 11, 12] [] (.trim [0, 1, 4, 11, 12] [10] [(4, [0, 1, 4, 11, 12])] [] s278_5) (some ⟨[(0, .hsl (.ext 0) 0 d.size), (1, .p (.int .i64 a)), (4, .fn 115 [] []), (11, .p (.int .i64 i)), (12, .p (.int .i64 j))], [(.ext 0, some (.parr (d.toList.map (.int .i64)) 1 false))]⟩) = some (.ex 4, ⟨[(0, .hsl (.ext 0) 0 d.size), (1, .p (.int .i64 a)), (4, .fn 115 [] []), (11, .p (.int .i64 i)), (12, .p (.int .i64 (Sort.scanDown (fun x => ltI d[a]! x) d i j : Nat)))], [(.ext 0, some (.parr (d.toList.map (.int .i64)) 1 false))]⟩) := by
  generalize hK : loopW E 1 _ _ _ = K
  intro j
  induction j with
  | zero =>
    intro hj
    have f1 : ¬ (i : Int) ≤ 0 := by omega
    rw [Sort.scanDown]
    rw [← hK, loopW_some, hK]
    simp -implicitDefEqProofs only [go_sem, s278_5, s278_4, f1, Int.natCast_zero]
  | succ j ih =>
    intro hj
    by_cases h : i ≤ j + 1
    · have f1 : (i : Int) ≤ ((j + 1 : Nat) : Int) := by omega
      have n1 : (0 : Int) ≤ ((j + 1 : Nat) : Int) := by omega
      have n2 : (0 : Int) ≤ (a : Int) := by omega
      have g1 := ar_get hj
      have g2 := ar_get ha
      have h0 : 0 + d.size ≤ d.size := by omega
      have a0 : d.toList.length = d.size := Array.length_toList
      have w1 := wSub1 j (by omega)
      have e1 := e115 (E := E) d[a]! d[j + 1]!
      have e2 := cmpI_lt d[a]! d[j + 1]!
      cases hl : ltI d[a]! d[j + 1]! with
      | true =>
        rw [hl] at e2
        have e3 := of_decide_eq_true e2
        rw [Sort.scanDown, if_pos (by simp [h, hl])]
        have ih' := ih (by omega)
        rw [← hK, loopW_some, hK]
        simp -implicitDefEqProofs only [go_sem, s278_5, s278_4, f1, n1, n2, hj, ha, g1, g2, h0, a0, w1, e1, e3]
        exact ih'
      | false =>
        rw [hl] at e2
        have e3 := of_decide_eq_false e2
        rw [Sort.scanDown, if_neg (by simp [hl])]
        rw [← hK, loopW_some, hK]
        simp -implicitDefEqProofs only [go_sem, s278_5, s278_4, f1, n1, n2, hj, ha, g1, g2, h0, a0, w1, e1, e3]
    · have f1 : ¬ (i : Int) ≤ ((j + 1 : Nat) : Int) := by omega
      rw [Sort.scanDown, if_neg (by simp; omega)]
      rw [← hK, loopW_some, hK]
      simp -implicitDefEqProofs only [go_sem, s278_5, s278_4, f1]
end Go.Ab.S

namespace Go.Ab.S
open Go Go.Ab
variable {E : Env} [EnvS E]

/-! ### Partitions -/
theorem pl_size (a : Nat) : ∀ (n i j : Nat) (d : Array Int), j + 1 - i ≤ n → (Sort.partLoop ltI a i j d).2.size = d.size ∧ (Sort.partLoop ltI a i j d).1 ≤ j := by
  intro n
  induction n with
  | zero =>
    intro i j d h
    rw [Sort.partLoop]
    have h1 := scanUp_ge (fun x => ltI x d[a]!) d j _ i (Nat.le_refl _)
    have h2 := scanDown_le (fun x => !ltI x d[a]!) d (Sort.scanUp (fun x => ltI x d[a]!) d j i) j
    rw [if_pos (by omega)]
    exact ⟨rfl, h2⟩
  | succ n ih =>
    intro i j d h
    rw [Sort.partLoop]
    have h1 := scanUp_ge (fun x => ltI x d[a]!) d j _ i (Nat.le_refl _)
    have h2 := scanDown_le (fun x => !ltI x d[a]!) d (Sort.scanUp (fun x => ltI x d[a]!) d j i) j
    split
    · exact ⟨rfl, h2⟩
    · split
      · obtain ⟨q1, q2⟩ := ih (Sort.scanUp (fun x => ltI x d[a]!) d j i + 1) (Sort.scanDown (fun x => !ltI x d[a]!) d (Sort.scanUp (fun x => ltI x d[a]!) d j i) j - 1) (Sort.swp d (Sort.scanUp (fun x => ltI x d[a]!) d j i) (Sort.scanDown (fun x => !ltI x d[a]!) d (Sort.scanUp (fun x => ltI x d[a]!) d j i) j)) (by omega)
        rw [swp_size] at q1
        exact ⟨q1, by omega⟩
      · exact ⟨rfl, h2⟩
theorem loop279 (a : Nat) : ∀ (n i j : Nat) (d : Array Int), j + 1 - i ≤ n → a < d.size → j < d.size → 1 ≤ i → d.size < 1152921504606846976 → i < 1152921504606846976 →
    ∃ jj : Nat, jj = (Sort.partLoop ltI a i j d).1 ∧ loopW E 1 [0, 1, 4, 12, 13] [] (.trim [0, 1, 4, 12, 13] [10, 11] [(4, [0, 1, 13])] [] s279_15) (some ⟨[(0, .hsl (.ext 0) 0 d.size), (1, .p (.int .i64 a)), (4, .fn 115 [] []), (12, .p (.int .i64 i)), (13, .p (.int .i64 j))], [(.ext 0, some (.parr (d.toList.map (.int .i64)) 1 false))]⟩) =
    some (.ex 4, ⟨[(0, .hsl (.ext 0) 0 d.size), (1, .p (.int .i64 a)), (13, .p (.int .i64 jj))], [(.ext 0, some (.parr ((Sort.partLoop ltI a i j d).2.toList.map (.int .i64)) 1 false))]⟩) := by
  generalize hK : loopW E 1 _ _ _ = K
  intro n
  induction n with
  | zero =>
    intro i j d hn ha hj hi hs hi2
    refine ⟨_, rfl, ?_⟩
    have lp1 := up279_9 (E := E) d a j ha hj hs _ i (Nat.le_refl _) (by omega)
    have h1 := scanUp_ge (fun x => ltI x d[a]!) d j _ i (Nat.le_refl _)
    have lp2 := down279_12 (E := E) d a (Sort.scanUp (fun x => ltI x d[a]!) d j i) ha (by omega) hs j hj
    have h2 := scanDown_le (fun x => !ltI x d[a]!) d (Sort.scanUp (fun x => ltI x d[a]!) d j i) j
    rw [Sort.partLoop]
    generalize Sort.scanUp (fun x => ltI x d[a]!) d j i = i2 at *
    generalize Sort.scanDown (fun x => !ltI x d[a]!) d i2 j = j2 at *
    have f1 : (j2 : Int) < (i2 : Int) := by omega
    rw [if_pos (by omega)]
    rw [← hK, loopW_some, hK]
    simp -implicitDefEqProofs only [go_sem, s279_15, s279_14, s279_10, s279_13, lp1, lp2, f1]
  | succ n ih =>
    intro i j d hn ha hj hi hs hi2
    have lp1 := up279_9 (E := E) d a j ha hj hs _ i (Nat.le_refl _) (by omega)
    have h1 := scanUp_ge (fun x => ltI x d[a]!) d j _ i (Nat.le_refl _)
    have lp2 := down279_12 (E := E) d a (Sort.scanUp (fun x => ltI x d[a]!) d j i) ha (by omega) hs j hj
    have h2 := scanDown_le (fun x => !ltI x d[a]!) d (Sort.scanUp (fun x => ltI x d[a]!) d j i) j
    rw [Sort.partLoop]
    generalize Sort.scanUp (fun x => ltI x d[a]!) d j i = i2 at *
    generalize Sort.scanDown (fun x => !ltI x d[a]!) d i2 j = j2 at *
    by_cases h : i2 > j2
    · refine ⟨_, rfl, ?_⟩
      have f1 : (j2 : Int) < (i2 : Int) := by omega
      rw [if_pos h]
      rw [← hK, loopW_some, hK]
      simp -implicitDefEqProofs only [go_sem, s279_15, s279_14, s279_10, s279_13, lp1, lp2, f1]
    · have f1 : ¬ (j2 : Int) < (i2 : Int) := by omega
      rw [if_neg h, dif_pos (by omega)]
      obtain ⟨jj, r1, r2⟩ := ih (i2 + 1) (j2 - 1) (Sort.swp d i2 j2) (by omega) (by rw [swp_size]; exact ha) (by rw [swp_size]; omega) (by omega) (by rw [swp_size]; exact hs) (by omega)
      refine ⟨jj, r1, ?_⟩
      rw [swp_size, swp_map] at r2
      have n1 : (0 : Int) ≤ (i2 : Int) := by omega
      have n2 : (0 : Int) ≤ (j2 : Int) := by omega
      have i1 : i2 < d.size := by omega
      have j1 : j2 < d.size := by omega
      have g1 := ar_get i1
      have g2 := ar_get j1
      have h0 : 0 + d.size ≤ d.size := by omega
      have a0 : d.toList.length = d.size := Array.length_toList
      have w1 := wAdd1 i2 (by omega)
      have w2 : IntKind.i64.wrap ((j2 : Int) - 1) = ((j2 - 1 : Nat) : Int) := wSub j2 1 (by omega) (by omega)
      obtain ⟨y, hy⟩ := set_get (.int .i64) d i2 j2 d[j2]! j1
      rw [← hK, loopW_some, hK]
      simp -implicitDefEqProofs only [go_sem, s279_15, s279_14, s279_10, s279_13, lp1, lp2, f1, n1, n2, i1, j1, g1, g2, h0, a0, w1, w2, hy, setE, List.length_map, List.length_set]
      exact r2
theorem e279 (d : Array Int) (a b p : Nat) (hab : a + 1 < b) (hb : b ≤ d.size) (hp : p < d.size) (hs : d.size < 1152921504606846976) :
    callW E 279 [.hsl (.ext 0) 0 d.size, .p (.int .i64 a), .p (.int .i64 b), .p (.int .i64 p), .fn 115 [] []] [.parr (d.toList.map (.int .i64)) 1 false] =
    some ⟨.tup [.p (.int .i64 (Sort.partition ltI d a b p).1), .p (.bool (Sort.partition ltI d a b p).2.1)], [.parr ((Sort.partition ltI d a b p).2.2.toList.map (.int .i64)) 1 false], []⟩ := by
  have ha : a < d.size := by omega
  have n1 : (0 : Int) ≤ (a : Int) := by omega
  have n2 : (0 : Int) ≤ (p : Int) := by omega
  have g1 := ar_get ha
  have g2 := ar_get hp
  have h0 : 0 + d.size ≤ d.size := by omega
  have a0 : d.toList.length = d.size := Array.length_toList
  have w1 := wAdd1 a (by omega)
  have w2 : IntKind.i64.wrap ((b : Int) - 1) = ((b - 1 : Nat) : Int) := wSub b 1 (by omega) (by omega)
  obtain ⟨y, hy⟩ := set_get (.int .i64) d a p d[p]! hp
  have z := swp_size d a p
  unfold Sort.partition
  dsimp only
  have hm := swp_map (.int .i64) d a p
  have sw : callW E 279 [.hsl (.ext 0) 0 d.size, .p (.int .i64 a), .p (.int .i64 b), .p (.int .i64 p), .fn 115 [] []] [.parr (d.toList.map (.int .i64)) 1 false] = callW E 279 [.hsl (.ext 0) 0 d.size, .p (.int .i64 a), .p (.int .i64 b), .p (.int .i64 p), .fn 115 [] []] [.parr (d.toList.map (.int .i64)) 1 false] := rfl
  generalize hd1 : Sort.swp d a p = d1 at *
  have lp1 := up279_2 (E := E) d1 a (b - 1) (by omega) (by omega) (by omega) _ (a + 1) (Nat.le_refl _) (by omega)
  have h1 := scanUp_ge (fun x => ltI x d1[a]!) d1 (b - 1) _ (a + 1) (Nat.le_refl _)
  have lp2 := down279_5 (E := E) d1 a (Sort.scanUp (fun x => ltI x d1[a]!) d1 (b - 1) (a + 1)) (by omega) (by omega) (by omega) (b - 1) (by omega)
  have h2 := scanDown_le (fun x => !ltI x d1[a]!) d1 (Sort.scanUp (fun x => ltI x d1[a]!) d1 (b - 1) (a + 1)) (b - 1)
  generalize Sort.scanUp (fun x => ltI x d1[a]!) d1 (b - 1) (a + 1) = i2 at *
  generalize Sort.scanDown (fun x => !ltI x d1[a]!) d1 i2 (b - 1) = j2 at *
  rw [z] at lp1 lp2
  rw [hm] at lp1 lp2
  have j1 : j2 < d1.size := by omega
  have a1 : a < d1.size := by omega
  have gj := ar_get j1
  have ga := ar_get a1
  have gj' : (((d.toList.map (.int .i64)).set a (.int .i64 d[p]!)).set p (.int .i64 d[a]!))[j2]? = some (PV.int .i64 d1[j2]!) := by rw [← hm, List.getElem?_map, gj]; rfl
  have ga' : (((d.toList.map (.int .i64)).set a (.int .i64 d[p]!)).set p (.int .i64 d[a]!))[a]? = some (PV.int .i64 d1[a]!) := by rw [← hm, List.getElem?_map, ga]; rfl
  have nj : (0 : Int) ≤ (j2 : Int) := by omega
  have j1' : j2 < d.size := by omega
  by_cases h : i2 > j2
  · have f1 : (j2 : Int) < (i2 : Int) := by omega
    rw [if_pos h]
    dsimp only
    obtain ⟨y2, hy2⟩ := set_get (.int .i64) d1 j2 a d1[a]! a1
    rw [swp_map, hm]
    rw [hm] at hy2
    rw [callW_eq, EnvS.h 279 F279 rfl]
    simp -implicitDefEqProofs only [go_sem, F279, s279, s279_3, s279_6, s279_7, n1, n2, ha, hp, g1, g2, h0, a0, w1, w2, hy, setE, List.length_map, List.length_set, lp1, lp2, f1, gj', ga', nj, j1', hy2]
  · have f1 : ¬ (j2 : Int) < (i2 : Int) := by omega
    rw [if_neg h]
    dsimp only
    have i1 : i2 < d1.size := by omega
    have i1' : i2 < d.size := by omega
    have gi := ar_get i1
    have gi' : (((d.toList.map (.int .i64)).set a (.int .i64 d[p]!)).set p (.int .i64 d[a]!))[i2]? = some (PV.int .i64 d1[i2]!) := by rw [← hm, List.getElem?_map, gi]; rfl
    have ni : (0 : Int) ≤ (i2 : Int) := by omega
    obtain ⟨y2, hy2⟩ := set_get (.int .i64) d1 i2 j2 d1[j2]! j1
    rw [hm] at hy2
    have w3 := wAdd1 i2 (by omega)
    have w4 : IntKind.i64.wrap ((j2 : Int) - 1) = ((j2 - 1 : Nat) : Int) := wSub j2 1 (by omega) (by omega)
    have z2 := swp_size d1 i2 j2
    have hm2 := swp_map (.int .i64) d1 i2 j2
    rw [hm] at hm2
    generalize hd2 : Sort.swp d1 i2 j2 = d2 at *
    obtain ⟨jj, r1, lp3⟩ := loop279 (E := E) a _ (i2 + 1) (j2 - 1) d2 (Nat.le_refl _) (by omega) (by omega) (by omega) (by omega) (by omega)
    obtain ⟨z3, q3⟩ := pl_size a _ (i2 + 1) (j2 - 1) d2 (Nat.le_refl _)
    rw [z2, z, hm2] at lp3
    rw [← r1] at q3 ⊢
    generalize Sort.partLoop ltI a (i2 + 1) (j2 - 1) d2 = pl at *
    obtain ⟨j3, d3⟩ := pl
    dsimp only at r1 lp3 z3 ⊢
    have k1 : jj < d3.size := by omega
    have k1' : jj < d.size := by omega
    have k2 : a < d3.size := by omega
    have gk := ar_get k1
    have gl := ar_get k2
    have nk : (0 : Int) ≤ (jj : Int) := by omega
    have a3 : d3.toList.length = d.size := by rw [Array.length_toList]; omega
    obtain ⟨y3, hy3⟩ := set_get (.int .i64) d3 jj a d3[a]! k2
    rw [swp_map]
    rw [callW_eq, EnvS.h 279 F279 rfl]
    simp -implicitDefEqProofs only [go_sem, F279, s279, s279_3, s279_6, s279_7, s279_16, n1, n2, ha, hp, g1, g2, h0, a0, w1, w2, hy, setE, List.length_map, List.length_set, lp1, lp2, f1, gj', gi', nj, ni, j1', i1', hy2, w3, w4, lp3, gk, gl, nk, k1', a3, hy3]
end Go.Ab.S

namespace Go.Ab.S
open Go Go.Ab
variable {E : Env} [EnvS E]

/-! ### The other partition -/
theorem loop278 (a : Nat) : ∀ (n i j : Nat) (d : Array Int), j + 1 - i ≤ n → a < d.size → j < d.size → 1 ≤ i → d.size < 1152921504606846976 → i < 1152921504606846976 →
    loopW E 1 [0, 1, 4, 11, 12] [] (.trim [0, 1, 4, 11, 12] [10] [(0, [11])] [] s278_8) (some ⟨[(0, .hsl (.ext 0) 0 d.size), (1, .p (.int .i64 a)), (4, .fn 115 [] []), (11, .p (.int .i64 i)), (12, .p (.int .i64 j))], [(.ext 0, some (.parr (d.toList.map (.int .i64)) 1 false))]⟩) =
    some (.ex 0, ⟨[(11, .p (.int .i64 (Sort.partEqLoop ltI a i j d).1))], [(.ext 0, some (.parr ((Sort.partEqLoop ltI a i j d).2.toList.map (.int .i64)) 1 false))]⟩) := by
  generalize hK : loopW E 1 _ _ _ = K
  intro n
  induction n with
  | zero =>
    intro i j d hn ha hj hi hs hi2
    have lp1 := up278_2 (E := E) d a j ha hj hs _ i (Nat.le_refl _) (by omega)
    have h1 := scanUp_ge (fun x => !ltI d[a]! x) d j _ i (Nat.le_refl _)
    have lp2 := down278_5 (E := E) d a (Sort.scanUp (fun x => !ltI d[a]! x) d j i) ha (by omega) hs j hj
    have h2 := scanDown_le (fun x => ltI d[a]! x) d (Sort.scanUp (fun x => !ltI d[a]! x) d j i) j
    rw [Sort.partEqLoop]
    generalize Sort.scanUp (fun x => !ltI d[a]! x) d j i = i2 at *
    generalize Sort.scanDown (fun x => ltI d[a]! x) d i2 j = j2 at *
    have f1 : (j2 : Int) < (i2 : Int) := by omega
    rw [if_pos (by omega)]
    rw [← hK, loopW_some, hK]
    simp -implicitDefEqProofs only [go_sem, s278_8, s278_7, s278_3, s278_6, lp1, lp2, f1]
  | succ n ih =>
    intro i j d hn ha hj hi hs hi2
    have lp1 := up278_2 (E := E) d a j ha hj hs _ i (Nat.le_refl _) (by omega)
    have h1 := scanUp_ge (fun x => !ltI d[a]! x) d j _ i (Nat.le_refl _)
    have lp2 := down278_5 (E := E) d a (Sort.scanUp (fun x => !ltI d[a]! x) d j i) ha (by omega) hs j hj
    have h2 := scanDown_le (fun x => ltI d[a]! x) d (Sort.scanUp (fun x => !ltI d[a]! x) d j i) j
    rw [Sort.partEqLoop]
    generalize Sort.scanUp (fun x => !ltI d[a]! x) d j i = i2 at *
    generalize Sort.scanDown (fun x => ltI d[a]! x) d i2 j = j2 at *
    by_cases h : i2 > j2
    · have f1 : (j2 : Int) < (i2 : Int) := by omega
      rw [if_pos h]
      rw [← hK, loopW_some, hK]
      simp -implicitDefEqProofs only [go_sem, s278_8, s278_7, s278_3, s278_6, lp1, lp2, f1]
    · have f1 : ¬ (j2 : Int) < (i2 : Int) := by omega
      rw [if_neg h, dif_pos (by omega)]
      have r2 := ih (i2 + 1) (j2 - 1) (Sort.swp d i2 j2) (by omega) (by rw [swp_size]; exact ha) (by rw [swp_size]; omega) (by omega) (by rw [swp_size]; exact hs) (by omega)
      rw [swp_size, swp_map] at r2
      have n1 : (0 : Int) ≤ (i2 : Int) := by omega
      have n2 : (0 : Int) ≤ (j2 : Int) := by omega
      have i1 : i2 < d.size := by omega
      have j1 : j2 < d.size := by omega
      have g1 := ar_get i1
      have g2 := ar_get j1
      have h0 : 0 + d.size ≤ d.size := by omega
      have a0 : d.toList.length = d.size := Array.length_toList
      have w1 := wAdd1 i2 (by omega)
      have w2 : IntKind.i64.wrap ((j2 : Int) - 1) = ((j2 - 1 : Nat) : Int) := wSub j2 1 (by omega) (by omega)
      obtain ⟨y, hy⟩ := set_get (.int .i64) d i2 j2 d[j2]! j1
      rw [← hK, loopW_some, hK]
      simp -implicitDefEqProofs only [go_sem, s278_8, s278_7, s278_3, s278_6, lp1, lp2, f1, n1, n2, i1, j1, g1, g2, h0, a0, w1, w2, hy, setE, List.length_map, List.length_set]
      exact r2
theorem e278 (d : Array Int) (a b p : Nat) (hab : a + 1 < b) (hb : b ≤ d.size) (hp : p < d.size) (hs : d.size < 1152921504606846976) :
    callW E 278 [.hsl (.ext 0) 0 d.size, .p (.int .i64 a), .p (.int .i64 b), .p (.int .i64 p), .fn 115 [] []] [.parr (d.toList.map (.int .i64)) 1 false] =
    some ⟨.p (.int .i64 (Sort.partitionEqual ltI d a b p).1), [.parr ((Sort.partitionEqual ltI d a b p).2.toList.map (.int .i64)) 1 false], []⟩ := by
  have ha : a < d.size := by omega
  have n1 : (0 : Int) ≤ (a : Int) := by omega
  have n2 : (0 : Int) ≤ (p : Int) := by omega
  have g1 := ar_get ha
  have g2 := ar_get hp
  have h0 : 0 + d.size ≤ d.size := by omega
  have a0 : d.toList.length = d.size := Array.length_toList
  have w1 := wAdd1 a (by omega)
  have w2 : IntKind.i64.wrap ((b : Int) - 1) = ((b - 1 : Nat) : Int) := wSub b 1 (by omega) (by omega)
  obtain ⟨y, hy⟩ := set_get (.int .i64) d a p d[p]! hp
  have z := swp_size d a p
  unfold Sort.partitionEqual
  have lp := loop278 (E := E) a _ (a + 1) (b - 1) (Sort.swp d a p) (Nat.le_refl _) (by omega) (by omega) (by omega) (by omega) (by omega)
  rw [swp_size, swp_map] at lp
  rw [callW_eq, EnvS.h 278 F278 rfl]
  simp -implicitDefEqProofs only [go_sem, F278, s278, s278_9, n1, n2, ha, hp, g1, g2, h0, a0, w1, w2, hy, setE, List.length_map, List.length_set, lp]

/-! ### What may be in order already -/
theorem loop277i (a b : Nat) (j : Int) (d : Array Int) (hb : b ≤ d.size) (hs : d.size < 1152921504606846976) : ∀ (n i : Nat), b - i ≤ n → 1 ≤ i → i < 1152921504606846977 →
    loopW E 1 [0, 1, 2, 3, 9, 10] [] (.trim [0, 1, 2, 3, 9, 10] [8] [(2, [0, 1, 2, 3, 9, 10])] [] s277_2) (some ⟨[(0, .hsl (.ext 0) 0 d.size), (1, .p (.int .i64 a)), (2, .p (.int .i64 b)), (3, .fn 115 [] []), (9, .p (.int .i64 i)), (10, .p (.int .i64 j))], [(.ext 0, some (.parr (d.toList.map (.int .i64)) 1 false))]⟩) =
    some (.ex 2, ⟨[(0, .hsl (.ext 0) 0 d.size), (1, .p (.int .i64 a)), (2, .p (.int .i64 b)), (3, .fn 115 [] []), (9, .p (.int .i64 (Sort.scanSorted ltI d b i : Nat))), (10, .p (.int .i64 j))], [(.ext 0, some (.parr (d.toList.map (.int .i64)) 1 false))]⟩) := by
  generalize hK : loopW E 1 _ _ _ = K
  intro n
  induction n with
  | zero =>
    intro i hn h1 hi
    have f1 : ¬ (i : Int) < (b : Int) := by omega
    rw [Sort.scanSorted, if_neg (by simp; omega)]
    rw [← hK, loopW_some, hK]
    simp -implicitDefEqProofs only [go_sem, s277_2, s277_1, f1]
  | succ n ih =>
    intro i hn h1 hi
    by_cases h : i < b
    · have f1 : (i : Int) < (b : Int) := by omega
      have n1 : (0 : Int) ≤ (i : Int) := by omega
      have n2 : (0 : Int) ≤ ((i - 1 : Nat) : Int) := by omega
      have i1 : i < d.size := by omega
      have i2 : i - 1 < d.size := by omega
      have g1 := ar_get i1
      have g2 := ar_get i2
      have h0 : 0 + d.size ≤ d.size := by omega
      have a0 : d.toList.length = d.size := Array.length_toList
      have w1 := wAdd1 i (by omega)
      have w2 : IntKind.i64.wrap ((i : Int) - 1) = ((i - 1 : Nat) : Int) := wSub i 1 (by omega) (by omega)
      have e1 := e115 (E := E) d[i]! d[i - 1]!
      have e2 := cmpI_lt d[i]! d[i - 1]!
      cases hl : ltI d[i]! d[i - 1]! with
      | false =>
        rw [hl] at e2
        have e3 := of_decide_eq_false e2
        rw [Sort.scanSorted, if_pos (by simp [h, hl])]
        have ih' := ih (i + 1) (by omega) (by omega) (by omega)
        rw [← hK, loopW_some, hK]
        simp -implicitDefEqProofs only [go_sem, s277_2, s277_1, f1, n1, n2, i1, i2, g1, g2, h0, a0, w1, w2, e1, e3]
        exact ih'
      | true =>
        rw [hl] at e2
        have e3 := of_decide_eq_true e2
        rw [Sort.scanSorted, if_neg (by simp [hl])]
        rw [← hK, loopW_some, hK]
        simp -implicitDefEqProofs only [go_sem, s277_2, s277_1, f1, n1, n2, i1, i2, g1, g2, h0, a0, w1, w2, e1, e3]
    · have f1 : ¬ (i : Int) < (b : Int) := by omega
      rw [Sort.scanSorted, if_neg (by simp; omega)]
      rw [← hK, loopW_some, hK]
      simp -implicitDefEqProofs only [go_sem, s277_2, s277_1, f1]
theorem pi_eq (d : Array Int) (a b : Nat) (h : b - a < 50) : Sort.partialInsertionSort ltI d a b = (d, decide (Sort.scanSorted ltI d b (a + 1) = b)) := by
  rw [Sort.partialInsertionSort, Sort.partialIns]
  dsimp only
  by_cases h1 : Sort.scanSorted ltI d b (a + 1) = b
  · rw [if_pos h1]; simp [h1]
  · rw [if_neg h1, if_pos h]; simp [h1]
theorem e277 (d : Array Int) (a b : Nat) (hab : a < b) (hb : b ≤ d.size) (hs : d.size < 50) :
    callW E 277 [.hsl (.ext 0) 0 d.size, .p (.int .i64 a), .p (.int .i64 b), .fn 115 [] []] [.parr (d.toList.map (.int .i64)) 1 false] =
    some ⟨.p (.bool (Sort.partialInsertionSort ltI d a b).2), [.parr (d.toList.map (.int .i64)) 1 false], []⟩ := by
  rw [pi_eq _ _ _ (by omega)]
  dsimp only
  have w1 := wAdd1 a (by omega)
  have w2 := wSub b a (by omega) (by omega)
  have f1 : ((b - a : Nat) : Int) < 50 := by omega
  have lp := loop277i (E := E) a b 0 d hb (by omega) _ (a + 1) (Nat.le_refl _) (by omega) (by omega)
  generalize Sort.scanSorted ltI d b (a + 1) = i2 at *
  rw [callW_eq, EnvS.h 277 F277 rfl]
  by_cases h : i2 = b
  · subst h
    have f2 : decide (i2 = i2) = true := by simp
    rw [f2]
    simp -implicitDefEqProofs only [go_sem, F277, s277, s277_16, s277_15, s277_14, s277_3, s277_4, s277_5, s277_9, s277_8, s277_13, s277_12, loopW_some, w1, w2, lp]
  · have f2 : decide (i2 = b) = false := by simp [h]
    have f3 : ¬ (i2 : Int) = (b : Int) := by omega
    rw [f2]
    simp -implicitDefEqProofs only [go_sem, F277, s277, s277_16, s277_15, s277_14, s277_3, s277_4, s277_5, s277_9, s277_8, s277_13, s277_12, loopW_some, w1, w2, f1, f3, lp]
end Go.Ab.S
