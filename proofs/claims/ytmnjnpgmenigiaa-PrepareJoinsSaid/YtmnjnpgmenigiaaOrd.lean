/- A part of the proof: an executor over plain data, shown sound for the model, and what it computes of the functions. -/
import Derived.Test.YtmnjnpgmenigiaaSp8
import Derived.Laws.Strings
set_option linter.all false
/-! The order of ballots. -/
namespace Go.Ab.S
open Go Go.Ab

theorem bl_irrefl : ∀ x : List UInt8, Op.bytesLess x x = false
  | [] => rfl
  | a :: x => by simp [Op.bytesLess, bl_irrefl x]
theorem bl_trans : ∀ x y z : List UInt8, Op.bytesLess x y = true → Op.bytesLess y z = true → Op.bytesLess x z = true
  | x, [], z, h, _ => by cases x <;> simp [Op.bytesLess] at h
  | _, b :: y, [], _, h => by simp [Op.bytesLess] at h
  | [], b :: y, c :: z, _, _ => rfl
  | a :: x, b :: y, c :: z, h, h2 => by
    simp only [Op.bytesLess, Bool.or_eq_true, Bool.and_eq_true, decide_eq_true_eq, beq_iff_eq] at h h2 ⊢
    rcases h with h | ⟨rfl, h⟩
    · rcases h2 with h2 | ⟨rfl, h2⟩
      · exact .inl (UInt8.lt_trans h h2)
      · exact .inl h
    · rcases h2 with h2 | ⟨rfl, h2⟩
      · exact .inl h2
      · exact .inr ⟨rfl, bl_trans x y z h h2⟩
theorem bl_total : ∀ x y : List UInt8, Op.bytesLess x y = false → Op.bytesLess y x = false → x = y
  | [], [], _, _ => rfl
  | [], b :: y, h, _ => by simp [Op.bytesLess] at h
  | a :: x, [], _, h => by simp [Op.bytesLess] at h
  | a :: x, b :: y, h, h2 => by
    simp only [Op.bytesLess, Bool.or_eq_false_iff, Bool.and_eq_false_iff, decide_eq_false_iff_not, beq_eq_false_iff_ne] at h h2
    have hab : a = b := by
      have h3 := h.1
      have h4 := h2.1
      rw [UInt8.lt_iff_toNat_lt] at h3 h4
      exact UInt8.toNat_inj.1 (by omega)
    subst hab
    have h3 : Op.bytesLess x y = false := by rcases h.2 with h | h <;> simp_all
    have h4 : Op.bytesLess y x = false := by rcases h2.2 with h | h <;> simp_all
    rw [bl_total x y h3 h4]
theorem ba_ext {a b : ByteArray} (h : a.toList = b.toList) : a = b := by
  rw [ByteArray.toList_eq, ByteArray.toList_eq] at h
  have h2 : a.data = b.data := Array.toList_inj.1 h
  cases a; cases b; simp_all
theorem lv_irrefl (a : ByteArray) : lessV a a = false := by simp [lessV, bl_irrefl]
theorem lv_trans {a b c : ByteArray} (h : lessV a b = true) (h2 : lessV b c = true) : lessV a c = true := by
  unfold lessV at *
  by_cases h3 : a.size = b.size
  · rw [if_pos h3] at h
    by_cases h4 : b.size = c.size
    · rw [if_pos h4] at h2
      rw [if_pos (h3.trans h4)]
      exact bl_trans _ _ _ h h2
    · rw [if_neg h4] at h2
      simp only [decide_eq_true_eq] at h2
      rw [if_neg (by omega)]
      simp; omega
  · rw [if_neg h3] at h
    simp only [decide_eq_true_eq] at h
    by_cases h4 : b.size = c.size
    · rw [if_neg (by omega)]
      simp; omega
    · rw [if_neg h4] at h2
      simp only [decide_eq_true_eq] at h2
      rw [if_neg (by omega)]
      simp; omega
theorem lv_total {a b : ByteArray} (h : lessV a b = false) (h2 : lessV b a = false) : a = b := by
  unfold lessV at *
  by_cases h3 : a.size = b.size
  · rw [if_pos h3] at h
    rw [if_pos h3.symm] at h2
    exact ba_ext (bl_total _ _ h h2)
  · rw [if_neg h3] at h
    rw [if_neg (fun h => h3 h.symm)] at h2
    simp at h h2
    omega
theorem less_irrefl (a : Bal) : less a a = false := by rw [less_eq]; simp [lv_irrefl]
theorem less_trans {a b c : Bal} (h : less a b = true) (h2 : less b c = true) : less a c = true := by
  rw [less_eq] at *
  by_cases h3 : a.c = b.c
  · rw [if_pos h3] at h
    by_cases h4 : b.c = c.c
    · rw [if_pos h4] at h2
      rw [if_pos (h3.trans h4)]
      exact lv_trans h h2
    · rw [if_neg h4] at h2
      simp only [decide_eq_true_eq] at h2
      rw [if_neg (by omega)]
      simp; omega
  · rw [if_neg h3] at h
    simp only [decide_eq_true_eq] at h
    by_cases h4 : b.c = c.c
    · rw [if_neg (by omega)]
      simp; omega
    · rw [if_neg h4] at h2
      simp only [decide_eq_true_eq] at h2
      rw [if_neg (by omega)]
      simp; omega
theorem less_total {a b : Bal} (h : less a b = false) (h2 : less b a = false) : a = b := by
  rw [less_eq] at *
  by_cases h3 : a.c = b.c
  · rw [if_pos h3] at h
    rw [if_pos h3.symm] at h2
    have := lv_total h h2
    cases a; cases b; simp_all
  · rw [if_neg h3] at h
    rw [if_neg (fun h => h3 h.symm)] at h2
    simp at h h2
    omega
theorem less_asymm {a b : Bal} (h : less a b = true) : less b a = false := by
  cases h2 : less b a with
  | false => rfl
  | true => have := less_trans h h2; rw [less_irrefl] at this; cases this
theorem less_c {a b : Bal} (h : less a b = true) : a.c ≤ b.c := by
  rw [less_eq] at h
  by_cases h3 : a.c = b.c
  · omega
  · rw [if_neg h3] at h
    simp at h
    omega
/-! ### Joining -/
theorem less_mono' {lo k : Int} {v : ByteArray} {p : Bal} (h : lo ≤ k) (h2 : less ⟨k, v⟩ p = true) : less ⟨lo, v⟩ p = true := by
  rw [less_eq] at h2 ⊢
  dsimp only at h2 ⊢
  by_cases h3 : lo = k
  · subst h3; exact h2
  · split at h2
    · rw [if_neg (by omega)]; simp; omega
    · simp only [decide_eq_true_eq] at h2
      rw [if_neg (by omega)]; simp; omega
theorem join_zero {p q b : Bal} (hb : zeroB b = false) (hp : zeroB p = true) : join p q b = (b, q) := by simp [join, hb, hp]
/-- What holds of the two greatest of some ballots. -/
structure JInv (p q : Bal) (all : List Bal) : Prop where
  pz : zeroB p = false
  qq : q = ⟨0, ByteArray.empty⟩ ∨ (zeroB q = false ∧ less q p = true ∧ q.v ≠ p.v)
  all : ∀ x ∈ all, prepares p q x = true
theorem zeroB_iff {b : Bal} : zeroB b = true ↔ b = ⟨0, ByteArray.empty⟩ := by
  obtain ⟨c, v⟩ := b
  simp [zeroB]
theorem less_val {x q p : Bal} (hv : q.v = x.v) (hc : x.c ≤ q.c) (h : less q p = true) : less x p = true := by
  obtain ⟨xc, xv⟩ := x
  obtain ⟨qc, qv⟩ := q
  dsimp only at hv hc
  subst hv
  exact less_mono' hc h
theorem covers_self {b : Bal} (h : zeroB b = false) : covers b b = true := by simp [covers, h]
theorem join_inv {p q b : Bal} {all : List Bal} (h : JInv p q all) (hb : zeroB b = false) (hbv : b.v ≠ ByteArray.empty) : JInv (join p q b).1 (join p q b).2 (b :: all) := by
  have hpz := h.pz
  have hz0 : zeroB ⟨0, ByteArray.empty⟩ = true := by decide
  unfold join
  rw [if_neg (by simp [hb]), if_neg (by simp [hpz])]
  by_cases h1 : less p b = true
  · rw [if_pos h1]
    dsimp only
    by_cases h2 : p.v = b.v
    · rw [if_pos h2]
      have hq : (if q.v = b.v then (⟨0, ByteArray.empty⟩ : Bal) else q) = q := by
        split
        · rename_i hqb
          rcases h.qq with hq | ⟨_, _, hq⟩
          · rw [hq]
          · exact absurd (hqb.trans h2.symm) hq
        · rfl
      rw [hq]
      refine ⟨hb, ?_, ?_⟩
      · rcases h.qq with hq | ⟨hq0, hq1, hq2⟩
        · exact .inl hq
        · exact .inr ⟨hq0, less_trans hq1 h1, fun hv => hq2 (hv.trans h2.symm)⟩
      · intro x hx
        rcases List.mem_cons.1 hx with rfl | hx
        · simp [prepares, covers_self hb]
        · have := h.all x hx
          simp only [prepares, Bool.or_eq_true] at this ⊢
          rcases this with (h3 | h3) | h3
          · refine .inl (.inl ?_)
            simp only [covers, Bool.and_eq_true, decide_eq_true_eq, Bool.not_eq_true'] at h3 ⊢
            have := less_c h1
            exact ⟨⟨hb, h2.symm.trans h3.1.2⟩, by omega⟩
          · exact .inl (.inr h3)
          · exact .inr h3
    · rw [if_neg h2]
      refine ⟨hb, .inr ⟨hpz, h1, h2⟩, ?_⟩
      intro x hx
      rcases List.mem_cons.1 hx with rfl | hx
      · simp [prepares, covers_self hb]
      · have := h.all x hx
        simp only [prepares, Bool.or_eq_true, Bool.and_eq_true] at this ⊢
        rcases this with (h3 | h3) | h3
        · exact .inl (.inr h3)
        · refine .inr ⟨by simp [hpz], ?_⟩
          simp only [covers, Bool.and_eq_true, decide_eq_true_eq, Bool.not_eq_true'] at h3
          rcases h.qq with hq | ⟨_, hq1, _⟩
          · rw [hq, hz0] at h3; exact absurd h3.1.1 (by simp)
          · exact less_val h3.1.2 h3.2 hq1
        · refine .inr ⟨by simp [hpz], ?_⟩
          rcases h.qq with hq | ⟨_, hq1, _⟩
          · rw [hq, hz0] at h3; exact absurd h3.1 (by simp)
          · exact less_trans h3.2 hq1
  · rw [if_neg h1]
    have h1' : less p b = false := by simpa using h1
    by_cases h2 : (less b p && !decide (p.v = b.v) && (zeroB q || less q b)) = true
    · rw [if_pos h2]
      simp only [Bool.and_eq_true, Bool.or_eq_true, Bool.not_eq_true', decide_eq_false_iff_not] at h2
      obtain ⟨⟨g1, g2⟩, g3⟩ := h2
      refine ⟨hpz, .inr ⟨hb, g1, fun hv => g2 hv.symm⟩, ?_⟩
      intro x hx
      rcases List.mem_cons.1 hx with rfl | hx
      · simp [prepares, covers_self hb]
      · have := h.all x hx
        simp only [prepares, Bool.or_eq_true, Bool.and_eq_true] at this ⊢
        rcases this with (h3 | h3) | h3
        · exact .inl (.inl h3)
        · refine .inr ⟨by simp [hb], ?_⟩
          simp only [covers, Bool.and_eq_true, decide_eq_true_eq, Bool.not_eq_true'] at h3
          rcases g3 with g3 | g3
          · rw [g3] at h3; exact absurd h3.1.1 (by simp)
          · exact less_val h3.1.2 h3.2 g3
        · refine .inr ⟨by simp [hb], ?_⟩
          rcases g3 with g3 | g3
          · rw [g3] at h3; exact absurd h3.1 (by simp)
          · exact less_trans h3.2 g3
    · rw [if_neg h2]
      refine ⟨hpz, h.qq, ?_⟩
      intro x hx
      rcases List.mem_cons.1 hx with rfl | hx
      · simp only [prepares, Bool.or_eq_true, Bool.and_eq_true]
        cases h3 : less x p with
        | false =>
          have := less_total h1' h3
          subst this
          exact .inl (.inl (covers_self hb))
        | true =>
          by_cases h4 : p.v = x.v
          · refine .inl (.inl ?_)
            have := less_c h3
            simp [covers, hpz, h4, this]
          · simp only [h3, h4, Bool.true_and, Bool.and_eq_true, Bool.or_eq_true, decide_false, Bool.not_false, not_or, Bool.not_eq_true] at h2
            cases h5 : less x q with
            | true => exact .inr ⟨by simp [h2.1], rfl⟩
            | false =>
              have := less_total h2.2 h5
              subst this
              exact .inl (.inr (covers_self hb))
      · exact h.all x hx
end Go.Ab.S
