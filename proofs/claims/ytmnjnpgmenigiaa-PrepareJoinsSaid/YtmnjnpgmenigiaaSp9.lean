/- A part of the proof: an executor over plain data, shown sound for the model, and what it computes of the functions. -/
import Derived.Test.YtmnjnpgmenigiaaSp8
set_option linter.all false
set_option linter.unusedSimpArgs false
set_option linter.unusedVariables false
set_option linter.unusedSectionVars false
namespace Go.Ab.S
open Go Go.Ab
variable {E : Env} [EnvS E]

/-! ### The trusts that are made are valid -/
theorem tn_mem (l : List Int) : ∀ (k i a : Nat), ∀ x ∈ (tn l k i a).1, (i : Int) ≤ x ∧ x < (i + k : Nat)
  | 0, i, a => by simp [tn]
  | k + 1, i, a => by
    intro x hx
    have ih := tn_mem l k (i + 1) (dA l a 5)
    simp only [tn] at hx
    split at hx
    · simp only [List.mem_cons] at hx
      rcases hx with rfl | hx
      · omega
      · have := ih x hx; omega
    · have := ih x hx; omega
theorem tn_of (l : List Int) : ∀ (k i a acc : Nat), i + k ≤ 10 → acc < 2 ^ i → (ofL acc (tn l k i a).1).2 = 0
  | 0, i, a, acc, h, h2 => by simp [tn, ofL]
  | k + 1, i, a, acc, h, h2 => by
    simp only [tn]
    split
    · have h3 : acc.testBit i = false := Nat.testBit_lt_two_pow h2
      have h4 : acc ||| 2 ^ i < 2 ^ (i + 1) := Nat.or_lt_two_pow (Nat.lt_of_lt_of_le h2 (Nat.pow_le_pow_right (by decide) (by omega))) (Nat.pow_lt_pow_right (by decide) (by omega))
      rw [ofL_cons _ _ _ (by omega) (by simpa using h3)]
      simp only [Int.toNat_natCast]
      exact tn_of l k (i + 1) (dA l a 5) _ (by omega) h4
    · exact tn_of l k (i + 1) (dA l a 5) acc (by omega) (Nat.lt_of_lt_of_le h2 (Nat.pow_le_pow_right (by decide) (by omega)))
/-- Trusts of some of the first n nodes. -/
structure TrG (n : Nat) (t : Tr) : Prop where
  thin : t.thin
  ok : errT t = 0
  nn : 1 ≤ t.ns.length
  ns : ∀ x ∈ t.ns, 0 ≤ x ∧ x < n
  is : ∀ x ∈ t.is, ∃ y : Int, x = ⟨1, [y]⟩ ∧ 0 ≤ y ∧ y < n
theorem any_bad {n : Nat} (hn : n ≤ 10) {l : List Int} (h : ∀ x ∈ l, 0 ≤ x ∧ x < n) : l.any badN = false := by
  rw [List.any_eq_false]
  intro x hx
  have := h x hx
  simp [badN]; omega
theorem ofL_one (y : Int) (h : 0 ≤ y ∧ y < 10) : (ofL 0 [y]).2 = 0 := by
  rw [ofL_cons _ _ _ (by omega) (by simp)]
  rfl
theorem trG_ok (l : List Int) (a n : Nat) (h1 : 1 ≤ n) (h10 : n ≤ 10) : TrG n (trG l a n).1 := by
  have g1 := trR2_len l a n h1
  have g2 := trI_len l a n
  have m1 : ∀ x ∈ (trR2 l a n).1, 0 ≤ x ∧ x < n := by
    intro x hx
    unfold trR2 at hx
    dsimp only at hx
    split at hx
    · simp only [List.mem_cons, List.not_mem_nil, or_false] at hx
      subst hx
      exact ⟨dV_nonneg .., dV_lt _ _ _ (by omega)⟩
    · have := tn_mem l n 0 a x hx
      omega
  have m2 : ∀ x ∈ (trI l a n).1, ∃ y : Int, x = ⟨1, [y]⟩ ∧ 0 ≤ y ∧ y < n := by
    intro x hx
    unfold trI at hx
    dsimp only at hx
    split at hx
    · simp only [List.mem_cons, List.not_mem_nil, or_false] at hx
      subst hx
      exact ⟨_, rfl, dV_nonneg .., dV_lt _ _ _ (by omega)⟩
    · simp at hx
  have o1 : (ofL 0 (trR2 l a n).1).2 = 0 := by
    unfold trR2
    dsimp only
    split
    · exact ofL_one _ ⟨dV_nonneg .., by have := dV_lt l (tn l n 0 a).2 n (by omega); omega⟩
    · exact tn_of l n 0 a 0 (by omega) (by decide)
  have o2 : errIs (trI l a n).1 = 0 := by
    cases hi : (trI l a n).1 with
    | nil => rfl
    | cons x r =>
      have hr : r = [] := by
        rw [hi] at g2
        simp only [List.length_cons] at g2
        exact List.length_eq_zero_iff.1 (by omega)
      subst hr
      obtain ⟨y, rfl, y1, y2⟩ := m2 x (by rw [hi]; exact List.mem_cons_self)
      have : errI ⟨1, [y]⟩ = 0 := by
        unfold errI
        rw [if_neg (by simp), if_neg (by simp [badN]; omega)]
        exact ofL_one y ⟨y1, by omega⟩
      simp [errIs, this]
  have gk : 1 ≤ trK l a n ∧ trK l a n ≤ 11 := by unfold trK; omega
  have th : 1 ≤ (trG l a n).1.th ∧ (trG l a n).1.th ≤ trK l a n := by
    unfold trG
    dsimp only
    split
    · omega
    · unfold trT
      have b1 := dV_nonneg l (trI l a n).2 (trD l a n)
      have b2 := dV_lt l (trI l a n).2 (trD l a n) (by unfold trD; omega)
      unfold trD at *
      omega
  refine ⟨⟨?_, ?_, ?_⟩, ?_, ?_, ?_, ?_⟩
  · show (trR2 l a n).1.length ≤ 12; omega
  · show (trI l a n).1.length ≤ 4; omega
  · intro x hx
    obtain ⟨y, rfl, _⟩ := m2 x hx
    unfold In.thin; simp
  · unfold errT
    rw [if_neg (by unfold trK at th; show ¬ ((trG l a n).1.th < 1 ∨ ((trR2 l a n).1.length : Int) + ((trI l a n).1.length : Int) < (trG l a n).1.th); omega), if_neg (by rw [show (trG l a n).1.ns = (trR2 l a n).1 from rfl, any_bad h10 m1]; simp), if_pos (by exact o1)]
    exact o2
  · exact g1.1
  · exact m1
  · exact m2
end Go.Ab.S
