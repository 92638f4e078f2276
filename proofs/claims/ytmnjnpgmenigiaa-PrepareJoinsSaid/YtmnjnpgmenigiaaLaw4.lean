/- A part of the proof: an executor over plain data, shown sound for the model, and what it computes of the functions. -/
import Derived.Test.YtmnjnpgmenigiaaSp11
import Derived.Test.YtmnjnpgmenigiaaSp13
import Derived.Test.YtmnjnpgmenigiaaOrd
set_option linter.all false
set_option linter.unusedSimpArgs false
set_option linter.unusedVariables false
set_option linter.unusedSectionVars false
namespace Go.Ab.S
open Go Go.Ab
variable {E : Env} [EnvS E]

theorem e47 : callW E 47 [] [] = some ⟨.p (.bool true), [], []⟩ := by
  have h0 := e36 (E := E) 2 1 (by decide)
  have h1 := e51 (E := E) ⟨2, ⟨#[97]⟩⟩ ⟨0, ByteArray.empty⟩ ⟨3, ⟨#[98]⟩⟩
  have h2 : join ⟨2, ⟨#[97]⟩⟩ ⟨0, ByteArray.empty⟩ ⟨3, ⟨#[98]⟩⟩ = (⟨3, ⟨#[98]⟩⟩, ⟨2, ⟨#[97]⟩⟩) := by decide +kernel
  have h3 := e53 (E := E) 0 ⟨1, upto 2 0, []⟩ [] ⟨by decide, by decide, by simp⟩ (by decide) (by simp)
  have h4 : (viewM 0 ⟨1, upto 2 0, []⟩ []) = ⟨true, ⟨1, upto 2 0, []⟩⟩ :: List.replicate 9 memZ := rfl
  rw [h2] at h1
  rw [h4] at h3
  unfold Tr.pv at h0 h3
  simp only [Bal.pv, cast_lit, confPv, List.map_cons, List.map_nil] at h0 h1 h3
  have hl : (List.map Mem.pv (List.replicate 9 memZ)).length + 1 = 10 := rfl
  rw [callW_eq, EnvS.h 47 F47 rfl]
  simp -implicitDefEqProofs only [go_sem, Nat.reduceEqDiff, Nat.reduceAdd, Nat.reduceLeDiff, Nat.reduceLT, reduceCtorEq, ↓reduceIte, Nat.reduceBEq, Int.reduceLT, Int.reduceLE, Int.reduceNeg, Int.reduceEq, Int.toNat_natCast, cast_lit, Int.reduceToNat, F47, s47, h0, h1, h3, Mem.pv, List.length_cons, hl, List.length_map, List.length_replicate, Nat.reduceAdd]

theorem loop1004b (l : List Int) (a : Nat) (p q : Bal) (all : List Bal) (h : ∀ x ∈ all, prepares p q x = true) (hl : all.length ≤ 100) (k : Int) :
    loopW E 0 [3, 4, 5, 6, 7, 50, 51, 52] [.loc 1 1 0, .loc 1 1 1, .loc 1 1 2, .loc 1 1 3, .loc 2 0 0, .loc 2 1 0, .loc 3 0 0] (.trim [3, 4, 5, 6, 7, 50, 51, 52] [2] [(2, [3, 4, 5, 6, 7])] [.loc 1 1 0, .loc 1 1 1, .loc 1 1 2, .loc 1 1 3, .loc 2 0 0, .loc 2 1 0, .loc 3 0 0] s1004_4) (some ⟨[(3, .ptr (.loc 1 1 0) 0), (4, .ptr (.loc 2 0 0) 0), (5, .ptr (.loc 2 1 0) 0), (6, .hsl (.loc 3 0 0) 0 all.length), (7, .p (.int .i64 k)), (50, .hsl (.loc 3 0 0) 0 all.length), (51, .p (.int .i64 all.length)), (52, .p (.int .i64 0))],
      [(.loc 1 1 0, some (.box [.p (.sl 1 (l.map (.int .i64))), .p (.int .i64 a)])), (.loc 1 1 1, none), (.loc 1 1 2, none), (.loc 1 1 3, none), (.loc 2 0 0, some (.box [.p (.int .i64 p.c), .p (.str p.v)])), (.loc 2 1 0, some (.box [.p (.int .i64 q.c), .p (.str q.v)])), (.loc 3 0 0, some (.parr (all.map Bal.pv) 2 false))]⟩) =
    some (.ex 2, ⟨[(3, .ptr (.loc 1 1 0) 0), (4, .ptr (.loc 2 0 0) 0), (5, .ptr (.loc 2 1 0) 0), (6, .hsl (.loc 3 0 0) 0 all.length), (7, .p (.int .i64 k))],
      [(.loc 1 1 0, some (.box [.p (.sl 1 (l.map (.int .i64))), .p (.int .i64 a)])), (.loc 1 1 1, none), (.loc 1 1 2, none), (.loc 1 1 3, none), (.loc 2 0 0, some (.box [.p (.int .i64 p.c), .p (.str p.v)])), (.loc 2 1 0, some (.box [.p (.int .i64 q.c), .p (.str q.v)])), (.loc 3 0 0, some (.parr (all.map Bal.pv) 2 false))]⟩) := by
  generalize hK : loopW E 0 _ _ _ = K
  refine range_loopI K all (fun i (_ : Unit) => ⟨[(3, .ptr (.loc 1 1 0) 0), (4, .ptr (.loc 2 0 0) 0), (5, .ptr (.loc 2 1 0) 0), (6, .hsl (.loc 3 0 0) 0 all.length), (7, .p (.int .i64 k)), (50, .hsl (.loc 3 0 0) 0 all.length), (51, .p (.int .i64 all.length)), (52, .p (.int .i64 i))],
      [(.loc 1 1 0, some (.box [.p (.sl 1 (l.map (.int .i64))), .p (.int .i64 a)])), (.loc 1 1 1, none), (.loc 1 1 2, none), (.loc 1 1 3, none), (.loc 2 0 0, some (.box [.p (.int .i64 p.c), .p (.str p.v)])), (.loc 2 1 0, some (.box [.p (.int .i64 q.c), .p (.str q.v)])), (.loc 3 0 0, some (.parr (all.map Bal.pv) 2 false))]⟩)
    (fun _ _ => some (.ex 2, ⟨[(3, .ptr (.loc 1 1 0) 0), (4, .ptr (.loc 2 0 0) 0), (5, .ptr (.loc 2 1 0) 0), (6, .hsl (.loc 3 0 0) 0 all.length), (7, .p (.int .i64 k))],
      [(.loc 1 1 0, some (.box [.p (.sl 1 (l.map (.int .i64))), .p (.int .i64 a)])), (.loc 1 1 1, none), (.loc 1 1 2, none), (.loc 1 1 3, none), (.loc 2 0 0, some (.box [.p (.int .i64 p.c), .p (.str p.v)])), (.loc 2 1 0, some (.box [.p (.int .i64 q.c), .p (.str q.v)])), (.loc 3 0 0, some (.parr (all.map Bal.pv) 2 false))]⟩)) (fun _ _ => True) ?_ ?_ () trivial
  · intro _ _
    rw [← hK, loopW_some, hK]
    simp -implicitDefEqProofs only [go_sem, Nat.reduceEqDiff, Nat.reduceAdd, Nat.reduceLeDiff, Nat.reduceLT, reduceCtorEq, ↓reduceIte, Nat.reduceBEq, Int.reduceLT, Int.reduceLE, Int.reduceNeg, Int.reduceEq, Int.toNat_natCast, cast_lit, Int.reduceToNat, s1004_4, s1004_3, s1004_2]
  · intro i _ x r hx hn _ ih
    obtain ⟨f1, f2, f3⟩ := rangeFacts i all.length (by omega) (by omega)
    have hi : i < all.length := by omega
    have e1 := e46 (E := E) p q x
    rw [h x (List.mem_of_getElem? hx)] at e1
    have ih' := ih () trivial
    try dsimp only at ih' ⊢
    rw [← hK, loopW_some, hK]
    have hi0 : 0 + all.length ≤ all.length := by omega
    simp -implicitDefEqProofs only [go_sem, Nat.reduceEqDiff, Nat.reduceAdd, Nat.reduceLeDiff, Nat.reduceLT, reduceCtorEq, ↓reduceIte, Nat.reduceBEq, Int.reduceLT, Int.reduceLE, Int.reduceNeg, Int.reduceEq, Int.toNat_natCast, cast_lit, Int.reduceToNat, s1004_4, s1004_3, s1004_2, hx, f1, f2, f3, hi, Bal.pv, e1, hi0]
    exact ih'
theorem loop1004 (l : List Int) (hl : l.length ≤ 800) : ∀ (k a : Nat) (p q : Bal) (all : List Bal), all.length + k ≤ 50 → a ≤ l.length → (all = [] ∧ p = ⟨0, ByteArray.empty⟩ ∧ q = ⟨0, ByteArray.empty⟩ ∨ all ≠ [] ∧ JInv p q all) →
    ∃ (p' : Bal) (n' : Nat) (H' : Hp), (n' = 0 → zeroB p' = true) ∧ hget H' (.loc 2 0 0) = some (.box [.p (.int .i64 p'.c), .p (.str p'.v)]) ∧
    loopW E 0 [3, 4, 5, 6, 7] [.loc 1 1 0, .loc 1 1 1, .loc 1 1 2, .loc 1 1 3, .loc 2 0 0, .loc 2 1 0, .loc 3 0 0] (.trim [3, 4, 5, 6, 7] [2] [(0, [4, 6])] [.loc 1 1 0, .loc 1 1 1, .loc 1 1 2, .loc 1 1 3, .loc 2 0 0, .loc 2 1 0, .loc 3 0 0] s1004_7) (some ⟨[(3, .ptr (.loc 1 1 0) 0), (4, .ptr (.loc 2 0 0) 0), (5, .ptr (.loc 2 1 0) 0), (6, .hsl (.loc 3 0 0) 0 all.length), (7, .p (.int .i64 k))],
      [(.loc 1 1 0, some (.box [.p (.sl 1 (l.map (.int .i64))), .p (.int .i64 a)])), (.loc 1 1 1, none), (.loc 1 1 2, none), (.loc 1 1 3, none), (.loc 2 0 0, some (.box [.p (.int .i64 p.c), .p (.str p.v)])), (.loc 2 1 0, some (.box [.p (.int .i64 q.c), .p (.str q.v)])), (.loc 3 0 0, some (.parr (all.map Bal.pv) 2 false))]⟩) =
    some (.ex 0, ⟨[(4, .ptr (.loc 2 0 0) 0), (6, .hsl (.loc 3 0 0) 0 n')], H'⟩) := by
  generalize hK : loopW E 0 _ _ _ = K
  intro k
  induction k with
  | zero =>
    intro a p q all hk ha hI
    refine ⟨p, all.length, [(.loc 1 1 0, some (.box [.p (.sl 1 (l.map (.int .i64))), .p (.int .i64 a)])), (.loc 1 1 1, none), (.loc 1 1 2, none), (.loc 1 1 3, none), (.loc 2 0 0, some (.box [.p (.int .i64 p.c), .p (.str p.v)])), (.loc 2 1 0, some (.box [.p (.int .i64 q.c), .p (.str q.v)])), (.loc 3 0 0, some (.parr (all.map Bal.pv) 2 false))], ?_, ?_, ?_⟩
    · intro h0
      rcases hI with ⟨_, rfl, _⟩ | ⟨h1, _⟩
      · decide
      · exact absurd (List.length_eq_zero_iff.1 h0) h1
    · simp [hget]
    · rw [← hK, loopW_some, hK]
      simp -implicitDefEqProofs only [go_sem, Nat.reduceEqDiff, Nat.reduceAdd, Nat.reduceLeDiff, Nat.reduceLT, reduceCtorEq, ↓reduceIte, Nat.reduceBEq, Int.reduceLT, Int.reduceLE, Int.reduceNeg, Int.reduceEq, Int.toNat_natCast, cast_lit, Int.reduceToNat, s1004_7, s1004_6, s1004_1, s1004_5, Int.natCast_zero]
  | succ k ih =>
    intro a p q all hk ha hI
    have e1 := e39 (E := E) l a hl ha
    have b1 := dV_nonneg l a 6
    have l1 := dA_le l _ 4 (dA_le l a 6 ha)
    have hv := isVal_dV l (dA l a 6)
    generalize valN (dV l (dA l a 6) 4) = bv at *
    generalize dA l (dA l a 6) 4 = a1 at *
    generalize hbc : 1 + dV l a 6 = bc at *
    have hbz : zeroB ⟨bc, bv⟩ = false := by simp [zeroB]; omega
    have hbv : bv ≠ ByteArray.empty := by
      intro h; have := isVal_size hv; rw [h] at this; simp at this
    have e2 := e51 (E := E) p q ⟨bc, bv⟩
    have hJ : JInv (join p q ⟨bc, bv⟩).1 (join p q ⟨bc, bv⟩).2 (all ++ [⟨bc, bv⟩]) := by
      rcases hI with ⟨rfl, rfl, rfl⟩ | ⟨_, hJ⟩
      · rw [join_zero hbz (by decide)]
        refine ⟨hbz, .inl rfl, fun x hx => ?_⟩
        simp only [List.nil_append, List.mem_singleton] at hx
        subst hx
        simp [prepares, covers_self hbz]
      · have := join_inv hJ hbz hbv
        exact ⟨this.pz, this.qq, fun x hx => this.all x (by simp only [List.mem_append, List.mem_singleton] at hx; simp only [List.mem_cons]; exact hx.symm)⟩
    generalize join p q ⟨bc, bv⟩ = pq at *
    obtain ⟨p', q'⟩ := pq
    dsimp only at hJ e2
    obtain ⟨p2, n2, H2, r1, r2, r3⟩ := ih a1 p' q' (all ++ [⟨bc, bv⟩]) (by simp; omega) l1 (.inr ⟨by simp, hJ⟩)
    refine ⟨p2, n2, H2, r1, r2, ?_⟩
    have f1 : (0 : Int) < ((k + 1 : Nat) : Int) := by omega
    have f2 : IntKind.i64.wrap (((k + 1 : Nat) : Int) - 1) = (k : Int) := by rw [wrap64 (by omega) (by omega)]; omega
    have f3 : all.length + 1 ≤ most := by unfold most; omega
    have e3 := e45 (E := E) p'
    rw [hJ.pz] at e3
    have e4 := e45 (E := E) q'
    have e5 := e21 (E := E) q' p'
    have e6 := e128 (E := E) q' p'
    have lp := loop1004b (E := E) l a1 p' q' (all ++ [⟨bc, bv⟩]) hJ.all (by simp; omega) ((k + 1 : Nat) : Int)
    simp only [List.map_append, List.map_cons, List.map_nil, List.length_append, List.length_cons, List.length_nil, Nat.zero_add] at lp r3
    have hbp : Bal.pv ⟨bc, bv⟩ = .agg [.int .i64 bc, .str bv] := rfl
    rw [hbp] at lp r3
    rw [← hK, loopW_some, hK]
    rcases hJ.qq with hq | ⟨g1, g2, g3⟩
    · have : zeroB q' = true := by rw [hq]; decide
      rw [this] at e4
      simp -implicitDefEqProofs only [go_sem, Nat.reduceEqDiff, Nat.reduceAdd, Nat.reduceLeDiff, Nat.reduceLT, reduceCtorEq, ↓reduceIte, Nat.reduceBEq, Int.reduceLT, Int.reduceLE, Int.reduceNeg, Int.reduceEq, Int.toNat_natCast, cast_lit, Int.reduceToNat, s1004_7, s1004_6, s1004_1, s1004_5, f1, f2, f3, hbc, e1, e2, e3, e4, lp, Bal.pv]
      exact r3
    · rw [g1] at e4
      rw [g2] at e5
      simp -implicitDefEqProofs only [go_sem, Nat.reduceEqDiff, Nat.reduceAdd, Nat.reduceLeDiff, Nat.reduceLT, reduceCtorEq, ↓reduceIte, Nat.reduceBEq, Int.reduceLT, Int.reduceLE, Int.reduceNeg, Int.reduceEq, Int.toNat_natCast, cast_lit, Int.reduceToNat, s1004_7, s1004_6, s1004_1, s1004_5, f1, f2, f3, hbc, e1, e2, e3, e4, e5, e6, g3, lp, Bal.pv]
      exact r3
theorem law1004 (zs : List Int) : callW E 1004 [.p (.sl 1 (zs.map (.int .i64)))] [] = some ⟨.p (.bool true), [], []⟩ := by
  have e0 := e17 (E := E) zs
  have hl : (zs.take 800).length ≤ 800 := by simp; omega
  generalize zs.take 800 = l at *
  have f1 := e28 (E := E) l 0 8 hl (by omega) (by omega)
  have d1 := dV_nonneg l 0 8
  have d2 := dV_lt l 0 8 (by decide)
  have l1 := dA_le l 0 8 (by omega)
  simp only [cast_lit, Int.natCast_zero] at f1
  obtain ⟨k, hk⟩ : ∃ k : Nat, dV l 0 8 = k := ⟨(dV l 0 8).toNat, by omega⟩
  rw [hk] at f1
  obtain ⟨p', n', H', h1, h2, h3⟩ := loop1004 (E := E) l hl k (dA l 0 8) ⟨0, ByteArray.empty⟩ ⟨0, ByteArray.empty⟩ [] (by simp; omega) l1 (.inl ⟨rfl, rfl, rfl⟩)
  simp only [List.length_nil, List.map_nil] at h3
  have e1 := e45 (E := E) p'
  have e2 := e47 (E := E)
  rw [callW_eq, EnvS.h 1004 F1004 rfl]
  by_cases hn : n' = 0
  · rw [h1 hn] at e1
    subst hn
    simp -implicitDefEqProofs only [go_sem, Nat.reduceEqDiff, Nat.reduceAdd, Nat.reduceLeDiff, Nat.reduceLT, reduceCtorEq, ↓reduceIte, Nat.reduceBEq, Int.reduceLT, Int.reduceLE, Int.reduceNeg, Int.reduceEq, Int.toNat_natCast, cast_lit, Int.reduceToNat, F1004, s1004, s1004_8, e0, f1, h3, h2, e1, e2, Int.natCast_zero]
  · have hn' : (0 : Int) < (n' : Int) := by omega
    simp -implicitDefEqProofs only [go_sem, Nat.reduceEqDiff, Nat.reduceAdd, Nat.reduceLeDiff, Nat.reduceLT, reduceCtorEq, ↓reduceIte, Nat.reduceBEq, Int.reduceLT, Int.reduceLE, Int.reduceNeg, Int.reduceEq, Int.toNat_natCast, cast_lit, Int.reduceToNat, F1004, s1004, s1004_8, e0, f1, h3, h2, e2, hn']
end Go.Ab.S
