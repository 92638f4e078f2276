/- A part of the proof: an executor over plain data, shown sound for the model, and what it computes of the functions. -/
import Derived.Test.YtmnjnpgmenigiaaGreatB20cd91eac1
import Derived.Test.YtmnjnpgmenigiaaGreatB25fb81f422
import Derived.Laws.Strings
set_option linter.all false
namespace Go.Ab.S
open Go Go.Ab
variable {E : Env} [EnvS E]

/-! ### Partitions -/
theorem pl_size (a : Nat) : ∀ (n i j : Nat) (d : Array Int), j + 1 - i ≤ n → (Sort.partLoop ltI a i j d).2.size = d.size ∧ (Sort.partLoop ltI a i j d).1 ≤ j := by
  intro n
  induction n with
  | zero =>
    intro i j d h
    rw [Sort.partLoop]
    have h1 := scanUp_ge (fun x => ltI x d[a]!) d j _ i (Nat.le_refl _)
    have h2 := scanDown_le (fun x => !ltI x d[a]!) d (Sort.scanUp (fun x => ltI x d[a]!) d j i) j
    rw [if_pos (by omega)]
    exact ⟨rfl, h2⟩
  | succ n ih =>
    intro i j d h
    rw [Sort.partLoop]
    have h1 := scanUp_ge (fun x => ltI x d[a]!) d j _ i (Nat.le_refl _)
    have h2 := scanDown_le (fun x => !ltI x d[a]!) d (Sort.scanUp (fun x => ltI x d[a]!) d j i) j
    split
    · exact ⟨rfl, h2⟩
    · split
      · obtain ⟨q1, q2⟩ := ih (Sort.scanUp (fun x => ltI x d[a]!) d j i + 1) (Sort.scanDown (fun x => !ltI x d[a]!) d (Sort.scanUp (fun x => ltI x d[a]!) d j i) j - 1) (Sort.swp d (Sort.scanUp (fun x => ltI x d[a]!) d j i) (Sort.scanDown (fun x => !ltI x d[a]!) d (Sort.scanUp (fun x => ltI x d[a]!) d j i) j)) (by omega)
        rw [swp_size] at q1
        exact ⟨q1, by omega⟩
      · exact ⟨rfl, h2⟩
theorem loop279 (a : Nat) : ∀ (n i j : Nat) (d : Array Int), j + 1 - i ≤ n → a < d.size → j < d.size → 1 ≤ i → d.size < 1152921504606846976 → i < 1152921504606846976 →
    ∃ jj : Nat, jj = (Sort.partLoop ltI a i j d).1 ∧ loopW E 1 [0, 1, 4, 12, 13] [] (.trim [0, 1, 4, 12, 13] [10, 11] [(4, [0, 1, 13])] [] s279_15) (some ⟨[(0, .hsl (.ext 0) 0 d.size), (1, .p (.int .i64 a)), (4, .fn 115 [] []), (12, .p (.int .i64 i)), (13, .p (.int .i64 j))], [(.ext 0, some (.parr (d.toList.map (.int .i64)) 1 false))]⟩) =
    some (.ex 4, ⟨[(0, .hsl (.ext 0) 0 d.size), (1, .p (.int .i64 a)), (13, .p (.int .i64 jj))], [(.ext 0, some (.parr ((Sort.partLoop ltI a i j d).2.toList.map (.int .i64)) 1 false))]⟩) := by
  generalize hK : loopW E 1 _ _ _ = K
  intro n
  induction n with
  | zero =>
    intro i j d hn ha hj hi hs hi2
    refine ⟨_, rfl, ?_⟩
    have lp1 := up279_9 (E := E) d a j ha hj hs _ i (Nat.le_refl _) (by omega)
    have h1 := scanUp_ge (fun x => ltI x d[a]!) d j _ i (Nat.le_refl _)
    have lp2 := down279_12 (E := E) d a (Sort.scanUp (fun x => ltI x d[a]!) d j i) ha (by omega) hs j hj
    have h2 := scanDown_le (fun x => !ltI x d[a]!) d (Sort.scanUp (fun x => ltI x d[a]!) d j i) j
    rw [Sort.partLoop]
    generalize Sort.scanUp (fun x => ltI x d[a]!) d j i = i2 at *
    generalize Sort.scanDown (fun x => !ltI x d[a]!) d i2 j = j2 at *
    have f1 : (j2 : Int) < (i2 : Int) := by omega
    rw [if_pos (by omega)]
    rw [← hK, loopW_some, hK]
    simp -implicitDefEqProofs only [go_sem, s279_15, s279_14, s279_10, s279_13, lp1, lp2, f1]
  | succ n ih =>
    intro i j d hn ha hj hi hs hi2
    have lp1 := up279_9 (E := E) d a j ha hj hs _ i (Nat.le_refl _) (by omega)
    have h1 := scanUp_ge (fun x => ltI x d[a]!) d j _ i (Nat.le_refl _)
    have lp2 := down279_12 (E := E) d a (Sort.scanUp (fun x => ltI x d[a]!) d j i) ha (by omega) hs j hj
    have h2 := scanDown_le (fun x => !ltI x d[a]!) d (Sort.scanUp (fun x => ltI x d[a]!) d j i) j
    rw [Sort.partLoop]
    generalize Sort.scanUp (fun x => ltI x d[a]!) d j i = i2 at *
    generalize Sort.scanDown (fun x => !ltI x d[a]!) d i2 j = j2 at *
    by_cases h : i2 > j2
    · refine ⟨_, rfl, ?_⟩
      have f1 : (j2 : Int) < (i2 : Int) := by omega
      rw [if_pos h]
      rw [← hK, loopW_some, hK]
      simp -implicitDefEqProofs only [go_sem, s279_15, s279_14, s279_10, s279_13, lp1, lp2, f1]
    · have f1 : ¬ (j2 : Int) < (i2 : Int) := by omega
      rw [if_neg h, dif_pos (by omega)]
      obtain ⟨jj, r1, r2⟩ := ih (i2 + 1) (j2 - 1) (Sort.swp d i2 j2) (by omega) (by rw [swp_size]; exact ha) (by rw [swp_size]; omega) (by omega) (by rw [swp_size]; exact hs) (by omega)
      refine ⟨jj, r1, ?_⟩
      rw [swp_size, swp_map] at r2
      have n1 : (0 : Int) ≤ (i2 : Int) := by omega
      have n2 : (0 : Int) ≤ (j2 : Int) := by omega
      have i1 : i2 < d.size := by omega
      have j1 : j2 < d.size := by omega
      have g1 := ar_get i1
      have g2 := ar_get j1
      have h0 : 0 + d.size ≤ d.size := by omega
      have a0 : d.toList.length = d.size := Array.length_toList
      have w1 := wAdd1 i2 (by omega)
      have w2 : IntKind.i64.wrap ((j2 : Int) - 1) = ((j2 - 1 : Nat) : Int) := wSub j2 1 (by omega) (by omega)
      obtain ⟨y, hy⟩ := set_get (.int .i64) d i2 j2 d[j2]! j1
      rw [← hK, loopW_some, hK]
      simp -implicitDefEqProofs only [go_sem, s279_15, s279_14, s279_10, s279_13, lp1, lp2, f1, n1, n2, i1, j1, g1, g2, h0, a0, w1, w2, hy, setE, List.length_map, List.length_set]
      exact r2
theorem e279 (d : Array Int) (a b p : Nat) (hab : a + 1 < b) (hb : b ≤ d.size) (hp : p < d.size) (hs : d.size < 1152921504606846976) :
    callW E 279 [.hsl (.ext 0) 0 d.size, .p (.int .i64 a), .p (.int .i64 b), .p (.int .i64 p), .fn 115 [] []] [.parr (d.toList.map (.int .i64)) 1 false] =
    some ⟨.tup [.p (.int .i64 (Sort.partition ltI d a b p).1), .p (.bool (Sort.partition ltI d a b p).2.1)], [.parr ((Sort.partition ltI d a b p).2.2.toList.map (.int .i64)) 1 false], []⟩ := by
  have ha : a < d.size := by omega
  have n1 : (0 : Int) ≤ (a : Int) := by omega
  have n2 : (0 : Int) ≤ (p : Int) := by omega
  have g1 := ar_get ha
  have g2 := ar_get hp
  have h0 : 0 + d.size ≤ d.size := by omega
  have a0 : d.toList.length = d.size := Array.length_toList
  have w1 := wAdd1 a (by omega)
  have w2 : IntKind.i64.wrap ((b : Int) - 1) = ((b - 1 : Nat) : Int) := wSub b 1 (by omega) (by omega)
  obtain ⟨y, hy⟩ := set_get (.int .i64) d a p d[p]! hp
  have z := swp_size d a p
  unfold Sort.partition
  dsimp only
  have hm := swp_map (.int .i64) d a p
  have sw : callW E 279 [.hsl (.ext 0) 0 d.size, .p (.int .i64 a), .p (.int .i64 b), .p (.int .i64 p), .fn 115 [] []] [.parr (d.toList.map (.int .i64)) 1 false] = callW E 279 [.hsl (.ext 0) 0 d.size, .p (.int .i64 a), .p (.int .i64 b), .p (.int .i64 p), .fn 115 [] []] [.parr (d.toList.map (.int .i64)) 1 false] := rfl
  generalize hd1 : Sort.swp d a p = d1 at *
  have lp1 := up279_2 (E := E) d1 a (b - 1) (by omega) (by omega) (by omega) _ (a + 1) (Nat.le_refl _) (by omega)
  have h1 := scanUp_ge (fun x => ltI x d1[a]!) d1 (b - 1) _ (a + 1) (Nat.le_refl _)
  have lp2 := down279_5 (E := E) d1 a (Sort.scanUp (fun x => ltI x d1[a]!) d1 (b - 1) (a + 1)) (by omega) (by omega) (by omega) (b - 1) (by omega)
  have h2 := scanDown_le (fun x => !ltI x d1[a]!) d1 (Sort.scanUp (fun x => ltI x d1[a]!) d1 (b - 1) (a + 1)) (b - 1)
  generalize Sort.scanUp (fun x => ltI x d1[a]!) d1 (b - 1) (a + 1) = i2 at *
  generalize Sort.scanDown (fun x => !ltI x d1[a]!) d1 i2 (b - 1) = j2 at *
  rw [z] at lp1 lp2
  rw [hm] at lp1 lp2
  have j1 : j2 < d1.size := by omega
  have a1 : a < d1.size := by omega
  have gj := ar_get j1
  have ga := ar_get a1
  have gj' : (((d.toList.map (.int .i64)).set a (.int .i64 d[p]!)).set p (.int .i64 d[a]!))[j2]? = some (PV.int .i64 d1[j2]!) := by rw [← hm, List.getElem?_map, gj]; rfl
  have ga' : (((d.toList.map (.int .i64)).set a (.int .i64 d[p]!)).set p (.int .i64 d[a]!))[a]? = some (PV.int .i64 d1[a]!) := by rw [← hm, List.getElem?_map, ga]; rfl
  have nj : (0 : Int) ≤ (j2 : Int) := by omega
  have j1' : j2 < d.size := by omega
  by_cases h : i2 > j2
  · have f1 : (j2 : Int) < (i2 : Int) := by omega
    rw [if_pos h]
    dsimp only
    obtain ⟨y2, hy2⟩ := set_get (.int .i64) d1 j2 a d1[a]! a1
    rw [swp_map, hm]
    rw [hm] at hy2
    rw [callW_eq, EnvS.h 279 F279 rfl]
    simp -implicitDefEqProofs only [go_sem, F279, s279, s279_3, s279_6, s279_7, n1, n2, ha, hp, g1, g2, h0, a0, w1, w2, hy, setE, List.length_map, List.length_set, lp1, lp2, f1, gj', ga', nj, j1', hy2]
  · have f1 : ¬ (j2 : Int) < (i2 : Int) := by omega
    rw [if_neg h]
    dsimp only
    have i1 : i2 < d1.size := by omega
    have i1' : i2 < d.size := by omega
    have gi := ar_get i1
    have gi' : (((d.toList.map (.int .i64)).set a (.int .i64 d[p]!)).set p (.int .i64 d[a]!))[i2]? = some (PV.int .i64 d1[i2]!) := by rw [← hm, List.getElem?_map, gi]; rfl
    have ni : (0 : Int) ≤ (i2 : Int) := by omega
    obtain ⟨y2, hy2⟩ := set_get (.int .i64) d1 i2 j2 d1[j2]! j1
    rw [hm] at hy2
    have w3 := wAdd1 i2 (by omega)
    have w4 : IntKind.i64.wrap ((j2 : Int) - 1) = ((j2 - 1 : Nat) : Int) := wSub j2 1 (by omega) (by omega)
    have z2 := swp_size d1 i2 j2
    have hm2 := swp_map (.int .i64) d1 i2 j2
    rw [hm] at hm2
    generalize hd2 : Sort.swp d1 i2 j2 = d2 at *
    obtain ⟨jj, r1, lp3⟩ := loop279 (E := E) a _ (i2 + 1) (j2 - 1) d2 (Nat.le_refl _) (by omega) (by omega) (by omega) (by omega) (by omega)
    obtain ⟨z3, q3⟩ := pl_size a _ (i2 + 1) (j2 - 1) d2 (Nat.le_refl _)
    rw [z2, z, hm2] at lp3
    rw [← r1] at q3 ⊢
    generalize Sort.partLoop ltI a (i2 + 1) (j2 - 1) d2 = pl at *
    obtain ⟨j3, d3⟩ := pl
    dsimp only at r1 lp3 z3 ⊢
    have k1 : jj < d3.size := by omega
    have k1' : jj < d.size := by omega
    have k2 : a < d3.size := by omega
    have gk := ar_get k1
    have gl := ar_get k2
    have nk : (0 : Int) ≤ (jj : Int) := by omega
    have a3 : d3.toList.length = d.size := by rw [Array.length_toList]; omega
    obtain ⟨y3, hy3⟩ := set_get (.int .i64) d3 jj a d3[a]! k2
    rw [swp_map]
    rw [callW_eq, EnvS.h 279 F279 rfl]
    simp -implicitDefEqProofs only [go_sem, F279, s279, s279_3, s279_6, s279_7, s279_16, n1, n2, ha, hp, g1, g2, h0, a0, w1, w2, hy, setE, List.length_map, List.length_set, lp1, lp2, f1, gj', gi', nj, ni, j1', i1', hy2, w3, w4, lp3, gk, gl, nk, k1', a3, hy3]
end Go.Ab.S

namespace Go.Ab.S
open Go Go.Ab
variable {E : Env} [EnvS E]

/-! ### The other partition -/
theorem loop278 (a : Nat) : ∀ (n i j : Nat) (d : Array Int), j + 1 - i ≤ n → a < d.size → j < d.size → 1 ≤ i → d.size < 1152921504606846976 → i < 1152921504606846976 →
    loopW E 1 [0, 1, 4, 11, 12] [] (.trim [0, 1, 4, 11, 12] [10] [(0, [11])] [] s278_8) (some ⟨[(0, .hsl (.ext 0) 0 d.size), (1, .p (.int .i64 a)), (4, .fn 115 [] []), (11, .p (.int .i64 i)), (12, .p (.int .i64 j))], [(.ext 0, some (.parr (d.toList.map (.int .i64)) 1 false))]⟩) =
    some (.ex 0, ⟨[(11, .p (.int .i64 (Sort.partEqLoop ltI a i j d).1))], [(.ext 0, some (.parr ((Sort.partEqLoop ltI a i j d).2.toList.map (.int .i64)) 1 false))]⟩) := by
  generalize hK : loopW E 1 _ _ _ = K
  intro n
  induction n with
  | zero =>
    intro i j d hn ha hj hi hs hi2
    have lp1 := up278_2 (E := E) d a j ha hj hs _ i (Nat.le_refl _) (by omega)
    have h1 := scanUp_ge (fun x => !ltI d[a]! x) d j _ i (Nat.le_refl _)
    have lp2 := down278_5 (E := E) d a (Sort.scanUp (fun x => !ltI d[a]! x) d j i) ha (by omega) hs j hj
    have h2 := scanDown_le (fun x => ltI d[a]! x) d (Sort.scanUp (fun x => !ltI d[a]! x) d j i) j
    rw [Sort.partEqLoop]
    generalize Sort.scanUp (fun x => !ltI d[a]! x) d j i = i2 at *
    generalize Sort.scanDown (fun x => ltI d[a]! x) d i2 j = j2 at *
    have f1 : (j2 : Int) < (i2 : Int) := by omega
    rw [if_pos (by omega)]
    rw [← hK, loopW_some, hK]
    simp -implicitDefEqProofs only [go_sem, s278_8, s278_7, s278_3, s278_6, lp1, lp2, f1]
  | succ n ih =>
    intro i j d hn ha hj hi hs hi2
    have lp1 := up278_2 (E := E) d a j ha hj hs _ i (Nat.le_refl _) (by omega)
    have h1 := scanUp_ge (fun x => !ltI d[a]! x) d j _ i (Nat.le_refl _)
    have lp2 := down278_5 (E := E) d a (Sort.scanUp (fun x => !ltI d[a]! x) d j i) ha (by omega) hs j hj
    have h2 := scanDown_le (fun x => ltI d[a]! x) d (Sort.scanUp (fun x => !ltI d[a]! x) d j i) j
    rw [Sort.partEqLoop]
    generalize Sort.scanUp (fun x => !ltI d[a]! x) d j i = i2 at *
    generalize Sort.scanDown (fun x => ltI d[a]! x) d i2 j = j2 at *
    by_cases h : i2 > j2
    · have f1 : (j2 : Int) < (i2 : Int) := by omega
      rw [if_pos h]
      rw [← hK, loopW_some, hK]
      simp -implicitDefEqProofs only [go_sem, s278_8, s278_7, s278_3, s278_6, lp1, lp2, f1]
    · have f1 : ¬ (j2 : Int) < (i2 : Int) := by omega
      rw [if_neg h, dif_pos (by omega)]
      have r2 := ih (i2 + 1) (j2 - 1) (Sort.swp d i2 j2) (by omega) (by rw [swp_size]; exact ha) (by rw [swp_size]; omega) (by omega) (by rw [swp_size]; exact hs) (by omega)
      rw [swp_size, swp_map] at r2
      have n1 : (0 : Int) ≤ (i2 : Int) := by omega
      have n2 : (0 : Int) ≤ (j2 : Int) := by omega
      have i1 : i2 < d.size := by omega
      have j1 : j2 < d.size := by omega
      have g1 := ar_get i1
      have g2 := ar_get j1
      have h0 : 0 + d.size ≤ d.size := by omega
      have a0 : d.toList.length = d.size := Array.length_toList
      have w1 := wAdd1 i2 (by omega)
      have w2 : IntKind.i64.wrap ((j2 : Int) - 1) = ((j2 - 1 : Nat) : Int) := wSub j2 1 (by omega) (by omega)
      obtain ⟨y, hy⟩ := set_get (.int .i64) d i2 j2 d[j2]! j1
      rw [← hK, loopW_some, hK]
      simp -implicitDefEqProofs only [go_sem, s278_8, s278_7, s278_3, s278_6, lp1, lp2, f1, n1, n2, i1, j1, g1, g2, h0, a0, w1, w2, hy, setE, List.length_map, List.length_set]
      exact r2
theorem e278 (d : Array Int) (a b p : Nat) (hab : a + 1 < b) (hb : b ≤ d.size) (hp : p < d.size) (hs : d.size < 1152921504606846976) :
    callW E 278 [.hsl (.ext 0) 0 d.size, .p (.int .i64 a), .p (.int .i64 b), .p (.int .i64 p), .fn 115 [] []] [.parr (d.toList.map (.int .i64)) 1 false] =
    some ⟨.p (.int .i64 (Sort.partitionEqual ltI d a b p).1), [.parr ((Sort.partitionEqual ltI d a b p).2.toList.map (.int .i64)) 1 false], []⟩ := by
  have ha : a < d.size := by omega
  have n1 : (0 : Int) ≤ (a : Int) := by omega
  have n2 : (0 : Int) ≤ (p : Int) := by omega
  have g1 := ar_get ha
  have g2 := ar_get hp
  have h0 : 0 + d.size ≤ d.size := by omega
  have a0 : d.toList.length = d.size := Array.length_toList
  have w1 := wAdd1 a (by omega)
  have w2 : IntKind.i64.wrap ((b : Int) - 1) = ((b - 1 : Nat) : Int) := wSub b 1 (by omega) (by omega)
  obtain ⟨y, hy⟩ := set_get (.int .i64) d a p d[p]! hp
  have z := swp_size d a p
  unfold Sort.partitionEqual
  have lp := loop278 (E := E) a _ (a + 1) (b - 1) (Sort.swp d a p) (Nat.le_refl _) (by omega) (by omega) (by omega) (by omega) (by omega)
  rw [swp_size, swp_map] at lp
  rw [callW_eq, EnvS.h 278 F278 rfl]
  simp -implicitDefEqProofs only [go_sem, F278, s278, s278_9, n1, n2, ha, hp, g1, g2, h0, a0, w1, w2, hy, setE, List.length_map, List.length_set, lp]

/-! ### What may be in order already -/
theorem loop277i (a b : Nat) (j : Int) (d : Array Int) (hb : b ≤ d.size) (hs : d.size < 1152921504606846976) : ∀ (n i : Nat), b - i ≤ n → 1 ≤ i → i < 1152921504606846977 →
    loopW E 1 [0, 1, 2, 3, 9, 10] [] (.trim [0, 1, 2, 3, 9, 10] [8] [(2, [0, 1, 2, 3, 9, 10])] [] s277_2) (some ⟨[(0, .hsl (.ext 0) 0 d.size), (1, .p (.int .i64 a)), (2, .p (.int .i64 b)), (3, .fn 115 [] []), (9, .p (.int .i64 i)), (10, .p (.int .i64 j))], [(.ext 0, some (.parr (d.toList.map (.int .i64)) 1 false))]⟩) =
    some (.ex 2, ⟨[(0, .hsl (.ext 0) 0 d.size), (1, .p (.int .i64 a)), (2, .p (.int .i64 b)), (3, .fn 115 [] []), (9, .p (.int .i64 (Sort.scanSorted ltI d b i : Nat))), (10, .p (.int .i64 j))], [(.ext 0, some (.parr (d.toList.map (.int .i64)) 1 false))]⟩) := by
  generalize hK : loopW E 1 _ _ _ = K
  intro n
  induction n with
  | zero =>
    intro i hn h1 hi
    have f1 : ¬ (i : Int) < (b : Int) := by omega
    rw [Sort.scanSorted, if_neg (by simp; omega)]
    rw [← hK, loopW_some, hK]
    simp -implicitDefEqProofs only [go_sem, s277_2, s277_1, f1]
  | succ n ih =>
    intro i hn h1 hi
    by_cases h : i < b
    · have f1 : (i : Int) < (b : Int) := by omega
      have n1 : (0 : Int) ≤ (i : Int) := by omega
      have n2 : (0 : Int) ≤ ((i - 1 : Nat) : Int) := by omega
      have i1 : i < d.size := by omega
      have i2 : i - 1 < d.size := by omega
      have g1 := ar_get i1
      have g2 := ar_get i2
      have h0 : 0 + d.size ≤ d.size := by omega
      have a0 : d.toList.length = d.size := Array.length_toList
      have w1 := wAdd1 i (by omega)
      have w2 : IntKind.i64.wrap ((i : Int) - 1) = ((i - 1 : Nat) : Int) := wSub i 1 (by omega) (by omega)
      have e1 := e115 (E := E) d[i]! d[i - 1]!
      have e2 := cmpI_lt d[i]! d[i - 1]!
      cases hl : ltI d[i]! d[i - 1]! with
      | false =>
        rw [hl] at e2
        have e3 := of_decide_eq_false e2
        rw [Sort.scanSorted, if_pos (by simp [h, hl])]
        have ih' := ih (i + 1) (by omega) (by omega) (by omega)
        rw [← hK, loopW_some, hK]
        simp -implicitDefEqProofs only [go_sem, s277_2, s277_1, f1, n1, n2, i1, i2, g1, g2, h0, a0, w1, w2, e1, e3]
        exact ih'
      | true =>
        rw [hl] at e2
        have e3 := of_decide_eq_true e2
        rw [Sort.scanSorted, if_neg (by simp [hl])]
        rw [← hK, loopW_some, hK]
        simp -implicitDefEqProofs only [go_sem, s277_2, s277_1, f1, n1, n2, i1, i2, g1, g2, h0, a0, w1, w2, e1, e3]
    · have f1 : ¬ (i : Int) < (b : Int) := by omega
      rw [Sort.scanSorted, if_neg (by simp; omega)]
      rw [← hK, loopW_some, hK]
      simp -implicitDefEqProofs only [go_sem, s277_2, s277_1, f1]
theorem pi_eq (d : Array Int) (a b : Nat) (h : b - a < 50) : Sort.partialInsertionSort ltI d a b = (d, decide (Sort.scanSorted ltI d b (a + 1) = b)) := by
  rw [Sort.partialInsertionSort, Sort.partialIns]
  dsimp only
  by_cases h1 : Sort.scanSorted ltI d b (a + 1) = b
  · rw [if_pos h1]; simp [h1]
  · rw [if_neg h1, if_pos h]; simp [h1]
theorem e277 (d : Array Int) (a b : Nat) (hab : a < b) (hb : b ≤ d.size) (hs : d.size < 50) :
    callW E 277 [.hsl (.ext 0) 0 d.size, .p (.int .i64 a), .p (.int .i64 b), .fn 115 [] []] [.parr (d.toList.map (.int .i64)) 1 false] =
    some ⟨.p (.bool (Sort.partialInsertionSort ltI d a b).2), [.parr (d.toList.map (.int .i64)) 1 false], []⟩ := by
  rw [pi_eq _ _ _ (by omega)]
  dsimp only
  have w1 := wAdd1 a (by omega)
  have w2 := wSub b a (by omega) (by omega)
  have f1 : ((b - a : Nat) : Int) < 50 := by omega
  have lp := loop277i (E := E) a b 0 d hb (by omega) _ (a + 1) (Nat.le_refl _) (by omega) (by omega)
  generalize Sort.scanSorted ltI d b (a + 1) = i2 at *
  rw [callW_eq, EnvS.h 277 F277 rfl]
  by_cases h : i2 = b
  · subst h
    have f2 : decide (i2 = i2) = true := by simp
    rw [f2]
    simp -implicitDefEqProofs only [go_sem, F277, s277, s277_16, s277_15, s277_14, s277_3, s277_4, s277_5, s277_9, s277_8, s277_13, s277_12, loopW_some, w1, w2, lp]
  · have f2 : decide (i2 = b) = false := by simp [h]
    have f3 : ¬ (i2 : Int) = (b : Int) := by omega
    rw [f2]
    simp -implicitDefEqProofs only [go_sem, F277, s277, s277_16, s277_15, s277_14, s277_3, s277_4, s277_5, s277_9, s277_8, s277_13, s277_12, loopW_some, w1, w2, f1, f3, lp]
end Go.Ab.S

namespace Go.Ab.S
open Go Go.Ab
variable {E : Env} [EnvS E]

/-! ### The sort -/
theorem swo_ltI : Sort.SWO ltI where
  irrefl x := by simp [ltI]
  trans x y z h1 h2 := by simp [ltI] at *; omega
  ntrans x y z h1 h2 := by simp [ltI] at *; omega
section
variable {a b : Nat} {d d' : Array Int}
theorem below_perm (hb : b ≤ d.size) (h : Sort.PermIn a b d d') (hB : Sort.Below ltI a b d) : Sort.Below ltI a b d' := by
  rcases hB with h0 | hB
  · exact .inl h0
  · rcases Nat.eq_zero_or_pos a with h0 | ha
    · exact .inl h0
    right
    intro i h1 h2
    rw [h.2.1 (a - 1) (.inl (by omega))]
    exact Go.Sort.permIn_all d d' a b (fun x => ltI x d[a - 1]! = false) hb h hB i h1 h2
theorem below_eq (ha : ∀ i, a ≤ i + 1 → i < b → d'[i]! = d[i]!) (hB : Sort.Below ltI a b d) : Sort.Below ltI a b d' := by
  rcases hB with h0 | hB
  · exact .inl h0
  · rcases Nat.eq_zero_or_pos a with h0 | ha0
    · exact .inl h0
    right
    intro i h1 h2
    rw [ha i (by omega) h2, ha (a - 1) (by omega) (by omega)]
    exact hB i h1 h2
theorem below_less {c : Nat} (hc : c ≤ b) (hB : Sort.Below ltI a b d) : Sort.Below ltI a c d := by
  rcases hB with h0 | hB
  · exact .inl h0
  · exact .inr fun i h1 h2 => hB i h1 (by omega)
end
/-- What a call of it does, for ranges of so many. -/
def SortCall (E : Env) (N n : Nat) : Prop := ∀ (d : Array Int) (a b limit : Nat), d.size = N → a ≤ b → b - a ≤ n → b ≤ N → N < 50 → limit < 1000 → Sort.Below ltI a b d →
  callW E 231 [.hsl (.ext 0) 0 N, .p (.int .i64 a), .p (.int .i64 b), .p (.int .i64 limit), .fn 115 [] []] [.parr (d.toList.map (.int .i64)) 1 false] = some ⟨.tup [], [.parr ((Sort.pdq ltI d a b limit true true).toList.map (.int .i64)) 1 false], []⟩
def p231b : SCode := (.seq (.reg 20 [{ dst := some 106, op := .mv (.t 0) }, { dst := some 107, op := .mv (.t 1) }, { dst := some 108, op := .mv (.t 2) }, { dst := some 109, op := .mv (.t 13) }, { dst := some 110, op := .mv (.t 4) }, { dst := some 111, op := .call (.f 279) [.t 106, .t 107, .t 108, .t 109, .t 110] }, { dst := some 105, op := .mv (.t 111) }, { dst := some 112, op := .ext (.t 105) 0 }, { dst := some 113, op := .ext (.t 105) 1 }, { dst := some 16, op := .mv (.t 112) }, { dst := some 17, op := .mv (.t 113) }]) (.seq (.reg 21 [{ dst := some 114, op := .mv (.t 17) }, { dst := some 11, op := .mv (.t 114) }]) (.seq (.reg 22 [{ dst := some 115, op := .mv (.t 16) }, { dst := some 116, op := .mv (.t 1) }, { dst := some 117, op := .bin .sub (.t 115) (.t 116) }, { dst := some 118, op := .mv (.t 2) }, { dst := some 119, op := .mv (.t 16) }, { dst := some 120, op := .bin .sub (.t 118) (.t 119) }, { dst := some 18, op := .mv (.t 117) }, { dst := some 19, op := .mv (.t 120) }]) (.seq (.reg 23 [{ dst := some 121, op := .mv (.t 12) }, { dst := some 122, op := .bin .quo (.t 121) (.c (.int .i64 (8))) }, { dst := some 20, op := .mv (.t 122) }]) (.seq (.reg 24 [{ dst := some 123, op := .mv (.t 18) }, { dst := some 124, op := .mv (.t 19) }, { dst := some 125, op := .bin .lss (.t 123) (.t 124) }]) (.trim [0, 1, 2, 3, 4, 10, 11] [] [] [] (.cond (.t 125) s231_7 s231_8)))))))
def p231 : SCode := (.seq (.seq (.draw 17 [{ dst := some 81, op := .mv (.t 1) }, { dst := some 82, op := .bin .gtr (.t 81) (.c (.int .i64 (0))) }, { dst := some 83, op := .mv (.t 82) }, { dst := some 84, op := .mv (.t 4), guard := some (83, true) }, { dst := some 85, op := .mv (.t 0), guard := some (83, true) }, { dst := some 86, op := .mv (.t 1), guard := some (83, true) }, { dst := some 87, op := .bin .sub (.t 86) (.c (.int .i64 (1))), guard := some (83, true) }, { dst := some 88, op := .iaddr 1 (.t 85) (.t 87), guard := some (83, true) }, { dst := some 89, op := .load false 1 (.t 88), guard := some (83, true) }, { dst := some 90, op := .mv (.t 0), guard := some (83, true) }, { dst := some 91, op := .mv (.t 13), guard := some (83, true) }, { dst := some 92, op := .iaddr 1 (.t 90) (.t 91), guard := some (83, true) }, { dst := some 93, op := .load false 1 (.t 92), guard := some (83, true) }, { dst := some 94, op := .call (.t 84) [.t 89, .t 93], guard := some (83, true) }, { dst := some 95, op := .bin .lss (.t 94) (.c (.int .i64 (0))), guard := some (83, true) }, { dst := some 96, op := .un .not (.t 95), guard := some (83, true) }, { dst := some 97, op := .pick (.t 83) (.t 96) (.c (.bool false)) }] [(7, 11), (8, 11), (7, 12), (8, 12)]) (.trim [0, 1, 2, 3, 4, 12, 13] [] [(1, [0, 1, 2, 3, 4, 10, 11])] [] (.cond (.t 97) s231_6 .skip))) p231b)
def p231a : SCode := (.seq (.seq (.reg 15 [{ dst := some 68, op := .mv (.t 10) }, { dst := some 69, op := .mv (.t 68) }, { dst := some 70, op := .mv (.t 11), guard := some (69, true) }, { dst := some 71, op := .pick (.t 69) (.t 70) (.c (.bool false)) }, { dst := some 72, op := .mv (.t 71) }, { dst := some 73, op := .mv (.t 14), guard := some (72, true) }, { dst := some 74, op := .bin .eql (.t 73) (.c (.int .i64 (1))), guard := some (72, true) }, { dst := some 75, op := .pick (.t 72) (.t 74) (.c (.bool false)) }]) (.trim [0, 1, 2, 3, 4, 10, 11, 12, 13] [] [] [] (.cond (.t 75) s231_5 .skip))) p231)
theorem e231_9 : s231_9 = (.seq (.reg 2 [{ dst := some 21, op := .mv (.t 2) }, { dst := some 22, op := .mv (.t 1) }, { dst := some 23, op := .bin .sub (.t 21) (.t 22) }, { dst := some 12, op := .mv (.t 23) }]) (.seq (.seq (.reg 3 [{ dst := some 24, op := .mv (.t 12) }, { dst := some 25, op := .bin .leq (.t 24) (.c (.int .i64 (12))) }]) (.trim [0, 1, 2, 3, 4, 10, 11, 12] [] [] [] (.cond (.t 25) s231_1 .skip))) (.seq (.seq (.reg 5 [{ dst := some 31, op := .mv (.t 3) }, { dst := some 32, op := .bin .eql (.t 31) (.c (.int .i64 (0))) }]) (.trim [0, 1, 2, 3, 4, 10, 11, 12] [] [] [] (.cond (.t 32) s231_2 .skip))) (.seq (.seq (.reg 7 [{ dst := some 38, op := .mv (.t 10) }, { dst := some 39, op := .un .not (.t 38) }]) (.trim [0, 1, 2, 3, 4, 10, 11, 12] [] [] [] (.cond (.t 39) s231_3 .skip))) (.seq (.reg 10 [{ dst := some 48, op := .mv (.t 0) }, { dst := some 49, op := .mv (.t 1) }, { dst := some 50, op := .mv (.t 2) }, { dst := some 51, op := .mv (.t 4) }, { dst := some 52, op := .call (.f 275) [.t 48, .t 49, .t 50, .t 51] }, { dst := some 47, op := .mv (.t 52) }, { dst := some 53, op := .ext (.t 47) 0 }, { dst := some 54, op := .ext (.t 47) 1 }, { dst := some 13, op := .mv (.t 53) }, { dst := some 14, op := .mv (.t 54) }]) (.seq (.seq (.reg 11 [{ dst := some 55, op := .mv (.t 14) }, { dst := some 56, op := .bin .eql (.t 55) (.c (.int .i64 (2))) }]) (.trim [0, 1, 2, 3, 4, 10, 11, 12, 13, 14] [] [] [] (.cond (.t 56) s231_4 .skip))) p231a)))))) := rfl
def tailPdq (d3 : Array Int) (a b limit : Nat) (wasBalanced wasPartitioned : Bool) (pivot : Nat) : Array Int :=
  if a > 0 && !ltI d3[a - 1]! d3[pivot]! then
    match Sort.partitionEqual ltI d3 a b pivot with
    | (mid, d4) => if _h : a < mid ∧ mid ≤ b then Sort.pdq ltI d4 mid b limit wasBalanced wasPartitioned else d4
  else
    match Sort.partition ltI d3 a b pivot with
    | (mid, alreadyPartitioned, d4) =>
      if _h : a ≤ mid ∧ mid < b then
        if mid - a < b - mid then
          Sort.pdq ltI (Sort.pdq ltI d4 a mid limit true true) (mid + 1) b limit (decide (mid - a ≥ (b - a) / 8)) alreadyPartitioned
        else
          Sort.pdq ltI (Sort.pdq ltI d4 (mid + 1) b limit true true) a mid limit (decide (b - mid ≥ (b - a) / 8)) alreadyPartitioned
      else d4
theorem pdq_unf (d : Array Int) (a b limit : Nat) (wb wp : Bool) (h1 : ¬ b - a ≤ 12) (h2 : ¬ limit = 0) : Sort.pdq ltI d a b limit wb wp =
    (let d1 := if !wb then Sort.breakPatterns d a b else d
     let limit := if !wb then limit - 1 else limit
     let c := Sort.choosePivot ltI d1 a b
     let d2 := if c.2 = .decreasing then Sort.reverseRange d1 a b else d1
     let pivot := if c.2 = .decreasing then (b - 1) - (c.1 - a) else c.1
     let hint := if c.2 = .decreasing then Sort.Hint.increasing else c.2
     let pi := if wb && wp && hint = .increasing then Sort.partialInsertionSort ltI d2 a b else (d2, false)
     if pi.2 then pi.1 else tailPdq pi.1 a b limit wb wp pivot) := by
  rw [Sort.pdq, if_neg h1, if_neg h2]; rfl
/-- One round, behind the choice of the pivot: what is left to do. -/
theorem tail231 (N n : Nat) (hc : SortCall E N n) (d : Array Int) (a b limit : Nat) (wb wp : Bool) (p : Nat) (hN : d.size = N) (hab : 12 < b - a) (hn : b - a ≤ n + 1) (hb : b ≤ N) (hs : N < 50) (hl : limit < 1000) (hp1 : a ≤ p) (hp2 : p < b) (hB : Sort.Below ltI a b d) :
    ∃ (a' b' : Nat) (wb' wp' : Bool) (d' : Array Int) (ex : Ex), (ex = .nrm ∨ ex = .ex 1) ∧ tailPdq d a b limit wb wp p = Sort.pdq ltI d' a' b' limit wb' wp' ∧ Sort.Below ltI a' b' d' ∧ d'.size = N ∧ a' ≤ b' ∧ b' ≤ N ∧ b' - a' < b - a ∧
    sexW E 1 p231 ⟨[(0, .hsl (.ext 0) 0 d.size), (1, .p (.int .i64 a)), (2, .p (.int .i64 b)), (3, .p (.int .i64 limit)), (4, .fn 115 [] []), (10, .p (.bool wb)), (11, .p (.bool wp)), (12, .p (.int .i64 (b - a : Nat))), (13, .p (.int .i64 p))], [(.ext 0, some (.parr (d.toList.map (.int .i64)) 1 false))]⟩ = some (ex, ⟨[(0, .hsl (.ext 0) 0 d.size), (1, .p (.int .i64 a')), (2, .p (.int .i64 b')), (3, .p (.int .i64 limit)), (4, .fn 115 [] []), (10, .p (.bool wb')), (11, .p (.bool wp'))], [(.ext 0, some (.parr (d'.toList.map (.int .i64)) 1 false))]⟩) := by
  subst hN
  have ha : a < d.size := by omega
  have hp : p < d.size := by omega
  have g1 := ar_get hp
  have n1 : (0 : Int) ≤ (p : Int) := by omega
  have h0 : 0 + d.size ≤ d.size := by omega
  have a0 : d.toList.length = d.size := Array.length_toList
  have e3 := e279 (E := E) d a b p (by omega) hb hp (by omega)
  obtain ⟨k1, k2, k3, k4, k5⟩ := Go.Sort.partition_holds ltI swo_ltI d a b p hp1 hp2 hb
  -- the plain way
  have plain : (decide (a > 0) && !ltI d[a - 1]! d[p]!) = false → ∃ (a' b' : Nat) (wb' wp' : Bool) (d' : Array Int), tailPdq d a b limit wb wp p = Sort.pdq ltI d' a' b' limit wb' wp' ∧ Sort.Below ltI a' b' d' ∧ d'.size = d.size ∧ a' ≤ b' ∧ b' ≤ d.size ∧ b' - a' < b - a ∧
      sexW E 1 p231b ⟨[(0, .hsl (.ext 0) 0 d.size), (1, .p (.int .i64 a)), (2, .p (.int .i64 b)), (3, .p (.int .i64 limit)), (4, .fn 115 [] []), (12, .p (.int .i64 (b - a : Nat))), (13, .p (.int .i64 p))], [(.ext 0, some (.parr (d.toList.map (.int .i64)) 1 false))]⟩ = some (.nrm, ⟨[(0, .hsl (.ext 0) 0 d.size), (1, .p (.int .i64 a')), (2, .p (.int .i64 b')), (3, .p (.int .i64 limit)), (4, .fn 115 [] []), (10, .p (.bool wb')), (11, .p (.bool wp'))], [(.ext 0, some (.parr (d'.toList.map (.int .i64)) 1 false))]⟩) := by
    intro h1
    unfold tailPdq
    rw [if_neg (by simp [h1])]
    generalize hpt : Sort.partition ltI d a b p = pt at *
    obtain ⟨mid, al, d4⟩ := pt
    dsimp only at k1 k2 k3 k4 k5 e3 ⊢
    rw [dif_pos ⟨k1, k2⟩]
    have w1 := wSub mid a k1 (by omega)
    have w2 := wSub b mid (by omega) (by omega)
    have w3 := wAdd1 mid (by omega)
    have q1 : IntKind.i64.wrap (((b - a : Nat) : Int).tdiv 8) = (((b - a) / 8 : Nat) : Int) := by
      rw [show ((b - a : Nat) : Int).tdiv 8 = (((b - a) / 8 : Nat) : Int) from rfl, wrapN _ (by omega)]
    have z4 : d4.size = d.size := k3.1
    have hB4 := below_perm hb k3 hB
    by_cases h4 : mid - a < b - mid
    · have f1 : ((mid - a : Nat) : Int) < ((b - mid : Nat) : Int) := by omega
      have hB5 := below_less (Nat.le_of_lt k2) hB4
      have c1 := hc d4 a mid limit z4 k1 (by omega) (by omega) hs hl hB5
      obtain ⟨m1, _⟩ := Go.Sort.pdq_sorts ltI swo_ltI d4 a mid limit true true k1 (by omega) hB5
      refine ⟨mid + 1, b, decide (mid - a ≥ (b - a) / 8), al, Sort.pdq ltI d4 a mid limit true true, by rw [if_pos h4], ?_, by rw [m1.1, z4], by omega, hb, by omega, ?_⟩
      · right
        intro i i1 i2
        rw [Nat.add_sub_cancel, m1.2.1 i (.inr (by omega)), m1.2.1 mid (.inr (by omega))]
        exact k5 i (by omega) i2
      · have f2 : decide ((((b - a) / 8 : Nat) : Int) ≤ ((mid - a : Nat) : Int)) = decide (mid - a ≥ (b - a) / 8) := by simp only [decide_eq_decide]; omega
        simp -implicitDefEqProofs only [go_sem, p231b, s231_7, s231_8, e3, w1, w2, w3, q1, f1, f2, c1]
    · have f1 : ¬ ((mid - a : Nat) : Int) < ((b - mid : Nat) : Int) := by omega
      have hB5 : Sort.Below ltI (mid + 1) b d4 := by
        right
        intro i i1 i2
        rw [Nat.add_sub_cancel]
        exact k5 i (by omega) i2
      have c1 := hc d4 (mid + 1) b limit z4 (by omega) (by omega) hb hs hl hB5
      obtain ⟨m1, _⟩ := Go.Sort.pdq_sorts ltI swo_ltI d4 (mid + 1) b limit true true (by omega) (by omega) hB5
      refine ⟨a, mid, decide (b - mid ≥ (b - a) / 8), al, Sort.pdq ltI d4 (mid + 1) b limit true true, by rw [if_neg h4], ?_, by rw [m1.1, z4], by omega, by omega, by omega, ?_⟩
      · refine below_eq (fun i i1 i2 => m1.2.1 i (.inl (by omega))) (below_less (Nat.le_of_lt k2) hB4)
      · have f2 : decide ((((b - a) / 8 : Nat) : Int) ≤ ((b - mid : Nat) : Int)) = decide (b - mid ≥ (b - a) / 8) := by simp only [decide_eq_decide]; omega
        simp -implicitDefEqProofs only [go_sem, p231b, s231_7, s231_8, e3, w1, w2, w3, q1, f1, f2, c1]
  by_cases ha0 : a > 0
  · have f1 : (0 : Int) < (a : Int) := by omega
    have w1 : IntKind.i64.wrap ((a : Int) - 1) = ((a - 1 : Nat) : Int) := wSub a 1 (by omega) (by omega)
    have i1 : a - 1 < d.size := by omega
    have g2 := ar_get i1
    have n2 : (0 : Int) ≤ ((a - 1 : Nat) : Int) := by omega
    have e1 := e115 (E := E) d[a - 1]! d[p]!
    have e2 := cmpI_lt d[a - 1]! d[p]!
    cases hl1 : ltI d[a - 1]! d[p]! with
    | false =>
      rw [hl1] at e2
      have e4 := of_decide_eq_false e2
      have e5 := e278 (E := E) d a b p (by omega) hb hp (by omega)
      have pre : ∀ i, a ≤ i → i < b → ltI d[i]! d[p]! = false := by
        intro i x1 x2
        rcases hB with h0 | hB
        · omega
        · exact swo_ltI.ntrans _ _ _ (hB i x1 x2) hl1
      obtain ⟨m1, m2, m3, m4, m5⟩ := Go.Sort.partitionEqual_holds ltI swo_ltI d a b p hp1 hp2 hb pre
      unfold tailPdq
      rw [if_pos (by simp [ha0, hl1])]
      generalize hpt : Sort.partitionEqual ltI d a b p = pt at *
      obtain ⟨mid, d4⟩ := pt
      dsimp only at m1 m2 m3 m4 m5 e5 ⊢
      refine ⟨mid, b, wb, wp, d4, .ex 1, .inr rfl, by rw [dif_pos ⟨m1, m2⟩], ?_, m3.1, m2, hb, by omega, ?_⟩
      · right
        intro i x1 x2
        cases hc2 : ltI d4[i]! d4[mid - 1]! with
        | false => rfl
        | true =>
          have t1 := m5 i x1 x2
          have t2 := swo_ltI.trans _ _ _ t1 hc2
          rw [m4 (mid - 1) (by omega) (by omega)] at t2
          cases t2
      · simp -implicitDefEqProofs only [go_sem, p231, s231_6, f1, w1, i1, hp, g1, g2, n1, n2, h0, a0, e1, e4, e5]
    | true =>
      rw [hl1] at e2
      have e4 := of_decide_eq_true e2
      obtain ⟨a', b', wb', wp', d', r1, r2, r3, r4, r5, r6, r7⟩ := plain (by simp [hl1])
      refine ⟨a', b', wb', wp', d', .nrm, .inl rfl, r1, r2, r3, r4, r5, r6, ?_⟩
      simp -implicitDefEqProofs only [go_sem, p231, s231_6, f1, w1, i1, hp, g1, g2, n1, n2, h0, a0, e1, e4, r7]
  · have f1 : ¬ (0 : Int) < (a : Int) := by omega
    obtain ⟨a', b', wb', wp', d', r1, r2, r3, r4, r5, r6, r7⟩ := plain (by simp [ha0])
    refine ⟨a', b', wb', wp', d', .nrm, .inl rfl, r1, r2, r3, r4, r5, r6, ?_⟩
    simp -implicitDefEqProofs only [go_sem, p231, s231_6, f1, r7]
/-- A round behind the reversal. -/
theorem step231 (N n : Nat) (hc : SortCall E N n) (d : Array Int) (a b limit : Nat) (wb wp : Bool) (p : Nat) (h : Sort.Hint) (hN : d.size = N) (hab : 12 < b - a) (hn : b - a ≤ n + 1) (hb : b ≤ N) (hs : N < 50) (hl : limit < 1000) (hp1 : a ≤ p) (hp2 : p < b) (hB : Sort.Below ltI a b d) :
    ((if wb && wp && h = .increasing then Sort.partialInsertionSort ltI d a b else (d, false)).2 = true ∧ sexW E 1 p231a ⟨[(0, .hsl (.ext 0) 0 d.size), (1, .p (.int .i64 a)), (2, .p (.int .i64 b)), (3, .p (.int .i64 limit)), (4, .fn 115 [] []), (10, .p (.bool wb)), (11, .p (.bool wp)), (12, .p (.int .i64 (b - a : Nat))), (13, .p (.int .i64 p)), (14, .p (.int .i64 (hintN h)))], [(.ext 0, some (.parr (d.toList.map (.int .i64)) 1 false))]⟩ = some (.ret, ⟨[], [(.ext 0, some (.parr ((if wb && wp && h = .increasing then Sort.partialInsertionSort ltI d a b else (d, false)).1.toList.map (.int .i64)) 1 false))]⟩)) ∨
    ((if wb && wp && h = .increasing then Sort.partialInsertionSort ltI d a b else (d, false)).2 = false ∧ (if wb && wp && h = .increasing then Sort.partialInsertionSort ltI d a b else (d, false)).1 = d ∧ ∃ (a' b' : Nat) (wb' wp' : Bool) (d' : Array Int) (ex : Ex), (ex = .nrm ∨ ex = .ex 1) ∧ tailPdq d a b limit wb wp p = Sort.pdq ltI d' a' b' limit wb' wp' ∧ Sort.Below ltI a' b' d' ∧ d'.size = N ∧ a' ≤ b' ∧ b' ≤ N ∧ b' - a' < b - a ∧
    sexW E 1 p231a ⟨[(0, .hsl (.ext 0) 0 d.size), (1, .p (.int .i64 a)), (2, .p (.int .i64 b)), (3, .p (.int .i64 limit)), (4, .fn 115 [] []), (10, .p (.bool wb)), (11, .p (.bool wp)), (12, .p (.int .i64 (b - a : Nat))), (13, .p (.int .i64 p)), (14, .p (.int .i64 (hintN h)))], [(.ext 0, some (.parr (d.toList.map (.int .i64)) 1 false))]⟩ = some (ex, ⟨[(0, .hsl (.ext 0) 0 d.size), (1, .p (.int .i64 a')), (2, .p (.int .i64 b')), (3, .p (.int .i64 limit)), (4, .fn 115 [] []), (10, .p (.bool wb')), (11, .p (.bool wp'))], [(.ext 0, some (.parr (d'.toList.map (.int .i64)) 1 false))]⟩)) := by
  obtain ⟨a', b', wb', wp', d', ex, r0, r1, r2, r3, r4, r5, r6, r7⟩ := tail231 (E := E) N n hc d a b limit wb wp p hN hab hn hb hs hl hp1 hp2 hB
  have e1 := e277 (E := E) d a b (by omega) (by omega) (by omega)
  have pe := pi_eq d a b (by omega)
  by_cases hh : (wb && wp && h = .increasing) = true
  · simp only [Bool.and_eq_true, decide_eq_true_eq] at hh
    obtain ⟨⟨rfl, rfl⟩, rfl⟩ := hh
    simp only [Bool.and_self, decide_true, if_true, hintN]
    rw [pe] at e1 ⊢
    dsimp only at e1 ⊢
    cases hsrt : decide (Sort.scanSorted ltI d b (a + 1) = b) with
    | true =>
      rw [hsrt] at e1
      refine .inl ⟨rfl, ?_⟩
      simp -implicitDefEqProofs only [go_sem, p231a, s231_5, e1]
    | false =>
      rw [hsrt] at e1
      refine .inr ⟨rfl, rfl, a', b', wb', wp', d', ex, r0, r1, r2, r3, r4, r5, r6, ?_⟩
      simp -implicitDefEqProofs only [go_sem, p231a, s231_5, e1, r7]
  · rw [if_neg hh]
    refine .inr ⟨rfl, rfl, a', b', wb', wp', d', ex, r0, r1, r2, r3, r4, r5, r6, ?_⟩
    cases wb with
    | false => simp -implicitDefEqProofs only [go_sem, p231a, s231_5, r7]
    | true =>
      cases wp with
      | false => simp -implicitDefEqProofs only [go_sem, p231a, s231_5, r7]
      | true =>
        cases h with
        | increasing => exact absurd (by simp) hh
        | unknown => simp -implicitDefEqProofs only [go_sem, p231a, s231_5, hintN, r7]
        | decreasing => simp -implicitDefEqProofs only [go_sem, p231a, s231_5, hintN, r7]
theorem hint_dec (h : Sort.Hint) : (hintN h = 2) = (h = .decreasing) := by cases h <;> simp [hintN]
theorem loop231 (N : Nat) (hs : N < 50) : ∀ (n : Nat) (d : Array Int) (a b limit : Nat) (wb wp : Bool), d.size = N → a ≤ b → b - a ≤ n → b ≤ N → limit < 1000 → Sort.Below ltI a b d →
    loopW E 1 [0, 1, 2, 3, 4, 10, 11] [] (.trim [0, 1, 2, 3, 4, 10, 11] [] [] [] s231_10) (some ⟨[(0, .hsl (.ext 0) 0 d.size), (1, .p (.int .i64 a)), (2, .p (.int .i64 b)), (3, .p (.int .i64 limit)), (4, .fn 115 [] []), (10, .p (.bool wb)), (11, .p (.bool wp))], [(.ext 0, some (.parr (d.toList.map (.int .i64)) 1 false))]⟩) = some (.ret, ⟨[], [(.ext 0, some (.parr ((Sort.pdq ltI d a b limit wb wp).toList.map (.int .i64)) 1 false))]⟩) := by
  generalize hK : loopW E 1 _ _ _ = K
  intro n
  induction n with
  | zero =>
    intro d a b limit wb wp hN hab hn hb hl hB
    subst hN
    have w1 := wSub b a hab (by omega)
    have f1 : ((b - a : Nat) : Int) ≤ 12 := by omega
    have e1 := e272 (E := E) d a b hb (by omega) (by omega)
    rw [Sort.pdq, if_pos (by omega)]
    rw [← hK, loopW_some, hK]
    simp -implicitDefEqProofs only [go_sem, s231_10, e231_9, s231_1, w1, f1, e1]
  | succ n ih =>
    intro d a b limit wb wp hN hab hn hb hl hB
    have w1 := wSub b a hab (by omega)
    by_cases h12 : b - a ≤ 12
    · subst hN
      have f1 : ((b - a : Nat) : Int) ≤ 12 := by omega
      have e1 := e272 (E := E) d a b hb (by omega) (by omega)
      rw [Sort.pdq, if_pos h12]
      rw [← hK, loopW_some, hK]
      simp -implicitDefEqProofs only [go_sem, s231_10, e231_9, s231_1, w1, f1, e1]
    have f1 : ¬ ((b - a : Nat) : Int) ≤ 12 := by omega
    by_cases hl0 : limit = 0
    · subst hN
      subst hl0
      have e1 := e273 (E := E) d a b (by omega) hb (by omega)
      rw [Sort.pdq, if_neg h12, if_pos rfl]
      rw [← hK, loopW_some, hK]
      simp -implicitDefEqProofs only [go_sem, s231_10, e231_9, s231_2, w1, f1, e1, Int.natCast_zero]
    have f2 : ¬ (limit : Int) = 0 := by omega
    have hcall : SortCall E N n := by
      intro d a b limit h1 h2 h3 h4 _ h5 h6
      have lp := ih d a b limit true true h1 h2 h3 h4 h5 h6
      rw [h1] at lp
      rw [← hK] at lp
      rw [callW_eq, EnvS.h 231 F231 rfl]
      simp -implicitDefEqProofs only [go_sem, F231, s231, s231_11, lp]
    rw [pdq_unf d a b limit wb wp h12 hl0]
    -- behind breaking the patterns
    obtain ⟨d1, hd1⟩ : ∃ d1, d1 = if !wb then Sort.breakPatterns d a b else d := ⟨_, rfl⟩
    obtain ⟨lim, hlim⟩ : ∃ lim, lim = if !wb then limit - 1 else limit := ⟨_, rfl⟩
    rw [← hd1, ← hlim]
    dsimp only
    have hP1 : Sort.PermIn a b d d1 := by
      rw [hd1]; split
      · exact Go.Sort.breakPatterns_holds d a b hab (by omega)
      · exact Go.Sort.permIn_refl d a b
    have hN1 : d1.size = N := by rw [hP1.1]; exact hN
    have hB1 := below_perm (by omega) hP1 hB
    have hlim2 : lim < 1000 := by rw [hlim]; split <;> omega
    obtain ⟨c1, c2⟩ := Go.Sort.choosePivot_holds ltI d1 a b (by omega)
    have e2 := e275 (E := E) d1 a b (by omega) (by omega) (by omega)
    generalize Sort.choosePivot ltI d1 a b = c at *
    obtain ⟨cp, ch⟩ := c
    dsimp only at c1 c2 e2 ⊢
    obtain ⟨d2, hd2⟩ : ∃ d2, d2 = if ch = .decreasing then Sort.reverseRange d1 a b else d1 := ⟨_, rfl⟩
    obtain ⟨p, hp⟩ : ∃ p, p = if ch = .decreasing then (b - 1) - (cp - a) else cp := ⟨_, rfl⟩
    obtain ⟨h2, hh2⟩ : ∃ h2, h2 = if ch = .decreasing then Sort.Hint.increasing else ch := ⟨_, rfl⟩
    rw [← hd2, ← hp, ← hh2]
    have hP2 : Sort.PermIn a b d1 d2 := by
      rw [hd2]; split
      · exact Go.Sort.reverseRange_holds d1 a b hab (by omega)
      · exact Go.Sort.permIn_refl d1 a b
    have hN2 : d2.size = N := by rw [hP2.1]; exact hN1
    have hB2 := below_perm (by omega) hP2 hB1
    have hp1 : a ≤ p := by rw [hp]; split <;> omega
    have hp2 : p < b := by rw [hp]; split <;> omega
    -- the code up to there
    have code : ∀ R, sexW E 1 p231a ⟨[(0, .hsl (.ext 0) 0 d2.size), (1, .p (.int .i64 a)), (2, .p (.int .i64 b)), (3, .p (.int .i64 lim)), (4, .fn 115 [] []), (10, .p (.bool wb)), (11, .p (.bool wp)), (12, .p (.int .i64 (b - a : Nat))), (13, .p (.int .i64 p)), (14, .p (.int .i64 (hintN h2)))], [(.ext 0, some (.parr (d2.toList.map (.int .i64)) 1 false))]⟩ = R → sexW E 1 s231_9 ⟨[(0, .hsl (.ext 0) 0 d.size), (1, .p (.int .i64 a)), (2, .p (.int .i64 b)), (3, .p (.int .i64 limit)), (4, .fn 115 [] []), (10, .p (.bool wb)), (11, .p (.bool wp))], [(.ext 0, some (.parr (d.toList.map (.int .i64)) 1 false))]⟩ = R := by
      intro R hR
      have w3 : IntKind.i64.wrap ((b : Int) - 1) = ((b - 1 : Nat) : Int) := wSub b 1 (by omega) (by omega)
      have w4 := wSub cp a c1 (by omega)
      have w5 := wSub (b - 1) (cp - a) (by omega) (by omega)
      have e4 := e276 (E := E) d1 a b (by omega) (by omega) (by omega)
      subst hN
      rw [hN1] at e2 e4
      rw [hN2] at hR
      cases wb with
      | true =>
        simp only [Bool.not_true, Bool.false_eq_true, if_false] at hd1 hlim
        subst hd1 hlim
        by_cases hdec : ch = .decreasing
        · subst hdec
          simp only [if_true] at hd2 hp hh2
          subst hd2 hp hh2
          simp -implicitDefEqProofs only [go_sem, e231_9, s231_4, w1, f1, f2, e2, hintN, e4, w3, w4, w5]
          exact hR
        · rw [if_neg hdec] at hd2 hp hh2
          subst hd2 hp hh2
          have f3 : ¬ hintN h2 = 2 := by rw [hint_dec]; exact hdec
          simp -implicitDefEqProofs only [go_sem, e231_9, s231_4, w1, f1, f2, e2, f3]
          exact hR
      | false =>
        simp only [Bool.not_false, if_true] at hd1 hlim
        have e5 := e274 (E := E) d a b (by omega) hb (by omega)
        rw [← hd1] at e5
        have w6 : IntKind.i64.wrap ((limit : Int) - 1) = (lim : Int) := by rw [hlim]; exact wSub limit 1 (by omega) (by omega)
        by_cases hdec : ch = .decreasing
        · subst hdec
          simp only [if_true] at hd2 hp hh2
          subst hd2 hp hh2
          simp -implicitDefEqProofs only [go_sem, e231_9, s231_3, s231_4, w1, f1, f2, e5, w6, e2, hintN, e4, w3, w4, w5]
          exact hR
        · rw [if_neg hdec] at hd2 hp hh2
          subst hd2 hp hh2
          have f3 : ¬ hintN h2 = 2 := by rw [hint_dec]; exact hdec
          simp -implicitDefEqProofs only [go_sem, e231_9, s231_3, s231_4, w1, f1, f2, e5, w6, e2, f3]
          exact hR
    rcases step231 (E := E) N n hcall d2 a b lim wb wp p h2 hN2 (by omega) hn hb hs hlim2 hp1 hp2 hB2 with ⟨q1, q2⟩ | ⟨q1, q2, a', b', wb', wp', d', ex, r0, r1, r2, r3, r4, r5, r6, r7⟩
    · have cc := code _ q2
      rw [if_pos q1]
      rw [← hK, loopW_some, hK]
      simp -implicitDefEqProofs only [go_sem, s231_10, cc]
    · have cc := code _ r7
      rw [q1, q2, if_neg (by simp), r1]
      have ih' := ih d' a' b' lim wb' wp' r3 r4 (by omega) r5 hlim2 r2
      rw [show d'.size = d2.size by omega] at ih'
      rw [← hK, loopW_some, hK]
      rcases r0 with rfl | rfl
      · simp -implicitDefEqProofs only [go_sem, s231_10, cc]
        exact ih'
      · simp -implicitDefEqProofs only [go_sem, s231_10, cc]
        exact ih'
theorem e231 (d : Array Int) (a b limit : Nat) (hab : a ≤ b) (hb : b ≤ d.size) (hs : d.size < 50) (hl : limit < 1000) (hB : Sort.Below ltI a b d) :
    callW E 231 [.hsl (.ext 0) 0 d.size, .p (.int .i64 a), .p (.int .i64 b), .p (.int .i64 limit), .fn 115 [] []] [.parr (d.toList.map (.int .i64)) 1 false] = some ⟨.tup [], [.parr ((Sort.pdq ltI d a b limit true true).toList.map (.int .i64)) 1 false], []⟩ := by
  have lp := loop231 (E := E) d.size hs _ d a b limit true true rfl hab (Nat.le_refl _) hb hl hB
  rw [callW_eq, EnvS.h 231 F231 rfl]
  simp -implicitDefEqProofs only [go_sem, F231, s231, s231_11, lp]
/-- slices.SortFunc. -/
theorem e195 (d : Array Int) (hs : d.size < 50) :
    callW E 195 [.hsl (.ext 0) 0 d.size, .fn 115 [] []] [.parr (d.toList.map (.int .i64)) 1 false] = some ⟨.tup [], [.parr ((Sort.sort ltI d).toList.map (.int .i64)) 1 false], []⟩ := by
  have w := u64w d.size (by omega)
  have e1 := e228 (E := E) d.size (by omega)
  obtain ⟨l1, _, _⟩ := len_facts (n := d.size) (by omega)
  have e2 := e231 (E := E) d 0 d.size (Sort.bitsLen d.size) (by omega) (Nat.le_refl _) hs (by omega) (.inl rfl)
  rw [← Sort.sort] at e2
  simp only [Int.natCast_zero] at e2
  rw [callW_eq, EnvS.h 195 F195 rfl]
  simp -implicitDefEqProofs only [go_sem, F195, s195, w, e1, e2]
end Go.Ab.S

namespace Go.Ab.S
open Go Go.Ab
variable {E : Env} [EnvS E]

/-! ### Leaving out what stands twice -/
theorem fin1_hsl (F : SFn) (st : St) (k : Nat) (v : PV) (es : List PV) (z : Nat) (b : Bool) (hF : F.rawR = false) (hx : hget st.H (.ext 0) = some (.parr es z b)) (hv : frzL st.H [.hsl (.ext 0) 0 k] = some [.p v]) : fin1 F st [.hsl (.ext 0) 0 k] (some [.p v]) (some (.parr es z b)) = some ⟨.p v, [.parr es z true], []⟩ := by
  simp only [fin1]
  rw [finX_succ, finishG_eq _ _ _ _ hF, hv, hA_some]
  have hu : frzUp st.H (frzNs [.hsl (.ext 0) 0 k]) = [(.ext 0, some (.parr es z true))] := by simp [frzNs, hslN, frzUp, hx]
  rw [hu]
  have hre : reach ([(.ext 0, some (.parr es z true))] ++ st.H) 64 (extNs 0 1 ++ namesL [.p v]) [] = some [.ext 0] := by simp [reach, extNs, AObj.names, namesL, AV.names, hget]
  rw [hre]
  simp [hB, hD, extNs, renL, AV.ren, hgets, hget, renOs, AObj.ren, hE, tup1]
section
variable {α : Type} [DecidableEq α]
def keepNew (a : α) : List α → List α
  | [] => []
  | x :: r => if x = a then keepNew x r else x :: keepNew x r
def compactL : List α → List α
  | [] => []
  | a :: r => a :: keepNew a r
theorem take_set_succ (l : List α) (k : Nat) (x : α) (h : k < l.length) : (l.set k x).take (k + 1) = l.take k ++ [x] := by
  rw [List.take_add_one, List.getElem?_set_self h, List.take_set_of_le (Nat.le_refl k)]
  rfl
end
theorem loop196b (l : List Int) (k0 : Nat) (hN : l.length < 4611686018427387904) : ∀ (n j k : Nat) (l' : List Int), l.length - (k0 + j) ≤ n → l'.length = l.length → 1 ≤ j → k + 1 ≤ k0 + j → k0 + j ≤ l.length → (∀ i, k0 + j ≤ i + 1 → l'[i]? = l[i]?) → ∀ a, l[k0 + j - 1]? = some a →
    ∃ (k' : Nat) (l'' : List Int), l''.length = l.length ∧ k' + 1 ≤ l.length ∧ l''.take k' = l'.take k ++ keepNew a (l.drop (k0 + j)) ∧
    loopW E 1 [0, 3, 4, 5] [] (.trim [0, 3, 4, 5] [2] [(2, [0, 3])] [] s196_4) (some ⟨[(0, .hsl (.ext 0) 0 l.length), (3, .p (.int .i64 k)), (4, .hsl (.ext 0) k0 (l.length - k0)), (5, .p (.int .i64 j))], [(.ext 0, some (.parr (l'.map (.int .i64)) 1 false))]⟩) =
    some (.ex 2, ⟨[(0, .hsl (.ext 0) 0 l.length), (3, .p (.int .i64 k'))], [(.ext 0, some (.parr (l''.map (.int .i64)) 1 false))]⟩) := by
  generalize hK : loopW E 1 _ _ _ = K
  intro n
  induction n with
  | zero =>
    intro j k l' hn hl hj hk hp hag a ha
    refine ⟨k, l', hl, by omega, ?_, ?_⟩
    · rw [List.drop_eq_nil_of_le (by omega), keepNew, List.append_nil]
    · have f1 : ¬ (j : Int) < ((l.length - k0 : Nat) : Int) := by omega
      rw [← hK, loopW_some, hK]
      simp -implicitDefEqProofs only [go_sem, s196_4, s196_3, s196_2, f1]
  | succ n ih =>
    intro j k l' hn hl hj hk hp hag a ha
    by_cases h : k0 + j < l.length
    · have f1 : (j : Int) < ((l.length - k0 : Nat) : Int) := by omega
      have f2 := wAdd1 j (by omega)
      have f3 : IntKind.i64.wrap ((j : Int) - 1) = ((j - 1 : Nat) : Int) := wSub j 1 (by omega) (by omega)
      have n1 : (0 : Int) ≤ (j : Int) := by omega
      have n2 : (0 : Int) ≤ ((j - 1 : Nat) : Int) := by omega
      have i1 : j < l.length - k0 := by omega
      have i2 : j - 1 < l.length - k0 := by omega
      obtain ⟨x, hx⟩ : ∃ x, l[k0 + j]? = some x := ⟨_, List.getElem?_eq_getElem h⟩
      have g1 : l'[k0 + j]? = some x := by rw [hag _ (by omega)]; exact hx
      have g2 : l'[k0 + (j - 1)]? = some a := by rw [hag _ (by omega), ← ha]; congr 1; omega
      have h0 : k0 + (l.length - k0) ≤ l.length := by omega
      have hd : l.drop (k0 + j) = x :: l.drop (k0 + (j + 1)) := by
        rw [List.drop_eq_getElem_cons h]
        congr 1
        rw [List.getElem?_eq_getElem h] at hx
        exact Option.some.inj hx
      by_cases hxa : x = a
      · subst hxa
        obtain ⟨k', l'', r1, r2, r3, r4⟩ := ih (j + 1) k l' (by omega) hl (by omega) (by omega) (by omega) (fun i hi => hag i (by omega)) x (by rw [← hx]; congr 1)
        refine ⟨k', l'', r1, r2, by rw [r3, hd, keepNew, if_pos rfl], ?_⟩
        rw [← hK, loopW_some, hK]
        simp -implicitDefEqProofs only [go_sem, s196_4, s196_3, s196_2, f1, f2, f3, n1, n2, i1, i2, g1, g2, h0, hl]
        exact r4
      · have hkl : k < l'.length := by omega
        have hkl2 : k < l.length := by omega
        obtain ⟨z, hz⟩ : ∃ z, l'[k]? = some z := ⟨_, List.getElem?_eq_getElem hkl⟩
        have n3 : (0 : Int) ≤ (k : Int) := by omega
        have h00 : 0 + l.length ≤ l'.length := by omega
        have f4 := wAdd1 k (by omega)
        obtain ⟨k', l'', r1, r2, r3, r4⟩ := ih (j + 1) (k + 1) (l'.set k x) (by omega) (by simp [hl]) (by omega) (by omega) (by omega) (fun i hi => by rw [List.getElem?_set_ne (by omega)]; exact hag i (by omega)) x (by rw [← hx]; congr 1)
        refine ⟨k', l'', r1, r2, ?_, ?_⟩
        · rw [r3, hd, keepNew, if_neg hxa, take_set_succ _ _ _ hkl, List.append_assoc]; rfl
        · rw [List.map_set] at r4
          rw [← hK, loopW_some, hK]
          simp -implicitDefEqProofs only [go_sem, s196_4, s196_3, s196_2, f1, f2, f3, f4, n1, n2, n3, i1, i2, g1, g2, h0, h00, hl, hxa, hz, hkl2, setE]
          exact r4
    · refine ⟨k, l', hl, by omega, ?_, ?_⟩
      · rw [List.drop_eq_nil_of_le (by omega), keepNew, List.append_nil]
      · have f1 : ¬ (j : Int) < ((l.length - k0 : Nat) : Int) := by omega
        rw [← hK, loopW_some, hK]
        simp -implicitDefEqProofs only [go_sem, s196_4, s196_3, s196_2, f1]
theorem loop196a (l : List Int) (hN : l.length < 4611686018427387904) : ∀ (n k : Nat) (a : Int), l.length - k ≤ n → 1 ≤ k → k ≤ l.length → l[k - 1]? = some a →
    (keepNew a (l.drop k) = l.drop k ∧ loopW E 1 [0, 3] [] (.trim [0, 3] [2] [(0, [0])] [] s196_8) (some ⟨[(0, .hsl (.ext 0) 0 l.length), (3, .p (.int .i64 k))], [(.ext 0, some (.parr (l.map (.int .i64)) 1 false))]⟩) = some (.ex 0, ⟨[(0, .hsl (.ext 0) 0 l.length)], [(.ext 0, some (.parr (l.map (.int .i64)) 1 false))]⟩)) ∨
    (∃ (k' : Nat) (l3 : List Int), l3.length = l.length ∧ k' ≤ l.length ∧ l3.take k' = l.take k ++ keepNew a (l.drop k) ∧ loopW E 1 [0, 3] [] (.trim [0, 3] [2] [(0, [0])] [] s196_8) (some ⟨[(0, .hsl (.ext 0) 0 l.length), (3, .p (.int .i64 k))], [(.ext 0, some (.parr (l.map (.int .i64)) 1 false))]⟩) = some (.ret, ⟨[(2, .hsl (.ext 0) 0 k')], [(.ext 0, some (.parr (l3.map (.int .i64)) 1 false))]⟩)) := by
  generalize hK : loopW E 1 _ _ _ = K
  intro n
  induction n with
  | zero =>
    intro k a hn hk hkl ha
    have f1 : ¬ (k : Int) < (l.length : Int) := by omega
    refine .inl ⟨by rw [List.drop_eq_nil_of_le (by omega), keepNew], ?_⟩
    rw [← hK, loopW_some, hK]
    simp -implicitDefEqProofs only [go_sem, s196_8, s196_7, s196_6, s196_5, f1]
  | succ n ih =>
    intro k a hn hk hkl ha
    by_cases h : k < l.length
    · have f1 : (k : Int) < (l.length : Int) := by omega
      have f2 := wAdd1 k (by omega)
      have f3 : IntKind.i64.wrap ((k : Int) - 1) = ((k - 1 : Nat) : Int) := wSub k 1 (by omega) (by omega)
      have n1 : (0 : Int) ≤ (k : Int) := by omega
      have n2 : (0 : Int) ≤ ((k - 1 : Nat) : Int) := by omega
      have i2 : k - 1 < l.length := by omega
      obtain ⟨x, hx⟩ : ∃ x, l[k]? = some x := ⟨_, List.getElem?_eq_getElem h⟩
      have hd : l.drop k = x :: l.drop (k + 1) := by
        rw [List.drop_eq_getElem_cons h]
        congr 1
        rw [List.getElem?_eq_getElem h] at hx
        exact Option.some.inj hx
      have h0 : 0 + l.length ≤ l.length := by omega
      by_cases hxa : x = a
      · subst hxa
        right
        have lp := loop196b (E := E) l k hN _ 1 k l (Nat.le_refl _) rfl (by omega) (by omega) (by omega) (fun _ _ => rfl) x (by rw [← hx]; congr 1)
        obtain ⟨k', l'', r1, r2, r3, r4⟩ := lp
        rw [Int.natCast_one] at r4
        have h1 : k ≤ l.length := by omega
        have h2 : k' ≤ l.length := by omega
        have h3 : ¬ (l.length - k' = 0) := by omega
        have h4 : k' + (l.length - k') ≤ l.length := by omega
        have n3 : (0 : Int) ≤ (k' : Int) := by omega
        have z1 : (k : Int) ≤ (l.length : Int) := by omega
        have z2 : (k' : Int) ≤ (l.length : Int) := by omega
        have hlen : (l''.take k' ++ List.replicate (l.length - k') 0 ++ l''.drop (k' + (l.length - k'))).length = l.length := by simp; omega
        refine ⟨k', l''.take k' ++ List.replicate (l.length - k') 0 ++ l''.drop (k' + (l.length - k')), hlen, h2, ?_, ?_⟩
        · rw [List.append_assoc, List.take_append_of_le_length (by simp; omega), List.take_take, Nat.min_self, r3, hd, keepNew, if_pos rfl]
        · rw [List.map_append, List.map_append, List.map_replicate, List.map_take, List.map_drop]
          rw [← hK, loopW_some, hK]
          simp -implicitDefEqProofs only [go_sem, s196_8, s196_7, s196_6, s196_5, s196_7, s196_6, s196_5, f1, f3, n1, n2, i2, h, ha, hx, h0, h1, h2, h3, h4, n3, z1, z2, r1, r4, List.length_map, Nat.sub_zero]
      · rcases ih (k + 1) x (by omega) (by omega) h (by rw [← hx]; congr 1) with ⟨r1, r2⟩ | ⟨k', l3, r1, r2, r3, r4⟩
        · left
          refine ⟨by rw [hd, keepNew, if_neg hxa, r1], ?_⟩
          rw [← hK, loopW_some, hK]
          simp -implicitDefEqProofs only [go_sem, s196_8, s196_7, s196_6, s196_5, f1, f2, f3, n1, n2, i2, h, ha, hx, h0, hxa]
          exact r2
        · right
          refine ⟨k', l3, r1, r2, ?_, ?_⟩
          · rw [r3, hd, keepNew, if_neg hxa, List.take_add_one, hx, List.append_assoc]; rfl
          · rw [← hK, loopW_some, hK]
            simp -implicitDefEqProofs only [go_sem, s196_8, s196_7, s196_6, s196_5, f1, f2, f3, n1, n2, i2, h, ha, hx, h0, hxa]
            exact r4
    · have f1 : ¬ (k : Int) < (l.length : Int) := by omega
      refine .inl ⟨by rw [List.drop_eq_nil_of_le (by omega), keepNew], ?_⟩
      rw [← hK, loopW_some, hK]
      simp -implicitDefEqProofs only [go_sem, s196_8, s196_7, s196_6, s196_5, f1]
theorem e196 (l : List Int) (hN : l.length < 4611686018427387904) : ∃ es : List PV, callW E 196 [.hsl (.ext 0) 0 l.length] [.parr (l.map (.int .i64)) 1 false] = some ⟨.p (.sl 1 ((compactL l).map (.int .i64))), [.parr es 1 true], []⟩ := by
  by_cases h : l.length < 2
  · have f1 : (l.length : Int) < 2 := by omega
    have hc : compactL l = l := by
      match l, h with
      | [], _ => rfl
      | [a], _ => rfl
    refine ⟨l.map (.int .i64), ?_⟩
    rw [hc]
    rw [callW_eq, EnvS.h 196 F196 rfl]
    simp -implicitDefEqProofs only [go_sem, F196, s196, s196_1, f1, fin1_hsl]
  · have f1 : ¬ (l.length : Int) < 2 := by omega
    obtain ⟨a, r, rfl⟩ : ∃ a r, l = a :: r := by
      match l, h with
      | [], h => simp at h
      | a :: r, _ => exact ⟨a, r, rfl⟩
    have hl := loop196a (E := E) (a :: r) hN _ 1 a (Nat.le_refl _) (Nat.le_refl _) (by simp) rfl
    rw [Int.natCast_one] at hl
    simp only [List.drop_succ_cons, List.drop_zero, List.take_succ_cons, List.take_zero] at hl
    rcases hl with ⟨r1, r2⟩ | ⟨k', l3, r1, r2, r3, r4⟩
    · refine ⟨(a :: r).map (.int .i64), ?_⟩
      rw [compactL, r1]
      generalize hg : a :: r = l at *
      rw [callW_eq, EnvS.h 196 F196 rfl]
      simp -implicitDefEqProofs only [go_sem, F196, s196, s196_9, f1, r2, fin1_hsl]
    · refine ⟨l3.map (.int .i64), ?_⟩
      rw [compactL, show a :: keepNew a r = l3.take k' from r3.symm, List.map_take]
      generalize hg : a :: r = l at *
      have h0 : 0 + k' ≤ l3.length := by omega
      rw [callW_eq, EnvS.h 196 F196 rfl]
      simp -implicitDefEqProofs only [go_sem, F196, s196, s196_9, f1, r4, r1, r2, h0, fin1_hsl]
theorem raw196 : E.raw 196 = true := raw_T 196 F196 rfl rfl
theorem raw114 : E.raw 114 = true := raw_T 114 F114 rfl rfl
attribute [go_sem] raw196 raw114
/-- A list sorted, what stands twice left out. -/
def uniqI (l : List Int) : List Int := compactL (Sort.sort ltI l.toArray).toList
theorem e114 (l : List Int) (hN : l.length < 50) : ∃ es : List PV, callW E 114 [.hsl (.ext 0) 0 l.length, .fn 115 [] []] [.parr (l.map (.int .i64)) 1 false] = some ⟨.p (.sl 1 ((uniqI l).map (.int .i64))), [.parr es 1 true], []⟩ := by
  have e1 := e195 (E := E) l.toArray (by simpa using hN)
  have hs : (Sort.sort ltI l.toArray).toList.length = l.length := by
    have := (Go.Sort.sort_sorts ltI swo_ltI l.toArray).1.1
    simpa using this
  obtain ⟨es, e2⟩ := e196 (E := E) (Sort.sort ltI l.toArray).toList (by omega)
  rw [hs] at e2
  refine ⟨es, ?_⟩
  rw [List.size_toArray] at e1
  unfold uniqI
  rw [callW_eq, EnvS.h 114 F114 rfl]
  simp -implicitDefEqProofs only [go_sem, F114, s114, e1, e2]
end Go.Ab.S

/-! The order of ballots. -/
namespace Go.Ab.S
open Go Go.Ab

theorem bl_irrefl : ∀ x : List UInt8, Op.bytesLess x x = false
  | [] => rfl
  | a :: x => by simp [Op.bytesLess, bl_irrefl x]
theorem bl_trans : ∀ x y z : List UInt8, Op.bytesLess x y = true → Op.bytesLess y z = true → Op.bytesLess x z = true
  | x, [], z, h, _ => by cases x <;> simp [Op.bytesLess] at h
  | _, b :: y, [], _, h => by simp [Op.bytesLess] at h
  | [], b :: y, c :: z, _, _ => rfl
  | a :: x, b :: y, c :: z, h, h2 => by
    simp only [Op.bytesLess, Bool.or_eq_true, Bool.and_eq_true, decide_eq_true_eq, beq_iff_eq] at h h2 ⊢
    rcases h with h | ⟨rfl, h⟩
    · rcases h2 with h2 | ⟨rfl, h2⟩
      · exact .inl (UInt8.lt_trans h h2)
      · exact .inl h
    · rcases h2 with h2 | ⟨rfl, h2⟩
      · exact .inl h2
      · exact .inr ⟨rfl, bl_trans x y z h h2⟩
theorem bl_total : ∀ x y : List UInt8, Op.bytesLess x y = false → Op.bytesLess y x = false → x = y
  | [], [], _, _ => rfl
  | [], b :: y, h, _ => by simp [Op.bytesLess] at h
  | a :: x, [], _, h => by simp [Op.bytesLess] at h
  | a :: x, b :: y, h, h2 => by
    simp only [Op.bytesLess, Bool.or_eq_false_iff, Bool.and_eq_false_iff, decide_eq_false_iff_not, beq_eq_false_iff_ne] at h h2
    have hab : a = b := by
      have h3 := h.1
      have h4 := h2.1
      rw [UInt8.lt_iff_toNat_lt] at h3 h4
      exact UInt8.toNat_inj.1 (by omega)
    subst hab
    have h3 : Op.bytesLess x y = false := by rcases h.2 with h | h <;> simp_all
    have h4 : Op.bytesLess y x = false := by rcases h2.2 with h | h <;> simp_all
    rw [bl_total x y h3 h4]
theorem ba_ext {a b : ByteArray} (h : a.toList = b.toList) : a = b := by
  rw [ByteArray.toList_eq, ByteArray.toList_eq] at h
  have h2 : a.data = b.data := Array.toList_inj.1 h
  cases a; cases b; simp_all
theorem lv_irrefl (a : ByteArray) : lessV a a = false := by simp [lessV, bl_irrefl]
theorem lv_trans {a b c : ByteArray} (h : lessV a b = true) (h2 : lessV b c = true) : lessV a c = true := by
  unfold lessV at *
  by_cases h3 : a.size = b.size
  · rw [if_pos h3] at h
    by_cases h4 : b.size = c.size
    · rw [if_pos h4] at h2
      rw [if_pos (h3.trans h4)]
      exact bl_trans _ _ _ h h2
    · rw [if_neg h4] at h2
      simp only [decide_eq_true_eq] at h2
      rw [if_neg (by omega)]
      simp; omega
  · rw [if_neg h3] at h
    simp only [decide_eq_true_eq] at h
    by_cases h4 : b.size = c.size
    · rw [if_neg (by omega)]
      simp; omega
    · rw [if_neg h4] at h2
      simp only [decide_eq_true_eq] at h2
      rw [if_neg (by omega)]
      simp; omega
theorem lv_total {a b : ByteArray} (h : lessV a b = false) (h2 : lessV b a = false) : a = b := by
  unfold lessV at *
  by_cases h3 : a.size = b.size
  · rw [if_pos h3] at h
    rw [if_pos h3.symm] at h2
    exact ba_ext (bl_total _ _ h h2)
  · rw [if_neg h3] at h
    rw [if_neg (fun h => h3 h.symm)] at h2
    simp at h h2
    omega
theorem less_irrefl (a : Bal) : less a a = false := by rw [less_eq]; simp [lv_irrefl]
theorem less_trans {a b c : Bal} (h : less a b = true) (h2 : less b c = true) : less a c = true := by
  rw [less_eq] at *
  by_cases h3 : a.c = b.c
  · rw [if_pos h3] at h
    by_cases h4 : b.c = c.c
    · rw [if_pos h4] at h2
      rw [if_pos (h3.trans h4)]
      exact lv_trans h h2
    · rw [if_neg h4] at h2
      simp only [decide_eq_true_eq] at h2
      rw [if_neg (by omega)]
      simp; omega
  · rw [if_neg h3] at h
    simp only [decide_eq_true_eq] at h
    by_cases h4 : b.c = c.c
    · rw [if_neg (by omega)]
      simp; omega
    · rw [if_neg h4] at h2
      simp only [decide_eq_true_eq] at h2
      rw [if_neg (by omega)]
      simp; omega
theorem less_total {a b : Bal} (h : less a b = false) (h2 : less b a = false) : a = b := by
  rw [less_eq] at *
  by_cases h3 : a.c = b.c
  · rw [if_pos h3] at h
    rw [if_pos h3.symm] at h2
    have := lv_total h h2
    cases a; cases b; simp_all
  · rw [if_neg h3] at h
    rw [if_neg (fun h => h3 h.symm)] at h2
    simp at h h2
    omega
/-! ### Joining -/
/-- What holds of the two greatest of some ballots. -/
structure JInv (p q : Bal) (all : List Bal) : Prop where
  pz : zeroB p = false
  qq : q = ⟨0, ByteArray.empty⟩ ∨ (zeroB q = false ∧ less q p = true ∧ q.v ≠ p.v)
  all : ∀ x ∈ all, prepares p q x = true
theorem covers_self {b : Bal} (h : zeroB b = false) : covers b b = true := by simp [covers, h]
end Go.Ab.S
