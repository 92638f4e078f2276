/- A part of the proof (an executor, and what it computes). -/
import Derived.Test.YtmnjnpgmenigiaaGreatB46f0a96bd9
import Derived.Test.YtmnjnpgmenigiaaGreatSoV
import Derived.Test.YtmnjnpgmenigiaaGreatB8c93a02b21
import Derived.Test.YtmnjnpgmenigiaaGreatBdba751c50e
import Derived.Test.YtmnjnpgmenigiaaGreatB0739676eea
set_option linter.all false
namespace Go.Ab.S.SV
open Go Go.Ab Go.Ab.S
variable {E : Env} [EnvS E]
theorem loop192b (l : List ByteArray) (k0 : Nat) (hN : l.length < 4611686018427387904) : ∀ (n j k : Nat) (l' : List ByteArray), l.length - (k0 + j) ≤ n → l'.length = l.length → 1 ≤ j → k + 1 ≤ k0 + j → k0 + j ≤ l.length → (∀ i, k0 + j ≤ i + 1 → l'[i]? = l[i]?) → ∀ a, l[k0 + j - 1]? = some a →
    ∃ (k' : Nat) (l'' : List ByteArray), l''.length = l.length ∧ k' + 1 ≤ l.length ∧ l''.take k' = l'.take k ++ keepNew a (l.drop (k0 + j)) ∧
    loopW E 1 [0, 3, 4, 5] [] (.trim [0, 3, 4, 5] [2] [(2, [0, 3])] [] s192_4) (some ⟨[(0, .hsl (.ext 0) 0 l.length), (3, .p (.int .i64 k)), (4, .hsl (.ext 0) k0 (l.length - k0)), (5, .p (.int .i64 j))], [(.ext 0, some (.parr (l'.map .str) 1 false))]⟩) =
    some (.ex 2, ⟨[(0, .hsl (.ext 0) 0 l.length), (3, .p (.int .i64 k'))], [(.ext 0, some (.parr (l''.map .str) 1 false))]⟩) := by
  generalize hK : loopW E 1 _ _ _ = K
  intro n
  induction n with
  | zero =>
    intro j k l' hn hl hj hk hp hag a ha
    refine ⟨k, l', hl, by omega, ?_, ?_⟩
    · rw [List.drop_eq_nil_of_le (by omega), keepNew, List.append_nil]
    · have f1 : ¬ (j : Int) < ((l.length - k0 : Nat) : Int) := by omega
      rw [← hK, loopW_some, hK]
      simp -implicitDefEqProofs only [go_sem, s192_4, s192_3, s192_2, f1]
  | succ n ih =>
    intro j k l' hn hl hj hk hp hag a ha
    by_cases h : k0 + j < l.length
    · have f1 : (j : Int) < ((l.length - k0 : Nat) : Int) := by omega
      have f2 := wAdd1 j (by omega)
      have f3 : IntKind.i64.wrap ((j : Int) - 1) = ((j - 1 : Nat) : Int) := wSub j 1 (by omega) (by omega)
      have n1 : (0 : Int) ≤ (j : Int) := by omega
      have n2 : (0 : Int) ≤ ((j - 1 : Nat) : Int) := by omega
      have i1 : j < l.length - k0 := by omega
      have i2 : j - 1 < l.length - k0 := by omega
      obtain ⟨x, hx⟩ : ∃ x, l[k0 + j]? = some x := ⟨_, List.getElem?_eq_getElem h⟩
      have g1 : l'[k0 + j]? = some x := by rw [hag _ (by omega)]; exact hx
      have g2 : l'[k0 + (j - 1)]? = some a := by rw [hag _ (by omega), ← ha]; congr 1; omega
      have h0 : k0 + (l.length - k0) ≤ l.length := by omega
      have hd : l.drop (k0 + j) = x :: l.drop (k0 + (j + 1)) := by
        rw [List.drop_eq_getElem_cons h]
        congr 1
        rw [List.getElem?_eq_getElem h] at hx
        exact Option.some.inj hx
      by_cases hxa : x = a
      · subst hxa
        obtain ⟨k', l'', r1, r2, r3, r4⟩ := ih (j + 1) k l' (by omega) hl (by omega) (by omega) (by omega) (fun i hi => hag i (by omega)) x (by rw [← hx]; congr 1)
        refine ⟨k', l'', r1, r2, by rw [r3, hd, keepNew, if_pos rfl], ?_⟩
        rw [← hK, loopW_some, hK]
        simp -implicitDefEqProofs only [go_sem, s192_4, s192_3, s192_2, f1, f2, f3, n1, n2, i1, i2, g1, g2, h0, hl]
        exact r4
      · have hkl : k < l'.length := by omega
        have hkl2 : k < l.length := by omega
        obtain ⟨z, hz⟩ : ∃ z, l'[k]? = some z := ⟨_, List.getElem?_eq_getElem hkl⟩
        have n3 : (0 : Int) ≤ (k : Int) := by omega
        have h00 : 0 + l.length ≤ l'.length := by omega
        have f4 := wAdd1 k (by omega)
        obtain ⟨k', l'', r1, r2, r3, r4⟩ := ih (j + 1) (k + 1) (l'.set k x) (by omega) (by simp [hl]) (by omega) (by omega) (by omega) (fun i hi => by rw [List.getElem?_set_ne (by omega)]; exact hag i (by omega)) x (by rw [← hx]; congr 1)
        refine ⟨k', l'', r1, r2, ?_, ?_⟩
        · rw [r3, hd, keepNew, if_neg hxa, take_set_succ _ _ _ hkl, List.append_assoc]; rfl
        · rw [List.map_set] at r4
          rw [← hK, loopW_some, hK]
          simp -implicitDefEqProofs only [go_sem, s192_4, s192_3, s192_2, f1, f2, f3, f4, n1, n2, n3, i1, i2, g1, g2, h0, h00, hl, hxa, hz, hkl2, setE]
          exact r4
    · refine ⟨k, l', hl, by omega, ?_, ?_⟩
      · rw [List.drop_eq_nil_of_le (by omega), keepNew, List.append_nil]
      · have f1 : ¬ (j : Int) < ((l.length - k0 : Nat) : Int) := by omega
        rw [← hK, loopW_some, hK]
        simp -implicitDefEqProofs only [go_sem, s192_4, s192_3, s192_2, f1]
theorem loop192a (l : List ByteArray) (hN : l.length < 4611686018427387904) : ∀ (n k : Nat) (a : ByteArray), l.length - k ≤ n → 1 ≤ k → k ≤ l.length → l[k - 1]? = some a →
    (keepNew a (l.drop k) = l.drop k ∧ loopW E 1 [0, 3] [] (.trim [0, 3] [2] [(0, [0])] [] s192_8) (some ⟨[(0, .hsl (.ext 0) 0 l.length), (3, .p (.int .i64 k))], [(.ext 0, some (.parr (l.map .str) 1 false))]⟩) = some (.ex 0, ⟨[(0, .hsl (.ext 0) 0 l.length)], [(.ext 0, some (.parr (l.map .str) 1 false))]⟩)) ∨
    (∃ (k' : Nat) (l3 : List ByteArray), l3.length = l.length ∧ k' ≤ l.length ∧ l3.take k' = l.take k ++ keepNew a (l.drop k) ∧ loopW E 1 [0, 3] [] (.trim [0, 3] [2] [(0, [0])] [] s192_8) (some ⟨[(0, .hsl (.ext 0) 0 l.length), (3, .p (.int .i64 k))], [(.ext 0, some (.parr (l.map .str) 1 false))]⟩) = some (.ret, ⟨[(2, .hsl (.ext 0) 0 k')], [(.ext 0, some (.parr (l3.map .str) 1 false))]⟩)) := by
  generalize hK : loopW E 1 _ _ _ = K
  intro n
  induction n with
  | zero =>
    intro k a hn hk hkl ha
    have f1 : ¬ (k : Int) < (l.length : Int) := by omega
    refine .inl ⟨by rw [List.drop_eq_nil_of_le (by omega), keepNew], ?_⟩
    rw [← hK, loopW_some, hK]
    simp -implicitDefEqProofs only [go_sem, s192_8, s192_7, s192_6, s192_5, f1]
  | succ n ih =>
    intro k a hn hk hkl ha
    by_cases h : k < l.length
    · have f1 : (k : Int) < (l.length : Int) := by omega
      have f2 := wAdd1 k (by omega)
      have f3 : IntKind.i64.wrap ((k : Int) - 1) = ((k - 1 : Nat) : Int) := wSub k 1 (by omega) (by omega)
      have n1 : (0 : Int) ≤ (k : Int) := by omega
      have n2 : (0 : Int) ≤ ((k - 1 : Nat) : Int) := by omega
      have i2 : k - 1 < l.length := by omega
      obtain ⟨x, hx⟩ : ∃ x, l[k]? = some x := ⟨_, List.getElem?_eq_getElem h⟩
      have hd : l.drop k = x :: l.drop (k + 1) := by
        rw [List.drop_eq_getElem_cons h]
        congr 1
        rw [List.getElem?_eq_getElem h] at hx
        exact Option.some.inj hx
      have h0 : 0 + l.length ≤ l.length := by omega
      by_cases hxa : x = a
      · subst hxa
        right
        have lp := loop192b (E := E) l k hN _ 1 k l (Nat.le_refl _) rfl (by omega) (by omega) (by omega) (fun _ _ => rfl) x (by rw [← hx]; congr 1)
        obtain ⟨k', l'', r1, r2, r3, r4⟩ := lp
        rw [Int.natCast_one] at r4
        have h1 : k ≤ l.length := by omega
        have h2 : k' ≤ l.length := by omega
        have h3 : ¬ (l.length - k' = 0) := by omega
        have h4 : k' + (l.length - k') ≤ l.length := by omega
        have n3 : (0 : Int) ≤ (k' : Int) := by omega
        have z1 : (k : Int) ≤ (l.length : Int) := by omega
        have z2 : (k' : Int) ≤ (l.length : Int) := by omega
        have hlen : (l''.take k' ++ List.replicate (l.length - k') ByteArray.empty ++ l''.drop (k' + (l.length - k'))).length = l.length := by simp; omega
        refine ⟨k', l''.take k' ++ List.replicate (l.length - k') ByteArray.empty ++ l''.drop (k' + (l.length - k')), hlen, h2, ?_, ?_⟩
        · rw [List.append_assoc, List.take_append_of_le_length (by simp; omega), List.take_take, Nat.min_self, r3, hd, keepNew, if_pos rfl]
        · rw [List.map_append, List.map_append, List.map_replicate, List.map_take, List.map_drop]
          rw [← hK, loopW_some, hK]
          simp -implicitDefEqProofs only [go_sem, s192_8, s192_7, s192_6, s192_5, s192_7, s192_6, s192_5, f1, f3, n1, n2, i2, h, ha, hx, h0, h1, h2, h3, h4, n3, z1, z2, r1, r4, List.length_map, Nat.sub_zero]
      · rcases ih (k + 1) x (by omega) (by omega) h (by rw [← hx]; congr 1) with ⟨r1, r2⟩ | ⟨k', l3, r1, r2, r3, r4⟩
        · left
          refine ⟨by rw [hd, keepNew, if_neg hxa, r1], ?_⟩
          rw [← hK, loopW_some, hK]
          simp -implicitDefEqProofs only [go_sem, s192_8, s192_7, s192_6, s192_5, f1, f2, f3, n1, n2, i2, h, ha, hx, h0, hxa]
          exact r2
        · right
          refine ⟨k', l3, r1, r2, ?_, ?_⟩
          · rw [r3, hd, keepNew, if_neg hxa, List.take_add_one, hx, List.append_assoc]; rfl
          · rw [← hK, loopW_some, hK]
            simp -implicitDefEqProofs only [go_sem, s192_8, s192_7, s192_6, s192_5, f1, f2, f3, n1, n2, i2, h, ha, hx, h0, hxa]
            exact r4
    · have f1 : ¬ (k : Int) < (l.length : Int) := by omega
      refine .inl ⟨by rw [List.drop_eq_nil_of_le (by omega), keepNew], ?_⟩
      rw [← hK, loopW_some, hK]
      simp -implicitDefEqProofs only [go_sem, s192_8, s192_7, s192_6, s192_5, f1]
theorem e192 (l : List ByteArray) (hN : l.length < 4611686018427387904) : ∃ es : List PV, callW E 192 [.hsl (.ext 0) 0 l.length] [.parr (l.map .str) 1 false] = some ⟨.p (.sl 1 ((compactL l).map .str)), [.parr es 1 true], []⟩ := by
  by_cases h : l.length < 2
  · have f1 : (l.length : Int) < 2 := by omega
    have hc : compactL l = l := by
      match l, h with
      | [], _ => rfl
      | [a], _ => rfl
    refine ⟨l.map .str, ?_⟩
    rw [hc]
    rw [callW_eq, EnvS.h 192 F192 rfl]
    simp -implicitDefEqProofs only [go_sem, F192, s192, s192_1, f1, fin1_hsl]
  · have f1 : ¬ (l.length : Int) < 2 := by omega
    obtain ⟨a, r, rfl⟩ : ∃ a r, l = a :: r := by
      match l, h with
      | [], h => simp at h
      | a :: r, _ => exact ⟨a, r, rfl⟩
    have hl := loop192a (E := E) (a :: r) hN _ 1 a (Nat.le_refl _) (Nat.le_refl _) (by simp) rfl
    rw [Int.natCast_one] at hl
    simp only [List.drop_succ_cons, List.drop_zero, List.take_succ_cons, List.take_zero] at hl
    rcases hl with ⟨r1, r2⟩ | ⟨k', l3, r1, r2, r3, r4⟩
    · refine ⟨(a :: r).map .str, ?_⟩
      rw [compactL, r1]
      generalize hg : a :: r = l at *
      rw [callW_eq, EnvS.h 192 F192 rfl]
      simp -implicitDefEqProofs only [go_sem, F192, s192, s192_9, f1, r2, fin1_hsl]
    · refine ⟨l3.map .str, ?_⟩
      rw [compactL, show a :: keepNew a r = l3.take k' from r3.symm, List.map_take]
      generalize hg : a :: r = l at *
      have h0 : 0 + k' ≤ l3.length := by omega
      rw [callW_eq, EnvS.h 192 F192 rfl]
      simp -implicitDefEqProofs only [go_sem, F192, s192, s192_9, f1, r4, r1, r2, h0, fin1_hsl]
theorem raw192 : E.raw 192 = true := raw_T 192 F192 rfl rfl
theorem raw110 : E.raw 110 = true := raw_T 110 F110 rfl rfl
attribute [go_sem] raw192 raw110
/-- A list sorted, what stands twice left out. -/
def uniqV (l : List ByteArray) : List ByteArray := compactL (Sort.sort ltV l.toArray).toList
theorem e110 (l : List ByteArray) (hN : l.length < 50) : ∃ es : List PV, callW E 110 [.hsl (.ext 0) 0 l.length, .fn 111 [] []] [.parr (l.map .str) 1 false] = some ⟨.p (.sl 1 ((uniqV l).map .str)), [.parr es 1 true], []⟩ := by
  have e1 := e191 (E := E) l.toArray (by simpa using hN)
  have hs : (Sort.sort ltV l.toArray).toList.length = l.length := by
    have := (Go.Sort.sort_sorts ltV swo_ltV l.toArray).1.1
    simpa using this
  obtain ⟨es, e2⟩ := e192 (E := E) (Sort.sort ltV l.toArray).toList (by omega)
  rw [hs] at e2
  refine ⟨es, ?_⟩
  rw [List.size_toArray] at e1
  unfold uniqV
  rw [callW_eq, EnvS.h 110 F110 rfl]
  simp -implicitDefEqProofs only [go_sem, F110, s110, e1, e2]
end Go.Ab.S.SV

namespace Go.Ab.S
open Go Go.Ab
variable {E : Env} [EnvS E]

/-! ### The values and the bounds of envelopes -/
theorem loop20 (l : List Evl) (hl : l.length < 4000) (hth : ∀ e ∈ l, e.t.thin) :
    loopW E 0 [3, 6, 7, 8] [.loc 1 0 0] (.trim [3, 6, 7, 8] [2] [(0, [3])] [.loc 1 0 0] s20_3) (some ⟨[(3, .hsl (.loc 1 0 0) 0 0), (6, .p (.sl 15 (l.map Evl.pv))), (7, .p (.int .i64 l.length)), (8, .p (.int .i64 0))], [(.loc 1 0 0, some (.parr [] 1 false))]⟩) =
    some (.ex 0, ⟨[(3, .hsl (.loc 1 0 0) 0 ((l.filter validE).map fun e => e.b.v).length)], [(.loc 1 0 0, some (.parr (((l.filter validE).map fun e => e.b.v).map .str) 1 false))]⟩) := by
  have key := range_loopI (loopW E 0 [3, 6, 7, 8] [.loc 1 0 0] (.trim [3, 6, 7, 8] [2] [(0, [3])] [.loc 1 0 0] s20_3)) l
    (fun i (o : List ByteArray) => ⟨[(3, .hsl (.loc 1 0 0) 0 o.length), (6, .p (.sl 15 (l.map Evl.pv))), (7, .p (.int .i64 l.length)), (8, .p (.int .i64 i))], [(.loc 1 0 0, some (.parr (o.map .str) 1 false))]⟩)
    (fun o r => some (.ex 0, ⟨[(3, .hsl (.loc 1 0 0) 0 (o ++ (r.filter validE).map fun e => e.b.v).length)], [(.loc 1 0 0, some (.parr ((o ++ (r.filter validE).map fun e => e.b.v).map .str) 1 false))]⟩)) (fun i o => o.length ≤ i)
  refine key ?_ ?_ [] (by simp)
  · intro o _
    rw [loopW_some]
    generalize hK : loopW E 0 _ _ _ = K
    simp -implicitDefEqProofs only [go_sem, s20_3, s20_2, s20_1, List.filter_nil, List.append_nil]
  · intro i o e r hx hn ho ih
    obtain ⟨f1, f2, f3⟩ := rangeFacts i l.length (by omega) (by omega)
    have e1 := e81 (E := E) e (hth e (List.mem_of_getElem? hx))
    have hm1 : o.length + 1 ≤ most := by unfold most; omega
    rw [loopW_some]
    generalize hK : loopW E 0 _ _ _ = K at ih ⊢
    cases hv : validE e with
    | false =>
      rw [hv] at e1
      have ih' := ih o (by omega)
      try dsimp only at ih' ⊢
      rw [List.filter_cons_of_neg (by simp [hv])]
      unfold Evl.pv at *
      simp -implicitDefEqProofs only [go_sem, s20_3, s20_2, s20_1, hx, f1, f2, f3, e1]
      exact ih'
    | true =>
      rw [hv] at e1
      have ih' := ih (o ++ [e.b.v]) (by simp; omega)
      rw [List.append_assoc] at ih'
      try dsimp only at ih' ⊢
      rw [List.filter_cons_of_pos hv]
      simp only [List.map_append, List.map_cons, List.map_nil, List.length_append, List.length_cons, List.length_nil, Nat.zero_add, Nat.reduceAdd, List.cons_append, List.nil_append, List.length_map] at ih' ⊢
      unfold Evl.pv at *
      simp -implicitDefEqProofs only [go_sem, s20_3, s20_2, s20_1, hx, f1, f2, f3, e1, hm1]
      exact ih'
def valsN (l : List Evl) : List ByteArray := SV.uniqV ((l.filter validE).map fun e => e.b.v)
theorem e20 (l : List Evl) (hl : l.length ≤ 16) (hth : ∀ e ∈ l, e.t.thin) : callW E 20 [.p (.sl 15 (l.map Evl.pv))] [] = some ⟨.p (.sl 1 ((valsN l).map .str)), [], []⟩ := by
  have lp := loop20 (E := E) l (by omega) hth
  have hf := List.length_filter_le validE l
  obtain ⟨es, e2⟩ := SV.e110 (E := E) ((l.filter validE).map fun e => e.b.v) (by simp; omega)
  rw [List.length_map] at e2
  rw [List.length_map] at lp
  unfold valsN
  rw [callW_eq, EnvS.h 20 F20 rfl]
  simp -implicitDefEqProofs only [go_sem, F20, s20, s20_4, lp, e2]
def bndP (v : ByteArray) (e : Evl) : Bool := validE e && (decide (e.b.v = v) && !decide (e.lo = 0))
def bndL (v : ByteArray) (l : List Evl) : List Int := (l.filter (bndP v)).flatMap fun e => [e.lo, e.hi]
theorem loop25 (v : ByteArray) (l : List Evl) (hl : l.length < 4000) (hth : ∀ e ∈ l, e.t.thin) :
    loopW E 0 [1, 5, 8, 9, 10] [.loc 1 0 0] (.trim [1, 5, 8, 9, 10] [4] [(0, [5])] [.loc 1 0 0] s25_3) (some ⟨[(1, .p (.str v)), (5, .hsl (.loc 1 0 0) 0 0), (8, .p (.sl 15 (l.map Evl.pv))), (9, .p (.int .i64 l.length)), (10, .p (.int .i64 0))], [(.loc 1 0 0, some (.parr [] 1 false))]⟩) =
    some (.ex 0, ⟨[(5, .hsl (.loc 1 0 0) 0 (bndL v l).length)], [(.loc 1 0 0, some (.parr ((bndL v l).map (.int .i64)) 1 false))]⟩) := by
  have key := range_loopI (loopW E 0 [1, 5, 8, 9, 10] [.loc 1 0 0] (.trim [1, 5, 8, 9, 10] [4] [(0, [5])] [.loc 1 0 0] s25_3)) l
    (fun i (o : List Int) => ⟨[(1, .p (.str v)), (5, .hsl (.loc 1 0 0) 0 o.length), (8, .p (.sl 15 (l.map Evl.pv))), (9, .p (.int .i64 l.length)), (10, .p (.int .i64 i))], [(.loc 1 0 0, some (.parr (o.map (.int .i64)) 1 false))]⟩)
    (fun o r => some (.ex 0, ⟨[(5, .hsl (.loc 1 0 0) 0 (o ++ bndL v r).length)], [(.loc 1 0 0, some (.parr ((o ++ bndL v r).map (.int .i64)) 1 false))]⟩)) (fun i o => o.length ≤ 2 * i)
  refine key ?_ ?_ [] (by simp)
  · intro o _
    rw [loopW_some]
    generalize hK : loopW E 0 _ _ _ = K
    simp -implicitDefEqProofs only [go_sem, s25_3, s25_2, s25_1, show bndL v [] = [] from rfl, List.append_nil]
  · intro i o e r hx hn ho ih
    obtain ⟨f1, f2, f3⟩ := rangeFacts i l.length (by omega) (by omega)
    have e1 := e81 (E := E) e (hth e (List.mem_of_getElem? hx))
    have hm1 : o.length + 2 ≤ most := by unfold most; omega
    rw [loopW_some]
    generalize hK : loopW E 0 _ _ _ = K at ih ⊢
    by_cases hb : bndP v e = true
    · have ih' := ih (o ++ [e.lo, e.hi]) (by simp; omega)
      have hc : bndL v (e :: r) = [e.lo, e.hi] ++ bndL v r := by simp [bndL, hb]
      rw [List.append_assoc, ← hc] at ih'
      have hb' := hb
      simp only [bndP, Bool.and_eq_true, decide_eq_true_eq, Bool.not_eq_true', decide_eq_false_iff_not] at hb'
      obtain ⟨h1, h2, h3⟩ := hb'
      rw [h1] at e1
      try dsimp only at ih' ⊢
      simp only [List.map_append, List.map_cons, List.map_nil, List.length_append, List.length_cons, List.length_nil, Nat.zero_add, Nat.reduceAdd] at ih' ⊢
      unfold Evl.pv at *
      have h2' : decide (e.b.v = v) = true := decide_eq_true h2
      simp -implicitDefEqProofs only [go_sem, s25_3, s25_2, s25_1, hx, f1, f2, f3, e1, h2', h3, hm1]
      exact ih'
    · have ih' := ih o (by omega)
      have hc : bndL v (e :: r) = bndL v r := by simp [bndL, hb]
      rw [hc]
      try dsimp only at ih' ⊢
      unfold Evl.pv at *
      cases h1 : validE e with
      | false =>
        rw [h1] at e1
        simp -implicitDefEqProofs only [go_sem, s25_3, s25_2, s25_1, hx, f1, f2, f3, e1]
        exact ih'
      | true =>
        rw [h1] at e1
        by_cases h2 : e.b.v = v
        · have h3 : e.lo = 0 := by
            by_cases h3 : e.lo = 0
            · exact h3
            · exact absurd (by simp [bndP, h1, h2, h3]) hb
          have h2' : decide (e.b.v = v) = true := decide_eq_true h2
          rw [h3] at e1
          simp -implicitDefEqProofs only [go_sem, s25_3, s25_2, s25_1, hx, f1, f2, f3, h3, e1, h2']
          exact ih'
        · have h2' : decide (e.b.v = v) = false := decide_eq_false h2
          simp -implicitDefEqProofs only [go_sem, s25_3, s25_2, s25_1, hx, f1, f2, f3, e1, h2']
          exact ih'
theorem bndL_len (v : ByteArray) : ∀ l : List Evl, (bndL v l).length ≤ 2 * l.length
  | [] => by simp [bndL]
  | e :: r => by
    have ih := bndL_len v r
    have h : (bndL v (e :: r)).length ≤ 2 + (bndL v r).length := by
      unfold bndL
      rw [List.filter_cons]
      split
      · rw [List.flatMap_cons, List.length_append, List.length_cons, List.length_cons, List.length_nil]; omega
      · omega
    rw [List.length_cons]; omega
def bndsN (l : List Evl) (v : ByteArray) : List Int := uniqI (bndL v l)
theorem e25 (l : List Evl) (v : ByteArray) (hl : l.length ≤ 16) (hth : ∀ e ∈ l, e.t.thin) : callW E 25 [.p (.sl 15 (l.map Evl.pv)), .p (.str v)] [] = some ⟨.p (.sl 1 ((bndsN l v).map (.int .i64))), [], []⟩ := by
  have lp := loop25 (E := E) v l (by omega) hth
  have hf := bndL_len v l
  obtain ⟨es, e2⟩ := e114 (E := E) (bndL v l) (by omega)
  unfold bndsN
  rw [callW_eq, EnvS.h 25 F25 rfl]
  simp -implicitDefEqProofs only [go_sem, F25, s25, s25_4, lp, e2]
end Go.Ab.S

namespace Go.Ab.S
open Go Go.Ab
variable {E : Env} [EnvS E]

/-! ### Downward -/
/-- The range downward: from the greatest of the first k bounds. -/
def downK (h : Int → Bool) (zs : List Int) : Nat → Int → Int
  | 0, x => x
  | k + 1, x => match zs[k]? with
    | none => x
    | some z => if x ≤ z then downK h zs k x else if h z = true then downK h zs k z else x
theorem e126 (zs : List Int) : callW E 126 [.p (.sl 1 (zs.map (.int .i64)))] [] = some ⟨.fn 203 [] [.ptr (.ext 0) 0], [], [.box [.p (.sl 1 (zs.map (.int .i64)))]]⟩ := by
  rw [callW_eq, EnvS.h 126 F126 rfl]
  simp -implicitDefEqProofs only [go_sem, F126, s126]
theorem e127 (node : Nat) (hnode : node < 10) (ms : List Mem) (hc : ConfOk ms) (v : ByteArray) (z w : Int) (l : List Evl) (hl : l.length < 4000) (hn : nodesOk l) :
    callW E 127 [.p (.int .i64 z), .ptr (.ext 0) 0, .ptr (.ext 1) 0, .ptr (.ext 2) 0] [.box [.p (.int .i64 node), .p (.sl 4 (ms.map Mem.pv)), .p (.sl 15 (l.map Evl.pv))], .box [.p (.str v)], .box [.p (.int .i64 w)]] = some ⟨.p (.bool ((great ms (who (accC · v z w) l)).testBit node)), [.box [.p (.int .i64 node), .p (.sl 4 (ms.map Mem.pv)), .p (.sl 15 (l.map Evl.pv))], .box [.p (.str v)], .box [.p (.int .i64 w)]], []⟩ := by
  have e1 := e120 (E := E) node hnode ms hc v z w l hl hn
  unfold seenPv at *
  rw [callW_eq, EnvS.h 127 F127 rfl]
  simp -implicitDefEqProofs only [go_sem, F127, s127, e1]
theorem e124_127 (node : Nat) (hnode : node < 10) (ms : List Mem) (hc : ConfOk ms) (v : ByteArray) (x w : Int) (l : List Evl) (hl : l.length < 4000) (hn : nodesOk l) (zs : List Int) (hz : zs.length ≤ most) :
    callW E 124 [.p (.sl 1 (zs.map (.int .i64))), .p (.int .i64 x), .fn 127 [] [.ptr (.ext 0) 0, .ptr (.ext 1) 0, .ptr (.ext 2) 0]] [.box [.p (.int .i64 node), .p (.sl 4 (ms.map Mem.pv)), .p (.sl 15 (l.map Evl.pv))], .box [.p (.str v)], .box [.p (.int .i64 w)]] = some ⟨.p (.int .i64 (downK (fun z => (great ms (who (accC · v z w) l)).testBit node) zs zs.length x)), [.box [.p (.int .i64 node), .p (.sl 4 (ms.map Mem.pv)), .p (.sl 15 (l.map Evl.pv))], .box [.p (.str v)], .box [.p (.int .i64 w)]], []⟩ := by
  have e0 := e126 (E := E) zs
  have hcap : ∀ x : Int, capOf 203 [(.ext 0, some (.box [.p (.int .i64 node), .p (.sl 4 (ms.map Mem.pv)), .p (.sl 15 (l.map Evl.pv))])), (.ext 1, some (.box [.p (.str v)])), (.ext 2, some (.box [.p (.int .i64 w)])), (.loc 0 0 0, some (.box [.p (.int .i64 x)])), (.loc 0 1 0, some (.box [.fn 127 [] [.ptr (.ext 0) 0, .ptr (.ext 1) 0, .ptr (.ext 2) 0]])), (.loc 1 1 0, some (.box [.p (.sl 1 (zs.map (.int .i64)))]))] (.fn 203 [] [.ptr (.loc 1 1 0) 0]) = some (.loc 1 1 0, zs) := fun x => capOf_eq 203 _ _ zs hz rfl
  have lp : ∀ (ns : List Nm) (T : Tm), ns = [.loc 0 0 0, .loc 0 1 0, .loc 1 1 0, .ext 0, .ext 1, .ext 2] → T = [(4, .ptr (.loc 0 0 0) 0), (5, .ptr (.loc 0 1 0) 0), (10, .fn 203 [] [.ptr (.loc 1 1 0) 0])] →
      ∀ (k : Nat) (x : Int), k ≤ zs.length → ∃ e, (e = .nrm ∨ e = .ex 0) ∧ roundsX (roundY E ns T 11 12 s124_1 s124_3) (.loc 1 1 0) zs k [(.ext 0, some (.box [.p (.int .i64 node), .p (.sl 4 (ms.map Mem.pv)), .p (.sl 15 (l.map Evl.pv))])), (.ext 1, some (.box [.p (.str v)])), (.ext 2, some (.box [.p (.int .i64 w)])), (.loc 0 0 0, some (.box [.p (.int .i64 x)])), (.loc 0 1 0, some (.box [.fn 127 [] [.ptr (.ext 0) 0, .ptr (.ext 1) 0, .ptr (.ext 2) 0]])), (.loc 1 1 0, some (.box [.p (.sl 1 (zs.map (.int .i64)))]))] = some (e, [(.ext 0, some (.box [.p (.int .i64 node), .p (.sl 4 (ms.map Mem.pv)), .p (.sl 15 (l.map Evl.pv))])), (.ext 1, some (.box [.p (.str v)])), (.ext 2, some (.box [.p (.int .i64 w)])), (.loc 0 0 0, some (.box [.p (.int .i64 (downK (fun z => (great ms (who (accC · v z w) l)).testBit node) zs k x))])), (.loc 0 1 0, some (.box [.fn 127 [] [.ptr (.ext 0) 0, .ptr (.ext 1) 0, .ptr (.ext 2) 0]])), (.loc 1 1 0, some (.box [.p (.sl 1 (zs.map (.int .i64)))]))]) := by
    intro ns T hns hT k
    induction k with
    | zero => intro x _; exact ⟨.nrm, .inl rfl, rfl⟩
    | succ k ih =>
      intro x hk
      obtain ⟨z, hzk⟩ : ∃ z, zs[k]? = some z := ⟨zs[k]'(by omega), List.getElem?_eq_getElem (by omega)⟩
      have e1 := e127 (E := E) node hnode ms hc v z w l hl hn
      by_cases h1 : x ≤ z
      · obtain ⟨e, h2, h3⟩ := ih x (by omega)
        refine ⟨e, h2, ?_⟩
        rw [downK, hzk]
        simp only [h1, if_true]
        rw [roundsX_step hzk (H' := [(.ext 0, some (.box [.p (.int .i64 node), .p (.sl 4 (ms.map Mem.pv)), .p (.sl 15 (l.map Evl.pv))])), (.ext 1, some (.box [.p (.str v)])), (.ext 2, some (.box [.p (.int .i64 w)])), (.loc 0 0 0, some (.box [.p (.int .i64 x)])), (.loc 0 1 0, some (.box [.fn 127 [] [.ptr (.ext 0) 0, .ptr (.ext 1) 0, .ptr (.ext 2) 0]])), (.loc 1 1 0, some (.box [.p (.sl 1 (zs.map (.int .i64)))]))]) ?_ (capAt_eq _ _ zs rfl)]
        · exact h3
        · rw [roundY_eq]
          subst hns hT
          simp -implicitDefEqProofs only [go_sem, s124_1, s124_2, s124_3, h1]
      · cases h4 : (fun z => (great ms (who (accC · v z w) l)).testBit node) z with
        | true =>
          obtain ⟨e, h2, h3⟩ := ih z (by omega)
          refine ⟨e, h2, ?_⟩
          rw [downK, hzk]
          simp only [h1, if_false, h4, if_true]
          rw [roundsX_step hzk (H' := [(.ext 0, some (.box [.p (.int .i64 node), .p (.sl 4 (ms.map Mem.pv)), .p (.sl 15 (l.map Evl.pv))])), (.ext 1, some (.box [.p (.str v)])), (.ext 2, some (.box [.p (.int .i64 w)])), (.loc 0 0 0, some (.box [.p (.int .i64 z)])), (.loc 0 1 0, some (.box [.fn 127 [] [.ptr (.ext 0) 0, .ptr (.ext 1) 0, .ptr (.ext 2) 0]])), (.loc 1 1 0, some (.box [.p (.sl 1 (zs.map (.int .i64)))]))]) ?_ (capAt_eq _ _ zs rfl)]
          · exact h3
          · rw [roundY_eq]
            subst hns hT
            dsimp only at h4
            rw [h4] at e1
            simp -implicitDefEqProofs only [go_sem, s124_1, s124_2, s124_3, h1, e1]
        | false =>
          refine ⟨.ex 0, .inr rfl, ?_⟩
          rw [downK, hzk]
          simp only [h1, if_false, h4, Bool.false_eq_true]
          rw [roundsX_ex (id := 0) hzk (H' := [(.ext 0, some (.box [.p (.int .i64 node), .p (.sl 4 (ms.map Mem.pv)), .p (.sl 15 (l.map Evl.pv))])), (.ext 1, some (.box [.p (.str v)])), (.ext 2, some (.box [.p (.int .i64 w)])), (.loc 0 0 0, some (.box [.p (.int .i64 x)])), (.loc 0 1 0, some (.box [.fn 127 [] [.ptr (.ext 0) 0, .ptr (.ext 1) 0, .ptr (.ext 2) 0]])), (.loc 1 1 0, some (.box [.p (.sl 1 (zs.map (.int .i64)))]))]) ?_ (capAt_eq _ _ zs rfl)]
          · rw [roundY_eq]
            subst hns hT
            dsimp only at h4
            rw [h4] at e1
            simp -implicitDefEqProofs only [go_sem, s124_1, s124_2, s124_3, h1, e1]
  obtain ⟨e, h2, h3⟩ := lp _ _ rfl rfl zs.length x (Nat.le_refl _)
  rw [callW_eq, EnvS.h 124 F124 rfl]
  rcases h2 with rfl | rfl
  · simp -implicitDefEqProofs only [go_sem, F124, s124, s124_4, e0, hcap, h3]
  · simp -implicitDefEqProofs only [go_sem, F124, s124, s124_4, e0, hcap, h3]
end Go.Ab.S

namespace Go.Ab.S
open Go Go.Ab
variable {E : Env} [EnvS E]

/-! ### The trusts that are made are valid -/
/-- Trusts of some of the first n nodes. -/
structure TrG (n : Nat) (t : Tr) : Prop where
  thin : t.thin
  ok : errT t = 0
  nn : 1 ≤ t.ns.length
  ns : ∀ x ∈ t.ns, 0 ≤ x ∧ x < n
  is : ∀ x ∈ t.is, ∃ y : Int, x = ⟨1, [y]⟩ ∧ 0 ≤ y ∧ y < n
end Go.Ab.S

namespace Go.Ab.S
open Go Go.Ab
variable {E : Env} [EnvS E]

def Evl.av (e : Evl) : List AV := [.p (.int .i64 e.node), .p (.int .i64 e.slot), .p (.int .i64 e.seq), .p (.int .i64 e.t.th), .p (.sl 1 (e.t.ns.map (.int .i64))), .p (.sl 3 (e.t.is.map In.pv)), .p (.int .i64 e.k), .p (.int .i64 e.b.c), .p (.str e.b.v), .p (.int .i64 e.p.c), .p (.str e.p.v), .p (.int .i64 e.q.c), .p (.str e.q.v), .p (.int .i64 e.lo), .p (.int .i64 e.hi)]
def Bal.zero : Bal := ⟨0, ByteArray.empty⟩
theorem valN_cases (k : Int) (h0 : 0 ≤ k) (h4 : k < 4) : valN k = ⟨#[97]⟩ ∨ valN k = ⟨#[98]⟩ ∨ valN k = ⟨#[99]⟩ ∨ valN k = ⟨#[97, 97]⟩ := by
  have : k = 0 ∨ k = 1 ∨ k = 2 ∨ k = 3 := by omega
  rcases this with rfl | rfl | rfl | rfl
  · exact .inl rfl
  · exact .inr (.inl rfl)
  · exact .inr (.inr (.inl rfl))
  · exact .inr (.inr (.inr rfl))
/-- The values that are made. -/
def isVal (v : ByteArray) : Prop := v = ⟨#[97]⟩ ∨ v = ⟨#[98]⟩ ∨ v = ⟨#[99]⟩ ∨ v = ⟨#[97, 97]⟩
theorem isVal_size {v : ByteArray} (h : isVal v) : 1 ≤ (v.size : Int) ∧ (v.size : Int) ≤ 2 := by
  rcases h with rfl | rfl | rfl | rfl <;> decide
theorem isVal_dV (l : List Int) (a : Nat) : isVal (valN (dV l a 4)) := valN_cases _ (dV_nonneg ..) (dV_lt _ _ _ (by decide))
theorem finite_mk {c : Int} {v : ByteArray} (hc : 1 ≤ c) (hc2 : c ≤ 1000) (hv : isVal v) : finite ⟨c, v⟩ = true := by
  have := isVal_size hv
  simp [finite, validB]
  omega
end Go.Ab.S

namespace Go.Ab.S
open Go Go.Ab
variable {E : Env} [EnvS E]

/-- The envelopes that are made. -/
structure EnvG (n : Nat) (e : Evl) : Prop where
  valid : validE e = true
  t : TrG n e.t
  s1 : 1 ≤ e.seq
  s9 : e.seq ≤ 9
  v : isVal e.b.v
  c1 : 1 ≤ e.b.c
  c7 : e.b.c ≤ 7
end Go.Ab.S

namespace Go.Ab.S
open Go Go.Ab
/-! ### Sorted lists in which nothing stands twice -/
section
variable {α : Type} [DecidableEq α] [Inhabited α] {lt : α → α → Bool}
theorem keepNew_sub : ∀ {l : List α} {a x : α}, x ∈ keepNew a l → x ∈ l
  | [], a, x, h => by simp [keepNew] at h
  | y :: r, a, x, h => by
    unfold keepNew at h
    by_cases e : y = a
    · rw [if_pos e] at h
      exact List.mem_cons_of_mem _ (keepNew_sub h)
    · rw [if_neg e] at h
      rcases List.mem_cons.1 h with h | h
      · subst h; exact List.mem_cons_self
      · exact List.mem_cons_of_mem _ (keepNew_sub h)
theorem keepNew_mem : ∀ {l : List α} {a x : α}, x ∈ l → x = a ∨ x ∈ keepNew a l
  | [], a, x, h => by cases h
  | y :: r, a, x, h => by
    unfold keepNew
    by_cases e : y = a
    · rw [if_pos e]
      rcases List.mem_cons.1 h with h | h
      · exact .inl (h.trans e)
      · subst e; exact keepNew_mem h
    · rw [if_neg e]
      rcases List.mem_cons.1 h with h | h
      · subst h; exact .inr List.mem_cons_self
      · rcases keepNew_mem (a := y) h with h | h
        · subst h; exact .inr List.mem_cons_self
        · exact .inr (List.mem_cons_of_mem _ h)
theorem compactL_mem {l : List α} {x : α} : x ∈ compactL l ↔ x ∈ l := by
  cases l with
  | nil => simp [compactL]
  | cons a r =>
    simp only [compactL, List.mem_cons]
    constructor
    · rintro (h | h)
      · exact .inl h
      · exact .inr (keepNew_sub h)
    · rintro (h | h)
      · exact .inl h
      · exact keepNew_mem h
theorem keepNew_sorted (hs : Go.Sort.SWO lt) (ht : ∀ x y, lt x y = false → lt y x = false → x = y) : ∀ {l : List α} {a : α}, (a :: l).Pairwise (fun x y => lt y x = false) → (a :: keepNew a l).Pairwise (fun x y => lt x y = true)
  | [], a, _ => by simp [keepNew]
  | y :: r, a, h => by
    obtain ⟨h1, h2⟩ := List.pairwise_cons.1 h
    unfold keepNew
    split
    · rename_i e
      subst e
      exact keepNew_sorted hs ht h2
    · rename_i e
      have ih := keepNew_sorted hs ht h2
      refine List.pairwise_cons.2 ⟨fun z hz => ?_, ih⟩
      have hay : lt a y = true := by
        cases hl : lt a y with
        | true => rfl
        | false => exact absurd (ht a y hl (h1 y List.mem_cons_self)).symm e
      rcases List.mem_cons.1 hz with rfl | hz
      · exact hay
      · exact hs.trans _ _ _ hay ((List.pairwise_cons.1 ih).1 z hz)
/-- A list sorted, what stands twice left out. -/
def uniqG (lt : α → α → Bool) (l : List α) : List α := compactL (Go.Sort.sort lt l.toArray).toList
theorem sort_mem (hs : Go.Sort.SWO lt) {l : List α} {x : α} : x ∈ (Go.Sort.sort lt l.toArray).toList ↔ x ∈ l := by
  obtain ⟨⟨h1, _, h2⟩, _⟩ := Go.Sort.sort_sorts lt hs l.toArray
  have e1 : (l.toArray.extract 0 l.toArray.size).toList = l := by simp
  have e2 : ((Go.Sort.sort lt l.toArray).extract 0 l.toArray.size) = Go.Sort.sort lt l.toArray := by rw [← h1]; simp
  rw [e1, e2] at h2
  exact h2.mem_iff
theorem uniqG_mem (hs : Go.Sort.SWO lt) {l : List α} {x : α} : x ∈ uniqG lt l ↔ x ∈ l := by
  unfold uniqG
  rw [compactL_mem, sort_mem hs]
theorem uniqG_sorted (hs : Go.Sort.SWO lt) (ht : ∀ x y, lt x y = false → lt y x = false → x = y) (l : List α) : (uniqG lt l).Pairwise (fun x y => lt x y = true) := by
  obtain ⟨⟨h1, _, _⟩, h3⟩ := Go.Sort.sort_sorts lt hs l.toArray
  have hp : (Go.Sort.sort lt l.toArray).toList.Pairwise (fun x y => lt y x = false) := by
    rw [List.pairwise_iff_getElem]
    intro i j hi hj hij
    have hi' : i < (Go.Sort.sort lt l.toArray).size := by simpa using hi
    have hj' : j < (Go.Sort.sort lt l.toArray).size := by simpa using hj
    have := h3 i j (by omega) hij (by omega)
    simpa [hi', hj'] using this
  unfold uniqG
  generalize (Go.Sort.sort lt l.toArray).toList = m at hp
  cases m with
  | nil => simp [compactL]
  | cons a r => exact keepNew_sorted hs ht hp
theorem keepNew_len : ∀ (l : List α) (a : α), (keepNew a l).length ≤ l.length
  | [], a => Nat.le_refl _
  | y :: r, a => by
    unfold keepNew
    split
    · have := keepNew_len r y; simp; omega
    · have := keepNew_len r y; simp; omega
theorem uniqG_len (hs : Go.Sort.SWO lt) (l : List α) : (uniqG lt l).length ≤ l.length := by
  have h : (Go.Sort.sort lt l.toArray).toList.length = l.length := by
    have := (Go.Sort.sort_sorts lt hs l.toArray).1.1
    simpa using this
  unfold uniqG
  generalize (Go.Sort.sort lt l.toArray).toList = m at h
  cases m with
  | nil => simp [compactL]
  | cons a r => simp only [compactL, List.length_cons] at h ⊢; have := keepNew_len r a; omega
/-- Two such lists with the same elements are one. -/
theorem sorted_ext (hi : ∀ x, lt x x = false) (htr : ∀ x y z, lt x y = true → lt y z = true → lt x z = true) : ∀ {l m : List α}, l.Pairwise (fun x y => lt x y = true) → m.Pairwise (fun x y => lt x y = true) → (∀ x, x ∈ l ↔ x ∈ m) → l = m
  | [], [], _, _, _ => rfl
  | [], y :: m, _, _, h => absurd ((h y).2 List.mem_cons_self) (by simp)
  | x :: l, [], _, _, h => absurd ((h x).1 List.mem_cons_self) (by simp)
  | x :: l, y :: m, hl, hm, h => by
    obtain ⟨l1, l2⟩ := List.pairwise_cons.1 hl
    obtain ⟨m1, m2⟩ := List.pairwise_cons.1 hm
    have e : x = y := by
      rcases List.mem_cons.1 ((h x).1 List.mem_cons_self) with e | hx
      · exact e
      · rcases List.mem_cons.1 ((h y).2 List.mem_cons_self) with e | hy
        · exact e.symm
        · have := htr _ _ _ (m1 x hx) (l1 y hy)
          rw [hi] at this; cases this
    subst e
    congr 1
    refine sorted_ext hi htr l2 m2 fun z => ⟨fun hz => ?_, fun hz => ?_⟩
    · rcases List.mem_cons.1 ((h z).1 (List.mem_cons_of_mem _ hz)) with rfl | hz'
      · have := l1 z hz
        rw [hi] at this; cases this
      · exact hz'
    · rcases List.mem_cons.1 ((h z).2 (List.mem_cons_of_mem _ hz)) with rfl | hz'
      · have := m1 z hz
        rw [hi] at this; cases this
      · exact hz'
end
theorem uniqI_eq (l : List Int) : uniqI l = uniqG ltI l := rfl
theorem uniqV_eq (l : List ByteArray) : SV.uniqV l = uniqG SV.ltV l := rfl
end Go.Ab.S

namespace Go.Ab.S
open Go Go.Ab
variable {E : Env} [EnvS E]

/-! ### Envelopes of some nodes -/
structure EnvLs (i : Nat) (es : List Evl) : Prop where
  len : es.length ≤ i
  g : ∀ e ∈ es, EnvG 5 e ∧ e.slot = 1 ∧ 0 ≤ e.node ∧ e.node < i
  asc : es.Pairwise fun a b => a.node < b.node
theorem EnvLs.nil : EnvLs 0 [] := ⟨Nat.le_refl _, (fun _ h => by cases h), List.Pairwise.nil⟩
theorem EnvLs.skip {i : Nat} {es : List Evl} (h : EnvLs i es) : EnvLs (i + 1) es := ⟨by have := h.len; omega, fun e he => by obtain ⟨h1, h2, h3, h4⟩ := h.g e he; exact ⟨h1, h2, h3, by omega⟩, h.asc⟩
theorem EnvLs.add {i : Nat} {es : List Evl} (h : EnvLs i es) {e : Evl} (g : EnvG 5 e) (hs : e.slot = 1) (hn : e.node = (i : Int)) : EnvLs (i + 1) (es ++ [e]) := by
  refine ⟨by have := h.len; simp; omega, fun e' he => ?_, ?_⟩
  · rcases List.mem_append.1 he with he | he
    · obtain ⟨h1, h2, h3, h4⟩ := h.g e' he; exact ⟨h1, h2, h3, by omega⟩
    · rw [List.mem_singleton.1 he]; exact ⟨g, hs, by omega, by omega⟩
  · refine List.pairwise_append.2 ⟨h.asc, by simp, fun a ha b hb => ?_⟩
    rw [List.mem_singleton.1 hb, hn]
    exact (h.g a ha).2.2.2
theorem EnvLs.thin {i : Nat} {es : List Evl} (h : EnvLs i es) : ∀ e ∈ es, e.t.thin := fun e he => (h.g e he).1.t.thin
theorem EnvLs.valid {i : Nat} {es : List Evl} (h : EnvLs i es) : ∀ e ∈ es, validE e = true := fun e he => (h.g e he).1.valid
/-! ### What the lists are -/
theorem lessV_lt (a b : ByteArray) : SV.ltV a b = lessV a b := by
  have h := less_eq ⟨0, a⟩ ⟨0, b⟩
  simp only [if_true] at h
  rw [← h]
  unfold SV.ltV less cmpB
  simp [cmpI, or2]
theorem valsN_sorted (l : List Evl) : (valsN l).Pairwise fun x y => lessV x y = true := by
  have := uniqG_sorted SV.swo_ltV (fun x y h1 h2 => by rw [lessV_lt] at h1 h2; exact lv_total h1 h2) ((l.filter validE).map fun e => e.b.v)
  simp only [lessV_lt] at this
  exact this
theorem valsN_mem {l : List Evl} {v : ByteArray} : v ∈ valsN l ↔ ∃ e ∈ l, validE e = true ∧ e.b.v = v := by
  unfold valsN
  rw [uniqV_eq, uniqG_mem SV.swo_ltV]
  simp only [List.mem_map, List.mem_filter]
  constructor
  · rintro ⟨e, ⟨h1, h2⟩, h3⟩; exact ⟨e, h1, h2, h3⟩
  · rintro ⟨e, h1, h2, h3⟩; exact ⟨e, ⟨h1, h2⟩, h3⟩
theorem bndsN_sorted (l : List Evl) (v : ByteArray) : (bndsN l v).Pairwise fun x y => x < y := by
  have := uniqG_sorted swo_ltI (fun x y h1 h2 => by simp [ltI] at h1 h2; omega) (bndL v l)
  simpa [ltI, bndsN, uniqI_eq] using this
theorem bndsN_mem {l : List Evl} {v : ByteArray} {n : Int} : n ∈ bndsN l v ↔ ∃ e ∈ l, bndP v e = true ∧ (n = e.lo ∨ n = e.hi) := by
  unfold bndsN
  rw [uniqI_eq, uniqG_mem swo_ltI]
  simp only [bndL, List.mem_flatMap, List.mem_filter, List.mem_cons, List.not_mem_nil, or_false]
  constructor
  · rintro ⟨e, ⟨h1, h2⟩, h3⟩; exact ⟨e, h1, h2, h3⟩
  · rintro ⟨e, h1, h2, h3⟩; exact ⟨e, ⟨h1, h2⟩, h3⟩
end Go.Ab.S

namespace Go.Ab.S
open Go Go.Ab
variable {E : Env} [EnvS E]
theorem exts_seven (H : Hp) : exts H 0 7 = [(.ext 0, hget H (.ext 0)), (.ext 1, hget H (.ext 1)), (.ext 2, hget H (.ext 2)), (.ext 3, hget H (.ext 3)), (.ext 4, hget H (.ext 4)), (.ext 5, hget H (.ext 5)), (.ext 6, hget H (.ext 6))] := _root_.id rfl
attribute [go_sem] exts_seven
/-- The greatest of the first k bounds that is confirmed, and the range downward. -/
def finK (P : Int → Int → Bool) (zs : List Int) : Nat → Option (Int × Int)
  | 0 => none
  | k + 1 => match zs[k]? with
    | none => none
    | some z => if P z z = true then some (downK (fun y => P y z) zs zs.length z, z) else finK P zs k
def finV : Option (Int × Int) → AV
  | none => .tup [.p (.int .i64 0), .p (.int .i64 0), .p (.bool false)]
  | some (a, b) => .tup [.p (.int .i64 a), .p (.int .i64 b), .p (.bool true)]
theorem bndsN_le (l : List Evl) (v : ByteArray) : (bndsN l v).length ≤ 2 * l.length := by
  have h1 := uniqG_len swo_ltI (bndL v l)
  have h2 := bndL_len v l
  unfold bndsN
  rw [uniqI_eq]; omega
def sureB (ms : List Mem) (node : Nat) (l : List Evl) (v : ByteArray) (y z : Int) : Bool := (great ms (who (accC · v y z) l)).testBit node
theorem lp38 (node : Nat) (hnode : node < 10) (ms : List Mem) (hc : ConfOk ms) (v : ByteArray) (l : List Evl) (hl : l.length < 4000) (hn : nodesOk l) (zs : List Int) (hz : zs.length ≤ most) :
    ∀ (ns : List Nm) (T : Tm), ns = [.loc 0 1 0, .loc 0 2 0, .loc 0 3 0, .loc 0 4 0, .loc 1 4 0, .loc 2 3 0, .loc 3 1 0] → T = [(7, .ptr (.loc 0 1 0) 0), (8, .ptr (.loc 0 2 0) 0), (9, .ptr (.loc 0 3 0) 0), (10, .ptr (.loc 0 4 0) 0), (11, .ptr (.loc 1 4 0) 0), (12, .ptr (.loc 2 3 0) 0), (23, .fn 203 [] [.ptr (.loc 3 1 0) 0])] →
      ∀ k, k ≤ zs.length → roundsX (roundY E ns T 24 25 s38_1 s38_4) (.loc 3 1 0) zs k [(.loc 0 1 0, some (.box [.p (.str v)])), (.loc 0 2 0, some (.box [.p (.int .i64 0)])), (.loc 0 3 0, some (.box [.p (.int .i64 0)])), (.loc 0 4 0, some (.box [.p (.bool false)])), (.loc 1 4 0, some (.box [.p (.int .i64 node), .p (.sl 4 (ms.map Mem.pv)), .p (.sl 15 (l.map Evl.pv))])), (.loc 2 3 0, some (.box [.p (.sl 1 (zs.map (.int .i64)))])), (.loc 3 1 0, some (.box [.p (.sl 1 (zs.map (.int .i64)))]))] =
        match finK (sureB ms node l v) zs k with
        | none => some (.nrm, [(.loc 0 1 0, some (.box [.p (.str v)])), (.loc 0 2 0, some (.box [.p (.int .i64 0)])), (.loc 0 3 0, some (.box [.p (.int .i64 0)])), (.loc 0 4 0, some (.box [.p (.bool false)])), (.loc 1 4 0, some (.box [.p (.int .i64 node), .p (.sl 4 (ms.map Mem.pv)), .p (.sl 15 (l.map Evl.pv))])), (.loc 2 3 0, some (.box [.p (.sl 1 (zs.map (.int .i64)))])), (.loc 3 1 0, some (.box [.p (.sl 1 (zs.map (.int .i64)))]))])
        | some (a, b) => some (.ret, [(.loc 0 1 0, some (.box [.p (.str v)])), (.loc 0 2 0, some (.box [.p (.int .i64 a)])), (.loc 0 3 0, some (.box [.p (.int .i64 b)])), (.loc 0 4 0, some (.box [.p (.bool true)])), (.loc 1 4 0, some (.box [.p (.int .i64 node), .p (.sl 4 (ms.map Mem.pv)), .p (.sl 15 (l.map Evl.pv))])), (.loc 2 3 0, some (.box [.p (.sl 1 (zs.map (.int .i64)))])), (.loc 3 1 0, some (.box [.p (.sl 1 (zs.map (.int .i64)))]))]) := by
  intro ns T hns hT k
  induction k with
  | zero => intro _; rfl
  | succ k ih =>
    intro hk
    obtain ⟨z, hzk⟩ : ∃ z, zs[k]? = some z := ⟨zs[k]'(by omega), List.getElem?_eq_getElem (by omega)⟩
    have e1 := e120 (E := E) node hnode ms hc v z z l hl hn
    have e2 := e124_127 (E := E) node hnode ms hc v z z l hl hn zs hz
    unfold seenPv at e1
    rw [finK, hzk]
    cases h4 : sureB ms node l v z z with
    | true =>
      simp only [h4, if_true]
      rw [roundsX_ret hzk (H' := [(.loc 0 1 0, some (.box [.p (.str v)])), (.loc 0 2 0, some (.box [.p (.int .i64 (downK (fun y => sureB ms node l v y z) zs zs.length z))])), (.loc 0 3 0, some (.box [.p (.int .i64 z)])), (.loc 0 4 0, some (.box [.p (.bool true)])), (.loc 1 4 0, some (.box [.p (.int .i64 node), .p (.sl 4 (ms.map Mem.pv)), .p (.sl 15 (l.map Evl.pv))])), (.loc 2 3 0, some (.box [.p (.sl 1 (zs.map (.int .i64)))])), (.loc 3 1 0, some (.box [.p (.sl 1 (zs.map (.int .i64)))]))]) ?_ (capAt_eq _ _ zs rfl)]
      rw [roundY_eq]
      subst hns hT
      unfold sureB at h4 ⊢
      rw [h4] at e1
      simp -implicitDefEqProofs only [go_sem, s38_1, s38_2, s38_3, s38_4, e1, e2]
    | false =>
      simp only [h4, Bool.false_eq_true, if_false]
      rw [roundsX_step hzk (H' := [(.loc 0 1 0, some (.box [.p (.str v)])), (.loc 0 2 0, some (.box [.p (.int .i64 0)])), (.loc 0 3 0, some (.box [.p (.int .i64 0)])), (.loc 0 4 0, some (.box [.p (.bool false)])), (.loc 1 4 0, some (.box [.p (.int .i64 node), .p (.sl 4 (ms.map Mem.pv)), .p (.sl 15 (l.map Evl.pv))])), (.loc 2 3 0, some (.box [.p (.sl 1 (zs.map (.int .i64)))])), (.loc 3 1 0, some (.box [.p (.sl 1 (zs.map (.int .i64)))]))]) ?_ (capAt_eq _ _ zs rfl)]
      · exact ih (by omega)
      · rw [roundY_eq]
        subst hns hT
        unfold sureB at h4
        rw [h4] at e1
        simp -implicitDefEqProofs only [go_sem, s38_1, s38_2, s38_3, s38_4, e1]
theorem e38 (node : Nat) (hnode : node < 10) (t : Tr) (l : List Evl) (v : ByteArray) (ht : t.thin) (hl : l.length ≤ 16) (hth : ∀ e ∈ l, e.t.thin) :
    callW E 38 [.p (.int .i64 node), .p t.pv, .p (.sl 15 (l.map Evl.pv)), .p (.str v)] [] = some ⟨finV (finK (confirmC node t l v) (bndsN l v) (bndsN l v).length), [], []⟩ := by
  have e1 := e119 (E := E) node hnode t l ht (by omega) hth
  have e2 := e25 (E := E) l v hl hth
  have e3 := e126 (E := E) (bndsN l v)
  have hb := bndsN_le l v
  have hz : (bndsN l v).length ≤ most := by unfold most; omega
  have hcap : capOf 203 [(.loc 0 1 0, some (.box [.p (.str v)])), (.loc 0 2 0, some (.box [.p (.int .i64 0)])), (.loc 0 3 0, some (.box [.p (.int .i64 0)])), (.loc 0 4 0, some (.box [.p (.bool false)])), (.loc 1 4 0, some (.box [.p (.int .i64 node), .p (.sl 4 ((viewM node t l).map Mem.pv)), .p (.sl 15 ((l.filter validE).map Evl.pv))])), (.loc 2 3 0, some (.box [.p (.sl 1 ((bndsN l v).map (.int .i64)))])), (.loc 3 1 0, some (.box [.p (.sl 1 ((bndsN l v).map (.int .i64)))]))] (.fn 203 [] [.ptr (.loc 3 1 0) 0]) = some (.loc 3 1 0, bndsN l v) := capOf_eq 203 _ _ (bndsN l v) hz rfl
  have lp := lp38 (E := E) node hnode _ (viewM_ok node t l ht hth) v _ (Nat.lt_of_le_of_lt (List.length_filter_le validE l) (by omega)) (valid_nodes l) (bndsN l v) hz _ _ rfl rfl _ (Nat.le_refl _)
  rw [show sureB (viewM node t l) node (l.filter validE) v = confirmC node t l v from rfl] at lp
  unfold Tr.pv seenPv at *
  rw [callW_eq, EnvS.h 38 F38 rfl]
  cases hf : finK (confirmC node t l v) (bndsN l v) (bndsN l v).length with
  | none =>
    rw [hf] at lp
    simp -implicitDefEqProofs only [go_sem, F38, s38, s38_5, e1, e2, e3, hcap, lp, finV]
  | some ab =>
    obtain ⟨a, b⟩ := ab
    rw [hf] at lp
    simp -implicitDefEqProofs only [go_sem, F38, s38, s38_5, e1, e2, e3, hcap, lp, finV]
end Go.Ab.S

namespace Go.Ab.S
open Go Go.Ab
variable {E : Env} [EnvS E]

/-- Envelopes with which some nodes accept a ballot. -/
structure Acc5 (set : Nat) (b : Bal) (i : Nat) (l : List Evl) : Prop where
  thin : ∀ e ∈ l, e.t.thin
  len : l.length ≤ i + 1
  inn : ∀ j, 1 ≤ j → j < i → set.testBit j = true → ∃ e ∈ l, validE e = true ∧ accP e b = true ∧ e.node = (j : Int)
  out : ∀ e ∈ l, accP e b = true → ∃ j : Nat, set.testBit j = true ∧ e.node = (j : Int)
def accE (i : Nat) (t : Tr) (b : Bal) : Evl := ⟨i, 1, 1, t, 1, b, b, Bal.zero, 0, 0⟩
theorem accE_valid {i : Nat} {t : Tr} {b : Bal} (hi : i < 10) (ht : errT t = 0) (hb : finite b = true) : validE (accE i t b) = true := by
  have h := hb
  simp only [finite, Bool.and_eq_true, decide_eq_true_eq] at h
  obtain ⟨h1, h2⟩ := h
  have h3 : 1 ≤ b.c := by
    simp only [validB, Bool.and_eq_true, Bool.or_eq_true, decide_eq_true_eq] at h1; omega
  have hz : zeroB Bal.zero = true := by decide
  simp [accE, validE, headE, ht, prepE, hb, optional, h1, hz, primeE]
  exact ⟨decide_eq_true (by show (i : Int) < 10; omega), decide_eq_true (by show (0 : Int) ≤ b.c; omega)⟩
theorem accE_acc {i : Nat} {t : Tr} {b : Bal} (hb : zeroB b = false) : accP (accE i t b) b = true := by
  simp [accE, accP, hb, prepares, covers_self hb]
theorem Acc5.step {set : Nat} {b : Bal} {i : Nat} {l : List Evl} (h : Acc5 set b i l) {t : Tr} (ht : t.thin) (hok : errT t = 0) (hb : finite b = true) (hz : zeroB b = false) (hi : i < 10) (hs : set.testBit i = true) : Acc5 set b (i + 1) (l ++ [accE i t b]) where
  thin := by
    intro e he
    rcases List.mem_append.1 he with he | he
    · exact h.thin e he
    · rw [List.mem_singleton.1 he]; exact ht
  len := by have := h.len; simp; omega
  inn := by
    intro j h1 h2 h3
    rcases Nat.lt_or_eq_of_le (Nat.le_of_lt_succ h2) with h4 | h4
    · obtain ⟨e, g1, g2⟩ := h.inn j h1 h4 h3
      exact ⟨e, List.mem_append_left _ g1, g2⟩
    · subst h4
      exact ⟨_, List.mem_append_right _ (List.mem_singleton.2 rfl), accE_valid hi hok hb, accE_acc hz, rfl⟩
  out := by
    intro e he ha
    rcases List.mem_append.1 he with he | he
    · exact h.out e he ha
    · rw [List.mem_singleton.1 he]; exact ⟨i, hs, rfl⟩
theorem Acc5.skip {set : Nat} {b : Bal} {i : Nat} {l : List Evl} (h : Acc5 set b i l) (hs : set.testBit i = false) : Acc5 set b (i + 1) l where
  thin := h.thin
  len := by have := h.len; omega
  inn := by
    intro j h1 h2 h3
    refine h.inn j h1 ?_ h3
    rcases Nat.lt_or_eq_of_le (Nat.le_of_lt_succ h2) with h4 | h4
    · exact h4
    · subst h4; rw [hs] at h3; cases h3
  out := h.out
theorem Acc5.who {set : Nat} {b : Bal} {l : List Evl} (h : Acc5 set b 5 l) (h0 : set.testBit 0 = false) (h5 : set < 32) : who (accP · b) (l.filter validE) = set := by
  refine Nat.eq_of_testBit_eq fun k => ?_
  rw [who_bit _ _ _ (valid_nodes l)]
  cases hk : set.testBit k with
  | true =>
    rw [List.any_eq_true]
    have h1 : 1 ≤ k := by
      rcases Nat.eq_zero_or_pos k with rfl | h1
      · rw [h0] at hk; cases hk
      · exact h1
    have h2 : k < 5 := by
      rcases Nat.lt_or_ge k 5 with h2 | h2
      · exact h2
      · have := Nat.testBit_lt_two_pow (Nat.lt_of_lt_of_le h5 (Nat.pow_le_pow_right (n := 2) (by decide) h2))
        rw [this] at hk; cases hk
    obtain ⟨e, g1, g2, g3, g4⟩ := h.inn k h1 h2 hk
    exact ⟨e, List.mem_filter.2 ⟨g1, g2⟩, by simp [g3, g4]⟩
  | false =>
    rw [List.any_eq_false]
    intro e he
    obtain ⟨g1, g2⟩ := List.mem_filter.1 he
    simp only [Bool.and_eq_true, decide_eq_true_eq, not_and]
    intro ha hn
    obtain ⟨j, q1, q2⟩ := h.out e g1 ha
    have : j = k := by omega
    subst this
    rw [hk] at q1; cases q1
end Go.Ab.S

namespace Go.Ab.S
open Go Go.Ab

/-! ### Greatest quorums, plain -/
theorem elim_end (ms : List Mem) : ∀ (f s : Nat), s < f → subM ms s → unhL ms (elim ms f s).2 (nodes (elim ms f s).2) = none ∧ subM ms (elim ms f s).2 ∧ ∀ j, (elim ms f s).2.testBit j = true → s.testBit j = true
  | 0, s, h, _ => by omega
  | f + 1, s, hf, hs => by
    cases hu : unhL ms s (nodes s) with
    | none =>
      rw [show elim ms (f + 1) s = ([], s) by rw [elim, hu]]
      exact ⟨hu, hs, fun _ h => h⟩
    | some k =>
      rw [show elim ms (f + 1) s = (k :: (elim ms f (s ^^^ 2 ^ k)).1, (elim ms f (s ^^^ 2 ^ k)).2) by rw [elim, hu]]
      obtain ⟨h1, h2⟩ := unhL_some hu
      obtain ⟨h3, h4⟩ := (nodes_mem s k).1 h1
      have hlt := xor_lt hs.1 h3 h4
      obtain ⟨r1, r2, r3⟩ := elim_end ms f _ (by omega) (subM_xor hs h3 h4)
      refine ⟨r1, r2, fun j hj => ?_⟩
      have := r3 j hj
      rw [xor_bit h4] at this
      simp only [Bool.and_eq_true] at this
      exact this.1
/-- A quorum: its members are content with it. -/
def quorum (ms : List Mem) (q : Nat) : Prop := ∀ k, q.testBit k = true → ∃ m, ms[k]? = some m ∧ m.d = true ∧ satT q m.t = true
theorem bit10 {s k : Nat} (hs : s < 1024) (h : s.testBit k = true) : k < 10 := by
  rcases Nat.lt_or_ge k 10 with h2 | h2
  · exact h2
  · have := Nat.testBit_lt_two_pow (Nat.lt_of_lt_of_le hs (Nat.pow_le_pow_right (n := 2) (by decide) h2))
    rw [this] at h; cases h
theorem great_sub (ms : List Mem) (s : Nat) : (∀ j, (great ms s).testBit j = true → s.testBit j = true ∧ ∃ m, ms[j]? = some m ∧ m.d = true) := by
  intro j hj
  have hsub := subM_decl ms s
  obtain ⟨_, _, h⟩ := elim_end ms 1024 _ hsub.1 hsub
  have h2 := h j hj
  rw [Nat.testBit_and, decl_bit] at h2
  simp only [Bool.and_eq_true, decide_eq_true_eq, beq_iff_eq] at h2
  refine ⟨h2.1, ?_⟩
  cases hm : ms[j]? with
  | none => rw [hm] at h2; simp at h2
  | some m => rw [hm] at h2; exact ⟨m, rfl, by simpa using h2.2.2⟩
theorem great_quorum (ms : List Mem) (s : Nat) : quorum ms (great ms s) := by
  intro k hk
  have hsub := subM_decl ms s
  obtain ⟨h1, h2, _⟩ := elim_end ms 1024 _ hsub.1 hsub
  obtain ⟨_, m, hm, hd⟩ := great_sub ms s k hk
  refine ⟨m, hm, hd, ?_⟩
  have h3 := unhL_none h1 k ((nodes_mem _ k).2 ⟨bit10 (great_lt ms s) hk, hk⟩)
  simp only [contM, hm] at h3
  exact h3
theorem great_fix (ms : List Mem) (q : Nat) (hq : q < 1024) (h : quorum ms q) : great ms q = q := by
  have hd : q &&& decl ms = q := by
    refine Nat.eq_of_testBit_eq fun k => ?_
    rw [Nat.testBit_and]
    cases hk : q.testBit k with
    | false => simp
    | true =>
      obtain ⟨m, h1, h2, _⟩ := h k hk
      rw [decl_bit, h1]
      simp [h2, bit10 hq hk]
  have hu : unhL ms q (nodes q) = none := by
    cases hu : unhL ms q (nodes q) with
    | none => rfl
    | some k =>
      obtain ⟨h1, h2⟩ := unhL_some hu
      obtain ⟨m, g1, _, g3⟩ := h k ((nodes_mem q k).1 h1).2
      simp only [contM, g1, g3] at h2
      cases h2
  rw [great, elimS, hd, elim, hu]
theorem great_zero (ms : List Mem) : great ms 0 = 0 := great_fix ms 0 (by decide) (fun k hk => by simp at hk)
/-- A set that is a quorum in part of another lies in the greatest one. -/
theorem elim_keep (ms : List Mem) (q : Nat) (hmono : ∀ s : Nat, (∀ j, q.testBit j = true → s.testBit j = true) → ∀ k, q.testBit k = true → contM ms s k = true) : ∀ (f s : Nat), subM ms s → (∀ j, q.testBit j = true → s.testBit j = true) → ∀ j, q.testBit j = true → (elim ms f s).2.testBit j = true
  | 0, s, _, h, j, hj => h j hj
  | f + 1, s, hs, h, j, hj => by
    rw [elim]
    cases hu : unhL ms s (nodes s) with
    | none => exact h j hj
    | some k =>
      obtain ⟨h1, h2⟩ := unhL_some hu
      obtain ⟨h3, h4⟩ := (nodes_mem s k).1 h1
      refine elim_keep ms q hmono f _ (subM_xor hs h3 h4) (fun i hi => ?_) j hj
      rw [xor_bit h4, h i hi]
      simp only [Bool.true_and, Bool.not_eq_true', decide_eq_false_iff_not]
      rintro rfl
      rw [hmono s h i hi] at h2
      cases h2

/-! ### What a node sees of nodes that say the truth -/
theorem view_true (T : Nat → Tr) : ∀ (l : List Evl) (ms : List Mem), (∀ e ∈ l, validE e = true ∧ e.t = T e.node.toNat) → ms.length = 10 → (∀ j : Nat, j < 10 → ms[j]? = some memZ ∨ ms[j]? = some ⟨true, T j⟩) →
    ∀ j : Nat, j < 10 → (ms[j]? = some ⟨true, T j⟩ ∨ ∃ e ∈ l, e.node = (j : Int)) → (l.foldl viewS ms)[j]? = some ⟨true, T j⟩
  | [], ms, _, _, _, j, _, h => by
    rcases h with h | ⟨e, he, _⟩
    · exact h
    · cases he
  | e :: r, ms, hv, hl, hI, j, hj, h => by
    obtain ⟨v1, v2⟩ := hv e List.mem_cons_self
    obtain ⟨n1, n2⟩ := validE_node v1
    have hI' : ∀ i : Nat, i < 10 → (viewS ms e)[i]? = some memZ ∨ (viewS ms e)[i]? = some ⟨true, T i⟩ := by
      intro i hi
      unfold viewS
      split
      · rw [List.getElem?_set]
        split
        · rename_i h1 h2
          right
          rw [if_pos (by omega), v2, h2]
        · exact hI i hi
      · exact hI i hi
    refine view_true T r (viewS ms e) (fun x hx => hv x (List.mem_cons_of_mem _ hx)) (by rw [viewS_len]; exact hl) hI' j hj ?_
    have keep : ms[j]? = some ⟨true, T j⟩ → (viewS ms e)[j]? = some ⟨true, T j⟩ := by
      intro h0
      unfold viewS
      split
      · rename_i h1
        rw [List.getElem?_set]
        split
        · rename_i h2
          rw [if_pos (by omega), v2, h2]
        · exact h0
      · exact h0
    rcases h with h | ⟨x, hx, hn⟩
    · exact .inl (keep h)
    · rcases List.mem_cons.1 hx with rfl | hx
      · left
        have hj' : x.node.toNat = j := by omega
        rcases hI j hj with h0 | h0
        · unfold viewS
          rw [if_pos ⟨v1, by rw [hj', h0]; rfl⟩, hj', List.getElem?_set, if_pos rfl, if_pos (by omega), v2, hj']
        · exact keep h0
      · exact .inr ⟨x, hx, hn⟩
theorem viewM_true (T : Nat → Tr) (i : Nat) (hi : i < 10) (l : List Evl) (h : ∀ e ∈ l, validE e = true ∧ e.t = T e.node.toNat) (j : Nat) (hj : j < 10) (hin : j = i ∨ ∃ e ∈ l, e.node = (j : Int)) :
    (viewM i (T i) l)[j]? = some ⟨true, T j⟩ := by
  unfold viewM
  rw [if_neg (by omega)]
  refine view_true T l _ h (by simp) ?_ j hj ?_
  · intro k hk
    rw [List.getElem?_set]
    split
    · rename_i h1
      right; rw [if_pos (by simp; omega)]
      have : k = i := by omega
      rw [this]
    · left; rw [List.getElem?_replicate, if_pos hk]
  · rcases hin with rfl | h
    · left
      rw [List.getElem?_set, if_pos (by omega), if_pos (by simp; omega)]
    · exact .inr h
end Go.Ab.S

namespace Go.Ab.S
open Go Go.Ab
variable {E : Env} [EnvS E]

/-! ### Larger sets -/
def subN (s s' : Nat) : Prop := ∀ k, s.testBit k = true → s'.testBit k = true
theorem hasN_mono {s s' : Nat} (h : subN s s') (k : Int) (hk : hasN s k = true) : hasN s' k = true := by
  simp only [hasN, Bool.and_eq_true] at hk ⊢
  exact ⟨hk.1, h _ hk.2⟩
theorem cnt_mono {s s' : Nat} (h : subN s s') : ∀ l : List Int, cnt s l ≤ cnt s' l
  | [] => Nat.le_refl _
  | k :: r => by
    simp only [cnt]
    have ih := cnt_mono h r
    cases h1 : hasN s k with
    | true => rw [hasN_mono h k h1]; simp only [if_true]; omega
    | false => simp only [Bool.false_eq_true, if_false]; omega
theorem satI_mono {s s' : Nat} (h : subN s s') (t : In) (ht : satI s t = true) : satI s' t = true := by
  simp only [satI, decide_eq_true_eq] at ht ⊢
  have := cnt_mono h t.ns
  omega
theorem cntI_mono {s s' : Nat} (h : subN s s') : ∀ l : List In, cntI s l ≤ cntI s' l
  | [] => Nat.le_refl _
  | k :: r => by
    simp only [cntI]
    have ih := cntI_mono h r
    cases h1 : satI s k with
    | true => rw [satI_mono h k h1]; simp only [if_true]; omega
    | false => simp only [Bool.false_eq_true, if_false]; omega
theorem satT_mono {s s' : Nat} (h : subN s s') (t : Tr) (ht : satT s t = true) : satT s' t = true := by
  simp only [satT, decide_eq_true_eq] at ht ⊢
  have h1 := cnt_mono h t.ns
  have h2 := cntI_mono h t.is
  omega
theorem great_mono (ms : List Mem) {s s' : Nat} (h : subN s s') : subN (great ms s) (great ms s') := by
  intro j hj
  have hq := great_quorum ms s
  have hsub := subM_decl ms s'
  refine elim_keep ms (great ms s) (fun u hu k hk => ?_) 1024 _ hsub (fun i hi => ?_) j hj
  · obtain ⟨m, h1, _, h3⟩ := hq k hk
    simp only [contM, h1]
    exact satT_mono hu _ h3
  · obtain ⟨h1, m, h2, h3⟩ := great_sub ms s i hi
    rw [Nat.testBit_and, h i h1, decl_bit, h2]
    simp [h3, bit10 (great_lt ms s) hi]
/-! ### The others say it, too -/
end Go.Ab.S

namespace Go.Ab.S
open Go Go.Ab
variable {E : Env} [EnvS E]

/-! ### First -/
theorem e121 (v : ByteArray) (n : Int) (p q : Bal) : callW E 121 [.p (.str v), .p (.int .i64 n), .ptr (.ext 0) 0, .ptr (.ext 1) 0] [.box [.p (.int .i64 p.c), .p (.str p.v)], .box [.p (.int .i64 q.c), .p (.str q.v)]] = some ⟨.p (.bool (aborts p ⟨n, v⟩ || aborts q ⟨n, v⟩)), [.box [.p (.int .i64 p.c), .p (.str p.v)], .box [.p (.int .i64 q.c), .p (.str q.v)]], []⟩ := by
  have e1 := e122 (E := E) p ⟨n, v⟩
  have e2 := e122 (E := E) q ⟨n, v⟩
  dsimp only at e1 e2
  rw [callW_eq, EnvS.h 121 F121 rfl]
  cases h : aborts p ⟨n, v⟩ with
  | true =>
    rw [h] at e1
    simp -implicitDefEqProofs only [go_sem, F121, s121, e1, Bool.true_or]
  | false =>
    rw [h] at e1
    simp -implicitDefEqProofs only [go_sem, F121, s121, e1, e2, Bool.false_or]
/-- The ballot aborts neither of two, and is accepted. -/
def freeB (p q : Bal) (v : ByteArray) (n : Int) : Bool := !(aborts p ⟨n, v⟩ || aborts q ⟨n, v⟩)
def readyB (ms : List Mem) (node : Nat) (f : List Evl) (v : ByteArray) (y z : Int) : Bool := accW ms node (who (bothC v y z) f) (who (accC · v y z) f)
theorem e125 (node : Nat) (hnode : node < 10) (ms : List Mem) (hc : ConfOk ms) (b p q : Bal) (z : Int) (f : List Evl) (hl : f.length < 4000) (hn : nodesOk f) :
    callW E 125 [.p (.int .i64 z), .ptr (.ext 0) 0, .ptr (.ext 1) 0, .ptr (.ext 2) 0] [.box [.fn 121 [] [.ptr (.ext 3) 0, .ptr (.ext 4) 0]], .box [.p (.int .i64 b.c), .p (.str b.v)], .box [.p (.int .i64 node), .p (.sl 4 (ms.map Mem.pv)), .p (.sl 15 (f.map Evl.pv))], .box [.p (.int .i64 p.c), .p (.str p.v)], .box [.p (.int .i64 q.c), .p (.str q.v)]] =
    some ⟨.p (.bool (freeB p q b.v z && readyB ms node f b.v z b.c)), [.box [.fn 121 [] [.ptr (.ext 3) 0, .ptr (.ext 4) 0]], .box [.p (.int .i64 b.c), .p (.str b.v)], .box [.p (.int .i64 node), .p (.sl 4 (ms.map Mem.pv)), .p (.sl 15 (f.map Evl.pv))], .box [.p (.int .i64 p.c), .p (.str p.v)], .box [.p (.int .i64 q.c), .p (.str q.v)]], []⟩ := by
  have e1 := e121 (E := E) b.v z p q
  have e2 := e118 (E := E) node hnode ms hc b.v z b.c f hl hn
  unfold seenPv at e2
  unfold freeB readyB
  rw [callW_eq, EnvS.h 125 F125 rfl]
  cases h : (aborts p ⟨z, b.v⟩ || aborts q ⟨z, b.v⟩) with
  | true =>
    rw [h] at e1
    simp -implicitDefEqProofs only [go_sem, F125, s125, e1, Bool.not_true, Bool.false_and]
  | false =>
    rw [h] at e1
    simp -implicitDefEqProofs only [go_sem, F125, s125, e1, e2, Bool.not_false, Bool.true_and]
theorem e124_125 (node : Nat) (hnode : node < 10) (ms : List Mem) (hc : ConfOk ms) (b p q : Bal) (x : Int) (f : List Evl) (hl : f.length < 4000) (hn : nodesOk f) (zs : List Int) (hz : zs.length ≤ most) :
    callW E 124 [.p (.sl 1 (zs.map (.int .i64))), .p (.int .i64 x), .fn 125 [] [.ptr (.ext 0) 0, .ptr (.ext 1) 0, .ptr (.ext 2) 0]] [.box [.fn 121 [] [.ptr (.ext 3) 0, .ptr (.ext 4) 0]], .box [.p (.int .i64 b.c), .p (.str b.v)], .box [.p (.int .i64 node), .p (.sl 4 (ms.map Mem.pv)), .p (.sl 15 (f.map Evl.pv))], .box [.p (.int .i64 p.c), .p (.str p.v)], .box [.p (.int .i64 q.c), .p (.str q.v)]] = some ⟨.p (.int .i64 (downK (fun z => freeB p q b.v z && readyB ms node f b.v z b.c) zs zs.length x)), [.box [.fn 121 [] [.ptr (.ext 3) 0, .ptr (.ext 4) 0]], .box [.p (.int .i64 b.c), .p (.str b.v)], .box [.p (.int .i64 node), .p (.sl 4 (ms.map Mem.pv)), .p (.sl 15 (f.map Evl.pv))], .box [.p (.int .i64 p.c), .p (.str p.v)], .box [.p (.int .i64 q.c), .p (.str q.v)]], []⟩ := by
  have e0 := e126 (E := E) zs
  have hcap : ∀ x : Int, capOf 203 [(.ext 0, some (.box [.fn 121 [] [.ptr (.ext 3) 0, .ptr (.ext 4) 0]])), (.ext 1, some (.box [.p (.int .i64 b.c), .p (.str b.v)])), (.ext 2, some (.box [.p (.int .i64 node), .p (.sl 4 (ms.map Mem.pv)), .p (.sl 15 (f.map Evl.pv))])), (.ext 3, some (.box [.p (.int .i64 p.c), .p (.str p.v)])), (.ext 4, some (.box [.p (.int .i64 q.c), .p (.str q.v)])), (.loc 0 0 0, some (.box [.p (.int .i64 x)])), (.loc 0 1 0, some (.box [.fn 125 [] [.ptr (.ext 0) 0, .ptr (.ext 1) 0, .ptr (.ext 2) 0]])), (.loc 1 1 0, some (.box [.p (.sl 1 (zs.map (.int .i64)))]))] (.fn 203 [] [.ptr (.loc 1 1 0) 0]) = some (.loc 1 1 0, zs) := fun x => capOf_eq 203 _ _ zs hz rfl
  have lp : ∀ (ns : List Nm) (T : Tm), ns = [.loc 0 0 0, .loc 0 1 0, .loc 1 1 0, .ext 0, .ext 1, .ext 2, .ext 3, .ext 4] → T = [(4, .ptr (.loc 0 0 0) 0), (5, .ptr (.loc 0 1 0) 0), (10, .fn 203 [] [.ptr (.loc 1 1 0) 0])] →
      ∀ (k : Nat) (x : Int), k ≤ zs.length → ∃ e, (e = .nrm ∨ e = .ex 0) ∧ roundsX (roundY E ns T 11 12 s124_1 s124_3) (.loc 1 1 0) zs k [(.ext 0, some (.box [.fn 121 [] [.ptr (.ext 3) 0, .ptr (.ext 4) 0]])), (.ext 1, some (.box [.p (.int .i64 b.c), .p (.str b.v)])), (.ext 2, some (.box [.p (.int .i64 node), .p (.sl 4 (ms.map Mem.pv)), .p (.sl 15 (f.map Evl.pv))])), (.ext 3, some (.box [.p (.int .i64 p.c), .p (.str p.v)])), (.ext 4, some (.box [.p (.int .i64 q.c), .p (.str q.v)])), (.loc 0 0 0, some (.box [.p (.int .i64 x)])), (.loc 0 1 0, some (.box [.fn 125 [] [.ptr (.ext 0) 0, .ptr (.ext 1) 0, .ptr (.ext 2) 0]])), (.loc 1 1 0, some (.box [.p (.sl 1 (zs.map (.int .i64)))]))] = some (e, [(.ext 0, some (.box [.fn 121 [] [.ptr (.ext 3) 0, .ptr (.ext 4) 0]])), (.ext 1, some (.box [.p (.int .i64 b.c), .p (.str b.v)])), (.ext 2, some (.box [.p (.int .i64 node), .p (.sl 4 (ms.map Mem.pv)), .p (.sl 15 (f.map Evl.pv))])), (.ext 3, some (.box [.p (.int .i64 p.c), .p (.str p.v)])), (.ext 4, some (.box [.p (.int .i64 q.c), .p (.str q.v)])), (.loc 0 0 0, some (.box [.p (.int .i64 (downK (fun z => freeB p q b.v z && readyB ms node f b.v z b.c) zs k x))])), (.loc 0 1 0, some (.box [.fn 125 [] [.ptr (.ext 0) 0, .ptr (.ext 1) 0, .ptr (.ext 2) 0]])), (.loc 1 1 0, some (.box [.p (.sl 1 (zs.map (.int .i64)))]))]) := by
    intro ns T hns hT k
    induction k with
    | zero => intro x _; exact ⟨.nrm, .inl rfl, rfl⟩
    | succ k ih =>
      intro x hk
      obtain ⟨z, hzk⟩ : ∃ z, zs[k]? = some z := ⟨zs[k]'(by omega), List.getElem?_eq_getElem (by omega)⟩
      have e1 := e125 (E := E) node hnode ms hc b p q z f hl hn
      by_cases h1 : x ≤ z
      · obtain ⟨e, h2, h3⟩ := ih x (by omega)
        refine ⟨e, h2, ?_⟩
        rw [downK, hzk]
        simp only [h1, if_true]
        rw [roundsX_step hzk (H' := [(.ext 0, some (.box [.fn 121 [] [.ptr (.ext 3) 0, .ptr (.ext 4) 0]])), (.ext 1, some (.box [.p (.int .i64 b.c), .p (.str b.v)])), (.ext 2, some (.box [.p (.int .i64 node), .p (.sl 4 (ms.map Mem.pv)), .p (.sl 15 (f.map Evl.pv))])), (.ext 3, some (.box [.p (.int .i64 p.c), .p (.str p.v)])), (.ext 4, some (.box [.p (.int .i64 q.c), .p (.str q.v)])), (.loc 0 0 0, some (.box [.p (.int .i64 x)])), (.loc 0 1 0, some (.box [.fn 125 [] [.ptr (.ext 0) 0, .ptr (.ext 1) 0, .ptr (.ext 2) 0]])), (.loc 1 1 0, some (.box [.p (.sl 1 (zs.map (.int .i64)))]))]) ?_ (capAt_eq _ _ zs rfl)]
        · exact h3
        · rw [roundY_eq]
          subst hns hT
          simp -implicitDefEqProofs only [go_sem, s124_1, s124_2, s124_3, h1]
      · cases h4 : (fun z => freeB p q b.v z && readyB ms node f b.v z b.c) z with
        | true =>
          obtain ⟨e, h2, h3⟩ := ih z (by omega)
          refine ⟨e, h2, ?_⟩
          rw [downK, hzk]
          simp only [h1, if_false, h4, if_true]
          rw [roundsX_step hzk (H' := [(.ext 0, some (.box [.fn 121 [] [.ptr (.ext 3) 0, .ptr (.ext 4) 0]])), (.ext 1, some (.box [.p (.int .i64 b.c), .p (.str b.v)])), (.ext 2, some (.box [.p (.int .i64 node), .p (.sl 4 (ms.map Mem.pv)), .p (.sl 15 (f.map Evl.pv))])), (.ext 3, some (.box [.p (.int .i64 p.c), .p (.str p.v)])), (.ext 4, some (.box [.p (.int .i64 q.c), .p (.str q.v)])), (.loc 0 0 0, some (.box [.p (.int .i64 z)])), (.loc 0 1 0, some (.box [.fn 125 [] [.ptr (.ext 0) 0, .ptr (.ext 1) 0, .ptr (.ext 2) 0]])), (.loc 1 1 0, some (.box [.p (.sl 1 (zs.map (.int .i64)))]))]) ?_ (capAt_eq _ _ zs rfl)]
          · exact h3
          · rw [roundY_eq]
            subst hns hT
            dsimp only at h4
            rw [h4] at e1
            simp -implicitDefEqProofs only [go_sem, s124_1, s124_2, s124_3, h1, e1]
        | false =>
          refine ⟨.ex 0, .inr rfl, ?_⟩
          rw [downK, hzk]
          simp only [h1, if_false, h4, Bool.false_eq_true]
          rw [roundsX_ex (id := 0) hzk (H' := [(.ext 0, some (.box [.fn 121 [] [.ptr (.ext 3) 0, .ptr (.ext 4) 0]])), (.ext 1, some (.box [.p (.int .i64 b.c), .p (.str b.v)])), (.ext 2, some (.box [.p (.int .i64 node), .p (.sl 4 (ms.map Mem.pv)), .p (.sl 15 (f.map Evl.pv))])), (.ext 3, some (.box [.p (.int .i64 p.c), .p (.str p.v)])), (.ext 4, some (.box [.p (.int .i64 q.c), .p (.str q.v)])), (.loc 0 0 0, some (.box [.p (.int .i64 x)])), (.loc 0 1 0, some (.box [.fn 125 [] [.ptr (.ext 0) 0, .ptr (.ext 1) 0, .ptr (.ext 2) 0]])), (.loc 1 1 0, some (.box [.p (.sl 1 (zs.map (.int .i64)))]))]) ?_ (capAt_eq _ _ zs rfl)]
          · rw [roundY_eq]
            subst hns hT
            dsimp only at h4
            rw [h4] at e1
            simp -implicitDefEqProofs only [go_sem, s124_1, s124_2, s124_3, h1, e1]
  obtain ⟨e, h2, h3⟩ := lp _ _ rfl rfl zs.length x (Nat.le_refl _)
  rw [callW_eq, EnvS.h 124 F124 rfl]
  rcases h2 with rfl | rfl
  · simp -implicitDefEqProofs only [go_sem, F124, s124, s124_4, e0, hcap, h3]
  · simp -implicitDefEqProofs only [go_sem, F124, s124, s124_4, e0, hcap, h3]
def stepF (p q : Bal) (A : ByteArray → Int → Int → Bool) (v : ByteArray) (s : Bal × Bool) (n : Int) : Bal × Bool := if (less s.1 ⟨n, v⟩ && (freeB p q v n && A v n n)) = true then (⟨n, v⟩, true) else s
theorem loop37a (node : Nat) (hnode : node < 10) (ms : List Mem) (hc : ConfOk ms) (p q : Bal) (f : List Evl) (hl : f.length < 4000) (hn : nodesOk f) (l : List Evl) (vs : List ByteArray) (i : Int) (v : ByteArray) (zs : List Int) (hz : zs.length < 4000) (s : Bal × Bool) :
    loopW E 0 [2, 13, 14, 15, 16, 18, 28, 29, 30, 36, 37, 38] [.loc 0 1 0, .loc 0 2 0, .loc 1 4 0, .loc 2 1 0, .loc 3 0 0] (.trim [2, 13, 14, 15, 16, 18, 28, 29, 30, 36, 37, 38] [10, 11, 12, 13] [(2, [2, 13, 14, 15, 16, 28, 29, 30])] [.loc 0 1 0, .loc 0 2 0, .loc 1 4 0, .loc 2 1 0, .loc 3 0 0] s37_3) (some ⟨[(2, .p (.sl 15 (l.map Evl.pv))), (13, .p (.bool s.2)), (14, .ptr (.loc 1 4 0) 0), (15, .ptr (.loc 2 1 0) 0), (16, .ptr (.loc 3 0 0) 0), (18, .p (.str v)), (28, .p (.sl 1 (vs.map .str))), (29, .p (.int .i64 vs.length)), (30, .p (.int .i64 i)), (36, .p (.sl 1 (zs.map (.int .i64)))), (37, .p (.int .i64 zs.length)), (38, .p (.int .i64 0))], [(.loc 0 1 0, some (.box [.p (.int .i64 p.c), .p (.str p.v)])), (.loc 0 2 0, some (.box [.p (.int .i64 q.c), .p (.str q.v)])), (.loc 1 4 0, some (.box [.p (.int .i64 node), .p (.sl 4 (ms.map Mem.pv)), .p (.sl 15 (f.map Evl.pv))])), (.loc 2 1 0, some (.box [.fn 121 [] [.ptr (.loc 0 1 0) 0, .ptr (.loc 0 2 0) 0]])), (.loc 3 0 0, some (.box [.p (.int .i64 s.1.c), .p (.str s.1.v)]))]⟩) =
    some (.ex 2, ⟨[(2, .p (.sl 15 (l.map Evl.pv))), (13, .p (.bool (zs.foldl (stepF p q (readyB ms node f) v) s).2)), (14, .ptr (.loc 1 4 0) 0), (15, .ptr (.loc 2 1 0) 0), (16, .ptr (.loc 3 0 0) 0), (28, .p (.sl 1 (vs.map .str))), (29, .p (.int .i64 vs.length)), (30, .p (.int .i64 i))], [(.loc 0 1 0, some (.box [.p (.int .i64 p.c), .p (.str p.v)])), (.loc 0 2 0, some (.box [.p (.int .i64 q.c), .p (.str q.v)])), (.loc 1 4 0, some (.box [.p (.int .i64 node), .p (.sl 4 (ms.map Mem.pv)), .p (.sl 15 (f.map Evl.pv))])), (.loc 2 1 0, some (.box [.fn 121 [] [.ptr (.loc 0 1 0) 0, .ptr (.loc 0 2 0) 0]])), (.loc 3 0 0, some (.box [.p (.int .i64 (zs.foldl (stepF p q (readyB ms node f) v) s).1.c), .p (.str (zs.foldl (stepF p q (readyB ms node f) v) s).1.v)]))]⟩) := by
  have key := range_loop (loopW E 0 [2, 13, 14, 15, 16, 18, 28, 29, 30, 36, 37, 38] [.loc 0 1 0, .loc 0 2 0, .loc 1 4 0, .loc 2 1 0, .loc 3 0 0] (.trim [2, 13, 14, 15, 16, 18, 28, 29, 30, 36, 37, 38] [10, 11, 12, 13] [(2, [2, 13, 14, 15, 16, 28, 29, 30])] [.loc 0 1 0, .loc 0 2 0, .loc 1 4 0, .loc 2 1 0, .loc 3 0 0] s37_3)) zs
    (fun j (s : Bal × Bool) => ⟨[(2, .p (.sl 15 (l.map Evl.pv))), (13, .p (.bool s.2)), (14, .ptr (.loc 1 4 0) 0), (15, .ptr (.loc 2 1 0) 0), (16, .ptr (.loc 3 0 0) 0), (18, .p (.str v)), (28, .p (.sl 1 (vs.map .str))), (29, .p (.int .i64 vs.length)), (30, .p (.int .i64 i)), (36, .p (.sl 1 (zs.map (.int .i64)))), (37, .p (.int .i64 zs.length)), (38, .p (.int .i64 j))], [(.loc 0 1 0, some (.box [.p (.int .i64 p.c), .p (.str p.v)])), (.loc 0 2 0, some (.box [.p (.int .i64 q.c), .p (.str q.v)])), (.loc 1 4 0, some (.box [.p (.int .i64 node), .p (.sl 4 (ms.map Mem.pv)), .p (.sl 15 (f.map Evl.pv))])), (.loc 2 1 0, some (.box [.fn 121 [] [.ptr (.loc 0 1 0) 0, .ptr (.loc 0 2 0) 0]])), (.loc 3 0 0, some (.box [.p (.int .i64 s.1.c), .p (.str s.1.v)]))]⟩)
    (fun s r => some (.ex 2, ⟨[(2, .p (.sl 15 (l.map Evl.pv))), (13, .p (.bool (r.foldl (stepF p q (readyB ms node f) v) s).2)), (14, .ptr (.loc 1 4 0) 0), (15, .ptr (.loc 2 1 0) 0), (16, .ptr (.loc 3 0 0) 0), (28, .p (.sl 1 (vs.map .str))), (29, .p (.int .i64 vs.length)), (30, .p (.int .i64 i))], [(.loc 0 1 0, some (.box [.p (.int .i64 p.c), .p (.str p.v)])), (.loc 0 2 0, some (.box [.p (.int .i64 q.c), .p (.str q.v)])), (.loc 1 4 0, some (.box [.p (.int .i64 node), .p (.sl 4 (ms.map Mem.pv)), .p (.sl 15 (f.map Evl.pv))])), (.loc 2 1 0, some (.box [.fn 121 [] [.ptr (.loc 0 1 0) 0, .ptr (.loc 0 2 0) 0]])), (.loc 3 0 0, some (.box [.p (.int .i64 (r.foldl (stepF p q (readyB ms node f) v) s).1.c), .p (.str (r.foldl (stepF p q (readyB ms node f) v) s).1.v)]))]⟩))
  refine key ?_ ?_ s
  · intro s
    rw [loopW_some]
    generalize hK : loopW E 0 _ _ _ = K
    simp -implicitDefEqProofs only [go_sem, s37_3, s37_2, s37_1, List.foldl_nil]
  · intro j s n r hx hi ih
    obtain ⟨f1, f2, f3⟩ := rangeFacts j zs.length hi (by omega)
    have e1 := e123 (E := E) s.1 ⟨n, v⟩
    have e2 := e121 (E := E) v n p q
    have e3 := e118 (E := E) node hnode ms hc v n n f hl hn
    unfold seenPv at e3
    rw [List.foldl_cons]
    have ih' := ih (stepF p q (readyB ms node f) v s n)
    obtain ⟨b, ok⟩ := s
    unfold stepF freeB readyB at ih' ⊢
    dsimp only at e1 ih' ⊢
    rw [loopW_some]
    generalize hK : loopW E 0 _ _ _ = K at ih' ⊢
    cases h1 : less b ⟨n, v⟩ with
    | false =>
      rw [h1] at e1
      simp only [h1, Bool.false_and, Bool.false_eq_true, if_false] at ih' ⊢
      simp -implicitDefEqProofs only [go_sem, s37_3, s37_2, s37_1, hx, f1, f2, f3, e1] at ih' ⊢
      exact ih'
    | true =>
      rw [h1] at e1
      cases h2 : (aborts p ⟨n, v⟩ || aborts q ⟨n, v⟩) with
      | true =>
        rw [h2] at e2
        simp only [h1, h2, Bool.not_true, Bool.false_and, Bool.and_false, Bool.false_eq_true, if_false] at ih' ⊢
        simp -implicitDefEqProofs only [go_sem, s37_3, s37_2, s37_1, hx, f1, f2, f3, e1, e2] at ih' ⊢
        exact ih'
      | false =>
        rw [h2] at e2
        cases h3 : accW ms node (who (bothC v n n) f) (who (accC · v n n) f) with
        | false =>
          rw [h3] at e3
          simp only [h1, h2, h3, Bool.not_false, Bool.true_and, Bool.and_false, Bool.false_eq_true, if_false] at ih' ⊢
          simp -implicitDefEqProofs only [go_sem, s37_3, s37_2, s37_1, hx, f1, f2, f3, e1, e2, e3] at ih' ⊢
          exact ih'
        | true =>
          rw [h3] at e3
          simp only [h1, h2, h3, Bool.not_false, Bool.true_and, Bool.and_true, if_true] at ih' ⊢
          simp -implicitDefEqProofs only [go_sem, s37_3, s37_2, s37_1, hx, f1, f2, f3, e1, e2, e3] at ih' ⊢
          exact ih'
theorem loop37b (node : Nat) (hnode : node < 10) (ms : List Mem) (hc : ConfOk ms) (p q : Bal) (f : List Evl) (hl : f.length < 4000) (hn : nodesOk f) (l : List Evl) (hll : l.length ≤ 16) (hth : ∀ e ∈ l, e.t.thin) (vs : List ByteArray) (hvs : vs.length < 4000) (s : Bal × Bool) :
    loopW E 0 [2, 13, 14, 15, 16, 28, 29, 30] [.loc 0 1 0, .loc 0 2 0, .loc 1 4 0, .loc 2 1 0, .loc 3 0 0] (.trim [2, 13, 14, 15, 16, 28, 29, 30] [10, 11, 12, 13] [(0, [2, 13, 14, 15, 16])] [.loc 0 1 0, .loc 0 2 0, .loc 1 4 0, .loc 2 1 0, .loc 3 0 0] s37_6) (some ⟨[(2, .p (.sl 15 (l.map Evl.pv))), (13, .p (.bool s.2)), (14, .ptr (.loc 1 4 0) 0), (15, .ptr (.loc 2 1 0) 0), (16, .ptr (.loc 3 0 0) 0), (28, .p (.sl 1 (vs.map .str))), (29, .p (.int .i64 vs.length)), (30, .p (.int .i64 0))], [(.loc 0 1 0, some (.box [.p (.int .i64 p.c), .p (.str p.v)])), (.loc 0 2 0, some (.box [.p (.int .i64 q.c), .p (.str q.v)])), (.loc 1 4 0, some (.box [.p (.int .i64 node), .p (.sl 4 (ms.map Mem.pv)), .p (.sl 15 (f.map Evl.pv))])), (.loc 2 1 0, some (.box [.fn 121 [] [.ptr (.loc 0 1 0) 0, .ptr (.loc 0 2 0) 0]])), (.loc 3 0 0, some (.box [.p (.int .i64 s.1.c), .p (.str s.1.v)]))]⟩) =
    some (.ex 0, ⟨[(2, .p (.sl 15 (l.map Evl.pv))), (13, .p (.bool (vs.foldl (fun s v => (bndsN l v).foldl (stepF p q (readyB ms node f) v) s) s).2)), (14, .ptr (.loc 1 4 0) 0), (15, .ptr (.loc 2 1 0) 0), (16, .ptr (.loc 3 0 0) 0)], [(.loc 0 1 0, some (.box [.p (.int .i64 p.c), .p (.str p.v)])), (.loc 0 2 0, some (.box [.p (.int .i64 q.c), .p (.str q.v)])), (.loc 1 4 0, some (.box [.p (.int .i64 node), .p (.sl 4 (ms.map Mem.pv)), .p (.sl 15 (f.map Evl.pv))])), (.loc 2 1 0, some (.box [.fn 121 [] [.ptr (.loc 0 1 0) 0, .ptr (.loc 0 2 0) 0]])), (.loc 3 0 0, some (.box [.p (.int .i64 (vs.foldl (fun s v => (bndsN l v).foldl (stepF p q (readyB ms node f) v) s) s).1.c), .p (.str (vs.foldl (fun s v => (bndsN l v).foldl (stepF p q (readyB ms node f) v) s) s).1.v)]))]⟩) := by
  have key := range_loop (loopW E 0 [2, 13, 14, 15, 16, 28, 29, 30] [.loc 0 1 0, .loc 0 2 0, .loc 1 4 0, .loc 2 1 0, .loc 3 0 0] (.trim [2, 13, 14, 15, 16, 28, 29, 30] [10, 11, 12, 13] [(0, [2, 13, 14, 15, 16])] [.loc 0 1 0, .loc 0 2 0, .loc 1 4 0, .loc 2 1 0, .loc 3 0 0] s37_6)) vs
    (fun j (s : Bal × Bool) => ⟨[(2, .p (.sl 15 (l.map Evl.pv))), (13, .p (.bool s.2)), (14, .ptr (.loc 1 4 0) 0), (15, .ptr (.loc 2 1 0) 0), (16, .ptr (.loc 3 0 0) 0), (28, .p (.sl 1 (vs.map .str))), (29, .p (.int .i64 vs.length)), (30, .p (.int .i64 j))], [(.loc 0 1 0, some (.box [.p (.int .i64 p.c), .p (.str p.v)])), (.loc 0 2 0, some (.box [.p (.int .i64 q.c), .p (.str q.v)])), (.loc 1 4 0, some (.box [.p (.int .i64 node), .p (.sl 4 (ms.map Mem.pv)), .p (.sl 15 (f.map Evl.pv))])), (.loc 2 1 0, some (.box [.fn 121 [] [.ptr (.loc 0 1 0) 0, .ptr (.loc 0 2 0) 0]])), (.loc 3 0 0, some (.box [.p (.int .i64 s.1.c), .p (.str s.1.v)]))]⟩)
    (fun s r => some (.ex 0, ⟨[(2, .p (.sl 15 (l.map Evl.pv))), (13, .p (.bool (r.foldl (fun s v => (bndsN l v).foldl (stepF p q (readyB ms node f) v) s) s).2)), (14, .ptr (.loc 1 4 0) 0), (15, .ptr (.loc 2 1 0) 0), (16, .ptr (.loc 3 0 0) 0)], [(.loc 0 1 0, some (.box [.p (.int .i64 p.c), .p (.str p.v)])), (.loc 0 2 0, some (.box [.p (.int .i64 q.c), .p (.str q.v)])), (.loc 1 4 0, some (.box [.p (.int .i64 node), .p (.sl 4 (ms.map Mem.pv)), .p (.sl 15 (f.map Evl.pv))])), (.loc 2 1 0, some (.box [.fn 121 [] [.ptr (.loc 0 1 0) 0, .ptr (.loc 0 2 0) 0]])), (.loc 3 0 0, some (.box [.p (.int .i64 (r.foldl (fun s v => (bndsN l v).foldl (stepF p q (readyB ms node f) v) s) s).1.c), .p (.str (r.foldl (fun s v => (bndsN l v).foldl (stepF p q (readyB ms node f) v) s) s).1.v)]))]⟩))
  refine key ?_ ?_ s
  · intro s
    rw [loopW_some]
    generalize hK : loopW E 0 _ _ _ = K
    simp -implicitDefEqProofs only [go_sem, s37_6, s37_5, s37_4, List.foldl_nil]
  · intro j s v r hx hi ih
    obtain ⟨f1, f2, f3⟩ := rangeFacts j vs.length hi (by omega)
    have e1 := e25 (E := E) l v hll hth
    have hb := bndsN_le l v
    have lp := loop37a (E := E) node hnode ms hc p q f hl hn l vs j v (bndsN l v) (by omega) s
    rw [List.foldl_cons]
    have ih' := ih ((bndsN l v).foldl (stepF p q (readyB ms node f) v) s)
    rw [loopW_some]
    generalize hK : loopW E 0 _ _ _ = K at ih' ⊢
    try dsimp only at ih' ⊢
    simp -implicitDefEqProofs only [go_sem, s37_6, s37_5, s37_4, hx, f1, f2, f3, e1, lp] at ih' ⊢
    exact ih'
def firstF (p q : Bal) (A : ByteArray → Int → Int → Bool) (l : List Evl) : Bal × Bool := (valsN l).foldl (fun s v => (bndsN l v).foldl (stepF p q A v) s) (Bal.zero, false)
def firstV (p q : Bal) (A : ByteArray → Int → Int → Bool) (l : List Evl) (s : Bal × Bool) : AV :=
  if s.2 = true then .tup [.p (.str s.1.v), .p (.int .i64 (downK (fun z => freeB p q s.1.v z && A s.1.v z s.1.c) (bndsN l s.1.v) (bndsN l s.1.v).length s.1.c)), .p (.int .i64 s.1.c), .p (.bool true)]
  else .tup [.p (.str ByteArray.empty), .p (.int .i64 0), .p (.int .i64 0), .p (.bool false)]
theorem valsN_le (es : List Evl) : (valsN es).length ≤ es.length := by
  have h1 := uniqG_len SV.swo_ltV ((es.filter validE).map fun e => e.b.v)
  have h2 := List.length_filter_le validE es
  rw [List.length_map] at h1
  unfold valsN
  rw [uniqV_eq]; omega
theorem e37 (node : Nat) (hnode : node < 10) (t : Tr) (l : List Evl) (p q : Bal) (ht : t.thin) (hl : l.length ≤ 16) (hth : ∀ e ∈ l, e.t.thin) :
    callW E 37 [.p (.int .i64 node), .p t.pv, .p (.sl 15 (l.map Evl.pv)), .p (.agg [.int .i64 p.c, .str p.v]), .p (.agg [.int .i64 q.c, .str q.v])] [] = some ⟨firstV p q (acceptC node t l) l (firstF p q (acceptC node t l) l), [], []⟩ := by
  have e1 := e119 (E := E) node hnode t l ht (by omega) hth
  have e2 := e20 (E := E) l hl hth
  have hvl := valsN_le l
  have hc := viewM_ok node t l ht hth
  have hf : (l.filter validE).length < 4000 := Nat.lt_of_le_of_lt (List.length_filter_le validE l) (by omega)
  have hn := valid_nodes l
  have lp := loop37b (E := E) node hnode _ hc p q _ hf hn l hl hth (valsN l) (by omega) (Bal.zero, false)
  have hA : readyB (viewM node t l) node (l.filter validE) = acceptC node t l := rfl
  rw [hA, ← firstF] at lp
  have e4 : ∀ b : Bal, _ := fun b => e124_125 (E := E) node hnode _ hc b p q b.c _ hf hn (bndsN l b.v) (by have := bndsN_le l b.v; unfold most; omega)
  rw [hA] at e4
  have e5 : ∀ v : ByteArray, _ := fun v => e25 (E := E) l v hl hth
  generalize firstF p q (acceptC node t l) l = s at *
  obtain ⟨b, ok⟩ := s
  have e4' := e4 b
  have e5' := e5 b.v
  unfold Tr.pv seenPv at e1
  unfold Tr.pv
  simp only [Bal.zero, Int.natCast_zero] at lp
  rw [callW_eq, EnvS.h 37 F37 rfl]
  cases ok with
  | false => simp -implicitDefEqProofs only [go_sem, F37, s37, s37_7, s37_8, e1, e2, lp, firstV, Bool.false_eq_true]
  | true => simp -implicitDefEqProofs only [go_sem, F37, s37, s37_7, s37_8, e1, e2, lp, firstV, e4', e5']
end Go.Ab.S

namespace Go.Ab.S
open Go Go.Ab
variable {E : Env} [EnvS E]

/-! ### The example of the chapter -/
def flat33 : Tr := ⟨3, upto 3 0, []⟩
theorem flat33_thin : flat33.thin := ⟨by decide, by decide, by simp [flat33]⟩
def cE (i : Nat) : Evl := ⟨i, 1, 1, flat33, 2, ⟨5, ⟨#[97]⟩⟩, ⟨5, ⟨#[97]⟩⟩, Bal.zero, if i = 1 then 3 else 2, 5⟩
def commitsL : List Evl := [cE 0, cE 1, cE 2]
theorem loop62 : ∀ (k i : Nat) (es : List Evl), i + k = 3 → es.length = i →
    loopW E 0 [1, 2] [.loc 1 0 0] (.trim [1, 2] [0] [(0, [1])] [.loc 1 0 0] s62_3) (some ⟨[(1, .hsl (.loc 1 0 0) 0 es.length), (2, .p (.int .i64 i))], [(.loc 1 0 0, some (.parr (es.map Evl.pv) 15 false))]⟩) =
    some (.ex 0, ⟨[(1, .hsl (.loc 1 0 0) 0 3)], [(.loc 1 0 0, some (.parr ((es ++ (List.range' i k).map cE).map Evl.pv) 15 false))]⟩) := by
  generalize hK : loopW E 0 _ _ _ = K
  intro k
  induction k with
  | zero =>
    intro i es hi hl
    have : i = 3 := by omega
    subst this
    rw [← hK, loopW_some, hK]
    simp -implicitDefEqProofs only [go_sem, s62_3, s62_2, s62_1, hl, List.range'_zero, List.map_nil, List.append_nil]
  | succ k ih =>
    intro i es hi hl
    have f1 : (i : Int) < 3 := by omega
    have f3 : IntKind.i64.wrap ((i : Int) + 1) = ((i + 1 : Nat) : Int) := wrap64 (by omega) (by omega)
    have e1 := e36 (E := E) 3 3 (by decide)
    have ih' := ih (i + 1) (es ++ [cE i]) (by omega) (by simp; omega)
    have hm : es.length + 1 ≤ most := by unfold most; omega
    rw [show List.range' i (k + 1) = i :: List.range' (i + 1) k from rfl]
    rw [List.append_assoc, List.singleton_append, ← List.map_cons (f := cE), List.map_append (f := Evl.pv) (l₁ := es) (l₂ := [cE i]), List.length_append] at ih'
    rw [show List.map Evl.pv [cE i] = [Evl.pv (cE i)] from rfl, show [cE i].length = 1 from rfl] at ih'
    rw [show Evl.pv (cE i) = .agg [.int .i64 i, .int .i64 1, .int .i64 1, .int .i64 3, .sl 1 ((upto 3 0).map (.int .i64)), .sl 3 [], .int .i64 2, .int .i64 5, .str ⟨#[97]⟩, .int .i64 5, .str ⟨#[97]⟩, .int .i64 0, .str ByteArray.empty, .int .i64 (if i = 1 then 3 else 2), .int .i64 5] from rfl] at ih'
    unfold Tr.pv at e1
    simp only [cast_lit, List.map_nil] at e1
    by_cases h : i = 1
    · subst h
      rw [if_pos rfl] at ih'
      simp only [Int.natCast_one] at ih' f1 f3
      rw [← hK, loopW_some, hK]
      simp -implicitDefEqProofs only [go_sem, s62_3, s62_2, s62_1, f1, f3, e1, hm, Int.natCast_one]
      exact ih'
    · have h' : ¬ (i : Int) = 1 := by omega
      rw [if_neg h] at ih'
      rw [← hK, loopW_some, hK]
      simp -implicitDefEqProofs only [go_sem, s62_3, s62_2, s62_1, f1, f3, e1, hm, h']
      exact ih'
theorem e62 : callW E 62 [] [] = some ⟨.p (.sl 15 (commitsL.map Evl.pv)), [], []⟩ := by
  have lp := loop62 (E := E) 3 0 [] rfl rfl
  simp only [List.length_nil, List.map_nil, List.nil_append, Int.natCast_zero] at lp
  rw [show (List.range' 0 3).map cE = commitsL from rfl] at lp
  have hl : commitsL.length = 3 := rfl
  rw [callW_eq, EnvS.h 62 F62 rfl]
  have h3 : (commitsL.map Evl.pv).take 3 = commitsL.map Evl.pv := rfl
  simp -implicitDefEqProofs only [go_sem, F62, s62, s62_4, lp, hl, h3, List.length_map]
theorem bnds33 : bndsN commitsL ⟨#[97]⟩ = [2, 3, 5] := by
  refine sorted_ext (lt := fun x y : Int => decide (x < y)) (by simp) (by simp; omega) ?_ ?_ fun n => ?_
  · exact (bndsN_sorted _ _).imp fun h => by simpa using h
  · decide
  · rw [bndsN_mem]
    have h0 : bndP ⟨#[97]⟩ (cE 0) = true := by decide +kernel
    have h1 : bndP ⟨#[97]⟩ (cE 1) = true := by decide +kernel
    have h2 : bndP ⟨#[97]⟩ (cE 2) = true := by decide +kernel
    constructor
    · rintro ⟨e, he, _, h⟩
      simp only [commitsL, List.mem_cons, List.not_mem_nil, or_false] at he
      rcases he with rfl | rfl | rfl <;> (rcases h with rfl | rfl <;> decide)
    · intro h
      simp only [List.mem_cons, List.not_mem_nil, or_false] at h
      rcases h with rfl | rfl | rfl
      · exact ⟨cE 0, List.mem_cons_self, h0, .inl rfl⟩
      · exact ⟨cE 1, by simp [commitsL], h1, .inl rfl⟩
      · exact ⟨cE 0, List.mem_cons_self, h0, .inr rfl⟩
theorem conf55 : confirmC 0 flat33 commitsL ⟨#[97]⟩ 5 5 = true := by decide +kernel
theorem conf35 : confirmC 0 flat33 commitsL ⟨#[97]⟩ 3 5 = true := by decide +kernel
theorem conf25 : confirmC 0 flat33 commitsL ⟨#[97]⟩ 2 5 = false := by decide +kernel
theorem acc35 : acceptC 0 flat33 commitsL ⟨#[97]⟩ 3 5 = true := by decide +kernel
theorem fin33 : finK (confirmC 0 flat33 commitsL ⟨#[97]⟩) (bndsN commitsL ⟨#[97]⟩) (bndsN commitsL ⟨#[97]⟩).length = some (3, 5) := by
  rw [bnds33]
  simp [finK, downK, conf55, conf35, conf25]
theorem e35 : callW E 35 [] [] = some ⟨.p (.bool true), [], []⟩ := by
  have hth : ∀ e ∈ commitsL, e.t.thin := by
    intro e he
    simp only [commitsL, List.mem_cons, List.not_mem_nil, or_false] at he
    rcases he with rfl | rfl | rfl <;> exact flat33_thin
  have e1 := e36 (E := E) 3 3 (by decide)
  have e2 := e62 (E := E)
  have e3 := e38 (E := E) 0 (by decide) flat33 commitsL ⟨#[97]⟩ flat33_thin (by decide) hth
  have e4 := e32 (E := E) 0 (by decide) flat33 commitsL ⟨#[97]⟩ 3 5 flat33_thin (by decide) hth
  rw [fin33] at e3
  rw [acc35] at e4
  rw [show (⟨3, upto 3 0, []⟩ : Tr) = flat33 from rfl] at e1
  simp only [cast_lit, Int.natCast_zero, finV] at e1 e3 e4
  unfold Tr.pv at e1 e3 e4
  rw [callW_eq, EnvS.h 35 F35 rfl]
  simp -implicitDefEqProofs only [go_sem, F35, s35, e1, e2, e3, e4]
end Go.Ab.S
