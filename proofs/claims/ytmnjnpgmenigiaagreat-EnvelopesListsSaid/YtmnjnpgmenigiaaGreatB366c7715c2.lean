/- A part of the proof: an executor over plain data, shown sound for the model, and what it computes of the functions. -/
import Derived.Test.YtmnjnpgmenigiaaGreatB27ccc1b20d
import Derived.Test.YtmnjnpgmenigiaaGreatSoB
set_option linter.all false
namespace Go.Ab.S.SB
open Go Go.Ab Go.Ab.S
variable {E : Env} [EnvS E]
theorem bal_ne {x a : Bal} (h : ¬ x = a) : (decide (x.c = a.c) && decide (x.v = a.v)) = false := by
  cases hc : (decide (x.c = a.c) && decide (x.v = a.v)) with
  | false => rfl
  | true =>
    simp only [Bool.and_eq_true, decide_eq_true_eq] at hc
    obtain ⟨c, v⟩ := x
    obtain ⟨c', v'⟩ := a
    simp only [Bal.mk.injEq] at h
    exact absurd hc h
theorem loop188b (l : List Bal) (k0 : Nat) (hN : l.length < 4611686018427387904) : ∀ (n j k : Nat) (l' : List Bal), l.length - (k0 + j) ≤ n → l'.length = l.length → 1 ≤ j → k + 1 ≤ k0 + j → k0 + j ≤ l.length → (∀ i, k0 + j ≤ i + 1 → l'[i]? = l[i]?) → ∀ a, l[k0 + j - 1]? = some a →
    ∃ (k' : Nat) (l'' : List Bal), l''.length = l.length ∧ k' + 1 ≤ l.length ∧ l''.take k' = l'.take k ++ keepNew a (l.drop (k0 + j)) ∧
    loopW E 1 [0, 3, 4, 5] [] (.trim [0, 3, 4, 5] [2] [(2, [0, 3])] [] s188_4) (some ⟨[(0, .hsl (.ext 0) 0 l.length), (3, .p (.int .i64 k)), (4, .hsl (.ext 0) k0 (l.length - k0)), (5, .p (.int .i64 j))], [(.ext 0, some (.parr (l'.map Bal.pv) 2 false))]⟩) =
    some (.ex 2, ⟨[(0, .hsl (.ext 0) 0 l.length), (3, .p (.int .i64 k'))], [(.ext 0, some (.parr (l''.map Bal.pv) 2 false))]⟩) := by
  generalize hK : loopW E 1 _ _ _ = K
  intro n
  induction n with
  | zero =>
    intro j k l' hn hl hj hk hp hag a ha
    refine ⟨k, l', hl, by omega, ?_, ?_⟩
    · rw [List.drop_eq_nil_of_le (by omega), keepNew, List.append_nil]
    · have f1 : ¬ (j : Int) < ((l.length - k0 : Nat) : Int) := by omega
      rw [← hK, loopW_some, hK]
      simp -implicitDefEqProofs only [go_sem, Bal.pv, s188_4, s188_3, s188_2, f1]
  | succ n ih =>
    intro j k l' hn hl hj hk hp hag a ha
    by_cases h : k0 + j < l.length
    · have f1 : (j : Int) < ((l.length - k0 : Nat) : Int) := by omega
      have f2 := wAdd1 j (by omega)
      have f3 : IntKind.i64.wrap ((j : Int) - 1) = ((j - 1 : Nat) : Int) := wSub j 1 (by omega) (by omega)
      have n1 : (0 : Int) ≤ (j : Int) := by omega
      have n2 : (0 : Int) ≤ ((j - 1 : Nat) : Int) := by omega
      have i1 : j < l.length - k0 := by omega
      have i2 : j - 1 < l.length - k0 := by omega
      obtain ⟨x, hx⟩ : ∃ x, l[k0 + j]? = some x := ⟨_, List.getElem?_eq_getElem h⟩
      have g1 : l'[k0 + j]? = some x := by rw [hag _ (by omega)]; exact hx
      have g2 : l'[k0 + (j - 1)]? = some a := by rw [hag _ (by omega), ← ha]; congr 1; omega
      have h0 : k0 + (l.length - k0) ≤ l.length := by omega
      have hd : l.drop (k0 + j) = x :: l.drop (k0 + (j + 1)) := by
        rw [List.drop_eq_getElem_cons h]
        congr 1
        rw [List.getElem?_eq_getElem h] at hx
        exact Option.some.inj hx
      by_cases hxa : x = a
      · subst hxa
        obtain ⟨k', l'', r1, r2, r3, r4⟩ := ih (j + 1) k l' (by omega) hl (by omega) (by omega) (by omega) (fun i hi => hag i (by omega)) x (by rw [← hx]; congr 1)
        refine ⟨k', l'', r1, r2, by rw [r3, hd, keepNew, if_pos rfl], ?_⟩
        rw [← hK, loopW_some, hK]
        simp -implicitDefEqProofs only [go_sem, Bal.pv, s188_4, s188_3, s188_2, f1, f2, f3, n1, n2, i1, i2, g1, g2, h0, hl]
        exact r4
      · have hkl : k < l'.length := by omega
        have hkl2 : k < l.length := by omega
        obtain ⟨z, hz⟩ : ∃ z, l'[k]? = some z := ⟨_, List.getElem?_eq_getElem hkl⟩
        have n3 : (0 : Int) ≤ (k : Int) := by omega
        have h00 : 0 + l.length ≤ l'.length := by omega
        have f4 := wAdd1 k (by omega)
        obtain ⟨k', l'', r1, r2, r3, r4⟩ := ih (j + 1) (k + 1) (l'.set k x) (by omega) (by simp [hl]) (by omega) (by omega) (by omega) (fun i hi => by rw [List.getElem?_set_ne (by omega)]; exact hag i (by omega)) x (by rw [← hx]; congr 1)
        refine ⟨k', l'', r1, r2, ?_, ?_⟩
        · rw [r3, hd, keepNew, if_neg hxa, take_set_succ _ _ _ hkl, List.append_assoc]; rfl
        · rw [List.map_set] at r4
          simp only [Bal.pv] at r4
          rw [← hK, loopW_some, hK]
          simp -implicitDefEqProofs only [go_sem, Bal.pv, s188_4, s188_3, s188_2, f1, f2, f3, f4, n1, n2, n3, i1, i2, g1, g2, h0, h00, hl, bal_ne hxa, hz, hkl2, setE]
          exact r4
    · refine ⟨k, l', hl, by omega, ?_, ?_⟩
      · rw [List.drop_eq_nil_of_le (by omega), keepNew, List.append_nil]
      · have f1 : ¬ (j : Int) < ((l.length - k0 : Nat) : Int) := by omega
        rw [← hK, loopW_some, hK]
        simp -implicitDefEqProofs only [go_sem, Bal.pv, s188_4, s188_3, s188_2, f1]
theorem loop188a (l : List Bal) (hN : l.length < 4611686018427387904) : ∀ (n k : Nat) (a : Bal), l.length - k ≤ n → 1 ≤ k → k ≤ l.length → l[k - 1]? = some a →
    (keepNew a (l.drop k) = l.drop k ∧ loopW E 1 [0, 3] [] (.trim [0, 3] [2] [(0, [0])] [] s188_8) (some ⟨[(0, .hsl (.ext 0) 0 l.length), (3, .p (.int .i64 k))], [(.ext 0, some (.parr (l.map Bal.pv) 2 false))]⟩) = some (.ex 0, ⟨[(0, .hsl (.ext 0) 0 l.length)], [(.ext 0, some (.parr (l.map Bal.pv) 2 false))]⟩)) ∨
    (∃ (k' : Nat) (l3 : List Bal), l3.length = l.length ∧ k' ≤ l.length ∧ l3.take k' = l.take k ++ keepNew a (l.drop k) ∧ loopW E 1 [0, 3] [] (.trim [0, 3] [2] [(0, [0])] [] s188_8) (some ⟨[(0, .hsl (.ext 0) 0 l.length), (3, .p (.int .i64 k))], [(.ext 0, some (.parr (l.map Bal.pv) 2 false))]⟩) = some (.ret, ⟨[(2, .hsl (.ext 0) 0 k')], [(.ext 0, some (.parr (l3.map Bal.pv) 2 false))]⟩)) := by
  generalize hK : loopW E 1 _ _ _ = K
  intro n
  induction n with
  | zero =>
    intro k a hn hk hkl ha
    have f1 : ¬ (k : Int) < (l.length : Int) := by omega
    refine .inl ⟨by rw [List.drop_eq_nil_of_le (by omega), keepNew], ?_⟩
    rw [← hK, loopW_some, hK]
    simp -implicitDefEqProofs only [go_sem, Bal.pv, s188_8, s188_7, s188_6, s188_5, f1]
  | succ n ih =>
    intro k a hn hk hkl ha
    by_cases h : k < l.length
    · have f1 : (k : Int) < (l.length : Int) := by omega
      have f2 := wAdd1 k (by omega)
      have f3 : IntKind.i64.wrap ((k : Int) - 1) = ((k - 1 : Nat) : Int) := wSub k 1 (by omega) (by omega)
      have n1 : (0 : Int) ≤ (k : Int) := by omega
      have n2 : (0 : Int) ≤ ((k - 1 : Nat) : Int) := by omega
      have i2 : k - 1 < l.length := by omega
      obtain ⟨x, hx⟩ : ∃ x, l[k]? = some x := ⟨_, List.getElem?_eq_getElem h⟩
      have hd : l.drop k = x :: l.drop (k + 1) := by
        rw [List.drop_eq_getElem_cons h]
        congr 1
        rw [List.getElem?_eq_getElem h] at hx
        exact Option.some.inj hx
      have h0 : 0 + l.length ≤ l.length := by omega
      by_cases hxa : x = a
      · subst hxa
        right
        have lp := loop188b (E := E) l k hN _ 1 k l (Nat.le_refl _) rfl (by omega) (by omega) (by omega) (fun _ _ => rfl) x (by rw [← hx]; congr 1)
        obtain ⟨k', l'', r1, r2, r3, r4⟩ := lp
        rw [Int.natCast_one] at r4
        have h1 : k ≤ l.length := by omega
        have h2 : k' ≤ l.length := by omega
        have h3 : ¬ (l.length - k' = 0) := by omega
        have h4 : k' + (l.length - k') ≤ l.length := by omega
        have n3 : (0 : Int) ≤ (k' : Int) := by omega
        have z1 : (k : Int) ≤ (l.length : Int) := by omega
        have z2 : (k' : Int) ≤ (l.length : Int) := by omega
        have hlen : (l''.take k' ++ List.replicate (l.length - k') (⟨0, ByteArray.empty⟩ : Bal) ++ l''.drop (k' + (l.length - k'))).length = l.length := by simp; omega
        refine ⟨k', l''.take k' ++ List.replicate (l.length - k') (⟨0, ByteArray.empty⟩ : Bal) ++ l''.drop (k' + (l.length - k')), hlen, h2, ?_, ?_⟩
        · rw [List.append_assoc, List.take_append_of_le_length (by simp; omega), List.take_take, Nat.min_self, r3, hd, keepNew, if_pos rfl]
        · rw [List.map_append, List.map_append, List.map_replicate, List.map_take, List.map_drop]
          rw [← hK, loopW_some, hK]
          simp -implicitDefEqProofs only [go_sem, Bal.pv, s188_8, s188_7, s188_6, s188_5, s188_7, s188_6, s188_5, f1, f3, n1, n2, i2, h, ha, hx, h0, h1, h2, h3, h4, n3, z1, z2, r1, r4, List.length_map, Nat.sub_zero]
      · rcases ih (k + 1) x (by omega) (by omega) h (by rw [← hx]; congr 1) with ⟨r1, r2⟩ | ⟨k', l3, r1, r2, r3, r4⟩
        · left
          refine ⟨by rw [hd, keepNew, if_neg hxa, r1], ?_⟩
          rw [← hK, loopW_some, hK]
          simp -implicitDefEqProofs only [go_sem, Bal.pv, s188_8, s188_7, s188_6, s188_5, f1, f2, f3, n1, n2, i2, h, ha, hx, h0, bal_ne hxa]
          exact r2
        · right
          refine ⟨k', l3, r1, r2, ?_, ?_⟩
          · rw [r3, hd, keepNew, if_neg hxa, List.take_add_one, hx, List.append_assoc]; rfl
          · rw [← hK, loopW_some, hK]
            simp -implicitDefEqProofs only [go_sem, Bal.pv, s188_8, s188_7, s188_6, s188_5, f1, f2, f3, n1, n2, i2, h, ha, hx, h0, bal_ne hxa]
            exact r4
    · have f1 : ¬ (k : Int) < (l.length : Int) := by omega
      refine .inl ⟨by rw [List.drop_eq_nil_of_le (by omega), keepNew], ?_⟩
      rw [← hK, loopW_some, hK]
      simp -implicitDefEqProofs only [go_sem, Bal.pv, s188_8, s188_7, s188_6, s188_5, f1]
theorem e188 (l : List Bal) (hN : l.length < 4611686018427387904) : ∃ es : List PV, callW E 188 [.hsl (.ext 0) 0 l.length] [.parr (l.map Bal.pv) 2 false] = some ⟨.p (.sl 2 ((compactL l).map Bal.pv)), [.parr es 2 true], []⟩ := by
  by_cases h : l.length < 2
  · have f1 : (l.length : Int) < 2 := by omega
    have hc : compactL l = l := by
      match l, h with
      | [], _ => rfl
      | [a], _ => rfl
    refine ⟨l.map Bal.pv, ?_⟩
    rw [hc]
    rw [callW_eq, EnvS.h 188 F188 rfl]
    simp -implicitDefEqProofs only [go_sem, Bal.pv, F188, s188, s188_1, f1, fin1_hsl]
  · have f1 : ¬ (l.length : Int) < 2 := by omega
    obtain ⟨a, r, rfl⟩ : ∃ a r, l = a :: r := by
      match l, h with
      | [], h => simp at h
      | a :: r, _ => exact ⟨a, r, rfl⟩
    have hl := loop188a (E := E) (a :: r) hN _ 1 a (Nat.le_refl _) (Nat.le_refl _) (by simp) rfl
    rw [Int.natCast_one] at hl
    simp only [List.drop_succ_cons, List.drop_zero, List.take_succ_cons, List.take_zero] at hl
    rcases hl with ⟨r1, r2⟩ | ⟨k', l3, r1, r2, r3, r4⟩
    · refine ⟨(a :: r).map Bal.pv, ?_⟩
      rw [compactL, r1]
      generalize hg : a :: r = l at *
      rw [callW_eq, EnvS.h 188 F188 rfl]
      simp -implicitDefEqProofs only [go_sem, Bal.pv, F188, s188, s188_9, f1, r2, fin1_hsl]
    · refine ⟨l3.map Bal.pv, ?_⟩
      rw [compactL, show a :: keepNew a r = l3.take k' from r3.symm, List.map_take]
      generalize hg : a :: r = l at *
      have h0 : 0 + k' ≤ l3.length := by omega
      rw [callW_eq, EnvS.h 188 F188 rfl]
      simp -implicitDefEqProofs only [go_sem, Bal.pv, F188, s188, s188_9, f1, r4, r1, r2, h0, fin1_hsl]
theorem raw188 : E.raw 188 = true := raw_T 188 F188 rfl rfl
theorem raw105 : E.raw 105 = true := raw_T 105 F105 rfl rfl
attribute [go_sem] raw188 raw105
/-- A list sorted, what stands twice left out. -/
def uniqB (l : List Bal) : List Bal := compactL (Sort.sort ltB l.toArray).toList
theorem e105 (l : List Bal) (hN : l.length < 50) : ∃ es : List PV, callW E 105 [.hsl (.ext 0) 0 l.length, .fn 108 [] []] [.parr (l.map Bal.pv) 2 false] = some ⟨.p (.sl 2 ((uniqB l).map Bal.pv)), [.parr es 2 true], []⟩ := by
  have e1 := e187 (E := E) l.toArray (by simpa using hN)
  have hs : (Sort.sort ltB l.toArray).toList.length = l.length := by
    have := (Go.Sort.sort_sorts ltB swo_ltB l.toArray).1.1
    simpa using this
  obtain ⟨es, e2⟩ := e188 (E := E) (Sort.sort ltB l.toArray).toList (by omega)
  rw [hs] at e2
  refine ⟨es, ?_⟩
  rw [List.size_toArray] at e1
  unfold uniqB
  rw [callW_eq, EnvS.h 105 F105 rfl]
  simp -implicitDefEqProofs only [go_sem, Bal.pv, F105, s105, e1, e2]
end Go.Ab.S.SB

namespace Go.Ab.S.SB
open Go Go.Ab Go.Ab.S
variable {E : Env} [EnvS E]

/-! ### Deleting the zero ballots -/
theorem finX_rawS (F : SFn) (st : St) (k : Nat) (es : List PV) (z : Nat) (b : Bool) (hF : F.rawR = true) (hx : hget st.H (.ext 0) = some (.parr es z b)) : finX F 1 st (some [.hsl (.ext 0) 0 k]) = some ⟨.hsl (.ext 0) 0 k, [.parr es z b], []⟩ := by
  rw [finX_succ]
  unfold finish.finishG
  have hre : reach st.H 64 (extNs 0 1 ++ namesL [.hsl (.ext 0) 0 k]) [] = some [.ext 0] := by simp [reach, extNs, AObj.names, namesL, AV.names, hx]
  simp only [hF, if_true]
  rw [hre]
  simp [extNs, renL, AV.ren, hgets, hx, renOs, AObj.ren, outNm, tup1]
def gS (ns : List Nm) (ups : Hp) : Option AV → Option (List AObj) → Option Dl
  | some v, some outs => some { v, up := zipUp ns outs ++ ups }
  | _, _ => none
theorem gS_some (ns : List Nm) (ups : Hp) (v : AV) (outs : List AObj) : gS ns ups (some v) (some outs) = some { v, up := zipUp ns outs ++ ups } := _root_.id rfl
theorem gG_hsl (H : Hp) (r i : Nat) (n : Nm) (ns : List Nm) (ups : Hp) (x : Nm) (o k : Nat) (outs : List AObj) (h : outs.length = (n :: ns).length) : gG H r i (n :: ns) ups (some ⟨.hsl x o k, outs, []⟩) = gS (n :: ns) ups ((AV.hsl x o k).ren (fromExt (n :: ns) r i)) (renOs (fromExt (n :: ns) r i) outs) := by
  simp only [gG, callEnd, h, newUp, freeH, and_self, if_true]
  cases (AV.hsl x o k).ren (fromExt (n :: ns) r i) <;> cases renOs (fromExt (n :: ns) r i) outs <;> rfl
attribute [go_sem] gS_some gG_hsl
theorem raw189 : E.raw 189 = true := raw_T 189 F189 rfl rfl
theorem raw106 : E.raw 106 = true := raw_T 106 F106 rfl rfl
attribute [go_sem] raw189 raw106
theorem loop189 (l : List Bal) (hN : l.length < 4611686018427387904) : ∀ (n i : Nat), l.length - i ≤ n → i ≤ l.length →
    loopW E 1 [0, 1, 7, 8] [] (.trim [0, 1, 7, 8] [4] [(0, [])] [] s189_3) (some ⟨[(0, .hsl (.ext 0) 0 l.length), (1, .fn 107 [] []), (7, .p (.int .i64 l.length)), (8, .p (.int .i64 i))], [(.ext 0, some (.parr (l.map Bal.pv) 2 false))]⟩) =
    (match (l.drop i).findIdx? zeroB with
      | some q => some (.ret, ⟨[(4, .p (.int .i64 (i + q : Nat)))], [(.ext 0, some (.parr (l.map Bal.pv) 2 false))]⟩)
      | none => some (.ex 0, ⟨[], [(.ext 0, some (.parr (l.map Bal.pv) 2 false))]⟩)) := by
  generalize hK : loopW E 1 _ _ _ = K
  intro n
  induction n with
  | zero =>
    intro i hn hi
    have f1 : ¬ (i : Int) < (l.length : Int) := by omega
    rw [List.drop_eq_nil_of_le (by omega)]
    rw [← hK, loopW_some, hK]
    simp -implicitDefEqProofs only [go_sem, s189_3, s189_2, s189_1, f1, List.findIdx?_nil]
  | succ n ih =>
    intro i hn hi
    by_cases h : i < l.length
    · have f1 : (i : Int) < (l.length : Int) := by omega
      have f2 := wAdd1 i (by omega)
      have n1 : (0 : Int) ≤ (i : Int) := by omega
      obtain ⟨x, hx⟩ : ∃ x, l[i]? = some x := ⟨_, List.getElem?_eq_getElem h⟩
      have hd : l.drop i = x :: l.drop (i + 1) := by
        rw [List.drop_eq_getElem_cons h]
        congr 1
        rw [List.getElem?_eq_getElem h] at hx
        exact Option.some.inj hx
      have e1 := e107 (E := E) x
      rw [hd, List.findIdx?_cons]
      cases hz : zeroB x with
      | true =>
        rw [hz] at e1
        rw [← hK, loopW_some, hK]
        simp -implicitDefEqProofs only [go_sem, Bal.pv, s189_3, s189_2, s189_1, f1, f2, n1, h, hx, e1, Nat.add_zero]
      | false =>
        rw [hz] at e1
        have ih' := ih (i + 1) (by omega) h
        rw [← hK, loopW_some, hK]
        simp -implicitDefEqProofs only [go_sem, Bal.pv, s189_3, s189_2, s189_1, f1, f2, n1, h, hx, e1]
        rw [ih']
        cases (l.drop (i + 1)).findIdx? zeroB with
        | none => rfl
        | some q => simp only [Option.map_some]; rw [Nat.add_assoc, Nat.add_comm 1 q]
    · have f1 : ¬ (i : Int) < (l.length : Int) := by omega
      rw [List.drop_eq_nil_of_le (by omega)]
      rw [← hK, loopW_some, hK]
      simp -implicitDefEqProofs only [go_sem, s189_3, s189_2, s189_1, f1, List.findIdx?_nil]
theorem e189 (l : List Bal) (hN : l.length < 4611686018427387904) : callW E 189 [.hsl (.ext 0) 0 l.length, .fn 107 [] []] [.parr (l.map Bal.pv) 2 false] =
    some ⟨.p (.int .i64 (match l.findIdx? zeroB with | some q => (q : Int) | none => -1)), [.parr (l.map Bal.pv) 2 false], []⟩ := by
  have lp := loop189 (E := E) l hN _ 0 (Nat.le_refl _) (Nat.zero_le _)
  rw [List.drop_zero] at lp
  simp only [Int.natCast_zero, Nat.zero_add] at lp
  rw [callW_eq, EnvS.h 189 F189 rfl]
  cases h : l.findIdx? zeroB with
  | none =>
    rw [h] at lp
    simp -implicitDefEqProofs only [go_sem, F189, s189, s189_4, lp]
  | some q =>
    rw [h] at lp
    simp -implicitDefEqProofs only [go_sem, F189, s189, s189_4, lp]
theorem take_set_succ' (l : List Bal) (k : Nat) (x : Bal) (h : k < l.length) : (l.set k x).take (k + 1) = l.take k ++ [x] := by
  rw [List.take_add_one, List.getElem?_set_self h, List.take_set_of_le (Nat.le_refl k)]
  rfl
theorem loop106 (l : List Bal) (hN : l.length < 4611686018427387904) : ∀ (n j i : Nat) (l' : List Bal), l.length - j ≤ n → l'.length = l.length → i + 1 ≤ j → j ≤ l.length → (∀ q, j ≤ q → l'[q]? = l[q]?) →
    ∃ (i' : Nat) (l'' : List Bal), l''.length = l.length ∧ i' + 1 ≤ l.length ∧ l''.take i' = l'.take i ++ (l.drop j).filter (fun x => !zeroB x) ∧
    loopW E 1 [0, 1, 5, 6] [] (.trim [0, 1, 5, 6] [4] [(0, [0, 5])] [] s106_4) (some ⟨[(0, .hsl (.ext 0) 0 l.length), (1, .fn 107 [] []), (5, .p (.int .i64 i)), (6, .p (.int .i64 j))], [(.ext 0, some (.parr (l'.map Bal.pv) 2 false))]⟩) =
    some (.ex 0, ⟨[(0, .hsl (.ext 0) 0 l.length), (5, .p (.int .i64 i'))], [(.ext 0, some (.parr (l''.map Bal.pv) 2 false))]⟩) := by
  generalize hK : loopW E 1 _ _ _ = K
  intro n
  induction n with
  | zero =>
    intro j i l' hn hl hij hj hag
    refine ⟨i, l', hl, by omega, by rw [List.drop_eq_nil_of_le (by omega)]; simp, ?_⟩
    have f1 : ¬ (j : Int) < (l.length : Int) := by omega
    rw [← hK, loopW_some, hK]
    simp -implicitDefEqProofs only [go_sem, s106_4, s106_3, s106_2, f1]
  | succ n ih =>
    intro j i l' hn hl hij hj hag
    by_cases h : j < l.length
    · have f1 : (j : Int) < (l.length : Int) := by omega
      have f2 := wAdd1 j (by omega)
      have f3 := wAdd1 i (by omega)
      have n1 : (0 : Int) ≤ (j : Int) := by omega
      have n2 : (0 : Int) ≤ (i : Int) := by omega
      obtain ⟨x, hx⟩ : ∃ x, l[j]? = some x := ⟨_, List.getElem?_eq_getElem h⟩
      have g1 : l'[j]? = some x := by rw [hag j (Nat.le_refl _)]; exact hx
      have hd : l.drop j = x :: l.drop (j + 1) := by
        rw [List.drop_eq_getElem_cons h]
        congr 1
        rw [List.getElem?_eq_getElem h] at hx
        exact Option.some.inj hx
      have e1 := e107 (E := E) x
      have hil : i < l'.length := by omega
      have hil2 : i < l.length := by omega
      obtain ⟨z, hz⟩ : ∃ z, l'[i]? = some z := ⟨_, List.getElem?_eq_getElem hil⟩
      cases hzx : zeroB x with
      | true =>
        rw [hzx] at e1
        obtain ⟨i', l'', r1, r2, r3, r4⟩ := ih (j + 1) i l' (by omega) hl (by omega) h (fun q hq => hag q (by omega))
        refine ⟨i', l'', r1, r2, by rw [r3, hd, List.filter_cons]; simp [hzx], ?_⟩
        rw [← hK, loopW_some, hK]
        simp -implicitDefEqProofs only [go_sem, Bal.pv, s106_4, s106_3, s106_2, f1, f2, n1, h, g1, hl, e1]
        exact r4
      | false =>
        rw [hzx] at e1
        obtain ⟨i', l'', r1, r2, r3, r4⟩ := ih (j + 1) (i + 1) (l'.set i x) (by omega) (by simp [hl]) (by omega) h (fun q hq => by rw [List.getElem?_set_ne (by omega)]; exact hag q (by omega))
        refine ⟨i', l'', r1, r2, ?_, ?_⟩
        · rw [r3, take_set_succ' _ _ _ hil, hd, List.filter_cons]; simp [hzx]
        · rw [List.map_set] at r4
          simp only [Bal.pv] at r4
          rw [← hK, loopW_some, hK]
          simp -implicitDefEqProofs only [go_sem, Bal.pv, s106_4, s106_3, s106_2, f1, f2, f3, n1, n2, h, g1, hl, e1, hil2, hz, setE]
          exact r4
    · refine ⟨i, l', hl, by omega, by rw [List.drop_eq_nil_of_le (by omega)]; simp, ?_⟩
      have f1 : ¬ (j : Int) < (l.length : Int) := by omega
      rw [← hK, loopW_some, hK]
      simp -implicitDefEqProofs only [go_sem, s106_4, s106_3, s106_2, f1]
theorem findIdx_take {l : List Bal} : ∀ {q : Nat}, l.findIdx? zeroB = some q → q < l.length ∧ l.filter (fun x => !zeroB x) = l.take q ++ (l.drop (q + 1)).filter (fun x => !zeroB x) := by
  induction l with
  | nil => intro q h; simp at h
  | cons x r ih =>
    intro q h
    rw [List.findIdx?_cons] at h
    cases hz : zeroB x with
    | true => rw [hz] at h; simp at h; subst h; simp [hz]
    | false =>
      rw [hz] at h
      simp only [Bool.false_eq_true, if_false, Option.map_eq_some_iff] at h
      obtain ⟨p, hp, rfl⟩ := h
      obtain ⟨h1, h2⟩ := ih hp
      exact ⟨by simp; omega, by rw [List.filter_cons]; simp [hz, h2]⟩
theorem findIdx_none {l : List Bal} (h : l.findIdx? zeroB = none) : l.filter (fun x => !zeroB x) = l := by
  rw [List.filter_eq_self]
  intro x hx
  have := List.findIdx?_eq_none_iff.1 h x hx
  simp [this]
/-- slices.DeleteFunc with Zero. -/
theorem e106 (l : List Bal) (hN : l.length < 4611686018427387904) :
    callW E 106 [.hsl (.ext 0) 0 l.length, .fn 107 [] []] [.parr (l.map Bal.pv) 2 false] = some ⟨.hsl (.ext 0) 0 (l.filter (fun x => !zeroB x)).length, [.parr ((l.filter (fun x => !zeroB x)).map Bal.pv) 2 false], []⟩ := by
  have e1 := e189 (E := E) l hN
  cases hf : l.findIdx? zeroB with
  | none =>
    rw [findIdx_none hf]
    rw [hf] at e1
    dsimp only at e1
    rw [callW_eq, EnvS.h 106 F106 rfl]
    simp -implicitDefEqProofs only [go_sem, F106, s106, s106_1, e1]
    exact finX_rawS _ _ _ _ _ _ rfl rfl
  | some q =>
    rw [hf] at e1
    dsimp only at e1
    obtain ⟨h1, h2⟩ := findIdx_take hf
    have f1 : ¬ (q : Int) = -1 := by omega
    have f2 := wAdd1 q (by omega)
    obtain ⟨i', l'', r1, r2, r3, r4⟩ := loop106 (E := E) l hN _ (q + 1) q l (Nat.le_refl _) rfl (Nat.le_refl _) h1 (fun _ _ => rfl)
    rw [← h2] at r3
    have hi : (l.filter (fun x => !zeroB x)).length = i' := by rw [← r3, List.length_take]; omega
    rw [hi]
    have h3 : ¬ (l.length - i' = 0) := by omega
    have h4 : i' + (l.length - i') ≤ l.length := by omega
    have n3 : (0 : Int) ≤ (i' : Int) := by omega
    have z2 : (i' : Int) ≤ (l.length : Int) := by omega
    have h5 : i' ≤ l.length := by omega
    have hm : List.take i' (List.map Bal.pv l'' ) = (l.filter (fun x => !zeroB x)).map Bal.pv := by rw [← List.map_take, r3]
    have ht : List.take i' ((l.filter (fun x => !zeroB x)).map Bal.pv ++ List.replicate (l.length - i') (.agg [.int .i64 0, .str ByteArray.empty]) ++ List.drop (i' + (l.length - i')) (List.map Bal.pv l'')) = (l.filter (fun x => !zeroB x)).map Bal.pv := by
      rw [List.append_assoc, List.take_append_of_le_length (by simp; omega), List.take_of_length_le (by simp; omega)]
    rw [callW_eq, EnvS.h 106 F106 rfl]
    simp -implicitDefEqProofs only [go_sem, Bal.pv, F106, s106, s106_5, e1, f1, f2, r4, h3, h4, h5, n3, z2, r1, List.length_map, Nat.sub_zero, hm, ht]
    exact finX_rawS _ _ _ _ _ _ rfl rfl
end Go.Ab.S.SB
