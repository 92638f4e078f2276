/- A part of the proof: an executor over plain data, shown sound for the model, and what it computes of the functions. -/
import Derived.Test.YtmnjnpgmenigiaaGreatB86796ac96b
import Derived.Test.YtmnjnpgmenigiaaGreatSoB
import Derived.Test.YtmnjnpgmenigiaaGreatB7c6c99ed11
import Derived.Test.YtmnjnpgmenigiaaGreatB10774b5256
set_option linter.all false
namespace Go.Ab.S.SB
open Go Go.Ab Go.Ab.S
variable {E : Env} [EnvS E]
theorem bal_ne {x a : Bal} (h : ¬ x = a) : (decide (x.c = a.c) && decide (x.v = a.v)) = false := by
  cases hc : (decide (x.c = a.c) && decide (x.v = a.v)) with
  | false => rfl
  | true =>
    simp only [Bool.and_eq_true, decide_eq_true_eq] at hc
    obtain ⟨c, v⟩ := x
    obtain ⟨c', v'⟩ := a
    simp only [Bal.mk.injEq] at h
    exact absurd hc h
theorem loop188b (l : List Bal) (k0 : Nat) (hN : l.length < 4611686018427387904) : ∀ (n j k : Nat) (l' : List Bal), l.length - (k0 + j) ≤ n → l'.length = l.length → 1 ≤ j → k + 1 ≤ k0 + j → k0 + j ≤ l.length → (∀ i, k0 + j ≤ i + 1 → l'[i]? = l[i]?) → ∀ a, l[k0 + j - 1]? = some a →
    ∃ (k' : Nat) (l'' : List Bal), l''.length = l.length ∧ k' + 1 ≤ l.length ∧ l''.take k' = l'.take k ++ keepNew a (l.drop (k0 + j)) ∧
    loopW E 1 [0, 3, 4, 5] [] (.trim [0, 3, 4, 5] [2] [(2, [0, 3])] [] s188_4) (some ⟨[(0, .hsl (.ext 0) 0 l.length), (3, .p (.int .i64 k)), (4, .hsl (.ext 0) k0 (l.length - k0)), (5, .p (.int .i64 j))], [(.ext 0, some (.parr (l'.map Bal.pv) 2 false))]⟩) =
    some (.ex 2, ⟨[(0, .hsl (.ext 0) 0 l.length), (3, .p (.int .i64 k'))], [(.ext 0, some (.parr (l''.map Bal.pv) 2 false))]⟩) := by
  generalize hK : loopW E 1 _ _ _ = K
  intro n
  induction n with
  | zero =>
    intro j k l' hn hl hj hk hp hag a ha
    refine ⟨k, l', hl, by omega, ?_, ?_⟩
    · rw [List.drop_eq_nil_of_le (by omega), keepNew, List.append_nil]
    · have f1 : ¬ (j : Int) < ((l.length - k0 : Nat) : Int) := by omega
      rw [← hK, loopW_some, hK]
      simp -implicitDefEqProofs only [go_sem, Bal.pv, s188_4, s188_3, s188_2, f1]
  | succ n ih =>
    intro j k l' hn hl hj hk hp hag a ha
    by_cases h : k0 + j < l.length
    · have f1 : (j : Int) < ((l.length - k0 : Nat) : Int) := by omega
      have f2 := wAdd1 j (by omega)
      have f3 : IntKind.i64.wrap ((j : Int) - 1) = ((j - 1 : Nat) : Int) := wSub j 1 (by omega) (by omega)
      have n1 : (0 : Int) ≤ (j : Int) := by omega
      have n2 : (0 : Int) ≤ ((j - 1 : Nat) : Int) := by omega
      have i1 : j < l.length - k0 := by omega
      have i2 : j - 1 < l.length - k0 := by omega
      obtain ⟨x, hx⟩ : ∃ x, l[k0 + j]? = some x := ⟨_, List.getElem?_eq_getElem h⟩
      have g1 : l'[k0 + j]? = some x := by rw [hag _ (by omega)]; exact hx
      have g2 : l'[k0 + (j - 1)]? = some a := by rw [hag _ (by omega), ← ha]; congr 1; omega
      have h0 : k0 + (l.length - k0) ≤ l.length := by omega
      have hd : l.drop (k0 + j) = x :: l.drop (k0 + (j + 1)) := by
        rw [List.drop_eq_getElem_cons h]
        congr 1
        rw [List.getElem?_eq_getElem h] at hx
        exact Option.some.inj hx
      by_cases hxa : x = a
      · subst hxa
        obtain ⟨k', l'', r1, r2, r3, r4⟩ := ih (j + 1) k l' (by omega) hl (by omega) (by omega) (by omega) (fun i hi => hag i (by omega)) x (by rw [← hx]; congr 1)
        refine ⟨k', l'', r1, r2, by rw [r3, hd, keepNew, if_pos rfl], ?_⟩
        rw [← hK, loopW_some, hK]
        simp -implicitDefEqProofs only [go_sem, Bal.pv, s188_4, s188_3, s188_2, f1, f2, f3, n1, n2, i1, i2, g1, g2, h0, hl]
        exact r4
      · have hkl : k < l'.length := by omega
        have hkl2 : k < l.length := by omega
        obtain ⟨z, hz⟩ : ∃ z, l'[k]? = some z := ⟨_, List.getElem?_eq_getElem hkl⟩
        have n3 : (0 : Int) ≤ (k : Int) := by omega
        have h00 : 0 + l.length ≤ l'.length := by omega
        have f4 := wAdd1 k (by omega)
        obtain ⟨k', l'', r1, r2, r3, r4⟩ := ih (j + 1) (k + 1) (l'.set k x) (by omega) (by simp [hl]) (by omega) (by omega) (by omega) (fun i hi => by rw [List.getElem?_set_ne (by omega)]; exact hag i (by omega)) x (by rw [← hx]; congr 1)
        refine ⟨k', l'', r1, r2, ?_, ?_⟩
        · rw [r3, hd, keepNew, if_neg hxa, take_set_succ _ _ _ hkl, List.append_assoc]; rfl
        · rw [List.map_set] at r4
          simp only [Bal.pv] at r4
          rw [← hK, loopW_some, hK]
          simp -implicitDefEqProofs only [go_sem, Bal.pv, s188_4, s188_3, s188_2, f1, f2, f3, f4, n1, n2, n3, i1, i2, g1, g2, h0, h00, hl, bal_ne hxa, hz, hkl2, setE]
          exact r4
    · refine ⟨k, l', hl, by omega, ?_, ?_⟩
      · rw [List.drop_eq_nil_of_le (by omega), keepNew, List.append_nil]
      · have f1 : ¬ (j : Int) < ((l.length - k0 : Nat) : Int) := by omega
        rw [← hK, loopW_some, hK]
        simp -implicitDefEqProofs only [go_sem, Bal.pv, s188_4, s188_3, s188_2, f1]
theorem loop188a (l : List Bal) (hN : l.length < 4611686018427387904) : ∀ (n k : Nat) (a : Bal), l.length - k ≤ n → 1 ≤ k → k ≤ l.length → l[k - 1]? = some a →
    (keepNew a (l.drop k) = l.drop k ∧ loopW E 1 [0, 3] [] (.trim [0, 3] [2] [(0, [0])] [] s188_8) (some ⟨[(0, .hsl (.ext 0) 0 l.length), (3, .p (.int .i64 k))], [(.ext 0, some (.parr (l.map Bal.pv) 2 false))]⟩) = some (.ex 0, ⟨[(0, .hsl (.ext 0) 0 l.length)], [(.ext 0, some (.parr (l.map Bal.pv) 2 false))]⟩)) ∨
    (∃ (k' : Nat) (l3 : List Bal), l3.length = l.length ∧ k' ≤ l.length ∧ l3.take k' = l.take k ++ keepNew a (l.drop k) ∧ loopW E 1 [0, 3] [] (.trim [0, 3] [2] [(0, [0])] [] s188_8) (some ⟨[(0, .hsl (.ext 0) 0 l.length), (3, .p (.int .i64 k))], [(.ext 0, some (.parr (l.map Bal.pv) 2 false))]⟩) = some (.ret, ⟨[(2, .hsl (.ext 0) 0 k')], [(.ext 0, some (.parr (l3.map Bal.pv) 2 false))]⟩)) := by
  generalize hK : loopW E 1 _ _ _ = K
  intro n
  induction n with
  | zero =>
    intro k a hn hk hkl ha
    have f1 : ¬ (k : Int) < (l.length : Int) := by omega
    refine .inl ⟨by rw [List.drop_eq_nil_of_le (by omega), keepNew], ?_⟩
    rw [← hK, loopW_some, hK]
    simp -implicitDefEqProofs only [go_sem, Bal.pv, s188_8, s188_7, s188_6, s188_5, f1]
  | succ n ih =>
    intro k a hn hk hkl ha
    by_cases h : k < l.length
    · have f1 : (k : Int) < (l.length : Int) := by omega
      have f2 := wAdd1 k (by omega)
      have f3 : IntKind.i64.wrap ((k : Int) - 1) = ((k - 1 : Nat) : Int) := wSub k 1 (by omega) (by omega)
      have n1 : (0 : Int) ≤ (k : Int) := by omega
      have n2 : (0 : Int) ≤ ((k - 1 : Nat) : Int) := by omega
      have i2 : k - 1 < l.length := by omega
      obtain ⟨x, hx⟩ : ∃ x, l[k]? = some x := ⟨_, List.getElem?_eq_getElem h⟩
      have hd : l.drop k = x :: l.drop (k + 1) := by
        rw [List.drop_eq_getElem_cons h]
        congr 1
        rw [List.getElem?_eq_getElem h] at hx
        exact Option.some.inj hx
      have h0 : 0 + l.length ≤ l.length := by omega
      by_cases hxa : x = a
      · subst hxa
        right
        have lp := loop188b (E := E) l k hN _ 1 k l (Nat.le_refl _) rfl (by omega) (by omega) (by omega) (fun _ _ => rfl) x (by rw [← hx]; congr 1)
        obtain ⟨k', l'', r1, r2, r3, r4⟩ := lp
        rw [Int.natCast_one] at r4
        have h1 : k ≤ l.length := by omega
        have h2 : k' ≤ l.length := by omega
        have h3 : ¬ (l.length - k' = 0) := by omega
        have h4 : k' + (l.length - k') ≤ l.length := by omega
        have n3 : (0 : Int) ≤ (k' : Int) := by omega
        have z1 : (k : Int) ≤ (l.length : Int) := by omega
        have z2 : (k' : Int) ≤ (l.length : Int) := by omega
        have hlen : (l''.take k' ++ List.replicate (l.length - k') (⟨0, ByteArray.empty⟩ : Bal) ++ l''.drop (k' + (l.length - k'))).length = l.length := by simp; omega
        refine ⟨k', l''.take k' ++ List.replicate (l.length - k') (⟨0, ByteArray.empty⟩ : Bal) ++ l''.drop (k' + (l.length - k')), hlen, h2, ?_, ?_⟩
        · rw [List.append_assoc, List.take_append_of_le_length (by simp; omega), List.take_take, Nat.min_self, r3, hd, keepNew, if_pos rfl]
        · rw [List.map_append, List.map_append, List.map_replicate, List.map_take, List.map_drop]
          rw [← hK, loopW_some, hK]
          simp -implicitDefEqProofs only [go_sem, Bal.pv, s188_8, s188_7, s188_6, s188_5, s188_7, s188_6, s188_5, f1, f3, n1, n2, i2, h, ha, hx, h0, h1, h2, h3, h4, n3, z1, z2, r1, r4, List.length_map, Nat.sub_zero]
      · rcases ih (k + 1) x (by omega) (by omega) h (by rw [← hx]; congr 1) with ⟨r1, r2⟩ | ⟨k', l3, r1, r2, r3, r4⟩
        · left
          refine ⟨by rw [hd, keepNew, if_neg hxa, r1], ?_⟩
          rw [← hK, loopW_some, hK]
          simp -implicitDefEqProofs only [go_sem, Bal.pv, s188_8, s188_7, s188_6, s188_5, f1, f2, f3, n1, n2, i2, h, ha, hx, h0, bal_ne hxa]
          exact r2
        · right
          refine ⟨k', l3, r1, r2, ?_, ?_⟩
          · rw [r3, hd, keepNew, if_neg hxa, List.take_add_one, hx, List.append_assoc]; rfl
          · rw [← hK, loopW_some, hK]
            simp -implicitDefEqProofs only [go_sem, Bal.pv, s188_8, s188_7, s188_6, s188_5, f1, f2, f3, n1, n2, i2, h, ha, hx, h0, bal_ne hxa]
            exact r4
    · have f1 : ¬ (k : Int) < (l.length : Int) := by omega
      refine .inl ⟨by rw [List.drop_eq_nil_of_le (by omega), keepNew], ?_⟩
      rw [← hK, loopW_some, hK]
      simp -implicitDefEqProofs only [go_sem, Bal.pv, s188_8, s188_7, s188_6, s188_5, f1]
theorem e188 (l : List Bal) (hN : l.length < 4611686018427387904) : ∃ es : List PV, callW E 188 [.hsl (.ext 0) 0 l.length] [.parr (l.map Bal.pv) 2 false] = some ⟨.p (.sl 2 ((compactL l).map Bal.pv)), [.parr es 2 true], []⟩ := by
  by_cases h : l.length < 2
  · have f1 : (l.length : Int) < 2 := by omega
    have hc : compactL l = l := by
      match l, h with
      | [], _ => rfl
      | [a], _ => rfl
    refine ⟨l.map Bal.pv, ?_⟩
    rw [hc]
    rw [callW_eq, EnvS.h 188 F188 rfl]
    simp -implicitDefEqProofs only [go_sem, Bal.pv, F188, s188, s188_1, f1, fin1_hsl]
  · have f1 : ¬ (l.length : Int) < 2 := by omega
    obtain ⟨a, r, rfl⟩ : ∃ a r, l = a :: r := by
      match l, h with
      | [], h => simp at h
      | a :: r, _ => exact ⟨a, r, rfl⟩
    have hl := loop188a (E := E) (a :: r) hN _ 1 a (Nat.le_refl _) (Nat.le_refl _) (by simp) rfl
    rw [Int.natCast_one] at hl
    simp only [List.drop_succ_cons, List.drop_zero, List.take_succ_cons, List.take_zero] at hl
    rcases hl with ⟨r1, r2⟩ | ⟨k', l3, r1, r2, r3, r4⟩
    · refine ⟨(a :: r).map Bal.pv, ?_⟩
      rw [compactL, r1]
      generalize hg : a :: r = l at *
      rw [callW_eq, EnvS.h 188 F188 rfl]
      simp -implicitDefEqProofs only [go_sem, Bal.pv, F188, s188, s188_9, f1, r2, fin1_hsl]
    · refine ⟨l3.map Bal.pv, ?_⟩
      rw [compactL, show a :: keepNew a r = l3.take k' from r3.symm, List.map_take]
      generalize hg : a :: r = l at *
      have h0 : 0 + k' ≤ l3.length := by omega
      rw [callW_eq, EnvS.h 188 F188 rfl]
      simp -implicitDefEqProofs only [go_sem, Bal.pv, F188, s188, s188_9, f1, r4, r1, r2, h0, fin1_hsl]
theorem raw188 : E.raw 188 = true := raw_T 188 F188 rfl rfl
theorem raw105 : E.raw 105 = true := raw_T 105 F105 rfl rfl
attribute [go_sem] raw188 raw105
/-- A list sorted, what stands twice left out. -/
def uniqB (l : List Bal) : List Bal := compactL (Sort.sort ltB l.toArray).toList
theorem e105 (l : List Bal) (hN : l.length < 50) : ∃ es : List PV, callW E 105 [.hsl (.ext 0) 0 l.length, .fn 108 [] []] [.parr (l.map Bal.pv) 2 false] = some ⟨.p (.sl 2 ((uniqB l).map Bal.pv)), [.parr es 2 true], []⟩ := by
  have e1 := e187 (E := E) l.toArray (by simpa using hN)
  have hs : (Sort.sort ltB l.toArray).toList.length = l.length := by
    have := (Go.Sort.sort_sorts ltB swo_ltB l.toArray).1.1
    simpa using this
  obtain ⟨es, e2⟩ := e188 (E := E) (Sort.sort ltB l.toArray).toList (by omega)
  rw [hs] at e2
  refine ⟨es, ?_⟩
  rw [List.size_toArray] at e1
  unfold uniqB
  rw [callW_eq, EnvS.h 105 F105 rfl]
  simp -implicitDefEqProofs only [go_sem, Bal.pv, F105, s105, e1, e2]
end Go.Ab.S.SB

namespace Go.Ab.S.SB
open Go Go.Ab Go.Ab.S
variable {E : Env} [EnvS E]

/-! ### Deleting the zero ballots -/
theorem finX_rawS (F : SFn) (st : St) (k : Nat) (es : List PV) (z : Nat) (b : Bool) (hF : F.rawR = true) (hx : hget st.H (.ext 0) = some (.parr es z b)) : finX F 1 st (some [.hsl (.ext 0) 0 k]) = some ⟨.hsl (.ext 0) 0 k, [.parr es z b], []⟩ := by
  rw [finX_succ]
  unfold finish.finishG
  have hre : reach st.H 64 (extNs 0 1 ++ namesL [.hsl (.ext 0) 0 k]) [] = some [.ext 0] := by simp [reach, extNs, AObj.names, namesL, AV.names, hx]
  simp only [hF, if_true]
  rw [hre]
  simp [extNs, renL, AV.ren, hgets, hx, renOs, AObj.ren, outNm, tup1]
def gS (ns : List Nm) (ups : Hp) : Option AV → Option (List AObj) → Option Dl
  | some v, some outs => some { v, up := zipUp ns outs ++ ups }
  | _, _ => none
theorem gS_some (ns : List Nm) (ups : Hp) (v : AV) (outs : List AObj) : gS ns ups (some v) (some outs) = some { v, up := zipUp ns outs ++ ups } := _root_.id rfl
theorem gG_hsl (H : Hp) (r i : Nat) (n : Nm) (ns : List Nm) (ups : Hp) (x : Nm) (o k : Nat) (outs : List AObj) (h : outs.length = (n :: ns).length) : gG H r i (n :: ns) ups (some ⟨.hsl x o k, outs, []⟩) = gS (n :: ns) ups ((AV.hsl x o k).ren (fromExt (n :: ns) r i)) (renOs (fromExt (n :: ns) r i) outs) := by
  simp only [gG, callEnd, h, newUp, freeH, and_self, if_true]
  cases (AV.hsl x o k).ren (fromExt (n :: ns) r i) <;> cases renOs (fromExt (n :: ns) r i) outs <;> rfl
attribute [go_sem] gS_some gG_hsl
theorem raw189 : E.raw 189 = true := raw_T 189 F189 rfl rfl
theorem raw106 : E.raw 106 = true := raw_T 106 F106 rfl rfl
attribute [go_sem] raw189 raw106
theorem loop189 (l : List Bal) (hN : l.length < 4611686018427387904) : ∀ (n i : Nat), l.length - i ≤ n → i ≤ l.length →
    loopW E 1 [0, 1, 7, 8] [] (.trim [0, 1, 7, 8] [4] [(0, [])] [] s189_3) (some ⟨[(0, .hsl (.ext 0) 0 l.length), (1, .fn 107 [] []), (7, .p (.int .i64 l.length)), (8, .p (.int .i64 i))], [(.ext 0, some (.parr (l.map Bal.pv) 2 false))]⟩) =
    (match (l.drop i).findIdx? zeroB with
      | some q => some (.ret, ⟨[(4, .p (.int .i64 (i + q : Nat)))], [(.ext 0, some (.parr (l.map Bal.pv) 2 false))]⟩)
      | none => some (.ex 0, ⟨[], [(.ext 0, some (.parr (l.map Bal.pv) 2 false))]⟩)) := by
  generalize hK : loopW E 1 _ _ _ = K
  intro n
  induction n with
  | zero =>
    intro i hn hi
    have f1 : ¬ (i : Int) < (l.length : Int) := by omega
    rw [List.drop_eq_nil_of_le (by omega)]
    rw [← hK, loopW_some, hK]
    simp -implicitDefEqProofs only [go_sem, s189_3, s189_2, s189_1, f1, List.findIdx?_nil]
  | succ n ih =>
    intro i hn hi
    by_cases h : i < l.length
    · have f1 : (i : Int) < (l.length : Int) := by omega
      have f2 := wAdd1 i (by omega)
      have n1 : (0 : Int) ≤ (i : Int) := by omega
      obtain ⟨x, hx⟩ : ∃ x, l[i]? = some x := ⟨_, List.getElem?_eq_getElem h⟩
      have hd : l.drop i = x :: l.drop (i + 1) := by
        rw [List.drop_eq_getElem_cons h]
        congr 1
        rw [List.getElem?_eq_getElem h] at hx
        exact Option.some.inj hx
      have e1 := e107 (E := E) x
      rw [hd, List.findIdx?_cons]
      cases hz : zeroB x with
      | true =>
        rw [hz] at e1
        rw [← hK, loopW_some, hK]
        simp -implicitDefEqProofs only [go_sem, Bal.pv, s189_3, s189_2, s189_1, f1, f2, n1, h, hx, e1, Nat.add_zero]
      | false =>
        rw [hz] at e1
        have ih' := ih (i + 1) (by omega) h
        rw [← hK, loopW_some, hK]
        simp -implicitDefEqProofs only [go_sem, Bal.pv, s189_3, s189_2, s189_1, f1, f2, n1, h, hx, e1]
        rw [ih']
        cases (l.drop (i + 1)).findIdx? zeroB with
        | none => rfl
        | some q => simp only [Option.map_some]; rw [Nat.add_assoc, Nat.add_comm 1 q]
    · have f1 : ¬ (i : Int) < (l.length : Int) := by omega
      rw [List.drop_eq_nil_of_le (by omega)]
      rw [← hK, loopW_some, hK]
      simp -implicitDefEqProofs only [go_sem, s189_3, s189_2, s189_1, f1, List.findIdx?_nil]
theorem e189 (l : List Bal) (hN : l.length < 4611686018427387904) : callW E 189 [.hsl (.ext 0) 0 l.length, .fn 107 [] []] [.parr (l.map Bal.pv) 2 false] =
    some ⟨.p (.int .i64 (match l.findIdx? zeroB with | some q => (q : Int) | none => -1)), [.parr (l.map Bal.pv) 2 false], []⟩ := by
  have lp := loop189 (E := E) l hN _ 0 (Nat.le_refl _) (Nat.zero_le _)
  rw [List.drop_zero] at lp
  simp only [Int.natCast_zero, Nat.zero_add] at lp
  rw [callW_eq, EnvS.h 189 F189 rfl]
  cases h : l.findIdx? zeroB with
  | none =>
    rw [h] at lp
    simp -implicitDefEqProofs only [go_sem, F189, s189, s189_4, lp]
  | some q =>
    rw [h] at lp
    simp -implicitDefEqProofs only [go_sem, F189, s189, s189_4, lp]
theorem take_set_succ' (l : List Bal) (k : Nat) (x : Bal) (h : k < l.length) : (l.set k x).take (k + 1) = l.take k ++ [x] := by
  rw [List.take_add_one, List.getElem?_set_self h, List.take_set_of_le (Nat.le_refl k)]
  rfl
theorem loop106 (l : List Bal) (hN : l.length < 4611686018427387904) : ∀ (n j i : Nat) (l' : List Bal), l.length - j ≤ n → l'.length = l.length → i + 1 ≤ j → j ≤ l.length → (∀ q, j ≤ q → l'[q]? = l[q]?) →
    ∃ (i' : Nat) (l'' : List Bal), l''.length = l.length ∧ i' + 1 ≤ l.length ∧ l''.take i' = l'.take i ++ (l.drop j).filter (fun x => !zeroB x) ∧
    loopW E 1 [0, 1, 5, 6] [] (.trim [0, 1, 5, 6] [4] [(0, [0, 5])] [] s106_4) (some ⟨[(0, .hsl (.ext 0) 0 l.length), (1, .fn 107 [] []), (5, .p (.int .i64 i)), (6, .p (.int .i64 j))], [(.ext 0, some (.parr (l'.map Bal.pv) 2 false))]⟩) =
    some (.ex 0, ⟨[(0, .hsl (.ext 0) 0 l.length), (5, .p (.int .i64 i'))], [(.ext 0, some (.parr (l''.map Bal.pv) 2 false))]⟩) := by
  generalize hK : loopW E 1 _ _ _ = K
  intro n
  induction n with
  | zero =>
    intro j i l' hn hl hij hj hag
    refine ⟨i, l', hl, by omega, by rw [List.drop_eq_nil_of_le (by omega)]; simp, ?_⟩
    have f1 : ¬ (j : Int) < (l.length : Int) := by omega
    rw [← hK, loopW_some, hK]
    simp -implicitDefEqProofs only [go_sem, s106_4, s106_3, s106_2, f1]
  | succ n ih =>
    intro j i l' hn hl hij hj hag
    by_cases h : j < l.length
    · have f1 : (j : Int) < (l.length : Int) := by omega
      have f2 := wAdd1 j (by omega)
      have f3 := wAdd1 i (by omega)
      have n1 : (0 : Int) ≤ (j : Int) := by omega
      have n2 : (0 : Int) ≤ (i : Int) := by omega
      obtain ⟨x, hx⟩ : ∃ x, l[j]? = some x := ⟨_, List.getElem?_eq_getElem h⟩
      have g1 : l'[j]? = some x := by rw [hag j (Nat.le_refl _)]; exact hx
      have hd : l.drop j = x :: l.drop (j + 1) := by
        rw [List.drop_eq_getElem_cons h]
        congr 1
        rw [List.getElem?_eq_getElem h] at hx
        exact Option.some.inj hx
      have e1 := e107 (E := E) x
      have hil : i < l'.length := by omega
      have hil2 : i < l.length := by omega
      obtain ⟨z, hz⟩ : ∃ z, l'[i]? = some z := ⟨_, List.getElem?_eq_getElem hil⟩
      cases hzx : zeroB x with
      | true =>
        rw [hzx] at e1
        obtain ⟨i', l'', r1, r2, r3, r4⟩ := ih (j + 1) i l' (by omega) hl (by omega) h (fun q hq => hag q (by omega))
        refine ⟨i', l'', r1, r2, by rw [r3, hd, List.filter_cons]; simp [hzx], ?_⟩
        rw [← hK, loopW_some, hK]
        simp -implicitDefEqProofs only [go_sem, Bal.pv, s106_4, s106_3, s106_2, f1, f2, n1, h, g1, hl, e1]
        exact r4
      | false =>
        rw [hzx] at e1
        obtain ⟨i', l'', r1, r2, r3, r4⟩ := ih (j + 1) (i + 1) (l'.set i x) (by omega) (by simp [hl]) (by omega) h (fun q hq => by rw [List.getElem?_set_ne (by omega)]; exact hag q (by omega))
        refine ⟨i', l'', r1, r2, ?_, ?_⟩
        · rw [r3, take_set_succ' _ _ _ hil, hd, List.filter_cons]; simp [hzx]
        · rw [List.map_set] at r4
          simp only [Bal.pv] at r4
          rw [← hK, loopW_some, hK]
          simp -implicitDefEqProofs only [go_sem, Bal.pv, s106_4, s106_3, s106_2, f1, f2, f3, n1, n2, h, g1, hl, e1, hil2, hz, setE]
          exact r4
    · refine ⟨i, l', hl, by omega, by rw [List.drop_eq_nil_of_le (by omega)]; simp, ?_⟩
      have f1 : ¬ (j : Int) < (l.length : Int) := by omega
      rw [← hK, loopW_some, hK]
      simp -implicitDefEqProofs only [go_sem, s106_4, s106_3, s106_2, f1]
theorem findIdx_take {l : List Bal} : ∀ {q : Nat}, l.findIdx? zeroB = some q → q < l.length ∧ l.filter (fun x => !zeroB x) = l.take q ++ (l.drop (q + 1)).filter (fun x => !zeroB x) := by
  induction l with
  | nil => intro q h; simp at h
  | cons x r ih =>
    intro q h
    rw [List.findIdx?_cons] at h
    cases hz : zeroB x with
    | true => rw [hz] at h; simp at h; subst h; simp [hz]
    | false =>
      rw [hz] at h
      simp only [Bool.false_eq_true, if_false, Option.map_eq_some_iff] at h
      obtain ⟨p, hp, rfl⟩ := h
      obtain ⟨h1, h2⟩ := ih hp
      exact ⟨by simp; omega, by rw [List.filter_cons]; simp [hz, h2]⟩
theorem findIdx_none {l : List Bal} (h : l.findIdx? zeroB = none) : l.filter (fun x => !zeroB x) = l := by
  rw [List.filter_eq_self]
  intro x hx
  have := List.findIdx?_eq_none_iff.1 h x hx
  simp [this]
/-- slices.DeleteFunc with Zero. -/
theorem e106 (l : List Bal) (hN : l.length < 4611686018427387904) :
    callW E 106 [.hsl (.ext 0) 0 l.length, .fn 107 [] []] [.parr (l.map Bal.pv) 2 false] = some ⟨.hsl (.ext 0) 0 (l.filter (fun x => !zeroB x)).length, [.parr ((l.filter (fun x => !zeroB x)).map Bal.pv) 2 false], []⟩ := by
  have e1 := e189 (E := E) l hN
  cases hf : l.findIdx? zeroB with
  | none =>
    rw [findIdx_none hf]
    rw [hf] at e1
    dsimp only at e1
    rw [callW_eq, EnvS.h 106 F106 rfl]
    simp -implicitDefEqProofs only [go_sem, F106, s106, s106_1, e1]
    exact finX_rawS _ _ _ _ _ _ rfl rfl
  | some q =>
    rw [hf] at e1
    dsimp only at e1
    obtain ⟨h1, h2⟩ := findIdx_take hf
    have f1 : ¬ (q : Int) = -1 := by omega
    have f2 := wAdd1 q (by omega)
    obtain ⟨i', l'', r1, r2, r3, r4⟩ := loop106 (E := E) l hN _ (q + 1) q l (Nat.le_refl _) rfl (Nat.le_refl _) h1 (fun _ _ => rfl)
    rw [← h2] at r3
    have hi : (l.filter (fun x => !zeroB x)).length = i' := by rw [← r3, List.length_take]; omega
    rw [hi]
    have h3 : ¬ (l.length - i' = 0) := by omega
    have h4 : i' + (l.length - i') ≤ l.length := by omega
    have n3 : (0 : Int) ≤ (i' : Int) := by omega
    have z2 : (i' : Int) ≤ (l.length : Int) := by omega
    have h5 : i' ≤ l.length := by omega
    have hm : List.take i' (List.map Bal.pv l'' ) = (l.filter (fun x => !zeroB x)).map Bal.pv := by rw [← List.map_take, r3]
    have ht : List.take i' ((l.filter (fun x => !zeroB x)).map Bal.pv ++ List.replicate (l.length - i') (.agg [.int .i64 0, .str ByteArray.empty]) ++ List.drop (i' + (l.length - i')) (List.map Bal.pv l'')) = (l.filter (fun x => !zeroB x)).map Bal.pv := by
      rw [List.append_assoc, List.take_append_of_le_length (by simp; omega), List.take_of_length_le (by simp; omega)]
    rw [callW_eq, EnvS.h 106 F106 rfl]
    simp -implicitDefEqProofs only [go_sem, Bal.pv, F106, s106, s106_5, e1, f1, f2, r4, h3, h4, h5, n3, z2, r1, List.length_map, Nat.sub_zero, hm, ht]
    exact finX_rawS _ _ _ _ _ _ rfl rfl
end Go.Ab.S.SB

namespace Go.Ab.S.SV
open Go Go.Ab Go.Ab.S
variable {E : Env} [EnvS E]
set_option maxRecDepth 10000
theorem raw191 : E.raw 191 = true := raw_T 191 F191 rfl rfl
theorem raw229 : E.raw 229 = true := raw_T 229 F229 rfl rfl
theorem raw264 : E.raw 264 = true := raw_T 264 F264 rfl rfl
theorem raw265 : E.raw 265 = true := raw_T 265 F265 rfl rfl
theorem raw266 : E.raw 266 = true := raw_T 266 F266 rfl rfl
theorem raw267 : E.raw 267 = true := raw_T 267 F267 rfl rfl
theorem raw268 : E.raw 268 = true := raw_T 268 F268 rfl rfl
theorem raw269 : E.raw 269 = true := raw_T 269 F269 rfl rfl
theorem raw270 : E.raw 270 = true := raw_T 270 F270 rfl rfl
theorem raw271 : E.raw 271 = true := raw_T 271 F271 rfl rfl
theorem raw302 : E.raw 302 = true := raw_T 302 F302 rfl rfl
theorem raw303 : E.raw 303 = true := raw_T 303 F303 rfl rfl
theorem raw304 : E.raw 304 = true := raw_T 304 F304 rfl rfl
theorem raw318 : E.raw 318 = true := raw_T 318 F318 rfl rfl
attribute [go_sem] raw264 raw265 raw266 raw267 raw268 raw269 raw270 raw271 raw302 raw303 raw304 raw318 raw229 raw191
def ltV (x y : ByteArray) : Bool := decide (cmpV x y < 0)
theorem cmpV_lt (x y : ByteArray) : decide (cmpV x y < 0) = ltV x y := rfl
theorem ins_size (a : Nat) : ∀ (j : Nat) (d : Array ByteArray), (Sort.insInner ltV a j d).size = d.size
  | 0, d => rfl
  | j + 1, d => by
    rw [Sort.insInner]; split
    · rw [ins_size a j, swp_size]
    · rfl
/-! ### The heap -/
theorem sift_size (hi first : Nat) : ∀ (n root : Nat) (d : Array ByteArray), hi - root ≤ n → (Sort.siftDown ltV hi first root d).size = d.size := by
  intro n
  induction n with
  | zero =>
    intro root d h
    rw [Sort.siftDown, dif_pos (by omega)]
  | succ n ih =>
    intro root d h
    rw [Sort.siftDown]
    split
    · rfl
    · split
      · split
        · rfl
        · split
          · rw [ih _ _ (by omega), swp_size]
          · rfl
      · split
        · rfl
        · rw [ih _ _ (by omega), swp_size]
theorem siftS (hi first root : Nat) (d : Array ByteArray) : (Sort.siftDown ltV hi first root d).size = d.size := sift_size hi first _ root d (Nat.le_refl _)
theorem build_size (hi first : Nat) : ∀ (k : Nat) (d : Array ByteArray), (Sort.heapBuild ltV hi first k d).size = d.size
  | 0, d => rfl
  | k + 1, d => by rw [Sort.heapBuild, build_size hi first k, siftS]
/-! ### Turning a range round -/
/-! ### Breaking patterns -/
theorem brk_step (a len modulus : Nat) (hl : 8 ≤ len) (hl2 : len < 1024) (hm : 0 < modulus) (hm2 : modulus ≤ 2 * len) (d : Array ByteArray) (had : a + len ≤ d.size) (hs : d.size < 1152921504606846976) (i : Nat) (hi : i ≤ a + len / 4 * 2 + 1) (r : UInt64) :
    loopW E 1 [0, 1, 8, 9, 10, 11] [.loc 2 2 0] (.trim [0, 1, 8, 9, 10, 11] [] [(0, [])] [.loc 2 2 0] s266_3) (some ⟨[(0, .hsl (.ext 0) 0 d.size), (1, .p (.int .i64 a)), (8, .p (.int .i64 len)), (9, .ptr (.loc 2 2 0) 0), (10, .p (.int .u64 modulus)), (11, .p (.int .i64 i))], [(.ext 0, some (.parr (d.toList.map .str) 1 false)), (.loc 2 2 0, some (.box [.p (.int .u64 r.toNat)]))]⟩) =
    loopW E 1 [0, 1, 8, 9, 10, 11] [.loc 2 2 0] (.trim [0, 1, 8, 9, 10, 11] [] [(0, [])] [.loc 2 2 0] s266_3) (some ⟨[(0, .hsl (.ext 0) 0 d.size), (1, .p (.int .i64 a)), (8, .p (.int .i64 len)), (9, .ptr (.loc 2 2 0) 0), (10, .p (.int .u64 modulus)), (11, .p (.int .i64 (i + 1 : Nat)))], [(.ext 0, some (.parr ((Sort.breakStep a len modulus (r, d) i).2.toList.map .str) 1 false)), (.loc 2 2 0, some (.box [.p (.int .u64 (Sort.breakStep a len modulus (r, d) i).1.toNat)]))]⟩) := by
  generalize hK : loopW E 1 _ _ _ = K
  rw [← hK, loopW_some, hK]
  have e1 := e299 (E := E) r
  have hrl := UInt64.toNat_lt (Sort.xorNext r)
  have q1 : IntKind.i64.wrap ((len : Int).tdiv 4) = ((len / 4 : Nat) : Int) := by
    rw [show (len : Int).tdiv 4 = ((len / 4 : Nat) : Int) from rfl, wrapN _ (by omega)]
  have q2 : IntKind.i64.wrap (((len / 4 : Nat) : Int) * 2) = ((len / 4 * 2 : Nat) : Int) := by rw [wrap64 (by omega) (by omega)]; omega
  have q3 := wAdd a (len / 4 * 2) (by omega)
  have q4 := wAdd1 (a + len / 4 * 2) (by omega)
  have f1 : (i : Int) ≤ ((a + len / 4 * 2 + 1 : Nat) : Int) := by omega
  have q5 : IntKind.u64.wrap ((modulus : Int) - 1) = ((modulus - 1 : Nat) : Int) := by
    rw [show (modulus : Int) - 1 = ((modulus - 1 : Nat) : Int) by omega, u64w _ (by omega)]
  have q6 := andU (Sort.xorNext r).toNat (modulus - 1) hrl (by omega)
  have hand : (Sort.xorNext r).toNat &&& (modulus - 1) ≤ modulus - 1 := Nat.and_le_right
  unfold Sort.breakStep
  dsimp only
  generalize (Sort.xorNext r).toNat &&& (modulus - 1) = o at *
  have q7 := wrapN o (by omega)
  have w1 := wAdd1 i (by omega)
  have n1 : (0 : Int) ≤ (i : Int) := by omega
  have i1 : i < d.size := by omega
  have g1 := ar_get i1
  have h0 : 0 + d.size ≤ d.size := by omega
  have a0 : d.toList.length = d.size := Array.length_toList
  by_cases h : o ≥ len
  · have f2 : (len : Int) ≤ (o : Int) := by omega
    have q8 := wSub o len h (by omega)
    have q9 := wAdd a (o - len) (by omega)
    have n2 : (0 : Int) ≤ ((a + (o - len) : Nat) : Int) := by omega
    have i2 : a + (o - len) < d.size := by omega
    have g2 := ar_get i2
    obtain ⟨y, hy⟩ := set_get .str d i (a + (o - len)) d[a + (o - len)]! i2
    rw [if_pos h, swp_map]
    simp -implicitDefEqProofs only [go_sem, s266_3, s266_2, s266_1, q1, q2, q3, q4, f1, e1, q5, q6, q7, f2, q8, q9, w1, n1, n2, i1, i2, g1, g2, h0, a0, hy, setE, List.length_map, List.length_set]
  · have f2 : ¬ (len : Int) ≤ (o : Int) := by omega
    have q9 := wAdd a o (by omega)
    have n2 : (0 : Int) ≤ ((a + o : Nat) : Int) := by omega
    have i2 : a + o < d.size := by omega
    have g2 := ar_get i2
    obtain ⟨y, hy⟩ := set_get .str d i (a + o) d[a + o]! i2
    rw [if_neg h, swp_map]
    simp -implicitDefEqProofs only [go_sem, s266_3, s266_2, s266_1, q1, q2, q3, q4, f1, e1, q5, q6, q7, f2, q9, w1, n1, n2, i1, i2, g1, g2, h0, a0, hy, setE, List.length_map, List.length_set]
theorem step_size (a len modulus : Nat) (r : UInt64) (d : Array ByteArray) (i : Nat) : (Sort.breakStep a len modulus (r, d) i).2.size = d.size := by
  simp only [Sort.breakStep, swp_size]
/-! ### The pivot -/
theorem ord_lt {d : Array ByteArray} {a b s n : Nat} (ha : a < n) (hb : b < n) : (Sort.order2 ltV d a b s).1 < n ∧ (Sort.order2 ltV d a b s).2.1 < n ∧ (Sort.order2 ltV d a b s).2.2 ≤ s + 1 := by
  unfold Sort.order2
  split
  · exact ⟨hb, ha, Nat.le_refl _⟩
  · exact ⟨ha, hb, Nat.le_succ _⟩
/-! ### Scans -/
theorem scanUp_ge (p : ByteArray → Bool) (d : Array ByteArray) (j : Nat) : ∀ (n i : Nat), j + 1 - i ≤ n → i ≤ Sort.scanUp p d j i ∧ Sort.scanUp p d j i ≤ max i (j + 1) := by
  intro n
  induction n with
  | zero => intro i h; rw [Sort.scanUp, if_neg (by simp; omega)]; omega
  | succ n ih =>
    intro i h
    rw [Sort.scanUp]
    split
    · rename_i hc
      simp only [Bool.and_eq_true, decide_eq_true_eq] at hc
      have := ih (i + 1) (by omega)
      omega
    · omega
theorem scanDown_le (p : ByteArray → Bool) (d : Array ByteArray) (i : Nat) : ∀ j, Sort.scanDown p d i j ≤ j
  | 0 => Nat.le_refl 0
  | j + 1 => by
    rw [Sort.scanDown]
    split
    · exact Nat.le_succ_of_le (scanDown_le p d i j)
    · exact Nat.le_refl _
theorem up271_2 (d : Array ByteArray) (a j : Nat) (ha : a < d.size) (hj : j < d.size) (hs : d.size < 1152921504606846976) : ∀ (n i : Nat), j + 1 - i ≤ n → i < 1152921504606846977 →
    loopW E 1 [0, 1, 4, 12, 13] [] (.trim [0, 1, 4, 12, 13] [10, 11] [(0, [0, 1, 4, 12, 13])] [] s271_2) (some ⟨[(0, .hsl (.ext 0) 0 d.size), (1, .p (.int .i64 a)), (4, .fn 111 [] []), (12, .p (.int .i64 i)), (13, .p (.int .i64 j))], [(.ext 0, some (.parr (d.toList.map .str) 1 false))]⟩) = some (.ex 0, ⟨[(0, .hsl (.ext 0) 0 d.size), (1, .p (.int .i64 a)), (4, .fn 111 [] []), (12, .p (.int .i64 (Sort.scanUp (fun x => ltV x d[a]!) d j i : Nat))), (13, .p (.int .i64 j))], [(.ext 0, some (.parr (d.toList.map .str) 1 false))]⟩) := by
  generalize hK : loopW E 1 _ _ _ = K
  intro n
  induction n with
  | zero =>
    intro i hn hi
    have f1 : ¬ (i : Int) ≤ (j : Int) := by omega
    rw [Sort.scanUp, if_neg (by simp; omega)]
    rw [← hK, loopW_some, hK]
    simp -implicitDefEqProofs only [go_sem, s271_2, s271_1, f1]
  | succ n ih =>
    intro i hn hi
    by_cases h : i ≤ j
    · have f1 : (i : Int) ≤ (j : Int) := by omega
      have n1 : (0 : Int) ≤ (i : Int) := by omega
      have n2 : (0 : Int) ≤ (a : Int) := by omega
      have i1 : i < d.size := by omega
      have g1 := ar_get i1
      have g2 := ar_get ha
      have h0 : 0 + d.size ≤ d.size := by omega
      have a0 : d.toList.length = d.size := Array.length_toList
      have w1 := wAdd1 i (by omega)
      have e1 := e111 (E := E) d[i]! d[a]!
      have e2 := cmpV_lt d[i]! d[a]!
      cases hl : ltV d[i]! d[a]! with
      | true =>
        rw [hl] at e2
        have e3 := of_decide_eq_true e2
        rw [Sort.scanUp, if_pos (by simp [h, hl])]
        have ih' := ih (i + 1) (by omega) (by omega)
        rw [← hK, loopW_some, hK]
        simp -implicitDefEqProofs only [go_sem, s271_2, s271_1, f1, n1, n2, i1, ha, g1, g2, h0, a0, w1, e1, e3]
        exact ih'
      | false =>
        rw [hl] at e2
        have e3 := of_decide_eq_false e2
        rw [Sort.scanUp, if_neg (by simp [hl])]
        rw [← hK, loopW_some, hK]
        simp -implicitDefEqProofs only [go_sem, s271_2, s271_1, f1, n1, n2, i1, ha, g1, g2, h0, a0, w1, e1, e3]
    · have f1 : ¬ (i : Int) ≤ (j : Int) := by omega
      rw [Sort.scanUp, if_neg (by simp; omega)]
      rw [← hK, loopW_some, hK]
      simp -implicitDefEqProofs only [go_sem, s271_2, s271_1, f1]
theorem down271_5 (d : Array ByteArray) (a i : Nat) (ha : a < d.size) (hi1 : 1 ≤ i) (hs : d.size < 1152921504606846976) : ∀ (j : Nat), j < d.size →
    loopW E 1 [0, 1, 4, 12, 13] [] (.trim [0, 1, 4, 12, 13] [10, 11] [(2, [0, 1, 4, 12, 13])] [] s271_5) (some ⟨[(0, .hsl (.ext 0) 0 d.size), (1, .p (.int .i64 a)), (4, .fn 111 [] []), (12, .p (.int .i64 i)), (13, .p (.int .i64 j))], [(.ext 0, some (.parr (d.toList.map .str) 1 false))]⟩) = some (.ex 2, ⟨[(0, .hsl (.ext 0) 0 d.size), (1, .p (.int .i64 a)), (4, .fn 111 [] []), (12, .p (.int .i64 i)), (13, .p (.int .i64 (Sort.scanDown (fun x => !ltV x d[a]!) d i j : Nat)))], [(.ext 0, some (.parr (d.toList.map .str) 1 false))]⟩) := by
  generalize hK : loopW E 1 _ _ _ = K
  intro j
  induction j with
  | zero =>
    intro hj
    have f1 : ¬ (i : Int) ≤ 0 := by omega
    rw [Sort.scanDown]
    rw [← hK, loopW_some, hK]
    simp -implicitDefEqProofs only [go_sem, s271_5, s271_4, f1, Int.natCast_zero]
  | succ j ih =>
    intro hj
    by_cases h : i ≤ j + 1
    · have f1 : (i : Int) ≤ ((j + 1 : Nat) : Int) := by omega
      have n1 : (0 : Int) ≤ ((j + 1 : Nat) : Int) := by omega
      have n2 : (0 : Int) ≤ (a : Int) := by omega
      have g1 := ar_get hj
      have g2 := ar_get ha
      have h0 : 0 + d.size ≤ d.size := by omega
      have a0 : d.toList.length = d.size := Array.length_toList
      have w1 := wSub1 j (by omega)
      have e1 := e111 (E := E) d[j + 1]! d[a]!
      have e2 := cmpV_lt d[j + 1]! d[a]!
      cases hl : ltV d[j + 1]! d[a]! with
      | false =>
        rw [hl] at e2
        have e3 := of_decide_eq_false e2
        rw [Sort.scanDown, if_pos (by simp [h, hl])]
        have ih' := ih (by omega)
        rw [← hK, loopW_some, hK]
        simp -implicitDefEqProofs only [go_sem, s271_5, s271_4, f1, n1, n2, hj, ha, g1, g2, h0, a0, w1, e1, e3]
        exact ih'
      | true =>
        rw [hl] at e2
        have e3 := of_decide_eq_true e2
        rw [Sort.scanDown, if_neg (by simp [hl])]
        rw [← hK, loopW_some, hK]
        simp -implicitDefEqProofs only [go_sem, s271_5, s271_4, f1, n1, n2, hj, ha, g1, g2, h0, a0, w1, e1, e3]
    · have f1 : ¬ (i : Int) ≤ ((j + 1 : Nat) : Int) := by omega
      rw [Sort.scanDown, if_neg (by simp; omega)]
      rw [← hK, loopW_some, hK]
      simp -implicitDefEqProofs only [go_sem, s271_5, s271_4, f1]
theorem up271_9 (d : Array ByteArray) (a j : Nat) (ha : a < d.size) (hj : j < d.size) (hs : d.size < 1152921504606846976) : ∀ (n i : Nat), j + 1 - i ≤ n → i < 1152921504606846977 →
    loopW E 1 [0, 1, 4, 12, 13] [] (.trim [0, 1, 4, 12, 13] [10, 11] [(6, [0, 1, 4, 12, 13])] [] s271_9) (some ⟨[(0, .hsl (.ext 0) 0 d.size), (1, .p (.int .i64 a)), (4, .fn 111 [] []), (12, .p (.int .i64 i)), (13, .p (.int .i64 j))], [(.ext 0, some (.parr (d.toList.map .str) 1 false))]⟩) = some (.ex 6, ⟨[(0, .hsl (.ext 0) 0 d.size), (1, .p (.int .i64 a)), (4, .fn 111 [] []), (12, .p (.int .i64 (Sort.scanUp (fun x => ltV x d[a]!) d j i : Nat))), (13, .p (.int .i64 j))], [(.ext 0, some (.parr (d.toList.map .str) 1 false))]⟩) := by
  generalize hK : loopW E 1 _ _ _ = K
  intro n
  induction n with
  | zero =>
    intro i hn hi
    have f1 : ¬ (i : Int) ≤ (j : Int) := by omega
    rw [Sort.scanUp, if_neg (by simp; omega)]
    rw [← hK, loopW_some, hK]
    simp -implicitDefEqProofs only [go_sem, s271_9, s271_8, f1]
  | succ n ih =>
    intro i hn hi
    by_cases h : i ≤ j
    · have f1 : (i : Int) ≤ (j : Int) := by omega
      have n1 : (0 : Int) ≤ (i : Int) := by omega
      have n2 : (0 : Int) ≤ (a : Int) := by omega
      have i1 : i < d.size := by omega
      have g1 := ar_get i1
      have g2 := ar_get ha
      have h0 : 0 + d.size ≤ d.size := by omega
      have a0 : d.toList.length = d.size := Array.length_toList
      have w1 := wAdd1 i (by omega)
      have e1 := e111 (E := E) d[i]! d[a]!
      have e2 := cmpV_lt d[i]! d[a]!
      cases hl : ltV d[i]! d[a]! with
      | true =>
        rw [hl] at e2
        have e3 := of_decide_eq_true e2
        rw [Sort.scanUp, if_pos (by simp [h, hl])]
        have ih' := ih (i + 1) (by omega) (by omega)
        rw [← hK, loopW_some, hK]
        simp -implicitDefEqProofs only [go_sem, s271_9, s271_8, f1, n1, n2, i1, ha, g1, g2, h0, a0, w1, e1, e3]
        exact ih'
      | false =>
        rw [hl] at e2
        have e3 := of_decide_eq_false e2
        rw [Sort.scanUp, if_neg (by simp [hl])]
        rw [← hK, loopW_some, hK]
        simp -implicitDefEqProofs only [go_sem, s271_9, s271_8, f1, n1, n2, i1, ha, g1, g2, h0, a0, w1, e1, e3]
    · have f1 : ¬ (i : Int) ≤ (j : Int) := by omega
      rw [Sort.scanUp, if_neg (by simp; omega)]
      rw [← hK, loopW_some, hK]
      simp -implicitDefEqProofs only [go_sem, s271_9, s271_8, f1]
theorem down271_12 (d : Array ByteArray) (a i : Nat) (ha : a < d.size) (hi1 : 1 ≤ i) (hs : d.size < 1152921504606846976) : ∀ (j : Nat), j < d.size →
    loopW E 1 [0, 1, 4, 12, 13] [] (.trim [0, 1, 4, 12, 13] [10, 11] [(8, [0, 1, 4, 12, 13])] [] s271_12) (some ⟨[(0, .hsl (.ext 0) 0 d.size), (1, .p (.int .i64 a)), (4, .fn 111 [] []), (12, .p (.int .i64 i)), (13, .p (.int .i64 j))], [(.ext 0, some (.parr (d.toList.map .str) 1 false))]⟩) = some (.ex 8, ⟨[(0, .hsl (.ext 0) 0 d.size), (1, .p (.int .i64 a)), (4, .fn 111 [] []), (12, .p (.int .i64 i)), (13, .p (.int .i64 (Sort.scanDown (fun x => !ltV x d[a]!) d i j : Nat)))], [(.ext 0, some (.parr (d.toList.map .str) 1 false))]⟩) := by
  generalize hK : loopW E 1 _ _ _ = K
  intro j
  induction j with
  | zero =>
    intro hj
    have f1 : ¬ (i : Int) ≤ 0 := by omega
    rw [Sort.scanDown]
    rw [← hK, loopW_some, hK]
    simp -implicitDefEqProofs only [go_sem, s271_12, s271_11, f1, Int.natCast_zero]
  | succ j ih =>
    intro hj
    by_cases h : i ≤ j + 1
    · have f1 : (i : Int) ≤ ((j + 1 : Nat) : Int) := by omega
      have n1 : (0 : Int) ≤ ((j + 1 : Nat) : Int) := by omega
      have n2 : (0 : Int) ≤ (a : Int) := by omega
      have g1 := ar_get hj
      have g2 := ar_get ha
      have h0 : 0 + d.size ≤ d.size := by omega
      have a0 : d.toList.length = d.size := Array.length_toList
      have w1 := wSub1 j (by omega)
      have e1 := e111 (E := E) d[j + 1]! d[a]!
      have e2 := cmpV_lt d[j + 1]! d[a]!
      cases hl : ltV d[j + 1]! d[a]! with
      | false =>
        rw [hl] at e2
        have e3 := of_decide_eq_false e2
        rw [Sort.scanDown, if_pos (by simp [h, hl])]
        have ih' := ih (by omega)
        rw [← hK, loopW_some, hK]
        simp -implicitDefEqProofs only [go_sem, s271_12, s271_11, f1, n1, n2, hj, ha, g1, g2, h0, a0, w1, e1, e3]
        exact ih'
      | true =>
        rw [hl] at e2
        have e3 := of_decide_eq_true e2
        rw [Sort.scanDown, if_neg (by simp [hl])]
        rw [← hK, loopW_some, hK]
        simp -implicitDefEqProofs only [go_sem, s271_12, s271_11, f1, n1, n2, hj, ha, g1, g2, h0, a0, w1, e1, e3]
    · have f1 : ¬ (i : Int) ≤ ((j + 1 : Nat) : Int) := by omega
      rw [Sort.scanDown, if_neg (by simp; omega)]
      rw [← hK, loopW_some, hK]
      simp -implicitDefEqProofs only [go_sem, s271_12, s271_11, f1]
theorem up270_2 (d : Array ByteArray) (a j : Nat) (ha : a < d.size) (hj : j < d.size) (hs : d.size < 1152921504606846976) : ∀ (n i : Nat), j + 1 - i ≤ n → i < 1152921504606846977 →
    loopW E 1 [0, 1, 4, 11, 12] [] (.trim [0, 1, 4, 11, 12] [10] [(2, [0, 1, 4, 11, 12])] [] s270_2) (some ⟨[(0, .hsl (.ext 0) 0 d.size), (1, .p (.int .i64 a)), (4, .fn 111 [] []), (11, .p (.int .i64 i)), (12, .p (.int .i64 j))], [(.ext 0, some (.parr (d.toList.map .str) 1 false))]⟩) = some (.ex 2, ⟨[(0, .hsl (.ext 0) 0 d.size), (1, .p (.int .i64 a)), (4, .fn 111 [] []), (11, .p (.int .i64 (Sort.scanUp (fun x => !ltV d[a]! x) d j i : Nat))), (12, .p (.int .i64 j))], [(.ext 0, some (.parr (d.toList.map .str) 1 false))]⟩) := by
  generalize hK : loopW E 1 _ _ _ = K
  intro n
  induction n with
  | zero =>
    intro i hn hi
    have f1 : ¬ (i : Int) ≤ (j : Int) := by omega
    rw [Sort.scanUp, if_neg (by simp; omega)]
    rw [← hK, loopW_some, hK]
    simp -implicitDefEqProofs only [go_sem, s270_2, s270_1, f1]
  | succ n ih =>
    intro i hn hi
    by_cases h : i ≤ j
    · have f1 : (i : Int) ≤ (j : Int) := by omega
      have n1 : (0 : Int) ≤ (i : Int) := by omega
      have n2 : (0 : Int) ≤ (a : Int) := by omega
      have i1 : i < d.size := by omega
      have g1 := ar_get i1
      have g2 := ar_get ha
      have h0 : 0 + d.size ≤ d.size := by omega
      have a0 : d.toList.length = d.size := Array.length_toList
      have w1 := wAdd1 i (by omega)
      have e1 := e111 (E := E) d[a]! d[i]!
      have e2 := cmpV_lt d[a]! d[i]!
      cases hl : ltV d[a]! d[i]! with
      | false =>
        rw [hl] at e2
        have e3 := of_decide_eq_false e2
        rw [Sort.scanUp, if_pos (by simp [h, hl])]
        have ih' := ih (i + 1) (by omega) (by omega)
        rw [← hK, loopW_some, hK]
        simp -implicitDefEqProofs only [go_sem, s270_2, s270_1, f1, n1, n2, i1, ha, g1, g2, h0, a0, w1, e1, e3]
        exact ih'
      | true =>
        rw [hl] at e2
        have e3 := of_decide_eq_true e2
        rw [Sort.scanUp, if_neg (by simp [hl])]
        rw [← hK, loopW_some, hK]
        simp -implicitDefEqProofs only [go_sem, s270_2, s270_1, f1, n1, n2, i1, ha, g1, g2, h0, a0, w1, e1, e3]
    · have f1 : ¬ (i : Int) ≤ (j : Int) := by omega
      rw [Sort.scanUp, if_neg (by simp; omega)]
      rw [← hK, loopW_some, hK]
      simp -implicitDefEqProofs only [go_sem, s270_2, s270_1, f1]
theorem down270_5 (d : Array ByteArray) (a i : Nat) (ha : a < d.size) (hi1 : 1 ≤ i) (hs : d.size < 1152921504606846976) : ∀ (j : Nat), j < d.size →
    loopW E 1 [0, 1, 4, 11, 12] [] (.trim [0, 1, 4, 11, 12] [10] [(4, [0, 1, 4, 11, 12])] [] s270_5) (some ⟨[(0, .hsl (.ext 0) 0 d.size), (1, .p (.int .i64 a)), (4, .fn 111 [] []), (11, .p (.int .i64 i)), (12, .p (.int .i64 j))], [(.ext 0, some (.parr (d.toList.map .str) 1 false))]⟩) = some (.ex 4, ⟨[(0, .hsl (.ext 0) 0 d.size), (1, .p (.int .i64 a)), (4, .fn 111 [] []), (11, .p (.int .i64 i)), (12, .p (.int .i64 (Sort.scanDown (fun x => ltV d[a]! x) d i j : Nat)))], [(.ext 0, some (.parr (d.toList.map .str) 1 false))]⟩) := by
  generalize hK : loopW E 1 _ _ _ = K
  intro j
  induction j with
  | zero =>
    intro hj
    have f1 : ¬ (i : Int) ≤ 0 := by omega
    rw [Sort.scanDown]
    rw [← hK, loopW_some, hK]
    simp -implicitDefEqProofs only [go_sem, s270_5, s270_4, f1, Int.natCast_zero]
  | succ j ih =>
    intro hj
    by_cases h : i ≤ j + 1
    · have f1 : (i : Int) ≤ ((j + 1 : Nat) : Int) := by omega
      have n1 : (0 : Int) ≤ ((j + 1 : Nat) : Int) := by omega
      have n2 : (0 : Int) ≤ (a : Int) := by omega
      have g1 := ar_get hj
      have g2 := ar_get ha
      have h0 : 0 + d.size ≤ d.size := by omega
      have a0 : d.toList.length = d.size := Array.length_toList
      have w1 := wSub1 j (by omega)
      have e1 := e111 (E := E) d[a]! d[j + 1]!
      have e2 := cmpV_lt d[a]! d[j + 1]!
      cases hl : ltV d[a]! d[j + 1]! with
      | true =>
        rw [hl] at e2
        have e3 := of_decide_eq_true e2
        rw [Sort.scanDown, if_pos (by simp [h, hl])]
        have ih' := ih (by omega)
        rw [← hK, loopW_some, hK]
        simp -implicitDefEqProofs only [go_sem, s270_5, s270_4, f1, n1, n2, hj, ha, g1, g2, h0, a0, w1, e1, e3]
        exact ih'
      | false =>
        rw [hl] at e2
        have e3 := of_decide_eq_false e2
        rw [Sort.scanDown, if_neg (by simp [hl])]
        rw [← hK, loopW_some, hK]
        simp -implicitDefEqProofs only [go_sem, s270_5, s270_4, f1, n1, n2, hj, ha, g1, g2, h0, a0, w1, e1, e3]
    · have f1 : ¬ (i : Int) ≤ ((j + 1 : Nat) : Int) := by omega
      rw [Sort.scanDown, if_neg (by simp; omega)]
      rw [← hK, loopW_some, hK]
      simp -implicitDefEqProofs only [go_sem, s270_5, s270_4, f1]


/-! ### Partitions -/
theorem pl_size (a : Nat) : ∀ (n i j : Nat) (d : Array ByteArray), j + 1 - i ≤ n → (Sort.partLoop ltV a i j d).2.size = d.size ∧ (Sort.partLoop ltV a i j d).1 ≤ j := by
  intro n
  induction n with
  | zero =>
    intro i j d h
    rw [Sort.partLoop]
    have h1 := scanUp_ge (fun x => ltV x d[a]!) d j _ i (Nat.le_refl _)
    have h2 := scanDown_le (fun x => !ltV x d[a]!) d (Sort.scanUp (fun x => ltV x d[a]!) d j i) j
    rw [if_pos (by omega)]
    exact ⟨rfl, h2⟩
  | succ n ih =>
    intro i j d h
    rw [Sort.partLoop]
    have h1 := scanUp_ge (fun x => ltV x d[a]!) d j _ i (Nat.le_refl _)
    have h2 := scanDown_le (fun x => !ltV x d[a]!) d (Sort.scanUp (fun x => ltV x d[a]!) d j i) j
    split
    · exact ⟨rfl, h2⟩
    · split
      · obtain ⟨q1, q2⟩ := ih (Sort.scanUp (fun x => ltV x d[a]!) d j i + 1) (Sort.scanDown (fun x => !ltV x d[a]!) d (Sort.scanUp (fun x => ltV x d[a]!) d j i) j - 1) (Sort.swp d (Sort.scanUp (fun x => ltV x d[a]!) d j i) (Sort.scanDown (fun x => !ltV x d[a]!) d (Sort.scanUp (fun x => ltV x d[a]!) d j i) j)) (by omega)
        rw [swp_size] at q1
        exact ⟨q1, by omega⟩
      · exact ⟨rfl, h2⟩
theorem loop271 (a : Nat) : ∀ (n i j : Nat) (d : Array ByteArray), j + 1 - i ≤ n → a < d.size → j < d.size → 1 ≤ i → d.size < 1152921504606846976 → i < 1152921504606846976 →
    ∃ jj : Nat, jj = (Sort.partLoop ltV a i j d).1 ∧ loopW E 1 [0, 1, 4, 12, 13] [] (.trim [0, 1, 4, 12, 13] [10, 11] [(4, [0, 1, 13])] [] s271_15) (some ⟨[(0, .hsl (.ext 0) 0 d.size), (1, .p (.int .i64 a)), (4, .fn 111 [] []), (12, .p (.int .i64 i)), (13, .p (.int .i64 j))], [(.ext 0, some (.parr (d.toList.map .str) 1 false))]⟩) =
    some (.ex 4, ⟨[(0, .hsl (.ext 0) 0 d.size), (1, .p (.int .i64 a)), (13, .p (.int .i64 jj))], [(.ext 0, some (.parr ((Sort.partLoop ltV a i j d).2.toList.map .str) 1 false))]⟩) := by
  generalize hK : loopW E 1 _ _ _ = K
  intro n
  induction n with
  | zero =>
    intro i j d hn ha hj hi hs hi2
    refine ⟨_, rfl, ?_⟩
    have lp1 := up271_9 (E := E) d a j ha hj hs _ i (Nat.le_refl _) (by omega)
    have h1 := scanUp_ge (fun x => ltV x d[a]!) d j _ i (Nat.le_refl _)
    have lp2 := down271_12 (E := E) d a (Sort.scanUp (fun x => ltV x d[a]!) d j i) ha (by omega) hs j hj
    have h2 := scanDown_le (fun x => !ltV x d[a]!) d (Sort.scanUp (fun x => ltV x d[a]!) d j i) j
    rw [Sort.partLoop]
    generalize Sort.scanUp (fun x => ltV x d[a]!) d j i = i2 at *
    generalize Sort.scanDown (fun x => !ltV x d[a]!) d i2 j = j2 at *
    have f1 : (j2 : Int) < (i2 : Int) := by omega
    rw [if_pos (by omega)]
    rw [← hK, loopW_some, hK]
    simp -implicitDefEqProofs only [go_sem, s271_15, s271_14, s271_10, s271_13, lp1, lp2, f1]
  | succ n ih =>
    intro i j d hn ha hj hi hs hi2
    have lp1 := up271_9 (E := E) d a j ha hj hs _ i (Nat.le_refl _) (by omega)
    have h1 := scanUp_ge (fun x => ltV x d[a]!) d j _ i (Nat.le_refl _)
    have lp2 := down271_12 (E := E) d a (Sort.scanUp (fun x => ltV x d[a]!) d j i) ha (by omega) hs j hj
    have h2 := scanDown_le (fun x => !ltV x d[a]!) d (Sort.scanUp (fun x => ltV x d[a]!) d j i) j
    rw [Sort.partLoop]
    generalize Sort.scanUp (fun x => ltV x d[a]!) d j i = i2 at *
    generalize Sort.scanDown (fun x => !ltV x d[a]!) d i2 j = j2 at *
    by_cases h : i2 > j2
    · refine ⟨_, rfl, ?_⟩
      have f1 : (j2 : Int) < (i2 : Int) := by omega
      rw [if_pos h]
      rw [← hK, loopW_some, hK]
      simp -implicitDefEqProofs only [go_sem, s271_15, s271_14, s271_10, s271_13, lp1, lp2, f1]
    · have f1 : ¬ (j2 : Int) < (i2 : Int) := by omega
      rw [if_neg h, dif_pos (by omega)]
      obtain ⟨jj, r1, r2⟩ := ih (i2 + 1) (j2 - 1) (Sort.swp d i2 j2) (by omega) (by rw [swp_size]; exact ha) (by rw [swp_size]; omega) (by omega) (by rw [swp_size]; exact hs) (by omega)
      refine ⟨jj, r1, ?_⟩
      rw [swp_size, swp_map] at r2
      have n1 : (0 : Int) ≤ (i2 : Int) := by omega
      have n2 : (0 : Int) ≤ (j2 : Int) := by omega
      have i1 : i2 < d.size := by omega
      have j1 : j2 < d.size := by omega
      have g1 := ar_get i1
      have g2 := ar_get j1
      have h0 : 0 + d.size ≤ d.size := by omega
      have a0 : d.toList.length = d.size := Array.length_toList
      have w1 := wAdd1 i2 (by omega)
      have w2 : IntKind.i64.wrap ((j2 : Int) - 1) = ((j2 - 1 : Nat) : Int) := wSub j2 1 (by omega) (by omega)
      obtain ⟨y, hy⟩ := set_get .str d i2 j2 d[j2]! j1
      rw [← hK, loopW_some, hK]
      simp -implicitDefEqProofs only [go_sem, s271_15, s271_14, s271_10, s271_13, lp1, lp2, f1, n1, n2, i1, j1, g1, g2, h0, a0, w1, w2, hy, setE, List.length_map, List.length_set]
      exact r2
theorem e271 (d : Array ByteArray) (a b p : Nat) (hab : a + 1 < b) (hb : b ≤ d.size) (hp : p < d.size) (hs : d.size < 1152921504606846976) :
    callW E 271 [.hsl (.ext 0) 0 d.size, .p (.int .i64 a), .p (.int .i64 b), .p (.int .i64 p), .fn 111 [] []] [.parr (d.toList.map .str) 1 false] =
    some ⟨.tup [.p (.int .i64 (Sort.partition ltV d a b p).1), .p (.bool (Sort.partition ltV d a b p).2.1)], [.parr ((Sort.partition ltV d a b p).2.2.toList.map .str) 1 false], []⟩ := by
  have ha : a < d.size := by omega
  have n1 : (0 : Int) ≤ (a : Int) := by omega
  have n2 : (0 : Int) ≤ (p : Int) := by omega
  have g1 := ar_get ha
  have g2 := ar_get hp
  have h0 : 0 + d.size ≤ d.size := by omega
  have a0 : d.toList.length = d.size := Array.length_toList
  have w1 := wAdd1 a (by omega)
  have w2 : IntKind.i64.wrap ((b : Int) - 1) = ((b - 1 : Nat) : Int) := wSub b 1 (by omega) (by omega)
  obtain ⟨y, hy⟩ := set_get .str d a p d[p]! hp
  have z := swp_size d a p
  unfold Sort.partition
  dsimp only
  have hm := swp_map .str d a p
  have sw : callW E 271 [.hsl (.ext 0) 0 d.size, .p (.int .i64 a), .p (.int .i64 b), .p (.int .i64 p), .fn 111 [] []] [.parr (d.toList.map .str) 1 false] = callW E 271 [.hsl (.ext 0) 0 d.size, .p (.int .i64 a), .p (.int .i64 b), .p (.int .i64 p), .fn 111 [] []] [.parr (d.toList.map .str) 1 false] := rfl
  generalize hd1 : Sort.swp d a p = d1 at *
  have lp1 := up271_2 (E := E) d1 a (b - 1) (by omega) (by omega) (by omega) _ (a + 1) (Nat.le_refl _) (by omega)
  have h1 := scanUp_ge (fun x => ltV x d1[a]!) d1 (b - 1) _ (a + 1) (Nat.le_refl _)
  have lp2 := down271_5 (E := E) d1 a (Sort.scanUp (fun x => ltV x d1[a]!) d1 (b - 1) (a + 1)) (by omega) (by omega) (by omega) (b - 1) (by omega)
  have h2 := scanDown_le (fun x => !ltV x d1[a]!) d1 (Sort.scanUp (fun x => ltV x d1[a]!) d1 (b - 1) (a + 1)) (b - 1)
  generalize Sort.scanUp (fun x => ltV x d1[a]!) d1 (b - 1) (a + 1) = i2 at *
  generalize Sort.scanDown (fun x => !ltV x d1[a]!) d1 i2 (b - 1) = j2 at *
  rw [z] at lp1 lp2
  rw [hm] at lp1 lp2
  have j1 : j2 < d1.size := by omega
  have a1 : a < d1.size := by omega
  have gj := ar_get j1
  have ga := ar_get a1
  have gj' : (((d.toList.map .str).set a (.str d[p]!)).set p (.str d[a]!))[j2]? = some (PV.str d1[j2]!) := by rw [← hm, List.getElem?_map, gj]; rfl
  have ga' : (((d.toList.map .str).set a (.str d[p]!)).set p (.str d[a]!))[a]? = some (PV.str d1[a]!) := by rw [← hm, List.getElem?_map, ga]; rfl
  have nj : (0 : Int) ≤ (j2 : Int) := by omega
  have j1' : j2 < d.size := by omega
  by_cases h : i2 > j2
  · have f1 : (j2 : Int) < (i2 : Int) := by omega
    rw [if_pos h]
    dsimp only
    obtain ⟨y2, hy2⟩ := set_get .str d1 j2 a d1[a]! a1
    rw [swp_map, hm]
    rw [hm] at hy2
    rw [callW_eq, EnvS.h 271 F271 rfl]
    simp -implicitDefEqProofs only [go_sem, F271, s271, s271_3, s271_6, s271_7, n1, n2, ha, hp, g1, g2, h0, a0, w1, w2, hy, setE, List.length_map, List.length_set, lp1, lp2, f1, gj', ga', nj, j1', hy2]
  · have f1 : ¬ (j2 : Int) < (i2 : Int) := by omega
    rw [if_neg h]
    dsimp only
    have i1 : i2 < d1.size := by omega
    have i1' : i2 < d.size := by omega
    have gi := ar_get i1
    have gi' : (((d.toList.map .str).set a (.str d[p]!)).set p (.str d[a]!))[i2]? = some (PV.str d1[i2]!) := by rw [← hm, List.getElem?_map, gi]; rfl
    have ni : (0 : Int) ≤ (i2 : Int) := by omega
    obtain ⟨y2, hy2⟩ := set_get .str d1 i2 j2 d1[j2]! j1
    rw [hm] at hy2
    have w3 := wAdd1 i2 (by omega)
    have w4 : IntKind.i64.wrap ((j2 : Int) - 1) = ((j2 - 1 : Nat) : Int) := wSub j2 1 (by omega) (by omega)
    have z2 := swp_size d1 i2 j2
    have hm2 := swp_map .str d1 i2 j2
    rw [hm] at hm2
    generalize hd2 : Sort.swp d1 i2 j2 = d2 at *
    obtain ⟨jj, r1, lp3⟩ := loop271 (E := E) a _ (i2 + 1) (j2 - 1) d2 (Nat.le_refl _) (by omega) (by omega) (by omega) (by omega) (by omega)
    obtain ⟨z3, q3⟩ := pl_size a _ (i2 + 1) (j2 - 1) d2 (Nat.le_refl _)
    rw [z2, z, hm2] at lp3
    rw [← r1] at q3 ⊢
    generalize Sort.partLoop ltV a (i2 + 1) (j2 - 1) d2 = pl at *
    obtain ⟨j3, d3⟩ := pl
    dsimp only at r1 lp3 z3 ⊢
    have k1 : jj < d3.size := by omega
    have k1' : jj < d.size := by omega
    have k2 : a < d3.size := by omega
    have gk := ar_get k1
    have gl := ar_get k2
    have nk : (0 : Int) ≤ (jj : Int) := by omega
    have a3 : d3.toList.length = d.size := by rw [Array.length_toList]; omega
    obtain ⟨y3, hy3⟩ := set_get .str d3 jj a d3[a]! k2
    rw [swp_map]
    rw [callW_eq, EnvS.h 271 F271 rfl]
    simp -implicitDefEqProofs only [go_sem, F271, s271, s271_3, s271_6, s271_7, s271_16, n1, n2, ha, hp, g1, g2, h0, a0, w1, w2, hy, setE, List.length_map, List.length_set, lp1, lp2, f1, gj', gi', nj, ni, j1', i1', hy2, w3, w4, lp3, gk, gl, nk, k1', a3, hy3]


/-! ### The other partition -/
theorem loop270 (a : Nat) : ∀ (n i j : Nat) (d : Array ByteArray), j + 1 - i ≤ n → a < d.size → j < d.size → 1 ≤ i → d.size < 1152921504606846976 → i < 1152921504606846976 →
    loopW E 1 [0, 1, 4, 11, 12] [] (.trim [0, 1, 4, 11, 12] [10] [(0, [11])] [] s270_8) (some ⟨[(0, .hsl (.ext 0) 0 d.size), (1, .p (.int .i64 a)), (4, .fn 111 [] []), (11, .p (.int .i64 i)), (12, .p (.int .i64 j))], [(.ext 0, some (.parr (d.toList.map .str) 1 false))]⟩) =
    some (.ex 0, ⟨[(11, .p (.int .i64 (Sort.partEqLoop ltV a i j d).1))], [(.ext 0, some (.parr ((Sort.partEqLoop ltV a i j d).2.toList.map .str) 1 false))]⟩) := by
  generalize hK : loopW E 1 _ _ _ = K
  intro n
  induction n with
  | zero =>
    intro i j d hn ha hj hi hs hi2
    have lp1 := up270_2 (E := E) d a j ha hj hs _ i (Nat.le_refl _) (by omega)
    have h1 := scanUp_ge (fun x => !ltV d[a]! x) d j _ i (Nat.le_refl _)
    have lp2 := down270_5 (E := E) d a (Sort.scanUp (fun x => !ltV d[a]! x) d j i) ha (by omega) hs j hj
    have h2 := scanDown_le (fun x => ltV d[a]! x) d (Sort.scanUp (fun x => !ltV d[a]! x) d j i) j
    rw [Sort.partEqLoop]
    generalize Sort.scanUp (fun x => !ltV d[a]! x) d j i = i2 at *
    generalize Sort.scanDown (fun x => ltV d[a]! x) d i2 j = j2 at *
    have f1 : (j2 : Int) < (i2 : Int) := by omega
    rw [if_pos (by omega)]
    rw [← hK, loopW_some, hK]
    simp -implicitDefEqProofs only [go_sem, s270_8, s270_7, s270_3, s270_6, lp1, lp2, f1]
  | succ n ih =>
    intro i j d hn ha hj hi hs hi2
    have lp1 := up270_2 (E := E) d a j ha hj hs _ i (Nat.le_refl _) (by omega)
    have h1 := scanUp_ge (fun x => !ltV d[a]! x) d j _ i (Nat.le_refl _)
    have lp2 := down270_5 (E := E) d a (Sort.scanUp (fun x => !ltV d[a]! x) d j i) ha (by omega) hs j hj
    have h2 := scanDown_le (fun x => ltV d[a]! x) d (Sort.scanUp (fun x => !ltV d[a]! x) d j i) j
    rw [Sort.partEqLoop]
    generalize Sort.scanUp (fun x => !ltV d[a]! x) d j i = i2 at *
    generalize Sort.scanDown (fun x => ltV d[a]! x) d i2 j = j2 at *
    by_cases h : i2 > j2
    · have f1 : (j2 : Int) < (i2 : Int) := by omega
      rw [if_pos h]
      rw [← hK, loopW_some, hK]
      simp -implicitDefEqProofs only [go_sem, s270_8, s270_7, s270_3, s270_6, lp1, lp2, f1]
    · have f1 : ¬ (j2 : Int) < (i2 : Int) := by omega
      rw [if_neg h, dif_pos (by omega)]
      have r2 := ih (i2 + 1) (j2 - 1) (Sort.swp d i2 j2) (by omega) (by rw [swp_size]; exact ha) (by rw [swp_size]; omega) (by omega) (by rw [swp_size]; exact hs) (by omega)
      rw [swp_size, swp_map] at r2
      have n1 : (0 : Int) ≤ (i2 : Int) := by omega
      have n2 : (0 : Int) ≤ (j2 : Int) := by omega
      have i1 : i2 < d.size := by omega
      have j1 : j2 < d.size := by omega
      have g1 := ar_get i1
      have g2 := ar_get j1
      have h0 : 0 + d.size ≤ d.size := by omega
      have a0 : d.toList.length = d.size := Array.length_toList
      have w1 := wAdd1 i2 (by omega)
      have w2 : IntKind.i64.wrap ((j2 : Int) - 1) = ((j2 - 1 : Nat) : Int) := wSub j2 1 (by omega) (by omega)
      obtain ⟨y, hy⟩ := set_get .str d i2 j2 d[j2]! j1
      rw [← hK, loopW_some, hK]
      simp -implicitDefEqProofs only [go_sem, s270_8, s270_7, s270_3, s270_6, lp1, lp2, f1, n1, n2, i1, j1, g1, g2, h0, a0, w1, w2, hy, setE, List.length_map, List.length_set]
      exact r2
theorem e270 (d : Array ByteArray) (a b p : Nat) (hab : a + 1 < b) (hb : b ≤ d.size) (hp : p < d.size) (hs : d.size < 1152921504606846976) :
    callW E 270 [.hsl (.ext 0) 0 d.size, .p (.int .i64 a), .p (.int .i64 b), .p (.int .i64 p), .fn 111 [] []] [.parr (d.toList.map .str) 1 false] =
    some ⟨.p (.int .i64 (Sort.partitionEqual ltV d a b p).1), [.parr ((Sort.partitionEqual ltV d a b p).2.toList.map .str) 1 false], []⟩ := by
  have ha : a < d.size := by omega
  have n1 : (0 : Int) ≤ (a : Int) := by omega
  have n2 : (0 : Int) ≤ (p : Int) := by omega
  have g1 := ar_get ha
  have g2 := ar_get hp
  have h0 : 0 + d.size ≤ d.size := by omega
  have a0 : d.toList.length = d.size := Array.length_toList
  have w1 := wAdd1 a (by omega)
  have w2 : IntKind.i64.wrap ((b : Int) - 1) = ((b - 1 : Nat) : Int) := wSub b 1 (by omega) (by omega)
  obtain ⟨y, hy⟩ := set_get .str d a p d[p]! hp
  have z := swp_size d a p
  unfold Sort.partitionEqual
  have lp := loop270 (E := E) a _ (a + 1) (b - 1) (Sort.swp d a p) (Nat.le_refl _) (by omega) (by omega) (by omega) (by omega) (by omega)
  rw [swp_size, swp_map] at lp
  rw [callW_eq, EnvS.h 270 F270 rfl]
  simp -implicitDefEqProofs only [go_sem, F270, s270, s270_9, n1, n2, ha, hp, g1, g2, h0, a0, w1, w2, hy, setE, List.length_map, List.length_set, lp]

/-! ### What may be in order already -/
theorem loop269i (a b : Nat) (j : Int) (d : Array ByteArray) (hb : b ≤ d.size) (hs : d.size < 1152921504606846976) : ∀ (n i : Nat), b - i ≤ n → 1 ≤ i → i < 1152921504606846977 →
    loopW E 1 [0, 1, 2, 3, 9, 10] [] (.trim [0, 1, 2, 3, 9, 10] [8] [(2, [0, 1, 2, 3, 9, 10])] [] s269_2) (some ⟨[(0, .hsl (.ext 0) 0 d.size), (1, .p (.int .i64 a)), (2, .p (.int .i64 b)), (3, .fn 111 [] []), (9, .p (.int .i64 i)), (10, .p (.int .i64 j))], [(.ext 0, some (.parr (d.toList.map .str) 1 false))]⟩) =
    some (.ex 2, ⟨[(0, .hsl (.ext 0) 0 d.size), (1, .p (.int .i64 a)), (2, .p (.int .i64 b)), (3, .fn 111 [] []), (9, .p (.int .i64 (Sort.scanSorted ltV d b i : Nat))), (10, .p (.int .i64 j))], [(.ext 0, some (.parr (d.toList.map .str) 1 false))]⟩) := by
  generalize hK : loopW E 1 _ _ _ = K
  intro n
  induction n with
  | zero =>
    intro i hn h1 hi
    have f1 : ¬ (i : Int) < (b : Int) := by omega
    rw [Sort.scanSorted, if_neg (by simp; omega)]
    rw [← hK, loopW_some, hK]
    simp -implicitDefEqProofs only [go_sem, s269_2, s269_1, f1]
  | succ n ih =>
    intro i hn h1 hi
    by_cases h : i < b
    · have f1 : (i : Int) < (b : Int) := by omega
      have n1 : (0 : Int) ≤ (i : Int) := by omega
      have n2 : (0 : Int) ≤ ((i - 1 : Nat) : Int) := by omega
      have i1 : i < d.size := by omega
      have i2 : i - 1 < d.size := by omega
      have g1 := ar_get i1
      have g2 := ar_get i2
      have h0 : 0 + d.size ≤ d.size := by omega
      have a0 : d.toList.length = d.size := Array.length_toList
      have w1 := wAdd1 i (by omega)
      have w2 : IntKind.i64.wrap ((i : Int) - 1) = ((i - 1 : Nat) : Int) := wSub i 1 (by omega) (by omega)
      have e1 := e111 (E := E) d[i]! d[i - 1]!
      have e2 := cmpV_lt d[i]! d[i - 1]!
      cases hl : ltV d[i]! d[i - 1]! with
      | false =>
        rw [hl] at e2
        have e3 := of_decide_eq_false e2
        rw [Sort.scanSorted, if_pos (by simp [h, hl])]
        have ih' := ih (i + 1) (by omega) (by omega) (by omega)
        rw [← hK, loopW_some, hK]
        simp -implicitDefEqProofs only [go_sem, s269_2, s269_1, f1, n1, n2, i1, i2, g1, g2, h0, a0, w1, w2, e1, e3]
        exact ih'
      | true =>
        rw [hl] at e2
        have e3 := of_decide_eq_true e2
        rw [Sort.scanSorted, if_neg (by simp [hl])]
        rw [← hK, loopW_some, hK]
        simp -implicitDefEqProofs only [go_sem, s269_2, s269_1, f1, n1, n2, i1, i2, g1, g2, h0, a0, w1, w2, e1, e3]
    · have f1 : ¬ (i : Int) < (b : Int) := by omega
      rw [Sort.scanSorted, if_neg (by simp; omega)]
      rw [← hK, loopW_some, hK]
      simp -implicitDefEqProofs only [go_sem, s269_2, s269_1, f1]
theorem pi_eq (d : Array ByteArray) (a b : Nat) (h : b - a < 50) : Sort.partialInsertionSort ltV d a b = (d, decide (Sort.scanSorted ltV d b (a + 1) = b)) := by
  rw [Sort.partialInsertionSort, Sort.partialIns]
  dsimp only
  by_cases h1 : Sort.scanSorted ltV d b (a + 1) = b
  · rw [if_pos h1]; simp [h1]
  · rw [if_neg h1, if_pos h]; simp [h1]
theorem e269 (d : Array ByteArray) (a b : Nat) (hab : a < b) (hb : b ≤ d.size) (hs : d.size < 50) :
    callW E 269 [.hsl (.ext 0) 0 d.size, .p (.int .i64 a), .p (.int .i64 b), .fn 111 [] []] [.parr (d.toList.map .str) 1 false] =
    some ⟨.p (.bool (Sort.partialInsertionSort ltV d a b).2), [.parr (d.toList.map .str) 1 false], []⟩ := by
  rw [pi_eq _ _ _ (by omega)]
  dsimp only
  have w1 := wAdd1 a (by omega)
  have w2 := wSub b a (by omega) (by omega)
  have f1 : ((b - a : Nat) : Int) < 50 := by omega
  have lp := loop269i (E := E) a b 0 d hb (by omega) _ (a + 1) (Nat.le_refl _) (by omega) (by omega)
  generalize Sort.scanSorted ltV d b (a + 1) = i2 at *
  rw [callW_eq, EnvS.h 269 F269 rfl]
  by_cases h : i2 = b
  · subst h
    have f2 : decide (i2 = i2) = true := by simp
    rw [f2]
    simp -implicitDefEqProofs only [go_sem, F269, s269, s269_16, s269_15, s269_14, s269_3, s269_4, s269_5, s269_9, s269_8, s269_13, s269_12, loopW_some, w1, w2, lp]
  · have f2 : decide (i2 = b) = false := by simp [h]
    have f3 : ¬ (i2 : Int) = (b : Int) := by omega
    rw [f2]
    simp -implicitDefEqProofs only [go_sem, F269, s269, s269_16, s269_15, s269_14, s269_3, s269_4, s269_5, s269_9, s269_8, s269_13, s269_12, loopW_some, w1, w2, f1, f3, lp]


/-! ### The sort -/
theorem cmpV_less (x y : ByteArray) : ltV x y = lessV x y := by
  unfold ltV lessV cmpV or2 cmpI cmpS
  by_cases h : x.size = y.size
  · simp only [h, if_true]
    by_cases h2 : Op.bytesLess x.toList y.toList = true
    · simp [h2]
    · by_cases h3 : x = y
      · subst h3; simp [bl_irrefl]
      · simp [h2, h3]
  · by_cases h1 : x.size < y.size
    · have : (x.size : Int) < y.size := by omega
      simp [h, h1, this]
    · have h2 : (y.size : Int) < x.size := by omega
      have h3 : ¬ (x.size : Int) < y.size := by omega
      simp [h, h1, h2, h3]
theorem swo_ltV : Sort.SWO ltV where
  irrefl x := by rw [cmpV_less]; exact lv_irrefl x
  trans x y z h1 h2 := by rw [cmpV_less] at *; exact lv_trans h1 h2
  ntrans x y z h1 h2 := by
    rw [cmpV_less] at *
    cases h : lessV x z with
    | false => rfl
    | true =>
      exfalso
      cases h3 : lessV z y with
      | true => rw [lv_trans h h3] at h1; cases h1
      | false =>
        have : y = z := lv_total h2 h3
        subst this
        rw [h1] at h; cases h
section
variable {a b : Nat} {d d' : Array ByteArray}
theorem below_perm (hb : b ≤ d.size) (h : Sort.PermIn a b d d') (hB : Sort.Below ltV a b d) : Sort.Below ltV a b d' := by
  rcases hB with h0 | hB
  · exact .inl h0
  · rcases Nat.eq_zero_or_pos a with h0 | ha
    · exact .inl h0
    right
    intro i h1 h2
    rw [h.2.1 (a - 1) (.inl (by omega))]
    exact Go.Sort.permIn_all d d' a b (fun x => ltV x d[a - 1]! = false) hb h hB i h1 h2
theorem below_eq (ha : ∀ i, a ≤ i + 1 → i < b → d'[i]! = d[i]!) (hB : Sort.Below ltV a b d) : Sort.Below ltV a b d' := by
  rcases hB with h0 | hB
  · exact .inl h0
  · rcases Nat.eq_zero_or_pos a with h0 | ha0
    · exact .inl h0
    right
    intro i h1 h2
    rw [ha i (by omega) h2, ha (a - 1) (by omega) (by omega)]
    exact hB i h1 h2
theorem below_less {c : Nat} (hc : c ≤ b) (hB : Sort.Below ltV a b d) : Sort.Below ltV a c d := by
  rcases hB with h0 | hB
  · exact .inl h0
  · exact .inr fun i h1 h2 => hB i h1 (by omega)
end
/-- What a call of it does, for ranges of so many. -/
def SortCall (E : Env) (N n : Nat) : Prop := ∀ (d : Array ByteArray) (a b limit : Nat), d.size = N → a ≤ b → b - a ≤ n → b ≤ N → N < 50 → limit < 1000 → Sort.Below ltV a b d →
  callW E 229 [.hsl (.ext 0) 0 N, .p (.int .i64 a), .p (.int .i64 b), .p (.int .i64 limit), .fn 111 [] []] [.parr (d.toList.map .str) 1 false] = some ⟨.tup [], [.parr ((Sort.pdq ltV d a b limit true true).toList.map .str) 1 false], []⟩
def p231b : SCode := (.seq (.reg 20 [{ dst := some 106, op := .mv (.t 0) }, { dst := some 107, op := .mv (.t 1) }, { dst := some 108, op := .mv (.t 2) }, { dst := some 109, op := .mv (.t 13) }, { dst := some 110, op := .mv (.t 4) }, { dst := some 111, op := .call (.f 271) [.t 106, .t 107, .t 108, .t 109, .t 110] }, { dst := some 105, op := .mv (.t 111) }, { dst := some 112, op := .ext (.t 105) 0 }, { dst := some 113, op := .ext (.t 105) 1 }, { dst := some 16, op := .mv (.t 112) }, { dst := some 17, op := .mv (.t 113) }]) (.seq (.reg 21 [{ dst := some 114, op := .mv (.t 17) }, { dst := some 11, op := .mv (.t 114) }]) (.seq (.reg 22 [{ dst := some 115, op := .mv (.t 16) }, { dst := some 116, op := .mv (.t 1) }, { dst := some 117, op := .bin .sub (.t 115) (.t 116) }, { dst := some 118, op := .mv (.t 2) }, { dst := some 119, op := .mv (.t 16) }, { dst := some 120, op := .bin .sub (.t 118) (.t 119) }, { dst := some 18, op := .mv (.t 117) }, { dst := some 19, op := .mv (.t 120) }]) (.seq (.reg 23 [{ dst := some 121, op := .mv (.t 12) }, { dst := some 122, op := .bin .quo (.t 121) (.c (.int .i64 (8))) }, { dst := some 20, op := .mv (.t 122) }]) (.seq (.reg 24 [{ dst := some 123, op := .mv (.t 18) }, { dst := some 124, op := .mv (.t 19) }, { dst := some 125, op := .bin .lss (.t 123) (.t 124) }]) (.trim [0, 1, 2, 3, 4, 10, 11] [] [] [] (.cond (.t 125) s229_7 s229_8)))))))
def p231 : SCode := (.seq (.seq (.draw 17 [{ dst := some 81, op := .mv (.t 1) }, { dst := some 82, op := .bin .gtr (.t 81) (.c (.int .i64 (0))) }, { dst := some 83, op := .mv (.t 82) }, { dst := some 84, op := .mv (.t 4), guard := some (83, true) }, { dst := some 85, op := .mv (.t 0), guard := some (83, true) }, { dst := some 86, op := .mv (.t 1), guard := some (83, true) }, { dst := some 87, op := .bin .sub (.t 86) (.c (.int .i64 (1))), guard := some (83, true) }, { dst := some 88, op := .iaddr 1 (.t 85) (.t 87), guard := some (83, true) }, { dst := some 89, op := .load false 1 (.t 88), guard := some (83, true) }, { dst := some 90, op := .mv (.t 0), guard := some (83, true) }, { dst := some 91, op := .mv (.t 13), guard := some (83, true) }, { dst := some 92, op := .iaddr 1 (.t 90) (.t 91), guard := some (83, true) }, { dst := some 93, op := .load false 1 (.t 92), guard := some (83, true) }, { dst := some 94, op := .call (.t 84) [.t 89, .t 93], guard := some (83, true) }, { dst := some 95, op := .bin .lss (.t 94) (.c (.int .i64 (0))), guard := some (83, true) }, { dst := some 96, op := .un .not (.t 95), guard := some (83, true) }, { dst := some 97, op := .pick (.t 83) (.t 96) (.c (.bool false)) }] [(7, 11), (8, 11), (7, 12), (8, 12)]) (.trim [0, 1, 2, 3, 4, 12, 13] [] [(1, [0, 1, 2, 3, 4, 10, 11])] [] (.cond (.t 97) s229_6 .skip))) p231b)
def p231a : SCode := (.seq (.seq (.reg 15 [{ dst := some 68, op := .mv (.t 10) }, { dst := some 69, op := .mv (.t 68) }, { dst := some 70, op := .mv (.t 11), guard := some (69, true) }, { dst := some 71, op := .pick (.t 69) (.t 70) (.c (.bool false)) }, { dst := some 72, op := .mv (.t 71) }, { dst := some 73, op := .mv (.t 14), guard := some (72, true) }, { dst := some 74, op := .bin .eql (.t 73) (.c (.int .i64 (1))), guard := some (72, true) }, { dst := some 75, op := .pick (.t 72) (.t 74) (.c (.bool false)) }]) (.trim [0, 1, 2, 3, 4, 10, 11, 12, 13] [] [] [] (.cond (.t 75) s229_5 .skip))) p231)
def tailPdq (d3 : Array ByteArray) (a b limit : Nat) (wasBalanced wasPartitioned : Bool) (pivot : Nat) : Array ByteArray :=
  if a > 0 && !ltV d3[a - 1]! d3[pivot]! then
    match Sort.partitionEqual ltV d3 a b pivot with
    | (mid, d4) => if _h : a < mid ∧ mid ≤ b then Sort.pdq ltV d4 mid b limit wasBalanced wasPartitioned else d4
  else
    match Sort.partition ltV d3 a b pivot with
    | (mid, alreadyPartitioned, d4) =>
      if _h : a ≤ mid ∧ mid < b then
        if mid - a < b - mid then
          Sort.pdq ltV (Sort.pdq ltV d4 a mid limit true true) (mid + 1) b limit (decide (mid - a ≥ (b - a) / 8)) alreadyPartitioned
        else
          Sort.pdq ltV (Sort.pdq ltV d4 (mid + 1) b limit true true) a mid limit (decide (b - mid ≥ (b - a) / 8)) alreadyPartitioned
      else d4
theorem pdq_unf (d : Array ByteArray) (a b limit : Nat) (wb wp : Bool) (h1 : ¬ b - a ≤ 12) (h2 : ¬ limit = 0) : Sort.pdq ltV d a b limit wb wp =
    (let d1 := if !wb then Sort.breakPatterns d a b else d
     let limit := if !wb then limit - 1 else limit
     let c := Sort.choosePivot ltV d1 a b
     let d2 := if c.2 = .decreasing then Sort.reverseRange d1 a b else d1
     let pivot := if c.2 = .decreasing then (b - 1) - (c.1 - a) else c.1
     let hint := if c.2 = .decreasing then Sort.Hint.increasing else c.2
     let pi := if wb && wp && hint = .increasing then Sort.partialInsertionSort ltV d2 a b else (d2, false)
     if pi.2 then pi.1 else tailPdq pi.1 a b limit wb wp pivot) := by
  rw [Sort.pdq, if_neg h1, if_neg h2]; rfl
/-- One round, behind the choice of the pivot: what is left to do. -/
theorem tail231 (N n : Nat) (hc : SortCall E N n) (d : Array ByteArray) (a b limit : Nat) (wb wp : Bool) (p : Nat) (hN : d.size = N) (hab : 12 < b - a) (hn : b - a ≤ n + 1) (hb : b ≤ N) (hs : N < 50) (hl : limit < 1000) (hp1 : a ≤ p) (hp2 : p < b) (hB : Sort.Below ltV a b d) :
    ∃ (a' b' : Nat) (wb' wp' : Bool) (d' : Array ByteArray) (ex : Ex), (ex = .nrm ∨ ex = .ex 1) ∧ tailPdq d a b limit wb wp p = Sort.pdq ltV d' a' b' limit wb' wp' ∧ Sort.Below ltV a' b' d' ∧ d'.size = N ∧ a' ≤ b' ∧ b' ≤ N ∧ b' - a' < b - a ∧
    sexW E 1 p231 ⟨[(0, .hsl (.ext 0) 0 d.size), (1, .p (.int .i64 a)), (2, .p (.int .i64 b)), (3, .p (.int .i64 limit)), (4, .fn 111 [] []), (10, .p (.bool wb)), (11, .p (.bool wp)), (12, .p (.int .i64 (b - a : Nat))), (13, .p (.int .i64 p))], [(.ext 0, some (.parr (d.toList.map .str) 1 false))]⟩ = some (ex, ⟨[(0, .hsl (.ext 0) 0 d.size), (1, .p (.int .i64 a')), (2, .p (.int .i64 b')), (3, .p (.int .i64 limit)), (4, .fn 111 [] []), (10, .p (.bool wb')), (11, .p (.bool wp'))], [(.ext 0, some (.parr (d'.toList.map .str) 1 false))]⟩) := by
  subst hN
  have ha : a < d.size := by omega
  have hp : p < d.size := by omega
  have g1 := ar_get hp
  have n1 : (0 : Int) ≤ (p : Int) := by omega
  have h0 : 0 + d.size ≤ d.size := by omega
  have a0 : d.toList.length = d.size := Array.length_toList
  have e3 := e271 (E := E) d a b p (by omega) hb hp (by omega)
  obtain ⟨k1, k2, k3, k4, k5⟩ := Go.Sort.partition_holds ltV swo_ltV d a b p hp1 hp2 hb
  -- the plain way
  have plain : (decide (a > 0) && !ltV d[a - 1]! d[p]!) = false → ∃ (a' b' : Nat) (wb' wp' : Bool) (d' : Array ByteArray), tailPdq d a b limit wb wp p = Sort.pdq ltV d' a' b' limit wb' wp' ∧ Sort.Below ltV a' b' d' ∧ d'.size = d.size ∧ a' ≤ b' ∧ b' ≤ d.size ∧ b' - a' < b - a ∧
      sexW E 1 p231b ⟨[(0, .hsl (.ext 0) 0 d.size), (1, .p (.int .i64 a)), (2, .p (.int .i64 b)), (3, .p (.int .i64 limit)), (4, .fn 111 [] []), (12, .p (.int .i64 (b - a : Nat))), (13, .p (.int .i64 p))], [(.ext 0, some (.parr (d.toList.map .str) 1 false))]⟩ = some (.nrm, ⟨[(0, .hsl (.ext 0) 0 d.size), (1, .p (.int .i64 a')), (2, .p (.int .i64 b')), (3, .p (.int .i64 limit)), (4, .fn 111 [] []), (10, .p (.bool wb')), (11, .p (.bool wp'))], [(.ext 0, some (.parr (d'.toList.map .str) 1 false))]⟩) := by
    intro h1
    unfold tailPdq
    rw [if_neg (by simp [h1])]
    generalize hpt : Sort.partition ltV d a b p = pt at *
    obtain ⟨mid, al, d4⟩ := pt
    dsimp only at k1 k2 k3 k4 k5 e3 ⊢
    rw [dif_pos ⟨k1, k2⟩]
    have w1 := wSub mid a k1 (by omega)
    have w2 := wSub b mid (by omega) (by omega)
    have w3 := wAdd1 mid (by omega)
    have q1 : IntKind.i64.wrap (((b - a : Nat) : Int).tdiv 8) = (((b - a) / 8 : Nat) : Int) := by
      rw [show ((b - a : Nat) : Int).tdiv 8 = (((b - a) / 8 : Nat) : Int) from rfl, wrapN _ (by omega)]
    have z4 : d4.size = d.size := k3.1
    have hB4 := below_perm hb k3 hB
    by_cases h4 : mid - a < b - mid
    · have f1 : ((mid - a : Nat) : Int) < ((b - mid : Nat) : Int) := by omega
      have hB5 := below_less (Nat.le_of_lt k2) hB4
      have c1 := hc d4 a mid limit z4 k1 (by omega) (by omega) hs hl hB5
      obtain ⟨m1, _⟩ := Go.Sort.pdq_sorts ltV swo_ltV d4 a mid limit true true k1 (by omega) hB5
      refine ⟨mid + 1, b, decide (mid - a ≥ (b - a) / 8), al, Sort.pdq ltV d4 a mid limit true true, by rw [if_pos h4], ?_, by rw [m1.1, z4], by omega, hb, by omega, ?_⟩
      · right
        intro i i1 i2
        rw [Nat.add_sub_cancel, m1.2.1 i (.inr (by omega)), m1.2.1 mid (.inr (by omega))]
        exact k5 i (by omega) i2
      · have f2 : decide ((((b - a) / 8 : Nat) : Int) ≤ ((mid - a : Nat) : Int)) = decide (mid - a ≥ (b - a) / 8) := by simp only [decide_eq_decide]; omega
        simp -implicitDefEqProofs only [go_sem, p231b, s229_7, s229_8, e3, w1, w2, w3, q1, f1, f2, c1]
    · have f1 : ¬ ((mid - a : Nat) : Int) < ((b - mid : Nat) : Int) := by omega
      have hB5 : Sort.Below ltV (mid + 1) b d4 := by
        right
        intro i i1 i2
        rw [Nat.add_sub_cancel]
        exact k5 i (by omega) i2
      have c1 := hc d4 (mid + 1) b limit z4 (by omega) (by omega) hb hs hl hB5
      obtain ⟨m1, _⟩ := Go.Sort.pdq_sorts ltV swo_ltV d4 (mid + 1) b limit true true (by omega) (by omega) hB5
      refine ⟨a, mid, decide (b - mid ≥ (b - a) / 8), al, Sort.pdq ltV d4 (mid + 1) b limit true true, by rw [if_neg h4], ?_, by rw [m1.1, z4], by omega, by omega, by omega, ?_⟩
      · refine below_eq (fun i i1 i2 => m1.2.1 i (.inl (by omega))) (below_less (Nat.le_of_lt k2) hB4)
      · have f2 : decide ((((b - a) / 8 : Nat) : Int) ≤ ((b - mid : Nat) : Int)) = decide (b - mid ≥ (b - a) / 8) := by simp only [decide_eq_decide]; omega
        simp -implicitDefEqProofs only [go_sem, p231b, s229_7, s229_8, e3, w1, w2, w3, q1, f1, f2, c1]
  by_cases ha0 : a > 0
  · have f1 : (0 : Int) < (a : Int) := by omega
    have w1 : IntKind.i64.wrap ((a : Int) - 1) = ((a - 1 : Nat) : Int) := wSub a 1 (by omega) (by omega)
    have i1 : a - 1 < d.size := by omega
    have g2 := ar_get i1
    have n2 : (0 : Int) ≤ ((a - 1 : Nat) : Int) := by omega
    have e1 := e111 (E := E) d[a - 1]! d[p]!
    have e2 := cmpV_lt d[a - 1]! d[p]!
    cases hl1 : ltV d[a - 1]! d[p]! with
    | false =>
      rw [hl1] at e2
      have e4 := of_decide_eq_false e2
      have e5 := e270 (E := E) d a b p (by omega) hb hp (by omega)
      have pre : ∀ i, a ≤ i → i < b → ltV d[i]! d[p]! = false := by
        intro i x1 x2
        rcases hB with h0 | hB
        · omega
        · exact swo_ltV.ntrans _ _ _ (hB i x1 x2) hl1
      obtain ⟨m1, m2, m3, m4, m5⟩ := Go.Sort.partitionEqual_holds ltV swo_ltV d a b p hp1 hp2 hb pre
      unfold tailPdq
      rw [if_pos (by simp [ha0, hl1])]
      generalize hpt : Sort.partitionEqual ltV d a b p = pt at *
      obtain ⟨mid, d4⟩ := pt
      dsimp only at m1 m2 m3 m4 m5 e5 ⊢
      refine ⟨mid, b, wb, wp, d4, .ex 1, .inr rfl, by rw [dif_pos ⟨m1, m2⟩], ?_, m3.1, m2, hb, by omega, ?_⟩
      · right
        intro i x1 x2
        cases hc2 : ltV d4[i]! d4[mid - 1]! with
        | false => rfl
        | true =>
          have t1 := m5 i x1 x2
          have t2 := swo_ltV.trans _ _ _ t1 hc2
          rw [m4 (mid - 1) (by omega) (by omega)] at t2
          cases t2
      · simp -implicitDefEqProofs only [go_sem, p231, s229_6, f1, w1, i1, hp, g1, g2, n1, n2, h0, a0, e1, e4, e5]
    | true =>
      rw [hl1] at e2
      have e4 := of_decide_eq_true e2
      obtain ⟨a', b', wb', wp', d', r1, r2, r3, r4, r5, r6, r7⟩ := plain (by simp [hl1])
      refine ⟨a', b', wb', wp', d', .nrm, .inl rfl, r1, r2, r3, r4, r5, r6, ?_⟩
      simp -implicitDefEqProofs only [go_sem, p231, s229_6, f1, w1, i1, hp, g1, g2, n1, n2, h0, a0, e1, e4, r7]
  · have f1 : ¬ (0 : Int) < (a : Int) := by omega
    obtain ⟨a', b', wb', wp', d', r1, r2, r3, r4, r5, r6, r7⟩ := plain (by simp [ha0])
    refine ⟨a', b', wb', wp', d', .nrm, .inl rfl, r1, r2, r3, r4, r5, r6, ?_⟩
    simp -implicitDefEqProofs only [go_sem, p231, s229_6, f1, r7]
/-- A round behind the reversal. -/
theorem step231 (N n : Nat) (hc : SortCall E N n) (d : Array ByteArray) (a b limit : Nat) (wb wp : Bool) (p : Nat) (h : Sort.Hint) (hN : d.size = N) (hab : 12 < b - a) (hn : b - a ≤ n + 1) (hb : b ≤ N) (hs : N < 50) (hl : limit < 1000) (hp1 : a ≤ p) (hp2 : p < b) (hB : Sort.Below ltV a b d) :
    ((if wb && wp && h = .increasing then Sort.partialInsertionSort ltV d a b else (d, false)).2 = true ∧ sexW E 1 p231a ⟨[(0, .hsl (.ext 0) 0 d.size), (1, .p (.int .i64 a)), (2, .p (.int .i64 b)), (3, .p (.int .i64 limit)), (4, .fn 111 [] []), (10, .p (.bool wb)), (11, .p (.bool wp)), (12, .p (.int .i64 (b - a : Nat))), (13, .p (.int .i64 p)), (14, .p (.int .i64 (hintN h)))], [(.ext 0, some (.parr (d.toList.map .str) 1 false))]⟩ = some (.ret, ⟨[], [(.ext 0, some (.parr ((if wb && wp && h = .increasing then Sort.partialInsertionSort ltV d a b else (d, false)).1.toList.map .str) 1 false))]⟩)) ∨
    ((if wb && wp && h = .increasing then Sort.partialInsertionSort ltV d a b else (d, false)).2 = false ∧ (if wb && wp && h = .increasing then Sort.partialInsertionSort ltV d a b else (d, false)).1 = d ∧ ∃ (a' b' : Nat) (wb' wp' : Bool) (d' : Array ByteArray) (ex : Ex), (ex = .nrm ∨ ex = .ex 1) ∧ tailPdq d a b limit wb wp p = Sort.pdq ltV d' a' b' limit wb' wp' ∧ Sort.Below ltV a' b' d' ∧ d'.size = N ∧ a' ≤ b' ∧ b' ≤ N ∧ b' - a' < b - a ∧
    sexW E 1 p231a ⟨[(0, .hsl (.ext 0) 0 d.size), (1, .p (.int .i64 a)), (2, .p (.int .i64 b)), (3, .p (.int .i64 limit)), (4, .fn 111 [] []), (10, .p (.bool wb)), (11, .p (.bool wp)), (12, .p (.int .i64 (b - a : Nat))), (13, .p (.int .i64 p)), (14, .p (.int .i64 (hintN h)))], [(.ext 0, some (.parr (d.toList.map .str) 1 false))]⟩ = some (ex, ⟨[(0, .hsl (.ext 0) 0 d.size), (1, .p (.int .i64 a')), (2, .p (.int .i64 b')), (3, .p (.int .i64 limit)), (4, .fn 111 [] []), (10, .p (.bool wb')), (11, .p (.bool wp'))], [(.ext 0, some (.parr (d'.toList.map .str) 1 false))]⟩)) := by
  obtain ⟨a', b', wb', wp', d', ex, r0, r1, r2, r3, r4, r5, r6, r7⟩ := tail231 (E := E) N n hc d a b limit wb wp p hN hab hn hb hs hl hp1 hp2 hB
  have e1 := e269 (E := E) d a b (by omega) (by omega) (by omega)
  have pe := pi_eq d a b (by omega)
  by_cases hh : (wb && wp && h = .increasing) = true
  · simp only [Bool.and_eq_true, decide_eq_true_eq] at hh
    obtain ⟨⟨rfl, rfl⟩, rfl⟩ := hh
    simp only [Bool.and_self, decide_true, if_true, hintN]
    rw [pe] at e1 ⊢
    dsimp only at e1 ⊢
    cases hsrt : decide (Sort.scanSorted ltV d b (a + 1) = b) with
    | true =>
      rw [hsrt] at e1
      refine .inl ⟨rfl, ?_⟩
      simp -implicitDefEqProofs only [go_sem, p231a, s229_5, e1]
    | false =>
      rw [hsrt] at e1
      refine .inr ⟨rfl, rfl, a', b', wb', wp', d', ex, r0, r1, r2, r3, r4, r5, r6, ?_⟩
      simp -implicitDefEqProofs only [go_sem, p231a, s229_5, e1, r7]
  · rw [if_neg hh]
    refine .inr ⟨rfl, rfl, a', b', wb', wp', d', ex, r0, r1, r2, r3, r4, r5, r6, ?_⟩
    cases wb with
    | false => simp -implicitDefEqProofs only [go_sem, p231a, s229_5, r7]
    | true =>
      cases wp with
      | false => simp -implicitDefEqProofs only [go_sem, p231a, s229_5, r7]
      | true =>
        cases h with
        | increasing => exact absurd (by simp) hh
        | unknown => simp -implicitDefEqProofs only [go_sem, p231a, s229_5, hintN, r7]
        | decreasing => simp -implicitDefEqProofs only [go_sem, p231a, s229_5, hintN, r7]
end Go.Ab.S.SV

namespace Go.Ab.S
open Go Go.Ab
variable {E : Env} [EnvS E]

/-! ### The ballots of envelopes -/
def balsOf (e : Evl) : List Bal := if e.k = 1 then [e.b, e.p, e.q] else if e.k = 2 then [e.p, ⟨1000000, e.b.v⟩] else [⟨1000000, e.b.v⟩]
def balsL (l : List Evl) : List Bal := (l.filter validE).flatMap balsOf
theorem balsOf_len (e : Evl) : (balsOf e).length ≤ 3 := by
  unfold balsOf
  split
  · simp
  · split <;> simp
theorem loop19 (l : List Evl) (hl : l.length < 4000) (hth : ∀ e ∈ l, e.t.thin) :
    loopW E 0 [3, 6, 7, 8] [.loc 1 0 0] (.trim [3, 6, 7, 8] [2] [(0, [3])] [.loc 1 0 0] s19_7) (some ⟨[(3, .hsl (.loc 1 0 0) 0 0), (6, .p (.sl 15 (l.map Evl.pv))), (7, .p (.int .i64 l.length)), (8, .p (.int .i64 0))], [(.loc 1 0 0, some (.parr [] 2 false))]⟩) =
    some (.ex 0, ⟨[(3, .hsl (.loc 1 0 0) 0 (balsL l).length)], [(.loc 1 0 0, some (.parr ((balsL l).map Bal.pv) 2 false))]⟩) := by
  have key := range_loopI (loopW E 0 [3, 6, 7, 8] [.loc 1 0 0] (.trim [3, 6, 7, 8] [2] [(0, [3])] [.loc 1 0 0] s19_7)) l
    (fun i (o : List Bal) => ⟨[(3, .hsl (.loc 1 0 0) 0 o.length), (6, .p (.sl 15 (l.map Evl.pv))), (7, .p (.int .i64 l.length)), (8, .p (.int .i64 i))], [(.loc 1 0 0, some (.parr (o.map Bal.pv) 2 false))]⟩)
    (fun o r => some (.ex 0, ⟨[(3, .hsl (.loc 1 0 0) 0 (o ++ balsL r).length)], [(.loc 1 0 0, some (.parr ((o ++ balsL r).map Bal.pv) 2 false))]⟩)) (fun i o => o.length ≤ 3 * i)
  refine key ?_ ?_ [] (by simp)
  · intro o _
    rw [loopW_some]
    generalize hK : loopW E 0 _ _ _ = K
    simp -implicitDefEqProofs only [go_sem, s19_7, s19_6, s19_5, s19_1, s19_4, s19_2, s19_3, show balsL [] = [] from rfl, List.append_nil]
  · intro i o e r hx hn ho ih
    obtain ⟨f1, f2, f3⟩ := rangeFacts i l.length (by omega) (by omega)
    have e1 := e81 (E := E) e (hth e (List.mem_of_getElem? hx))
    have e2 := e104 (E := E) e 1000000
    have hm1 : o.length + 1 ≤ most := by unfold most; omega
    have hm2 : o.length + 2 ≤ most := by unfold most; omega
    have hm3 : o.length + 3 ≤ most := by unfold most; omega
    rw [loopW_some]
    generalize hK : loopW E 0 _ _ _ = K at ih ⊢
    cases hv : validE e with
    | false =>
      rw [hv] at e1
      have hb : balsL (e :: r) = balsL r := by simp [balsL, hv]
      have ih' := ih o (by omega)
      try dsimp only at ih' ⊢
      rw [hb]
      unfold Evl.pv at *
      simp -implicitDefEqProofs only [go_sem, s19_7, s19_6, s19_5, s19_1, s19_4, s19_2, s19_3, hx, f1, f2, f3, e1]
      exact ih'
    | true =>
      rw [hv] at e1
      have hb : balsL (e :: r) = balsOf e ++ balsL r := by simp [balsL, hv]
      have ih' := ih (o ++ balsOf e) (by have := balsOf_len e; simp; omega)
      rw [List.append_assoc, ← hb] at ih'
      try dsimp only at ih' ⊢
      by_cases h1 : e.k = 1
      · have hbo : balsOf e = [e.b, e.p, e.q] := by simp [balsOf, h1]
        rw [hbo] at ih'
        simp only [List.map_append, List.map_cons, List.map_nil, List.length_append, List.length_cons, List.length_nil, Nat.zero_add, Nat.reduceAdd, Bal.pv] at ih'
        unfold Evl.pv at *
        rw [h1] at e1
        simp -implicitDefEqProofs only [go_sem, s19_7, s19_6, s19_5, s19_1, s19_4, s19_2, s19_3, hx, f1, f2, f3, h1, e1, hm3, List.map_append, List.length_append]
        exact ih'
      · by_cases h2 : e.k = 2
        · have hbo : balsOf e = [e.p, ⟨1000000, e.b.v⟩] := by simp [balsOf, h2]
          rw [hbo] at ih'
          simp only [List.map_append, List.map_cons, List.map_nil, List.length_append, List.length_cons, List.length_nil, Nat.zero_add, Nat.reduceAdd, Bal.pv] at ih'
          unfold Evl.pv at *
          rw [h2] at e1 e2
          simp -implicitDefEqProofs only [go_sem, s19_7, s19_6, s19_5, s19_1, s19_4, s19_2, s19_3, hx, f1, f2, f3, h2, e1, e2, hm2, List.map_append, List.length_append]
          exact ih'
        · have hbo : balsOf e = [⟨1000000, e.b.v⟩] := by simp [balsOf, h1, h2]
          rw [hbo] at ih'
          simp only [List.map_append, List.map_cons, List.map_nil, List.length_append, List.length_cons, List.length_nil, Nat.zero_add, Nat.reduceAdd, Bal.pv] at ih'
          unfold Evl.pv at *
          simp -implicitDefEqProofs only [go_sem, s19_7, s19_6, s19_5, s19_1, s19_4, s19_2, s19_3, hx, f1, f2, f3, e1, e2, h1, h2, hm1, List.map_append, List.length_append]
          exact ih'
def balsN (l : List Evl) : List Bal := SB.uniqB ((balsL l).filter fun x => !zeroB x)
theorem balsL_len : ∀ l : List Evl, (balsL l).length ≤ 3 * l.length
  | [] => by simp [balsL]
  | e :: r => by
    have ih := balsL_len r
    have h : (balsL (e :: r)).length ≤ 3 + (balsL r).length := by
      unfold balsL
      rw [List.filter_cons]
      split
      · have := balsOf_len e
        rw [List.flatMap_cons, List.length_append]; omega
      · omega
    rw [List.length_cons]; omega
theorem e19 (l : List Evl) (hl : l.length ≤ 16) (hth : ∀ e ∈ l, e.t.thin) : callW E 19 [.p (.sl 15 (l.map Evl.pv))] [] = some ⟨.p (.sl 2 ((balsN l).map Bal.pv)), [], []⟩ := by
  have lp := loop19 (E := E) l (by omega) hth
  have hb := balsL_len l
  have e1 := SB.e106 (E := E) (balsL l) (by omega)
  have hf := List.length_filter_le (fun x => !zeroB x) (balsL l)
  obtain ⟨es, e2⟩ := SB.e105 (E := E) ((balsL l).filter fun x => !zeroB x) (by omega)
  unfold balsN
  rw [callW_eq, EnvS.h 19 F19 rfl]
  simp -implicitDefEqProofs only [go_sem, F19, s19, s19_8, lp, e1, e2]
end Go.Ab.S

namespace Go.Ab.S
open Go Go.Ab
/-! ### Sorted lists in which nothing stands twice -/
section
variable {α : Type} [DecidableEq α] [Inhabited α] {lt : α → α → Bool}
/-- A list sorted, what stands twice left out. -/
def uniqG (lt : α → α → Bool) (l : List α) : List α := compactL (Go.Sort.sort lt l.toArray).toList
theorem keepNew_len : ∀ (l : List α) (a : α), (keepNew a l).length ≤ l.length
  | [], a => Nat.le_refl _
  | y :: r, a => by
    unfold keepNew
    split
    · have := keepNew_len r y; simp; omega
    · have := keepNew_len r y; simp; omega
theorem uniqG_len (hs : Go.Sort.SWO lt) (l : List α) : (uniqG lt l).length ≤ l.length := by
  have h : (Go.Sort.sort lt l.toArray).toList.length = l.length := by
    have := (Go.Sort.sort_sorts lt hs l.toArray).1.1
    simpa using this
  unfold uniqG
  generalize (Go.Sort.sort lt l.toArray).toList = m at h
  cases m with
  | nil => simp [compactL]
  | cons a r => simp only [compactL, List.length_cons] at h ⊢; have := keepNew_len r a; omega
end
theorem uniqB_eq (l : List Bal) : SB.uniqB l = uniqG SB.ltB l := rfl
end Go.Ab.S
