/- A part of the proof (an executor, and what it computes). -/
import Derived.Test.YtmnjnpgmenigiaaGreatB8c93a02b21
import Derived.Test.YtmnjnpgmenigiaaGreatB0739676eea
import Derived.Laws.Strings
set_option linter.all false
namespace Go.Ab.S
open Go Go.Ab
variable {E : Env} [EnvS E]

/-! ### Leaving out what stands twice -/
theorem fin1_hsl (F : SFn) (st : St) (k : Nat) (v : PV) (es : List PV) (z : Nat) (b : Bool) (hF : F.rawR = false) (hx : hget st.H (.ext 0) = some (.parr es z b)) (hv : frzL st.H [.hsl (.ext 0) 0 k] = some [.p v]) : fin1 F st [.hsl (.ext 0) 0 k] (some [.p v]) (some (.parr es z b)) = some ⟨.p v, [.parr es z true], []⟩ := by
  simp only [fin1]
  rw [finX_succ, finishG_eq _ _ _ _ hF, hv, hA_some]
  have hu : frzUp st.H (frzNs [.hsl (.ext 0) 0 k]) = [(.ext 0, some (.parr es z true))] := by simp [frzNs, hslN, frzUp, hx]
  rw [hu]
  have hre : reach ([(.ext 0, some (.parr es z true))] ++ st.H) 64 (extNs 0 1 ++ namesL [.p v]) [] = some [.ext 0] := by simp [reach, extNs, AObj.names, namesL, AV.names, hget]
  rw [hre]
  simp [hB, hD, extNs, renL, AV.ren, hgets, hget, renOs, AObj.ren, hE, tup1]
section
variable {α : Type} [DecidableEq α]
def keepNew (a : α) : List α → List α
  | [] => []
  | x :: r => if x = a then keepNew x r else x :: keepNew x r
def compactL : List α → List α
  | [] => []
  | a :: r => a :: keepNew a r
theorem take_set_succ (l : List α) (k : Nat) (x : α) (h : k < l.length) : (l.set k x).take (k + 1) = l.take k ++ [x] := by
  rw [List.take_add_one, List.getElem?_set_self h, List.take_set_of_le (Nat.le_refl k)]
  rfl
end
theorem loop196b (l : List Int) (k0 : Nat) (hN : l.length < 4611686018427387904) : ∀ (n j k : Nat) (l' : List Int), l.length - (k0 + j) ≤ n → l'.length = l.length → 1 ≤ j → k + 1 ≤ k0 + j → k0 + j ≤ l.length → (∀ i, k0 + j ≤ i + 1 → l'[i]? = l[i]?) → ∀ a, l[k0 + j - 1]? = some a →
    ∃ (k' : Nat) (l'' : List Int), l''.length = l.length ∧ k' + 1 ≤ l.length ∧ l''.take k' = l'.take k ++ keepNew a (l.drop (k0 + j)) ∧
    loopW E 1 [0, 3, 4, 5] [] (.trim [0, 3, 4, 5] [2] [(2, [0, 3])] [] s196_4) (some ⟨[(0, .hsl (.ext 0) 0 l.length), (3, .p (.int .i64 k)), (4, .hsl (.ext 0) k0 (l.length - k0)), (5, .p (.int .i64 j))], [(.ext 0, some (.parr (l'.map (.int .i64)) 1 false))]⟩) =
    some (.ex 2, ⟨[(0, .hsl (.ext 0) 0 l.length), (3, .p (.int .i64 k'))], [(.ext 0, some (.parr (l''.map (.int .i64)) 1 false))]⟩) := by
  generalize hK : loopW E 1 _ _ _ = K
  intro n
  induction n with
  | zero =>
    intro j k l' hn hl hj hk hp hag a ha
    refine ⟨k, l', hl, by omega, ?_, ?_⟩
    · rw [List.drop_eq_nil_of_le (by omega), keepNew, List.append_nil]
    · have f1 : ¬ (j : Int) < ((l.length - k0 : Nat) : Int) := by omega
      rw [← hK, loopW_some, hK]
      simp -implicitDefEqProofs only [go_sem, s196_4, s196_3, s196_2, f1]
  | succ n ih =>
    intro j k l' hn hl hj hk hp hag a ha
    by_cases h : k0 + j < l.length
    · have f1 : (j : Int) < ((l.length - k0 : Nat) : Int) := by omega
      have f2 := wAdd1 j (by omega)
      have f3 : IntKind.i64.wrap ((j : Int) - 1) = ((j - 1 : Nat) : Int) := wSub j 1 (by omega) (by omega)
      have n1 : (0 : Int) ≤ (j : Int) := by omega
      have n2 : (0 : Int) ≤ ((j - 1 : Nat) : Int) := by omega
      have i1 : j < l.length - k0 := by omega
      have i2 : j - 1 < l.length - k0 := by omega
      obtain ⟨x, hx⟩ : ∃ x, l[k0 + j]? = some x := ⟨_, List.getElem?_eq_getElem h⟩
      have g1 : l'[k0 + j]? = some x := by rw [hag _ (by omega)]; exact hx
      have g2 : l'[k0 + (j - 1)]? = some a := by rw [hag _ (by omega), ← ha]; congr 1; omega
      have h0 : k0 + (l.length - k0) ≤ l.length := by omega
      have hd : l.drop (k0 + j) = x :: l.drop (k0 + (j + 1)) := by
        rw [List.drop_eq_getElem_cons h]
        congr 1
        rw [List.getElem?_eq_getElem h] at hx
        exact Option.some.inj hx
      by_cases hxa : x = a
      · subst hxa
        obtain ⟨k', l'', r1, r2, r3, r4⟩ := ih (j + 1) k l' (by omega) hl (by omega) (by omega) (by omega) (fun i hi => hag i (by omega)) x (by rw [← hx]; congr 1)
        refine ⟨k', l'', r1, r2, by rw [r3, hd, keepNew, if_pos rfl], ?_⟩
        rw [← hK, loopW_some, hK]
        simp -implicitDefEqProofs only [go_sem, s196_4, s196_3, s196_2, f1, f2, f3, n1, n2, i1, i2, g1, g2, h0, hl]
        exact r4
      · have hkl : k < l'.length := by omega
        have hkl2 : k < l.length := by omega
        obtain ⟨z, hz⟩ : ∃ z, l'[k]? = some z := ⟨_, List.getElem?_eq_getElem hkl⟩
        have n3 : (0 : Int) ≤ (k : Int) := by omega
        have h00 : 0 + l.length ≤ l'.length := by omega
        have f4 := wAdd1 k (by omega)
        obtain ⟨k', l'', r1, r2, r3, r4⟩ := ih (j + 1) (k + 1) (l'.set k x) (by omega) (by simp [hl]) (by omega) (by omega) (by omega) (fun i hi => by rw [List.getElem?_set_ne (by omega)]; exact hag i (by omega)) x (by rw [← hx]; congr 1)
        refine ⟨k', l'', r1, r2, ?_, ?_⟩
        · rw [r3, hd, keepNew, if_neg hxa, take_set_succ _ _ _ hkl, List.append_assoc]; rfl
        · rw [List.map_set] at r4
          rw [← hK, loopW_some, hK]
          simp -implicitDefEqProofs only [go_sem, s196_4, s196_3, s196_2, f1, f2, f3, f4, n1, n2, n3, i1, i2, g1, g2, h0, h00, hl, hxa, hz, hkl2, setE]
          exact r4
    · refine ⟨k, l', hl, by omega, ?_, ?_⟩
      · rw [List.drop_eq_nil_of_le (by omega), keepNew, List.append_nil]
      · have f1 : ¬ (j : Int) < ((l.length - k0 : Nat) : Int) := by omega
        rw [← hK, loopW_some, hK]
        simp -implicitDefEqProofs only [go_sem, s196_4, s196_3, s196_2, f1]
theorem loop196a (l : List Int) (hN : l.length < 4611686018427387904) : ∀ (n k : Nat) (a : Int), l.length - k ≤ n → 1 ≤ k → k ≤ l.length → l[k - 1]? = some a →
    (keepNew a (l.drop k) = l.drop k ∧ loopW E 1 [0, 3] [] (.trim [0, 3] [2] [(0, [0])] [] s196_8) (some ⟨[(0, .hsl (.ext 0) 0 l.length), (3, .p (.int .i64 k))], [(.ext 0, some (.parr (l.map (.int .i64)) 1 false))]⟩) = some (.ex 0, ⟨[(0, .hsl (.ext 0) 0 l.length)], [(.ext 0, some (.parr (l.map (.int .i64)) 1 false))]⟩)) ∨
    (∃ (k' : Nat) (l3 : List Int), l3.length = l.length ∧ k' ≤ l.length ∧ l3.take k' = l.take k ++ keepNew a (l.drop k) ∧ loopW E 1 [0, 3] [] (.trim [0, 3] [2] [(0, [0])] [] s196_8) (some ⟨[(0, .hsl (.ext 0) 0 l.length), (3, .p (.int .i64 k))], [(.ext 0, some (.parr (l.map (.int .i64)) 1 false))]⟩) = some (.ret, ⟨[(2, .hsl (.ext 0) 0 k')], [(.ext 0, some (.parr (l3.map (.int .i64)) 1 false))]⟩)) := by
  generalize hK : loopW E 1 _ _ _ = K
  intro n
  induction n with
  | zero =>
    intro k a hn hk hkl ha
    have f1 : ¬ (k : Int) < (l.length : Int) := by omega
    refine .inl ⟨by rw [List.drop_eq_nil_of_le (by omega), keepNew], ?_⟩
    rw [← hK, loopW_some, hK]
    simp -implicitDefEqProofs only [go_sem, s196_8, s196_7, s196_6, s196_5, f1]
  | succ n ih =>
    intro k a hn hk hkl ha
    by_cases h : k < l.length
    · have f1 : (k : Int) < (l.length : Int) := by omega
      have f2 := wAdd1 k (by omega)
      have f3 : IntKind.i64.wrap ((k : Int) - 1) = ((k - 1 : Nat) : Int) := wSub k 1 (by omega) (by omega)
      have n1 : (0 : Int) ≤ (k : Int) := by omega
      have n2 : (0 : Int) ≤ ((k - 1 : Nat) : Int) := by omega
      have i2 : k - 1 < l.length := by omega
      obtain ⟨x, hx⟩ : ∃ x, l[k]? = some x := ⟨_, List.getElem?_eq_getElem h⟩
      have hd : l.drop k = x :: l.drop (k + 1) := by
        rw [List.drop_eq_getElem_cons h]
        congr 1
        rw [List.getElem?_eq_getElem h] at hx
        exact Option.some.inj hx
      have h0 : 0 + l.length ≤ l.length := by omega
      by_cases hxa : x = a
      · subst hxa
        right
        have lp := loop196b (E := E) l k hN _ 1 k l (Nat.le_refl _) rfl (by omega) (by omega) (by omega) (fun _ _ => rfl) x (by rw [← hx]; congr 1)
        obtain ⟨k', l'', r1, r2, r3, r4⟩ := lp
        rw [Int.natCast_one] at r4
        have h1 : k ≤ l.length := by omega
        have h2 : k' ≤ l.length := by omega
        have h3 : ¬ (l.length - k' = 0) := by omega
        have h4 : k' + (l.length - k') ≤ l.length := by omega
        have n3 : (0 : Int) ≤ (k' : Int) := by omega
        have z1 : (k : Int) ≤ (l.length : Int) := by omega
        have z2 : (k' : Int) ≤ (l.length : Int) := by omega
        have hlen : (l''.take k' ++ List.replicate (l.length - k') 0 ++ l''.drop (k' + (l.length - k'))).length = l.length := by simp; omega
        refine ⟨k', l''.take k' ++ List.replicate (l.length - k') 0 ++ l''.drop (k' + (l.length - k')), hlen, h2, ?_, ?_⟩
        · rw [List.append_assoc, List.take_append_of_le_length (by simp; omega), List.take_take, Nat.min_self, r3, hd, keepNew, if_pos rfl]
        · rw [List.map_append, List.map_append, List.map_replicate, List.map_take, List.map_drop]
          rw [← hK, loopW_some, hK]
          simp -implicitDefEqProofs only [go_sem, s196_8, s196_7, s196_6, s196_5, s196_7, s196_6, s196_5, f1, f3, n1, n2, i2, h, ha, hx, h0, h1, h2, h3, h4, n3, z1, z2, r1, r4, List.length_map, Nat.sub_zero]
      · rcases ih (k + 1) x (by omega) (by omega) h (by rw [← hx]; congr 1) with ⟨r1, r2⟩ | ⟨k', l3, r1, r2, r3, r4⟩
        · left
          refine ⟨by rw [hd, keepNew, if_neg hxa, r1], ?_⟩
          rw [← hK, loopW_some, hK]
          simp -implicitDefEqProofs only [go_sem, s196_8, s196_7, s196_6, s196_5, f1, f2, f3, n1, n2, i2, h, ha, hx, h0, hxa]
          exact r2
        · right
          refine ⟨k', l3, r1, r2, ?_, ?_⟩
          · rw [r3, hd, keepNew, if_neg hxa, List.take_add_one, hx, List.append_assoc]; rfl
          · rw [← hK, loopW_some, hK]
            simp -implicitDefEqProofs only [go_sem, s196_8, s196_7, s196_6, s196_5, f1, f2, f3, n1, n2, i2, h, ha, hx, h0, hxa]
            exact r4
    · have f1 : ¬ (k : Int) < (l.length : Int) := by omega
      refine .inl ⟨by rw [List.drop_eq_nil_of_le (by omega), keepNew], ?_⟩
      rw [← hK, loopW_some, hK]
      simp -implicitDefEqProofs only [go_sem, s196_8, s196_7, s196_6, s196_5, f1]
theorem e196 (l : List Int) (hN : l.length < 4611686018427387904) : ∃ es : List PV, callW E 196 [.hsl (.ext 0) 0 l.length] [.parr (l.map (.int .i64)) 1 false] = some ⟨.p (.sl 1 ((compactL l).map (.int .i64))), [.parr es 1 true], []⟩ := by
  by_cases h : l.length < 2
  · have f1 : (l.length : Int) < 2 := by omega
    have hc : compactL l = l := by
      match l, h with
      | [], _ => rfl
      | [a], _ => rfl
    refine ⟨l.map (.int .i64), ?_⟩
    rw [hc]
    rw [callW_eq, EnvS.h 196 F196 rfl]
    simp -implicitDefEqProofs only [go_sem, F196, s196, s196_1, f1, fin1_hsl]
  · have f1 : ¬ (l.length : Int) < 2 := by omega
    obtain ⟨a, r, rfl⟩ : ∃ a r, l = a :: r := by
      match l, h with
      | [], h => simp at h
      | a :: r, _ => exact ⟨a, r, rfl⟩
    have hl := loop196a (E := E) (a :: r) hN _ 1 a (Nat.le_refl _) (Nat.le_refl _) (by simp) rfl
    rw [Int.natCast_one] at hl
    simp only [List.drop_succ_cons, List.drop_zero, List.take_succ_cons, List.take_zero] at hl
    rcases hl with ⟨r1, r2⟩ | ⟨k', l3, r1, r2, r3, r4⟩
    · refine ⟨(a :: r).map (.int .i64), ?_⟩
      rw [compactL, r1]
      generalize hg : a :: r = l at *
      rw [callW_eq, EnvS.h 196 F196 rfl]
      simp -implicitDefEqProofs only [go_sem, F196, s196, s196_9, f1, r2, fin1_hsl]
    · refine ⟨l3.map (.int .i64), ?_⟩
      rw [compactL, show a :: keepNew a r = l3.take k' from r3.symm, List.map_take]
      generalize hg : a :: r = l at *
      have h0 : 0 + k' ≤ l3.length := by omega
      rw [callW_eq, EnvS.h 196 F196 rfl]
      simp -implicitDefEqProofs only [go_sem, F196, s196, s196_9, f1, r4, r1, r2, h0, fin1_hsl]
theorem raw196 : E.raw 196 = true := raw_T 196 F196 rfl rfl
theorem raw114 : E.raw 114 = true := raw_T 114 F114 rfl rfl
attribute [go_sem] raw196 raw114
/-- A list sorted, what stands twice left out. -/
def uniqI (l : List Int) : List Int := compactL (Sort.sort ltI l.toArray).toList
theorem e114 (l : List Int) (hN : l.length < 50) : ∃ es : List PV, callW E 114 [.hsl (.ext 0) 0 l.length, .fn 115 [] []] [.parr (l.map (.int .i64)) 1 false] = some ⟨.p (.sl 1 ((uniqI l).map (.int .i64))), [.parr es 1 true], []⟩ := by
  have e1 := e195 (E := E) l.toArray (by simpa using hN)
  have hs : (Sort.sort ltI l.toArray).toList.length = l.length := by
    have := (Go.Sort.sort_sorts ltI swo_ltI l.toArray).1.1
    simpa using this
  obtain ⟨es, e2⟩ := e196 (E := E) (Sort.sort ltI l.toArray).toList (by omega)
  rw [hs] at e2
  refine ⟨es, ?_⟩
  rw [List.size_toArray] at e1
  unfold uniqI
  rw [callW_eq, EnvS.h 114 F114 rfl]
  simp -implicitDefEqProofs only [go_sem, F114, s114, e1, e2]
end Go.Ab.S

/-! The order of ballots. -/
namespace Go.Ab.S
open Go Go.Ab

theorem bl_irrefl : ∀ x : List UInt8, Op.bytesLess x x = false
  | [] => rfl
  | a :: x => by simp [Op.bytesLess, bl_irrefl x]
theorem bl_trans : ∀ x y z : List UInt8, Op.bytesLess x y = true → Op.bytesLess y z = true → Op.bytesLess x z = true
  | x, [], z, h, _ => by cases x <;> simp [Op.bytesLess] at h
  | _, b :: y, [], _, h => by simp [Op.bytesLess] at h
  | [], b :: y, c :: z, _, _ => rfl
  | a :: x, b :: y, c :: z, h, h2 => by
    simp only [Op.bytesLess, Bool.or_eq_true, Bool.and_eq_true, decide_eq_true_eq, beq_iff_eq] at h h2 ⊢
    rcases h with h | ⟨rfl, h⟩
    · rcases h2 with h2 | ⟨rfl, h2⟩
      · exact .inl (UInt8.lt_trans h h2)
      · exact .inl h
    · rcases h2 with h2 | ⟨rfl, h2⟩
      · exact .inl h2
      · exact .inr ⟨rfl, bl_trans x y z h h2⟩
theorem bl_total : ∀ x y : List UInt8, Op.bytesLess x y = false → Op.bytesLess y x = false → x = y
  | [], [], _, _ => rfl
  | [], b :: y, h, _ => by simp [Op.bytesLess] at h
  | a :: x, [], _, h => by simp [Op.bytesLess] at h
  | a :: x, b :: y, h, h2 => by
    simp only [Op.bytesLess, Bool.or_eq_false_iff, Bool.and_eq_false_iff, decide_eq_false_iff_not, beq_eq_false_iff_ne] at h h2
    have hab : a = b := by
      have h3 := h.1
      have h4 := h2.1
      rw [UInt8.lt_iff_toNat_lt] at h3 h4
      exact UInt8.toNat_inj.1 (by omega)
    subst hab
    have h3 : Op.bytesLess x y = false := by rcases h.2 with h | h <;> simp_all
    have h4 : Op.bytesLess y x = false := by rcases h2.2 with h | h <;> simp_all
    rw [bl_total x y h3 h4]
theorem ba_ext {a b : ByteArray} (h : a.toList = b.toList) : a = b := by
  rw [ByteArray.toList_eq, ByteArray.toList_eq] at h
  have h2 : a.data = b.data := Array.toList_inj.1 h
  cases a; cases b; simp_all
theorem lv_irrefl (a : ByteArray) : lessV a a = false := by simp [lessV, bl_irrefl]
theorem lv_trans {a b c : ByteArray} (h : lessV a b = true) (h2 : lessV b c = true) : lessV a c = true := by
  unfold lessV at *
  by_cases h3 : a.size = b.size
  · rw [if_pos h3] at h
    by_cases h4 : b.size = c.size
    · rw [if_pos h4] at h2
      rw [if_pos (h3.trans h4)]
      exact bl_trans _ _ _ h h2
    · rw [if_neg h4] at h2
      simp only [decide_eq_true_eq] at h2
      rw [if_neg (by omega)]
      simp; omega
  · rw [if_neg h3] at h
    simp only [decide_eq_true_eq] at h
    by_cases h4 : b.size = c.size
    · rw [if_neg (by omega)]
      simp; omega
    · rw [if_neg h4] at h2
      simp only [decide_eq_true_eq] at h2
      rw [if_neg (by omega)]
      simp; omega
theorem lv_total {a b : ByteArray} (h : lessV a b = false) (h2 : lessV b a = false) : a = b := by
  unfold lessV at *
  by_cases h3 : a.size = b.size
  · rw [if_pos h3] at h
    rw [if_pos h3.symm] at h2
    exact ba_ext (bl_total _ _ h h2)
  · rw [if_neg h3] at h
    rw [if_neg (fun h => h3 h.symm)] at h2
    simp at h h2
    omega
/-! ### Joining -/
theorem covers_self {b : Bal} (h : zeroB b = false) : covers b b = true := by simp [covers, h]
end Go.Ab.S
