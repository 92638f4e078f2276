/- A part of the proof: an executor over plain data, shown sound for the model, and what it computes of the functions. -/
import Derived.Test.YtmnjnpgmenigiaaGreatB2a347357ed
import Derived.Test.YtmnjnpgmenigiaaGreatBdbdf72616b
import Derived.Laws.Strings
set_option linter.all false
namespace Go.Ab.S
open Go Go.Ab
variable {E : Env} [EnvS E]

/-! ### Leaving out what stands twice -/
theorem fin1_hsl (F : SFn) (st : St) (k : Nat) (v : PV) (es : List PV) (z : Nat) (b : Bool) (hF : F.rawR = false) (hx : hget st.H (.ext 0) = some (.parr es z b)) (hv : frzL st.H [.hsl (.ext 0) 0 k] = some [.p v]) : fin1 F st [.hsl (.ext 0) 0 k] (some [.p v]) (some (.parr es z b)) = some ⟨.p v, [.parr es z true], []⟩ := by
  simp only [fin1]
  rw [finX_succ, finishG_eq _ _ _ _ hF, hv, hA_some]
  have hu : frzUp st.H (frzNs [.hsl (.ext 0) 0 k]) = [(.ext 0, some (.parr es z true))] := by simp [frzNs, hslN, frzUp, hx]
  rw [hu]
  have hre : reach ([(.ext 0, some (.parr es z true))] ++ st.H) 64 (extNs 0 1 ++ namesL [.p v]) [] = some [.ext 0] := by simp [reach, extNs, AObj.names, namesL, AV.names, hget]
  rw [hre]
  simp [hB, hD, extNs, renL, AV.ren, hgets, hget, renOs, AObj.ren, hE, tup1]
section
variable {α : Type} [DecidableEq α]
def keepNew (a : α) : List α → List α
  | [] => []
  | x :: r => if x = a then keepNew x r else x :: keepNew x r
def compactL : List α → List α
  | [] => []
  | a :: r => a :: keepNew a r
theorem take_set_succ (l : List α) (k : Nat) (x : α) (h : k < l.length) : (l.set k x).take (k + 1) = l.take k ++ [x] := by
  rw [List.take_add_one, List.getElem?_set_self h, List.take_set_of_le (Nat.le_refl k)]
  rfl
end
theorem loop196b (l : List Int) (k0 : Nat) (hN : l.length < 4611686018427387904) : ∀ (n j k : Nat) (l' : List Int), l.length - (k0 + j) ≤ n → l'.length = l.length → 1 ≤ j → k + 1 ≤ k0 + j → k0 + j ≤ l.length → (∀ i, k0 + j ≤ i + 1 → l'[i]? = l[i]?) → ∀ a, l[k0 + j - 1]? = some a →
    ∃ (k' : Nat) (l'' : List Int), l''.length = l.length ∧ k' + 1 ≤ l.length ∧ l''.take k' = l'.take k ++ keepNew a (l.drop (k0 + j)) ∧
    loopW E 1 [0, 3, 4, 5] [] (.trim [0, 3, 4, 5] [2] [(2, [0, 3])] [] s196_4) (some ⟨[(0, .hsl (.ext 0) 0 l.length), (3, .p (.int .i64 k)), (4, .hsl (.ext 0) k0 (l.length - k0)), (5, .p (.int .i64 j))], [(.ext 0, some (.parr (l'.map (.int .i64)) 1 false))]⟩) =
    some (.ex 2, ⟨[(0, .hsl (.ext 0) 0 l.length), (3, .p (.int .i64 k'))], [(.ext 0, some (.parr (l''.map (.int .i64)) 1 false))]⟩) := by
  generalize hK : loopW E 1 _ _ _ = K
  intro n
  induction n with
  | zero =>
    intro j k l' hn hl hj hk hp hag a ha
    refine ⟨k, l', hl, by omega, ?_, ?_⟩
    · rw [List.drop_eq_nil_of_le (by omega), keepNew, List.append_nil]
    · have f1 : ¬ (j : Int) < ((l.length - k0 : Nat) : Int) := by omega
      rw [← hK, loopW_some, hK]
      simp -implicitDefEqProofs only [go_sem, s196_4, s196_3, s196_2, f1]
  | succ n ih =>
    intro j k l' hn hl hj hk hp hag a ha
    by_cases h : k0 + j < l.length
    · have f1 : (j : Int) < ((l.length - k0 : Nat) : Int) := by omega
      have f2 := wAdd1 j (by omega)
      have f3 : IntKind.i64.wrap ((j : Int) - 1) = ((j - 1 : Nat) : Int) := wSub j 1 (by omega) (by omega)
      have n1 : (0 : Int) ≤ (j : Int) := by omega
      have n2 : (0 : Int) ≤ ((j - 1 : Nat) : Int) := by omega
      have i1 : j < l.length - k0 := by omega
      have i2 : j - 1 < l.length - k0 := by omega
      obtain ⟨x, hx⟩ : ∃ x, l[k0 + j]? = some x := ⟨_, List.getElem?_eq_getElem h⟩
      have g1 : l'[k0 + j]? = some x := by rw [hag _ (by omega)]; exact hx
      have g2 : l'[k0 + (j - 1)]? = some a := by rw [hag _ (by omega), ← ha]; congr 1; omega
      have h0 : k0 + (l.length - k0) ≤ l.length := by omega
      have hd : l.drop (k0 + j) = x :: l.drop (k0 + (j + 1)) := by
        rw [List.drop_eq_getElem_cons h]
        congr 1
        rw [List.getElem?_eq_getElem h] at hx
        exact Option.some.inj hx
      by_cases hxa : x = a
      · subst hxa
        obtain ⟨k', l'', r1, r2, r3, r4⟩ := ih (j + 1) k l' (by omega) hl (by omega) (by omega) (by omega) (fun i hi => hag i (by omega)) x (by rw [← hx]; congr 1)
        refine ⟨k', l'', r1, r2, by rw [r3, hd, keepNew, if_pos rfl], ?_⟩
        rw [← hK, loopW_some, hK]
        simp -implicitDefEqProofs only [go_sem, s196_4, s196_3, s196_2, f1, f2, f3, n1, n2, i1, i2, g1, g2, h0, hl]
        exact r4
      · have hkl : k < l'.length := by omega
        have hkl2 : k < l.length := by omega
        obtain ⟨z, hz⟩ : ∃ z, l'[k]? = some z := ⟨_, List.getElem?_eq_getElem hkl⟩
        have n3 : (0 : Int) ≤ (k : Int) := by omega
        have h00 : 0 + l.length ≤ l'.length := by omega
        have f4 := wAdd1 k (by omega)
        obtain ⟨k', l'', r1, r2, r3, r4⟩ := ih (j + 1) (k + 1) (l'.set k x) (by omega) (by simp [hl]) (by omega) (by omega) (by omega) (fun i hi => by rw [List.getElem?_set_ne (by omega)]; exact hag i (by omega)) x (by rw [← hx]; congr 1)
        refine ⟨k', l'', r1, r2, ?_, ?_⟩
        · rw [r3, hd, keepNew, if_neg hxa, take_set_succ _ _ _ hkl, List.append_assoc]; rfl
        · rw [List.map_set] at r4
          rw [← hK, loopW_some, hK]
          simp -implicitDefEqProofs only [go_sem, s196_4, s196_3, s196_2, f1, f2, f3, f4, n1, n2, n3, i1, i2, g1, g2, h0, h00, hl, hxa, hz, hkl2, setE]
          exact r4
    · refine ⟨k, l', hl, by omega, ?_, ?_⟩
      · rw [List.drop_eq_nil_of_le (by omega), keepNew, List.append_nil]
      · have f1 : ¬ (j : Int) < ((l.length - k0 : Nat) : Int) := by omega
        rw [← hK, loopW_some, hK]
        simp -implicitDefEqProofs only [go_sem, s196_4, s196_3, s196_2, f1]
theorem loop196a (l : List Int) (hN : l.length < 4611686018427387904) : ∀ (n k : Nat) (a : Int), l.length - k ≤ n → 1 ≤ k → k ≤ l.length → l[k - 1]? = some a →
    (keepNew a (l.drop k) = l.drop k ∧ loopW E 1 [0, 3] [] (.trim [0, 3] [2] [(0, [0])] [] s196_8) (some ⟨[(0, .hsl (.ext 0) 0 l.length), (3, .p (.int .i64 k))], [(.ext 0, some (.parr (l.map (.int .i64)) 1 false))]⟩) = some (.ex 0, ⟨[(0, .hsl (.ext 0) 0 l.length)], [(.ext 0, some (.parr (l.map (.int .i64)) 1 false))]⟩)) ∨
    (∃ (k' : Nat) (l3 : List Int), l3.length = l.length ∧ k' ≤ l.length ∧ l3.take k' = l.take k ++ keepNew a (l.drop k) ∧ loopW E 1 [0, 3] [] (.trim [0, 3] [2] [(0, [0])] [] s196_8) (some ⟨[(0, .hsl (.ext 0) 0 l.length), (3, .p (.int .i64 k))], [(.ext 0, some (.parr (l.map (.int .i64)) 1 false))]⟩) = some (.ret, ⟨[(2, .hsl (.ext 0) 0 k')], [(.ext 0, some (.parr (l3.map (.int .i64)) 1 false))]⟩)) := by
  generalize hK : loopW E 1 _ _ _ = K
  intro n
  induction n with
  | zero =>
    intro k a hn hk hkl ha
    have f1 : ¬ (k : Int) < (l.length : Int) := by omega
    refine .inl ⟨by rw [List.drop_eq_nil_of_le (by omega), keepNew], ?_⟩
    rw [← hK, loopW_some, hK]
    simp -implicitDefEqProofs only [go_sem, s196_8, s196_7, s196_6, s196_5, f1]
  | succ n ih =>
    intro k a hn hk hkl ha
    by_cases h : k < l.length
    · have f1 : (k : Int) < (l.length : Int) := by omega
      have f2 := wAdd1 k (by omega)
      have f3 : IntKind.i64.wrap ((k : Int) - 1) = ((k - 1 : Nat) : Int) := wSub k 1 (by omega) (by omega)
      have n1 : (0 : Int) ≤ (k : Int) := by omega
      have n2 : (0 : Int) ≤ ((k - 1 : Nat) : Int) := by omega
      have i2 : k - 1 < l.length := by omega
      obtain ⟨x, hx⟩ : ∃ x, l[k]? = some x := ⟨_, List.getElem?_eq_getElem h⟩
      have hd : l.drop k = x :: l.drop (k + 1) := by
        rw [List.drop_eq_getElem_cons h]
        congr 1
        rw [List.getElem?_eq_getElem h] at hx
        exact Option.some.inj hx
      have h0 : 0 + l.length ≤ l.length := by omega
      by_cases hxa : x = a
      · subst hxa
        right
        have lp := loop196b (E := E) l k hN _ 1 k l (Nat.le_refl _) rfl (by omega) (by omega) (by omega) (fun _ _ => rfl) x (by rw [← hx]; congr 1)
        obtain ⟨k', l'', r1, r2, r3, r4⟩ := lp
        rw [Int.natCast_one] at r4
        have h1 : k ≤ l.length := by omega
        have h2 : k' ≤ l.length := by omega
        have h3 : ¬ (l.length - k' = 0) := by omega
        have h4 : k' + (l.length - k') ≤ l.length := by omega
        have n3 : (0 : Int) ≤ (k' : Int) := by omega
        have z1 : (k : Int) ≤ (l.length : Int) := by omega
        have z2 : (k' : Int) ≤ (l.length : Int) := by omega
        have hlen : (l''.take k' ++ List.replicate (l.length - k') 0 ++ l''.drop (k' + (l.length - k'))).length = l.length := by simp; omega
        refine ⟨k', l''.take k' ++ List.replicate (l.length - k') 0 ++ l''.drop (k' + (l.length - k')), hlen, h2, ?_, ?_⟩
        · rw [List.append_assoc, List.take_append_of_le_length (by simp; omega), List.take_take, Nat.min_self, r3, hd, keepNew, if_pos rfl]
        · rw [List.map_append, List.map_append, List.map_replicate, List.map_take, List.map_drop]
          rw [← hK, loopW_some, hK]
          simp -implicitDefEqProofs only [go_sem, s196_8, s196_7, s196_6, s196_5, s196_7, s196_6, s196_5, f1, f3, n1, n2, i2, h, ha, hx, h0, h1, h2, h3, h4, n3, z1, z2, r1, r4, List.length_map, Nat.sub_zero]
      · rcases ih (k + 1) x (by omega) (by omega) h (by rw [← hx]; congr 1) with ⟨r1, r2⟩ | ⟨k', l3, r1, r2, r3, r4⟩
        · left
          refine ⟨by rw [hd, keepNew, if_neg hxa, r1], ?_⟩
          rw [← hK, loopW_some, hK]
          simp -implicitDefEqProofs only [go_sem, s196_8, s196_7, s196_6, s196_5, f1, f2, f3, n1, n2, i2, h, ha, hx, h0, hxa]
          exact r2
        · right
          refine ⟨k', l3, r1, r2, ?_, ?_⟩
          · rw [r3, hd, keepNew, if_neg hxa, List.take_add_one, hx, List.append_assoc]; rfl
          · rw [← hK, loopW_some, hK]
            simp -implicitDefEqProofs only [go_sem, s196_8, s196_7, s196_6, s196_5, f1, f2, f3, n1, n2, i2, h, ha, hx, h0, hxa]
            exact r4
    · have f1 : ¬ (k : Int) < (l.length : Int) := by omega
      refine .inl ⟨by rw [List.drop_eq_nil_of_le (by omega), keepNew], ?_⟩
      rw [← hK, loopW_some, hK]
      simp -implicitDefEqProofs only [go_sem, s196_8, s196_7, s196_6, s196_5, f1]
theorem e196 (l : List Int) (hN : l.length < 4611686018427387904) : ∃ es : List PV, callW E 196 [.hsl (.ext 0) 0 l.length] [.parr (l.map (.int .i64)) 1 false] = some ⟨.p (.sl 1 ((compactL l).map (.int .i64))), [.parr es 1 true], []⟩ := by
  by_cases h : l.length < 2
  · have f1 : (l.length : Int) < 2 := by omega
    have hc : compactL l = l := by
      match l, h with
      | [], _ => rfl
      | [a], _ => rfl
    refine ⟨l.map (.int .i64), ?_⟩
    rw [hc]
    rw [callW_eq, EnvS.h 196 F196 rfl]
    simp -implicitDefEqProofs only [go_sem, F196, s196, s196_1, f1, fin1_hsl]
  · have f1 : ¬ (l.length : Int) < 2 := by omega
    obtain ⟨a, r, rfl⟩ : ∃ a r, l = a :: r := by
      match l, h with
      | [], h => simp at h
      | a :: r, _ => exact ⟨a, r, rfl⟩
    have hl := loop196a (E := E) (a :: r) hN _ 1 a (Nat.le_refl _) (Nat.le_refl _) (by simp) rfl
    rw [Int.natCast_one] at hl
    simp only [List.drop_succ_cons, List.drop_zero, List.take_succ_cons, List.take_zero] at hl
    rcases hl with ⟨r1, r2⟩ | ⟨k', l3, r1, r2, r3, r4⟩
    · refine ⟨(a :: r).map (.int .i64), ?_⟩
      rw [compactL, r1]
      generalize hg : a :: r = l at *
      rw [callW_eq, EnvS.h 196 F196 rfl]
      simp -implicitDefEqProofs only [go_sem, F196, s196, s196_9, f1, r2, fin1_hsl]
    · refine ⟨l3.map (.int .i64), ?_⟩
      rw [compactL, show a :: keepNew a r = l3.take k' from r3.symm, List.map_take]
      generalize hg : a :: r = l at *
      have h0 : 0 + k' ≤ l3.length := by omega
      rw [callW_eq, EnvS.h 196 F196 rfl]
      simp -implicitDefEqProofs only [go_sem, F196, s196, s196_9, f1, r4, r1, r2, h0, fin1_hsl]
theorem raw196 : E.raw 196 = true := raw_T 196 F196 rfl rfl
theorem raw114 : E.raw 114 = true := raw_T 114 F114 rfl rfl
attribute [go_sem] raw196 raw114
/-- A list sorted, what stands twice left out. -/
def uniqI (l : List Int) : List Int := compactL (Sort.sort ltI l.toArray).toList
theorem e114 (l : List Int) (hN : l.length < 50) : ∃ es : List PV, callW E 114 [.hsl (.ext 0) 0 l.length, .fn 115 [] []] [.parr (l.map (.int .i64)) 1 false] = some ⟨.p (.sl 1 ((uniqI l).map (.int .i64))), [.parr es 1 true], []⟩ := by
  have e1 := e195 (E := E) l.toArray (by simpa using hN)
  have hs : (Sort.sort ltI l.toArray).toList.length = l.length := by
    have := (Go.Sort.sort_sorts ltI swo_ltI l.toArray).1.1
    simpa using this
  obtain ⟨es, e2⟩ := e196 (E := E) (Sort.sort ltI l.toArray).toList (by omega)
  rw [hs] at e2
  refine ⟨es, ?_⟩
  rw [List.size_toArray] at e1
  unfold uniqI
  rw [callW_eq, EnvS.h 114 F114 rfl]
  simp -implicitDefEqProofs only [go_sem, F114, s114, e1, e2]
end Go.Ab.S

namespace Go.Ab.S
open Go Go.Ab
variable {E : Env} [EnvS E]

def badN (x : Int) : Bool := !(decide (0 ≤ x) && decide (x < 10))
theorem e241 (x : Int) : callW E 241 [.p (.int .i64 x)] [] = some ⟨.p (.bool (decide (0 ≤ x) && decide (x < 10))), [], []⟩ := by
  rw [callW_eq, EnvS.h 241 F241 rfl]
  simp -implicitDefEqProofs only [go_sem, F241, s241, ]
  repeat' ((first | rw [condW_q] | rw [opsG_q] | rw [opsLG_q]); unfold ifq; split <;> rename_i hq <;> simp -implicitDefEqProofs only [go_sem, hq, ])
theorem e240 (x : Int) : callW E 240 [.p (.int .i64 x)] [] = some ⟨.p (.bool (badN x)), [], []⟩ := by
  rw [callW_eq, EnvS.h 240 F240 rfl]
  unfold badN
  simp -implicitDefEqProofs only [go_sem, F240, s240, e241]
attribute [go_sem] e240 e241
def fdR (n : Nat) (l : List Int) : Option (Ex × St) := if l.any badN = true then some (.ret, ⟨[(4, .p (.int .i64 ((n - l.length + l.findIdx badN : Nat) : Int)))], []⟩) else some (.ex 0, ⟨[], []⟩)
theorem loop285 (es : List Int) (hl : es.length < 4611686018427387904) :
    loopW E 0 [0, 1, 7, 8] [] (.trim [0, 1, 7, 8] [4] [(0, [])] [] s285_3) (some ⟨[(0, .p (.sl 1 (es.map (.int .i64)))), (1, .fn 240 [] []), (7, .p (.int .i64 es.length)), (8, .p (.int .i64 0))], []⟩) = fdR es.length es := by
  generalize hK : loopW E 0 _ _ _ = K
  refine range_loopI K es (fun i (_ : Unit) => ⟨[(0, .p (.sl 1 (es.map (.int .i64)))), (1, .fn 240 [] []), (7, .p (.int .i64 es.length)), (8, .p (.int .i64 i))], []⟩) (fun _ l => fdR es.length l) (fun _ _ => True) ?_ ?_ () trivial
  · intro _ _
    rw [← hK, loopW_some, hK]
    simp -implicitDefEqProofs only [go_sem, s285_3, s285_2, s285_1]
    rfl
  · intro i _ x r hx hn _ ih
    have hi : i < es.length := by omega
    obtain ⟨f1, f2, f3⟩ := rangeFacts i _ hi hl
    have ih' := ih () trivial
    try dsimp only at ih' ⊢
    rw [← hK, loopW_some, hK]
    cases hb : badN x with
    | true =>
      simp -implicitDefEqProofs only [go_sem, s285_3, s285_2, s285_1, hx, f1, f2, f3, hb, fdR, List.any_cons, List.findIdx_cons, cond_true]
      simp; omega
    | false =>
      simp -implicitDefEqProofs only [go_sem, s285_3, s285_2, s285_1, hx, f1, f2, f3, hb, ih', fdR, List.any_cons, List.findIdx_cons, cond_false]
      simp only [show es.length - (r.length + 1) + (r.findIdx badN + 1) = es.length - r.length + r.findIdx badN by omega]
theorem e239 (es : List Int) (hl : es.length < 4611686018427387904) : callW E 239 [.p (.sl 1 (es.map (.int .i64))), .fn 240 [] []] [] = some ⟨.p (.bool (es.any badN)), [], []⟩ := by
  have e : callW E 285 [.p (.sl 1 (es.map (.int .i64))), .fn 240 [] []] [] = some ⟨.p (.int .i64 (if es.any badN = true then ((es.findIdx badN : Nat) : Int) else -1)), [], []⟩ := by
    rw [callW_eq, EnvS.h 285 F285 rfl]
    have lp := loop285 (E := E) es hl
    unfold fdR at lp
    cases h : es.any badN with
    | true => simp -implicitDefEqProofs only [go_sem, F285, s285, s285_4, lp, h, Nat.sub_self]
    | false => simp -implicitDefEqProofs only [go_sem, F285, s285, s285_4, lp, h]
  rw [callW_eq, EnvS.h 239 F239 rfl]
  cases h : es.any badN with
  | true =>
    have h2 : (0 : Int) ≤ (es.findIdx badN : Nat) := by omega
    simp -implicitDefEqProofs only [go_sem, F239, s239, e, h, h2]
  | false => simp -implicitDefEqProofs only [go_sem, F239, s239, e, h]

/-- Trusts that are small. -/
def In.thin (t : In) : Prop := t.ns.length ≤ 12
structure Tr.thin (t : Tr) : Prop where
  ns : t.ns.length ≤ 12
  is : t.is.length ≤ 4
  all : ∀ x ∈ t.is, x.thin

theorem e212I (th : Int) (ns : List PV) : callW E 212 [.p (.agg [.int .i64 th, .sl 1 ns, .sl 3 []])] [] = some ⟨.p (.int .i64 1), [], []⟩ := by
  rw [callW_eq, EnvS.h 212 F212 rfl]
  have w : IntKind.i64.wrap (0 + 1) = 1 := by decide
  simp -implicitDefEqProofs only [go_sem, F212, s212, s212_3, s212_2, s212_1, loopW_some, w]
theorem e212 (t : Tr) (h : t.thin) : callW E 212 [.p t.pv] [] = some ⟨.p (.int .i64 (if t.is.length = 0 then 1 else 2)), [], []⟩ := by
  have lp : ∀ n : Int, loopW E 0 [3, 7, 8, 9] [] (.trim [3, 7, 8, 9] [2] [(0, [3])] [] s212_2) (some ⟨[(3, .p (.int .i64 n)), (7, .p (.sl 3 (t.is.map In.pv))), (8, .p (.int .i64 t.is.length)), (9, .p (.int .i64 0))], []⟩) = some (.ex 0, ⟨[(3, .p (.int .i64 (if t.is.length = 0 then n else if n < 1 then 1 else n)))], []⟩) := by
    generalize hK : loopW E 0 _ _ _ = K
    intro n
    refine range_loop K t.is (fun i (n : Int) => ⟨[(3, .p (.int .i64 n)), (7, .p (.sl 3 (t.is.map In.pv))), (8, .p (.int .i64 t.is.length)), (9, .p (.int .i64 i))], []⟩) (fun n l => some (.ex 0, ⟨[(3, .p (.int .i64 (if l.length = 0 then n else if n < 1 then 1 else n)))], []⟩)) ?_ ?_ n
    · intro n
      rw [← hK, loopW_some, hK]
      simp -implicitDefEqProofs only [go_sem, s212_2, s212_1]
    · intro i n x r hx hi ih
      have := h.is
      obtain ⟨f1, f2, f3⟩ := rangeFacts i _ hi (by omega)
      try dsimp only at ih ⊢
      rw [← hK, loopW_some, hK]
      by_cases c : n < 1
      · have ih' := ih 1
        simp -implicitDefEqProofs only [go_sem, s212_2, s212_1, hx, f1, f2, f3, In.pv, e212I, c, ih', Nat.succ_ne_zero, Int.lt_irrefl, ite_self]
      · have ih' := ih n
        simp -implicitDefEqProofs only [go_sem, s212_2, s212_1, hx, f1, f2, f3, In.pv, e212I, c, ih', Nat.succ_ne_zero, ite_self]
  rw [callW_eq, EnvS.h 212 F212 rfl]
  unfold Tr.pv
  have lp0 := lp 0
  have w : IntKind.i64.wrap (0 + 1) = 1 := by decide
  have w2 : IntKind.i64.wrap (1 + 1) = 2 := by decide
  by_cases h0 : t.is.length = 0
  · simp only [h0, if_true, Int.natCast_zero] at lp0
    simp -implicitDefEqProofs only [go_sem, F212, s212, s212_3, lp0, h0, w]
  · simp only [h0, if_false, Int.reduceLT, if_true] at lp0
    simp -implicitDefEqProofs only [go_sem, F212, s212, s212_3, lp0, h0, w2]
theorem e213I (th : Int) (ns : List PV) (h : ns.length ≤ 100) : callW E 213 [.p (.agg [.int .i64 th, .sl 1 ns, .sl 3 []])] [] = some ⟨.p (.int .i64 ns.length), [], []⟩ := by
  rw [callW_eq, EnvS.h 213 F213 rfl]
  have w : IntKind.i64.wrap ((ns.length : Int) + 0) = ns.length := by rw [wrap64 (by omega) (by omega)]; omega
  simp -implicitDefEqProofs only [go_sem, F213, s213, s213_3, s213_2, s213_1, loopW_some, w]
theorem e213 (t : Tr) (h : t.thin) : ∃ n : Int, n ≤ 200 ∧ callW E 213 [.p t.pv] [] = some ⟨.p (.int .i64 n), [], []⟩ := by
  have lp : ∀ n : {n : Int // 0 ≤ n ∧ n ≤ 16}, ∃ m : Int, m ≤ 200 ∧ loopW E 0 [3, 14, 15, 16] [] (.trim [3, 14, 15, 16] [2] [(0, [3])] [] s213_2) (some ⟨[(3, .p (.int .i64 n.1)), (14, .p (.sl 3 (t.is.map In.pv))), (15, .p (.int .i64 t.is.length)), (16, .p (.int .i64 0))], []⟩) = some (.ex 0, ⟨[(3, .p (.int .i64 m))], []⟩) := by
    generalize hK : loopW E 0 _ _ _ = K
    intro n
    refine ⟨t.is.foldl (fun n x => n + x.ns.length) n.1, ?_, ?_⟩
    · have key : ∀ (l : List In) (n : Int), (∀ x ∈ l, x.thin) → l.foldl (fun n x => n + (x.ns.length : Int)) n ≤ n + 12 * l.length := by
        intro l
        induction l with
        | nil => intro n _; simp
        | cons x r ih =>
          intro n hx
          have h1 := ih (n + x.ns.length) fun y hy => hx y (List.mem_cons_of_mem _ hy)
          have h2 := hx x List.mem_cons_self
          unfold In.thin at h2
          simp only [List.foldl_cons, List.length_cons]
          omega
      have := key t.is n.1 h.all
      have h4 := h.is
      have := n.2
      omega
    · refine range_loopI K t.is (fun i (n : Int) => ⟨[(3, .p (.int .i64 n)), (14, .p (.sl 3 (t.is.map In.pv))), (15, .p (.int .i64 t.is.length)), (16, .p (.int .i64 i))], []⟩) (fun n l => some (.ex 0, ⟨[(3, .p (.int .i64 (l.foldl (fun n x => n + (x.ns.length : Int)) n)))], []⟩)) (fun i n => 0 ≤ n ∧ n ≤ 16 + 12 * i) ?_ ?_ n.1 (by have := n.2; omega)
      · intro n _
        rw [← hK, loopW_some, hK]
        simp -implicitDefEqProofs only [go_sem, s213_2, s213_1, List.foldl_nil]
      · intro i n x r hx hn hI ih
        have h4 := h.is
        have hth : x.ns.length ≤ 12 := h.all x (List.mem_of_getElem? hx)
        obtain ⟨f1, f2, f3⟩ := rangeFacts i t.is.length (by omega) (by omega)
        have e := e213I (E := E) x.th (x.ns.map (.int .i64)) (by simp; omega)
        simp only [List.length_map] at e
        have w : IntKind.i64.wrap (n + (x.ns.length : Int)) = n + x.ns.length := wrap64 (by omega) (by omega)
        have ih' := ih (n + x.ns.length) (by omega)
        try dsimp only at ih' ⊢
        rw [← hK, loopW_some, hK]
        simp -implicitDefEqProofs only [go_sem, s213_2, s213_1, hx, f1, f2, f3, In.pv, e, w, ih', List.foldl_cons]
  have h1 := h.ns
  have h2 := h.is
  obtain ⟨m, hm, lp0⟩ := lp ⟨(t.ns.length : Int) + t.is.length, by omega⟩
  refine ⟨m, hm, ?_⟩
  rw [callW_eq, EnvS.h 213 F213 rfl]
  unfold Tr.pv
  have w : IntKind.i64.wrap ((t.ns.length : Int) + (t.is.length : Int)) = (t.ns.length : Int) + t.is.length := wrap64 (by omega) (by omega)
  simp -implicitDefEqProofs only [go_sem, F213, s213, s213_3, lp0, w]
/-! as before -/
theorem e216I (th : Int) (ns : List PV) : callW E 216 [.p (.agg [.int .i64 th, .sl 1 ns, .sl 3 []])] [] = some ⟨.p (.int .i64 1), [], []⟩ := by
  rw [callW_eq, EnvS.h 216 F216 rfl]
  have w : IntKind.i64.wrap (0 + 1) = 1 := by decide
  simp -implicitDefEqProofs only [go_sem, F216, s216, s216_3, s216_2, s216_1, loopW_some, w]
theorem e216 (t : Tr) (h : t.thin) : callW E 216 [.p t.pv] [] = some ⟨.p (.int .i64 (if t.is.length = 0 then 1 else 2)), [], []⟩ := by
  have lp : ∀ n : Int, loopW E 0 [3, 7, 8, 9] [] (.trim [3, 7, 8, 9] [2] [(0, [3])] [] s216_2) (some ⟨[(3, .p (.int .i64 n)), (7, .p (.sl 3 (t.is.map In.pv))), (8, .p (.int .i64 t.is.length)), (9, .p (.int .i64 0))], []⟩) = some (.ex 0, ⟨[(3, .p (.int .i64 (if t.is.length = 0 then n else if n < 1 then 1 else n)))], []⟩) := by
    generalize hK : loopW E 0 _ _ _ = K
    intro n
    refine range_loop K t.is (fun i (n : Int) => ⟨[(3, .p (.int .i64 n)), (7, .p (.sl 3 (t.is.map In.pv))), (8, .p (.int .i64 t.is.length)), (9, .p (.int .i64 i))], []⟩) (fun n l => some (.ex 0, ⟨[(3, .p (.int .i64 (if l.length = 0 then n else if n < 1 then 1 else n)))], []⟩)) ?_ ?_ n
    · intro n
      rw [← hK, loopW_some, hK]
      simp -implicitDefEqProofs only [go_sem, s216_2, s216_1]
    · intro i n x r hx hi ih
      have := h.is
      obtain ⟨f1, f2, f3⟩ := rangeFacts i _ hi (by omega)
      try dsimp only at ih ⊢
      rw [← hK, loopW_some, hK]
      by_cases c : n < 1
      · have ih' := ih 1
        simp -implicitDefEqProofs only [go_sem, s216_2, s216_1, hx, f1, f2, f3, In.pv, e216I, c, ih', Nat.succ_ne_zero, Int.lt_irrefl, ite_self]
      · have ih' := ih n
        simp -implicitDefEqProofs only [go_sem, s216_2, s216_1, hx, f1, f2, f3, In.pv, e216I, c, ih', Nat.succ_ne_zero, ite_self]
  rw [callW_eq, EnvS.h 216 F216 rfl]
  unfold Tr.pv
  have lp0 := lp 0
  have w : IntKind.i64.wrap (0 + 1) = 1 := by decide
  have w2 : IntKind.i64.wrap (1 + 1) = 2 := by decide
  by_cases h0 : t.is.length = 0
  · simp only [h0, if_true, Int.natCast_zero] at lp0
    simp -implicitDefEqProofs only [go_sem, F216, s216, s216_3, lp0, h0, w]
  · simp only [h0, if_false, Int.reduceLT, if_true] at lp0
    simp -implicitDefEqProofs only [go_sem, F216, s216, s216_3, lp0, h0, w2]
theorem e217I (th : Int) (ns : List PV) (h : ns.length ≤ 100) : callW E 217 [.p (.agg [.int .i64 th, .sl 1 ns, .sl 3 []])] [] = some ⟨.p (.int .i64 ns.length), [], []⟩ := by
  rw [callW_eq, EnvS.h 217 F217 rfl]
  have w : IntKind.i64.wrap ((ns.length : Int) + 0) = ns.length := by rw [wrap64 (by omega) (by omega)]; omega
  simp -implicitDefEqProofs only [go_sem, F217, s217, s217_3, s217_2, s217_1, loopW_some, w]
theorem e217 (t : Tr) (h : t.thin) : ∃ n : Int, n ≤ 200 ∧ callW E 217 [.p t.pv] [] = some ⟨.p (.int .i64 n), [], []⟩ := by
  have lp : ∀ n : {n : Int // 0 ≤ n ∧ n ≤ 16}, ∃ m : Int, m ≤ 200 ∧ loopW E 0 [3, 14, 15, 16] [] (.trim [3, 14, 15, 16] [2] [(0, [3])] [] s217_2) (some ⟨[(3, .p (.int .i64 n.1)), (14, .p (.sl 3 (t.is.map In.pv))), (15, .p (.int .i64 t.is.length)), (16, .p (.int .i64 0))], []⟩) = some (.ex 0, ⟨[(3, .p (.int .i64 m))], []⟩) := by
    generalize hK : loopW E 0 _ _ _ = K
    intro n
    refine ⟨t.is.foldl (fun n x => n + x.ns.length) n.1, ?_, ?_⟩
    · have key : ∀ (l : List In) (n : Int), (∀ x ∈ l, x.thin) → l.foldl (fun n x => n + (x.ns.length : Int)) n ≤ n + 12 * l.length := by
        intro l
        induction l with
        | nil => intro n _; simp
        | cons x r ih =>
          intro n hx
          have h1 := ih (n + x.ns.length) fun y hy => hx y (List.mem_cons_of_mem _ hy)
          have h2 := hx x List.mem_cons_self
          unfold In.thin at h2
          simp only [List.foldl_cons, List.length_cons]
          omega
      have := key t.is n.1 h.all
      have h4 := h.is
      have := n.2
      omega
    · refine range_loopI K t.is (fun i (n : Int) => ⟨[(3, .p (.int .i64 n)), (14, .p (.sl 3 (t.is.map In.pv))), (15, .p (.int .i64 t.is.length)), (16, .p (.int .i64 i))], []⟩) (fun n l => some (.ex 0, ⟨[(3, .p (.int .i64 (l.foldl (fun n x => n + (x.ns.length : Int)) n)))], []⟩)) (fun i n => 0 ≤ n ∧ n ≤ 16 + 12 * i) ?_ ?_ n.1 (by have := n.2; omega)
      · intro n _
        rw [← hK, loopW_some, hK]
        simp -implicitDefEqProofs only [go_sem, s217_2, s217_1, List.foldl_nil]
      · intro i n x r hx hn hI ih
        have h4 := h.is
        have hth : x.ns.length ≤ 12 := h.all x (List.mem_of_getElem? hx)
        obtain ⟨f1, f2, f3⟩ := rangeFacts i t.is.length (by omega) (by omega)
        have e := e217I (E := E) x.th (x.ns.map (.int .i64)) (by simp; omega)
        simp only [List.length_map] at e
        have w : IntKind.i64.wrap (n + (x.ns.length : Int)) = n + x.ns.length := wrap64 (by omega) (by omega)
        have ih' := ih (n + x.ns.length) (by omega)
        try dsimp only at ih' ⊢
        rw [← hK, loopW_some, hK]
        simp -implicitDefEqProofs only [go_sem, s217_2, s217_1, hx, f1, f2, f3, In.pv, e, w, ih', List.foldl_cons]
  have h1 := h.ns
  have h2 := h.is
  obtain ⟨m, hm, lp0⟩ := lp ⟨(t.ns.length : Int) + t.is.length, by omega⟩
  refine ⟨m, hm, ?_⟩
  rw [callW_eq, EnvS.h 217 F217 rfl]
  unfold Tr.pv
  have w : IntKind.i64.wrap ((t.ns.length : Int) + (t.is.length : Int)) = (t.ns.length : Int) + t.is.length := wrap64 (by omega) (by omega)
  simp -implicitDefEqProofs only [go_sem, F217, s217, s217_3, lp0, w]
end Go.Ab.S

namespace Go.Ab.S
open Go Go.Ab
variable {E : Env} [EnvS E]

/-- The first error of a trust (214, 218). -/
def errI (t : In) : Int := if t.th < 1 ∨ (t.ns.length : Int) < t.th then 4 else if t.ns.any badN = true then 5 else (ofL 0 t.ns).2
def errIs : List In → Int
  | [] => 0
  | x :: r => if errI x = 0 then errIs r else errI x
def errT (t : Tr) : Int := if t.th < 1 ∨ (t.ns.length : Int) + t.is.length < t.th then 4 else if t.ns.any badN = true then 5 else if (ofL 0 t.ns).2 = 0 then errIs t.is else (ofL 0 t.ns).2

theorem e214I (t : In) (h : t.thin) : callW E 214 [.p (.agg [.int .i64 t.th, .sl 1 (t.ns.map (.int .i64)), .sl 3 []])] [] = some ⟨.p (.int .i64 (errI t)), [], []⟩ := by
  rw [callW_eq, EnvS.h 214 F214 rfl]
  unfold In.thin at h
  have e1 := e239 (E := E) t.ns (by omega)
  have e2 := e242 (E := E) t.ns (by omega)
  have w : IntKind.i64.wrap ((t.ns.length : Int) + 0) = t.ns.length := by rw [wrap64 (by omega) (by omega)]; omega
  unfold errI
  by_cases c1 : t.th < 1
  · simp -implicitDefEqProofs only [go_sem, F214, s214, s214_1, s214_2, s214_3, s214_7, c1]
  · by_cases c2 : (t.ns.length : Int) < t.th
    · simp -implicitDefEqProofs only [go_sem, F214, s214, s214_1, s214_2, s214_3, s214_7, c1, w, c2]
    · cases c3 : t.ns.any badN with
      | true => simp -implicitDefEqProofs only [go_sem, F214, s214, s214_1, s214_2, s214_3, s214_7, c1, w, c2, e1, c3]
      | false =>
        by_cases c4 : (ofL 0 t.ns).2 = 0
        · simp -implicitDefEqProofs only [go_sem, F214, s214, s214_1, s214_2, s214_3, s214_7, s214_6, s214_5, s214_4, loopW_some, c1, w, c2, e1, c3, e2, c4]
        · simp -implicitDefEqProofs only [go_sem, F214, s214, s214_1, s214_2, s214_3, s214_7, s214_6, s214_5, s214_4, loopW_some, c1, w, c2, e1, c3, e2, c4]
def errR (e : Int) : Option (Ex × St) := if e = 0 then some (.ex 0, ⟨[], []⟩) else some (.ret, ⟨[(2, .p (.int .i64 e))], []⟩)
theorem loop214 (t : Tr) (h : t.thin) : loopW E 0 [36, 37, 38] [] (.trim [36, 37, 38] [2] [(0, [])] [] s214_6) (some ⟨[(36, .p (.sl 3 (t.is.map In.pv))), (37, .p (.int .i64 t.is.length)), (38, .p (.int .i64 0))], []⟩) = errR (errIs t.is) := by
  generalize hK : loopW E 0 _ _ _ = K
  refine range_loopI K t.is (fun i (_ : Unit) => ⟨[(36, .p (.sl 3 (t.is.map In.pv))), (37, .p (.int .i64 t.is.length)), (38, .p (.int .i64 i))], []⟩) (fun _ l => errR (errIs l)) (fun _ _ => True) ?_ ?_ () trivial
  · intro _ _
    rw [← hK, loopW_some, hK]
    simp -implicitDefEqProofs only [go_sem, s214_6, s214_5, s214_4]
    rfl
  · intro i _ x r hx hn _ ih
    have h4 := h.is
    obtain ⟨f1, f2, f3⟩ := rangeFacts i t.is.length (by omega) (by omega)
    have ih' := ih () trivial
    have e := e214I (E := E) x (h.all x (List.mem_of_getElem? hx))
    try dsimp only at ih' ⊢
    rw [← hK, loopW_some, hK]
    by_cases c : errI x = 0
    · simp -implicitDefEqProofs only [go_sem, s214_6, s214_5, s214_4, hx, f1, f2, f3, In.pv, e, c, ih', errIs]
    · simp -implicitDefEqProofs only [go_sem, s214_6, s214_5, s214_4, hx, f1, f2, f3, In.pv, e, c, errIs, errR]
theorem e214 (t : Tr) (h : t.thin) : callW E 214 [.p t.pv] [] = some ⟨.p (.int .i64 (errT t)), [], []⟩ := by
  rw [callW_eq, EnvS.h 214 F214 rfl]
  have h1 := h.ns
  have h2 := h.is
  have e1 := e239 (E := E) t.ns (by omega)
  have e2 := e242 (E := E) t.ns (by omega)
  have w : IntKind.i64.wrap ((t.ns.length : Int) + (t.is.length : Int)) = (t.ns.length : Int) + t.is.length := wrap64 (by omega) (by omega)
  have lp := loop214 (E := E) t h
  unfold errT
  by_cases c1 : t.th < 1
  · simp -implicitDefEqProofs only [go_sem, F214, s214, s214_1, s214_2, s214_3, s214_7, Tr.pv, c1]
  · by_cases c2 : (t.ns.length : Int) + (t.is.length : Int) < t.th
    · simp -implicitDefEqProofs only [go_sem, F214, s214, s214_1, s214_2, s214_3, s214_7, Tr.pv, c1, w, c2]
    · cases c3 : t.ns.any badN with
      | true => simp -implicitDefEqProofs only [go_sem, F214, s214, s214_1, s214_2, s214_3, s214_7, Tr.pv, c1, w, c2, e1, c3]
      | false =>
        by_cases c4 : (ofL 0 t.ns).2 = 0
        · by_cases c5 : errIs t.is = 0
          · simp only [errR, c5, if_true] at lp
            simp -implicitDefEqProofs only [go_sem, F214, s214, s214_1, s214_2, s214_3, s214_7, Tr.pv, lp, c1, w, c2, e1, c3, e2, c4, c5]
          · simp only [errR, c5, if_false] at lp
            simp -implicitDefEqProofs only [go_sem, F214, s214, s214_1, s214_2, s214_3, s214_7, Tr.pv, lp, c1, w, c2, e1, c3, e2, c4, c5]
        · simp -implicitDefEqProofs only [go_sem, F214, s214, s214_1, s214_2, s214_3, s214_7, Tr.pv, c1, w, c2, e1, c3, e2, c4]
/-! ### The reference's -/
theorem loop218a (es : List Int) (hl : es.length < 4611686018427387904) (st : List AV) (hst : namesL st = []) :
    loopW E 0 [1, 26, 27, 28] [.loc 0 0 0] (.trim [1, 26, 27, 28] [2] [(0, [1])] [.loc 0 0 0] s218_4) (some ⟨[(1, .ptr (.loc 0 0 0) 0), (26, .p (.sl 1 (es.map (.int .i64)))), (27, .p (.int .i64 es.length)), (28, .p (.int .i64 0))], [(.loc 0 0 0, some (.box st))]⟩) =
     if es.any badN = true then some (.ret, ⟨[(2, .p (.int .i64 5))], [(.loc 0 0 0, some (.box st))]⟩) else some (.ex 0, ⟨[(1, .ptr (.loc 0 0 0) 0)], [(.loc 0 0 0, some (.box st))]⟩) := by
  generalize hK : loopW E 0 _ _ _ = K
  refine range_loopI K es (fun i (_ : Unit) => ⟨[(1, .ptr (.loc 0 0 0) 0), (26, .p (.sl 1 (es.map (.int .i64)))), (27, .p (.int .i64 es.length)), (28, .p (.int .i64 i))], [(.loc 0 0 0, some (.box st))]⟩) (fun _ l => if l.any badN = true then some (.ret, ⟨[(2, .p (.int .i64 5))], [(.loc 0 0 0, some (.box st))]⟩) else some (.ex 0, ⟨[(1, .ptr (.loc 0 0 0) 0)], [(.loc 0 0 0, some (.box st))]⟩)) (fun _ _ => True) ?_ ?_ () trivial
  · intro _ _
    rw [← hK, loopW_some, hK]
    simp -implicitDefEqProofs only [go_sem, s218_4, s218_3, s218_2, hst, List.any_nil]
  · intro i _ x r hx hn _ ih
    obtain ⟨f1, f2, f3⟩ := rangeFacts i es.length (by omega) hl
    have ih' := ih () trivial
    try dsimp only at ih' ⊢
    rw [← hK, loopW_some, hK]
    by_cases c1 : x < 0
    · have c2 : badN x = true := by unfold badN; simp; omega
      simp -implicitDefEqProofs only [go_sem, s218_4, s218_3, s218_2, hx, f1, f2, f3, hst, c1, c2, List.any_cons]
    · by_cases c2 : 10 ≤ x
      · have c3 : badN x = true := by unfold badN; simp; omega
        simp -implicitDefEqProofs only [go_sem, s218_4, s218_3, s218_2, hx, f1, f2, f3, hst, c1, c2, c3, List.any_cons]
      · have c3 : badN x = false := by unfold badN; simp; omega
        simp -implicitDefEqProofs only [go_sem, s218_4, s218_3, s218_2, hx, f1, f2, f3, hst, c1, c2, c3, ih', List.any_cons]
theorem e218I (t : In) (h : t.thin) : callW E 218 [.p (.agg [.int .i64 t.th, .sl 1 (t.ns.map (.int .i64)), .sl 3 []])] [] = some ⟨.p (.int .i64 (errI t)), [], []⟩ := by
  rw [callW_eq, EnvS.h 218 F218 rfl]
  unfold In.thin at h
  have e1 := loop218a (E := E) t.ns (by omega) [.p (.int .i64 t.th), .p (.sl 1 (t.ns.map (.int .i64))), .p (.sl 3 [])] rfl
  have e2 := e243 (E := E) t.ns (by omega)
  have w : IntKind.i64.wrap ((t.ns.length : Int) + 0) = t.ns.length := by rw [wrap64 (by omega) (by omega)]; omega
  unfold errI
  by_cases c1 : t.th < 1
  · simp -implicitDefEqProofs only [go_sem, F218, s218, s218_1, s218_5, s218_6, s218_10, c1]
  · by_cases c2 : (t.ns.length : Int) < t.th
    · simp -implicitDefEqProofs only [go_sem, F218, s218, s218_1, s218_5, s218_6, s218_10, c1, w, c2]
    · cases c3 : t.ns.any badN with
      | true =>
        simp only [c3, if_true] at e1
        simp -implicitDefEqProofs only [go_sem, F218, s218, s218_1, s218_5, s218_6, s218_10, c1, w, c2, e1]
      | false =>
        simp only [c3, Bool.false_eq_true, if_false] at e1
        by_cases c4 : (ofL 0 t.ns).2 = 0
        · simp -implicitDefEqProofs only [go_sem, F218, s218, s218_1, s218_5, s218_6, s218_10, s218_9, s218_8, s218_7, loopW_some, c1, w, c2, e1, e2, c4]
        · simp -implicitDefEqProofs only [go_sem, F218, s218, s218_1, s218_5, s218_6, s218_10, c1, w, c2, e1, e2, c4]
theorem loop218b (t : Tr) (h : t.thin) : loopW E 0 [49, 50, 51] [] (.trim [49, 50, 51] [2] [(2, [])] [] s218_9) (some ⟨[(49, .p (.sl 3 (t.is.map In.pv))), (50, .p (.int .i64 t.is.length)), (51, .p (.int .i64 0))], []⟩) = if errIs t.is = 0 then some (.ex 2, ⟨[], []⟩) else some (.ret, ⟨[(2, .p (.int .i64 (errIs t.is)))], []⟩) := by
  generalize hK : loopW E 0 _ _ _ = K
  refine range_loopI K t.is (fun i (_ : Unit) => ⟨[(49, .p (.sl 3 (t.is.map In.pv))), (50, .p (.int .i64 t.is.length)), (51, .p (.int .i64 i))], []⟩) (fun _ l => if errIs l = 0 then some (.ex 2, ⟨[], []⟩) else some (.ret, ⟨[(2, .p (.int .i64 (errIs l)))], []⟩)) (fun _ _ => True) ?_ ?_ () trivial
  · intro _ _
    rw [← hK, loopW_some, hK]
    simp -implicitDefEqProofs only [go_sem, s218_9, s218_8, s218_7, errIs]
  · intro i _ x r hx hn _ ih
    have h4 := h.is
    obtain ⟨f1, f2, f3⟩ := rangeFacts i t.is.length (by omega) (by omega)
    have ih' := ih () trivial
    have e := e218I (E := E) x (h.all x (List.mem_of_getElem? hx))
    try dsimp only at ih' ⊢
    rw [← hK, loopW_some, hK]
    by_cases c : errI x = 0
    · simp -implicitDefEqProofs only [go_sem, s218_9, s218_8, s218_7, hx, f1, f2, f3, In.pv, e, c, ih', errIs]
    · simp -implicitDefEqProofs only [go_sem, s218_9, s218_8, s218_7, hx, f1, f2, f3, In.pv, e, c, errIs]
theorem e218 (t : Tr) (h : t.thin) : callW E 218 [.p t.pv] [] = some ⟨.p (.int .i64 (errT t)), [], []⟩ := by
  rw [callW_eq, EnvS.h 218 F218 rfl]
  have h1 := h.ns
  have h2 := h.is
  have e1 := loop218a (E := E) t.ns (by omega) [.p (.int .i64 t.th), .p (.sl 1 (t.ns.map (.int .i64))), .p (.sl 3 (t.is.map In.pv))] rfl
  have e2 := e243 (E := E) t.ns (by omega)
  have w : IntKind.i64.wrap ((t.ns.length : Int) + (t.is.length : Int)) = (t.ns.length : Int) + t.is.length := wrap64 (by omega) (by omega)
  have lp := loop218b (E := E) t h
  unfold errT
  by_cases c1 : t.th < 1
  · simp -implicitDefEqProofs only [go_sem, F218, s218, s218_1, s218_5, s218_6, s218_10, Tr.pv, c1]
  · by_cases c2 : (t.ns.length : Int) + (t.is.length : Int) < t.th
    · simp -implicitDefEqProofs only [go_sem, F218, s218, s218_1, s218_5, s218_6, s218_10, Tr.pv, c1, w, c2]
    · cases c3 : t.ns.any badN with
      | true =>
        simp only [c3, if_true] at e1
        simp -implicitDefEqProofs only [go_sem, F218, s218, s218_1, s218_5, s218_6, s218_10, Tr.pv, c1, w, c2, e1]
      | false =>
        simp only [c3, Bool.false_eq_true, if_false] at e1
        by_cases c4 : (ofL 0 t.ns).2 = 0
        · by_cases c5 : errIs t.is = 0
          · simp only [c5, if_true] at lp
            simp -implicitDefEqProofs only [go_sem, F218, s218, s218_1, s218_5, s218_6, s218_10, Tr.pv, lp, c1, w, c2, e1, e2, c4, c5]
          · simp only [c5, if_false] at lp
            simp -implicitDefEqProofs only [go_sem, F218, s218, s218_1, s218_5, s218_6, s218_10, Tr.pv, lp, c1, w, c2, e1, e2, c4, c5]
        · simp -implicitDefEqProofs only [go_sem, F218, s218, s218_1, s218_5, s218_6, s218_10, Tr.pv, c1, w, c2, e1, e2, c4]
theorem e156 (t : Tr) (h : t.thin) : callW E 156 [.p t.pv] [] = some ⟨.p (.int .i64 (errT t)), [], []⟩ := by
  rw [callW_eq, EnvS.h 156 F156 rfl]
  have e1 := e212 (E := E) t h
  obtain ⟨n, hn, e2⟩ := e213 (E := E) t h
  have e3 := e214 (E := E) t h
  have c1 : ¬ (4 : Int) < (if t.is.length = 0 then 1 else 2) := by split <;> omega
  have c2 : ¬ (200 : Int) < n := by omega
  unfold Tr.pv at e1 e2 e3 ⊢
  simp -implicitDefEqProofs only [go_sem, F156, s156, s156_1, e1, e2, e3, c1, c2]
/-! as before -/
theorem e160 (t : Tr) (h : t.thin) : callW E 160 [.p t.pv] [] = some ⟨.p (.int .i64 (errT t)), [], []⟩ := by
  rw [callW_eq, EnvS.h 160 F160 rfl]
  have e1 := e216 (E := E) t h
  obtain ⟨n, hn, e2⟩ := e217 (E := E) t h
  have e3 := e218 (E := E) t h
  have c1 : ¬ (4 : Int) < (if t.is.length = 0 then 1 else 2) := by split <;> omega
  have c2 : ¬ (200 : Int) < n := by omega
  unfold Tr.pv at e1 e2 e3 ⊢
  simp -implicitDefEqProofs only [go_sem, F160, s160, s160_1, e1, e2, e3, c1, c2]
end Go.Ab.S

namespace Go.Ab.S
open Go Go.Ab
variable {E : Env} [EnvS E]

/-- An envelope. -/
structure Evl where
  node : Int
  slot : Int
  seq : Int
  t : Tr
  k : Int
  b : Bal
  p : Bal
  q : Bal
  lo : Int
  hi : Int
def Evl.pv (e : Evl) : PV := .agg [.int .i64 e.node, .int .i64 e.slot, .int .i64 e.seq, .int .i64 e.t.th, .sl 1 (e.t.ns.map (.int .i64)), .sl 3 (e.t.is.map In.pv), .int .i64 e.k, .int .i64 e.b.c, .str e.b.v, .int .i64 e.p.c, .str e.p.v, .int .i64 e.q.c, .str e.q.v, .int .i64 e.lo, .int .i64 e.hi]
def validB (b : Bal) : Bool := (decide (1 ≤ b.c) && decide (b.c ≤ 1000) || decide (b.c = 1000000)) && (decide (1 ≤ (b.v.size : Int)) && decide ((b.v.size : Int) ≤ 200))
def finite (b : Bal) : Bool := validB b && decide (b.c ≤ 1000)
def optional (b : Bal) : Bool := zeroB b || validB b
def primeE (e : Evl) : Bool := zeroB e.q || (!zeroB e.p && less e.q e.p && !decide (e.q.v = e.p.v))
def ranged (e : Evl) : Bool := decide (1 ≤ e.lo) && decide (e.lo ≤ e.hi) && decide (e.hi ≤ 1000)
def prepE (e : Evl) : Bool := finite e.b && optional e.p && optional e.q && primeE e && decide (0 ≤ e.lo) && decide (e.lo ≤ e.hi) && decide (e.hi ≤ e.b.c) && ((decide (e.hi = 0) || prepares e.p e.q ⟨e.hi, e.b.v⟩) && (decide (e.lo = 0) || (!aborts e.p ⟨e.lo, e.b.v⟩ && !aborts e.q ⟨e.lo, e.b.v⟩)))
def headE (e : Evl) : Bool := decide (0 ≤ e.node) && decide (e.node < 10) && decide (1 ≤ e.slot) && decide (e.slot ≤ 1000000) && decide (1 ≤ e.seq) && decide (e.seq ≤ 1000000) && decide (errT e.t = 0)
def validE (e : Evl) : Bool := headE e && (if e.k = 1 then prepE e else if e.k = 2 then finite e.b && validB e.p && decide (e.p.v = e.b.v) && zeroB e.q && ranged e && decide (e.hi ≤ e.p.c) else if e.k = 3 then validB e.b && zeroB e.p && zeroB e.q && ranged e else false)

theorem e159 (a : Bal) : callW E 159 [.p (.agg [.int .i64 a.c, .str a.v])] [] = some ⟨.p (.bool (validB a)), [], []⟩ := by
  rw [callW_eq, EnvS.h 159 F159 rfl]
  simp -implicitDefEqProofs only [go_sem, F159, s159, ]
  repeat' ((first | rw [condW_q] | rw [opsG_q] | rw [opsLG_q]); unfold ifq; split <;> rename_i hq <;> simp -implicitDefEqProofs only [go_sem, hq, ])
  all_goals simp_all [validB]
  all_goals (intros; first | omega | (exfalso; omega))
attribute [go_sem] e159
/-! as before -/
theorem e161 (a : Bal) : callW E 161 [.p (.agg [.int .i64 a.c, .str a.v])] [] = some ⟨.p (.bool (validB a)), [], []⟩ := by
  rw [callW_eq, EnvS.h 161 F161 rfl]
  simp -implicitDefEqProofs only [go_sem, F161, s161, ]
  repeat' ((first | rw [condW_q] | rw [opsG_q] | rw [opsLG_q]); unfold ifq; split <;> rename_i hq <;> simp -implicitDefEqProofs only [go_sem, hq, ])
  all_goals simp_all [validB]
  all_goals (intros; first | omega | (exfalso; omega))
attribute [go_sem] e161
theorem e158 (a : Bal) : callW E 158 [.p (.agg [.int .i64 a.c, .str a.v])] [] = some ⟨.p (.bool (finite a)), [], []⟩ := by
  rw [callW_eq, EnvS.h 158 F158 rfl]
  simp -implicitDefEqProofs only [go_sem, F158, s158, ]
  repeat' ((first | rw [condW_q] | rw [opsG_q] | rw [opsLG_q]); unfold ifq; split <;> rename_i hq <;> simp -implicitDefEqProofs only [go_sem, hq, ])
  all_goals simp_all [finite]
theorem e215 (a : Bal) : callW E 215 [.p (.agg [.int .i64 a.c, .str a.v])] [] = some ⟨.p (.bool (optional a)), [], []⟩ := by
  rw [callW_eq, EnvS.h 215 F215 rfl]
  simp -implicitDefEqProofs only [go_sem, F215, s215, ]
  repeat' ((first | rw [condW_q] | rw [opsG_q] | rw [opsLG_q]); unfold ifq; split <;> rename_i hq <;> simp -implicitDefEqProofs only [go_sem, hq, ])
  all_goals simp_all [optional]
attribute [go_sem] e158 e215
theorem e104 (e : Evl) (n : Int) : callW E 104 [.p e.pv, .p (.int .i64 n)] [] = some ⟨.p (.agg [.int .i64 n, .str e.b.v]), [], []⟩ := by
  rw [callW_eq, EnvS.h 104 F104 rfl]
  unfold Evl.pv
  simp -implicitDefEqProofs only [go_sem, F104, s104]
theorem e157 (e : Evl) : callW E 157 [.p e.pv] [] = some ⟨.p (.bool (prepE e)), [], []⟩ := by
  rw [callW_eq, EnvS.h 157 F157 rfl]
  have h1 := e104 (E := E) e e.lo
  have h2 := e104 (E := E) e e.hi
  have p1 := e132 (E := E) e.p e.q ⟨e.hi, e.b.v⟩
  have p2 := e122 (E := E) e.p ⟨e.lo, e.b.v⟩
  have p3 := e122 (E := E) e.q ⟨e.lo, e.b.v⟩
  unfold Evl.pv at *
  dsimp only at p1 p2 p3
  simp -implicitDefEqProofs only [go_sem, F157, s157, s157_1, h1, h2, p1, p2, p3]
  repeat' ((first | rw [condW_q] | rw [opsG_q] | rw [opsLG_q]); unfold ifq; split <;> rename_i hq <;> simp -implicitDefEqProofs only [go_sem, hq, h1, h2, p1, p2, p3])
  all_goals (clear p1 p2 p3 h1 h2; unfold prepE primeE; simp_all)
  all_goals (intros; first | omega | (exfalso; omega))
attribute [go_sem] e157
theorem e81 (e : Evl) (h : e.t.thin) : callW E 81 [.p e.pv] [] = some ⟨.p (.bool (validE e)), [], []⟩ := by
  rw [callW_eq, EnvS.h 81 F81 rfl]
  have h1 := e156 (E := E) e.t h
  have h2 := e157 (E := E) e
  unfold Evl.pv at *
  unfold Tr.pv at h1
  unfold validE
  cases c1 : headE e with
  | false =>
    simp -implicitDefEqProofs only [go_sem, F81, s81, s81_1, s81_7, s81_2, s81_6, s81_3, s81_5, s81_4, h1, h2]
    repeat' ((first | rw [condW_q] | rw [opsG_q] | rw [opsLG_q]); unfold ifq; split <;> rename_i hq <;> simp -implicitDefEqProofs only [go_sem, hq, h1, h2])
    all_goals (clear h1 h2; simp_all [headE])
  | true =>
    have c2 := c1
    unfold headE at c2
    simp only [Bool.and_eq_true, decide_eq_true_eq] at c2
    obtain ⟨⟨⟨⟨⟨⟨d1, d2⟩, d3⟩, d4⟩, d5⟩, d6⟩, d7⟩ := c2
    have f1 : ¬ e.node < 0 := by omega
    have f2 : ¬ 10 ≤ e.node := by omega
    have f3 : ¬ e.slot < 1 := by omega
    have f4 : ¬ 1000000 < e.slot := by omega
    have f5 : ¬ e.seq < 1 := by omega
    have f6 : ¬ 1000000 < e.seq := by omega
    simp -implicitDefEqProofs only [go_sem, F81, s81, s81_1, s81_7, s81_2, s81_6, s81_3, s81_5, s81_4, h1, h2, f1, f2, f3, f4, f5, f6, d7]
    repeat' ((first | rw [condW_q] | rw [opsG_q] | rw [opsLG_q]); unfold ifq; split <;> rename_i hq <;> simp -implicitDefEqProofs only [go_sem, hq, h1, h2, f1, f2, f3, f4, f5, f6, d7])
    all_goals (clear h1 h2; simp_all [ranged])
    all_goals (intros; first | omega | (exfalso; omega))
end Go.Ab.S

namespace Go.Ab.S
open Go Go.Ab
variable {E : Env} [EnvS E]

/-- The reference's word for what is valid. -/
def validR (e : Evl) : Bool := headE e && validB e.b && (if e.k = 1 then
    !decide (1000 < e.b.c) && (zeroB e.p || validB e.p) && (zeroB e.q || (!zeroB e.p && validB e.q && less e.q e.p && !decide (e.q.v = e.p.v))) && decide (0 ≤ e.lo) && decide (e.lo ≤ e.hi) && decide (e.hi ≤ e.b.c) &&
    ((!decide (0 < e.hi) || prepares e.p e.q ⟨e.hi, e.b.v⟩) && (decide (e.lo = 0) || (!aborts e.p ⟨e.lo, e.b.v⟩ && !aborts e.q ⟨e.lo, e.b.v⟩)))
  else if e.k = 2 then decide (e.b.c ≤ 1000) && validB e.p && decide (e.p.v = e.b.v) && zeroB e.q && ranged e && decide (e.hi ≤ e.p.c) else if e.k = 3 then zeroB e.p && zeroB e.q && ranged e else false)
theorem validR_eq (e : Evl) : validR e = validE e := by
  unfold validR validE
  cases headE e <;> simp
  by_cases k1 : e.k = 1
  · simp only [k1, if_true, prepE, finite, optional, primeE]
    by_cases h4 : 0 ≤ e.lo ∧ e.lo ≤ e.hi
    · have hd : (!decide (0 < e.hi)) = decide (e.hi = 0) := by rw [Bool.eq_iff_iff]; simp; omega
      have h1 : (!decide (1000 < e.b.c)) = decide (e.b.c ≤ 1000) := by rw [Bool.eq_iff_iff]; simp
      rw [hd, h1]
      generalize ((decide (e.hi = 0) || prepares e.p e.q ⟨e.hi, e.b.v⟩) && (decide (e.lo = 0) || (!aborts e.p ⟨e.lo, e.b.v⟩ && !aborts e.q ⟨e.lo, e.b.v⟩))) = X
      cases validB e.b <;> cases decide (e.b.c ≤ 1000) <;> cases zeroB e.p <;> cases validB e.p <;> cases zeroB e.q <;> cases validB e.q <;> cases less e.q e.p <;> simp
    · have : decide (0 ≤ e.lo) = false ∨ decide (e.lo ≤ e.hi) = false := by
        by_cases h5 : 0 ≤ e.lo
        · right; simp; omega
        · left; simp; omega
      rcases this with h | h <;> simp [h]
  · by_cases k2 : e.k = 2
    · simp [k2, finite]
      cases validB e.b <;> simp
    · by_cases k3 : e.k = 3 <;> simp [k1, k2, k3]
      cases validB e.b <;> simp
set_option maxHeartbeats 4000000 in
theorem e82 (e : Evl) (h : e.t.thin) : callW E 82 [.p e.pv] [] = some ⟨.p (.bool (validE e)), [], []⟩ := by
  rw [← validR_eq]
  rw [callW_eq, EnvS.h 82 F82 rfl]
  have h1 := e160 (E := E) e.t h
  have p1 := e46 (E := E) e.p e.q ⟨e.hi, e.b.v⟩
  have p2 := e90 (E := E) e.p ⟨e.lo, e.b.v⟩
  have p3 := e90 (E := E) e.q ⟨e.lo, e.b.v⟩
  unfold Evl.pv at *
  unfold Tr.pv at h1
  unfold validR
  dsimp only at p1 p2 p3
  cases c1 : headE e with
  | false =>
    simp -implicitDefEqProofs only [go_sem, F82, s82, s82_1, s82_11, s82_6, s82_2, s82_3, s82_4, s82_5, s82_10, s82_7, s82_9, s82_8, h1, p1, p2, p3]
    repeat' ((first | rw [condW_q] | rw [opsG_q] | rw [opsLG_q]); unfold ifq; split <;> rename_i hq <;> simp -implicitDefEqProofs only [go_sem, hq, h1, p1, p2, p3])
    all_goals (clear h1 p1 p2 p3; simp_all [headE])
    all_goals (intros; first | omega | (exfalso; omega))
  | true =>
    have c2 := c1
    unfold headE at c2
    simp only [Bool.and_eq_true, decide_eq_true_eq] at c2
    obtain ⟨⟨⟨⟨⟨⟨d1, d2⟩, d3⟩, d4⟩, d5⟩, d6⟩, d7⟩ := c2
    have f1 : ¬ e.node < 0 := by omega
    have f2 : ¬ 9 < e.node := by omega
    have f3 : ¬ e.slot < 1 := by omega
    have f4 : ¬ 1000000 < e.slot := by omega
    have f5 : ¬ e.seq < 1 := by omega
    have f6 : ¬ 1000000 < e.seq := by omega
    cases c3 : validB e.b with
    | false => simp -implicitDefEqProofs only [go_sem, F82, s82, s82_1, s82_11, s82_6, s82_2, s82_3, s82_4, s82_5, s82_10, s82_7, s82_9, s82_8, h1, p1, p2, p3, f1, f2, f3, f4, f5, f6, d7, c3]
    | true =>
      simp -implicitDefEqProofs only [go_sem, F82, s82, s82_1, s82_11, s82_6, s82_2, s82_3, s82_4, s82_5, s82_10, s82_7, s82_9, s82_8, h1, p1, p2, p3, f1, f2, f3, f4, f5, f6, d7, c3]
      repeat' ((first | rw [condW_q] | rw [opsG_q] | rw [opsLG_q]); unfold ifq; split <;> rename_i hq <;> simp -implicitDefEqProofs only [go_sem, hq, h1, p1, p2, p3, f1, f2, f3, f4, f5, f6, d7, c3])
      all_goals (clear h1 p1 p2 p3; simp_all [ranged])
      all_goals (intros; first | omega | (exfalso; omega))
end Go.Ab.S

namespace Go.Ab.S
open Go Go.Ab
variable {E : Env} [EnvS E]

def fromE (e : Evl) (v : ByteArray) (lo hi : Int) : Bool := decide (1 ≤ lo) && decide (lo ≤ hi) && decide (e.b.v = v) && decide (e.lo ≤ lo)
def accC (e : Evl) (v : ByteArray) (lo hi : Int) : Bool := fromE e v lo hi && (decide (e.k = 3) || (decide (e.k = 2) && decide (hi ≤ e.hi)))
def votC (e : Evl) (v : ByteArray) (lo hi : Int) : Bool := fromE e v lo hi && (!decide (e.k = 1) || (!decide (e.lo = 0) && decide (hi ≤ e.hi)))
def accP (e : Evl) (b : Bal) : Bool := if zeroB b = true then false else if e.k = 1 then prepares e.p e.q b else if e.k = 2 then covers e.p b else decide (e.b.v = b.v)
def votP (e : Evl) (b : Bal) : Bool := if zeroB b = true then false else if e.k = 1 then covers e.b b else decide (e.b.v = b.v)
def countE (e : Evl) : Int := if e.k = 3 then 1000000 else e.b.c
theorem e198 (e : Evl) (v : ByteArray) (lo hi : Int) : callW E 198 [.p e.pv, .p (.str v), .p (.int .i64 lo), .p (.int .i64 hi)] [] = some ⟨.p (.bool (fromE e v lo hi)), [], []⟩ := by
  rw [callW_eq, EnvS.h 198 F198 rfl]
  unfold Evl.pv
  simp -implicitDefEqProofs only [go_sem, F198, s198, ]
  repeat' ((first | rw [condW_q] | rw [opsG_q] | rw [opsLG_q]); unfold ifq; split <;> rename_i hq <;> simp -implicitDefEqProofs only [go_sem, hq, ])
  all_goals simp_all [fromE]
  all_goals (intros; first | omega | (exfalso; omega))
theorem e163 (e : Evl) (v : ByteArray) (lo hi : Int) : callW E 163 [.p e.pv, .p (.str v), .p (.int .i64 lo), .p (.int .i64 hi)] [] = some ⟨.p (.bool (accC e v lo hi)), [], []⟩ := by
  rw [callW_eq, EnvS.h 163 F163 rfl]
  have h1 := e198 (E := E) e v lo hi
  unfold Evl.pv at *
  simp -implicitDefEqProofs only [go_sem, F163, s163, h1]
  repeat' ((first | rw [condW_q] | rw [opsG_q] | rw [opsLG_q]); unfold ifq; split <;> rename_i hq <;> simp -implicitDefEqProofs only [go_sem, hq, h1])
  all_goals (clear h1; simp_all [accC])
  all_goals (intros; first | omega | (exfalso; omega))
theorem e116 (e : Evl) (v : ByteArray) (lo hi : Int) : callW E 116 [.p e.pv, .p (.str v), .p (.int .i64 lo), .p (.int .i64 hi)] [] = some ⟨.p (.bool (votC e v lo hi)), [], []⟩ := by
  rw [callW_eq, EnvS.h 116 F116 rfl]
  have h1 := e198 (E := E) e v lo hi
  unfold Evl.pv at *
  simp -implicitDefEqProofs only [go_sem, F116, s116, h1]
  repeat' ((first | rw [condW_q] | rw [opsG_q] | rw [opsLG_q]); unfold ifq; split <;> rename_i hq <;> simp -implicitDefEqProofs only [go_sem, hq, h1])
  all_goals (clear h1; simp_all [votC])
  all_goals (intros; first | omega | (exfalso; omega))
theorem e113 (e : Evl) (b : Bal) : callW E 113 [.p e.pv, .p (.agg [.int .i64 b.c, .str b.v])] [] = some ⟨.p (.bool (accP e b)), [], []⟩ := by
  rw [callW_eq, EnvS.h 113 F113 rfl]
  unfold Evl.pv at *
  simp -implicitDefEqProofs only [go_sem, F113, s113, s113_6, s113_1, s113_5, s113_2, s113_4, s113_3, ]
  repeat' ((first | rw [condW_q] | rw [opsG_q] | rw [opsLG_q]); unfold ifq; split <;> rename_i hq <;> simp -implicitDefEqProofs only [go_sem, hq, ])
  all_goals simp_all [accP]
theorem e112 (e : Evl) (b : Bal) : callW E 112 [.p e.pv, .p (.agg [.int .i64 b.c, .str b.v])] [] = some ⟨.p (.bool (votP e b)), [], []⟩ := by
  rw [callW_eq, EnvS.h 112 F112 rfl]
  unfold Evl.pv at *
  simp -implicitDefEqProofs only [go_sem, F112, s112, s112_4, s112_1, s112_3, s112_2, ]
  repeat' ((first | rw [condW_q] | rw [opsG_q] | rw [opsLG_q]); unfold ifq; split <;> rename_i hq <;> simp -implicitDefEqProofs only [go_sem, hq, ])
  all_goals simp_all [votP]
theorem e162 (e : Evl) : callW E 162 [.p e.pv] [] = some ⟨.p (.int .i64 (countE e)), [], []⟩ := by
  rw [callW_eq, EnvS.h 162 F162 rfl]
  unfold Evl.pv at *
  simp -implicitDefEqProofs only [go_sem, F162, s162, s162_1, ]
  repeat' ((first | rw [condW_q] | rw [opsG_q] | rw [opsLG_q]); unfold ifq; split <;> rename_i hq <;> simp -implicitDefEqProofs only [go_sem, hq, ])
  all_goals simp_all [countE]
theorem e87 (e : Evl) (h : e.t.thin) (v : ByteArray) (lo hi : Int) : callW E 87 [.p e.pv, .p (.str v), .p (.int .i64 lo), .p (.int .i64 hi)] [] = some ⟨.p (.bool (validE e && accC e v lo hi)), [], []⟩ := by
  rw [callW_eq, EnvS.h 87 F87 rfl]
  have h1 := e81 (E := E) e h
  have h2 := e163 (E := E) e v lo hi
  unfold Evl.pv at *
  cases c : validE e <;> simp -implicitDefEqProofs only [go_sem, F87, s87, h1, h2, c]
theorem e26 (e : Evl) (h : e.t.thin) (v : ByteArray) (lo hi : Int) : callW E 26 [.p e.pv, .p (.str v), .p (.int .i64 lo), .p (.int .i64 hi)] [] = some ⟨.p (.bool (validE e && votC e v lo hi)), [], []⟩ := by
  rw [callW_eq, EnvS.h 26 F26 rfl]
  have h1 := e81 (E := E) e h
  have h2 := e116 (E := E) e v lo hi
  unfold Evl.pv at *
  cases c : validE e <;> simp -implicitDefEqProofs only [go_sem, F26, s26, h1, h2, c]
theorem e23 (e : Evl) (h : e.t.thin) (b : Bal) : callW E 23 [.p e.pv, .p (.agg [.int .i64 b.c, .str b.v])] [] = some ⟨.p (.bool (validE e && accP e b)), [], []⟩ := by
  rw [callW_eq, EnvS.h 23 F23 rfl]
  have h1 := e81 (E := E) e h
  have h2 := e113 (E := E) e b
  unfold Evl.pv at *
  cases c : validE e <;> simp -implicitDefEqProofs only [go_sem, F23, s23, h1, h2, c]
theorem e22 (e : Evl) (h : e.t.thin) (b : Bal) : callW E 22 [.p e.pv, .p (.agg [.int .i64 b.c, .str b.v])] [] = some ⟨.p (.bool (validE e && votP e b)), [], []⟩ := by
  rw [callW_eq, EnvS.h 22 F22 rfl]
  have h1 := e81 (E := E) e h
  have h2 := e112 (E := E) e b
  unfold Evl.pv at *
  cases c : validE e <;> simp -implicitDefEqProofs only [go_sem, F22, s22, h1, h2, c]
theorem e83 (e : Evl) (h : e.t.thin) : callW E 83 [.p e.pv] [] = some ⟨.p (.int .i64 (if validE e = true then countE e else 0)), [], []⟩ := by
  rw [callW_eq, EnvS.h 83 F83 rfl]
  have h1 := e81 (E := E) e h
  have h2 := e162 (E := E) e
  unfold Evl.pv at *
  cases c : validE e <;> simp -implicitDefEqProofs only [go_sem, F83, s83, s83_1, h1, h2, c]
def Bal.pv (b : Bal) : PV := .agg [.int .i64 b.c, .str b.v]
end Go.Ab.S

/-! The order of ballots. -/
namespace Go.Ab.S
open Go Go.Ab

theorem bl_irrefl : ∀ x : List UInt8, Op.bytesLess x x = false
  | [] => rfl
  | a :: x => by simp [Op.bytesLess, bl_irrefl x]
theorem bl_trans : ∀ x y z : List UInt8, Op.bytesLess x y = true → Op.bytesLess y z = true → Op.bytesLess x z = true
  | x, [], z, h, _ => by cases x <;> simp [Op.bytesLess] at h
  | _, b :: y, [], _, h => by simp [Op.bytesLess] at h
  | [], b :: y, c :: z, _, _ => rfl
  | a :: x, b :: y, c :: z, h, h2 => by
    simp only [Op.bytesLess, Bool.or_eq_true, Bool.and_eq_true, decide_eq_true_eq, beq_iff_eq] at h h2 ⊢
    rcases h with h | ⟨rfl, h⟩
    · rcases h2 with h2 | ⟨rfl, h2⟩
      · exact .inl (UInt8.lt_trans h h2)
      · exact .inl h
    · rcases h2 with h2 | ⟨rfl, h2⟩
      · exact .inl h2
      · exact .inr ⟨rfl, bl_trans x y z h h2⟩
theorem bl_total : ∀ x y : List UInt8, Op.bytesLess x y = false → Op.bytesLess y x = false → x = y
  | [], [], _, _ => rfl
  | [], b :: y, h, _ => by simp [Op.bytesLess] at h
  | a :: x, [], _, h => by simp [Op.bytesLess] at h
  | a :: x, b :: y, h, h2 => by
    simp only [Op.bytesLess, Bool.or_eq_false_iff, Bool.and_eq_false_iff, decide_eq_false_iff_not, beq_eq_false_iff_ne] at h h2
    have hab : a = b := by
      have h3 := h.1
      have h4 := h2.1
      rw [UInt8.lt_iff_toNat_lt] at h3 h4
      exact UInt8.toNat_inj.1 (by omega)
    subst hab
    have h3 : Op.bytesLess x y = false := by rcases h.2 with h | h <;> simp_all
    have h4 : Op.bytesLess y x = false := by rcases h2.2 with h | h <;> simp_all
    rw [bl_total x y h3 h4]
theorem ba_ext {a b : ByteArray} (h : a.toList = b.toList) : a = b := by
  rw [ByteArray.toList_eq, ByteArray.toList_eq] at h
  have h2 : a.data = b.data := Array.toList_inj.1 h
  cases a; cases b; simp_all
theorem lv_irrefl (a : ByteArray) : lessV a a = false := by simp [lessV, bl_irrefl]
theorem lv_trans {a b c : ByteArray} (h : lessV a b = true) (h2 : lessV b c = true) : lessV a c = true := by
  unfold lessV at *
  by_cases h3 : a.size = b.size
  · rw [if_pos h3] at h
    by_cases h4 : b.size = c.size
    · rw [if_pos h4] at h2
      rw [if_pos (h3.trans h4)]
      exact bl_trans _ _ _ h h2
    · rw [if_neg h4] at h2
      simp only [decide_eq_true_eq] at h2
      rw [if_neg (by omega)]
      simp; omega
  · rw [if_neg h3] at h
    simp only [decide_eq_true_eq] at h
    by_cases h4 : b.size = c.size
    · rw [if_neg (by omega)]
      simp; omega
    · rw [if_neg h4] at h2
      simp only [decide_eq_true_eq] at h2
      rw [if_neg (by omega)]
      simp; omega
theorem lv_total {a b : ByteArray} (h : lessV a b = false) (h2 : lessV b a = false) : a = b := by
  unfold lessV at *
  by_cases h3 : a.size = b.size
  · rw [if_pos h3] at h
    rw [if_pos h3.symm] at h2
    exact ba_ext (bl_total _ _ h h2)
  · rw [if_neg h3] at h
    rw [if_neg (fun h => h3 h.symm)] at h2
    simp at h h2
    omega
theorem less_irrefl (a : Bal) : less a a = false := by rw [less_eq]; simp [lv_irrefl]
theorem less_trans {a b c : Bal} (h : less a b = true) (h2 : less b c = true) : less a c = true := by
  rw [less_eq] at *
  by_cases h3 : a.c = b.c
  · rw [if_pos h3] at h
    by_cases h4 : b.c = c.c
    · rw [if_pos h4] at h2
      rw [if_pos (h3.trans h4)]
      exact lv_trans h h2
    · rw [if_neg h4] at h2
      simp only [decide_eq_true_eq] at h2
      rw [if_neg (by omega)]
      simp; omega
  · rw [if_neg h3] at h
    simp only [decide_eq_true_eq] at h
    by_cases h4 : b.c = c.c
    · rw [if_neg (by omega)]
      simp; omega
    · rw [if_neg h4] at h2
      simp only [decide_eq_true_eq] at h2
      rw [if_neg (by omega)]
      simp; omega
theorem less_total {a b : Bal} (h : less a b = false) (h2 : less b a = false) : a = b := by
  rw [less_eq] at *
  by_cases h3 : a.c = b.c
  · rw [if_pos h3] at h
    rw [if_pos h3.symm] at h2
    have := lv_total h h2
    cases a; cases b; simp_all
  · rw [if_neg h3] at h
    rw [if_neg (fun h => h3 h.symm)] at h2
    simp at h h2
    omega
/-! ### Joining -/
/-- What holds of the two greatest of some ballots. -/
structure JInv (p q : Bal) (all : List Bal) : Prop where
  pz : zeroB p = false
  qq : q = ⟨0, ByteArray.empty⟩ ∨ (zeroB q = false ∧ less q p = true ∧ q.v ≠ p.v)
  all : ∀ x ∈ all, prepares p q x = true
theorem covers_self {b : Bal} (h : zeroB b = false) : covers b b = true := by simp [covers, h]
end Go.Ab.S
