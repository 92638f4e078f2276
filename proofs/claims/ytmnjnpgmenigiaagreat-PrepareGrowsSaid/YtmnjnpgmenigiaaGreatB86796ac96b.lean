/- A part of the proof: an executor over plain data, shown sound for the model, and what it computes of the functions. -/
import Derived.Test.YtmnjnpgmenigiaaGreatB7c6c99ed11
set_option linter.all false
namespace Go.Ab.S
open Go Go.Ab
variable {E : Env} [EnvS E]

/-! ### The sort -/
theorem swo_ltI : Sort.SWO ltI where
  irrefl x := by simp [ltI]
  trans x y z h1 h2 := by simp [ltI] at *; omega
  ntrans x y z h1 h2 := by simp [ltI] at *; omega
section
variable {a b : Nat} {d d' : Array Int}
theorem below_perm (hb : b ≤ d.size) (h : Sort.PermIn a b d d') (hB : Sort.Below ltI a b d) : Sort.Below ltI a b d' := by
  rcases hB with h0 | hB
  · exact .inl h0
  · rcases Nat.eq_zero_or_pos a with h0 | ha
    · exact .inl h0
    right
    intro i h1 h2
    rw [h.2.1 (a - 1) (.inl (by omega))]
    exact Go.Sort.permIn_all d d' a b (fun x => ltI x d[a - 1]! = false) hb h hB i h1 h2
theorem below_eq (ha : ∀ i, a ≤ i + 1 → i < b → d'[i]! = d[i]!) (hB : Sort.Below ltI a b d) : Sort.Below ltI a b d' := by
  rcases hB with h0 | hB
  · exact .inl h0
  · rcases Nat.eq_zero_or_pos a with h0 | ha0
    · exact .inl h0
    right
    intro i h1 h2
    rw [ha i (by omega) h2, ha (a - 1) (by omega) (by omega)]
    exact hB i h1 h2
theorem below_less {c : Nat} (hc : c ≤ b) (hB : Sort.Below ltI a b d) : Sort.Below ltI a c d := by
  rcases hB with h0 | hB
  · exact .inl h0
  · exact .inr fun i h1 h2 => hB i h1 (by omega)
end
/-- What a call of it does, for ranges of so many. -/
def SortCall (E : Env) (N n : Nat) : Prop := ∀ (d : Array Int) (a b limit : Nat), d.size = N → a ≤ b → b - a ≤ n → b ≤ N → N < 50 → limit < 1000 → Sort.Below ltI a b d →
  callW E 231 [.hsl (.ext 0) 0 N, .p (.int .i64 a), .p (.int .i64 b), .p (.int .i64 limit), .fn 115 [] []] [.parr (d.toList.map (.int .i64)) 1 false] = some ⟨.tup [], [.parr ((Sort.pdq ltI d a b limit true true).toList.map (.int .i64)) 1 false], []⟩
def p231b : SCode := (.seq (.reg 20 [{ dst := some 106, op := .mv (.t 0) }, { dst := some 107, op := .mv (.t 1) }, { dst := some 108, op := .mv (.t 2) }, { dst := some 109, op := .mv (.t 13) }, { dst := some 110, op := .mv (.t 4) }, { dst := some 111, op := .call (.f 279) [.t 106, .t 107, .t 108, .t 109, .t 110] }, { dst := some 105, op := .mv (.t 111) }, { dst := some 112, op := .ext (.t 105) 0 }, { dst := some 113, op := .ext (.t 105) 1 }, { dst := some 16, op := .mv (.t 112) }, { dst := some 17, op := .mv (.t 113) }]) (.seq (.reg 21 [{ dst := some 114, op := .mv (.t 17) }, { dst := some 11, op := .mv (.t 114) }]) (.seq (.reg 22 [{ dst := some 115, op := .mv (.t 16) }, { dst := some 116, op := .mv (.t 1) }, { dst := some 117, op := .bin .sub (.t 115) (.t 116) }, { dst := some 118, op := .mv (.t 2) }, { dst := some 119, op := .mv (.t 16) }, { dst := some 120, op := .bin .sub (.t 118) (.t 119) }, { dst := some 18, op := .mv (.t 117) }, { dst := some 19, op := .mv (.t 120) }]) (.seq (.reg 23 [{ dst := some 121, op := .mv (.t 12) }, { dst := some 122, op := .bin .quo (.t 121) (.c (.int .i64 (8))) }, { dst := some 20, op := .mv (.t 122) }]) (.seq (.reg 24 [{ dst := some 123, op := .mv (.t 18) }, { dst := some 124, op := .mv (.t 19) }, { dst := some 125, op := .bin .lss (.t 123) (.t 124) }]) (.trim [0, 1, 2, 3, 4, 10, 11] [] [] [] (.cond (.t 125) s231_7 s231_8)))))))
def p231 : SCode := (.seq (.seq (.draw 17 [{ dst := some 81, op := .mv (.t 1) }, { dst := some 82, op := .bin .gtr (.t 81) (.c (.int .i64 (0))) }, { dst := some 83, op := .mv (.t 82) }, { dst := some 84, op := .mv (.t 4), guard := some (83, true) }, { dst := some 85, op := .mv (.t 0), guard := some (83, true) }, { dst := some 86, op := .mv (.t 1), guard := some (83, true) }, { dst := some 87, op := .bin .sub (.t 86) (.c (.int .i64 (1))), guard := some (83, true) }, { dst := some 88, op := .iaddr 1 (.t 85) (.t 87), guard := some (83, true) }, { dst := some 89, op := .load false 1 (.t 88), guard := some (83, true) }, { dst := some 90, op := .mv (.t 0), guard := some (83, true) }, { dst := some 91, op := .mv (.t 13), guard := some (83, true) }, { dst := some 92, op := .iaddr 1 (.t 90) (.t 91), guard := some (83, true) }, { dst := some 93, op := .load false 1 (.t 92), guard := some (83, true) }, { dst := some 94, op := .call (.t 84) [.t 89, .t 93], guard := some (83, true) }, { dst := some 95, op := .bin .lss (.t 94) (.c (.int .i64 (0))), guard := some (83, true) }, { dst := some 96, op := .un .not (.t 95), guard := some (83, true) }, { dst := some 97, op := .pick (.t 83) (.t 96) (.c (.bool false)) }] [(7, 11), (8, 11), (7, 12), (8, 12)]) (.trim [0, 1, 2, 3, 4, 12, 13] [] [(1, [0, 1, 2, 3, 4, 10, 11])] [] (.cond (.t 97) s231_6 .skip))) p231b)
def p231a : SCode := (.seq (.seq (.reg 15 [{ dst := some 68, op := .mv (.t 10) }, { dst := some 69, op := .mv (.t 68) }, { dst := some 70, op := .mv (.t 11), guard := some (69, true) }, { dst := some 71, op := .pick (.t 69) (.t 70) (.c (.bool false)) }, { dst := some 72, op := .mv (.t 71) }, { dst := some 73, op := .mv (.t 14), guard := some (72, true) }, { dst := some 74, op := .bin .eql (.t 73) (.c (.int .i64 (1))), guard := some (72, true) }, { dst := some 75, op := .pick (.t 72) (.t 74) (.c (.bool false)) }]) (.trim [0, 1, 2, 3, 4, 10, 11, 12, 13] [] [] [] (.cond (.t 75) s231_5 .skip))) p231)
def tailPdq (d3 : Array Int) (a b limit : Nat) (wasBalanced wasPartitioned : Bool) (pivot : Nat) : Array Int :=
  if a > 0 && !ltI d3[a - 1]! d3[pivot]! then
    match Sort.partitionEqual ltI d3 a b pivot with
    | (mid, d4) => if _h : a < mid ∧ mid ≤ b then Sort.pdq ltI d4 mid b limit wasBalanced wasPartitioned else d4
  else
    match Sort.partition ltI d3 a b pivot with
    | (mid, alreadyPartitioned, d4) =>
      if _h : a ≤ mid ∧ mid < b then
        if mid - a < b - mid then
          Sort.pdq ltI (Sort.pdq ltI d4 a mid limit true true) (mid + 1) b limit (decide (mid - a ≥ (b - a) / 8)) alreadyPartitioned
        else
          Sort.pdq ltI (Sort.pdq ltI d4 (mid + 1) b limit true true) a mid limit (decide (b - mid ≥ (b - a) / 8)) alreadyPartitioned
      else d4
theorem pdq_unf (d : Array Int) (a b limit : Nat) (wb wp : Bool) (h1 : ¬ b - a ≤ 12) (h2 : ¬ limit = 0) : Sort.pdq ltI d a b limit wb wp =
    (let d1 := if !wb then Sort.breakPatterns d a b else d
     let limit := if !wb then limit - 1 else limit
     let c := Sort.choosePivot ltI d1 a b
     let d2 := if c.2 = .decreasing then Sort.reverseRange d1 a b else d1
     let pivot := if c.2 = .decreasing then (b - 1) - (c.1 - a) else c.1
     let hint := if c.2 = .decreasing then Sort.Hint.increasing else c.2
     let pi := if wb && wp && hint = .increasing then Sort.partialInsertionSort ltI d2 a b else (d2, false)
     if pi.2 then pi.1 else tailPdq pi.1 a b limit wb wp pivot) := by
  rw [Sort.pdq, if_neg h1, if_neg h2]; rfl
/-- One round, behind the choice of the pivot: what is left to do. -/
theorem tail231 (N n : Nat) (hc : SortCall E N n) (d : Array Int) (a b limit : Nat) (wb wp : Bool) (p : Nat) (hN : d.size = N) (hab : 12 < b - a) (hn : b - a ≤ n + 1) (hb : b ≤ N) (hs : N < 50) (hl : limit < 1000) (hp1 : a ≤ p) (hp2 : p < b) (hB : Sort.Below ltI a b d) :
    ∃ (a' b' : Nat) (wb' wp' : Bool) (d' : Array Int) (ex : Ex), (ex = .nrm ∨ ex = .ex 1) ∧ tailPdq d a b limit wb wp p = Sort.pdq ltI d' a' b' limit wb' wp' ∧ Sort.Below ltI a' b' d' ∧ d'.size = N ∧ a' ≤ b' ∧ b' ≤ N ∧ b' - a' < b - a ∧
    sexW E 1 p231 ⟨[(0, .hsl (.ext 0) 0 d.size), (1, .p (.int .i64 a)), (2, .p (.int .i64 b)), (3, .p (.int .i64 limit)), (4, .fn 115 [] []), (10, .p (.bool wb)), (11, .p (.bool wp)), (12, .p (.int .i64 (b - a : Nat))), (13, .p (.int .i64 p))], [(.ext 0, some (.parr (d.toList.map (.int .i64)) 1 false))]⟩ = some (ex, ⟨[(0, .hsl (.ext 0) 0 d.size), (1, .p (.int .i64 a')), (2, .p (.int .i64 b')), (3, .p (.int .i64 limit)), (4, .fn 115 [] []), (10, .p (.bool wb')), (11, .p (.bool wp'))], [(.ext 0, some (.parr (d'.toList.map (.int .i64)) 1 false))]⟩) := by
  subst hN
  have ha : a < d.size := by omega
  have hp : p < d.size := by omega
  have g1 := ar_get hp
  have n1 : (0 : Int) ≤ (p : Int) := by omega
  have h0 : 0 + d.size ≤ d.size := by omega
  have a0 : d.toList.length = d.size := Array.length_toList
  have e3 := e279 (E := E) d a b p (by omega) hb hp (by omega)
  obtain ⟨k1, k2, k3, k4, k5⟩ := Go.Sort.partition_holds ltI swo_ltI d a b p hp1 hp2 hb
  -- the plain way
  have plain : (decide (a > 0) && !ltI d[a - 1]! d[p]!) = false → ∃ (a' b' : Nat) (wb' wp' : Bool) (d' : Array Int), tailPdq d a b limit wb wp p = Sort.pdq ltI d' a' b' limit wb' wp' ∧ Sort.Below ltI a' b' d' ∧ d'.size = d.size ∧ a' ≤ b' ∧ b' ≤ d.size ∧ b' - a' < b - a ∧
      sexW E 1 p231b ⟨[(0, .hsl (.ext 0) 0 d.size), (1, .p (.int .i64 a)), (2, .p (.int .i64 b)), (3, .p (.int .i64 limit)), (4, .fn 115 [] []), (12, .p (.int .i64 (b - a : Nat))), (13, .p (.int .i64 p))], [(.ext 0, some (.parr (d.toList.map (.int .i64)) 1 false))]⟩ = some (.nrm, ⟨[(0, .hsl (.ext 0) 0 d.size), (1, .p (.int .i64 a')), (2, .p (.int .i64 b')), (3, .p (.int .i64 limit)), (4, .fn 115 [] []), (10, .p (.bool wb')), (11, .p (.bool wp'))], [(.ext 0, some (.parr (d'.toList.map (.int .i64)) 1 false))]⟩) := by
    intro h1
    unfold tailPdq
    rw [if_neg (by simp [h1])]
    generalize hpt : Sort.partition ltI d a b p = pt at *
    obtain ⟨mid, al, d4⟩ := pt
    dsimp only at k1 k2 k3 k4 k5 e3 ⊢
    rw [dif_pos ⟨k1, k2⟩]
    have w1 := wSub mid a k1 (by omega)
    have w2 := wSub b mid (by omega) (by omega)
    have w3 := wAdd1 mid (by omega)
    have q1 : IntKind.i64.wrap (((b - a : Nat) : Int).tdiv 8) = (((b - a) / 8 : Nat) : Int) := by
      rw [show ((b - a : Nat) : Int).tdiv 8 = (((b - a) / 8 : Nat) : Int) from rfl, wrapN _ (by omega)]
    have z4 : d4.size = d.size := k3.1
    have hB4 := below_perm hb k3 hB
    by_cases h4 : mid - a < b - mid
    · have f1 : ((mid - a : Nat) : Int) < ((b - mid : Nat) : Int) := by omega
      have hB5 := below_less (Nat.le_of_lt k2) hB4
      have c1 := hc d4 a mid limit z4 k1 (by omega) (by omega) hs hl hB5
      obtain ⟨m1, _⟩ := Go.Sort.pdq_sorts ltI swo_ltI d4 a mid limit true true k1 (by omega) hB5
      refine ⟨mid + 1, b, decide (mid - a ≥ (b - a) / 8), al, Sort.pdq ltI d4 a mid limit true true, by rw [if_pos h4], ?_, by rw [m1.1, z4], by omega, hb, by omega, ?_⟩
      · right
        intro i i1 i2
        rw [Nat.add_sub_cancel, m1.2.1 i (.inr (by omega)), m1.2.1 mid (.inr (by omega))]
        exact k5 i (by omega) i2
      · have f2 : decide ((((b - a) / 8 : Nat) : Int) ≤ ((mid - a : Nat) : Int)) = decide (mid - a ≥ (b - a) / 8) := by simp only [decide_eq_decide]; omega
        simp -implicitDefEqProofs only [go_sem, p231b, s231_7, s231_8, e3, w1, w2, w3, q1, f1, f2, c1]
    · have f1 : ¬ ((mid - a : Nat) : Int) < ((b - mid : Nat) : Int) := by omega
      have hB5 : Sort.Below ltI (mid + 1) b d4 := by
        right
        intro i i1 i2
        rw [Nat.add_sub_cancel]
        exact k5 i (by omega) i2
      have c1 := hc d4 (mid + 1) b limit z4 (by omega) (by omega) hb hs hl hB5
      obtain ⟨m1, _⟩ := Go.Sort.pdq_sorts ltI swo_ltI d4 (mid + 1) b limit true true (by omega) (by omega) hB5
      refine ⟨a, mid, decide (b - mid ≥ (b - a) / 8), al, Sort.pdq ltI d4 (mid + 1) b limit true true, by rw [if_neg h4], ?_, by rw [m1.1, z4], by omega, by omega, by omega, ?_⟩
      · refine below_eq (fun i i1 i2 => m1.2.1 i (.inl (by omega))) (below_less (Nat.le_of_lt k2) hB4)
      · have f2 : decide ((((b - a) / 8 : Nat) : Int) ≤ ((b - mid : Nat) : Int)) = decide (b - mid ≥ (b - a) / 8) := by simp only [decide_eq_decide]; omega
        simp -implicitDefEqProofs only [go_sem, p231b, s231_7, s231_8, e3, w1, w2, w3, q1, f1, f2, c1]
  by_cases ha0 : a > 0
  · have f1 : (0 : Int) < (a : Int) := by omega
    have w1 : IntKind.i64.wrap ((a : Int) - 1) = ((a - 1 : Nat) : Int) := wSub a 1 (by omega) (by omega)
    have i1 : a - 1 < d.size := by omega
    have g2 := ar_get i1
    have n2 : (0 : Int) ≤ ((a - 1 : Nat) : Int) := by omega
    have e1 := e115 (E := E) d[a - 1]! d[p]!
    have e2 := cmpI_lt d[a - 1]! d[p]!
    cases hl1 : ltI d[a - 1]! d[p]! with
    | false =>
      rw [hl1] at e2
      have e4 := of_decide_eq_false e2
      have e5 := e278 (E := E) d a b p (by omega) hb hp (by omega)
      have pre : ∀ i, a ≤ i → i < b → ltI d[i]! d[p]! = false := by
        intro i x1 x2
        rcases hB with h0 | hB
        · omega
        · exact swo_ltI.ntrans _ _ _ (hB i x1 x2) hl1
      obtain ⟨m1, m2, m3, m4, m5⟩ := Go.Sort.partitionEqual_holds ltI swo_ltI d a b p hp1 hp2 hb pre
      unfold tailPdq
      rw [if_pos (by simp [ha0, hl1])]
      generalize hpt : Sort.partitionEqual ltI d a b p = pt at *
      obtain ⟨mid, d4⟩ := pt
      dsimp only at m1 m2 m3 m4 m5 e5 ⊢
      refine ⟨mid, b, wb, wp, d4, .ex 1, .inr rfl, by rw [dif_pos ⟨m1, m2⟩], ?_, m3.1, m2, hb, by omega, ?_⟩
      · right
        intro i x1 x2
        cases hc2 : ltI d4[i]! d4[mid - 1]! with
        | false => rfl
        | true =>
          have t1 := m5 i x1 x2
          have t2 := swo_ltI.trans _ _ _ t1 hc2
          rw [m4 (mid - 1) (by omega) (by omega)] at t2
          cases t2
      · simp -implicitDefEqProofs only [go_sem, p231, s231_6, f1, w1, i1, hp, g1, g2, n1, n2, h0, a0, e1, e4, e5]
    | true =>
      rw [hl1] at e2
      have e4 := of_decide_eq_true e2
      obtain ⟨a', b', wb', wp', d', r1, r2, r3, r4, r5, r6, r7⟩ := plain (by simp [hl1])
      refine ⟨a', b', wb', wp', d', .nrm, .inl rfl, r1, r2, r3, r4, r5, r6, ?_⟩
      simp -implicitDefEqProofs only [go_sem, p231, s231_6, f1, w1, i1, hp, g1, g2, n1, n2, h0, a0, e1, e4, r7]
  · have f1 : ¬ (0 : Int) < (a : Int) := by omega
    obtain ⟨a', b', wb', wp', d', r1, r2, r3, r4, r5, r6, r7⟩ := plain (by simp [ha0])
    refine ⟨a', b', wb', wp', d', .nrm, .inl rfl, r1, r2, r3, r4, r5, r6, ?_⟩
    simp -implicitDefEqProofs only [go_sem, p231, s231_6, f1, r7]
/-- A round behind the reversal. -/
theorem step231 (N n : Nat) (hc : SortCall E N n) (d : Array Int) (a b limit : Nat) (wb wp : Bool) (p : Nat) (h : Sort.Hint) (hN : d.size = N) (hab : 12 < b - a) (hn : b - a ≤ n + 1) (hb : b ≤ N) (hs : N < 50) (hl : limit < 1000) (hp1 : a ≤ p) (hp2 : p < b) (hB : Sort.Below ltI a b d) :
    ((if wb && wp && h = .increasing then Sort.partialInsertionSort ltI d a b else (d, false)).2 = true ∧ sexW E 1 p231a ⟨[(0, .hsl (.ext 0) 0 d.size), (1, .p (.int .i64 a)), (2, .p (.int .i64 b)), (3, .p (.int .i64 limit)), (4, .fn 115 [] []), (10, .p (.bool wb)), (11, .p (.bool wp)), (12, .p (.int .i64 (b - a : Nat))), (13, .p (.int .i64 p)), (14, .p (.int .i64 (hintN h)))], [(.ext 0, some (.parr (d.toList.map (.int .i64)) 1 false))]⟩ = some (.ret, ⟨[], [(.ext 0, some (.parr ((if wb && wp && h = .increasing then Sort.partialInsertionSort ltI d a b else (d, false)).1.toList.map (.int .i64)) 1 false))]⟩)) ∨
    ((if wb && wp && h = .increasing then Sort.partialInsertionSort ltI d a b else (d, false)).2 = false ∧ (if wb && wp && h = .increasing then Sort.partialInsertionSort ltI d a b else (d, false)).1 = d ∧ ∃ (a' b' : Nat) (wb' wp' : Bool) (d' : Array Int) (ex : Ex), (ex = .nrm ∨ ex = .ex 1) ∧ tailPdq d a b limit wb wp p = Sort.pdq ltI d' a' b' limit wb' wp' ∧ Sort.Below ltI a' b' d' ∧ d'.size = N ∧ a' ≤ b' ∧ b' ≤ N ∧ b' - a' < b - a ∧
    sexW E 1 p231a ⟨[(0, .hsl (.ext 0) 0 d.size), (1, .p (.int .i64 a)), (2, .p (.int .i64 b)), (3, .p (.int .i64 limit)), (4, .fn 115 [] []), (10, .p (.bool wb)), (11, .p (.bool wp)), (12, .p (.int .i64 (b - a : Nat))), (13, .p (.int .i64 p)), (14, .p (.int .i64 (hintN h)))], [(.ext 0, some (.parr (d.toList.map (.int .i64)) 1 false))]⟩ = some (ex, ⟨[(0, .hsl (.ext 0) 0 d.size), (1, .p (.int .i64 a')), (2, .p (.int .i64 b')), (3, .p (.int .i64 limit)), (4, .fn 115 [] []), (10, .p (.bool wb')), (11, .p (.bool wp'))], [(.ext 0, some (.parr (d'.toList.map (.int .i64)) 1 false))]⟩)) := by
  obtain ⟨a', b', wb', wp', d', ex, r0, r1, r2, r3, r4, r5, r6, r7⟩ := tail231 (E := E) N n hc d a b limit wb wp p hN hab hn hb hs hl hp1 hp2 hB
  have e1 := e277 (E := E) d a b (by omega) (by omega) (by omega)
  have pe := pi_eq d a b (by omega)
  by_cases hh : (wb && wp && h = .increasing) = true
  · simp only [Bool.and_eq_true, decide_eq_true_eq] at hh
    obtain ⟨⟨rfl, rfl⟩, rfl⟩ := hh
    simp only [Bool.and_self, decide_true, if_true, hintN]
    rw [pe] at e1 ⊢
    dsimp only at e1 ⊢
    cases hsrt : decide (Sort.scanSorted ltI d b (a + 1) = b) with
    | true =>
      rw [hsrt] at e1
      refine .inl ⟨rfl, ?_⟩
      simp -implicitDefEqProofs only [go_sem, p231a, s231_5, e1]
    | false =>
      rw [hsrt] at e1
      refine .inr ⟨rfl, rfl, a', b', wb', wp', d', ex, r0, r1, r2, r3, r4, r5, r6, ?_⟩
      simp -implicitDefEqProofs only [go_sem, p231a, s231_5, e1, r7]
  · rw [if_neg hh]
    refine .inr ⟨rfl, rfl, a', b', wb', wp', d', ex, r0, r1, r2, r3, r4, r5, r6, ?_⟩
    cases wb with
    | false => simp -implicitDefEqProofs only [go_sem, p231a, s231_5, r7]
    | true =>
      cases wp with
      | false => simp -implicitDefEqProofs only [go_sem, p231a, s231_5, r7]
      | true =>
        cases h with
        | increasing => exact absurd (by simp) hh
        | unknown => simp -implicitDefEqProofs only [go_sem, p231a, s231_5, hintN, r7]
        | decreasing => simp -implicitDefEqProofs only [go_sem, p231a, s231_5, hintN, r7]
theorem hint_dec (h : Sort.Hint) : (hintN h = 2) = (h = .decreasing) := by cases h <;> simp [hintN]
end Go.Ab.S

namespace Go.Ab.S
open Go Go.Ab
variable {E : Env} [EnvS E]

/-! ### Leaving out what stands twice -/
theorem fin1_hsl (F : SFn) (st : St) (k : Nat) (v : PV) (es : List PV) (z : Nat) (b : Bool) (hF : F.rawR = false) (hx : hget st.H (.ext 0) = some (.parr es z b)) (hv : frzL st.H [.hsl (.ext 0) 0 k] = some [.p v]) : fin1 F st [.hsl (.ext 0) 0 k] (some [.p v]) (some (.parr es z b)) = some ⟨.p v, [.parr es z true], []⟩ := by
  simp only [fin1]
  rw [finX_succ, finishG_eq _ _ _ _ hF, hv, hA_some]
  have hu : frzUp st.H (frzNs [.hsl (.ext 0) 0 k]) = [(.ext 0, some (.parr es z true))] := by simp [frzNs, hslN, frzUp, hx]
  rw [hu]
  have hre : reach ([(.ext 0, some (.parr es z true))] ++ st.H) 64 (extNs 0 1 ++ namesL [.p v]) [] = some [.ext 0] := by simp [reach, extNs, AObj.names, namesL, AV.names, hget]
  rw [hre]
  simp [hB, hD, extNs, renL, AV.ren, hgets, hget, renOs, AObj.ren, hE, tup1]
section
variable {α : Type} [DecidableEq α]
def keepNew (a : α) : List α → List α
  | [] => []
  | x :: r => if x = a then keepNew x r else x :: keepNew x r
def compactL : List α → List α
  | [] => []
  | a :: r => a :: keepNew a r
theorem take_set_succ (l : List α) (k : Nat) (x : α) (h : k < l.length) : (l.set k x).take (k + 1) = l.take k ++ [x] := by
  rw [List.take_add_one, List.getElem?_set_self h, List.take_set_of_le (Nat.le_refl k)]
  rfl
end
theorem raw196 : E.raw 196 = true := raw_T 196 F196 rfl rfl
theorem raw114 : E.raw 114 = true := raw_T 114 F114 rfl rfl
attribute [go_sem] raw196 raw114
end Go.Ab.S
