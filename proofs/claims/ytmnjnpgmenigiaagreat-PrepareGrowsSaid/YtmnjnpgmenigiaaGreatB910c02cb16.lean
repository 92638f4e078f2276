/- A part of the proof: an executor over plain data, shown sound for the model, and what it computes of the functions. -/
import Derived.Test.YtmnjnpgmenigiaaGreatB398a78d007
set_option linter.all false
namespace Go.Ab.S
open Go Go.Ab
variable {E : Env} [EnvS E]

/-- A trust of one level, and one of two. -/
structure In where
  th : Int
  ns : List Int
structure Tr where
  th : Int
  ns : List Int
  is : List In
def In.pv (t : In) : PV := .agg [.int .i64 t.th, .sl 1 (t.ns.map (.int .i64)), .sl 3 []]
def Tr.pv (t : Tr) : PV := .agg [.int .i64 t.th, .sl 1 (t.ns.map (.int .i64)), .sl 3 (t.is.map In.pv)]

def tn (l : List Int) : Nat → Nat → Nat → List Int × Nat
  | 0, i, a => ([], a)
  | k + 1, i, a => let r := tn l k (i + 1) (dA l a 5); if 0 < dV l a 5 then ((i : Int) :: r.1, r.2) else r
theorem tn_le (l : List Int) : ∀ (k i a : Nat), a ≤ l.length → (tn l k i a).2 ≤ l.length
  | 0, i, a, h => h
  | k + 1, i, a, h => by
    have := tn_le l k (i + 1) (dA l a 5) (dA_le l a 5 h)
    simp only [tn]
    split <;> exact this
theorem tn_len (l : List Int) : ∀ (k i a : Nat), (tn l k i a).1.length ≤ k
  | 0, i, a => by simp [tn]
  | k + 1, i, a => by
    have := tn_len l k (i + 1) (dA l a 5)
    simp only [tn]
    split
    · simp only [List.length_cons]; omega
    · omega

theorem loop29 (l : List Int) (n : Nat) (hl : l.length ≤ 800) (hn : n ≤ 10) : ∀ (k i a : Nat) (ns : List Int), k + i = n → a ≤ l.length → ns.length ≤ i →
    loopW E 1 [0, 1, 4, 5, 6] [.loc 0 0 0, .loc 1 0 0, .loc 1 0 2, .loc 1 0 3] (.trim [0, 1, 4, 5, 6] [4] [(0, [0, 1, 4, 5])] [.loc 0 0 0, .loc 1 0 0, .loc 1 0 2, .loc 1 0 3] s29_3)
      (some ⟨[(0, .ptr (.ext 0) 0), (1, .p (.int .i64 n)), (4, .ptr (.loc 0 0 0) 0), (5, .ptr (.loc 1 0 0) 0), (6, .p (.int .i64 i))],
              [(.ext 0, some (.box [.p (.sl 1 (l.map (.int .i64))), .p (.int .i64 a)])), (.loc 0 0 0, some (.box [.p (.int .i64 0), .nils 1, .nils 3])), (.loc 1 0 0, some (.box [.p (.int .i64 0), .hsl (.loc 1 0 2) 0 ns.length, .hsl (.loc 1 0 3) 0 0])), (.loc 1 0 2, some (.parr (ns.map (.int .i64)) 1 false)), (.loc 1 0 3, some (.parr [] 3 false))]⟩) =
    some (.ex 0, ⟨[(0, .ptr (.ext 0) 0), (1, .p (.int .i64 n)), (4, .ptr (.loc 0 0 0) 0), (5, .ptr (.loc 1 0 0) 0)],
              [(.ext 0, some (.box [.p (.sl 1 (l.map (.int .i64))), .p (.int .i64 (tn l k i a).2)])), (.loc 0 0 0, some (.box [.p (.int .i64 0), .nils 1, .nils 3])), (.loc 1 0 0, some (.box [.p (.int .i64 0), .hsl (.loc 1 0 2) 0 (ns ++ (tn l k i a).1).length, .hsl (.loc 1 0 3) 0 0])), (.loc 1 0 2, some (.parr ((ns ++ (tn l k i a).1).map (.int .i64)) 1 false)), (.loc 1 0 3, some (.parr [] 3 false))]⟩) := by
  generalize hK : loopW E 1 _ _ _ = K
  intro k
  induction k with
  | zero =>
    intro i a ns hk ha hns
    have hlt : ¬ (i : Int) < n := by omega
    rw [← hK, loopW_some, hK]
    simp -implicitDefEqProofs only [go_sem, s29_3, s29_2, s29_1, hlt, tn]
  | succ k ih =>
    intro i a ns hk ha hns
    have hlt : (i : Int) < n := by omega
    have e := e28 (E := E) l a 5 hl ha (by omega)
    have hw : IntKind.i64.wrap ((i : Int) + 1) = ((i + 1 : Nat) : Int) := by rw [wrap64 (by omega) (by omega)]; omega
    rw [← hK, loopW_some, hK]
    by_cases h : 0 < dV l a 5
    · have hm : ns.length + 1 ≤ most := by unfold most; omega
      have ih' := ih (i + 1) (dA l a 5) (ns ++ [(i : Int)]) (by omega) (dA_le l a 5 ha) (by simp; omega)
      simp only [List.map_append, List.map_cons, List.map_nil, List.length_append, List.length_cons, List.length_nil, Nat.zero_add, List.append_assoc, List.singleton_append] at ih'
      simp -implicitDefEqProofs only [go_sem, s29_3, s29_2, s29_1, hlt, e, hw, h, hm, tn, ih', List.map_append, List.append_assoc, List.singleton_append, List.length_append]
    · have ih' := ih (i + 1) (dA l a 5) ns (by omega) (dA_le l a 5 ha) (by omega)
      simp -implicitDefEqProofs only [go_sem, s29_3, s29_2, s29_1, hlt, e, hw, h, tn, ih']
def trR2 (l : List Int) (a n : Nat) : List Int × Nat :=
  let r := tn l n 0 a
  if r.1.length = 0 then ([dV l r.2 n], dA l r.2 n) else r
def trI (l : List Int) (a n : Nat) : List In × Nat :=
  let r := trR2 l a n
  if dV l r.2 4 = 3 then ([⟨1, [dV l (dA l r.2 4) n]⟩], dA l (dA l r.2 4) n) else ([], dA l r.2 4)
def trK (l : List Int) (a n : Nat) : Int := ((trR2 l a n).1.length : Int) + ((trI l a n).1.length : Int)
def trD (l : List Int) (a n : Nat) : Int := trK l a n - (trK l a n + 1) / 2 + 1
def trT (l : List Int) (a n : Nat) : Int := (trK l a n + 1) / 2 + dV l (trI l a n).2 (trD l a n)
def trA (l : List Int) (a n : Nat) : Nat := dA l (trI l a n).2 (trD l a n)
def trG (l : List Int) (a n : Nat) : Tr × Nat :=
  (⟨if dV l (trA l a n) 6 = 5 then 1 else trT l a n, (trR2 l a n).1, (trI l a n).1⟩, dA l (trA l a n) 6)
theorem trR2_le (l : List Int) (a n : Nat) (h : a ≤ l.length) : (trR2 l a n).2 ≤ l.length := by
  have := tn_le l n 0 a h
  unfold trR2
  dsimp only
  split
  · exact dA_le l _ _ this
  · exact this
theorem trI_le (l : List Int) (a n : Nat) (h : a ≤ l.length) : (trI l a n).2 ≤ l.length := by
  have := trR2_le l a n h
  unfold trI
  dsimp only
  split
  · exact dA_le l _ _ (dA_le l _ _ this)
  · exact dA_le l _ _ this
theorem trA_le (l : List Int) (a n : Nat) (h : a ≤ l.length) : (trA l a n) ≤ l.length := dA_le l _ _ (trI_le l a n h)
theorem trG_le (l : List Int) (a n : Nat) (h : a ≤ l.length) : (trG l a n).2 ≤ l.length := dA_le l _ _ (trA_le l a n h)
theorem trR2_len (l : List Int) (a n : Nat) (hn : 1 ≤ n) : 1 ≤ (trR2 l a n).1.length ∧ (trR2 l a n).1.length ≤ n := by
  have := tn_len l n 0 a
  unfold trR2
  dsimp only
  split
  · simp; omega
  · omega
theorem trI_len (l : List Int) (a n : Nat) : (trI l a n).1.length ≤ 1 := by
  unfold trI
  dsimp only
  split <;> simp

theorem e29 (l : List Int) (a n : Nat) (hl : l.length ≤ 800) (ha : a ≤ l.length) (hn : n ≤ 10) (hn0 : 1 ≤ n) : callW E 29 [.ptr (.ext 0) 0, .p (.int .i64 n)] [.box [.p (.sl 1 (l.map (.int .i64))), .p (.int .i64 a)]] = some ⟨.p (trG l a n).1.pv, [.box [.p (.sl 1 (l.map (.int .i64))), .p (.int .i64 (trG l a n).2)]], []⟩ := by
  rw [callW_eq, EnvS.h 29 F29 rfl]
  have lp := loop29 (E := E) l n hl hn n 0 a [] (by omega) ha (by simp)
  simp only [List.nil_append, List.map_nil, List.length_nil, Int.natCast_zero] at lp
  have r1 := tn_le l n 0 a ha
  have e1 := e28 (E := E) l (tn l n 0 a).2 n hl r1 (by omega)
  have r2 := trR2_le l a n ha
  have e2 := e28 (E := E) l (trR2 l a n).2 4 hl r2 (by omega)
  have e3 := e28 (E := E) l (dA l (trR2 l a n).2 4) n hl (dA_le l _ _ r2) (by omega)
  have g1 := trR2_len l a n hn0
  have g2 := trI_len l a n
  have g3 : 1 ≤ trK l a n ∧ trK l a n ≤ 11 := by unfold trK; omega
  have e4 := e31 (E := E) l (trI l a n).2 ((trK l a n + 1) / 2) (trK l a n) hl (trI_le l a n ha) (by omega) (by omega) (by omega) (by omega)
  have e5 := e28 (E := E) l (trA l a n) 6 hl (trA_le l a n ha) (by omega)
  have w1 : IntKind.i64.wrap (((trR2 l a n).1.length : Int) + ((trI l a n).1.length : Int)) = trK l a n := wrap64 (by omega) (by omega)
  have w2 : IntKind.i64.wrap (trK l a n + 1) = trK l a n + 1 := wrap64 (by omega) (by omega)
  have w3 : IntKind.i64.wrap ((trK l a n + 1).tdiv 2) = (trK l a n + 1) / 2 := by
    rw [Int.tdiv_eq_ediv_of_nonneg (by omega)]; exact wrap64 (by omega) (by omega)
  have hT : (trK l a n + 1) / 2 + dV l (trI l a n).2 (trK l a n - (trK l a n + 1) / 2 + 1) = trT l a n := rfl
  have hA : dA l (trI l a n).2 (trK l a n - (trK l a n + 1) / 2 + 1) = trA l a n := rfl
  rw [hT, hA] at e4
  generalize hKK : trK l a n = K at *
  generalize hTT : trT l a n = TT at *
  generalize hAA : trA l a n = AA at *
  have fin : trG l a n = (⟨if dV l AA 6 = 5 then 1 else TT, (trR2 l a n).1, (trI l a n).1⟩, dA l AA 6) := by unfold trG; rw [hAA, hTT]
  rw [fin]
  unfold Tr.pv
  dsimp only
  by_cases h1 : (tn l n 0 a).1.length = 0
  · have hR : trR2 l a n = ([dV l (tn l n 0 a).2 n], dA l (tn l n 0 a).2 n) := by unfold trR2; simp only [h1, if_true]
    have hz : (((tn l n 0 a).1.length : Nat) : Int) = 0 := by omega
    by_cases h2 : dV l (dA l (tn l n 0 a).2 n) 4 = 3
    · have hI : trI l a n = ([⟨1, [dV l (dA l (dA l (tn l n 0 a).2 n) 4) n]⟩], dA l (dA l (dA l (tn l n 0 a).2 n) 4) n) := by unfold trI; rw [hR]; simp only [h2, if_true]
      simp only [hR, hI, List.length_cons, List.length_nil, Nat.zero_add, cast_lit, Int.natCast_zero] at e2 e3 e4 w1 ⊢
      by_cases h3 : dV l AA 6 = 5
      · simp -implicitDefEqProofs only [go_sem, F29, s29, s29_4, s29_5, s29_6, s29_7, lp, hz, e1, e2, e3, e4, e5, w1, w2, w3, h2, h3, In.pv, most]
      · simp -implicitDefEqProofs only [go_sem, F29, s29, s29_4, s29_5, s29_6, s29_7, lp, hz, e1, e2, e3, e4, e5, w1, w2, w3, h2, h3, In.pv, most]
    · have hI : trI l a n = ([], dA l (dA l (tn l n 0 a).2 n) 4) := by unfold trI; rw [hR]; simp only [h2, if_false]
      simp only [hR, hI, List.length_cons, List.length_nil, Nat.zero_add, cast_lit, Int.natCast_zero] at e2 e3 e4 w1 ⊢
      by_cases h3 : dV l AA 6 = 5
      · simp -implicitDefEqProofs only [go_sem, F29, s29, s29_4, s29_5, s29_6, s29_7, lp, hz, e1, e2, e3, e4, e5, w1, w2, w3, h2, h3, In.pv, most]
      · simp -implicitDefEqProofs only [go_sem, F29, s29, s29_4, s29_5, s29_6, s29_7, lp, hz, e1, e2, e3, e4, e5, w1, w2, w3, h2, h3, In.pv, most]
  · have hR : trR2 l a n = tn l n 0 a := by unfold trR2; simp only [h1, if_false]
    have hz : ¬ (((tn l n 0 a).1.length : Nat) : Int) = 0 := by omega
    by_cases h2 : dV l (tn l n 0 a).2 4 = 3
    · have hI : trI l a n = ([⟨1, [dV l (dA l (tn l n 0 a).2 4) n]⟩], dA l (dA l (tn l n 0 a).2 4) n) := by unfold trI; rw [hR]; simp only [h2, if_true]
      simp only [hR, hI, List.length_cons, List.length_nil, Nat.zero_add, cast_lit, Int.natCast_zero] at e2 e3 e4 w1 ⊢
      by_cases h3 : dV l AA 6 = 5
      · simp -implicitDefEqProofs only [go_sem, F29, s29, s29_4, s29_5, s29_6, s29_7, lp, hz, e1, e2, e3, e4, e5, w1, w2, w3, h2, h3, In.pv, most]
      · simp -implicitDefEqProofs only [go_sem, F29, s29, s29_4, s29_5, s29_6, s29_7, lp, hz, e1, e2, e3, e4, e5, w1, w2, w3, h2, h3, In.pv, most]
    · have hI : trI l a n = ([], dA l (tn l n 0 a).2 4) := by unfold trI; rw [hR]; simp only [h2, if_false]
      simp only [hR, hI, List.length_cons, List.length_nil, Nat.zero_add, cast_lit, Int.natCast_zero] at e2 e3 e4 w1 ⊢
      by_cases h3 : dV l AA 6 = 5
      · simp -implicitDefEqProofs only [go_sem, F29, s29, s29_4, s29_5, s29_6, s29_7, lp, hz, e1, e2, e3, e4, e5, w1, w2, w3, h2, h3, In.pv, most]
      · simp -implicitDefEqProofs only [go_sem, F29, s29, s29_4, s29_5, s29_6, s29_7, lp, hz, e1, e2, e3, e4, e5, w1, w2, w3, h2, h3, In.pv, most]
/-- 0, 1, .. -/
def upto : Nat → Nat → List Int
  | 0, _ => []
  | k + 1, i => (i : Int) :: upto k (i + 1)
/-- A slice of one's own that begins as nil. -/
def ownA (z : Nat) (x : Nm) (n : Nat) : AV := if n = 0 then .nils z else .hsl x 0 n
def ownO (z : Nat) (es : List PV) : Option AObj := if es.length = 0 then none else some (.parr es z false)
theorem ownA_nil (z : Nat) (x : Nm) : ownA z x 0 = .nils z := rfl
theorem ownA_succ (z : Nat) (x : Nm) (n : Nat) : ownA z x (n + 1) = .hsl x 0 (n + 1) := rfl
theorem ownO_nil (z : Nat) : ownO z [] = none := rfl
theorem ownO_cons (z : Nat) (e : PV) (es : List PV) : ownO z (e :: es) = some (.parr (e :: es) z false) := rfl
theorem loop36 (n : Nat) (th : Int) (hn : n ≤ 1000) : ∀ (k i : Nat) (ns : List Int), k + i = n → ns.length = i →
    loopW E 0 [0, 4, 5, 6] [.loc 0 0 0, .loc 1 2 0, .loc 5 4 0] (.trim [0, 4, 5, 6] [4] [(0, [4, 5])] [.loc 0 0 0, .loc 1 2 0, .loc 5 4 0] s36_2)
      (some ⟨[(0, .p (.int .i64 n)), (4, .ptr (.loc 0 0 0) 0), (5, .ptr (.loc 1 2 0) 0), (6, .p (.int .i64 i))],
        [(.loc 0 0 0, some (.box [.p (.int .i64 0), .nils 1, .nils 3])), (.loc 1 2 0, some (.box [.p (.int .i64 th), ownA 1 (.loc 5 4 0) ns.length, .nils 3])), (.loc 5 4 0, ownO 1 (ns.map (.int .i64)))]⟩) =
    some (.ex 0, ⟨[(4, .ptr (.loc 0 0 0) 0), (5, .ptr (.loc 1 2 0) 0)],
        [(.loc 0 0 0, some (.box [.p (.int .i64 0), .nils 1, .nils 3])), (.loc 1 2 0, some (.box [.p (.int .i64 th), ownA 1 (.loc 5 4 0) (ns ++ upto k i).length, .nils 3])), (.loc 5 4 0, ownO 1 ((ns ++ upto k i).map (.int .i64)))]⟩) := by
  generalize hK : loopW E 0 _ _ _ = K
  intro k
  induction k with
  | zero =>
    intro i ns hk hns
    have hlt : ¬ (i : Int) < n := by omega
    rw [← hK, loopW_some, hK, upto, List.append_nil]
    cases ns with
    | nil =>
      simp -implicitDefEqProofs only [go_sem, s36_2, s36_1, hlt, ownA_nil, ownO_nil]
    | cons n1 ns =>
      simp -implicitDefEqProofs only [go_sem, s36_2, s36_1, hlt, ownA_succ, ownO_cons]
  | succ k ih =>
    intro i ns hk hns
    have hlt : (i : Int) < n := by omega
    have hw : IntKind.i64.wrap ((i : Int) + 1) = ((i + 1 : Nat) : Int) := by rw [wrap64 (by omega) (by omega)]; omega
    have ih' := ih (i + 1) (ns ++ [(i : Int)]) (by omega) (by simp; omega)
    rw [← hK, loopW_some, hK]
    cases ns with
    | nil =>
      have hm : 1 ≤ most := by unfold most; omega
      simp only [List.map_cons, List.map_nil, List.length_append, List.length_cons, List.length_nil, Nat.zero_add, List.nil_append, List.singleton_append, ownA_succ, ownO_cons, List.cons_append] at ih'
      simp -implicitDefEqProofs only [go_sem, s36_2, s36_1, hlt, hw, hm, upto, ih', ownA_nil, ownO_nil, ownA_succ, ownO_cons]
    | cons n1 ns =>
      have hm : ns.length + 1 + 1 ≤ most := by simp at hns; unfold most; omega
      simp only [List.map_append, List.map_cons, List.map_nil, List.length_append, List.length_cons, List.length_nil, Nat.zero_add, List.append_assoc, List.singleton_append, ownA_succ, ownO_cons, List.cons_append] at ih'
      simp -implicitDefEqProofs only [go_sem, s36_2, s36_1, hlt, hw, hm, upto, ih', List.map_append, List.append_assoc, List.singleton_append, List.length_append, ownA_succ, ownO_cons]
theorem e36 (n : Nat) (th : Int) (hn : n ≤ 1000) : callW E 36 [.p (.int .i64 n), .p (.int .i64 th)] [] = some ⟨.p (Tr.pv ⟨th, upto n 0, []⟩), [], []⟩ := by
  rw [callW_eq, EnvS.h 36 F36 rfl]
  have lp := loop36 (E := E) n th hn n 0 [] (by omega) rfl
  simp only [List.nil_append, List.map_nil, List.length_nil, Int.natCast_zero, ownA_nil, ownO_nil] at lp
  unfold Tr.pv
  cases n with
  | zero =>
    simp only [Int.natCast_zero] at lp
    simp -implicitDefEqProofs only [go_sem, F36, s36, s36_3, lp, upto, List.length_nil, List.map_nil, ownA_nil, ownO_nil]
  | succ n => simp -implicitDefEqProofs only [go_sem, F36, s36, s36_3, lp, upto, List.length_cons, List.map_cons, ownA_succ, ownO_cons]
theorem e17 (zs : List Int) : callW E 17 [.p (.sl 1 (zs.map (.int .i64)))] [] = some ⟨.ptr (.ext 0) 0, [], [.box [.p (.sl 1 ((zs.take 800).map (.int .i64))), .p (.int .i64 0)]]⟩ := by
  rw [callW_eq, EnvS.h 17 F17 rfl]
  have h1 : (if (800 : Int) < (zs.length : Int) then (800 : Int) else zs.length) = ((min zs.length 800 : Nat) : Int) := by split <;> omega
  have h2 : (0 : Int) ≤ ((min zs.length 800 : Nat) : Int) := by omega
  have h3 : ((min zs.length 800 : Nat) : Int) ≤ (zs.length : Int) := by omega
  have h4 : List.take (min zs.length 800) (List.map (PV.int .i64) zs) = (zs.take 800).map (.int .i64) := by
    rw [← List.map_take, Nat.min_comm, ← List.take_take, List.take_length]
  simp -implicitDefEqProofs only [go_sem, F17, s17, h1, h2, h3, h4, Nat.sub_zero, Option.isSome, finX, finish.finishG]
end Go.Ab.S

namespace Go.Ab.S
open Go Go.Ab
variable {E : Env} [EnvS E]

/-- A ballot. -/
structure Bal where
  c : Int
  v : ByteArray
  deriving DecidableEq
def lessV (a b : ByteArray) : Bool := if a.size = b.size then Op.bytesLess a.toList b.toList else decide (a.size < b.size)
def cmpS (a b : ByteArray) : Int := if Op.bytesLess a.toList b.toList = true then -1 else if a = b then 0 else 1
def cmpI (a b : Int) : Int := if a < b then -1 else if b < a then 1 else 0
def or2 (a b : Int) : Int := if a = 0 then b else a
def cmpV (a b : ByteArray) : Int := or2 (cmpI a.size b.size) (cmpS a b)
def cmpB (a b : Bal) : Int := or2 (cmpI a.c b.c) (cmpV a.v b.v)
def less (a b : Bal) : Bool := decide (cmpB a b < 0)
def zeroB (b : Bal) : Bool := decide (b.c = 0) && decide (b.v = ByteArray.empty)
def covers (p b : Bal) : Bool := !zeroB p && decide (p.v = b.v) && decide (b.c ≤ p.c)
def aborts (p b : Bal) : Bool := !zeroB p && !decide (p.v = b.v) && less b p
def prepares (p q b : Bal) : Bool := covers p b || covers q b || (!zeroB q && less b q)

theorem e197 (x : Int) : callW E 197 [.p (.int .i64 x)] [] = some ⟨.p (.bool false), [], []⟩ := by
  rw [callW_eq, EnvS.h 197 F197 rfl]
  simp -implicitDefEqProofs only [go_sem, F197, s197, ]
  repeat' ((first | rw [condW_q] | rw [opsG_q] | rw [opsLG_q]); unfold ifq; split <;> rename_i hq <;> simp -implicitDefEqProofs only [go_sem, hq, ])
theorem e230 (x : ByteArray) : callW E 230 [.p (.str x)] [] = some ⟨.p (.bool false), [], []⟩ := by
  rw [callW_eq, EnvS.h 230 F230 rfl]
  simp -implicitDefEqProofs only [go_sem, F230, s230, ]
  repeat' ((first | rw [condW_q] | rw [opsG_q] | rw [opsLG_q]); unfold ifq; split <;> rename_i hq <;> simp -implicitDefEqProofs only [go_sem, hq, ])
theorem e115 (x y : Int) : callW E 115 [.p (.int .i64 x), .p (.int .i64 y)] [] = some ⟨.p (.int .i64 (cmpI x y)), [], []⟩ := by
  rw [callW_eq, EnvS.h 115 F115 rfl]
  unfold cmpI
  by_cases h1 : x < y <;> by_cases h2 : y < x <;> simp -implicitDefEqProofs only [go_sem, F115, s115, s115_2, s115_1, s115_3, s115_4, s115_5, e197, h1, h2]
theorem e193 (x y : ByteArray) : callW E 193 [.p (.str x), .p (.str y)] [] = some ⟨.p (.int .i64 (cmpS x y)), [], []⟩ := by
  rw [callW_eq, EnvS.h 193 F193 rfl]
  simp -implicitDefEqProofs only [go_sem, F193, s193, s193_2, s193_1, s193_3, s193_4, s193_5, e230]
  repeat' ((first | rw [condW_q] | rw [opsG_q] | rw [opsLG_q]); unfold ifq; split <;> rename_i hq <;> simp -implicitDefEqProofs only [go_sem, hq, e230])
  all_goals simp_all [cmpS]
theorem e190 (x y : Int) : callW E 190 [.p (.sl 1 [.int .i64 x, .int .i64 y])] [] = some ⟨.p (.int .i64 (or2 x y)), [], []⟩ := by
  rw [callW_eq, EnvS.h 190 F190 rfl]
  have w1 : IntKind.i64.wrap (0 + 1) = 1 := by decide
  have w2 : IntKind.i64.wrap (1 + 1) = 2 := by decide
  unfold or2
  by_cases h1 : x = 0
  · by_cases h2 : y = 0 <;> simp -implicitDefEqProofs only [go_sem, F190, s190, s190_4, s190_3, s190_2, s190_1, loopW_some, h1, h2, w1, w2]
  · simp -implicitDefEqProofs only [go_sem, F190, s190, s190_4, s190_3, s190_2, s190_1, loopW_some, h1, w1, w2]
attribute [go_sem] e197 e230 e115 e193 e190
theorem e111 (x y : ByteArray) : callW E 111 [.p (.str x), .p (.str y)] [] = some ⟨.p (.int .i64 (cmpV x y)), [], []⟩ := by
  rw [callW_eq, EnvS.h 111 F111 rfl]
  unfold cmpV
  simp -implicitDefEqProofs only [go_sem, F111, s111]
attribute [go_sem] e111
theorem e109 (a b : Bal) : callW E 109 [.p (.agg [.int .i64 a.c, .str a.v]), .p (.agg [.int .i64 b.c, .str b.v])] [] = some ⟨.p (.int .i64 (cmpB a b)), [], []⟩ := by
  rw [callW_eq, EnvS.h 109 F109 rfl]
  unfold cmpB
  simp -implicitDefEqProofs only [go_sem, F109, s109]
attribute [go_sem] e109
theorem e123 (a b : Bal) : callW E 123 [.p (.agg [.int .i64 a.c, .str a.v]), .p (.agg [.int .i64 b.c, .str b.v])] [] = some ⟨.p (.bool (less a b)), [], []⟩ := by
  rw [callW_eq, EnvS.h 123 F123 rfl]
  simp -implicitDefEqProofs only [go_sem, F123, s123]
  rfl
theorem e107 (a : Bal) : callW E 107 [.p (.agg [.int .i64 a.c, .str a.v])] [] = some ⟨.p (.bool (zeroB a)), [], []⟩ := by
  rw [callW_eq, EnvS.h 107 F107 rfl]
  simp -implicitDefEqProofs only [go_sem, F107, s107]
  rfl
theorem e45 (a : Bal) : callW E 45 [.p (.agg [.int .i64 a.c, .str a.v])] [] = some ⟨.p (.bool (zeroB a)), [], []⟩ := by
  rw [callW_eq, EnvS.h 45 F45 rfl]
  simp -implicitDefEqProofs only [go_sem, F45, s45]
  rfl
theorem e136 (a b : Bal) : callW E 136 [.p (.agg [.int .i64 a.c, .str a.v]), .p (.agg [.int .i64 b.c, .str b.v])] [] = some ⟨.p (.bool (decide (a.v = b.v))), [], []⟩ := by
  rw [callW_eq, EnvS.h 136 F136 rfl]
  simp -implicitDefEqProofs only [go_sem, F136, s136]
theorem e128 (a b : Bal) : callW E 128 [.p (.agg [.int .i64 a.c, .str a.v]), .p (.agg [.int .i64 b.c, .str b.v])] [] = some ⟨.p (.bool (decide (a.v = b.v))), [], []⟩ := by
  rw [callW_eq, EnvS.h 128 F128 rfl]
  simp -implicitDefEqProofs only [go_sem, F128, s128]
attribute [go_sem] e123 e107 e45 e136 e128
theorem e24 (x y : ByteArray) : callW E 24 [.p (.str x), .p (.str y)] [] = some ⟨.p (.bool (lessV x y)), [], []⟩ := by
  rw [callW_eq, EnvS.h 24 F24 rfl]
  unfold lessV
  by_cases h : x.size = y.size
  · have h' : (x.size : Int) = y.size := by omega
    simp -implicitDefEqProofs only [go_sem, F24, s24, s24_1, h, h']
  · have h' : ¬ (x.size : Int) = y.size := by omega
    simp -implicitDefEqProofs only [go_sem, F24, s24, s24_1, h, h', not_false_eq_true, Int.ofNat_lt]
attribute [go_sem] e24
theorem less_eq (a b : Bal) : less a b = if a.c = b.c then lessV a.v b.v else decide (a.c < b.c) := by
  unfold less cmpB cmpV cmpI cmpS or2 lessV
  by_cases h1 : a.c < b.c
  · have : ¬ a.c = b.c := by omega
    simp [h1, this]
  · by_cases h2 : b.c < a.c
    · have : ¬ a.c = b.c := by omega
      simp [h1, h2, this]
    · have : a.c = b.c := by omega
      simp [this]
      by_cases h3 : a.v.size < b.v.size
      · have : ¬ a.v.size = b.v.size := by omega
        simp [h3, this]
      · by_cases h4 : b.v.size < a.v.size
        · have : ¬ a.v.size = b.v.size := by omega
          simp [h3, h4, this]
        · have : a.v.size = b.v.size := by omega
          simp [this]
          split
          · simp_all
          · split <;> simp_all
theorem e21 (a b : Bal) : callW E 21 [.p (.agg [.int .i64 a.c, .str a.v]), .p (.agg [.int .i64 b.c, .str b.v])] [] = some ⟨.p (.bool (less a b)), [], []⟩ := by
  rw [callW_eq, EnvS.h 21 F21 rfl]
  rw [less_eq]
  simp -implicitDefEqProofs only [go_sem, F21, s21, s21_1, ]
  repeat' ((first | rw [condW_q] | rw [opsG_q] | rw [opsLG_q]); unfold ifq; split <;> rename_i hq <;> simp -implicitDefEqProofs only [go_sem, hq, ])
  all_goals simp_all
theorem e194 (a b : Bal) : callW E 194 [.p (.agg [.int .i64 a.c, .str a.v]), .p (.agg [.int .i64 b.c, .str b.v])] [] = some ⟨.p (.bool (covers a b)), [], []⟩ := by
  rw [callW_eq, EnvS.h 194 F194 rfl]
  unfold covers
  simp -implicitDefEqProofs only [go_sem, F194, s194, ]
  repeat' ((first | rw [condW_q] | rw [opsG_q] | rw [opsLG_q]); unfold ifq; split <;> rename_i hq <;> simp -implicitDefEqProofs only [go_sem, hq, ])
theorem e134 (a b : Bal) : callW E 134 [.p (.agg [.int .i64 a.c, .str a.v]), .p (.agg [.int .i64 b.c, .str b.v])] [] = some ⟨.p (.bool (covers a b)), [], []⟩ := by
  rw [callW_eq, EnvS.h 134 F134 rfl]
  unfold covers
  simp -implicitDefEqProofs only [go_sem, F134, s134, ]
  repeat' ((first | rw [condW_q] | rw [opsG_q] | rw [opsLG_q]); unfold ifq; split <;> rename_i hq <;> simp -implicitDefEqProofs only [go_sem, hq, ])
attribute [go_sem] e21 e194 e134
theorem e122 (a b : Bal) : callW E 122 [.p (.agg [.int .i64 a.c, .str a.v]), .p (.agg [.int .i64 b.c, .str b.v])] [] = some ⟨.p (.bool (aborts a b)), [], []⟩ := by
  rw [callW_eq, EnvS.h 122 F122 rfl]
  unfold aborts
  simp -implicitDefEqProofs only [go_sem, F122, s122, ]
  repeat' ((first | rw [condW_q] | rw [opsG_q] | rw [opsLG_q]); unfold ifq; split <;> rename_i hq <;> simp -implicitDefEqProofs only [go_sem, hq, ])
theorem e90 (a b : Bal) : callW E 90 [.p (.agg [.int .i64 a.c, .str a.v]), .p (.agg [.int .i64 b.c, .str b.v])] [] = some ⟨.p (.bool (aborts a b)), [], []⟩ := by
  rw [callW_eq, EnvS.h 90 F90 rfl]
  unfold aborts
  simp -implicitDefEqProofs only [go_sem, F90, s90, ]
  repeat' ((first | rw [condW_q] | rw [opsG_q] | rw [opsLG_q]); unfold ifq; split <;> rename_i hq <;> simp -implicitDefEqProofs only [go_sem, hq, ])
theorem e132 (a b c : Bal) : callW E 132 [.p (.agg [.int .i64 a.c, .str a.v]), .p (.agg [.int .i64 b.c, .str b.v]), .p (.agg [.int .i64 c.c, .str c.v])] [] = some ⟨.p (.bool (prepares a b c)), [], []⟩ := by
  rw [callW_eq, EnvS.h 132 F132 rfl]
  unfold prepares
  simp -implicitDefEqProofs only [go_sem, F132, s132, ]
  repeat' ((first | rw [condW_q] | rw [opsG_q] | rw [opsLG_q]); unfold ifq; split <;> rename_i hq <;> simp -implicitDefEqProofs only [go_sem, hq, ])
theorem e46 (a b c : Bal) : callW E 46 [.p (.agg [.int .i64 a.c, .str a.v]), .p (.agg [.int .i64 b.c, .str b.v]), .p (.agg [.int .i64 c.c, .str c.v])] [] = some ⟨.p (.bool (prepares a b c)), [], []⟩ := by
  rw [callW_eq, EnvS.h 46 F46 rfl]
  unfold prepares
  simp -implicitDefEqProofs only [go_sem, F46, s46, ]
  repeat' ((first | rw [condW_q] | rw [opsG_q] | rw [opsLG_q]); unfold ifq; split <;> rename_i hq <;> simp -implicitDefEqProofs only [go_sem, hq, ])
attribute [go_sem] e122 e90 e132 e46
end Go.Ab.S

namespace Go.Ab.S
open Go Go.Ab

/-- A loop over a list. -/
theorem range_loopI {α σ : Type} (K : Option St → Option (Ex × St)) (xs : List α) (st : Nat → σ → St) (g : σ → List α → Option (Ex × St)) (Inv : Nat → σ → Prop)
    (hend : ∀ s, Inv xs.length s → K (some (st xs.length s)) = g s [])
    (hstep : ∀ i s x r, xs[i]? = some x → i + (r.length + 1) = xs.length → Inv i s → (∀ s', Inv (i + 1) s' → K (some (st (i + 1) s')) = g s' r) → K (some (st i s)) = g s (x :: r)) (s : σ) (h0 : Inv 0 s) :
    K (some (st 0 s)) = g s xs := by
  have key : ∀ (suf : List α) (i : Nat) (s : σ), xs.drop i = suf → i ≤ xs.length → Inv i s → K (some (st i s)) = g s suf := by
    intro suf
    induction suf with
    | nil =>
      intro i s h hi hI
      have : i = xs.length := by
        have := congrArg List.length h
        simp at this; omega
      subst this
      exact hend s hI
    | cons x r ih =>
      intro i s h hi hI
      have hlen : i + (r.length + 1) = xs.length := by
        have := congrArg List.length h
        simp at this; omega
      have hx : xs[i]? = some x := by
        have := congrArg (fun l => l[0]?) h
        simpa using this
      have hr : xs.drop (i + 1) = r := by
        have := congrArg List.tail h
        simpa using this
      exact hstep i s x r hx hlen hI (fun s' h' => ih (i + 1) s' hr (by omega) h')
  exact key xs 0 s (by simp) (by omega) h0
theorem range_loop {α σ : Type} (K : Option St → Option (Ex × St)) (xs : List α) (st : Nat → σ → St) (g : σ → List α → Option (Ex × St))
    (hend : ∀ s, K (some (st xs.length s)) = g s [])
    (hstep : ∀ i s x r, xs[i]? = some x → i < xs.length → (∀ s', K (some (st (i + 1) s')) = g s' r) → K (some (st i s)) = g s (x :: r)) (s : σ) :
    K (some (st 0 s)) = g s xs :=
  range_loopI K xs st g (fun _ _ => True) (fun s _ => hend s) (fun i s x r hx hl _ ih => hstep i s x r hx (by omega) fun s' => ih s' trivial) s trivial
theorem rangeFacts (i n : Nat) (h : i < n) (hn : n < 4611686018427387904) : ((i : Int) < n) ∧ (0 ≤ (i : Int)) ∧ IntKind.i64.wrap ((i : Int) + 1) = ((i + 1 : Nat) : Int) :=
  ⟨by omega, by omega, by rw [wrap64 (by omega) (by omega)]; omega⟩

/-! ### Sets of nodes -/
theorem wrapN (n : Nat) (h : n < 9223372036854775808) : IntKind.i64.wrap (n : Int) = n := wrap64 (by omega) (by omega)
theorem andI_nat (a b : Nat) (ha : a < 9223372036854775808) (hb : b < 9223372036854775808) : andI .i64 a b = ((a &&& b : Nat) : Int) := by
  unfold andI
  have h1 : (BitVec.ofInt 64 (a : Int) &&& BitVec.ofInt 64 (b : Int)).toNat = a &&& b := by
    rw [BitVec.toNat_and, BitVec.ofInt_natCast, BitVec.ofInt_natCast, BitVec.toNat_ofNat, BitVec.toNat_ofNat, Nat.mod_eq_of_lt (by omega), Nat.mod_eq_of_lt (by omega)]
  show IntKind.i64.wrap ((BitVec.ofInt 64 (a : Int) &&& BitVec.ofInt 64 (b : Int)).toNat : Int) = _
  rw [h1]
  exact wrapN _ (Nat.lt_of_le_of_lt Nat.and_le_left ha)
theorem orI_nat (a b : Nat) (ha : a < 9223372036854775808) (hb : b < 9223372036854775808) : orI .i64 a b = ((a ||| b : Nat) : Int) := by
  unfold orI
  have h1 : (BitVec.ofInt 64 (a : Int) ||| BitVec.ofInt 64 (b : Int)).toNat = a ||| b := by
    rw [BitVec.toNat_or, BitVec.ofInt_natCast, BitVec.ofInt_natCast, BitVec.toNat_ofNat, BitVec.toNat_ofNat, Nat.mod_eq_of_lt (by omega), Nat.mod_eq_of_lt (by omega)]
  show IntKind.i64.wrap ((BitVec.ofInt 64 (a : Int) ||| BitVec.ofInt 64 (b : Int)).toNat : Int) = _
  rw [h1]
  exact wrapN _ (Nat.or_lt_two_pow (n := 63) ha hb)
theorem shl1 (k : Nat) (h : k < 63) : shlI .i64 1 (k : Int) = ((2 ^ k : Nat) : Int) := by
  unfold shlI
  have : min (k : Int).toNat IntKind.i64.bits = k := by simp [IntKind.bits]; omega
  rw [this, Int.one_mul, show ((2 : Int) ^ k) = ((2 ^ k : Nat) : Int) by simp]
  exact wrapN _ (Nat.lt_of_lt_of_le (Nat.pow_lt_pow_right (by decide) h) (by decide))
theorem shrI_nat (a k : Nat) (h : k < 64) : shrI .i64 (a : Int) (k : Int) = ((a >>> k : Nat) : Int) := by
  unfold shrI
  have : min (k : Int).toNat IntKind.i64.bits = k := by simp [IntKind.bits]; omega
  rw [this, Nat.shiftRight_eq_div_pow, Int.fdiv_eq_ediv_of_nonneg _ (Int.le_of_lt (Int.pow_pos (by decide)))]
  simp
theorem pow_lt (k : Nat) (h : k < 10) : 2 ^ k < 1024 := Nat.pow_lt_pow_right (n := 10) (by decide) h

def hasN (s : Nat) (k : Int) : Bool := decide (0 ≤ k) && decide (k < 10) && s.testBit k.toNat
theorem and_pow_ne (s k : Nat) : (s &&& 2 ^ k ≠ 0) ↔ s.testBit k = true := by
  constructor
  · intro h
    cases hb : s.testBit k with
    | true => rfl
    | false =>
      exfalso
      apply h
      apply Nat.eq_of_testBit_eq
      intro j
      rw [Nat.testBit_and, Nat.testBit_two_pow, Nat.zero_testBit]
      by_cases hj : k = j
      · subst hj; simp [hb]
      · simp [hj]
  · intro h h0
    have : (s &&& 2 ^ k).testBit k = true := by rw [Nat.testBit_and, Nat.testBit_two_pow]; simp [h]
    rw [h0, Nat.zero_testBit] at this
    cases this
theorem shr_and_one (s k : Nat) : (s >>> k &&& 1 = 1) ↔ s.testBit k = true := by
  rw [Nat.testBit]
  simp [Nat.and_comm]

variable {E : Env} [EnvS E]
theorem e308 (s : Nat) (h : s < 1024) : callW E 308 [.p (.int .i64 s), .p (.int .i64 10)] [] = some ⟨.p (.bool true), [], []⟩ := by
  rw [callW_eq, EnvS.h 308 F308 rfl]
  have hw : shlI .i64 1 10 = 1024 := by decide
  have h1 : (0 : Int) ≤ s := by omega
  have h2 : (s : Int) < 1024 := by omega
  simp -implicitDefEqProofs only [go_sem, F308, s308, h1, h2, hw]
theorem e280 (s : Nat) (h : s < 1024) : callW E 280 [.p (.int .i64 s)] [] = some ⟨.p (.bool true), [], []⟩ := by
  rw [callW_eq, EnvS.h 280 F280 rfl]
  simp -implicitDefEqProofs only [go_sem, F280, s280, e308 (E := E) s h]
theorem e173 (s : Nat) (h : s < 1024) : callW E 173 [.p (.int .i64 s)] [] = some ⟨.p (.bool true), [], []⟩ := by
  rw [callW_eq, EnvS.h 173 F173 rfl]
  have h1 : (0 : Int) ≤ s := by omega
  have h2 : (s : Int) ≤ 1023 := by omega
  simp -implicitDefEqProofs only [go_sem, F173, s173, h1, h2]
theorem e235 (s : Nat) (k : Int) (h : s < 1024) : callW E 235 [.p (.int .i64 s), .p (.int .i64 k)] [] = some ⟨.p (.bool (hasN s k)), [], []⟩ := by
  rw [callW_eq, EnvS.h 235 F235 rfl]
  unfold hasN
  by_cases h1 : 0 ≤ k
  · have h1' : ¬ k < 0 := by omega
    by_cases h2 : k < 10
    · obtain ⟨m, rfl⟩ : ∃ m : Nat, k = m := ⟨k.toNat, by omega⟩
      have e : andI .i64 (s : Int) (shlI .i64 1 (m : Int)) = ((s &&& 2 ^ m : Nat) : Int) := by
        rw [shl1 m (by omega), andI_nat _ _ (by omega) (Nat.lt_trans (pow_lt m (by omega)) (by decide))]
      have e2 : decide (¬ ((s &&& 2 ^ m : Nat) : Int) = 0) = s.testBit m := by
        rw [Bool.eq_iff_iff, decide_eq_true_eq, ← and_pow_ne]
        omega
      simp -implicitDefEqProofs only [go_sem, F235, s235, e280 (E := E) s h, h1, h1', h2, e, e2, Int.toNat_natCast]
    · simp -implicitDefEqProofs only [go_sem, F235, s235, e280 (E := E) s h, h1, h1', h2]
  · have h1' : k < 0 := by omega
    simp -implicitDefEqProofs only [go_sem, F235, s235, e280 (E := E) s h, h1, h1']
theorem e174 (s : Nat) (k : Int) (h : s < 1024) : callW E 174 [.p (.int .i64 s), .p (.int .i64 k)] [] = some ⟨.p (.bool (hasN s k)), [], []⟩ := by
  rw [callW_eq, EnvS.h 174 F174 rfl]
  unfold hasN
  by_cases h1 : 0 ≤ k
  · have h1' : ¬ k < 0 := by omega
    by_cases h2 : k < 10
    · obtain ⟨m, rfl⟩ : ∃ m : Nat, k = m := ⟨k.toNat, by omega⟩
      have e : andI .i64 (shrI .i64 (s : Int) (m : Int)) 1 = ((s >>> m &&& 1 : Nat) : Int) := by
        rw [shrI_nat _ _ (by omega)]
        exact andI_nat _ 1 (Nat.lt_of_le_of_lt (Nat.shiftRight_le ..) (by omega)) (by decide)
      have e2 : decide (((s >>> m &&& 1 : Nat) : Int) = 1) = s.testBit m := by
        rw [Bool.eq_iff_iff, decide_eq_true_eq, ← shr_and_one]
        omega
      simp -implicitDefEqProofs only [go_sem, F174, s174, e173 (E := E) s h, h1, h1', h2, e, e2, Int.toNat_natCast]
    · simp -implicitDefEqProofs only [go_sem, F174, s174, e173 (E := E) s h, h1, h1', h2]
  · have h1' : k < 0 := by omega
    simp -implicitDefEqProofs only [go_sem, F174, s174, e173 (E := E) s h, h1, h1']
attribute [go_sem] List.getElem?_map Int.lt_irrefl

/-- The set of some nodes (242, 243). -/
def ofL : Nat → List Int → Nat × Int
  | acc, [] => (acc, 0)
  | acc, x :: r => if x < 0 ∨ 10 ≤ x then (0, 5) else if acc.testBit x.toNat = true then (0, 6) else ofL (acc ||| 2 ^ x.toNat) r
def ofR (p : Nat × Int) : Option (Ex × St) := if p.2 = 0 then some (.ex 0, ⟨[(4, .p (.int .i64 p.1))], []⟩) else some (.ret, ⟨[(2, .p (.int .i64 p.1)), (3, .p (.int .i64 p.2))], []⟩)
theorem ofL_cons_bad (acc : Nat) (x : Int) (r : List Int) (h : x < 0 ∨ 10 ≤ x) : ofL acc (x :: r) = (0, 5) := by simp [ofL, h]
theorem ofL_cons_twice (acc : Nat) (x : Int) (r : List Int) (h : ¬ (x < 0 ∨ 10 ≤ x)) (h2 : acc.testBit x.toNat = true) : ofL acc (x :: r) = (0, 6) := by simp [ofL, h, h2]
theorem ofL_cons (acc : Nat) (x : Int) (r : List Int) (h : ¬ (x < 0 ∨ 10 ≤ x)) (h2 : acc.testBit x.toNat = false) : ofL acc (x :: r) = ofL (acc ||| 2 ^ x.toNat) r := by simp [ofL, h, h2]
theorem or_lt (a k : Nat) (ha : a < 1024) (hk : k < 10) : a ||| 2 ^ k < 1024 := Nat.or_lt_two_pow (n := 10) ha (pow_lt k hk)
theorem loop242 (es : List Int) (hl : es.length < 4611686018427387904) (acc : Nat) (hacc : acc < 1024) :
    loopW E 0 [4, 7, 8, 9] [] (.trim [4, 7, 8, 9] [2, 3] [(0, [4])] [] s242_4) (some ⟨[(4, .p (.int .i64 acc)), (7, .p (.sl 1 (es.map (.int .i64)))), (8, .p (.int .i64 es.length)), (9, .p (.int .i64 0))], []⟩) = ofR (ofL acc es) := by
  generalize hK : loopW E 0 _ _ _ = K
  refine range_loop K es (fun i (a : {n : Nat // n < 1024}) => ⟨[(4, .p (.int .i64 a.1)), (7, .p (.sl 1 (es.map (.int .i64)))), (8, .p (.int .i64 es.length)), (9, .p (.int .i64 i))], []⟩) (fun a l => ofR (ofL a.1 l)) ?_ ?_ ⟨acc, hacc⟩
  · intro a
    rw [← hK, loopW_some, hK]
    simp -implicitDefEqProofs only [go_sem, s242_4, s242_3, s242_1, s242_2]
    rfl
  · intro i a x r hx hi ih
    obtain ⟨f1, f2, f3⟩ := rangeFacts i _ hi hl
    try dsimp only at ih ⊢
    rw [← hK, loopW_some, hK]
    by_cases c1 : x < 0
    · rw [ofL_cons_bad _ _ _ (.inl c1)]
      simp -implicitDefEqProofs only [go_sem, s242_4, s242_3, s242_1, s242_2, hx, f1, f2, f3, c1]
      rfl
    · by_cases c2 : 10 ≤ x
      · rw [ofL_cons_bad _ _ _ (.inr c2)]
        simp -implicitDefEqProofs only [go_sem, s242_4, s242_3, s242_1, s242_2, hx, f1, f2, f3, c1, c2]
        rfl
      · obtain ⟨m, rfl⟩ : ∃ m : Nat, x = m := ⟨x.toNat, by omega⟩
        have hm : m < 10 := by omega
        have c3 : hasN a.1 (m : Int) = a.1.testBit m := by
          have h1 : (0 : Int) ≤ m := by omega
          have h2 : (m : Int) < 10 := by omega
          simp [hasN, h1, h2]
        cases c4 : a.1.testBit m with
        | true =>
          rw [ofL_cons_twice _ _ _ (by omega) (by simpa using c4)]
          simp -implicitDefEqProofs only [go_sem, s242_4, s242_3, s242_1, s242_2, hx, f1, f2, f3, c1, c2, e235 (E := E) a.1 (m : Int) a.2, c3, c4]
          rfl
        | false =>
          rw [ofL_cons _ _ _ (by omega) (by simpa using c4)]
          have ih' := ih ⟨a.1 ||| 2 ^ m, or_lt _ _ a.2 hm⟩
          have w1 := orI_nat a.1 (2 ^ m) (by have := a.2; omega) (Nat.lt_trans (pow_lt m hm) (by decide))
          simp -implicitDefEqProofs only [go_sem, s242_4, s242_3, s242_1, s242_2, hx, f1, f2, f3, c1, c2, e235 (E := E) a.1 (m : Int) a.2, c3, c4, shl1 m (by omega), w1, ih', Int.natCast_nonneg, Int.not_lt]
theorem e242 (es : List Int) (hl : es.length < 4611686018427387904) : callW E 242 [.p (.sl 1 (es.map (.int .i64)))] [] = some ⟨.tup [.p (.int .i64 (ofL 0 es).1), .p (.int .i64 (ofL 0 es).2)], [], []⟩ := by
  rw [callW_eq, EnvS.h 242 F242 rfl]
  have lp := loop242 (E := E) es hl 0 (by decide)
  simp only [Int.natCast_zero] at lp
  unfold ofR at lp
  by_cases h : (ofL 0 es).2 = 0
  · rw [if_pos h] at lp
    simp -implicitDefEqProofs only [go_sem, F242, s242, s242_5, lp, h]
  · rw [if_neg h] at lp
    simp -implicitDefEqProofs only [go_sem, F242, s242, s242_5, lp, h]
/-! as before -/
theorem loop243 (es : List Int) (hl : es.length < 4611686018427387904) (acc : Nat) (hacc : acc < 1024) :
    loopW E 0 [4, 7, 8, 9] [] (.trim [4, 7, 8, 9] [2, 3] [(0, [4])] [] s243_4) (some ⟨[(4, .p (.int .i64 acc)), (7, .p (.sl 1 (es.map (.int .i64)))), (8, .p (.int .i64 es.length)), (9, .p (.int .i64 0))], []⟩) = ofR (ofL acc es) := by
  generalize hK : loopW E 0 _ _ _ = K
  refine range_loop K es (fun i (a : {n : Nat // n < 1024}) => ⟨[(4, .p (.int .i64 a.1)), (7, .p (.sl 1 (es.map (.int .i64)))), (8, .p (.int .i64 es.length)), (9, .p (.int .i64 i))], []⟩) (fun a l => ofR (ofL a.1 l)) ?_ ?_ ⟨acc, hacc⟩
  · intro a
    rw [← hK, loopW_some, hK]
    simp -implicitDefEqProofs only [go_sem, s243_4, s243_3, s243_1, s243_2]
    rfl
  · intro i a x r hx hi ih
    obtain ⟨f1, f2, f3⟩ := rangeFacts i _ hi hl
    try dsimp only at ih ⊢
    rw [← hK, loopW_some, hK]
    by_cases c1 : x < 0
    · rw [ofL_cons_bad _ _ _ (.inl c1)]
      simp -implicitDefEqProofs only [go_sem, s243_4, s243_3, s243_1, s243_2, hx, f1, f2, f3, c1]
      rfl
    · by_cases c2 : 10 ≤ x
      · rw [ofL_cons_bad _ _ _ (.inr c2)]
        simp -implicitDefEqProofs only [go_sem, s243_4, s243_3, s243_1, s243_2, hx, f1, f2, f3, c1, c2]
        rfl
      · obtain ⟨m, rfl⟩ : ∃ m : Nat, x = m := ⟨x.toNat, by omega⟩
        have hm : m < 10 := by omega
        have c3 : hasN a.1 (m : Int) = a.1.testBit m := by
          have h1 : (0 : Int) ≤ m := by omega
          have h2 : (m : Int) < 10 := by omega
          simp [hasN, h1, h2]
        cases c4 : a.1.testBit m with
        | true =>
          rw [ofL_cons_twice _ _ _ (by omega) (by simpa using c4)]
          simp -implicitDefEqProofs only [go_sem, s243_4, s243_3, s243_1, s243_2, hx, f1, f2, f3, c1, c2, e174 (E := E) a.1 (m : Int) a.2, c3, c4]
          rfl
        | false =>
          rw [ofL_cons _ _ _ (by omega) (by simpa using c4)]
          have ih' := ih ⟨a.1 ||| 2 ^ m, or_lt _ _ a.2 hm⟩
          have w1 := orI_nat a.1 (2 ^ m) (by have := a.2; omega) (Nat.lt_trans (pow_lt m hm) (by decide))
          simp -implicitDefEqProofs only [go_sem, s243_4, s243_3, s243_1, s243_2, hx, f1, f2, f3, c1, c2, e174 (E := E) a.1 (m : Int) a.2, c3, c4, shl1 m (by omega), w1, ih', Int.natCast_nonneg, Int.not_lt]
theorem e243 (es : List Int) (hl : es.length < 4611686018427387904) : callW E 243 [.p (.sl 1 (es.map (.int .i64)))] [] = some ⟨.tup [.p (.int .i64 (ofL 0 es).1), .p (.int .i64 (ofL 0 es).2)], [], []⟩ := by
  rw [callW_eq, EnvS.h 243 F243 rfl]
  have lp := loop243 (E := E) es hl 0 (by decide)
  simp only [Int.natCast_zero] at lp
  unfold ofR at lp
  by_cases h : (ofL 0 es).2 = 0
  · rw [if_pos h] at lp
    simp -implicitDefEqProofs only [go_sem, F243, s243, s243_5, lp, h]
  · rw [if_neg h] at lp
    simp -implicitDefEqProofs only [go_sem, F243, s243, s243_5, lp, h]
end Go.Ab.S

namespace Go.Ab.S
open Go Go.Ab
variable {E : Env} [EnvS E]

def badN (x : Int) : Bool := !(decide (0 ≤ x) && decide (x < 10))
theorem e241 (x : Int) : callW E 241 [.p (.int .i64 x)] [] = some ⟨.p (.bool (decide (0 ≤ x) && decide (x < 10))), [], []⟩ := by
  rw [callW_eq, EnvS.h 241 F241 rfl]
  simp -implicitDefEqProofs only [go_sem, F241, s241, ]
  repeat' ((first | rw [condW_q] | rw [opsG_q] | rw [opsLG_q]); unfold ifq; split <;> rename_i hq <;> simp -implicitDefEqProofs only [go_sem, hq, ])
theorem e240 (x : Int) : callW E 240 [.p (.int .i64 x)] [] = some ⟨.p (.bool (badN x)), [], []⟩ := by
  rw [callW_eq, EnvS.h 240 F240 rfl]
  unfold badN
  simp -implicitDefEqProofs only [go_sem, F240, s240, e241]
attribute [go_sem] e240 e241
def fdR (n : Nat) (l : List Int) : Option (Ex × St) := if l.any badN = true then some (.ret, ⟨[(4, .p (.int .i64 ((n - l.length + l.findIdx badN : Nat) : Int)))], []⟩) else some (.ex 0, ⟨[], []⟩)
theorem loop285 (es : List Int) (hl : es.length < 4611686018427387904) :
    loopW E 0 [0, 1, 7, 8] [] (.trim [0, 1, 7, 8] [4] [(0, [])] [] s285_3) (some ⟨[(0, .p (.sl 1 (es.map (.int .i64)))), (1, .fn 240 [] []), (7, .p (.int .i64 es.length)), (8, .p (.int .i64 0))], []⟩) = fdR es.length es := by
  generalize hK : loopW E 0 _ _ _ = K
  refine range_loopI K es (fun i (_ : Unit) => ⟨[(0, .p (.sl 1 (es.map (.int .i64)))), (1, .fn 240 [] []), (7, .p (.int .i64 es.length)), (8, .p (.int .i64 i))], []⟩) (fun _ l => fdR es.length l) (fun _ _ => True) ?_ ?_ () trivial
  · intro _ _
    rw [← hK, loopW_some, hK]
    simp -implicitDefEqProofs only [go_sem, s285_3, s285_2, s285_1]
    rfl
  · intro i _ x r hx hn _ ih
    have hi : i < es.length := by omega
    obtain ⟨f1, f2, f3⟩ := rangeFacts i _ hi hl
    have ih' := ih () trivial
    try dsimp only at ih' ⊢
    rw [← hK, loopW_some, hK]
    cases hb : badN x with
    | true =>
      simp -implicitDefEqProofs only [go_sem, s285_3, s285_2, s285_1, hx, f1, f2, f3, hb, fdR, List.any_cons, List.findIdx_cons, cond_true]
      simp; omega
    | false =>
      simp -implicitDefEqProofs only [go_sem, s285_3, s285_2, s285_1, hx, f1, f2, f3, hb, ih', fdR, List.any_cons, List.findIdx_cons, cond_false]
      simp only [show es.length - (r.length + 1) + (r.findIdx badN + 1) = es.length - r.length + r.findIdx badN by omega]
theorem e239 (es : List Int) (hl : es.length < 4611686018427387904) : callW E 239 [.p (.sl 1 (es.map (.int .i64))), .fn 240 [] []] [] = some ⟨.p (.bool (es.any badN)), [], []⟩ := by
  have e : callW E 285 [.p (.sl 1 (es.map (.int .i64))), .fn 240 [] []] [] = some ⟨.p (.int .i64 (if es.any badN = true then ((es.findIdx badN : Nat) : Int) else -1)), [], []⟩ := by
    rw [callW_eq, EnvS.h 285 F285 rfl]
    have lp := loop285 (E := E) es hl
    unfold fdR at lp
    cases h : es.any badN with
    | true => simp -implicitDefEqProofs only [go_sem, F285, s285, s285_4, lp, h, Nat.sub_self]
    | false => simp -implicitDefEqProofs only [go_sem, F285, s285, s285_4, lp, h]
  rw [callW_eq, EnvS.h 239 F239 rfl]
  cases h : es.any badN with
  | true =>
    have h2 : (0 : Int) ≤ (es.findIdx badN : Nat) := by omega
    simp -implicitDefEqProofs only [go_sem, F239, s239, e, h, h2]
  | false => simp -implicitDefEqProofs only [go_sem, F239, s239, e, h]

/-- Trusts that are small. -/
def In.thin (t : In) : Prop := t.ns.length ≤ 12
structure Tr.thin (t : Tr) : Prop where
  ns : t.ns.length ≤ 12
  is : t.is.length ≤ 4
  all : ∀ x ∈ t.is, x.thin

theorem e212I (th : Int) (ns : List PV) : callW E 212 [.p (.agg [.int .i64 th, .sl 1 ns, .sl 3 []])] [] = some ⟨.p (.int .i64 1), [], []⟩ := by
  rw [callW_eq, EnvS.h 212 F212 rfl]
  have w : IntKind.i64.wrap (0 + 1) = 1 := by decide
  simp -implicitDefEqProofs only [go_sem, F212, s212, s212_3, s212_2, s212_1, loopW_some, w]
theorem e212 (t : Tr) (h : t.thin) : callW E 212 [.p t.pv] [] = some ⟨.p (.int .i64 (if t.is.length = 0 then 1 else 2)), [], []⟩ := by
  have lp : ∀ n : Int, loopW E 0 [3, 7, 8, 9] [] (.trim [3, 7, 8, 9] [2] [(0, [3])] [] s212_2) (some ⟨[(3, .p (.int .i64 n)), (7, .p (.sl 3 (t.is.map In.pv))), (8, .p (.int .i64 t.is.length)), (9, .p (.int .i64 0))], []⟩) = some (.ex 0, ⟨[(3, .p (.int .i64 (if t.is.length = 0 then n else if n < 1 then 1 else n)))], []⟩) := by
    generalize hK : loopW E 0 _ _ _ = K
    intro n
    refine range_loop K t.is (fun i (n : Int) => ⟨[(3, .p (.int .i64 n)), (7, .p (.sl 3 (t.is.map In.pv))), (8, .p (.int .i64 t.is.length)), (9, .p (.int .i64 i))], []⟩) (fun n l => some (.ex 0, ⟨[(3, .p (.int .i64 (if l.length = 0 then n else if n < 1 then 1 else n)))], []⟩)) ?_ ?_ n
    · intro n
      rw [← hK, loopW_some, hK]
      simp -implicitDefEqProofs only [go_sem, s212_2, s212_1]
    · intro i n x r hx hi ih
      have := h.is
      obtain ⟨f1, f2, f3⟩ := rangeFacts i _ hi (by omega)
      try dsimp only at ih ⊢
      rw [← hK, loopW_some, hK]
      by_cases c : n < 1
      · have ih' := ih 1
        simp -implicitDefEqProofs only [go_sem, s212_2, s212_1, hx, f1, f2, f3, In.pv, e212I, c, ih', Nat.succ_ne_zero, Int.lt_irrefl, ite_self]
      · have ih' := ih n
        simp -implicitDefEqProofs only [go_sem, s212_2, s212_1, hx, f1, f2, f3, In.pv, e212I, c, ih', Nat.succ_ne_zero, ite_self]
  rw [callW_eq, EnvS.h 212 F212 rfl]
  unfold Tr.pv
  have lp0 := lp 0
  have w : IntKind.i64.wrap (0 + 1) = 1 := by decide
  have w2 : IntKind.i64.wrap (1 + 1) = 2 := by decide
  by_cases h0 : t.is.length = 0
  · simp only [h0, if_true, Int.natCast_zero] at lp0
    simp -implicitDefEqProofs only [go_sem, F212, s212, s212_3, lp0, h0, w]
  · simp only [h0, if_false, Int.reduceLT, if_true] at lp0
    simp -implicitDefEqProofs only [go_sem, F212, s212, s212_3, lp0, h0, w2]
theorem e213I (th : Int) (ns : List PV) (h : ns.length ≤ 100) : callW E 213 [.p (.agg [.int .i64 th, .sl 1 ns, .sl 3 []])] [] = some ⟨.p (.int .i64 ns.length), [], []⟩ := by
  rw [callW_eq, EnvS.h 213 F213 rfl]
  have w : IntKind.i64.wrap ((ns.length : Int) + 0) = ns.length := by rw [wrap64 (by omega) (by omega)]; omega
  simp -implicitDefEqProofs only [go_sem, F213, s213, s213_3, s213_2, s213_1, loopW_some, w]
theorem e213 (t : Tr) (h : t.thin) : ∃ n : Int, n ≤ 200 ∧ callW E 213 [.p t.pv] [] = some ⟨.p (.int .i64 n), [], []⟩ := by
  have lp : ∀ n : {n : Int // 0 ≤ n ∧ n ≤ 16}, ∃ m : Int, m ≤ 200 ∧ loopW E 0 [3, 14, 15, 16] [] (.trim [3, 14, 15, 16] [2] [(0, [3])] [] s213_2) (some ⟨[(3, .p (.int .i64 n.1)), (14, .p (.sl 3 (t.is.map In.pv))), (15, .p (.int .i64 t.is.length)), (16, .p (.int .i64 0))], []⟩) = some (.ex 0, ⟨[(3, .p (.int .i64 m))], []⟩) := by
    generalize hK : loopW E 0 _ _ _ = K
    intro n
    refine ⟨t.is.foldl (fun n x => n + x.ns.length) n.1, ?_, ?_⟩
    · have key : ∀ (l : List In) (n : Int), (∀ x ∈ l, x.thin) → l.foldl (fun n x => n + (x.ns.length : Int)) n ≤ n + 12 * l.length := by
        intro l
        induction l with
        | nil => intro n _; simp
        | cons x r ih =>
          intro n hx
          have h1 := ih (n + x.ns.length) fun y hy => hx y (List.mem_cons_of_mem _ hy)
          have h2 := hx x List.mem_cons_self
          unfold In.thin at h2
          simp only [List.foldl_cons, List.length_cons]
          omega
      have := key t.is n.1 h.all
      have h4 := h.is
      have := n.2
      omega
    · refine range_loopI K t.is (fun i (n : Int) => ⟨[(3, .p (.int .i64 n)), (14, .p (.sl 3 (t.is.map In.pv))), (15, .p (.int .i64 t.is.length)), (16, .p (.int .i64 i))], []⟩) (fun n l => some (.ex 0, ⟨[(3, .p (.int .i64 (l.foldl (fun n x => n + (x.ns.length : Int)) n)))], []⟩)) (fun i n => 0 ≤ n ∧ n ≤ 16 + 12 * i) ?_ ?_ n.1 (by have := n.2; omega)
      · intro n _
        rw [← hK, loopW_some, hK]
        simp -implicitDefEqProofs only [go_sem, s213_2, s213_1, List.foldl_nil]
      · intro i n x r hx hn hI ih
        have h4 := h.is
        have hth : x.ns.length ≤ 12 := h.all x (List.mem_of_getElem? hx)
        obtain ⟨f1, f2, f3⟩ := rangeFacts i t.is.length (by omega) (by omega)
        have e := e213I (E := E) x.th (x.ns.map (.int .i64)) (by simp; omega)
        simp only [List.length_map] at e
        have w : IntKind.i64.wrap (n + (x.ns.length : Int)) = n + x.ns.length := wrap64 (by omega) (by omega)
        have ih' := ih (n + x.ns.length) (by omega)
        try dsimp only at ih' ⊢
        rw [← hK, loopW_some, hK]
        simp -implicitDefEqProofs only [go_sem, s213_2, s213_1, hx, f1, f2, f3, In.pv, e, w, ih', List.foldl_cons]
  have h1 := h.ns
  have h2 := h.is
  obtain ⟨m, hm, lp0⟩ := lp ⟨(t.ns.length : Int) + t.is.length, by omega⟩
  refine ⟨m, hm, ?_⟩
  rw [callW_eq, EnvS.h 213 F213 rfl]
  unfold Tr.pv
  have w : IntKind.i64.wrap ((t.ns.length : Int) + (t.is.length : Int)) = (t.ns.length : Int) + t.is.length := wrap64 (by omega) (by omega)
  simp -implicitDefEqProofs only [go_sem, F213, s213, s213_3, lp0, w]
/-! as before -/
theorem e216I (th : Int) (ns : List PV) : callW E 216 [.p (.agg [.int .i64 th, .sl 1 ns, .sl 3 []])] [] = some ⟨.p (.int .i64 1), [], []⟩ := by
  rw [callW_eq, EnvS.h 216 F216 rfl]
  have w : IntKind.i64.wrap (0 + 1) = 1 := by decide
  simp -implicitDefEqProofs only [go_sem, F216, s216, s216_3, s216_2, s216_1, loopW_some, w]
theorem e216 (t : Tr) (h : t.thin) : callW E 216 [.p t.pv] [] = some ⟨.p (.int .i64 (if t.is.length = 0 then 1 else 2)), [], []⟩ := by
  have lp : ∀ n : Int, loopW E 0 [3, 7, 8, 9] [] (.trim [3, 7, 8, 9] [2] [(0, [3])] [] s216_2) (some ⟨[(3, .p (.int .i64 n)), (7, .p (.sl 3 (t.is.map In.pv))), (8, .p (.int .i64 t.is.length)), (9, .p (.int .i64 0))], []⟩) = some (.ex 0, ⟨[(3, .p (.int .i64 (if t.is.length = 0 then n else if n < 1 then 1 else n)))], []⟩) := by
    generalize hK : loopW E 0 _ _ _ = K
    intro n
    refine range_loop K t.is (fun i (n : Int) => ⟨[(3, .p (.int .i64 n)), (7, .p (.sl 3 (t.is.map In.pv))), (8, .p (.int .i64 t.is.length)), (9, .p (.int .i64 i))], []⟩) (fun n l => some (.ex 0, ⟨[(3, .p (.int .i64 (if l.length = 0 then n else if n < 1 then 1 else n)))], []⟩)) ?_ ?_ n
    · intro n
      rw [← hK, loopW_some, hK]
      simp -implicitDefEqProofs only [go_sem, s216_2, s216_1]
    · intro i n x r hx hi ih
      have := h.is
      obtain ⟨f1, f2, f3⟩ := rangeFacts i _ hi (by omega)
      try dsimp only at ih ⊢
      rw [← hK, loopW_some, hK]
      by_cases c : n < 1
      · have ih' := ih 1
        simp -implicitDefEqProofs only [go_sem, s216_2, s216_1, hx, f1, f2, f3, In.pv, e216I, c, ih', Nat.succ_ne_zero, Int.lt_irrefl, ite_self]
      · have ih' := ih n
        simp -implicitDefEqProofs only [go_sem, s216_2, s216_1, hx, f1, f2, f3, In.pv, e216I, c, ih', Nat.succ_ne_zero, ite_self]
  rw [callW_eq, EnvS.h 216 F216 rfl]
  unfold Tr.pv
  have lp0 := lp 0
  have w : IntKind.i64.wrap (0 + 1) = 1 := by decide
  have w2 : IntKind.i64.wrap (1 + 1) = 2 := by decide
  by_cases h0 : t.is.length = 0
  · simp only [h0, if_true, Int.natCast_zero] at lp0
    simp -implicitDefEqProofs only [go_sem, F216, s216, s216_3, lp0, h0, w]
  · simp only [h0, if_false, Int.reduceLT, if_true] at lp0
    simp -implicitDefEqProofs only [go_sem, F216, s216, s216_3, lp0, h0, w2]
theorem e217I (th : Int) (ns : List PV) (h : ns.length ≤ 100) : callW E 217 [.p (.agg [.int .i64 th, .sl 1 ns, .sl 3 []])] [] = some ⟨.p (.int .i64 ns.length), [], []⟩ := by
  rw [callW_eq, EnvS.h 217 F217 rfl]
  have w : IntKind.i64.wrap ((ns.length : Int) + 0) = ns.length := by rw [wrap64 (by omega) (by omega)]; omega
  simp -implicitDefEqProofs only [go_sem, F217, s217, s217_3, s217_2, s217_1, loopW_some, w]
theorem e217 (t : Tr) (h : t.thin) : ∃ n : Int, n ≤ 200 ∧ callW E 217 [.p t.pv] [] = some ⟨.p (.int .i64 n), [], []⟩ := by
  have lp : ∀ n : {n : Int // 0 ≤ n ∧ n ≤ 16}, ∃ m : Int, m ≤ 200 ∧ loopW E 0 [3, 14, 15, 16] [] (.trim [3, 14, 15, 16] [2] [(0, [3])] [] s217_2) (some ⟨[(3, .p (.int .i64 n.1)), (14, .p (.sl 3 (t.is.map In.pv))), (15, .p (.int .i64 t.is.length)), (16, .p (.int .i64 0))], []⟩) = some (.ex 0, ⟨[(3, .p (.int .i64 m))], []⟩) := by
    generalize hK : loopW E 0 _ _ _ = K
    intro n
    refine ⟨t.is.foldl (fun n x => n + x.ns.length) n.1, ?_, ?_⟩
    · have key : ∀ (l : List In) (n : Int), (∀ x ∈ l, x.thin) → l.foldl (fun n x => n + (x.ns.length : Int)) n ≤ n + 12 * l.length := by
        intro l
        induction l with
        | nil => intro n _; simp
        | cons x r ih =>
          intro n hx
          have h1 := ih (n + x.ns.length) fun y hy => hx y (List.mem_cons_of_mem _ hy)
          have h2 := hx x List.mem_cons_self
          unfold In.thin at h2
          simp only [List.foldl_cons, List.length_cons]
          omega
      have := key t.is n.1 h.all
      have h4 := h.is
      have := n.2
      omega
    · refine range_loopI K t.is (fun i (n : Int) => ⟨[(3, .p (.int .i64 n)), (14, .p (.sl 3 (t.is.map In.pv))), (15, .p (.int .i64 t.is.length)), (16, .p (.int .i64 i))], []⟩) (fun n l => some (.ex 0, ⟨[(3, .p (.int .i64 (l.foldl (fun n x => n + (x.ns.length : Int)) n)))], []⟩)) (fun i n => 0 ≤ n ∧ n ≤ 16 + 12 * i) ?_ ?_ n.1 (by have := n.2; omega)
      · intro n _
        rw [← hK, loopW_some, hK]
        simp -implicitDefEqProofs only [go_sem, s217_2, s217_1, List.foldl_nil]
      · intro i n x r hx hn hI ih
        have h4 := h.is
        have hth : x.ns.length ≤ 12 := h.all x (List.mem_of_getElem? hx)
        obtain ⟨f1, f2, f3⟩ := rangeFacts i t.is.length (by omega) (by omega)
        have e := e217I (E := E) x.th (x.ns.map (.int .i64)) (by simp; omega)
        simp only [List.length_map] at e
        have w : IntKind.i64.wrap (n + (x.ns.length : Int)) = n + x.ns.length := wrap64 (by omega) (by omega)
        have ih' := ih (n + x.ns.length) (by omega)
        try dsimp only at ih' ⊢
        rw [← hK, loopW_some, hK]
        simp -implicitDefEqProofs only [go_sem, s217_2, s217_1, hx, f1, f2, f3, In.pv, e, w, ih', List.foldl_cons]
  have h1 := h.ns
  have h2 := h.is
  obtain ⟨m, hm, lp0⟩ := lp ⟨(t.ns.length : Int) + t.is.length, by omega⟩
  refine ⟨m, hm, ?_⟩
  rw [callW_eq, EnvS.h 217 F217 rfl]
  unfold Tr.pv
  have w : IntKind.i64.wrap ((t.ns.length : Int) + (t.is.length : Int)) = (t.ns.length : Int) + t.is.length := wrap64 (by omega) (by omega)
  simp -implicitDefEqProofs only [go_sem, F217, s217, s217_3, lp0, w]
end Go.Ab.S

namespace Go.Ab.S
open Go Go.Ab
variable {E : Env} [EnvS E]

/-- How many of some nodes are in a set; whom a set satisfies. -/
def cnt (s : Nat) : List Int → Nat
  | [] => 0
  | k :: r => (if hasN s k = true then 1 else 0) + cnt s r
theorem cnt_le (s : Nat) : ∀ l : List Int, cnt s l ≤ l.length
  | [] => Nat.le_refl _
  | k :: r => by
    have := cnt_le s r
    simp only [cnt, List.length_cons]
    split <;> omega
def satI (s : Nat) (t : In) : Bool := decide (t.th ≤ cnt s t.ns)
def cntI (s : Nat) : List In → Nat
  | [] => 0
  | x :: r => (if satI s x = true then 1 else 0) + cntI s r
def satT (s : Nat) (t : Tr) : Bool := decide (t.th ≤ (cnt s t.ns + cntI s t.is : Nat))

theorem loop310a (s : Nat) (hs : s < 1024) (es : List Int) (hl : es.length ≤ 1000) (bx : List AV) (hbx : namesL bx = []) :
    loopW E 0 [1, 2, 5, 14, 15, 16] [.loc 0 0 0] (.trim [1, 2, 5, 14, 15, 16] [4] [(0, [1, 2, 5])] [.loc 0 0 0] s310_4) (some ⟨[(1, .p (.int .i64 s)), (2, .ptr (.loc 0 0 0) 0), (5, .p (.int .i64 0)), (14, .p (.sl 1 (es.map (.int .i64)))), (15, .p (.int .i64 es.length)), (16, .p (.int .i64 0))], [(.loc 0 0 0, some (.box bx))]⟩) =
    some (.ex 0, ⟨[(1, .p (.int .i64 s)), (2, .ptr (.loc 0 0 0) 0), (5, .p (.int .i64 (cnt s es : Nat)))], [(.loc 0 0 0, some (.box bx))]⟩) := by
  have key := range_loopI (loopW E 0 [1, 2, 5, 14, 15, 16] [.loc 0 0 0] (.trim [1, 2, 5, 14, 15, 16] [4] [(0, [1, 2, 5])] [.loc 0 0 0] s310_4)) es
    (fun i (n : Nat) => ⟨[(1, .p (.int .i64 s)), (2, .ptr (.loc 0 0 0) 0), (5, .p (.int .i64 n)), (14, .p (.sl 1 (es.map (.int .i64)))), (15, .p (.int .i64 es.length)), (16, .p (.int .i64 i))], [(.loc 0 0 0, some (.box bx))]⟩)
    (fun n r => some (.ex 0, ⟨[(1, .p (.int .i64 s)), (2, .ptr (.loc 0 0 0) 0), (5, .p (.int .i64 ((n + cnt s r : Nat) : Int)))], [(.loc 0 0 0, some (.box bx))]⟩)) (fun i n => n ≤ i)
  refine (key ?_ ?_ 0 (Nat.le_refl 0)).trans (by simp only [Nat.zero_add])
  · intro n _
    rw [loopW_some]
    generalize hK : loopW E 0 _ _ _ = K
    simp -implicitDefEqProofs only [go_sem, s310_4, s310_3, s310_2, hbx, cnt]
  · intro i n x r hx hn hI ih
    obtain ⟨f1, f2, f3⟩ := rangeFacts i es.length (by omega) (by omega)
    have e := e235 (E := E) s x hs
    have w : IntKind.i64.wrap ((n : Int) + 1) = ((n + 1 : Nat) : Int) := by rw [wrap64 (by omega) (by omega)]; omega
    rw [loopW_some]
    generalize hK : loopW E 0 _ _ _ = K at ih ⊢
    cases hh : hasN s x with
    | true =>
      have ih' := ih (n + 1) (by omega)
      rw [hh] at e
      try dsimp only at ih' ⊢
      simp -implicitDefEqProofs only [go_sem, s310_4, s310_3, s310_2, hx, f1, f2, f3, hbx, e, w, ih', cnt, hh, Nat.add_assoc]
    | false =>
      have ih' := ih n (by omega)
      rw [hh] at e
      try dsimp only at ih' ⊢
      simp -implicitDefEqProofs only [go_sem, s310_4, s310_3, s310_2, hx, f1, f2, f3, hbx, e, ih', cnt, hh]
theorem e310I (s : Nat) (hs : s < 1024) (t : In) (h : t.ns.length ≤ 1000) : callW E 310 [.p (.agg [.int .i64 t.th, .sl 1 (t.ns.map (.int .i64)), .sl 3 []]), .p (.int .i64 s)] [] = some ⟨.p (.bool (satI s t)), [], []⟩ := by
  have lp := loop310a (E := E) s hs t.ns h [.p (.int .i64 t.th), .p (.sl 1 (t.ns.map (.int .i64))), .p (.sl 3 [])] rfl
  rw [callW_eq, EnvS.h 310 F310 rfl]
  unfold satI
  simp -implicitDefEqProofs only [go_sem, F310, s310, s310_1, s310_5, s310_9, s310_8, s310_7, s310_6, loopW_some, e280 (E := E) s hs, lp]
theorem loop310b (s : Nat) (hs : s < 1024) (t : Tr) (h : t.thin) (n : Nat) (hn : n ≤ 100) :
    loopW E 0 [1, 2, 5, 27, 28, 29] [.loc 0 0 0] (.trim [1, 2, 5, 27, 28, 29] [4] [(2, [2, 5])] [.loc 0 0 0] s310_8) (some ⟨[(1, .p (.int .i64 s)), (2, .ptr (.loc 0 0 0) 0), (5, .p (.int .i64 n)), (27, .p (.sl 3 (t.is.map In.pv))), (28, .p (.int .i64 t.is.length)), (29, .p (.int .i64 0))], [(.loc 0 0 0, some (.box [.p (.int .i64 t.th), .p (.sl 1 (t.ns.map (.int .i64))), .p (.sl 3 (t.is.map In.pv))]))]⟩) =
    some (.ex 2, ⟨[(2, .ptr (.loc 0 0 0) 0), (5, .p (.int .i64 ((n + cntI s t.is : Nat) : Int)))], [(.loc 0 0 0, some (.box [.p (.int .i64 t.th), .p (.sl 1 (t.ns.map (.int .i64))), .p (.sl 3 (t.is.map In.pv))]))]⟩) := by
  have key := range_loopI (loopW E 0 [1, 2, 5, 27, 28, 29] [.loc 0 0 0] (.trim [1, 2, 5, 27, 28, 29] [4] [(2, [2, 5])] [.loc 0 0 0] s310_8)) t.is
    (fun i (n : Nat) => ⟨[(1, .p (.int .i64 s)), (2, .ptr (.loc 0 0 0) 0), (5, .p (.int .i64 n)), (27, .p (.sl 3 (t.is.map In.pv))), (28, .p (.int .i64 t.is.length)), (29, .p (.int .i64 i))], [(.loc 0 0 0, some (.box [.p (.int .i64 t.th), .p (.sl 1 (t.ns.map (.int .i64))), .p (.sl 3 (t.is.map In.pv))]))]⟩)
    (fun n r => some (.ex 2, ⟨[(2, .ptr (.loc 0 0 0) 0), (5, .p (.int .i64 ((n + cntI s r : Nat) : Int)))], [(.loc 0 0 0, some (.box [.p (.int .i64 t.th), .p (.sl 1 (t.ns.map (.int .i64))), .p (.sl 3 (t.is.map In.pv))]))]⟩)) (fun i n => n ≤ i + 100)
  have h4 := h.is
  refine key ?_ ?_ n (by omega)
  · intro n _
    rw [loopW_some]
    generalize hK : loopW E 0 _ _ _ = K
    simp -implicitDefEqProofs only [go_sem, s310_8, s310_7, s310_6, cntI]
  · intro i n x r hx hn hI ih
    have hth : x.ns.length ≤ 12 := h.all x (List.mem_of_getElem? hx)
    obtain ⟨f1, f2, f3⟩ := rangeFacts i t.is.length (by omega) (by omega)
    have e := e310I (E := E) s hs x (by omega)
    have w : IntKind.i64.wrap ((n : Int) + 1) = ((n + 1 : Nat) : Int) := by rw [wrap64 (by omega) (by omega)]; omega
    rw [loopW_some]
    generalize hK : loopW E 0 _ _ _ = K at ih ⊢
    cases hh : satI s x with
    | true =>
      have ih' := ih (n + 1) (by omega)
      rw [hh] at e
      try dsimp only at ih' ⊢
      simp -implicitDefEqProofs only [go_sem, s310_8, s310_7, s310_6, hx, f1, f2, f3, In.pv, e, w, ih', cntI, hh, Nat.add_assoc]
    | false =>
      have ih' := ih n (by omega)
      rw [hh] at e
      try dsimp only at ih' ⊢
      simp -implicitDefEqProofs only [go_sem, s310_8, s310_7, s310_6, hx, f1, f2, f3, In.pv, e, ih', cntI, hh]
theorem e310 (s : Nat) (hs : s < 1024) (t : Tr) (h : t.thin) : callW E 310 [.p t.pv, .p (.int .i64 s)] [] = some ⟨.p (.bool (satT s t)), [], []⟩ := by
  have h1 := h.ns
  have h2 := cnt_le s t.ns
  have lp := loop310a (E := E) s hs t.ns (by omega) [.p (.int .i64 t.th), .p (.sl 1 (t.ns.map (.int .i64))), .p (.sl 3 (t.is.map In.pv))] rfl
  have lq := loop310b (E := E) s hs t h (cnt s t.ns) (by omega)
  rw [callW_eq, EnvS.h 310 F310 rfl]
  unfold satT Tr.pv
  simp -implicitDefEqProofs only [go_sem, F310, s310, s310_1, s310_5, s310_9, e280 (E := E) s hs, lp, lq]
/-! as before -/
end Go.Ab.S

namespace Go.Ab.S
open Go Go.Ab
variable {E : Env} [EnvS E]

/-- The first error of a trust (214, 218). -/
def errI (t : In) : Int := if t.th < 1 ∨ (t.ns.length : Int) < t.th then 4 else if t.ns.any badN = true then 5 else (ofL 0 t.ns).2
def errIs : List In → Int
  | [] => 0
  | x :: r => if errI x = 0 then errIs r else errI x
def errT (t : Tr) : Int := if t.th < 1 ∨ (t.ns.length : Int) + t.is.length < t.th then 4 else if t.ns.any badN = true then 5 else if (ofL 0 t.ns).2 = 0 then errIs t.is else (ofL 0 t.ns).2

theorem e214I (t : In) (h : t.thin) : callW E 214 [.p (.agg [.int .i64 t.th, .sl 1 (t.ns.map (.int .i64)), .sl 3 []])] [] = some ⟨.p (.int .i64 (errI t)), [], []⟩ := by
  rw [callW_eq, EnvS.h 214 F214 rfl]
  unfold In.thin at h
  have e1 := e239 (E := E) t.ns (by omega)
  have e2 := e242 (E := E) t.ns (by omega)
  have w : IntKind.i64.wrap ((t.ns.length : Int) + 0) = t.ns.length := by rw [wrap64 (by omega) (by omega)]; omega
  unfold errI
  by_cases c1 : t.th < 1
  · simp -implicitDefEqProofs only [go_sem, F214, s214, s214_1, s214_2, s214_3, s214_7, c1]
  · by_cases c2 : (t.ns.length : Int) < t.th
    · simp -implicitDefEqProofs only [go_sem, F214, s214, s214_1, s214_2, s214_3, s214_7, c1, w, c2]
    · cases c3 : t.ns.any badN with
      | true => simp -implicitDefEqProofs only [go_sem, F214, s214, s214_1, s214_2, s214_3, s214_7, c1, w, c2, e1, c3]
      | false =>
        by_cases c4 : (ofL 0 t.ns).2 = 0
        · simp -implicitDefEqProofs only [go_sem, F214, s214, s214_1, s214_2, s214_3, s214_7, s214_6, s214_5, s214_4, loopW_some, c1, w, c2, e1, c3, e2, c4]
        · simp -implicitDefEqProofs only [go_sem, F214, s214, s214_1, s214_2, s214_3, s214_7, s214_6, s214_5, s214_4, loopW_some, c1, w, c2, e1, c3, e2, c4]
def errR (e : Int) : Option (Ex × St) := if e = 0 then some (.ex 0, ⟨[], []⟩) else some (.ret, ⟨[(2, .p (.int .i64 e))], []⟩)
theorem loop214 (t : Tr) (h : t.thin) : loopW E 0 [36, 37, 38] [] (.trim [36, 37, 38] [2] [(0, [])] [] s214_6) (some ⟨[(36, .p (.sl 3 (t.is.map In.pv))), (37, .p (.int .i64 t.is.length)), (38, .p (.int .i64 0))], []⟩) = errR (errIs t.is) := by
  generalize hK : loopW E 0 _ _ _ = K
  refine range_loopI K t.is (fun i (_ : Unit) => ⟨[(36, .p (.sl 3 (t.is.map In.pv))), (37, .p (.int .i64 t.is.length)), (38, .p (.int .i64 i))], []⟩) (fun _ l => errR (errIs l)) (fun _ _ => True) ?_ ?_ () trivial
  · intro _ _
    rw [← hK, loopW_some, hK]
    simp -implicitDefEqProofs only [go_sem, s214_6, s214_5, s214_4]
    rfl
  · intro i _ x r hx hn _ ih
    have h4 := h.is
    obtain ⟨f1, f2, f3⟩ := rangeFacts i t.is.length (by omega) (by omega)
    have ih' := ih () trivial
    have e := e214I (E := E) x (h.all x (List.mem_of_getElem? hx))
    try dsimp only at ih' ⊢
    rw [← hK, loopW_some, hK]
    by_cases c : errI x = 0
    · simp -implicitDefEqProofs only [go_sem, s214_6, s214_5, s214_4, hx, f1, f2, f3, In.pv, e, c, ih', errIs]
    · simp -implicitDefEqProofs only [go_sem, s214_6, s214_5, s214_4, hx, f1, f2, f3, In.pv, e, c, errIs, errR]
theorem e214 (t : Tr) (h : t.thin) : callW E 214 [.p t.pv] [] = some ⟨.p (.int .i64 (errT t)), [], []⟩ := by
  rw [callW_eq, EnvS.h 214 F214 rfl]
  have h1 := h.ns
  have h2 := h.is
  have e1 := e239 (E := E) t.ns (by omega)
  have e2 := e242 (E := E) t.ns (by omega)
  have w : IntKind.i64.wrap ((t.ns.length : Int) + (t.is.length : Int)) = (t.ns.length : Int) + t.is.length := wrap64 (by omega) (by omega)
  have lp := loop214 (E := E) t h
  unfold errT
  by_cases c1 : t.th < 1
  · simp -implicitDefEqProofs only [go_sem, F214, s214, s214_1, s214_2, s214_3, s214_7, Tr.pv, c1]
  · by_cases c2 : (t.ns.length : Int) + (t.is.length : Int) < t.th
    · simp -implicitDefEqProofs only [go_sem, F214, s214, s214_1, s214_2, s214_3, s214_7, Tr.pv, c1, w, c2]
    · cases c3 : t.ns.any badN with
      | true => simp -implicitDefEqProofs only [go_sem, F214, s214, s214_1, s214_2, s214_3, s214_7, Tr.pv, c1, w, c2, e1, c3]
      | false =>
        by_cases c4 : (ofL 0 t.ns).2 = 0
        · by_cases c5 : errIs t.is = 0
          · simp only [errR, c5, if_true] at lp
            simp -implicitDefEqProofs only [go_sem, F214, s214, s214_1, s214_2, s214_3, s214_7, Tr.pv, lp, c1, w, c2, e1, c3, e2, c4, c5]
          · simp only [errR, c5, if_false] at lp
            simp -implicitDefEqProofs only [go_sem, F214, s214, s214_1, s214_2, s214_3, s214_7, Tr.pv, lp, c1, w, c2, e1, c3, e2, c4, c5]
        · simp -implicitDefEqProofs only [go_sem, F214, s214, s214_1, s214_2, s214_3, s214_7, Tr.pv, c1, w, c2, e1, c3, e2, c4]
/-! ### The reference's -/
theorem loop218a (es : List Int) (hl : es.length < 4611686018427387904) (st : List AV) (hst : namesL st = []) :
    loopW E 0 [1, 26, 27, 28] [.loc 0 0 0] (.trim [1, 26, 27, 28] [2] [(0, [1])] [.loc 0 0 0] s218_4) (some ⟨[(1, .ptr (.loc 0 0 0) 0), (26, .p (.sl 1 (es.map (.int .i64)))), (27, .p (.int .i64 es.length)), (28, .p (.int .i64 0))], [(.loc 0 0 0, some (.box st))]⟩) =
     if es.any badN = true then some (.ret, ⟨[(2, .p (.int .i64 5))], [(.loc 0 0 0, some (.box st))]⟩) else some (.ex 0, ⟨[(1, .ptr (.loc 0 0 0) 0)], [(.loc 0 0 0, some (.box st))]⟩) := by
  generalize hK : loopW E 0 _ _ _ = K
  refine range_loopI K es (fun i (_ : Unit) => ⟨[(1, .ptr (.loc 0 0 0) 0), (26, .p (.sl 1 (es.map (.int .i64)))), (27, .p (.int .i64 es.length)), (28, .p (.int .i64 i))], [(.loc 0 0 0, some (.box st))]⟩) (fun _ l => if l.any badN = true then some (.ret, ⟨[(2, .p (.int .i64 5))], [(.loc 0 0 0, some (.box st))]⟩) else some (.ex 0, ⟨[(1, .ptr (.loc 0 0 0) 0)], [(.loc 0 0 0, some (.box st))]⟩)) (fun _ _ => True) ?_ ?_ () trivial
  · intro _ _
    rw [← hK, loopW_some, hK]
    simp -implicitDefEqProofs only [go_sem, s218_4, s218_3, s218_2, hst, List.any_nil]
  · intro i _ x r hx hn _ ih
    obtain ⟨f1, f2, f3⟩ := rangeFacts i es.length (by omega) hl
    have ih' := ih () trivial
    try dsimp only at ih' ⊢
    rw [← hK, loopW_some, hK]
    by_cases c1 : x < 0
    · have c2 : badN x = true := by unfold badN; simp; omega
      simp -implicitDefEqProofs only [go_sem, s218_4, s218_3, s218_2, hx, f1, f2, f3, hst, c1, c2, List.any_cons]
    · by_cases c2 : 10 ≤ x
      · have c3 : badN x = true := by unfold badN; simp; omega
        simp -implicitDefEqProofs only [go_sem, s218_4, s218_3, s218_2, hx, f1, f2, f3, hst, c1, c2, c3, List.any_cons]
      · have c3 : badN x = false := by unfold badN; simp; omega
        simp -implicitDefEqProofs only [go_sem, s218_4, s218_3, s218_2, hx, f1, f2, f3, hst, c1, c2, c3, ih', List.any_cons]
theorem e218I (t : In) (h : t.thin) : callW E 218 [.p (.agg [.int .i64 t.th, .sl 1 (t.ns.map (.int .i64)), .sl 3 []])] [] = some ⟨.p (.int .i64 (errI t)), [], []⟩ := by
  rw [callW_eq, EnvS.h 218 F218 rfl]
  unfold In.thin at h
  have e1 := loop218a (E := E) t.ns (by omega) [.p (.int .i64 t.th), .p (.sl 1 (t.ns.map (.int .i64))), .p (.sl 3 [])] rfl
  have e2 := e243 (E := E) t.ns (by omega)
  have w : IntKind.i64.wrap ((t.ns.length : Int) + 0) = t.ns.length := by rw [wrap64 (by omega) (by omega)]; omega
  unfold errI
  by_cases c1 : t.th < 1
  · simp -implicitDefEqProofs only [go_sem, F218, s218, s218_1, s218_5, s218_6, s218_10, c1]
  · by_cases c2 : (t.ns.length : Int) < t.th
    · simp -implicitDefEqProofs only [go_sem, F218, s218, s218_1, s218_5, s218_6, s218_10, c1, w, c2]
    · cases c3 : t.ns.any badN with
      | true =>
        simp only [c3, if_true] at e1
        simp -implicitDefEqProofs only [go_sem, F218, s218, s218_1, s218_5, s218_6, s218_10, c1, w, c2, e1]
      | false =>
        simp only [c3, Bool.false_eq_true, if_false] at e1
        by_cases c4 : (ofL 0 t.ns).2 = 0
        · simp -implicitDefEqProofs only [go_sem, F218, s218, s218_1, s218_5, s218_6, s218_10, s218_9, s218_8, s218_7, loopW_some, c1, w, c2, e1, e2, c4]
        · simp -implicitDefEqProofs only [go_sem, F218, s218, s218_1, s218_5, s218_6, s218_10, c1, w, c2, e1, e2, c4]
theorem loop218b (t : Tr) (h : t.thin) : loopW E 0 [49, 50, 51] [] (.trim [49, 50, 51] [2] [(2, [])] [] s218_9) (some ⟨[(49, .p (.sl 3 (t.is.map In.pv))), (50, .p (.int .i64 t.is.length)), (51, .p (.int .i64 0))], []⟩) = if errIs t.is = 0 then some (.ex 2, ⟨[], []⟩) else some (.ret, ⟨[(2, .p (.int .i64 (errIs t.is)))], []⟩) := by
  generalize hK : loopW E 0 _ _ _ = K
  refine range_loopI K t.is (fun i (_ : Unit) => ⟨[(49, .p (.sl 3 (t.is.map In.pv))), (50, .p (.int .i64 t.is.length)), (51, .p (.int .i64 i))], []⟩) (fun _ l => if errIs l = 0 then some (.ex 2, ⟨[], []⟩) else some (.ret, ⟨[(2, .p (.int .i64 (errIs l)))], []⟩)) (fun _ _ => True) ?_ ?_ () trivial
  · intro _ _
    rw [← hK, loopW_some, hK]
    simp -implicitDefEqProofs only [go_sem, s218_9, s218_8, s218_7, errIs]
  · intro i _ x r hx hn _ ih
    have h4 := h.is
    obtain ⟨f1, f2, f3⟩ := rangeFacts i t.is.length (by omega) (by omega)
    have ih' := ih () trivial
    have e := e218I (E := E) x (h.all x (List.mem_of_getElem? hx))
    try dsimp only at ih' ⊢
    rw [← hK, loopW_some, hK]
    by_cases c : errI x = 0
    · simp -implicitDefEqProofs only [go_sem, s218_9, s218_8, s218_7, hx, f1, f2, f3, In.pv, e, c, ih', errIs]
    · simp -implicitDefEqProofs only [go_sem, s218_9, s218_8, s218_7, hx, f1, f2, f3, In.pv, e, c, errIs]
theorem e218 (t : Tr) (h : t.thin) : callW E 218 [.p t.pv] [] = some ⟨.p (.int .i64 (errT t)), [], []⟩ := by
  rw [callW_eq, EnvS.h 218 F218 rfl]
  have h1 := h.ns
  have h2 := h.is
  have e1 := loop218a (E := E) t.ns (by omega) [.p (.int .i64 t.th), .p (.sl 1 (t.ns.map (.int .i64))), .p (.sl 3 (t.is.map In.pv))] rfl
  have e2 := e243 (E := E) t.ns (by omega)
  have w : IntKind.i64.wrap ((t.ns.length : Int) + (t.is.length : Int)) = (t.ns.length : Int) + t.is.length := wrap64 (by omega) (by omega)
  have lp := loop218b (E := E) t h
  unfold errT
  by_cases c1 : t.th < 1
  · simp -implicitDefEqProofs only [go_sem, F218, s218, s218_1, s218_5, s218_6, s218_10, Tr.pv, c1]
  · by_cases c2 : (t.ns.length : Int) + (t.is.length : Int) < t.th
    · simp -implicitDefEqProofs only [go_sem, F218, s218, s218_1, s218_5, s218_6, s218_10, Tr.pv, c1, w, c2]
    · cases c3 : t.ns.any badN with
      | true =>
        simp only [c3, if_true] at e1
        simp -implicitDefEqProofs only [go_sem, F218, s218, s218_1, s218_5, s218_6, s218_10, Tr.pv, c1, w, c2, e1]
      | false =>
        simp only [c3, Bool.false_eq_true, if_false] at e1
        by_cases c4 : (ofL 0 t.ns).2 = 0
        · by_cases c5 : errIs t.is = 0
          · simp only [c5, if_true] at lp
            simp -implicitDefEqProofs only [go_sem, F218, s218, s218_1, s218_5, s218_6, s218_10, Tr.pv, lp, c1, w, c2, e1, e2, c4, c5]
          · simp only [c5, if_false] at lp
            simp -implicitDefEqProofs only [go_sem, F218, s218, s218_1, s218_5, s218_6, s218_10, Tr.pv, lp, c1, w, c2, e1, e2, c4, c5]
        · simp -implicitDefEqProofs only [go_sem, F218, s218, s218_1, s218_5, s218_6, s218_10, Tr.pv, c1, w, c2, e1, e2, c4]
theorem e156 (t : Tr) (h : t.thin) : callW E 156 [.p t.pv] [] = some ⟨.p (.int .i64 (errT t)), [], []⟩ := by
  rw [callW_eq, EnvS.h 156 F156 rfl]
  have e1 := e212 (E := E) t h
  obtain ⟨n, hn, e2⟩ := e213 (E := E) t h
  have e3 := e214 (E := E) t h
  have c1 : ¬ (4 : Int) < (if t.is.length = 0 then 1 else 2) := by split <;> omega
  have c2 : ¬ (200 : Int) < n := by omega
  unfold Tr.pv at e1 e2 e3 ⊢
  simp -implicitDefEqProofs only [go_sem, F156, s156, s156_1, e1, e2, e3, c1, c2]
/-! as before -/
theorem e160 (t : Tr) (h : t.thin) : callW E 160 [.p t.pv] [] = some ⟨.p (.int .i64 (errT t)), [], []⟩ := by
  rw [callW_eq, EnvS.h 160 F160 rfl]
  have e1 := e216 (E := E) t h
  obtain ⟨n, hn, e2⟩ := e217 (E := E) t h
  have e3 := e218 (E := E) t h
  have c1 : ¬ (4 : Int) < (if t.is.length = 0 then 1 else 2) := by split <;> omega
  have c2 : ¬ (200 : Int) < n := by omega
  unfold Tr.pv at e1 e2 e3 ⊢
  simp -implicitDefEqProofs only [go_sem, F160, s160, s160_1, e1, e2, e3, c1, c2]
end Go.Ab.S

namespace Go.Ab.S
open Go Go.Ab
variable {E : Env} [EnvS E]

/-- An envelope. -/
structure Evl where
  node : Int
  slot : Int
  seq : Int
  t : Tr
  k : Int
  b : Bal
  p : Bal
  q : Bal
  lo : Int
  hi : Int
def Evl.pv (e : Evl) : PV := .agg [.int .i64 e.node, .int .i64 e.slot, .int .i64 e.seq, .int .i64 e.t.th, .sl 1 (e.t.ns.map (.int .i64)), .sl 3 (e.t.is.map In.pv), .int .i64 e.k, .int .i64 e.b.c, .str e.b.v, .int .i64 e.p.c, .str e.p.v, .int .i64 e.q.c, .str e.q.v, .int .i64 e.lo, .int .i64 e.hi]
def validB (b : Bal) : Bool := (decide (1 ≤ b.c) && decide (b.c ≤ 1000) || decide (b.c = 1000000)) && (decide (1 ≤ (b.v.size : Int)) && decide ((b.v.size : Int) ≤ 200))
def finite (b : Bal) : Bool := validB b && decide (b.c ≤ 1000)
def optional (b : Bal) : Bool := zeroB b || validB b
def primeE (e : Evl) : Bool := zeroB e.q || (!zeroB e.p && less e.q e.p && !decide (e.q.v = e.p.v))
def ranged (e : Evl) : Bool := decide (1 ≤ e.lo) && decide (e.lo ≤ e.hi) && decide (e.hi ≤ 1000)
def prepE (e : Evl) : Bool := finite e.b && optional e.p && optional e.q && primeE e && decide (0 ≤ e.lo) && decide (e.lo ≤ e.hi) && decide (e.hi ≤ e.b.c) && ((decide (e.hi = 0) || prepares e.p e.q ⟨e.hi, e.b.v⟩) && (decide (e.lo = 0) || (!aborts e.p ⟨e.lo, e.b.v⟩ && !aborts e.q ⟨e.lo, e.b.v⟩)))
def headE (e : Evl) : Bool := decide (0 ≤ e.node) && decide (e.node < 10) && decide (1 ≤ e.slot) && decide (e.slot ≤ 1000000) && decide (1 ≤ e.seq) && decide (e.seq ≤ 1000000) && decide (errT e.t = 0)
def validE (e : Evl) : Bool := headE e && (if e.k = 1 then prepE e else if e.k = 2 then finite e.b && validB e.p && decide (e.p.v = e.b.v) && zeroB e.q && ranged e && decide (e.hi ≤ e.p.c) else if e.k = 3 then validB e.b && zeroB e.p && zeroB e.q && ranged e else false)

theorem e159 (a : Bal) : callW E 159 [.p (.agg [.int .i64 a.c, .str a.v])] [] = some ⟨.p (.bool (validB a)), [], []⟩ := by
  rw [callW_eq, EnvS.h 159 F159 rfl]
  simp -implicitDefEqProofs only [go_sem, F159, s159, ]
  repeat' ((first | rw [condW_q] | rw [opsG_q] | rw [opsLG_q]); unfold ifq; split <;> rename_i hq <;> simp -implicitDefEqProofs only [go_sem, hq, ])
  all_goals simp_all [validB]
  all_goals (intros; first | omega | (exfalso; omega))
attribute [go_sem] e159
/-! as before -/
theorem e161 (a : Bal) : callW E 161 [.p (.agg [.int .i64 a.c, .str a.v])] [] = some ⟨.p (.bool (validB a)), [], []⟩ := by
  rw [callW_eq, EnvS.h 161 F161 rfl]
  simp -implicitDefEqProofs only [go_sem, F161, s161, ]
  repeat' ((first | rw [condW_q] | rw [opsG_q] | rw [opsLG_q]); unfold ifq; split <;> rename_i hq <;> simp -implicitDefEqProofs only [go_sem, hq, ])
  all_goals simp_all [validB]
  all_goals (intros; first | omega | (exfalso; omega))
attribute [go_sem] e161
theorem e158 (a : Bal) : callW E 158 [.p (.agg [.int .i64 a.c, .str a.v])] [] = some ⟨.p (.bool (finite a)), [], []⟩ := by
  rw [callW_eq, EnvS.h 158 F158 rfl]
  simp -implicitDefEqProofs only [go_sem, F158, s158, ]
  repeat' ((first | rw [condW_q] | rw [opsG_q] | rw [opsLG_q]); unfold ifq; split <;> rename_i hq <;> simp -implicitDefEqProofs only [go_sem, hq, ])
  all_goals simp_all [finite]
theorem e215 (a : Bal) : callW E 215 [.p (.agg [.int .i64 a.c, .str a.v])] [] = some ⟨.p (.bool (optional a)), [], []⟩ := by
  rw [callW_eq, EnvS.h 215 F215 rfl]
  simp -implicitDefEqProofs only [go_sem, F215, s215, ]
  repeat' ((first | rw [condW_q] | rw [opsG_q] | rw [opsLG_q]); unfold ifq; split <;> rename_i hq <;> simp -implicitDefEqProofs only [go_sem, hq, ])
  all_goals simp_all [optional]
attribute [go_sem] e158 e215
theorem e104 (e : Evl) (n : Int) : callW E 104 [.p e.pv, .p (.int .i64 n)] [] = some ⟨.p (.agg [.int .i64 n, .str e.b.v]), [], []⟩ := by
  rw [callW_eq, EnvS.h 104 F104 rfl]
  unfold Evl.pv
  simp -implicitDefEqProofs only [go_sem, F104, s104]
theorem e157 (e : Evl) : callW E 157 [.p e.pv] [] = some ⟨.p (.bool (prepE e)), [], []⟩ := by
  rw [callW_eq, EnvS.h 157 F157 rfl]
  have h1 := e104 (E := E) e e.lo
  have h2 := e104 (E := E) e e.hi
  have p1 := e132 (E := E) e.p e.q ⟨e.hi, e.b.v⟩
  have p2 := e122 (E := E) e.p ⟨e.lo, e.b.v⟩
  have p3 := e122 (E := E) e.q ⟨e.lo, e.b.v⟩
  unfold Evl.pv at *
  dsimp only at p1 p2 p3
  simp -implicitDefEqProofs only [go_sem, F157, s157, s157_1, h1, h2, p1, p2, p3]
  repeat' ((first | rw [condW_q] | rw [opsG_q] | rw [opsLG_q]); unfold ifq; split <;> rename_i hq <;> simp -implicitDefEqProofs only [go_sem, hq, h1, h2, p1, p2, p3])
  all_goals (clear p1 p2 p3 h1 h2; unfold prepE primeE; simp_all)
  all_goals (intros; first | omega | (exfalso; omega))
attribute [go_sem] e157
theorem e81 (e : Evl) (h : e.t.thin) : callW E 81 [.p e.pv] [] = some ⟨.p (.bool (validE e)), [], []⟩ := by
  rw [callW_eq, EnvS.h 81 F81 rfl]
  have h1 := e156 (E := E) e.t h
  have h2 := e157 (E := E) e
  unfold Evl.pv at *
  unfold Tr.pv at h1
  unfold validE
  cases c1 : headE e with
  | false =>
    simp -implicitDefEqProofs only [go_sem, F81, s81, s81_1, s81_7, s81_2, s81_6, s81_3, s81_5, s81_4, h1, h2]
    repeat' ((first | rw [condW_q] | rw [opsG_q] | rw [opsLG_q]); unfold ifq; split <;> rename_i hq <;> simp -implicitDefEqProofs only [go_sem, hq, h1, h2])
    all_goals (clear h1 h2; simp_all [headE])
  | true =>
    have c2 := c1
    unfold headE at c2
    simp only [Bool.and_eq_true, decide_eq_true_eq] at c2
    obtain ⟨⟨⟨⟨⟨⟨d1, d2⟩, d3⟩, d4⟩, d5⟩, d6⟩, d7⟩ := c2
    have f1 : ¬ e.node < 0 := by omega
    have f2 : ¬ 10 ≤ e.node := by omega
    have f3 : ¬ e.slot < 1 := by omega
    have f4 : ¬ 1000000 < e.slot := by omega
    have f5 : ¬ e.seq < 1 := by omega
    have f6 : ¬ 1000000 < e.seq := by omega
    simp -implicitDefEqProofs only [go_sem, F81, s81, s81_1, s81_7, s81_2, s81_6, s81_3, s81_5, s81_4, h1, h2, f1, f2, f3, f4, f5, f6, d7]
    repeat' ((first | rw [condW_q] | rw [opsG_q] | rw [opsLG_q]); unfold ifq; split <;> rename_i hq <;> simp -implicitDefEqProofs only [go_sem, hq, h1, h2, f1, f2, f3, f4, f5, f6, d7])
    all_goals (clear h1 h2; simp_all [ranged])
    all_goals (intros; first | omega | (exfalso; omega))
end Go.Ab.S

namespace Go.Ab.S
open Go Go.Ab
variable {E : Env} [EnvS E]

/-- The reference's word for what is valid. -/
def validR (e : Evl) : Bool := headE e && validB e.b && (if e.k = 1 then
    !decide (1000 < e.b.c) && (zeroB e.p || validB e.p) && (zeroB e.q || (!zeroB e.p && validB e.q && less e.q e.p && !decide (e.q.v = e.p.v))) && decide (0 ≤ e.lo) && decide (e.lo ≤ e.hi) && decide (e.hi ≤ e.b.c) &&
    ((!decide (0 < e.hi) || prepares e.p e.q ⟨e.hi, e.b.v⟩) && (decide (e.lo = 0) || (!aborts e.p ⟨e.lo, e.b.v⟩ && !aborts e.q ⟨e.lo, e.b.v⟩)))
  else if e.k = 2 then decide (e.b.c ≤ 1000) && validB e.p && decide (e.p.v = e.b.v) && zeroB e.q && ranged e && decide (e.hi ≤ e.p.c) else if e.k = 3 then zeroB e.p && zeroB e.q && ranged e else false)
theorem validR_eq (e : Evl) : validR e = validE e := by
  unfold validR validE
  cases headE e <;> simp
  by_cases k1 : e.k = 1
  · simp only [k1, if_true, prepE, finite, optional, primeE]
    by_cases h4 : 0 ≤ e.lo ∧ e.lo ≤ e.hi
    · have hd : (!decide (0 < e.hi)) = decide (e.hi = 0) := by rw [Bool.eq_iff_iff]; simp; omega
      have h1 : (!decide (1000 < e.b.c)) = decide (e.b.c ≤ 1000) := by rw [Bool.eq_iff_iff]; simp
      rw [hd, h1]
      generalize ((decide (e.hi = 0) || prepares e.p e.q ⟨e.hi, e.b.v⟩) && (decide (e.lo = 0) || (!aborts e.p ⟨e.lo, e.b.v⟩ && !aborts e.q ⟨e.lo, e.b.v⟩))) = X
      cases validB e.b <;> cases decide (e.b.c ≤ 1000) <;> cases zeroB e.p <;> cases validB e.p <;> cases zeroB e.q <;> cases validB e.q <;> cases less e.q e.p <;> simp
    · have : decide (0 ≤ e.lo) = false ∨ decide (e.lo ≤ e.hi) = false := by
        by_cases h5 : 0 ≤ e.lo
        · right; simp; omega
        · left; simp; omega
      rcases this with h | h <;> simp [h]
  · by_cases k2 : e.k = 2
    · simp [k2, finite]
      cases validB e.b <;> simp
    · by_cases k3 : e.k = 3 <;> simp [k1, k2, k3]
      cases validB e.b <;> simp
set_option maxHeartbeats 4000000 in
theorem e82 (e : Evl) (h : e.t.thin) : callW E 82 [.p e.pv] [] = some ⟨.p (.bool (validE e)), [], []⟩ := by
  rw [← validR_eq]
  rw [callW_eq, EnvS.h 82 F82 rfl]
  have h1 := e160 (E := E) e.t h
  have p1 := e46 (E := E) e.p e.q ⟨e.hi, e.b.v⟩
  have p2 := e90 (E := E) e.p ⟨e.lo, e.b.v⟩
  have p3 := e90 (E := E) e.q ⟨e.lo, e.b.v⟩
  unfold Evl.pv at *
  unfold Tr.pv at h1
  unfold validR
  dsimp only at p1 p2 p3
  cases c1 : headE e with
  | false =>
    simp -implicitDefEqProofs only [go_sem, F82, s82, s82_1, s82_11, s82_6, s82_2, s82_3, s82_4, s82_5, s82_10, s82_7, s82_9, s82_8, h1, p1, p2, p3]
    repeat' ((first | rw [condW_q] | rw [opsG_q] | rw [opsLG_q]); unfold ifq; split <;> rename_i hq <;> simp -implicitDefEqProofs only [go_sem, hq, h1, p1, p2, p3])
    all_goals (clear h1 p1 p2 p3; simp_all [headE])
    all_goals (intros; first | omega | (exfalso; omega))
  | true =>
    have c2 := c1
    unfold headE at c2
    simp only [Bool.and_eq_true, decide_eq_true_eq] at c2
    obtain ⟨⟨⟨⟨⟨⟨d1, d2⟩, d3⟩, d4⟩, d5⟩, d6⟩, d7⟩ := c2
    have f1 : ¬ e.node < 0 := by omega
    have f2 : ¬ 9 < e.node := by omega
    have f3 : ¬ e.slot < 1 := by omega
    have f4 : ¬ 1000000 < e.slot := by omega
    have f5 : ¬ e.seq < 1 := by omega
    have f6 : ¬ 1000000 < e.seq := by omega
    cases c3 : validB e.b with
    | false => simp -implicitDefEqProofs only [go_sem, F82, s82, s82_1, s82_11, s82_6, s82_2, s82_3, s82_4, s82_5, s82_10, s82_7, s82_9, s82_8, h1, p1, p2, p3, f1, f2, f3, f4, f5, f6, d7, c3]
    | true =>
      simp -implicitDefEqProofs only [go_sem, F82, s82, s82_1, s82_11, s82_6, s82_2, s82_3, s82_4, s82_5, s82_10, s82_7, s82_9, s82_8, h1, p1, p2, p3, f1, f2, f3, f4, f5, f6, d7, c3]
      repeat' ((first | rw [condW_q] | rw [opsG_q] | rw [opsLG_q]); unfold ifq; split <;> rename_i hq <;> simp -implicitDefEqProofs only [go_sem, hq, h1, p1, p2, p3, f1, f2, f3, f4, f5, f6, d7, c3])
      all_goals (clear h1 p1 p2 p3; simp_all [ranged])
      all_goals (intros; first | omega | (exfalso; omega))
end Go.Ab.S

namespace Go.Ab.S
open Go Go.Ab
variable {E : Env} [EnvS E]

def accP (e : Evl) (b : Bal) : Bool := if zeroB b = true then false else if e.k = 1 then prepares e.p e.q b else if e.k = 2 then covers e.p b else decide (e.b.v = b.v)
def votP (e : Evl) (b : Bal) : Bool := if zeroB b = true then false else if e.k = 1 then covers e.b b else decide (e.b.v = b.v)
theorem e113 (e : Evl) (b : Bal) : callW E 113 [.p e.pv, .p (.agg [.int .i64 b.c, .str b.v])] [] = some ⟨.p (.bool (accP e b)), [], []⟩ := by
  rw [callW_eq, EnvS.h 113 F113 rfl]
  unfold Evl.pv at *
  simp -implicitDefEqProofs only [go_sem, F113, s113, s113_6, s113_1, s113_5, s113_2, s113_4, s113_3, ]
  repeat' ((first | rw [condW_q] | rw [opsG_q] | rw [opsLG_q]); unfold ifq; split <;> rename_i hq <;> simp -implicitDefEqProofs only [go_sem, hq, ])
  all_goals simp_all [accP]
theorem e112 (e : Evl) (b : Bal) : callW E 112 [.p e.pv, .p (.agg [.int .i64 b.c, .str b.v])] [] = some ⟨.p (.bool (votP e b)), [], []⟩ := by
  rw [callW_eq, EnvS.h 112 F112 rfl]
  unfold Evl.pv at *
  simp -implicitDefEqProofs only [go_sem, F112, s112, s112_4, s112_1, s112_3, s112_2, ]
  repeat' ((first | rw [condW_q] | rw [opsG_q] | rw [opsLG_q]); unfold ifq; split <;> rename_i hq <;> simp -implicitDefEqProofs only [go_sem, hq, ])
  all_goals simp_all [votP]
/-- 51 -/
def join (p q b : Bal) : Bal × Bal :=
  if zeroB b = true then (p, q) else if zeroB p = true then (b, q) else if less p b = true then (b, if p.v = b.v then (if q.v = b.v then ⟨0, ByteArray.empty⟩ else q) else p)
  else if (less b p && !decide (p.v = b.v) && (zeroB q || less q b)) = true then (p, b) else (p, q)
def Bal.pv (b : Bal) : PV := .agg [.int .i64 b.c, .str b.v]
theorem e51 (p q b : Bal) : callW E 51 [.p (.agg [.int .i64 p.c, .str p.v]), .p (.agg [.int .i64 q.c, .str q.v]), .p (.agg [.int .i64 b.c, .str b.v])] [] = some ⟨.tup [.p (join p q b).1.pv, .p (join p q b).2.pv], [], []⟩ := by
  rw [callW_eq, EnvS.h 51 F51 rfl]
  simp -implicitDefEqProofs only [go_sem, F51, s51, s51_11, s51_10, s51_1, s51_9, s51_6, s51_5, s51_2, s51_4, s51_3, s51_8, s51_7, ]
  repeat' ((first | rw [condW_q] | rw [opsG_q] | rw [opsLG_q]); unfold ifq; split <;> rename_i hq <;> simp -implicitDefEqProofs only [go_sem, hq, ])
  all_goals simp_all [join, Bal.pv]
end Go.Ab.S
