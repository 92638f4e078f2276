/- A part of the proof: an executor over plain data, shown sound for the model, and what it computes of the functions. -/
import Derived.Test.YtmnjnpgmenigiaaEv
set_option linter.all false
set_option linter.unusedSimpArgs false
set_option linter.unusedVariables false
namespace Go.Ab.S
open Go Go.Ab
/-- Functions that are handed slices as they are. -/
def rawB (f : Nat) : Bool := ([] : List Nat).contains f
/-- An environment with the code of these functions. -/
class EnvS (E : Env) : Prop where
  h : ∀ f F, fnSA f = some F → E.fn f = some F
  raw : ∀ f, rawB f = false → E.raw f = false
  n208 : E.fn 208 = none
  x208 : ∀ es : List PV, es.length ≤ most → E.ex 208 [.p (.sl 1 es)] [] = some ⟨.p (.sl 1 es), [], []⟩
variable {E : Env} [EnvS E]

theorem raw_S (f : Nat) (h : rawB f = false) : E.raw f = false := EnvS.raw f h
attribute [go_sem] raw_S rawB
theorem e208 (es : List PV) (h : es.length ≤ most) : callW E 208 [.p (.sl 1 es)] [] = some ⟨.p (.sl 1 es), [], []⟩ := by
  rw [callW_eq, EnvS.n208]
  exact EnvS.x208 es h
theorem wrap64 {x : Int} (h1 : -9223372036854775808 ≤ x) (h2 : x ≤ 9223372036854775807) : IntKind.i64.wrap x = x := by
  simp [IntKind.wrap, IntKind.bits, IntKind.signed]
  omega

/-- A number is drawn, and the next place. -/
def dV (l : List Int) (a : Nat) (n : Int) : Int := match l[a]? with
  | some x => if n < 1 then 0 else (x.tmod n + n).tmod n
  | none => 0
def dA (l : List Int) (a : Nat) (n : Int) : Nat := match l[a]? with
  | some _ => if n < 1 then a else a + 1
  | none => a
theorem dV_nonneg (l : List Int) (a : Nat) (n : Int) : 0 ≤ dV l a n := by
  unfold dV
  split
  · split
    · omega
    · rename_i x _ h
      have := Int.tmod_lt_of_pos x (show 0 < n by omega)
      have h2 : -n < x.tmod n := by
        have := Int.lt_tmod_of_pos x (show 0 < n by omega)
        omega
      exact Int.tmod_nonneg _ (by omega)
  · omega
theorem dV_lt (l : List Int) (a : Nat) (n : Int) (h : 1 ≤ n) : dV l a n < n := by
  unfold dV
  split
  · rw [if_neg (by omega)]
    exact Int.tmod_lt_of_pos _ (by omega)
  · omega
theorem dA_le (l : List Int) (a : Nat) (n : Int) (h : a ≤ l.length) : dA l a n ≤ l.length := by
  unfold dA
  split
  · rename_i x hx
    have := (List.getElem?_eq_some_iff.1 hx).1
    split <;> omega
  · exact h

/-- Bounds on the list that numbers are drawn from. -/
structure SrcOk (l : List Int) : Prop where
  len : l.length ≤ 800

theorem e28 (l : List Int) (a : Nat) (n : Int) (hl : l.length ≤ 800) (ha : a ≤ l.length) (hn : n ≤ 1000000) : callW E 28 [.ptr (.ext 0) 0, .p (.int .i64 n)] [.box [.p (.sl 1 (l.map (.int .i64))), .p (.int .i64 a)]] = some ⟨.p (.int .i64 (dV l a n)), [.box [.p (.sl 1 (l.map (.int .i64))), .p (.int .i64 (dA l a n))]], []⟩ := by
  rw [callW_eq, EnvS.h 28 F28 rfl]
  have hlen : (((l.map (PV.int .i64)).length : Nat) : Int) = (l.length : Int) := by simp
  unfold dV dA
  by_cases h1 : a < l.length
  · have h1' : ¬ (l.length : Int) ≤ (a : Int) := by omega
    have hg : l[a]? = some l[a] := by simp [h1]
    by_cases h2 : n < 1
    · simp -implicitDefEqProofs only [go_sem, Nat.reduceEqDiff, Nat.reduceAdd, Nat.reduceLeDiff, Nat.reduceLT, reduceCtorEq, ↓reduceIte, Nat.reduceBEq, Int.reduceLT, Int.reduceLE, Int.reduceNeg, Int.reduceEq, Int.toNat_natCast, cast_lit, Int.reduceToNat, F28, s28, s28_1, hlen, h1', h2, hg]
    · have hw : IntKind.i64.wrap ((a : Int) + 1) = ((a + 1 : Nat) : Int) := by rw [wrap64 (by omega) (by omega)]; omega
      have hw2 : IntKind.i64.wrap (((a + 1 : Nat) : Int) - 1) = (a : Int) := by rw [wrap64 (by omega) (by omega)]; omega
      have ha0 : (0 : Int) ≤ a := by omega
      have hm : (l.map (PV.int .i64))[a]? = some (.int .i64 l[a]) := by simp [h1]
      have hn0 : n ≠ 0 := by omega
      have b1 := Int.tmod_lt_of_pos l[a] (show 0 < n by omega)
      have b2 := Int.lt_tmod_of_pos l[a] (show 0 < n by omega)
      have hw3 : IntKind.i64.wrap (l[a].tmod n + n) = l[a].tmod n + n := wrap64 (by omega) (by omega)
      simp -implicitDefEqProofs only [go_sem, Nat.reduceEqDiff, Nat.reduceAdd, Nat.reduceLeDiff, Nat.reduceLT, reduceCtorEq, ↓reduceIte, Nat.reduceBEq, Int.reduceLT, Int.reduceLE, Int.reduceNeg, Int.reduceEq, Int.toNat_natCast, cast_lit, Int.reduceToNat, F28, s28, s28_1, hlen, h1', h2, hg, hw, hw2, ha0, hm, hn0, hw3]
  · have h1' : (l.length : Int) ≤ (a : Int) := by omega
    have hg : l[a]? = none := by simp; omega
    simp -implicitDefEqProofs only [go_sem, Nat.reduceEqDiff, Nat.reduceAdd, Nat.reduceLeDiff, Nat.reduceLT, reduceCtorEq, ↓reduceIte, Nat.reduceBEq, Int.reduceLT, Int.reduceLE, Int.reduceNeg, Int.reduceEq, Int.toNat_natCast, cast_lit, Int.reduceToNat, F28, s28, s28_1, hlen, h1', hg]

attribute [go_sem] List.length_map
theorem e31 (l : List Int) (a : Nat) (lo hi : Int) (hl : l.length ≤ 800) (ha : a ≤ l.length) (h1 : 0 ≤ lo) (h2 : lo ≤ 100000) (h3 : 0 ≤ hi) (h4 : hi ≤ 100000) : callW E 31 [.ptr (.ext 0) 0, .p (.int .i64 lo), .p (.int .i64 hi)] [.box [.p (.sl 1 (l.map (.int .i64))), .p (.int .i64 a)]] = some ⟨.p (.int .i64 (lo + dV l a (hi - lo + 1))), [.box [.p (.sl 1 (l.map (.int .i64))), .p (.int .i64 (dA l a (hi - lo + 1)))]], []⟩ := by
  rw [callW_eq, EnvS.h 31 F31 rfl]
  have w1 : IntKind.i64.wrap (hi - lo) = hi - lo := wrap64 (by omega) (by omega)
  have w2 : IntKind.i64.wrap (hi - lo + 1) = hi - lo + 1 := wrap64 (by omega) (by omega)
  have e := e28 (E := E) l a (hi - lo + 1) hl ha (by omega)
  have w3 : IntKind.i64.wrap (lo + dV l a (hi - lo + 1)) = lo + dV l a (hi - lo + 1) := by
    have := dV_nonneg l a (hi - lo + 1)
    by_cases h : 1 ≤ hi - lo + 1
    · have := dV_lt l a _ h
      exact wrap64 (by omega) (by omega)
    · have : dV l a (hi - lo + 1) = 0 := by
        unfold dV; split
        · rw [if_pos (by omega)]
        · rfl
      exact wrap64 (by omega) (by omega)
  simp -implicitDefEqProofs only [go_sem, Nat.reduceEqDiff, Nat.reduceAdd, Nat.reduceLeDiff, Nat.reduceLT, reduceCtorEq, ↓reduceIte, Nat.reduceBEq, Int.reduceLT, Int.reduceLE, Int.reduceNeg, Int.reduceEq, Int.toNat_natCast, cast_lit, Int.reduceToNat, F31, s31, w1, w2, w3, e]

theorem e117 (l : List Int) (a : Nat) (es : List ByteArray) (hl : l.length ≤ 800) (ha : a ≤ l.length) (h0 : 0 < es.length) (h1 : es.length ≤ 1000) : callW E 117 [.ptr (.ext 0) 0, .p (.sl 1 (es.map .str))] [.box [.p (.sl 1 (l.map (.int .i64))), .p (.int .i64 a)]] = some ⟨.p (.str (es[(dV l a es.length).toNat]?.getD ByteArray.empty)), [.box [.p (.sl 1 (l.map (.int .i64))), .p (.int .i64 (dA l a es.length))]], []⟩ := by
  rw [callW_eq, EnvS.h 117 F117 rfl]
  have e := e28 (E := E) l a es.length hl ha (by omega)
  have b1 := dV_nonneg l a es.length
  have b2 := dV_lt l a es.length (by omega)
  have hg : (es.map PV.str)[(dV l a es.length).toNat]? = some (.str (es[(dV l a es.length).toNat]?.getD ByteArray.empty)) := by
    have : (dV l a es.length).toNat < es.length := by omega
    simp [this]
  simp -implicitDefEqProofs only [go_sem, Nat.reduceEqDiff, Nat.reduceAdd, Nat.reduceLeDiff, Nat.reduceLT, reduceCtorEq, ↓reduceIte, Nat.reduceBEq, Int.reduceLT, Int.reduceLE, Int.reduceNeg, Int.reduceEq, Int.toNat_natCast, cast_lit, Int.reduceToNat, F117, s117, e, b1, hg]

def valN (k : Int) : ByteArray := [(⟨#[97]⟩ : ByteArray), ⟨#[98]⟩, ⟨#[99]⟩, ⟨#[97, 97]⟩][k.toNat]?.getD ByteArray.empty
theorem e30 (l : List Int) (a : Nat) (hl : l.length ≤ 800) (ha : a ≤ l.length) : callW E 30 [.ptr (.ext 0) 0] [.box [.p (.sl 1 (l.map (.int .i64))), .p (.int .i64 a)]] = some ⟨.p (.str (valN (dV l a 4))), [.box [.p (.sl 1 (l.map (.int .i64))), .p (.int .i64 (dA l a 4))]], []⟩ := by
  rw [callW_eq, EnvS.h 30 F30 rfl]
  have e := e117 (E := E) l a [(⟨#[97]⟩ : ByteArray), ⟨#[98]⟩, ⟨#[99]⟩, ⟨#[97, 97]⟩] hl ha (by decide) (by decide)
  simp only [List.map_cons, List.map_nil, List.length_cons, List.length_nil] at e
  simp -implicitDefEqProofs only [go_sem, Nat.reduceEqDiff, Nat.reduceAdd, Nat.reduceLeDiff, Nat.reduceLT, reduceCtorEq, ↓reduceIte, Nat.reduceBEq, Int.reduceLT, Int.reduceLE, Int.reduceNeg, Int.reduceEq, Int.toNat_natCast, cast_lit, Int.reduceToNat, F30, s30, e]
  rfl

theorem e39 (l : List Int) (a : Nat) (hl : l.length ≤ 800) (ha : a ≤ l.length) : callW E 39 [.ptr (.ext 0) 0] [.box [.p (.sl 1 (l.map (.int .i64))), .p (.int .i64 a)]] = some ⟨.p (.agg [.int .i64 (1 + dV l a 6), .str (valN (dV l (dA l a 6) 4))]), [.box [.p (.sl 1 (l.map (.int .i64))), .p (.int .i64 (dA l (dA l a 6) 4))]], []⟩ := by
  rw [callW_eq, EnvS.h 39 F39 rfl]
  have e1 := e31 (E := E) l a 1 6 hl ha (by omega) (by omega) (by omega) (by omega)
  have e2 := e30 (E := E) l (dA l a 6) hl (dA_le l a 6 ha)
  simp only [show (6 : Int) - 1 + 1 = 6 from _root_.id rfl] at e1
  simp -implicitDefEqProofs only [go_sem, Nat.reduceEqDiff, Nat.reduceAdd, Nat.reduceLeDiff, Nat.reduceLT, reduceCtorEq, ↓reduceIte, Nat.reduceBEq, Int.reduceLT, Int.reduceLE, Int.reduceNeg, Int.reduceEq, Int.toNat_natCast, cast_lit, Int.reduceToNat, F39, s39, e1, e2]

end Go.Ab.S
