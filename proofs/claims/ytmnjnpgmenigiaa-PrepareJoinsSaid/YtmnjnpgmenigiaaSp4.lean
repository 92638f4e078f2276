/- A part of the proof: an executor over plain data, shown sound for the model, and what it computes of the functions. -/
import Derived.Test.YtmnjnpgmenigiaaSp3
set_option linter.all false
set_option linter.unusedSimpArgs false
set_option linter.unusedVariables false
set_option linter.unusedSectionVars false
namespace Go.Ab.S
open Go Go.Ab
variable {E : Env} [EnvS E]

def badN (x : Int) : Bool := !(decide (0 ≤ x) && decide (x < 10))
theorem e241 (x : Int) : callW E 241 [.p (.int .i64 x)] [] = some ⟨.p (.bool (decide (0 ≤ x) && decide (x < 10))), [], []⟩ := by
  rw [callW_eq, EnvS.h 241 F241 rfl]
  simp -implicitDefEqProofs only [go_sem, Nat.reduceEqDiff, Nat.reduceAdd, Nat.reduceLeDiff, Nat.reduceLT, reduceCtorEq, ↓reduceIte, Nat.reduceBEq, Int.reduceLT, Int.reduceLE, Int.reduceNeg, Int.reduceEq, Int.toNat_natCast, cast_lit, Int.reduceToNat, F241, s241, ]
  repeat' ((first | rw [condW_q] | rw [opsG_q] | rw [opsLG_q]); unfold ifq; split <;> rename_i hq <;> simp -implicitDefEqProofs only [go_sem, Nat.reduceEqDiff, Nat.reduceAdd, Nat.reduceLeDiff, Nat.reduceLT, reduceCtorEq, ↓reduceIte, Nat.reduceBEq, Int.reduceLT, Int.reduceLE, Int.reduceNeg, Int.reduceEq, Int.toNat_natCast, cast_lit, Int.reduceToNat, hq, ])
theorem e240 (x : Int) : callW E 240 [.p (.int .i64 x)] [] = some ⟨.p (.bool (badN x)), [], []⟩ := by
  rw [callW_eq, EnvS.h 240 F240 rfl]
  unfold badN
  simp -implicitDefEqProofs only [go_sem, Nat.reduceEqDiff, Nat.reduceAdd, Nat.reduceLeDiff, Nat.reduceLT, reduceCtorEq, ↓reduceIte, Nat.reduceBEq, Int.reduceLT, Int.reduceLE, Int.reduceNeg, Int.reduceEq, Int.toNat_natCast, cast_lit, Int.reduceToNat, F240, s240, e241]
attribute [go_sem] e240 e241
def fdR (n : Nat) (l : List Int) : Option (Ex × St) := if l.any badN = true then some (.ret, ⟨[(4, .p (.int .i64 ((n - l.length + l.findIdx badN : Nat) : Int)))], []⟩) else some (.ex 0, ⟨[], []⟩)
theorem loop285 (es : List Int) (hl : es.length < 4611686018427387904) :
    loopW E 0 [0, 1, 7, 8] [] (.trim [0, 1, 7, 8] [4] [(0, [])] [] s285_3) (some ⟨[(0, .p (.sl 1 (es.map (.int .i64)))), (1, .fn 240 [] []), (7, .p (.int .i64 es.length)), (8, .p (.int .i64 0))], []⟩) = fdR es.length es := by
  generalize hK : loopW E 0 _ _ _ = K
  refine range_loopI K es (fun i (_ : Unit) => ⟨[(0, .p (.sl 1 (es.map (.int .i64)))), (1, .fn 240 [] []), (7, .p (.int .i64 es.length)), (8, .p (.int .i64 i))], []⟩) (fun _ l => fdR es.length l) (fun _ _ => True) ?_ ?_ () trivial
  · intro _ _
    rw [← hK, loopW_some, hK]
    simp -implicitDefEqProofs only [go_sem, Nat.reduceEqDiff, Nat.reduceAdd, Nat.reduceLeDiff, Nat.reduceLT, reduceCtorEq, ↓reduceIte, Nat.reduceBEq, Int.reduceLT, Int.reduceLE, Int.reduceNeg, Int.reduceEq, Int.toNat_natCast, cast_lit, Int.reduceToNat, s285_3, s285_2, s285_1]
    rfl
  · intro i _ x r hx hn _ ih
    have hi : i < es.length := by omega
    obtain ⟨f1, f2, f3⟩ := rangeFacts i _ hi hl
    have ih' := ih () trivial
    try dsimp only at ih' ⊢
    rw [← hK, loopW_some, hK]
    cases hb : badN x with
    | true =>
      simp -implicitDefEqProofs only [go_sem, Nat.reduceEqDiff, Nat.reduceAdd, Nat.reduceLeDiff, Nat.reduceLT, reduceCtorEq, ↓reduceIte, Nat.reduceBEq, Int.reduceLT, Int.reduceLE, Int.reduceNeg, Int.reduceEq, Int.toNat_natCast, cast_lit, Int.reduceToNat, s285_3, s285_2, s285_1, hx, f1, f2, f3, hb, fdR, List.any_cons, List.findIdx_cons, cond_true]
      simp; omega
    | false =>
      simp -implicitDefEqProofs only [go_sem, Nat.reduceEqDiff, Nat.reduceAdd, Nat.reduceLeDiff, Nat.reduceLT, reduceCtorEq, ↓reduceIte, Nat.reduceBEq, Int.reduceLT, Int.reduceLE, Int.reduceNeg, Int.reduceEq, Int.toNat_natCast, cast_lit, Int.reduceToNat, s285_3, s285_2, s285_1, hx, f1, f2, f3, hb, ih', fdR, List.any_cons, List.findIdx_cons, cond_false]
      simp only [show es.length - (r.length + 1) + (r.findIdx badN + 1) = es.length - r.length + r.findIdx badN by omega]
theorem e239 (es : List Int) (hl : es.length < 4611686018427387904) : callW E 239 [.p (.sl 1 (es.map (.int .i64))), .fn 240 [] []] [] = some ⟨.p (.bool (es.any badN)), [], []⟩ := by
  have e : callW E 285 [.p (.sl 1 (es.map (.int .i64))), .fn 240 [] []] [] = some ⟨.p (.int .i64 (if es.any badN = true then ((es.findIdx badN : Nat) : Int) else -1)), [], []⟩ := by
    rw [callW_eq, EnvS.h 285 F285 rfl]
    have lp := loop285 (E := E) es hl
    unfold fdR at lp
    cases h : es.any badN with
    | true => simp -implicitDefEqProofs only [go_sem, Nat.reduceEqDiff, Nat.reduceAdd, Nat.reduceLeDiff, Nat.reduceLT, reduceCtorEq, ↓reduceIte, Nat.reduceBEq, Int.reduceLT, Int.reduceLE, Int.reduceNeg, Int.reduceEq, Int.toNat_natCast, cast_lit, Int.reduceToNat, F285, s285, s285_4, lp, h, Nat.sub_self]
    | false => simp -implicitDefEqProofs only [go_sem, Nat.reduceEqDiff, Nat.reduceAdd, Nat.reduceLeDiff, Nat.reduceLT, reduceCtorEq, ↓reduceIte, Nat.reduceBEq, Int.reduceLT, Int.reduceLE, Int.reduceNeg, Int.reduceEq, Int.toNat_natCast, cast_lit, Int.reduceToNat, F285, s285, s285_4, lp, h]
  rw [callW_eq, EnvS.h 239 F239 rfl]
  cases h : es.any badN with
  | true =>
    have h2 : (0 : Int) ≤ (es.findIdx badN : Nat) := by omega
    simp -implicitDefEqProofs only [go_sem, Nat.reduceEqDiff, Nat.reduceAdd, Nat.reduceLeDiff, Nat.reduceLT, reduceCtorEq, ↓reduceIte, Nat.reduceBEq, Int.reduceLT, Int.reduceLE, Int.reduceNeg, Int.reduceEq, Int.toNat_natCast, cast_lit, Int.reduceToNat, F239, s239, e, h, h2]
  | false => simp -implicitDefEqProofs only [go_sem, Nat.reduceEqDiff, Nat.reduceAdd, Nat.reduceLeDiff, Nat.reduceLT, reduceCtorEq, ↓reduceIte, Nat.reduceBEq, Int.reduceLT, Int.reduceLE, Int.reduceNeg, Int.reduceEq, Int.toNat_natCast, cast_lit, Int.reduceToNat, F239, s239, e, h]

/-- Trusts that are small. -/
def In.thin (t : In) : Prop := t.ns.length ≤ 12
structure Tr.thin (t : Tr) : Prop where
  ns : t.ns.length ≤ 12
  is : t.is.length ≤ 4
  all : ∀ x ∈ t.is, x.thin

theorem e212I (th : Int) (ns : List PV) : callW E 212 [.p (.agg [.int .i64 th, .sl 1 ns, .sl 3 []])] [] = some ⟨.p (.int .i64 1), [], []⟩ := by
  rw [callW_eq, EnvS.h 212 F212 rfl]
  have w : IntKind.i64.wrap (0 + 1) = 1 := by decide
  simp -implicitDefEqProofs only [go_sem, Nat.reduceEqDiff, Nat.reduceAdd, Nat.reduceLeDiff, Nat.reduceLT, reduceCtorEq, ↓reduceIte, Nat.reduceBEq, Int.reduceLT, Int.reduceLE, Int.reduceNeg, Int.reduceEq, Int.toNat_natCast, cast_lit, Int.reduceToNat, F212, s212, s212_3, s212_2, s212_1, loopW_some, w]
theorem e212 (t : Tr) (h : t.thin) : callW E 212 [.p t.pv] [] = some ⟨.p (.int .i64 (if t.is.length = 0 then 1 else 2)), [], []⟩ := by
  have lp : ∀ n : Int, loopW E 0 [3, 7, 8, 9] [] (.trim [3, 7, 8, 9] [2] [(0, [3])] [] s212_2) (some ⟨[(3, .p (.int .i64 n)), (7, .p (.sl 3 (t.is.map In.pv))), (8, .p (.int .i64 t.is.length)), (9, .p (.int .i64 0))], []⟩) = some (.ex 0, ⟨[(3, .p (.int .i64 (if t.is.length = 0 then n else if n < 1 then 1 else n)))], []⟩) := by
    generalize hK : loopW E 0 _ _ _ = K
    intro n
    refine range_loop K t.is (fun i (n : Int) => ⟨[(3, .p (.int .i64 n)), (7, .p (.sl 3 (t.is.map In.pv))), (8, .p (.int .i64 t.is.length)), (9, .p (.int .i64 i))], []⟩) (fun n l => some (.ex 0, ⟨[(3, .p (.int .i64 (if l.length = 0 then n else if n < 1 then 1 else n)))], []⟩)) ?_ ?_ n
    · intro n
      rw [← hK, loopW_some, hK]
      simp -implicitDefEqProofs only [go_sem, Nat.reduceEqDiff, Nat.reduceAdd, Nat.reduceLeDiff, Nat.reduceLT, reduceCtorEq, ↓reduceIte, Nat.reduceBEq, Int.reduceLT, Int.reduceLE, Int.reduceNeg, Int.reduceEq, Int.toNat_natCast, cast_lit, Int.reduceToNat, s212_2, s212_1]
    · intro i n x r hx hi ih
      have := h.is
      obtain ⟨f1, f2, f3⟩ := rangeFacts i _ hi (by omega)
      try dsimp only at ih ⊢
      rw [← hK, loopW_some, hK]
      by_cases c : n < 1
      · have ih' := ih 1
        simp -implicitDefEqProofs only [go_sem, Nat.reduceEqDiff, Nat.reduceAdd, Nat.reduceLeDiff, Nat.reduceLT, reduceCtorEq, ↓reduceIte, Nat.reduceBEq, Int.reduceLT, Int.reduceLE, Int.reduceNeg, Int.reduceEq, Int.toNat_natCast, cast_lit, Int.reduceToNat, s212_2, s212_1, hx, f1, f2, f3, In.pv, e212I, c, ih', Nat.succ_ne_zero, Int.lt_irrefl, ite_self]
      · have ih' := ih n
        simp -implicitDefEqProofs only [go_sem, Nat.reduceEqDiff, Nat.reduceAdd, Nat.reduceLeDiff, Nat.reduceLT, reduceCtorEq, ↓reduceIte, Nat.reduceBEq, Int.reduceLT, Int.reduceLE, Int.reduceNeg, Int.reduceEq, Int.toNat_natCast, cast_lit, Int.reduceToNat, s212_2, s212_1, hx, f1, f2, f3, In.pv, e212I, c, ih', Nat.succ_ne_zero, ite_self]
  rw [callW_eq, EnvS.h 212 F212 rfl]
  unfold Tr.pv
  have lp0 := lp 0
  have w : IntKind.i64.wrap (0 + 1) = 1 := by decide
  have w2 : IntKind.i64.wrap (1 + 1) = 2 := by decide
  by_cases h0 : t.is.length = 0
  · simp only [h0, if_true, Int.natCast_zero] at lp0
    simp -implicitDefEqProofs only [go_sem, Nat.reduceEqDiff, Nat.reduceAdd, Nat.reduceLeDiff, Nat.reduceLT, reduceCtorEq, ↓reduceIte, Nat.reduceBEq, Int.reduceLT, Int.reduceLE, Int.reduceNeg, Int.reduceEq, Int.toNat_natCast, cast_lit, Int.reduceToNat, F212, s212, s212_3, lp0, h0, w]
  · simp only [h0, if_false, Int.reduceLT, if_true] at lp0
    simp -implicitDefEqProofs only [go_sem, Nat.reduceEqDiff, Nat.reduceAdd, Nat.reduceLeDiff, Nat.reduceLT, reduceCtorEq, ↓reduceIte, Nat.reduceBEq, Int.reduceLT, Int.reduceLE, Int.reduceNeg, Int.reduceEq, Int.toNat_natCast, cast_lit, Int.reduceToNat, F212, s212, s212_3, lp0, h0, w2]
theorem e213I (th : Int) (ns : List PV) (h : ns.length ≤ 100) : callW E 213 [.p (.agg [.int .i64 th, .sl 1 ns, .sl 3 []])] [] = some ⟨.p (.int .i64 ns.length), [], []⟩ := by
  rw [callW_eq, EnvS.h 213 F213 rfl]
  have w : IntKind.i64.wrap ((ns.length : Int) + 0) = ns.length := by rw [wrap64 (by omega) (by omega)]; omega
  simp -implicitDefEqProofs only [go_sem, Nat.reduceEqDiff, Nat.reduceAdd, Nat.reduceLeDiff, Nat.reduceLT, reduceCtorEq, ↓reduceIte, Nat.reduceBEq, Int.reduceLT, Int.reduceLE, Int.reduceNeg, Int.reduceEq, Int.toNat_natCast, cast_lit, Int.reduceToNat, F213, s213, s213_3, s213_2, s213_1, loopW_some, w]
theorem e213 (t : Tr) (h : t.thin) : ∃ n : Int, n ≤ 200 ∧ callW E 213 [.p t.pv] [] = some ⟨.p (.int .i64 n), [], []⟩ := by
  have lp : ∀ n : {n : Int // 0 ≤ n ∧ n ≤ 16}, ∃ m : Int, m ≤ 200 ∧ loopW E 0 [3, 14, 15, 16] [] (.trim [3, 14, 15, 16] [2] [(0, [3])] [] s213_2) (some ⟨[(3, .p (.int .i64 n.1)), (14, .p (.sl 3 (t.is.map In.pv))), (15, .p (.int .i64 t.is.length)), (16, .p (.int .i64 0))], []⟩) = some (.ex 0, ⟨[(3, .p (.int .i64 m))], []⟩) := by
    generalize hK : loopW E 0 _ _ _ = K
    intro n
    refine ⟨t.is.foldl (fun n x => n + x.ns.length) n.1, ?_, ?_⟩
    · have key : ∀ (l : List In) (n : Int), (∀ x ∈ l, x.thin) → l.foldl (fun n x => n + (x.ns.length : Int)) n ≤ n + 12 * l.length := by
        intro l
        induction l with
        | nil => intro n _; simp
        | cons x r ih =>
          intro n hx
          have h1 := ih (n + x.ns.length) fun y hy => hx y (List.mem_cons_of_mem _ hy)
          have h2 := hx x List.mem_cons_self
          unfold In.thin at h2
          simp only [List.foldl_cons, List.length_cons]
          omega
      have := key t.is n.1 h.all
      have h4 := h.is
      have := n.2
      omega
    · refine range_loopI K t.is (fun i (n : Int) => ⟨[(3, .p (.int .i64 n)), (14, .p (.sl 3 (t.is.map In.pv))), (15, .p (.int .i64 t.is.length)), (16, .p (.int .i64 i))], []⟩) (fun n l => some (.ex 0, ⟨[(3, .p (.int .i64 (l.foldl (fun n x => n + (x.ns.length : Int)) n)))], []⟩)) (fun i n => 0 ≤ n ∧ n ≤ 16 + 12 * i) ?_ ?_ n.1 (by have := n.2; omega)
      · intro n _
        rw [← hK, loopW_some, hK]
        simp -implicitDefEqProofs only [go_sem, Nat.reduceEqDiff, Nat.reduceAdd, Nat.reduceLeDiff, Nat.reduceLT, reduceCtorEq, ↓reduceIte, Nat.reduceBEq, Int.reduceLT, Int.reduceLE, Int.reduceNeg, Int.reduceEq, Int.toNat_natCast, cast_lit, Int.reduceToNat, s213_2, s213_1, List.foldl_nil]
      · intro i n x r hx hn hI ih
        have h4 := h.is
        have hth : x.ns.length ≤ 12 := h.all x (List.mem_of_getElem? hx)
        obtain ⟨f1, f2, f3⟩ := rangeFacts i t.is.length (by omega) (by omega)
        have e := e213I (E := E) x.th (x.ns.map (.int .i64)) (by simp; omega)
        simp only [List.length_map] at e
        have w : IntKind.i64.wrap (n + (x.ns.length : Int)) = n + x.ns.length := wrap64 (by omega) (by omega)
        have ih' := ih (n + x.ns.length) (by omega)
        try dsimp only at ih' ⊢
        rw [← hK, loopW_some, hK]
        simp -implicitDefEqProofs only [go_sem, Nat.reduceEqDiff, Nat.reduceAdd, Nat.reduceLeDiff, Nat.reduceLT, reduceCtorEq, ↓reduceIte, Nat.reduceBEq, Int.reduceLT, Int.reduceLE, Int.reduceNeg, Int.reduceEq, Int.toNat_natCast, cast_lit, Int.reduceToNat, s213_2, s213_1, hx, f1, f2, f3, In.pv, e, w, ih', List.foldl_cons]
  have h1 := h.ns
  have h2 := h.is
  obtain ⟨m, hm, lp0⟩ := lp ⟨(t.ns.length : Int) + t.is.length, by omega⟩
  refine ⟨m, hm, ?_⟩
  rw [callW_eq, EnvS.h 213 F213 rfl]
  unfold Tr.pv
  have w : IntKind.i64.wrap ((t.ns.length : Int) + (t.is.length : Int)) = (t.ns.length : Int) + t.is.length := wrap64 (by omega) (by omega)
  simp -implicitDefEqProofs only [go_sem, Nat.reduceEqDiff, Nat.reduceAdd, Nat.reduceLeDiff, Nat.reduceLT, reduceCtorEq, ↓reduceIte, Nat.reduceBEq, Int.reduceLT, Int.reduceLE, Int.reduceNeg, Int.reduceEq, Int.toNat_natCast, cast_lit, Int.reduceToNat, F213, s213, s213_3, lp0, w]
/-! as before -/
theorem e216I (th : Int) (ns : List PV) : callW E 216 [.p (.agg [.int .i64 th, .sl 1 ns, .sl 3 []])] [] = some ⟨.p (.int .i64 1), [], []⟩ := by
  rw [callW_eq, EnvS.h 216 F216 rfl]
  have w : IntKind.i64.wrap (0 + 1) = 1 := by decide
  simp -implicitDefEqProofs only [go_sem, Nat.reduceEqDiff, Nat.reduceAdd, Nat.reduceLeDiff, Nat.reduceLT, reduceCtorEq, ↓reduceIte, Nat.reduceBEq, Int.reduceLT, Int.reduceLE, Int.reduceNeg, Int.reduceEq, Int.toNat_natCast, cast_lit, Int.reduceToNat, F216, s216, s216_3, s216_2, s216_1, loopW_some, w]
theorem e216 (t : Tr) (h : t.thin) : callW E 216 [.p t.pv] [] = some ⟨.p (.int .i64 (if t.is.length = 0 then 1 else 2)), [], []⟩ := by
  have lp : ∀ n : Int, loopW E 0 [3, 7, 8, 9] [] (.trim [3, 7, 8, 9] [2] [(0, [3])] [] s216_2) (some ⟨[(3, .p (.int .i64 n)), (7, .p (.sl 3 (t.is.map In.pv))), (8, .p (.int .i64 t.is.length)), (9, .p (.int .i64 0))], []⟩) = some (.ex 0, ⟨[(3, .p (.int .i64 (if t.is.length = 0 then n else if n < 1 then 1 else n)))], []⟩) := by
    generalize hK : loopW E 0 _ _ _ = K
    intro n
    refine range_loop K t.is (fun i (n : Int) => ⟨[(3, .p (.int .i64 n)), (7, .p (.sl 3 (t.is.map In.pv))), (8, .p (.int .i64 t.is.length)), (9, .p (.int .i64 i))], []⟩) (fun n l => some (.ex 0, ⟨[(3, .p (.int .i64 (if l.length = 0 then n else if n < 1 then 1 else n)))], []⟩)) ?_ ?_ n
    · intro n
      rw [← hK, loopW_some, hK]
      simp -implicitDefEqProofs only [go_sem, Nat.reduceEqDiff, Nat.reduceAdd, Nat.reduceLeDiff, Nat.reduceLT, reduceCtorEq, ↓reduceIte, Nat.reduceBEq, Int.reduceLT, Int.reduceLE, Int.reduceNeg, Int.reduceEq, Int.toNat_natCast, cast_lit, Int.reduceToNat, s216_2, s216_1]
    · intro i n x r hx hi ih
      have := h.is
      obtain ⟨f1, f2, f3⟩ := rangeFacts i _ hi (by omega)
      try dsimp only at ih ⊢
      rw [← hK, loopW_some, hK]
      by_cases c : n < 1
      · have ih' := ih 1
        simp -implicitDefEqProofs only [go_sem, Nat.reduceEqDiff, Nat.reduceAdd, Nat.reduceLeDiff, Nat.reduceLT, reduceCtorEq, ↓reduceIte, Nat.reduceBEq, Int.reduceLT, Int.reduceLE, Int.reduceNeg, Int.reduceEq, Int.toNat_natCast, cast_lit, Int.reduceToNat, s216_2, s216_1, hx, f1, f2, f3, In.pv, e216I, c, ih', Nat.succ_ne_zero, Int.lt_irrefl, ite_self]
      · have ih' := ih n
        simp -implicitDefEqProofs only [go_sem, Nat.reduceEqDiff, Nat.reduceAdd, Nat.reduceLeDiff, Nat.reduceLT, reduceCtorEq, ↓reduceIte, Nat.reduceBEq, Int.reduceLT, Int.reduceLE, Int.reduceNeg, Int.reduceEq, Int.toNat_natCast, cast_lit, Int.reduceToNat, s216_2, s216_1, hx, f1, f2, f3, In.pv, e216I, c, ih', Nat.succ_ne_zero, ite_self]
  rw [callW_eq, EnvS.h 216 F216 rfl]
  unfold Tr.pv
  have lp0 := lp 0
  have w : IntKind.i64.wrap (0 + 1) = 1 := by decide
  have w2 : IntKind.i64.wrap (1 + 1) = 2 := by decide
  by_cases h0 : t.is.length = 0
  · simp only [h0, if_true, Int.natCast_zero] at lp0
    simp -implicitDefEqProofs only [go_sem, Nat.reduceEqDiff, Nat.reduceAdd, Nat.reduceLeDiff, Nat.reduceLT, reduceCtorEq, ↓reduceIte, Nat.reduceBEq, Int.reduceLT, Int.reduceLE, Int.reduceNeg, Int.reduceEq, Int.toNat_natCast, cast_lit, Int.reduceToNat, F216, s216, s216_3, lp0, h0, w]
  · simp only [h0, if_false, Int.reduceLT, if_true] at lp0
    simp -implicitDefEqProofs only [go_sem, Nat.reduceEqDiff, Nat.reduceAdd, Nat.reduceLeDiff, Nat.reduceLT, reduceCtorEq, ↓reduceIte, Nat.reduceBEq, Int.reduceLT, Int.reduceLE, Int.reduceNeg, Int.reduceEq, Int.toNat_natCast, cast_lit, Int.reduceToNat, F216, s216, s216_3, lp0, h0, w2]
theorem e217I (th : Int) (ns : List PV) (h : ns.length ≤ 100) : callW E 217 [.p (.agg [.int .i64 th, .sl 1 ns, .sl 3 []])] [] = some ⟨.p (.int .i64 ns.length), [], []⟩ := by
  rw [callW_eq, EnvS.h 217 F217 rfl]
  have w : IntKind.i64.wrap ((ns.length : Int) + 0) = ns.length := by rw [wrap64 (by omega) (by omega)]; omega
  simp -implicitDefEqProofs only [go_sem, Nat.reduceEqDiff, Nat.reduceAdd, Nat.reduceLeDiff, Nat.reduceLT, reduceCtorEq, ↓reduceIte, Nat.reduceBEq, Int.reduceLT, Int.reduceLE, Int.reduceNeg, Int.reduceEq, Int.toNat_natCast, cast_lit, Int.reduceToNat, F217, s217, s217_3, s217_2, s217_1, loopW_some, w]
theorem e217 (t : Tr) (h : t.thin) : ∃ n : Int, n ≤ 200 ∧ callW E 217 [.p t.pv] [] = some ⟨.p (.int .i64 n), [], []⟩ := by
  have lp : ∀ n : {n : Int // 0 ≤ n ∧ n ≤ 16}, ∃ m : Int, m ≤ 200 ∧ loopW E 0 [3, 14, 15, 16] [] (.trim [3, 14, 15, 16] [2] [(0, [3])] [] s217_2) (some ⟨[(3, .p (.int .i64 n.1)), (14, .p (.sl 3 (t.is.map In.pv))), (15, .p (.int .i64 t.is.length)), (16, .p (.int .i64 0))], []⟩) = some (.ex 0, ⟨[(3, .p (.int .i64 m))], []⟩) := by
    generalize hK : loopW E 0 _ _ _ = K
    intro n
    refine ⟨t.is.foldl (fun n x => n + x.ns.length) n.1, ?_, ?_⟩
    · have key : ∀ (l : List In) (n : Int), (∀ x ∈ l, x.thin) → l.foldl (fun n x => n + (x.ns.length : Int)) n ≤ n + 12 * l.length := by
        intro l
        induction l with
        | nil => intro n _; simp
        | cons x r ih =>
          intro n hx
          have h1 := ih (n + x.ns.length) fun y hy => hx y (List.mem_cons_of_mem _ hy)
          have h2 := hx x List.mem_cons_self
          unfold In.thin at h2
          simp only [List.foldl_cons, List.length_cons]
          omega
      have := key t.is n.1 h.all
      have h4 := h.is
      have := n.2
      omega
    · refine range_loopI K t.is (fun i (n : Int) => ⟨[(3, .p (.int .i64 n)), (14, .p (.sl 3 (t.is.map In.pv))), (15, .p (.int .i64 t.is.length)), (16, .p (.int .i64 i))], []⟩) (fun n l => some (.ex 0, ⟨[(3, .p (.int .i64 (l.foldl (fun n x => n + (x.ns.length : Int)) n)))], []⟩)) (fun i n => 0 ≤ n ∧ n ≤ 16 + 12 * i) ?_ ?_ n.1 (by have := n.2; omega)
      · intro n _
        rw [← hK, loopW_some, hK]
        simp -implicitDefEqProofs only [go_sem, Nat.reduceEqDiff, Nat.reduceAdd, Nat.reduceLeDiff, Nat.reduceLT, reduceCtorEq, ↓reduceIte, Nat.reduceBEq, Int.reduceLT, Int.reduceLE, Int.reduceNeg, Int.reduceEq, Int.toNat_natCast, cast_lit, Int.reduceToNat, s217_2, s217_1, List.foldl_nil]
      · intro i n x r hx hn hI ih
        have h4 := h.is
        have hth : x.ns.length ≤ 12 := h.all x (List.mem_of_getElem? hx)
        obtain ⟨f1, f2, f3⟩ := rangeFacts i t.is.length (by omega) (by omega)
        have e := e217I (E := E) x.th (x.ns.map (.int .i64)) (by simp; omega)
        simp only [List.length_map] at e
        have w : IntKind.i64.wrap (n + (x.ns.length : Int)) = n + x.ns.length := wrap64 (by omega) (by omega)
        have ih' := ih (n + x.ns.length) (by omega)
        try dsimp only at ih' ⊢
        rw [← hK, loopW_some, hK]
        simp -implicitDefEqProofs only [go_sem, Nat.reduceEqDiff, Nat.reduceAdd, Nat.reduceLeDiff, Nat.reduceLT, reduceCtorEq, ↓reduceIte, Nat.reduceBEq, Int.reduceLT, Int.reduceLE, Int.reduceNeg, Int.reduceEq, Int.toNat_natCast, cast_lit, Int.reduceToNat, s217_2, s217_1, hx, f1, f2, f3, In.pv, e, w, ih', List.foldl_cons]
  have h1 := h.ns
  have h2 := h.is
  obtain ⟨m, hm, lp0⟩ := lp ⟨(t.ns.length : Int) + t.is.length, by omega⟩
  refine ⟨m, hm, ?_⟩
  rw [callW_eq, EnvS.h 217 F217 rfl]
  unfold Tr.pv
  have w : IntKind.i64.wrap ((t.ns.length : Int) + (t.is.length : Int)) = (t.ns.length : Int) + t.is.length := wrap64 (by omega) (by omega)
  simp -implicitDefEqProofs only [go_sem, Nat.reduceEqDiff, Nat.reduceAdd, Nat.reduceLeDiff, Nat.reduceLT, reduceCtorEq, ↓reduceIte, Nat.reduceBEq, Int.reduceLT, Int.reduceLE, Int.reduceNeg, Int.reduceEq, Int.toNat_natCast, cast_lit, Int.reduceToNat, F217, s217, s217_3, lp0, w]
end Go.Ab.S
