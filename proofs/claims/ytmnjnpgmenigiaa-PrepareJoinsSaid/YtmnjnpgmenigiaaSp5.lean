/- A part of the proof: an executor over plain data, shown sound for the model, and what it computes of the functions. -/
import Derived.Test.YtmnjnpgmenigiaaSp4
set_option linter.all false
set_option linter.unusedSimpArgs false
set_option linter.unusedVariables false
set_option linter.unusedSectionVars false
namespace Go.Ab.S
open Go Go.Ab
variable {E : Env} [EnvS E]

/-- The first error of a trust (214, 218). -/
def errI (t : In) : Int := if t.th < 1 ∨ (t.ns.length : Int) < t.th then 4 else if t.ns.any badN = true then 5 else (ofL 0 t.ns).2
def errIs : List In → Int
  | [] => 0
  | x :: r => if errI x = 0 then errIs r else errI x
def errT (t : Tr) : Int := if t.th < 1 ∨ (t.ns.length : Int) + t.is.length < t.th then 4 else if t.ns.any badN = true then 5 else if (ofL 0 t.ns).2 = 0 then errIs t.is else (ofL 0 t.ns).2

theorem e214I (t : In) (h : t.thin) : callW E 214 [.p (.agg [.int .i64 t.th, .sl 1 (t.ns.map (.int .i64)), .sl 3 []])] [] = some ⟨.p (.int .i64 (errI t)), [], []⟩ := by
  rw [callW_eq, EnvS.h 214 F214 rfl]
  unfold In.thin at h
  have e1 := e239 (E := E) t.ns (by omega)
  have e2 := e242 (E := E) t.ns (by omega)
  have w : IntKind.i64.wrap ((t.ns.length : Int) + 0) = t.ns.length := by rw [wrap64 (by omega) (by omega)]; omega
  unfold errI
  by_cases c1 : t.th < 1
  · simp -implicitDefEqProofs only [go_sem, Nat.reduceEqDiff, Nat.reduceAdd, Nat.reduceLeDiff, Nat.reduceLT, reduceCtorEq, ↓reduceIte, Nat.reduceBEq, Int.reduceLT, Int.reduceLE, Int.reduceNeg, Int.reduceEq, Int.toNat_natCast, cast_lit, Int.reduceToNat, F214, s214, s214_1, s214_2, s214_3, s214_7, c1]
  · by_cases c2 : (t.ns.length : Int) < t.th
    · simp -implicitDefEqProofs only [go_sem, Nat.reduceEqDiff, Nat.reduceAdd, Nat.reduceLeDiff, Nat.reduceLT, reduceCtorEq, ↓reduceIte, Nat.reduceBEq, Int.reduceLT, Int.reduceLE, Int.reduceNeg, Int.reduceEq, Int.toNat_natCast, cast_lit, Int.reduceToNat, F214, s214, s214_1, s214_2, s214_3, s214_7, c1, w, c2]
    · cases c3 : t.ns.any badN with
      | true => simp -implicitDefEqProofs only [go_sem, Nat.reduceEqDiff, Nat.reduceAdd, Nat.reduceLeDiff, Nat.reduceLT, reduceCtorEq, ↓reduceIte, Nat.reduceBEq, Int.reduceLT, Int.reduceLE, Int.reduceNeg, Int.reduceEq, Int.toNat_natCast, cast_lit, Int.reduceToNat, F214, s214, s214_1, s214_2, s214_3, s214_7, c1, w, c2, e1, c3]
      | false =>
        by_cases c4 : (ofL 0 t.ns).2 = 0
        · simp -implicitDefEqProofs only [go_sem, Nat.reduceEqDiff, Nat.reduceAdd, Nat.reduceLeDiff, Nat.reduceLT, reduceCtorEq, ↓reduceIte, Nat.reduceBEq, Int.reduceLT, Int.reduceLE, Int.reduceNeg, Int.reduceEq, Int.toNat_natCast, cast_lit, Int.reduceToNat, F214, s214, s214_1, s214_2, s214_3, s214_7, s214_6, s214_5, s214_4, loopW_some, c1, w, c2, e1, c3, e2, c4]
        · simp -implicitDefEqProofs only [go_sem, Nat.reduceEqDiff, Nat.reduceAdd, Nat.reduceLeDiff, Nat.reduceLT, reduceCtorEq, ↓reduceIte, Nat.reduceBEq, Int.reduceLT, Int.reduceLE, Int.reduceNeg, Int.reduceEq, Int.toNat_natCast, cast_lit, Int.reduceToNat, F214, s214, s214_1, s214_2, s214_3, s214_7, s214_6, s214_5, s214_4, loopW_some, c1, w, c2, e1, c3, e2, c4]
def errR (e : Int) : Option (Ex × St) := if e = 0 then some (.ex 0, ⟨[], []⟩) else some (.ret, ⟨[(2, .p (.int .i64 e))], []⟩)
theorem loop214 (t : Tr) (h : t.thin) : loopW E 0 [36, 37, 38] [] (.trim [36, 37, 38] [2] [(0, [])] [] s214_6) (some ⟨[(36, .p (.sl 3 (t.is.map In.pv))), (37, .p (.int .i64 t.is.length)), (38, .p (.int .i64 0))], []⟩) = errR (errIs t.is) := by
  generalize hK : loopW E 0 _ _ _ = K
  refine range_loopI K t.is (fun i (_ : Unit) => ⟨[(36, .p (.sl 3 (t.is.map In.pv))), (37, .p (.int .i64 t.is.length)), (38, .p (.int .i64 i))], []⟩) (fun _ l => errR (errIs l)) (fun _ _ => True) ?_ ?_ () trivial
  · intro _ _
    rw [← hK, loopW_some, hK]
    simp -implicitDefEqProofs only [go_sem, Nat.reduceEqDiff, Nat.reduceAdd, Nat.reduceLeDiff, Nat.reduceLT, reduceCtorEq, ↓reduceIte, Nat.reduceBEq, Int.reduceLT, Int.reduceLE, Int.reduceNeg, Int.reduceEq, Int.toNat_natCast, cast_lit, Int.reduceToNat, s214_6, s214_5, s214_4]
    rfl
  · intro i _ x r hx hn _ ih
    have h4 := h.is
    obtain ⟨f1, f2, f3⟩ := rangeFacts i t.is.length (by omega) (by omega)
    have ih' := ih () trivial
    have e := e214I (E := E) x (h.all x (List.mem_of_getElem? hx))
    try dsimp only at ih' ⊢
    rw [← hK, loopW_some, hK]
    by_cases c : errI x = 0
    · simp -implicitDefEqProofs only [go_sem, Nat.reduceEqDiff, Nat.reduceAdd, Nat.reduceLeDiff, Nat.reduceLT, reduceCtorEq, ↓reduceIte, Nat.reduceBEq, Int.reduceLT, Int.reduceLE, Int.reduceNeg, Int.reduceEq, Int.toNat_natCast, cast_lit, Int.reduceToNat, s214_6, s214_5, s214_4, hx, f1, f2, f3, In.pv, e, c, ih', errIs]
    · simp -implicitDefEqProofs only [go_sem, Nat.reduceEqDiff, Nat.reduceAdd, Nat.reduceLeDiff, Nat.reduceLT, reduceCtorEq, ↓reduceIte, Nat.reduceBEq, Int.reduceLT, Int.reduceLE, Int.reduceNeg, Int.reduceEq, Int.toNat_natCast, cast_lit, Int.reduceToNat, s214_6, s214_5, s214_4, hx, f1, f2, f3, In.pv, e, c, errIs, errR]
theorem e214 (t : Tr) (h : t.thin) : callW E 214 [.p t.pv] [] = some ⟨.p (.int .i64 (errT t)), [], []⟩ := by
  rw [callW_eq, EnvS.h 214 F214 rfl]
  have h1 := h.ns
  have h2 := h.is
  have e1 := e239 (E := E) t.ns (by omega)
  have e2 := e242 (E := E) t.ns (by omega)
  have w : IntKind.i64.wrap ((t.ns.length : Int) + (t.is.length : Int)) = (t.ns.length : Int) + t.is.length := wrap64 (by omega) (by omega)
  have lp := loop214 (E := E) t h
  unfold errT
  by_cases c1 : t.th < 1
  · simp -implicitDefEqProofs only [go_sem, Nat.reduceEqDiff, Nat.reduceAdd, Nat.reduceLeDiff, Nat.reduceLT, reduceCtorEq, ↓reduceIte, Nat.reduceBEq, Int.reduceLT, Int.reduceLE, Int.reduceNeg, Int.reduceEq, Int.toNat_natCast, cast_lit, Int.reduceToNat, F214, s214, s214_1, s214_2, s214_3, s214_7, Tr.pv, c1]
  · by_cases c2 : (t.ns.length : Int) + (t.is.length : Int) < t.th
    · simp -implicitDefEqProofs only [go_sem, Nat.reduceEqDiff, Nat.reduceAdd, Nat.reduceLeDiff, Nat.reduceLT, reduceCtorEq, ↓reduceIte, Nat.reduceBEq, Int.reduceLT, Int.reduceLE, Int.reduceNeg, Int.reduceEq, Int.toNat_natCast, cast_lit, Int.reduceToNat, F214, s214, s214_1, s214_2, s214_3, s214_7, Tr.pv, c1, w, c2]
    · cases c3 : t.ns.any badN with
      | true => simp -implicitDefEqProofs only [go_sem, Nat.reduceEqDiff, Nat.reduceAdd, Nat.reduceLeDiff, Nat.reduceLT, reduceCtorEq, ↓reduceIte, Nat.reduceBEq, Int.reduceLT, Int.reduceLE, Int.reduceNeg, Int.reduceEq, Int.toNat_natCast, cast_lit, Int.reduceToNat, F214, s214, s214_1, s214_2, s214_3, s214_7, Tr.pv, c1, w, c2, e1, c3]
      | false =>
        by_cases c4 : (ofL 0 t.ns).2 = 0
        · by_cases c5 : errIs t.is = 0
          · simp only [errR, c5, if_true] at lp
            simp -implicitDefEqProofs only [go_sem, Nat.reduceEqDiff, Nat.reduceAdd, Nat.reduceLeDiff, Nat.reduceLT, reduceCtorEq, ↓reduceIte, Nat.reduceBEq, Int.reduceLT, Int.reduceLE, Int.reduceNeg, Int.reduceEq, Int.toNat_natCast, cast_lit, Int.reduceToNat, F214, s214, s214_1, s214_2, s214_3, s214_7, Tr.pv, lp, c1, w, c2, e1, c3, e2, c4, c5]
          · simp only [errR, c5, if_false] at lp
            simp -implicitDefEqProofs only [go_sem, Nat.reduceEqDiff, Nat.reduceAdd, Nat.reduceLeDiff, Nat.reduceLT, reduceCtorEq, ↓reduceIte, Nat.reduceBEq, Int.reduceLT, Int.reduceLE, Int.reduceNeg, Int.reduceEq, Int.toNat_natCast, cast_lit, Int.reduceToNat, F214, s214, s214_1, s214_2, s214_3, s214_7, Tr.pv, lp, c1, w, c2, e1, c3, e2, c4, c5]
        · simp -implicitDefEqProofs only [go_sem, Nat.reduceEqDiff, Nat.reduceAdd, Nat.reduceLeDiff, Nat.reduceLT, reduceCtorEq, ↓reduceIte, Nat.reduceBEq, Int.reduceLT, Int.reduceLE, Int.reduceNeg, Int.reduceEq, Int.toNat_natCast, cast_lit, Int.reduceToNat, F214, s214, s214_1, s214_2, s214_3, s214_7, Tr.pv, c1, w, c2, e1, c3, e2, c4]
/-! ### The reference's -/
def badR (b : Bool) (st : List AV) : Option (Ex × St) := if b = true then some (.ret, ⟨[(2, .p (.int .i64 5))], []⟩) else some (.ex 0, ⟨[(1, .ptr (.loc 0 0 0) 0)], [(.loc 0 0 0, some (.box st))]⟩)
theorem loop218a (es : List Int) (hl : es.length < 4611686018427387904) (st : List AV) (hst : namesL st = []) :
    loopW E 0 [1, 26, 27, 28] [.loc 0 0 0] (.trim [1, 26, 27, 28] [2] [(0, [1])] [.loc 0 0 0] s218_4) (some ⟨[(1, .ptr (.loc 0 0 0) 0), (26, .p (.sl 1 (es.map (.int .i64)))), (27, .p (.int .i64 es.length)), (28, .p (.int .i64 0))], [(.loc 0 0 0, some (.box st))]⟩) =
     if es.any badN = true then some (.ret, ⟨[(2, .p (.int .i64 5))], [(.loc 0 0 0, some (.box st))]⟩) else some (.ex 0, ⟨[(1, .ptr (.loc 0 0 0) 0)], [(.loc 0 0 0, some (.box st))]⟩) := by
  generalize hK : loopW E 0 _ _ _ = K
  refine range_loopI K es (fun i (_ : Unit) => ⟨[(1, .ptr (.loc 0 0 0) 0), (26, .p (.sl 1 (es.map (.int .i64)))), (27, .p (.int .i64 es.length)), (28, .p (.int .i64 i))], [(.loc 0 0 0, some (.box st))]⟩) (fun _ l => if l.any badN = true then some (.ret, ⟨[(2, .p (.int .i64 5))], [(.loc 0 0 0, some (.box st))]⟩) else some (.ex 0, ⟨[(1, .ptr (.loc 0 0 0) 0)], [(.loc 0 0 0, some (.box st))]⟩)) (fun _ _ => True) ?_ ?_ () trivial
  · intro _ _
    rw [← hK, loopW_some, hK]
    simp -implicitDefEqProofs only [go_sem, Nat.reduceEqDiff, Nat.reduceAdd, Nat.reduceLeDiff, Nat.reduceLT, reduceCtorEq, ↓reduceIte, Nat.reduceBEq, Int.reduceLT, Int.reduceLE, Int.reduceNeg, Int.reduceEq, Int.toNat_natCast, cast_lit, Int.reduceToNat, s218_4, s218_3, s218_2, hst, List.any_nil]
  · intro i _ x r hx hn _ ih
    obtain ⟨f1, f2, f3⟩ := rangeFacts i es.length (by omega) hl
    have ih' := ih () trivial
    try dsimp only at ih' ⊢
    rw [← hK, loopW_some, hK]
    by_cases c1 : x < 0
    · have c2 : badN x = true := by unfold badN; simp; omega
      simp -implicitDefEqProofs only [go_sem, Nat.reduceEqDiff, Nat.reduceAdd, Nat.reduceLeDiff, Nat.reduceLT, reduceCtorEq, ↓reduceIte, Nat.reduceBEq, Int.reduceLT, Int.reduceLE, Int.reduceNeg, Int.reduceEq, Int.toNat_natCast, cast_lit, Int.reduceToNat, s218_4, s218_3, s218_2, hx, f1, f2, f3, hst, c1, c2, List.any_cons]
    · by_cases c2 : 10 ≤ x
      · have c3 : badN x = true := by unfold badN; simp; omega
        simp -implicitDefEqProofs only [go_sem, Nat.reduceEqDiff, Nat.reduceAdd, Nat.reduceLeDiff, Nat.reduceLT, reduceCtorEq, ↓reduceIte, Nat.reduceBEq, Int.reduceLT, Int.reduceLE, Int.reduceNeg, Int.reduceEq, Int.toNat_natCast, cast_lit, Int.reduceToNat, s218_4, s218_3, s218_2, hx, f1, f2, f3, hst, c1, c2, c3, List.any_cons]
      · have c3 : badN x = false := by unfold badN; simp; omega
        simp -implicitDefEqProofs only [go_sem, Nat.reduceEqDiff, Nat.reduceAdd, Nat.reduceLeDiff, Nat.reduceLT, reduceCtorEq, ↓reduceIte, Nat.reduceBEq, Int.reduceLT, Int.reduceLE, Int.reduceNeg, Int.reduceEq, Int.toNat_natCast, cast_lit, Int.reduceToNat, s218_4, s218_3, s218_2, hx, f1, f2, f3, hst, c1, c2, c3, ih', List.any_cons]
theorem e218I (t : In) (h : t.thin) : callW E 218 [.p (.agg [.int .i64 t.th, .sl 1 (t.ns.map (.int .i64)), .sl 3 []])] [] = some ⟨.p (.int .i64 (errI t)), [], []⟩ := by
  rw [callW_eq, EnvS.h 218 F218 rfl]
  unfold In.thin at h
  have e1 := loop218a (E := E) t.ns (by omega) [.p (.int .i64 t.th), .p (.sl 1 (t.ns.map (.int .i64))), .p (.sl 3 [])] rfl
  have e2 := e243 (E := E) t.ns (by omega)
  have w : IntKind.i64.wrap ((t.ns.length : Int) + 0) = t.ns.length := by rw [wrap64 (by omega) (by omega)]; omega
  unfold errI
  by_cases c1 : t.th < 1
  · simp -implicitDefEqProofs only [go_sem, Nat.reduceEqDiff, Nat.reduceAdd, Nat.reduceLeDiff, Nat.reduceLT, reduceCtorEq, ↓reduceIte, Nat.reduceBEq, Int.reduceLT, Int.reduceLE, Int.reduceNeg, Int.reduceEq, Int.toNat_natCast, cast_lit, Int.reduceToNat, F218, s218, s218_1, s218_5, s218_6, s218_10, c1]
  · by_cases c2 : (t.ns.length : Int) < t.th
    · simp -implicitDefEqProofs only [go_sem, Nat.reduceEqDiff, Nat.reduceAdd, Nat.reduceLeDiff, Nat.reduceLT, reduceCtorEq, ↓reduceIte, Nat.reduceBEq, Int.reduceLT, Int.reduceLE, Int.reduceNeg, Int.reduceEq, Int.toNat_natCast, cast_lit, Int.reduceToNat, F218, s218, s218_1, s218_5, s218_6, s218_10, c1, w, c2]
    · cases c3 : t.ns.any badN with
      | true =>
        simp only [c3, if_true] at e1
        simp -implicitDefEqProofs only [go_sem, Nat.reduceEqDiff, Nat.reduceAdd, Nat.reduceLeDiff, Nat.reduceLT, reduceCtorEq, ↓reduceIte, Nat.reduceBEq, Int.reduceLT, Int.reduceLE, Int.reduceNeg, Int.reduceEq, Int.toNat_natCast, cast_lit, Int.reduceToNat, F218, s218, s218_1, s218_5, s218_6, s218_10, c1, w, c2, e1]
      | false =>
        simp only [c3, Bool.false_eq_true, if_false] at e1
        by_cases c4 : (ofL 0 t.ns).2 = 0
        · simp -implicitDefEqProofs only [go_sem, Nat.reduceEqDiff, Nat.reduceAdd, Nat.reduceLeDiff, Nat.reduceLT, reduceCtorEq, ↓reduceIte, Nat.reduceBEq, Int.reduceLT, Int.reduceLE, Int.reduceNeg, Int.reduceEq, Int.toNat_natCast, cast_lit, Int.reduceToNat, F218, s218, s218_1, s218_5, s218_6, s218_10, s218_9, s218_8, s218_7, loopW_some, c1, w, c2, e1, e2, c4]
        · simp -implicitDefEqProofs only [go_sem, Nat.reduceEqDiff, Nat.reduceAdd, Nat.reduceLeDiff, Nat.reduceLT, reduceCtorEq, ↓reduceIte, Nat.reduceBEq, Int.reduceLT, Int.reduceLE, Int.reduceNeg, Int.reduceEq, Int.toNat_natCast, cast_lit, Int.reduceToNat, F218, s218, s218_1, s218_5, s218_6, s218_10, c1, w, c2, e1, e2, c4]
theorem loop218b (t : Tr) (h : t.thin) : loopW E 0 [49, 50, 51] [] (.trim [49, 50, 51] [2] [(2, [])] [] s218_9) (some ⟨[(49, .p (.sl 3 (t.is.map In.pv))), (50, .p (.int .i64 t.is.length)), (51, .p (.int .i64 0))], []⟩) = if errIs t.is = 0 then some (.ex 2, ⟨[], []⟩) else some (.ret, ⟨[(2, .p (.int .i64 (errIs t.is)))], []⟩) := by
  generalize hK : loopW E 0 _ _ _ = K
  refine range_loopI K t.is (fun i (_ : Unit) => ⟨[(49, .p (.sl 3 (t.is.map In.pv))), (50, .p (.int .i64 t.is.length)), (51, .p (.int .i64 i))], []⟩) (fun _ l => if errIs l = 0 then some (.ex 2, ⟨[], []⟩) else some (.ret, ⟨[(2, .p (.int .i64 (errIs l)))], []⟩)) (fun _ _ => True) ?_ ?_ () trivial
  · intro _ _
    rw [← hK, loopW_some, hK]
    simp -implicitDefEqProofs only [go_sem, Nat.reduceEqDiff, Nat.reduceAdd, Nat.reduceLeDiff, Nat.reduceLT, reduceCtorEq, ↓reduceIte, Nat.reduceBEq, Int.reduceLT, Int.reduceLE, Int.reduceNeg, Int.reduceEq, Int.toNat_natCast, cast_lit, Int.reduceToNat, s218_9, s218_8, s218_7, errIs]
  · intro i _ x r hx hn _ ih
    have h4 := h.is
    obtain ⟨f1, f2, f3⟩ := rangeFacts i t.is.length (by omega) (by omega)
    have ih' := ih () trivial
    have e := e218I (E := E) x (h.all x (List.mem_of_getElem? hx))
    try dsimp only at ih' ⊢
    rw [← hK, loopW_some, hK]
    by_cases c : errI x = 0
    · simp -implicitDefEqProofs only [go_sem, Nat.reduceEqDiff, Nat.reduceAdd, Nat.reduceLeDiff, Nat.reduceLT, reduceCtorEq, ↓reduceIte, Nat.reduceBEq, Int.reduceLT, Int.reduceLE, Int.reduceNeg, Int.reduceEq, Int.toNat_natCast, cast_lit, Int.reduceToNat, s218_9, s218_8, s218_7, hx, f1, f2, f3, In.pv, e, c, ih', errIs]
    · simp -implicitDefEqProofs only [go_sem, Nat.reduceEqDiff, Nat.reduceAdd, Nat.reduceLeDiff, Nat.reduceLT, reduceCtorEq, ↓reduceIte, Nat.reduceBEq, Int.reduceLT, Int.reduceLE, Int.reduceNeg, Int.reduceEq, Int.toNat_natCast, cast_lit, Int.reduceToNat, s218_9, s218_8, s218_7, hx, f1, f2, f3, In.pv, e, c, errIs]
theorem e218 (t : Tr) (h : t.thin) : callW E 218 [.p t.pv] [] = some ⟨.p (.int .i64 (errT t)), [], []⟩ := by
  rw [callW_eq, EnvS.h 218 F218 rfl]
  have h1 := h.ns
  have h2 := h.is
  have e1 := loop218a (E := E) t.ns (by omega) [.p (.int .i64 t.th), .p (.sl 1 (t.ns.map (.int .i64))), .p (.sl 3 (t.is.map In.pv))] rfl
  have e2 := e243 (E := E) t.ns (by omega)
  have w : IntKind.i64.wrap ((t.ns.length : Int) + (t.is.length : Int)) = (t.ns.length : Int) + t.is.length := wrap64 (by omega) (by omega)
  have lp := loop218b (E := E) t h
  unfold errT
  by_cases c1 : t.th < 1
  · simp -implicitDefEqProofs only [go_sem, Nat.reduceEqDiff, Nat.reduceAdd, Nat.reduceLeDiff, Nat.reduceLT, reduceCtorEq, ↓reduceIte, Nat.reduceBEq, Int.reduceLT, Int.reduceLE, Int.reduceNeg, Int.reduceEq, Int.toNat_natCast, cast_lit, Int.reduceToNat, F218, s218, s218_1, s218_5, s218_6, s218_10, Tr.pv, c1]
  · by_cases c2 : (t.ns.length : Int) + (t.is.length : Int) < t.th
    · simp -implicitDefEqProofs only [go_sem, Nat.reduceEqDiff, Nat.reduceAdd, Nat.reduceLeDiff, Nat.reduceLT, reduceCtorEq, ↓reduceIte, Nat.reduceBEq, Int.reduceLT, Int.reduceLE, Int.reduceNeg, Int.reduceEq, Int.toNat_natCast, cast_lit, Int.reduceToNat, F218, s218, s218_1, s218_5, s218_6, s218_10, Tr.pv, c1, w, c2]
    · cases c3 : t.ns.any badN with
      | true =>
        simp only [c3, if_true] at e1
        simp -implicitDefEqProofs only [go_sem, Nat.reduceEqDiff, Nat.reduceAdd, Nat.reduceLeDiff, Nat.reduceLT, reduceCtorEq, ↓reduceIte, Nat.reduceBEq, Int.reduceLT, Int.reduceLE, Int.reduceNeg, Int.reduceEq, Int.toNat_natCast, cast_lit, Int.reduceToNat, F218, s218, s218_1, s218_5, s218_6, s218_10, Tr.pv, c1, w, c2, e1]
      | false =>
        simp only [c3, Bool.false_eq_true, if_false] at e1
        by_cases c4 : (ofL 0 t.ns).2 = 0
        · by_cases c5 : errIs t.is = 0
          · simp only [c5, if_true] at lp
            simp -implicitDefEqProofs only [go_sem, Nat.reduceEqDiff, Nat.reduceAdd, Nat.reduceLeDiff, Nat.reduceLT, reduceCtorEq, ↓reduceIte, Nat.reduceBEq, Int.reduceLT, Int.reduceLE, Int.reduceNeg, Int.reduceEq, Int.toNat_natCast, cast_lit, Int.reduceToNat, F218, s218, s218_1, s218_5, s218_6, s218_10, Tr.pv, lp, c1, w, c2, e1, e2, c4, c5]
          · simp only [c5, if_false] at lp
            simp -implicitDefEqProofs only [go_sem, Nat.reduceEqDiff, Nat.reduceAdd, Nat.reduceLeDiff, Nat.reduceLT, reduceCtorEq, ↓reduceIte, Nat.reduceBEq, Int.reduceLT, Int.reduceLE, Int.reduceNeg, Int.reduceEq, Int.toNat_natCast, cast_lit, Int.reduceToNat, F218, s218, s218_1, s218_5, s218_6, s218_10, Tr.pv, lp, c1, w, c2, e1, e2, c4, c5]
        · simp -implicitDefEqProofs only [go_sem, Nat.reduceEqDiff, Nat.reduceAdd, Nat.reduceLeDiff, Nat.reduceLT, reduceCtorEq, ↓reduceIte, Nat.reduceBEq, Int.reduceLT, Int.reduceLE, Int.reduceNeg, Int.reduceEq, Int.toNat_natCast, cast_lit, Int.reduceToNat, F218, s218, s218_1, s218_5, s218_6, s218_10, Tr.pv, c1, w, c2, e1, e2, c4]
theorem e156 (t : Tr) (h : t.thin) : callW E 156 [.p t.pv] [] = some ⟨.p (.int .i64 (errT t)), [], []⟩ := by
  rw [callW_eq, EnvS.h 156 F156 rfl]
  have e1 := e212 (E := E) t h
  obtain ⟨n, hn, e2⟩ := e213 (E := E) t h
  have e3 := e214 (E := E) t h
  have c1 : ¬ (4 : Int) < (if t.is.length = 0 then 1 else 2) := by split <;> omega
  have c2 : ¬ (200 : Int) < n := by omega
  unfold Tr.pv at e1 e2 e3 ⊢
  simp -implicitDefEqProofs only [go_sem, Nat.reduceEqDiff, Nat.reduceAdd, Nat.reduceLeDiff, Nat.reduceLT, reduceCtorEq, ↓reduceIte, Nat.reduceBEq, Int.reduceLT, Int.reduceLE, Int.reduceNeg, Int.reduceEq, Int.toNat_natCast, cast_lit, Int.reduceToNat, F156, s156, s156_1, e1, e2, e3, c1, c2]
/-! as before -/
theorem e160 (t : Tr) (h : t.thin) : callW E 160 [.p t.pv] [] = some ⟨.p (.int .i64 (errT t)), [], []⟩ := by
  rw [callW_eq, EnvS.h 160 F160 rfl]
  have e1 := e216 (E := E) t h
  obtain ⟨n, hn, e2⟩ := e217 (E := E) t h
  have e3 := e218 (E := E) t h
  have c1 : ¬ (4 : Int) < (if t.is.length = 0 then 1 else 2) := by split <;> omega
  have c2 : ¬ (200 : Int) < n := by omega
  unfold Tr.pv at e1 e2 e3 ⊢
  simp -implicitDefEqProofs only [go_sem, Nat.reduceEqDiff, Nat.reduceAdd, Nat.reduceLeDiff, Nat.reduceLT, reduceCtorEq, ↓reduceIte, Nat.reduceBEq, Int.reduceLT, Int.reduceLE, Int.reduceNeg, Int.reduceEq, Int.toNat_natCast, cast_lit, Int.reduceToNat, F160, s160, s160_1, e1, e2, e3, c1, c2]
end Go.Ab.S
