/- A part of the proof: an executor over plain data, shown sound for the model, and what it computes of the functions. -/
import Derived.Test.YtmnjnpgmenigiaaSp8
set_option linter.all false
set_option linter.unusedSimpArgs false
set_option linter.unusedVariables false
set_option linter.unusedSectionVars false
namespace Go.Ab.S
open Go Go.Ab
variable {E : Env} [EnvS E]

theorem e138I (th : Int) (ns : List PV) (h : ns.length ≤ 100) : callW E 138 [.p (.agg [.int .i64 th, .sl 1 ns, .sl 3 []])] [] = some ⟨.p (.agg [.int .i64 th, .sl 1 ns, .sl 3 []]), [], []⟩ := by
  rw [callW_eq, EnvS.h 138 F138 rfl]
  have e := e208 (E := E) ns (by unfold most; omega)
  simp -implicitDefEqProofs only [go_sem, Nat.reduceEqDiff, Nat.reduceAdd, Nat.reduceLeDiff, Nat.reduceLT, reduceCtorEq, ↓reduceIte, Nat.reduceBEq, Int.reduceLT, Int.reduceLE, Int.reduceNeg, Int.reduceEq, Int.toNat_natCast, cast_lit, Int.reduceToNat, F138, s138, s138_3, s138_2, s138_1, loopW_some, e]
theorem loop138 (t : Tr) (h : t.thin) (th : Int) (ns : List PV) : ∀ (suf pre : List In), t.is = pre ++ suf →
    loopW E 0 [2, 3, 13, 14, 15] [.loc 0 1 0, .loc 1 6 0, .loc 5 5 0] (.trim [2, 3, 13, 14, 15] [2] [(0, [2, 3])] [.loc 0 1 0, .loc 1 6 0, .loc 5 5 0] s138_2) (some ⟨[(2, .ptr (.loc 0 1 0) 0), (3, .ptr (.loc 1 6 0) 0), (13, .p (.sl 3 (t.is.map In.pv))), (14, .p (.int .i64 t.is.length)), (15, .p (.int .i64 pre.length))],
       [(.loc 0 1 0, some (.box [.p (.int .i64 0), .nils 1, .nils 3])), (.loc 1 6 0, some (.box [.p (.int .i64 th), .p (.sl 1 ns), ownA 3 (.loc 5 5 0) pre.length])), (.loc 5 5 0, ownO 3 (pre.map In.pv))]⟩) =
    some (.ex 0, ⟨[(2, .ptr (.loc 0 1 0) 0), (3, .ptr (.loc 1 6 0) 0)],
       [(.loc 0 1 0, some (.box [.p (.int .i64 0), .nils 1, .nils 3])), (.loc 1 6 0, some (.box [.p (.int .i64 th), .p (.sl 1 ns), ownA 3 (.loc 5 5 0) t.is.length])), (.loc 5 5 0, ownO 3 (t.is.map In.pv))]⟩) := by
  generalize hK : loopW E 0 _ _ _ = K
  intro suf
  induction suf with
  | nil =>
    intro pre hp
    have hp' : t.is = pre := by simpa using hp
    rw [← hK, loopW_some, hK, hp']
    cases pre with
    | nil => simp -implicitDefEqProofs only [go_sem, Nat.reduceEqDiff, Nat.reduceAdd, Nat.reduceLeDiff, Nat.reduceLT, reduceCtorEq, ↓reduceIte, Nat.reduceBEq, Int.reduceLT, Int.reduceLE, Int.reduceNeg, Int.reduceEq, Int.toNat_natCast, cast_lit, Int.reduceToNat, s138_2, s138_1, ownA_nil, ownO_nil, List.map_nil]
    | cons p pre => simp -implicitDefEqProofs only [go_sem, Nat.reduceEqDiff, Nat.reduceAdd, Nat.reduceLeDiff, Nat.reduceLT, reduceCtorEq, ↓reduceIte, Nat.reduceBEq, Int.reduceLT, Int.reduceLE, Int.reduceNeg, Int.reduceEq, Int.toNat_natCast, cast_lit, Int.reduceToNat, s138_2, s138_1, ownA_succ, ownO_cons, List.map_cons]
  | cons x suf ih =>
    intro pre hp
    have h4 := h.is
    have hlen : t.is.length = pre.length + (suf.length + 1) := by rw [hp]; simp
    have hx : t.is[pre.length]? = some x := by rw [hp]; simp
    have hth : x.ns.length ≤ 12 := h.all x (List.mem_of_getElem? hx)
    obtain ⟨f1, f2, f3⟩ := rangeFacts pre.length t.is.length (by omega) (by omega)
    have e := e138I (E := E) x.th (x.ns.map (.int .i64)) (by simp; omega)
    have ih' := ih (pre ++ [x]) (by simp [hp])
    rw [← hK, loopW_some, hK]
    cases pre with
    | nil =>
      have hm : 1 ≤ most := by unfold most; omega
      simp only [List.map_cons, List.map_nil, List.length_cons, List.length_nil, Nat.zero_add, List.nil_append, ownA_succ, ownO_cons, Int.natCast_zero, cast_lit] at ih' f1 f2 f3 hx
      simp -implicitDefEqProofs only [go_sem, Nat.reduceEqDiff, Nat.reduceAdd, Nat.reduceLeDiff, Nat.reduceLT, reduceCtorEq, ↓reduceIte, Nat.reduceBEq, Int.reduceLT, Int.reduceLE, Int.reduceNeg, Int.reduceEq, Int.toNat_natCast, cast_lit, Int.reduceToNat, s138_2, s138_1, hx, f1, f2, f3, In.pv, e, hm, ownA_nil, ownO_nil, ownA_succ, ownO_cons]
      exact ih'
    | cons p pre =>
      have hm : pre.length + 1 + 1 ≤ most := by simp at hlen; unfold most; omega
      simp only [List.map_append, List.map_cons, List.map_nil, List.length_append, List.length_cons, List.length_nil, Nat.zero_add, List.cons_append, ownA_succ, ownO_cons] at ih' f1 f2 f3 hx
      simp -implicitDefEqProofs only [go_sem, Nat.reduceEqDiff, Nat.reduceAdd, Nat.reduceLeDiff, Nat.reduceLT, reduceCtorEq, ↓reduceIte, Nat.reduceBEq, Int.reduceLT, Int.reduceLE, Int.reduceNeg, Int.reduceEq, Int.toNat_natCast, cast_lit, Int.reduceToNat, s138_2, s138_1, hx, f1, f2, f3, In.pv, e, hm, ownA_succ, ownO_cons]
      exact ih'
theorem e138 (t : Tr) (h : t.thin) : callW E 138 [.p t.pv] [] = some ⟨.p t.pv, [], []⟩ := by
  rw [callW_eq, EnvS.h 138 F138 rfl]
  have h1 := h.ns
  have e := e208 (E := E) (t.ns.map (.int .i64)) (by simp; unfold most; omega)
  have lp := loop138 (E := E) t h t.th (t.ns.map (.int .i64)) t.is [] rfl
  simp only [List.length_nil, Int.natCast_zero, ownA_nil, List.map_nil, ownO_nil] at lp
  unfold Tr.pv
  cases hi : t.is with
  | nil =>
    rw [hi] at lp
    simp only [List.length_nil, Int.natCast_zero, ownA_nil, List.map_nil, ownO_nil] at lp
    simp -implicitDefEqProofs only [go_sem, Nat.reduceEqDiff, Nat.reduceAdd, Nat.reduceLeDiff, Nat.reduceLT, reduceCtorEq, ↓reduceIte, Nat.reduceBEq, Int.reduceLT, Int.reduceLE, Int.reduceNeg, Int.reduceEq, Int.toNat_natCast, cast_lit, Int.reduceToNat, F138, s138, s138_3, e, lp]
  | cons x r =>
    rw [hi] at lp
    simp only [List.length_cons, ownA_succ, List.map_cons, ownO_cons] at lp
    simp -implicitDefEqProofs only [go_sem, Nat.reduceEqDiff, Nat.reduceAdd, Nat.reduceLeDiff, Nat.reduceLT, reduceCtorEq, ↓reduceIte, Nat.reduceBEq, Int.reduceLT, Int.reduceLE, Int.reduceNeg, Int.reduceEq, Int.toNat_natCast, cast_lit, Int.reduceToNat, F138, s138, s138_3, e, lp, List.length_cons, List.map_cons]
end Go.Ab.S
