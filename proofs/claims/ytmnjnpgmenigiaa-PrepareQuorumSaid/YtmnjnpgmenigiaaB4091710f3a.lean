/- A part of the proof: an executor over plain data, shown sound for the model, and what it computes of the functions. -/
import Derived.Test.YtmnjnpgmenigiaaB6c0a702241
set_option linter.all false
set_option linter.unusedSimpArgs false
set_option linter.unusedVariables false
set_option linter.unusedSectionVars false
namespace Go.Ab.S
open Go Go.Ab
variable {E : Env} [EnvS E]

/-- How many of some nodes are in a set; whom a set satisfies. -/
def cnt (s : Nat) : List Int → Nat
  | [] => 0
  | k :: r => (if hasN s k = true then 1 else 0) + cnt s r
theorem cnt_le (s : Nat) : ∀ l : List Int, cnt s l ≤ l.length
  | [] => Nat.le_refl _
  | k :: r => by
    have := cnt_le s r
    simp only [cnt, List.length_cons]
    split <;> omega
def satI (s : Nat) (t : In) : Bool := decide (t.th ≤ cnt s t.ns)
def cntI (s : Nat) : List In → Nat
  | [] => 0
  | x :: r => (if satI s x = true then 1 else 0) + cntI s r
theorem cntI_le (s : Nat) : ∀ l : List In, cntI s l ≤ l.length
  | [] => Nat.le_refl _
  | k :: r => by
    have := cntI_le s r
    simp only [cntI, List.length_cons]
    split <;> omega
def satT (s : Nat) (t : Tr) : Bool := decide (t.th ≤ (cnt s t.ns + cntI s t.is : Nat))

theorem loop310a (s : Nat) (hs : s < 1024) (es : List Int) (hl : es.length ≤ 1000) (bx : List AV) (hbx : namesL bx = []) :
    loopW E 0 [1, 2, 5, 14, 15, 16] [.loc 0 0 0] (.trim [1, 2, 5, 14, 15, 16] [4] [(0, [1, 2, 5])] [.loc 0 0 0] s310_4) (some ⟨[(1, .p (.int .i64 s)), (2, .ptr (.loc 0 0 0) 0), (5, .p (.int .i64 0)), (14, .p (.sl 1 (es.map (.int .i64)))), (15, .p (.int .i64 es.length)), (16, .p (.int .i64 0))], [(.loc 0 0 0, some (.box bx))]⟩) =
    some (.ex 0, ⟨[(1, .p (.int .i64 s)), (2, .ptr (.loc 0 0 0) 0), (5, .p (.int .i64 (cnt s es : Nat)))], [(.loc 0 0 0, some (.box bx))]⟩) := by
  have key := range_loopI (loopW E 0 [1, 2, 5, 14, 15, 16] [.loc 0 0 0] (.trim [1, 2, 5, 14, 15, 16] [4] [(0, [1, 2, 5])] [.loc 0 0 0] s310_4)) es
    (fun i (n : Nat) => ⟨[(1, .p (.int .i64 s)), (2, .ptr (.loc 0 0 0) 0), (5, .p (.int .i64 n)), (14, .p (.sl 1 (es.map (.int .i64)))), (15, .p (.int .i64 es.length)), (16, .p (.int .i64 i))], [(.loc 0 0 0, some (.box bx))]⟩)
    (fun n r => some (.ex 0, ⟨[(1, .p (.int .i64 s)), (2, .ptr (.loc 0 0 0) 0), (5, .p (.int .i64 ((n + cnt s r : Nat) : Int)))], [(.loc 0 0 0, some (.box bx))]⟩)) (fun i n => n ≤ i)
  refine (key ?_ ?_ 0 (Nat.le_refl 0)).trans (by simp only [Nat.zero_add])
  · intro n _
    rw [loopW_some]
    generalize hK : loopW E 0 _ _ _ = K
    simp -implicitDefEqProofs only [go_sem, Nat.reduceEqDiff, Nat.reduceAdd, Nat.reduceLeDiff, Nat.reduceLT, reduceCtorEq, ↓reduceIte, Nat.reduceBEq, Int.reduceLT, Int.reduceLE, Int.reduceNeg, Int.reduceEq, Int.toNat_natCast, cast_lit, Int.reduceToNat, s310_4, s310_3, s310_2, hbx, cnt]
  · intro i n x r hx hn hI ih
    obtain ⟨f1, f2, f3⟩ := rangeFacts i es.length (by omega) (by omega)
    have e := e235 (E := E) s x hs
    have w : IntKind.i64.wrap ((n : Int) + 1) = ((n + 1 : Nat) : Int) := by rw [wrap64 (by omega) (by omega)]; omega
    rw [loopW_some]
    generalize hK : loopW E 0 _ _ _ = K at ih ⊢
    cases hh : hasN s x with
    | true =>
      have ih' := ih (n + 1) (by omega)
      rw [hh] at e
      try dsimp only at ih' ⊢
      simp -implicitDefEqProofs only [go_sem, Nat.reduceEqDiff, Nat.reduceAdd, Nat.reduceLeDiff, Nat.reduceLT, reduceCtorEq, ↓reduceIte, Nat.reduceBEq, Int.reduceLT, Int.reduceLE, Int.reduceNeg, Int.reduceEq, Int.toNat_natCast, cast_lit, Int.reduceToNat, s310_4, s310_3, s310_2, hx, f1, f2, f3, hbx, e, w, ih', cnt, hh, Nat.add_assoc]
    | false =>
      have ih' := ih n (by omega)
      rw [hh] at e
      try dsimp only at ih' ⊢
      simp -implicitDefEqProofs only [go_sem, Nat.reduceEqDiff, Nat.reduceAdd, Nat.reduceLeDiff, Nat.reduceLT, reduceCtorEq, ↓reduceIte, Nat.reduceBEq, Int.reduceLT, Int.reduceLE, Int.reduceNeg, Int.reduceEq, Int.toNat_natCast, cast_lit, Int.reduceToNat, s310_4, s310_3, s310_2, hx, f1, f2, f3, hbx, e, ih', cnt, hh]
theorem e310I (s : Nat) (hs : s < 1024) (t : In) (h : t.ns.length ≤ 1000) : callW E 310 [.p (.agg [.int .i64 t.th, .sl 1 (t.ns.map (.int .i64)), .sl 3 []]), .p (.int .i64 s)] [] = some ⟨.p (.bool (satI s t)), [], []⟩ := by
  have lp := loop310a (E := E) s hs t.ns h [.p (.int .i64 t.th), .p (.sl 1 (t.ns.map (.int .i64))), .p (.sl 3 [])] rfl
  rw [callW_eq, EnvS.h 310 F310 rfl]
  unfold satI
  simp -implicitDefEqProofs only [go_sem, Nat.reduceEqDiff, Nat.reduceAdd, Nat.reduceLeDiff, Nat.reduceLT, reduceCtorEq, ↓reduceIte, Nat.reduceBEq, Int.reduceLT, Int.reduceLE, Int.reduceNeg, Int.reduceEq, Int.toNat_natCast, cast_lit, Int.reduceToNat, F310, s310, s310_1, s310_5, s310_9, s310_8, s310_7, s310_6, loopW_some, e280 (E := E) s hs, lp]
theorem loop310b (s : Nat) (hs : s < 1024) (t : Tr) (h : t.thin) (n : Nat) (hn : n ≤ 100) :
    loopW E 0 [1, 2, 5, 27, 28, 29] [.loc 0 0 0] (.trim [1, 2, 5, 27, 28, 29] [4] [(2, [2, 5])] [.loc 0 0 0] s310_8) (some ⟨[(1, .p (.int .i64 s)), (2, .ptr (.loc 0 0 0) 0), (5, .p (.int .i64 n)), (27, .p (.sl 3 (t.is.map In.pv))), (28, .p (.int .i64 t.is.length)), (29, .p (.int .i64 0))], [(.loc 0 0 0, some (.box [.p (.int .i64 t.th), .p (.sl 1 (t.ns.map (.int .i64))), .p (.sl 3 (t.is.map In.pv))]))]⟩) =
    some (.ex 2, ⟨[(2, .ptr (.loc 0 0 0) 0), (5, .p (.int .i64 ((n + cntI s t.is : Nat) : Int)))], [(.loc 0 0 0, some (.box [.p (.int .i64 t.th), .p (.sl 1 (t.ns.map (.int .i64))), .p (.sl 3 (t.is.map In.pv))]))]⟩) := by
  have key := range_loopI (loopW E 0 [1, 2, 5, 27, 28, 29] [.loc 0 0 0] (.trim [1, 2, 5, 27, 28, 29] [4] [(2, [2, 5])] [.loc 0 0 0] s310_8)) t.is
    (fun i (n : Nat) => ⟨[(1, .p (.int .i64 s)), (2, .ptr (.loc 0 0 0) 0), (5, .p (.int .i64 n)), (27, .p (.sl 3 (t.is.map In.pv))), (28, .p (.int .i64 t.is.length)), (29, .p (.int .i64 i))], [(.loc 0 0 0, some (.box [.p (.int .i64 t.th), .p (.sl 1 (t.ns.map (.int .i64))), .p (.sl 3 (t.is.map In.pv))]))]⟩)
    (fun n r => some (.ex 2, ⟨[(2, .ptr (.loc 0 0 0) 0), (5, .p (.int .i64 ((n + cntI s r : Nat) : Int)))], [(.loc 0 0 0, some (.box [.p (.int .i64 t.th), .p (.sl 1 (t.ns.map (.int .i64))), .p (.sl 3 (t.is.map In.pv))]))]⟩)) (fun i n => n ≤ i + 100)
  have h4 := h.is
  refine key ?_ ?_ n (by omega)
  · intro n _
    rw [loopW_some]
    generalize hK : loopW E 0 _ _ _ = K
    simp -implicitDefEqProofs only [go_sem, Nat.reduceEqDiff, Nat.reduceAdd, Nat.reduceLeDiff, Nat.reduceLT, reduceCtorEq, ↓reduceIte, Nat.reduceBEq, Int.reduceLT, Int.reduceLE, Int.reduceNeg, Int.reduceEq, Int.toNat_natCast, cast_lit, Int.reduceToNat, s310_8, s310_7, s310_6, cntI]
  · intro i n x r hx hn hI ih
    have hth : x.ns.length ≤ 12 := h.all x (List.mem_of_getElem? hx)
    obtain ⟨f1, f2, f3⟩ := rangeFacts i t.is.length (by omega) (by omega)
    have e := e310I (E := E) s hs x (by omega)
    have w : IntKind.i64.wrap ((n : Int) + 1) = ((n + 1 : Nat) : Int) := by rw [wrap64 (by omega) (by omega)]; omega
    rw [loopW_some]
    generalize hK : loopW E 0 _ _ _ = K at ih ⊢
    cases hh : satI s x with
    | true =>
      have ih' := ih (n + 1) (by omega)
      rw [hh] at e
      try dsimp only at ih' ⊢
      simp -implicitDefEqProofs only [go_sem, Nat.reduceEqDiff, Nat.reduceAdd, Nat.reduceLeDiff, Nat.reduceLT, reduceCtorEq, ↓reduceIte, Nat.reduceBEq, Int.reduceLT, Int.reduceLE, Int.reduceNeg, Int.reduceEq, Int.toNat_natCast, cast_lit, Int.reduceToNat, s310_8, s310_7, s310_6, hx, f1, f2, f3, In.pv, e, w, ih', cntI, hh, Nat.add_assoc]
    | false =>
      have ih' := ih n (by omega)
      rw [hh] at e
      try dsimp only at ih' ⊢
      simp -implicitDefEqProofs only [go_sem, Nat.reduceEqDiff, Nat.reduceAdd, Nat.reduceLeDiff, Nat.reduceLT, reduceCtorEq, ↓reduceIte, Nat.reduceBEq, Int.reduceLT, Int.reduceLE, Int.reduceNeg, Int.reduceEq, Int.toNat_natCast, cast_lit, Int.reduceToNat, s310_8, s310_7, s310_6, hx, f1, f2, f3, In.pv, e, ih', cntI, hh]
theorem e310 (s : Nat) (hs : s < 1024) (t : Tr) (h : t.thin) : callW E 310 [.p t.pv, .p (.int .i64 s)] [] = some ⟨.p (.bool (satT s t)), [], []⟩ := by
  have h1 := h.ns
  have h2 := cnt_le s t.ns
  have lp := loop310a (E := E) s hs t.ns (by omega) [.p (.int .i64 t.th), .p (.sl 1 (t.ns.map (.int .i64))), .p (.sl 3 (t.is.map In.pv))] rfl
  have lq := loop310b (E := E) s hs t h (cnt s t.ns) (by omega)
  rw [callW_eq, EnvS.h 310 F310 rfl]
  unfold satT Tr.pv
  simp -implicitDefEqProofs only [go_sem, Nat.reduceEqDiff, Nat.reduceAdd, Nat.reduceLeDiff, Nat.reduceLT, reduceCtorEq, ↓reduceIte, Nat.reduceBEq, Int.reduceLT, Int.reduceLE, Int.reduceNeg, Int.reduceEq, Int.toNat_natCast, cast_lit, Int.reduceToNat, F310, s310, s310_1, s310_5, s310_9, e280 (E := E) s hs, lp, lq]
/-! as before -/
theorem loop176a (s : Nat) (hs : s < 1024) (es : List Int) (hl : es.length ≤ 1000) (bx : List AV) (hbx : namesL bx = []) :
    loopW E 0 [1, 2, 5, 14, 15, 16] [.loc 0 0 0] (.trim [1, 2, 5, 14, 15, 16] [4] [(0, [1, 2, 5])] [.loc 0 0 0] s176_4) (some ⟨[(1, .p (.int .i64 s)), (2, .ptr (.loc 0 0 0) 0), (5, .p (.int .i64 0)), (14, .p (.sl 1 (es.map (.int .i64)))), (15, .p (.int .i64 es.length)), (16, .p (.int .i64 0))], [(.loc 0 0 0, some (.box bx))]⟩) =
    some (.ex 0, ⟨[(1, .p (.int .i64 s)), (2, .ptr (.loc 0 0 0) 0), (5, .p (.int .i64 (cnt s es : Nat)))], [(.loc 0 0 0, some (.box bx))]⟩) := by
  have key := range_loopI (loopW E 0 [1, 2, 5, 14, 15, 16] [.loc 0 0 0] (.trim [1, 2, 5, 14, 15, 16] [4] [(0, [1, 2, 5])] [.loc 0 0 0] s176_4)) es
    (fun i (n : Nat) => ⟨[(1, .p (.int .i64 s)), (2, .ptr (.loc 0 0 0) 0), (5, .p (.int .i64 n)), (14, .p (.sl 1 (es.map (.int .i64)))), (15, .p (.int .i64 es.length)), (16, .p (.int .i64 i))], [(.loc 0 0 0, some (.box bx))]⟩)
    (fun n r => some (.ex 0, ⟨[(1, .p (.int .i64 s)), (2, .ptr (.loc 0 0 0) 0), (5, .p (.int .i64 ((n + cnt s r : Nat) : Int)))], [(.loc 0 0 0, some (.box bx))]⟩)) (fun i n => n ≤ i)
  refine (key ?_ ?_ 0 (Nat.le_refl 0)).trans (by simp only [Nat.zero_add])
  · intro n _
    rw [loopW_some]
    generalize hK : loopW E 0 _ _ _ = K
    simp -implicitDefEqProofs only [go_sem, Nat.reduceEqDiff, Nat.reduceAdd, Nat.reduceLeDiff, Nat.reduceLT, reduceCtorEq, ↓reduceIte, Nat.reduceBEq, Int.reduceLT, Int.reduceLE, Int.reduceNeg, Int.reduceEq, Int.toNat_natCast, cast_lit, Int.reduceToNat, s176_4, s176_3, s176_2, hbx, cnt]
  · intro i n x r hx hn hI ih
    obtain ⟨f1, f2, f3⟩ := rangeFacts i es.length (by omega) (by omega)
    have e := e174 (E := E) s x hs
    have w : IntKind.i64.wrap ((n : Int) + 1) = ((n + 1 : Nat) : Int) := by rw [wrap64 (by omega) (by omega)]; omega
    rw [loopW_some]
    generalize hK : loopW E 0 _ _ _ = K at ih ⊢
    cases hh : hasN s x with
    | true =>
      have ih' := ih (n + 1) (by omega)
      rw [hh] at e
      try dsimp only at ih' ⊢
      simp -implicitDefEqProofs only [go_sem, Nat.reduceEqDiff, Nat.reduceAdd, Nat.reduceLeDiff, Nat.reduceLT, reduceCtorEq, ↓reduceIte, Nat.reduceBEq, Int.reduceLT, Int.reduceLE, Int.reduceNeg, Int.reduceEq, Int.toNat_natCast, cast_lit, Int.reduceToNat, s176_4, s176_3, s176_2, hx, f1, f2, f3, hbx, e, w, ih', cnt, hh, Nat.add_assoc]
    | false =>
      have ih' := ih n (by omega)
      rw [hh] at e
      try dsimp only at ih' ⊢
      simp -implicitDefEqProofs only [go_sem, Nat.reduceEqDiff, Nat.reduceAdd, Nat.reduceLeDiff, Nat.reduceLT, reduceCtorEq, ↓reduceIte, Nat.reduceBEq, Int.reduceLT, Int.reduceLE, Int.reduceNeg, Int.reduceEq, Int.toNat_natCast, cast_lit, Int.reduceToNat, s176_4, s176_3, s176_2, hx, f1, f2, f3, hbx, e, ih', cnt, hh]
theorem e176I (s : Nat) (hs : s < 1024) (t : In) (h : t.ns.length ≤ 1000) : callW E 176 [.p (.agg [.int .i64 t.th, .sl 1 (t.ns.map (.int .i64)), .sl 3 []]), .p (.int .i64 s)] [] = some ⟨.p (.bool (satI s t)), [], []⟩ := by
  have lp := loop176a (E := E) s hs t.ns h [.p (.int .i64 t.th), .p (.sl 1 (t.ns.map (.int .i64))), .p (.sl 3 [])] rfl
  rw [callW_eq, EnvS.h 176 F176 rfl]
  unfold satI
  simp -implicitDefEqProofs only [go_sem, Nat.reduceEqDiff, Nat.reduceAdd, Nat.reduceLeDiff, Nat.reduceLT, reduceCtorEq, ↓reduceIte, Nat.reduceBEq, Int.reduceLT, Int.reduceLE, Int.reduceNeg, Int.reduceEq, Int.toNat_natCast, cast_lit, Int.reduceToNat, F176, s176, s176_1, s176_5, s176_9, s176_8, s176_7, s176_6, loopW_some, e173 (E := E) s hs, lp]
theorem loop176b (s : Nat) (hs : s < 1024) (t : Tr) (h : t.thin) (n : Nat) (hn : n ≤ 100) :
    loopW E 0 [1, 2, 5, 27, 28, 29] [.loc 0 0 0] (.trim [1, 2, 5, 27, 28, 29] [4] [(2, [2, 5])] [.loc 0 0 0] s176_8) (some ⟨[(1, .p (.int .i64 s)), (2, .ptr (.loc 0 0 0) 0), (5, .p (.int .i64 n)), (27, .p (.sl 3 (t.is.map In.pv))), (28, .p (.int .i64 t.is.length)), (29, .p (.int .i64 0))], [(.loc 0 0 0, some (.box [.p (.int .i64 t.th), .p (.sl 1 (t.ns.map (.int .i64))), .p (.sl 3 (t.is.map In.pv))]))]⟩) =
    some (.ex 2, ⟨[(2, .ptr (.loc 0 0 0) 0), (5, .p (.int .i64 ((n + cntI s t.is : Nat) : Int)))], [(.loc 0 0 0, some (.box [.p (.int .i64 t.th), .p (.sl 1 (t.ns.map (.int .i64))), .p (.sl 3 (t.is.map In.pv))]))]⟩) := by
  have key := range_loopI (loopW E 0 [1, 2, 5, 27, 28, 29] [.loc 0 0 0] (.trim [1, 2, 5, 27, 28, 29] [4] [(2, [2, 5])] [.loc 0 0 0] s176_8)) t.is
    (fun i (n : Nat) => ⟨[(1, .p (.int .i64 s)), (2, .ptr (.loc 0 0 0) 0), (5, .p (.int .i64 n)), (27, .p (.sl 3 (t.is.map In.pv))), (28, .p (.int .i64 t.is.length)), (29, .p (.int .i64 i))], [(.loc 0 0 0, some (.box [.p (.int .i64 t.th), .p (.sl 1 (t.ns.map (.int .i64))), .p (.sl 3 (t.is.map In.pv))]))]⟩)
    (fun n r => some (.ex 2, ⟨[(2, .ptr (.loc 0 0 0) 0), (5, .p (.int .i64 ((n + cntI s r : Nat) : Int)))], [(.loc 0 0 0, some (.box [.p (.int .i64 t.th), .p (.sl 1 (t.ns.map (.int .i64))), .p (.sl 3 (t.is.map In.pv))]))]⟩)) (fun i n => n ≤ i + 100)
  have h4 := h.is
  refine key ?_ ?_ n (by omega)
  · intro n _
    rw [loopW_some]
    generalize hK : loopW E 0 _ _ _ = K
    simp -implicitDefEqProofs only [go_sem, Nat.reduceEqDiff, Nat.reduceAdd, Nat.reduceLeDiff, Nat.reduceLT, reduceCtorEq, ↓reduceIte, Nat.reduceBEq, Int.reduceLT, Int.reduceLE, Int.reduceNeg, Int.reduceEq, Int.toNat_natCast, cast_lit, Int.reduceToNat, s176_8, s176_7, s176_6, cntI]
  · intro i n x r hx hn hI ih
    have hth : x.ns.length ≤ 12 := h.all x (List.mem_of_getElem? hx)
    obtain ⟨f1, f2, f3⟩ := rangeFacts i t.is.length (by omega) (by omega)
    have e := e176I (E := E) s hs x (by omega)
    have w : IntKind.i64.wrap ((n : Int) + 1) = ((n + 1 : Nat) : Int) := by rw [wrap64 (by omega) (by omega)]; omega
    rw [loopW_some]
    generalize hK : loopW E 0 _ _ _ = K at ih ⊢
    cases hh : satI s x with
    | true =>
      have ih' := ih (n + 1) (by omega)
      rw [hh] at e
      try dsimp only at ih' ⊢
      simp -implicitDefEqProofs only [go_sem, Nat.reduceEqDiff, Nat.reduceAdd, Nat.reduceLeDiff, Nat.reduceLT, reduceCtorEq, ↓reduceIte, Nat.reduceBEq, Int.reduceLT, Int.reduceLE, Int.reduceNeg, Int.reduceEq, Int.toNat_natCast, cast_lit, Int.reduceToNat, s176_8, s176_7, s176_6, hx, f1, f2, f3, In.pv, e, w, ih', cntI, hh, Nat.add_assoc]
    | false =>
      have ih' := ih n (by omega)
      rw [hh] at e
      try dsimp only at ih' ⊢
      simp -implicitDefEqProofs only [go_sem, Nat.reduceEqDiff, Nat.reduceAdd, Nat.reduceLeDiff, Nat.reduceLT, reduceCtorEq, ↓reduceIte, Nat.reduceBEq, Int.reduceLT, Int.reduceLE, Int.reduceNeg, Int.reduceEq, Int.toNat_natCast, cast_lit, Int.reduceToNat, s176_8, s176_7, s176_6, hx, f1, f2, f3, In.pv, e, ih', cntI, hh]
theorem e176 (s : Nat) (hs : s < 1024) (t : Tr) (h : t.thin) : callW E 176 [.p t.pv, .p (.int .i64 s)] [] = some ⟨.p (.bool (satT s t)), [], []⟩ := by
  have h1 := h.ns
  have h2 := cnt_le s t.ns
  have lp := loop176a (E := E) s hs t.ns (by omega) [.p (.int .i64 t.th), .p (.sl 1 (t.ns.map (.int .i64))), .p (.sl 3 (t.is.map In.pv))] rfl
  have lq := loop176b (E := E) s hs t h (cnt s t.ns) (by omega)
  rw [callW_eq, EnvS.h 176 F176 rfl]
  unfold satT Tr.pv
  simp -implicitDefEqProofs only [go_sem, Nat.reduceEqDiff, Nat.reduceAdd, Nat.reduceLeDiff, Nat.reduceLT, reduceCtorEq, ↓reduceIte, Nat.reduceBEq, Int.reduceLT, Int.reduceLE, Int.reduceNeg, Int.reduceEq, Int.toNat_natCast, cast_lit, Int.reduceToNat, F176, s176, s176_1, s176_5, s176_9, e173 (E := E) s hs, lp, lq]
end Go.Ab.S

set_option linter.unusedSimpArgs false
set_option linter.unusedVariables false
set_option linter.unusedSectionVars false
namespace Go.Ab.S
open Go Go.Ab
variable {E : Env} [EnvS E]

/-- The first error of a trust (214, 218). -/
def errI (t : In) : Int := if t.th < 1 ∨ (t.ns.length : Int) < t.th then 4 else if t.ns.any badN = true then 5 else (ofL 0 t.ns).2
def errIs : List In → Int
  | [] => 0
  | x :: r => if errI x = 0 then errIs r else errI x
def errT (t : Tr) : Int := if t.th < 1 ∨ (t.ns.length : Int) + t.is.length < t.th then 4 else if t.ns.any badN = true then 5 else if (ofL 0 t.ns).2 = 0 then errIs t.is else (ofL 0 t.ns).2

theorem e214I (t : In) (h : t.thin) : callW E 214 [.p (.agg [.int .i64 t.th, .sl 1 (t.ns.map (.int .i64)), .sl 3 []])] [] = some ⟨.p (.int .i64 (errI t)), [], []⟩ := by
  rw [callW_eq, EnvS.h 214 F214 rfl]
  unfold In.thin at h
  have e1 := e239 (E := E) t.ns (by omega)
  have e2 := e242 (E := E) t.ns (by omega)
  have w : IntKind.i64.wrap ((t.ns.length : Int) + 0) = t.ns.length := by rw [wrap64 (by omega) (by omega)]; omega
  unfold errI
  by_cases c1 : t.th < 1
  · simp -implicitDefEqProofs only [go_sem, Nat.reduceEqDiff, Nat.reduceAdd, Nat.reduceLeDiff, Nat.reduceLT, reduceCtorEq, ↓reduceIte, Nat.reduceBEq, Int.reduceLT, Int.reduceLE, Int.reduceNeg, Int.reduceEq, Int.toNat_natCast, cast_lit, Int.reduceToNat, F214, s214, s214_1, s214_2, s214_3, s214_7, c1]
  · by_cases c2 : (t.ns.length : Int) < t.th
    · simp -implicitDefEqProofs only [go_sem, Nat.reduceEqDiff, Nat.reduceAdd, Nat.reduceLeDiff, Nat.reduceLT, reduceCtorEq, ↓reduceIte, Nat.reduceBEq, Int.reduceLT, Int.reduceLE, Int.reduceNeg, Int.reduceEq, Int.toNat_natCast, cast_lit, Int.reduceToNat, F214, s214, s214_1, s214_2, s214_3, s214_7, c1, w, c2]
    · cases c3 : t.ns.any badN with
      | true => simp -implicitDefEqProofs only [go_sem, Nat.reduceEqDiff, Nat.reduceAdd, Nat.reduceLeDiff, Nat.reduceLT, reduceCtorEq, ↓reduceIte, Nat.reduceBEq, Int.reduceLT, Int.reduceLE, Int.reduceNeg, Int.reduceEq, Int.toNat_natCast, cast_lit, Int.reduceToNat, F214, s214, s214_1, s214_2, s214_3, s214_7, c1, w, c2, e1, c3]
      | false =>
        by_cases c4 : (ofL 0 t.ns).2 = 0
        · simp -implicitDefEqProofs only [go_sem, Nat.reduceEqDiff, Nat.reduceAdd, Nat.reduceLeDiff, Nat.reduceLT, reduceCtorEq, ↓reduceIte, Nat.reduceBEq, Int.reduceLT, Int.reduceLE, Int.reduceNeg, Int.reduceEq, Int.toNat_natCast, cast_lit, Int.reduceToNat, F214, s214, s214_1, s214_2, s214_3, s214_7, s214_6, s214_5, s214_4, loopW_some, c1, w, c2, e1, c3, e2, c4]
        · simp -implicitDefEqProofs only [go_sem, Nat.reduceEqDiff, Nat.reduceAdd, Nat.reduceLeDiff, Nat.reduceLT, reduceCtorEq, ↓reduceIte, Nat.reduceBEq, Int.reduceLT, Int.reduceLE, Int.reduceNeg, Int.reduceEq, Int.toNat_natCast, cast_lit, Int.reduceToNat, F214, s214, s214_1, s214_2, s214_3, s214_7, s214_6, s214_5, s214_4, loopW_some, c1, w, c2, e1, c3, e2, c4]
def errR (e : Int) : Option (Ex × St) := if e = 0 then some (.ex 0, ⟨[], []⟩) else some (.ret, ⟨[(2, .p (.int .i64 e))], []⟩)
theorem loop214 (t : Tr) (h : t.thin) : loopW E 0 [36, 37, 38] [] (.trim [36, 37, 38] [2] [(0, [])] [] s214_6) (some ⟨[(36, .p (.sl 3 (t.is.map In.pv))), (37, .p (.int .i64 t.is.length)), (38, .p (.int .i64 0))], []⟩) = errR (errIs t.is) := by
  generalize hK : loopW E 0 _ _ _ = K
  refine range_loopI K t.is (fun i (_ : Unit) => ⟨[(36, .p (.sl 3 (t.is.map In.pv))), (37, .p (.int .i64 t.is.length)), (38, .p (.int .i64 i))], []⟩) (fun _ l => errR (errIs l)) (fun _ _ => True) ?_ ?_ () trivial
  · intro _ _
    rw [← hK, loopW_some, hK]
    simp -implicitDefEqProofs only [go_sem, Nat.reduceEqDiff, Nat.reduceAdd, Nat.reduceLeDiff, Nat.reduceLT, reduceCtorEq, ↓reduceIte, Nat.reduceBEq, Int.reduceLT, Int.reduceLE, Int.reduceNeg, Int.reduceEq, Int.toNat_natCast, cast_lit, Int.reduceToNat, s214_6, s214_5, s214_4]
    rfl
  · intro i _ x r hx hn _ ih
    have h4 := h.is
    obtain ⟨f1, f2, f3⟩ := rangeFacts i t.is.length (by omega) (by omega)
    have ih' := ih () trivial
    have e := e214I (E := E) x (h.all x (List.mem_of_getElem? hx))
    try dsimp only at ih' ⊢
    rw [← hK, loopW_some, hK]
    by_cases c : errI x = 0
    · simp -implicitDefEqProofs only [go_sem, Nat.reduceEqDiff, Nat.reduceAdd, Nat.reduceLeDiff, Nat.reduceLT, reduceCtorEq, ↓reduceIte, Nat.reduceBEq, Int.reduceLT, Int.reduceLE, Int.reduceNeg, Int.reduceEq, Int.toNat_natCast, cast_lit, Int.reduceToNat, s214_6, s214_5, s214_4, hx, f1, f2, f3, In.pv, e, c, ih', errIs]
    · simp -implicitDefEqProofs only [go_sem, Nat.reduceEqDiff, Nat.reduceAdd, Nat.reduceLeDiff, Nat.reduceLT, reduceCtorEq, ↓reduceIte, Nat.reduceBEq, Int.reduceLT, Int.reduceLE, Int.reduceNeg, Int.reduceEq, Int.toNat_natCast, cast_lit, Int.reduceToNat, s214_6, s214_5, s214_4, hx, f1, f2, f3, In.pv, e, c, errIs, errR]
theorem e214 (t : Tr) (h : t.thin) : callW E 214 [.p t.pv] [] = some ⟨.p (.int .i64 (errT t)), [], []⟩ := by
  rw [callW_eq, EnvS.h 214 F214 rfl]
  have h1 := h.ns
  have h2 := h.is
  have e1 := e239 (E := E) t.ns (by omega)
  have e2 := e242 (E := E) t.ns (by omega)
  have w : IntKind.i64.wrap ((t.ns.length : Int) + (t.is.length : Int)) = (t.ns.length : Int) + t.is.length := wrap64 (by omega) (by omega)
  have lp := loop214 (E := E) t h
  unfold errT
  by_cases c1 : t.th < 1
  · simp -implicitDefEqProofs only [go_sem, Nat.reduceEqDiff, Nat.reduceAdd, Nat.reduceLeDiff, Nat.reduceLT, reduceCtorEq, ↓reduceIte, Nat.reduceBEq, Int.reduceLT, Int.reduceLE, Int.reduceNeg, Int.reduceEq, Int.toNat_natCast, cast_lit, Int.reduceToNat, F214, s214, s214_1, s214_2, s214_3, s214_7, Tr.pv, c1]
  · by_cases c2 : (t.ns.length : Int) + (t.is.length : Int) < t.th
    · simp -implicitDefEqProofs only [go_sem, Nat.reduceEqDiff, Nat.reduceAdd, Nat.reduceLeDiff, Nat.reduceLT, reduceCtorEq, ↓reduceIte, Nat.reduceBEq, Int.reduceLT, Int.reduceLE, Int.reduceNeg, Int.reduceEq, Int.toNat_natCast, cast_lit, Int.reduceToNat, F214, s214, s214_1, s214_2, s214_3, s214_7, Tr.pv, c1, w, c2]
    · cases c3 : t.ns.any badN with
      | true => simp -implicitDefEqProofs only [go_sem, Nat.reduceEqDiff, Nat.reduceAdd, Nat.reduceLeDiff, Nat.reduceLT, reduceCtorEq, ↓reduceIte, Nat.reduceBEq, Int.reduceLT, Int.reduceLE, Int.reduceNeg, Int.reduceEq, Int.toNat_natCast, cast_lit, Int.reduceToNat, F214, s214, s214_1, s214_2, s214_3, s214_7, Tr.pv, c1, w, c2, e1, c3]
      | false =>
        by_cases c4 : (ofL 0 t.ns).2 = 0
        · by_cases c5 : errIs t.is = 0
          · simp only [errR, c5, if_true] at lp
            simp -implicitDefEqProofs only [go_sem, Nat.reduceEqDiff, Nat.reduceAdd, Nat.reduceLeDiff, Nat.reduceLT, reduceCtorEq, ↓reduceIte, Nat.reduceBEq, Int.reduceLT, Int.reduceLE, Int.reduceNeg, Int.reduceEq, Int.toNat_natCast, cast_lit, Int.reduceToNat, F214, s214, s214_1, s214_2, s214_3, s214_7, Tr.pv, lp, c1, w, c2, e1, c3, e2, c4, c5]
          · simp only [errR, c5, if_false] at lp
            simp -implicitDefEqProofs only [go_sem, Nat.reduceEqDiff, Nat.reduceAdd, Nat.reduceLeDiff, Nat.reduceLT, reduceCtorEq, ↓reduceIte, Nat.reduceBEq, Int.reduceLT, Int.reduceLE, Int.reduceNeg, Int.reduceEq, Int.toNat_natCast, cast_lit, Int.reduceToNat, F214, s214, s214_1, s214_2, s214_3, s214_7, Tr.pv, lp, c1, w, c2, e1, c3, e2, c4, c5]
        · simp -implicitDefEqProofs only [go_sem, Nat.reduceEqDiff, Nat.reduceAdd, Nat.reduceLeDiff, Nat.reduceLT, reduceCtorEq, ↓reduceIte, Nat.reduceBEq, Int.reduceLT, Int.reduceLE, Int.reduceNeg, Int.reduceEq, Int.toNat_natCast, cast_lit, Int.reduceToNat, F214, s214, s214_1, s214_2, s214_3, s214_7, Tr.pv, c1, w, c2, e1, c3, e2, c4]
/-! ### The reference's -/
def badR (b : Bool) (st : List AV) : Option (Ex × St) := if b = true then some (.ret, ⟨[(2, .p (.int .i64 5))], []⟩) else some (.ex 0, ⟨[(1, .ptr (.loc 0 0 0) 0)], [(.loc 0 0 0, some (.box st))]⟩)
theorem loop218a (es : List Int) (hl : es.length < 4611686018427387904) (st : List AV) (hst : namesL st = []) :
    loopW E 0 [1, 26, 27, 28] [.loc 0 0 0] (.trim [1, 26, 27, 28] [2] [(0, [1])] [.loc 0 0 0] s218_4) (some ⟨[(1, .ptr (.loc 0 0 0) 0), (26, .p (.sl 1 (es.map (.int .i64)))), (27, .p (.int .i64 es.length)), (28, .p (.int .i64 0))], [(.loc 0 0 0, some (.box st))]⟩) =
     if es.any badN = true then some (.ret, ⟨[(2, .p (.int .i64 5))], [(.loc 0 0 0, some (.box st))]⟩) else some (.ex 0, ⟨[(1, .ptr (.loc 0 0 0) 0)], [(.loc 0 0 0, some (.box st))]⟩) := by
  generalize hK : loopW E 0 _ _ _ = K
  refine range_loopI K es (fun i (_ : Unit) => ⟨[(1, .ptr (.loc 0 0 0) 0), (26, .p (.sl 1 (es.map (.int .i64)))), (27, .p (.int .i64 es.length)), (28, .p (.int .i64 i))], [(.loc 0 0 0, some (.box st))]⟩) (fun _ l => if l.any badN = true then some (.ret, ⟨[(2, .p (.int .i64 5))], [(.loc 0 0 0, some (.box st))]⟩) else some (.ex 0, ⟨[(1, .ptr (.loc 0 0 0) 0)], [(.loc 0 0 0, some (.box st))]⟩)) (fun _ _ => True) ?_ ?_ () trivial
  · intro _ _
    rw [← hK, loopW_some, hK]
    simp -implicitDefEqProofs only [go_sem, Nat.reduceEqDiff, Nat.reduceAdd, Nat.reduceLeDiff, Nat.reduceLT, reduceCtorEq, ↓reduceIte, Nat.reduceBEq, Int.reduceLT, Int.reduceLE, Int.reduceNeg, Int.reduceEq, Int.toNat_natCast, cast_lit, Int.reduceToNat, s218_4, s218_3, s218_2, hst, List.any_nil]
  · intro i _ x r hx hn _ ih
    obtain ⟨f1, f2, f3⟩ := rangeFacts i es.length (by omega) hl
    have ih' := ih () trivial
    try dsimp only at ih' ⊢
    rw [← hK, loopW_some, hK]
    by_cases c1 : x < 0
    · have c2 : badN x = true := by unfold badN; simp; omega
      simp -implicitDefEqProofs only [go_sem, Nat.reduceEqDiff, Nat.reduceAdd, Nat.reduceLeDiff, Nat.reduceLT, reduceCtorEq, ↓reduceIte, Nat.reduceBEq, Int.reduceLT, Int.reduceLE, Int.reduceNeg, Int.reduceEq, Int.toNat_natCast, cast_lit, Int.reduceToNat, s218_4, s218_3, s218_2, hx, f1, f2, f3, hst, c1, c2, List.any_cons]
    · by_cases c2 : 10 ≤ x
      · have c3 : badN x = true := by unfold badN; simp; omega
        simp -implicitDefEqProofs only [go_sem, Nat.reduceEqDiff, Nat.reduceAdd, Nat.reduceLeDiff, Nat.reduceLT, reduceCtorEq, ↓reduceIte, Nat.reduceBEq, Int.reduceLT, Int.reduceLE, Int.reduceNeg, Int.reduceEq, Int.toNat_natCast, cast_lit, Int.reduceToNat, s218_4, s218_3, s218_2, hx, f1, f2, f3, hst, c1, c2, c3, List.any_cons]
      · have c3 : badN x = false := by unfold badN; simp; omega
        simp -implicitDefEqProofs only [go_sem, Nat.reduceEqDiff, Nat.reduceAdd, Nat.reduceLeDiff, Nat.reduceLT, reduceCtorEq, ↓reduceIte, Nat.reduceBEq, Int.reduceLT, Int.reduceLE, Int.reduceNeg, Int.reduceEq, Int.toNat_natCast, cast_lit, Int.reduceToNat, s218_4, s218_3, s218_2, hx, f1, f2, f3, hst, c1, c2, c3, ih', List.any_cons]
theorem e218I (t : In) (h : t.thin) : callW E 218 [.p (.agg [.int .i64 t.th, .sl 1 (t.ns.map (.int .i64)), .sl 3 []])] [] = some ⟨.p (.int .i64 (errI t)), [], []⟩ := by
  rw [callW_eq, EnvS.h 218 F218 rfl]
  unfold In.thin at h
  have e1 := loop218a (E := E) t.ns (by omega) [.p (.int .i64 t.th), .p (.sl 1 (t.ns.map (.int .i64))), .p (.sl 3 [])] rfl
  have e2 := e243 (E := E) t.ns (by omega)
  have w : IntKind.i64.wrap ((t.ns.length : Int) + 0) = t.ns.length := by rw [wrap64 (by omega) (by omega)]; omega
  unfold errI
  by_cases c1 : t.th < 1
  · simp -implicitDefEqProofs only [go_sem, Nat.reduceEqDiff, Nat.reduceAdd, Nat.reduceLeDiff, Nat.reduceLT, reduceCtorEq, ↓reduceIte, Nat.reduceBEq, Int.reduceLT, Int.reduceLE, Int.reduceNeg, Int.reduceEq, Int.toNat_natCast, cast_lit, Int.reduceToNat, F218, s218, s218_1, s218_5, s218_6, s218_10, c1]
  · by_cases c2 : (t.ns.length : Int) < t.th
    · simp -implicitDefEqProofs only [go_sem, Nat.reduceEqDiff, Nat.reduceAdd, Nat.reduceLeDiff, Nat.reduceLT, reduceCtorEq, ↓reduceIte, Nat.reduceBEq, Int.reduceLT, Int.reduceLE, Int.reduceNeg, Int.reduceEq, Int.toNat_natCast, cast_lit, Int.reduceToNat, F218, s218, s218_1, s218_5, s218_6, s218_10, c1, w, c2]
    · cases c3 : t.ns.any badN with
      | true =>
        simp only [c3, if_true] at e1
        simp -implicitDefEqProofs only [go_sem, Nat.reduceEqDiff, Nat.reduceAdd, Nat.reduceLeDiff, Nat.reduceLT, reduceCtorEq, ↓reduceIte, Nat.reduceBEq, Int.reduceLT, Int.reduceLE, Int.reduceNeg, Int.reduceEq, Int.toNat_natCast, cast_lit, Int.reduceToNat, F218, s218, s218_1, s218_5, s218_6, s218_10, c1, w, c2, e1]
      | false =>
        simp only [c3, Bool.false_eq_true, if_false] at e1
        by_cases c4 : (ofL 0 t.ns).2 = 0
        · simp -implicitDefEqProofs only [go_sem, Nat.reduceEqDiff, Nat.reduceAdd, Nat.reduceLeDiff, Nat.reduceLT, reduceCtorEq, ↓reduceIte, Nat.reduceBEq, Int.reduceLT, Int.reduceLE, Int.reduceNeg, Int.reduceEq, Int.toNat_natCast, cast_lit, Int.reduceToNat, F218, s218, s218_1, s218_5, s218_6, s218_10, s218_9, s218_8, s218_7, loopW_some, c1, w, c2, e1, e2, c4]
        · simp -implicitDefEqProofs only [go_sem, Nat.reduceEqDiff, Nat.reduceAdd, Nat.reduceLeDiff, Nat.reduceLT, reduceCtorEq, ↓reduceIte, Nat.reduceBEq, Int.reduceLT, Int.reduceLE, Int.reduceNeg, Int.reduceEq, Int.toNat_natCast, cast_lit, Int.reduceToNat, F218, s218, s218_1, s218_5, s218_6, s218_10, c1, w, c2, e1, e2, c4]
theorem loop218b (t : Tr) (h : t.thin) : loopW E 0 [49, 50, 51] [] (.trim [49, 50, 51] [2] [(2, [])] [] s218_9) (some ⟨[(49, .p (.sl 3 (t.is.map In.pv))), (50, .p (.int .i64 t.is.length)), (51, .p (.int .i64 0))], []⟩) = if errIs t.is = 0 then some (.ex 2, ⟨[], []⟩) else some (.ret, ⟨[(2, .p (.int .i64 (errIs t.is)))], []⟩) := by
  generalize hK : loopW E 0 _ _ _ = K
  refine range_loopI K t.is (fun i (_ : Unit) => ⟨[(49, .p (.sl 3 (t.is.map In.pv))), (50, .p (.int .i64 t.is.length)), (51, .p (.int .i64 i))], []⟩) (fun _ l => if errIs l = 0 then some (.ex 2, ⟨[], []⟩) else some (.ret, ⟨[(2, .p (.int .i64 (errIs l)))], []⟩)) (fun _ _ => True) ?_ ?_ () trivial
  · intro _ _
    rw [← hK, loopW_some, hK]
    simp -implicitDefEqProofs only [go_sem, Nat.reduceEqDiff, Nat.reduceAdd, Nat.reduceLeDiff, Nat.reduceLT, reduceCtorEq, ↓reduceIte, Nat.reduceBEq, Int.reduceLT, Int.reduceLE, Int.reduceNeg, Int.reduceEq, Int.toNat_natCast, cast_lit, Int.reduceToNat, s218_9, s218_8, s218_7, errIs]
  · intro i _ x r hx hn _ ih
    have h4 := h.is
    obtain ⟨f1, f2, f3⟩ := rangeFacts i t.is.length (by omega) (by omega)
    have ih' := ih () trivial
    have e := e218I (E := E) x (h.all x (List.mem_of_getElem? hx))
    try dsimp only at ih' ⊢
    rw [← hK, loopW_some, hK]
    by_cases c : errI x = 0
    · simp -implicitDefEqProofs only [go_sem, Nat.reduceEqDiff, Nat.reduceAdd, Nat.reduceLeDiff, Nat.reduceLT, reduceCtorEq, ↓reduceIte, Nat.reduceBEq, Int.reduceLT, Int.reduceLE, Int.reduceNeg, Int.reduceEq, Int.toNat_natCast, cast_lit, Int.reduceToNat, s218_9, s218_8, s218_7, hx, f1, f2, f3, In.pv, e, c, ih', errIs]
    · simp -implicitDefEqProofs only [go_sem, Nat.reduceEqDiff, Nat.reduceAdd, Nat.reduceLeDiff, Nat.reduceLT, reduceCtorEq, ↓reduceIte, Nat.reduceBEq, Int.reduceLT, Int.reduceLE, Int.reduceNeg, Int.reduceEq, Int.toNat_natCast, cast_lit, Int.reduceToNat, s218_9, s218_8, s218_7, hx, f1, f2, f3, In.pv, e, c, errIs]
theorem e218 (t : Tr) (h : t.thin) : callW E 218 [.p t.pv] [] = some ⟨.p (.int .i64 (errT t)), [], []⟩ := by
  rw [callW_eq, EnvS.h 218 F218 rfl]
  have h1 := h.ns
  have h2 := h.is
  have e1 := loop218a (E := E) t.ns (by omega) [.p (.int .i64 t.th), .p (.sl 1 (t.ns.map (.int .i64))), .p (.sl 3 (t.is.map In.pv))] rfl
  have e2 := e243 (E := E) t.ns (by omega)
  have w : IntKind.i64.wrap ((t.ns.length : Int) + (t.is.length : Int)) = (t.ns.length : Int) + t.is.length := wrap64 (by omega) (by omega)
  have lp := loop218b (E := E) t h
  unfold errT
  by_cases c1 : t.th < 1
  · simp -implicitDefEqProofs only [go_sem, Nat.reduceEqDiff, Nat.reduceAdd, Nat.reduceLeDiff, Nat.reduceLT, reduceCtorEq, ↓reduceIte, Nat.reduceBEq, Int.reduceLT, Int.reduceLE, Int.reduceNeg, Int.reduceEq, Int.toNat_natCast, cast_lit, Int.reduceToNat, F218, s218, s218_1, s218_5, s218_6, s218_10, Tr.pv, c1]
  · by_cases c2 : (t.ns.length : Int) + (t.is.length : Int) < t.th
    · simp -implicitDefEqProofs only [go_sem, Nat.reduceEqDiff, Nat.reduceAdd, Nat.reduceLeDiff, Nat.reduceLT, reduceCtorEq, ↓reduceIte, Nat.reduceBEq, Int.reduceLT, Int.reduceLE, Int.reduceNeg, Int.reduceEq, Int.toNat_natCast, cast_lit, Int.reduceToNat, F218, s218, s218_1, s218_5, s218_6, s218_10, Tr.pv, c1, w, c2]
    · cases c3 : t.ns.any badN with
      | true =>
        simp only [c3, if_true] at e1
        simp -implicitDefEqProofs only [go_sem, Nat.reduceEqDiff, Nat.reduceAdd, Nat.reduceLeDiff, Nat.reduceLT, reduceCtorEq, ↓reduceIte, Nat.reduceBEq, Int.reduceLT, Int.reduceLE, Int.reduceNeg, Int.reduceEq, Int.toNat_natCast, cast_lit, Int.reduceToNat, F218, s218, s218_1, s218_5, s218_6, s218_10, Tr.pv, c1, w, c2, e1]
      | false =>
        simp only [c3, Bool.false_eq_true, if_false] at e1
        by_cases c4 : (ofL 0 t.ns).2 = 0
        · by_cases c5 : errIs t.is = 0
          · simp only [c5, if_true] at lp
            simp -implicitDefEqProofs only [go_sem, Nat.reduceEqDiff, Nat.reduceAdd, Nat.reduceLeDiff, Nat.reduceLT, reduceCtorEq, ↓reduceIte, Nat.reduceBEq, Int.reduceLT, Int.reduceLE, Int.reduceNeg, Int.reduceEq, Int.toNat_natCast, cast_lit, Int.reduceToNat, F218, s218, s218_1, s218_5, s218_6, s218_10, Tr.pv, lp, c1, w, c2, e1, e2, c4, c5]
          · simp only [c5, if_false] at lp
            simp -implicitDefEqProofs only [go_sem, Nat.reduceEqDiff, Nat.reduceAdd, Nat.reduceLeDiff, Nat.reduceLT, reduceCtorEq, ↓reduceIte, Nat.reduceBEq, Int.reduceLT, Int.reduceLE, Int.reduceNeg, Int.reduceEq, Int.toNat_natCast, cast_lit, Int.reduceToNat, F218, s218, s218_1, s218_5, s218_6, s218_10, Tr.pv, lp, c1, w, c2, e1, e2, c4, c5]
        · simp -implicitDefEqProofs only [go_sem, Nat.reduceEqDiff, Nat.reduceAdd, Nat.reduceLeDiff, Nat.reduceLT, reduceCtorEq, ↓reduceIte, Nat.reduceBEq, Int.reduceLT, Int.reduceLE, Int.reduceNeg, Int.reduceEq, Int.toNat_natCast, cast_lit, Int.reduceToNat, F218, s218, s218_1, s218_5, s218_6, s218_10, Tr.pv, c1, w, c2, e1, e2, c4]
theorem e156 (t : Tr) (h : t.thin) : callW E 156 [.p t.pv] [] = some ⟨.p (.int .i64 (errT t)), [], []⟩ := by
  rw [callW_eq, EnvS.h 156 F156 rfl]
  have e1 := e212 (E := E) t h
  obtain ⟨n, hn, e2⟩ := e213 (E := E) t h
  have e3 := e214 (E := E) t h
  have c1 : ¬ (4 : Int) < (if t.is.length = 0 then 1 else 2) := by split <;> omega
  have c2 : ¬ (200 : Int) < n := by omega
  unfold Tr.pv at e1 e2 e3 ⊢
  simp -implicitDefEqProofs only [go_sem, Nat.reduceEqDiff, Nat.reduceAdd, Nat.reduceLeDiff, Nat.reduceLT, reduceCtorEq, ↓reduceIte, Nat.reduceBEq, Int.reduceLT, Int.reduceLE, Int.reduceNeg, Int.reduceEq, Int.toNat_natCast, cast_lit, Int.reduceToNat, F156, s156, s156_1, e1, e2, e3, c1, c2]
/-! as before -/
theorem e160 (t : Tr) (h : t.thin) : callW E 160 [.p t.pv] [] = some ⟨.p (.int .i64 (errT t)), [], []⟩ := by
  rw [callW_eq, EnvS.h 160 F160 rfl]
  have e1 := e216 (E := E) t h
  obtain ⟨n, hn, e2⟩ := e217 (E := E) t h
  have e3 := e218 (E := E) t h
  have c1 : ¬ (4 : Int) < (if t.is.length = 0 then 1 else 2) := by split <;> omega
  have c2 : ¬ (200 : Int) < n := by omega
  unfold Tr.pv at e1 e2 e3 ⊢
  simp -implicitDefEqProofs only [go_sem, Nat.reduceEqDiff, Nat.reduceAdd, Nat.reduceLeDiff, Nat.reduceLT, reduceCtorEq, ↓reduceIte, Nat.reduceBEq, Int.reduceLT, Int.reduceLE, Int.reduceNeg, Int.reduceEq, Int.toNat_natCast, cast_lit, Int.reduceToNat, F160, s160, s160_1, e1, e2, e3, c1, c2]
end Go.Ab.S

set_option linter.unusedSimpArgs false
set_option linter.unusedVariables false
set_option linter.unusedSectionVars false
namespace Go.Ab.S
open Go Go.Ab
variable {E : Env} [EnvS E]

/-- An envelope. -/
structure Evl where
  node : Int
  slot : Int
  seq : Int
  t : Tr
  k : Int
  b : Bal
  p : Bal
  q : Bal
  lo : Int
  hi : Int
def Evl.pv (e : Evl) : PV := .agg [.int .i64 e.node, .int .i64 e.slot, .int .i64 e.seq, .int .i64 e.t.th, .sl 1 (e.t.ns.map (.int .i64)), .sl 3 (e.t.is.map In.pv), .int .i64 e.k, .int .i64 e.b.c, .str e.b.v, .int .i64 e.p.c, .str e.p.v, .int .i64 e.q.c, .str e.q.v, .int .i64 e.lo, .int .i64 e.hi]
def validB (b : Bal) : Bool := (decide (1 ≤ b.c) && decide (b.c ≤ 1000) || decide (b.c = 1000000)) && (decide (1 ≤ (b.v.size : Int)) && decide ((b.v.size : Int) ≤ 200))
def finite (b : Bal) : Bool := validB b && decide (b.c ≤ 1000)
def optional (b : Bal) : Bool := zeroB b || validB b
def primeE (e : Evl) : Bool := zeroB e.q || (!zeroB e.p && less e.q e.p && !decide (e.q.v = e.p.v))
def ranged (e : Evl) : Bool := decide (1 ≤ e.lo) && decide (e.lo ≤ e.hi) && decide (e.hi ≤ 1000)
def prepE (e : Evl) : Bool := finite e.b && optional e.p && optional e.q && primeE e && decide (0 ≤ e.lo) && decide (e.lo ≤ e.hi) && decide (e.hi ≤ e.b.c) && ((decide (e.hi = 0) || prepares e.p e.q ⟨e.hi, e.b.v⟩) && (decide (e.lo = 0) || (!aborts e.p ⟨e.lo, e.b.v⟩ && !aborts e.q ⟨e.lo, e.b.v⟩)))
def headE (e : Evl) : Bool := decide (0 ≤ e.node) && decide (e.node < 10) && decide (1 ≤ e.slot) && decide (e.slot ≤ 1000000) && decide (1 ≤ e.seq) && decide (e.seq ≤ 1000000) && decide (errT e.t = 0)
def validE (e : Evl) : Bool := headE e && (if e.k = 1 then prepE e else if e.k = 2 then finite e.b && validB e.p && decide (e.p.v = e.b.v) && zeroB e.q && ranged e && decide (e.hi ≤ e.p.c) else if e.k = 3 then validB e.b && zeroB e.p && zeroB e.q && ranged e else false)

theorem e159 (a : Bal) : callW E 159 [.p (.agg [.int .i64 a.c, .str a.v])] [] = some ⟨.p (.bool (validB a)), [], []⟩ := by
  rw [callW_eq, EnvS.h 159 F159 rfl]
  simp -implicitDefEqProofs only [go_sem, Nat.reduceEqDiff, Nat.reduceAdd, Nat.reduceLeDiff, Nat.reduceLT, reduceCtorEq, ↓reduceIte, Nat.reduceBEq, Int.reduceLT, Int.reduceLE, Int.reduceNeg, Int.reduceEq, Int.toNat_natCast, cast_lit, Int.reduceToNat, F159, s159, ]
  repeat' ((first | rw [condW_q] | rw [opsG_q] | rw [opsLG_q]); unfold ifq; split <;> rename_i hq <;> simp -implicitDefEqProofs only [go_sem, Nat.reduceEqDiff, Nat.reduceAdd, Nat.reduceLeDiff, Nat.reduceLT, reduceCtorEq, ↓reduceIte, Nat.reduceBEq, Int.reduceLT, Int.reduceLE, Int.reduceNeg, Int.reduceEq, Int.toNat_natCast, cast_lit, Int.reduceToNat, hq, ])
  all_goals simp_all [validB]
  all_goals (intros; first | omega | (exfalso; omega))
attribute [go_sem] e159
/-! as before -/
theorem e161 (a : Bal) : callW E 161 [.p (.agg [.int .i64 a.c, .str a.v])] [] = some ⟨.p (.bool (validB a)), [], []⟩ := by
  rw [callW_eq, EnvS.h 161 F161 rfl]
  simp -implicitDefEqProofs only [go_sem, Nat.reduceEqDiff, Nat.reduceAdd, Nat.reduceLeDiff, Nat.reduceLT, reduceCtorEq, ↓reduceIte, Nat.reduceBEq, Int.reduceLT, Int.reduceLE, Int.reduceNeg, Int.reduceEq, Int.toNat_natCast, cast_lit, Int.reduceToNat, F161, s161, ]
  repeat' ((first | rw [condW_q] | rw [opsG_q] | rw [opsLG_q]); unfold ifq; split <;> rename_i hq <;> simp -implicitDefEqProofs only [go_sem, Nat.reduceEqDiff, Nat.reduceAdd, Nat.reduceLeDiff, Nat.reduceLT, reduceCtorEq, ↓reduceIte, Nat.reduceBEq, Int.reduceLT, Int.reduceLE, Int.reduceNeg, Int.reduceEq, Int.toNat_natCast, cast_lit, Int.reduceToNat, hq, ])
  all_goals simp_all [validB]
  all_goals (intros; first | omega | (exfalso; omega))
attribute [go_sem] e161
theorem e158 (a : Bal) : callW E 158 [.p (.agg [.int .i64 a.c, .str a.v])] [] = some ⟨.p (.bool (finite a)), [], []⟩ := by
  rw [callW_eq, EnvS.h 158 F158 rfl]
  simp -implicitDefEqProofs only [go_sem, Nat.reduceEqDiff, Nat.reduceAdd, Nat.reduceLeDiff, Nat.reduceLT, reduceCtorEq, ↓reduceIte, Nat.reduceBEq, Int.reduceLT, Int.reduceLE, Int.reduceNeg, Int.reduceEq, Int.toNat_natCast, cast_lit, Int.reduceToNat, F158, s158, ]
  repeat' ((first | rw [condW_q] | rw [opsG_q] | rw [opsLG_q]); unfold ifq; split <;> rename_i hq <;> simp -implicitDefEqProofs only [go_sem, Nat.reduceEqDiff, Nat.reduceAdd, Nat.reduceLeDiff, Nat.reduceLT, reduceCtorEq, ↓reduceIte, Nat.reduceBEq, Int.reduceLT, Int.reduceLE, Int.reduceNeg, Int.reduceEq, Int.toNat_natCast, cast_lit, Int.reduceToNat, hq, ])
  all_goals simp_all [finite]
theorem e215 (a : Bal) : callW E 215 [.p (.agg [.int .i64 a.c, .str a.v])] [] = some ⟨.p (.bool (optional a)), [], []⟩ := by
  rw [callW_eq, EnvS.h 215 F215 rfl]
  simp -implicitDefEqProofs only [go_sem, Nat.reduceEqDiff, Nat.reduceAdd, Nat.reduceLeDiff, Nat.reduceLT, reduceCtorEq, ↓reduceIte, Nat.reduceBEq, Int.reduceLT, Int.reduceLE, Int.reduceNeg, Int.reduceEq, Int.toNat_natCast, cast_lit, Int.reduceToNat, F215, s215, ]
  repeat' ((first | rw [condW_q] | rw [opsG_q] | rw [opsLG_q]); unfold ifq; split <;> rename_i hq <;> simp -implicitDefEqProofs only [go_sem, Nat.reduceEqDiff, Nat.reduceAdd, Nat.reduceLeDiff, Nat.reduceLT, reduceCtorEq, ↓reduceIte, Nat.reduceBEq, Int.reduceLT, Int.reduceLE, Int.reduceNeg, Int.reduceEq, Int.toNat_natCast, cast_lit, Int.reduceToNat, hq, ])
  all_goals simp_all [optional]
attribute [go_sem] e158 e215
theorem e104 (e : Evl) (n : Int) : callW E 104 [.p e.pv, .p (.int .i64 n)] [] = some ⟨.p (.agg [.int .i64 n, .str e.b.v]), [], []⟩ := by
  rw [callW_eq, EnvS.h 104 F104 rfl]
  unfold Evl.pv
  simp -implicitDefEqProofs only [go_sem, Nat.reduceEqDiff, Nat.reduceAdd, Nat.reduceLeDiff, Nat.reduceLT, reduceCtorEq, ↓reduceIte, Nat.reduceBEq, Int.reduceLT, Int.reduceLE, Int.reduceNeg, Int.reduceEq, Int.toNat_natCast, cast_lit, Int.reduceToNat, F104, s104]
theorem e157 (e : Evl) : callW E 157 [.p e.pv] [] = some ⟨.p (.bool (prepE e)), [], []⟩ := by
  rw [callW_eq, EnvS.h 157 F157 rfl]
  have h1 := e104 (E := E) e e.lo
  have h2 := e104 (E := E) e e.hi
  have p1 := e132 (E := E) e.p e.q ⟨e.hi, e.b.v⟩
  have p2 := e122 (E := E) e.p ⟨e.lo, e.b.v⟩
  have p3 := e122 (E := E) e.q ⟨e.lo, e.b.v⟩
  unfold Evl.pv at *
  dsimp only at p1 p2 p3
  simp -implicitDefEqProofs only [go_sem, Nat.reduceEqDiff, Nat.reduceAdd, Nat.reduceLeDiff, Nat.reduceLT, reduceCtorEq, ↓reduceIte, Nat.reduceBEq, Int.reduceLT, Int.reduceLE, Int.reduceNeg, Int.reduceEq, Int.toNat_natCast, cast_lit, Int.reduceToNat, F157, s157, s157_1, h1, h2, p1, p2, p3]
  repeat' ((first | rw [condW_q] | rw [opsG_q] | rw [opsLG_q]); unfold ifq; split <;> rename_i hq <;> simp -implicitDefEqProofs only [go_sem, Nat.reduceEqDiff, Nat.reduceAdd, Nat.reduceLeDiff, Nat.reduceLT, reduceCtorEq, ↓reduceIte, Nat.reduceBEq, Int.reduceLT, Int.reduceLE, Int.reduceNeg, Int.reduceEq, Int.toNat_natCast, cast_lit, Int.reduceToNat, hq, h1, h2, p1, p2, p3])
  all_goals (clear p1 p2 p3 h1 h2; unfold prepE primeE; simp_all)
  all_goals (intros; first | omega | (exfalso; omega))
attribute [go_sem] e157
theorem e81 (e : Evl) (h : e.t.thin) : callW E 81 [.p e.pv] [] = some ⟨.p (.bool (validE e)), [], []⟩ := by
  rw [callW_eq, EnvS.h 81 F81 rfl]
  have h1 := e156 (E := E) e.t h
  have h2 := e157 (E := E) e
  unfold Evl.pv at *
  unfold Tr.pv at h1
  unfold validE
  cases c1 : headE e with
  | false =>
    simp -implicitDefEqProofs only [go_sem, Nat.reduceEqDiff, Nat.reduceAdd, Nat.reduceLeDiff, Nat.reduceLT, reduceCtorEq, ↓reduceIte, Nat.reduceBEq, Int.reduceLT, Int.reduceLE, Int.reduceNeg, Int.reduceEq, Int.toNat_natCast, cast_lit, Int.reduceToNat, F81, s81, s81_1, s81_7, s81_2, s81_6, s81_3, s81_5, s81_4, h1, h2]
    repeat' ((first | rw [condW_q] | rw [opsG_q] | rw [opsLG_q]); unfold ifq; split <;> rename_i hq <;> simp -implicitDefEqProofs only [go_sem, Nat.reduceEqDiff, Nat.reduceAdd, Nat.reduceLeDiff, Nat.reduceLT, reduceCtorEq, ↓reduceIte, Nat.reduceBEq, Int.reduceLT, Int.reduceLE, Int.reduceNeg, Int.reduceEq, Int.toNat_natCast, cast_lit, Int.reduceToNat, hq, h1, h2])
    all_goals (clear h1 h2; simp_all [headE])
  | true =>
    have c2 := c1
    unfold headE at c2
    simp only [Bool.and_eq_true, decide_eq_true_eq] at c2
    obtain ⟨⟨⟨⟨⟨⟨d1, d2⟩, d3⟩, d4⟩, d5⟩, d6⟩, d7⟩ := c2
    have f1 : ¬ e.node < 0 := by omega
    have f2 : ¬ 10 ≤ e.node := by omega
    have f3 : ¬ e.slot < 1 := by omega
    have f4 : ¬ 1000000 < e.slot := by omega
    have f5 : ¬ e.seq < 1 := by omega
    have f6 : ¬ 1000000 < e.seq := by omega
    simp -implicitDefEqProofs only [go_sem, Nat.reduceEqDiff, Nat.reduceAdd, Nat.reduceLeDiff, Nat.reduceLT, reduceCtorEq, ↓reduceIte, Nat.reduceBEq, Int.reduceLT, Int.reduceLE, Int.reduceNeg, Int.reduceEq, Int.toNat_natCast, cast_lit, Int.reduceToNat, F81, s81, s81_1, s81_7, s81_2, s81_6, s81_3, s81_5, s81_4, h1, h2, f1, f2, f3, f4, f5, f6, d7]
    repeat' ((first | rw [condW_q] | rw [opsG_q] | rw [opsLG_q]); unfold ifq; split <;> rename_i hq <;> simp -implicitDefEqProofs only [go_sem, Nat.reduceEqDiff, Nat.reduceAdd, Nat.reduceLeDiff, Nat.reduceLT, reduceCtorEq, ↓reduceIte, Nat.reduceBEq, Int.reduceLT, Int.reduceLE, Int.reduceNeg, Int.reduceEq, Int.toNat_natCast, cast_lit, Int.reduceToNat, hq, h1, h2, f1, f2, f3, f4, f5, f6, d7])
    all_goals (clear h1 h2; simp_all [ranged])
    all_goals (intros; first | omega | (exfalso; omega))
end Go.Ab.S

set_option linter.unusedSimpArgs false
set_option linter.unusedVariables false
set_option linter.unusedSectionVars false
namespace Go.Ab.S
open Go Go.Ab
variable {E : Env} [EnvS E]

/-- The reference's word for what is valid. -/
def validR (e : Evl) : Bool := headE e && validB e.b && (if e.k = 1 then
    !decide (1000 < e.b.c) && (zeroB e.p || validB e.p) && (zeroB e.q || (!zeroB e.p && validB e.q && less e.q e.p && !decide (e.q.v = e.p.v))) && decide (0 ≤ e.lo) && decide (e.lo ≤ e.hi) && decide (e.hi ≤ e.b.c) &&
    ((!decide (0 < e.hi) || prepares e.p e.q ⟨e.hi, e.b.v⟩) && (decide (e.lo = 0) || (!aborts e.p ⟨e.lo, e.b.v⟩ && !aborts e.q ⟨e.lo, e.b.v⟩)))
  else if e.k = 2 then decide (e.b.c ≤ 1000) && validB e.p && decide (e.p.v = e.b.v) && zeroB e.q && ranged e && decide (e.hi ≤ e.p.c) else if e.k = 3 then zeroB e.p && zeroB e.q && ranged e else false)
theorem validR_eq (e : Evl) : validR e = validE e := by
  unfold validR validE
  cases headE e <;> simp
  by_cases k1 : e.k = 1
  · simp only [k1, if_true, prepE, finite, optional, primeE]
    by_cases h4 : 0 ≤ e.lo ∧ e.lo ≤ e.hi
    · have hd : (!decide (0 < e.hi)) = decide (e.hi = 0) := by rw [Bool.eq_iff_iff]; simp; omega
      have h1 : (!decide (1000 < e.b.c)) = decide (e.b.c ≤ 1000) := by rw [Bool.eq_iff_iff]; simp
      rw [hd, h1]
      generalize ((decide (e.hi = 0) || prepares e.p e.q ⟨e.hi, e.b.v⟩) && (decide (e.lo = 0) || (!aborts e.p ⟨e.lo, e.b.v⟩ && !aborts e.q ⟨e.lo, e.b.v⟩))) = X
      cases validB e.b <;> cases decide (e.b.c ≤ 1000) <;> cases zeroB e.p <;> cases validB e.p <;> cases zeroB e.q <;> cases validB e.q <;> cases less e.q e.p <;> simp
    · have : decide (0 ≤ e.lo) = false ∨ decide (e.lo ≤ e.hi) = false := by
        by_cases h5 : 0 ≤ e.lo
        · right; simp; omega
        · left; simp; omega
      rcases this with h | h <;> simp [h]
  · by_cases k2 : e.k = 2
    · simp [k2, finite]
      cases validB e.b <;> simp
    · by_cases k3 : e.k = 3 <;> simp [k1, k2, k3]
      cases validB e.b <;> simp
set_option maxHeartbeats 4000000 in
theorem e82 (e : Evl) (h : e.t.thin) : callW E 82 [.p e.pv] [] = some ⟨.p (.bool (validE e)), [], []⟩ := by
  rw [← validR_eq]
  rw [callW_eq, EnvS.h 82 F82 rfl]
  have h1 := e160 (E := E) e.t h
  have p1 := e46 (E := E) e.p e.q ⟨e.hi, e.b.v⟩
  have p2 := e90 (E := E) e.p ⟨e.lo, e.b.v⟩
  have p3 := e90 (E := E) e.q ⟨e.lo, e.b.v⟩
  unfold Evl.pv at *
  unfold Tr.pv at h1
  unfold validR
  dsimp only at p1 p2 p3
  cases c1 : headE e with
  | false =>
    simp -implicitDefEqProofs only [go_sem, Nat.reduceEqDiff, Nat.reduceAdd, Nat.reduceLeDiff, Nat.reduceLT, reduceCtorEq, ↓reduceIte, Nat.reduceBEq, Int.reduceLT, Int.reduceLE, Int.reduceNeg, Int.reduceEq, Int.toNat_natCast, cast_lit, Int.reduceToNat, F82, s82, s82_1, s82_11, s82_6, s82_2, s82_3, s82_4, s82_5, s82_10, s82_7, s82_9, s82_8, h1, p1, p2, p3]
    repeat' ((first | rw [condW_q] | rw [opsG_q] | rw [opsLG_q]); unfold ifq; split <;> rename_i hq <;> simp -implicitDefEqProofs only [go_sem, Nat.reduceEqDiff, Nat.reduceAdd, Nat.reduceLeDiff, Nat.reduceLT, reduceCtorEq, ↓reduceIte, Nat.reduceBEq, Int.reduceLT, Int.reduceLE, Int.reduceNeg, Int.reduceEq, Int.toNat_natCast, cast_lit, Int.reduceToNat, hq, h1, p1, p2, p3])
    all_goals (clear h1 p1 p2 p3; simp_all [headE])
    all_goals (intros; first | omega | (exfalso; omega))
  | true =>
    have c2 := c1
    unfold headE at c2
    simp only [Bool.and_eq_true, decide_eq_true_eq] at c2
    obtain ⟨⟨⟨⟨⟨⟨d1, d2⟩, d3⟩, d4⟩, d5⟩, d6⟩, d7⟩ := c2
    have f1 : ¬ e.node < 0 := by omega
    have f2 : ¬ 9 < e.node := by omega
    have f3 : ¬ e.slot < 1 := by omega
    have f4 : ¬ 1000000 < e.slot := by omega
    have f5 : ¬ e.seq < 1 := by omega
    have f6 : ¬ 1000000 < e.seq := by omega
    cases c3 : validB e.b with
    | false => simp -implicitDefEqProofs only [go_sem, Nat.reduceEqDiff, Nat.reduceAdd, Nat.reduceLeDiff, Nat.reduceLT, reduceCtorEq, ↓reduceIte, Nat.reduceBEq, Int.reduceLT, Int.reduceLE, Int.reduceNeg, Int.reduceEq, Int.toNat_natCast, cast_lit, Int.reduceToNat, F82, s82, s82_1, s82_11, s82_6, s82_2, s82_3, s82_4, s82_5, s82_10, s82_7, s82_9, s82_8, h1, p1, p2, p3, f1, f2, f3, f4, f5, f6, d7, c3]
    | true =>
      simp -implicitDefEqProofs only [go_sem, Nat.reduceEqDiff, Nat.reduceAdd, Nat.reduceLeDiff, Nat.reduceLT, reduceCtorEq, ↓reduceIte, Nat.reduceBEq, Int.reduceLT, Int.reduceLE, Int.reduceNeg, Int.reduceEq, Int.toNat_natCast, cast_lit, Int.reduceToNat, F82, s82, s82_1, s82_11, s82_6, s82_2, s82_3, s82_4, s82_5, s82_10, s82_7, s82_9, s82_8, h1, p1, p2, p3, f1, f2, f3, f4, f5, f6, d7, c3]
      repeat' ((first | rw [condW_q] | rw [opsG_q] | rw [opsLG_q]); unfold ifq; split <;> rename_i hq <;> simp -implicitDefEqProofs only [go_sem, Nat.reduceEqDiff, Nat.reduceAdd, Nat.reduceLeDiff, Nat.reduceLT, reduceCtorEq, ↓reduceIte, Nat.reduceBEq, Int.reduceLT, Int.reduceLE, Int.reduceNeg, Int.reduceEq, Int.toNat_natCast, cast_lit, Int.reduceToNat, hq, h1, p1, p2, p3, f1, f2, f3, f4, f5, f6, d7, c3])
      all_goals (clear h1 p1 p2 p3; simp_all [ranged])
      all_goals (intros; first | omega | (exfalso; omega))
end Go.Ab.S

set_option linter.unusedSimpArgs false
set_option linter.unusedVariables false
set_option linter.unusedSectionVars false
namespace Go.Ab.S
open Go Go.Ab
variable {E : Env} [EnvS E]

def fromE (e : Evl) (v : ByteArray) (lo hi : Int) : Bool := decide (1 ≤ lo) && decide (lo ≤ hi) && decide (e.b.v = v) && decide (e.lo ≤ lo)
def accC (e : Evl) (v : ByteArray) (lo hi : Int) : Bool := fromE e v lo hi && (decide (e.k = 3) || (decide (e.k = 2) && decide (hi ≤ e.hi)))
def votC (e : Evl) (v : ByteArray) (lo hi : Int) : Bool := fromE e v lo hi && (!decide (e.k = 1) || (!decide (e.lo = 0) && decide (hi ≤ e.hi)))
def accP (e : Evl) (b : Bal) : Bool := if zeroB b = true then false else if e.k = 1 then prepares e.p e.q b else if e.k = 2 then covers e.p b else decide (e.b.v = b.v)
def votP (e : Evl) (b : Bal) : Bool := if zeroB b = true then false else if e.k = 1 then covers e.b b else decide (e.b.v = b.v)
def countE (e : Evl) : Int := if e.k = 3 then 1000000 else e.b.c
theorem e198 (e : Evl) (v : ByteArray) (lo hi : Int) : callW E 198 [.p e.pv, .p (.str v), .p (.int .i64 lo), .p (.int .i64 hi)] [] = some ⟨.p (.bool (fromE e v lo hi)), [], []⟩ := by
  rw [callW_eq, EnvS.h 198 F198 rfl]
  unfold Evl.pv
  simp -implicitDefEqProofs only [go_sem, Nat.reduceEqDiff, Nat.reduceAdd, Nat.reduceLeDiff, Nat.reduceLT, reduceCtorEq, ↓reduceIte, Nat.reduceBEq, Int.reduceLT, Int.reduceLE, Int.reduceNeg, Int.reduceEq, Int.toNat_natCast, cast_lit, Int.reduceToNat, F198, s198, ]
  repeat' ((first | rw [condW_q] | rw [opsG_q] | rw [opsLG_q]); unfold ifq; split <;> rename_i hq <;> simp -implicitDefEqProofs only [go_sem, Nat.reduceEqDiff, Nat.reduceAdd, Nat.reduceLeDiff, Nat.reduceLT, reduceCtorEq, ↓reduceIte, Nat.reduceBEq, Int.reduceLT, Int.reduceLE, Int.reduceNeg, Int.reduceEq, Int.toNat_natCast, cast_lit, Int.reduceToNat, hq, ])
  all_goals simp_all [fromE]
  all_goals (intros; first | omega | (exfalso; omega))
theorem e163 (e : Evl) (v : ByteArray) (lo hi : Int) : callW E 163 [.p e.pv, .p (.str v), .p (.int .i64 lo), .p (.int .i64 hi)] [] = some ⟨.p (.bool (accC e v lo hi)), [], []⟩ := by
  rw [callW_eq, EnvS.h 163 F163 rfl]
  have h1 := e198 (E := E) e v lo hi
  unfold Evl.pv at *
  simp -implicitDefEqProofs only [go_sem, Nat.reduceEqDiff, Nat.reduceAdd, Nat.reduceLeDiff, Nat.reduceLT, reduceCtorEq, ↓reduceIte, Nat.reduceBEq, Int.reduceLT, Int.reduceLE, Int.reduceNeg, Int.reduceEq, Int.toNat_natCast, cast_lit, Int.reduceToNat, F163, s163, h1]
  repeat' ((first | rw [condW_q] | rw [opsG_q] | rw [opsLG_q]); unfold ifq; split <;> rename_i hq <;> simp -implicitDefEqProofs only [go_sem, Nat.reduceEqDiff, Nat.reduceAdd, Nat.reduceLeDiff, Nat.reduceLT, reduceCtorEq, ↓reduceIte, Nat.reduceBEq, Int.reduceLT, Int.reduceLE, Int.reduceNeg, Int.reduceEq, Int.toNat_natCast, cast_lit, Int.reduceToNat, hq, h1])
  all_goals (clear h1; simp_all [accC])
  all_goals (intros; first | omega | (exfalso; omega))
theorem e116 (e : Evl) (v : ByteArray) (lo hi : Int) : callW E 116 [.p e.pv, .p (.str v), .p (.int .i64 lo), .p (.int .i64 hi)] [] = some ⟨.p (.bool (votC e v lo hi)), [], []⟩ := by
  rw [callW_eq, EnvS.h 116 F116 rfl]
  have h1 := e198 (E := E) e v lo hi
  unfold Evl.pv at *
  simp -implicitDefEqProofs only [go_sem, Nat.reduceEqDiff, Nat.reduceAdd, Nat.reduceLeDiff, Nat.reduceLT, reduceCtorEq, ↓reduceIte, Nat.reduceBEq, Int.reduceLT, Int.reduceLE, Int.reduceNeg, Int.reduceEq, Int.toNat_natCast, cast_lit, Int.reduceToNat, F116, s116, h1]
  repeat' ((first | rw [condW_q] | rw [opsG_q] | rw [opsLG_q]); unfold ifq; split <;> rename_i hq <;> simp -implicitDefEqProofs only [go_sem, Nat.reduceEqDiff, Nat.reduceAdd, Nat.reduceLeDiff, Nat.reduceLT, reduceCtorEq, ↓reduceIte, Nat.reduceBEq, Int.reduceLT, Int.reduceLE, Int.reduceNeg, Int.reduceEq, Int.toNat_natCast, cast_lit, Int.reduceToNat, hq, h1])
  all_goals (clear h1; simp_all [votC])
  all_goals (intros; first | omega | (exfalso; omega))
theorem e113 (e : Evl) (b : Bal) : callW E 113 [.p e.pv, .p (.agg [.int .i64 b.c, .str b.v])] [] = some ⟨.p (.bool (accP e b)), [], []⟩ := by
  rw [callW_eq, EnvS.h 113 F113 rfl]
  unfold Evl.pv at *
  simp -implicitDefEqProofs only [go_sem, Nat.reduceEqDiff, Nat.reduceAdd, Nat.reduceLeDiff, Nat.reduceLT, reduceCtorEq, ↓reduceIte, Nat.reduceBEq, Int.reduceLT, Int.reduceLE, Int.reduceNeg, Int.reduceEq, Int.toNat_natCast, cast_lit, Int.reduceToNat, F113, s113, s113_6, s113_1, s113_5, s113_2, s113_4, s113_3, ]
  repeat' ((first | rw [condW_q] | rw [opsG_q] | rw [opsLG_q]); unfold ifq; split <;> rename_i hq <;> simp -implicitDefEqProofs only [go_sem, Nat.reduceEqDiff, Nat.reduceAdd, Nat.reduceLeDiff, Nat.reduceLT, reduceCtorEq, ↓reduceIte, Nat.reduceBEq, Int.reduceLT, Int.reduceLE, Int.reduceNeg, Int.reduceEq, Int.toNat_natCast, cast_lit, Int.reduceToNat, hq, ])
  all_goals simp_all [accP]
theorem e112 (e : Evl) (b : Bal) : callW E 112 [.p e.pv, .p (.agg [.int .i64 b.c, .str b.v])] [] = some ⟨.p (.bool (votP e b)), [], []⟩ := by
  rw [callW_eq, EnvS.h 112 F112 rfl]
  unfold Evl.pv at *
  simp -implicitDefEqProofs only [go_sem, Nat.reduceEqDiff, Nat.reduceAdd, Nat.reduceLeDiff, Nat.reduceLT, reduceCtorEq, ↓reduceIte, Nat.reduceBEq, Int.reduceLT, Int.reduceLE, Int.reduceNeg, Int.reduceEq, Int.toNat_natCast, cast_lit, Int.reduceToNat, F112, s112, s112_4, s112_1, s112_3, s112_2, ]
  repeat' ((first | rw [condW_q] | rw [opsG_q] | rw [opsLG_q]); unfold ifq; split <;> rename_i hq <;> simp -implicitDefEqProofs only [go_sem, Nat.reduceEqDiff, Nat.reduceAdd, Nat.reduceLeDiff, Nat.reduceLT, reduceCtorEq, ↓reduceIte, Nat.reduceBEq, Int.reduceLT, Int.reduceLE, Int.reduceNeg, Int.reduceEq, Int.toNat_natCast, cast_lit, Int.reduceToNat, hq, ])
  all_goals simp_all [votP]
theorem e162 (e : Evl) : callW E 162 [.p e.pv] [] = some ⟨.p (.int .i64 (countE e)), [], []⟩ := by
  rw [callW_eq, EnvS.h 162 F162 rfl]
  unfold Evl.pv at *
  simp -implicitDefEqProofs only [go_sem, Nat.reduceEqDiff, Nat.reduceAdd, Nat.reduceLeDiff, Nat.reduceLT, reduceCtorEq, ↓reduceIte, Nat.reduceBEq, Int.reduceLT, Int.reduceLE, Int.reduceNeg, Int.reduceEq, Int.toNat_natCast, cast_lit, Int.reduceToNat, F162, s162, s162_1, ]
  repeat' ((first | rw [condW_q] | rw [opsG_q] | rw [opsLG_q]); unfold ifq; split <;> rename_i hq <;> simp -implicitDefEqProofs only [go_sem, Nat.reduceEqDiff, Nat.reduceAdd, Nat.reduceLeDiff, Nat.reduceLT, reduceCtorEq, ↓reduceIte, Nat.reduceBEq, Int.reduceLT, Int.reduceLE, Int.reduceNeg, Int.reduceEq, Int.toNat_natCast, cast_lit, Int.reduceToNat, hq, ])
  all_goals simp_all [countE]
theorem e87 (e : Evl) (h : e.t.thin) (v : ByteArray) (lo hi : Int) : callW E 87 [.p e.pv, .p (.str v), .p (.int .i64 lo), .p (.int .i64 hi)] [] = some ⟨.p (.bool (validE e && accC e v lo hi)), [], []⟩ := by
  rw [callW_eq, EnvS.h 87 F87 rfl]
  have h1 := e81 (E := E) e h
  have h2 := e163 (E := E) e v lo hi
  unfold Evl.pv at *
  cases c : validE e <;> simp -implicitDefEqProofs only [go_sem, Nat.reduceEqDiff, Nat.reduceAdd, Nat.reduceLeDiff, Nat.reduceLT, reduceCtorEq, ↓reduceIte, Nat.reduceBEq, Int.reduceLT, Int.reduceLE, Int.reduceNeg, Int.reduceEq, Int.toNat_natCast, cast_lit, Int.reduceToNat, F87, s87, h1, h2, c]
theorem e26 (e : Evl) (h : e.t.thin) (v : ByteArray) (lo hi : Int) : callW E 26 [.p e.pv, .p (.str v), .p (.int .i64 lo), .p (.int .i64 hi)] [] = some ⟨.p (.bool (validE e && votC e v lo hi)), [], []⟩ := by
  rw [callW_eq, EnvS.h 26 F26 rfl]
  have h1 := e81 (E := E) e h
  have h2 := e116 (E := E) e v lo hi
  unfold Evl.pv at *
  cases c : validE e <;> simp -implicitDefEqProofs only [go_sem, Nat.reduceEqDiff, Nat.reduceAdd, Nat.reduceLeDiff, Nat.reduceLT, reduceCtorEq, ↓reduceIte, Nat.reduceBEq, Int.reduceLT, Int.reduceLE, Int.reduceNeg, Int.reduceEq, Int.toNat_natCast, cast_lit, Int.reduceToNat, F26, s26, h1, h2, c]
theorem e23 (e : Evl) (h : e.t.thin) (b : Bal) : callW E 23 [.p e.pv, .p (.agg [.int .i64 b.c, .str b.v])] [] = some ⟨.p (.bool (validE e && accP e b)), [], []⟩ := by
  rw [callW_eq, EnvS.h 23 F23 rfl]
  have h1 := e81 (E := E) e h
  have h2 := e113 (E := E) e b
  unfold Evl.pv at *
  cases c : validE e <;> simp -implicitDefEqProofs only [go_sem, Nat.reduceEqDiff, Nat.reduceAdd, Nat.reduceLeDiff, Nat.reduceLT, reduceCtorEq, ↓reduceIte, Nat.reduceBEq, Int.reduceLT, Int.reduceLE, Int.reduceNeg, Int.reduceEq, Int.toNat_natCast, cast_lit, Int.reduceToNat, F23, s23, h1, h2, c]
theorem e22 (e : Evl) (h : e.t.thin) (b : Bal) : callW E 22 [.p e.pv, .p (.agg [.int .i64 b.c, .str b.v])] [] = some ⟨.p (.bool (validE e && votP e b)), [], []⟩ := by
  rw [callW_eq, EnvS.h 22 F22 rfl]
  have h1 := e81 (E := E) e h
  have h2 := e112 (E := E) e b
  unfold Evl.pv at *
  cases c : validE e <;> simp -implicitDefEqProofs only [go_sem, Nat.reduceEqDiff, Nat.reduceAdd, Nat.reduceLeDiff, Nat.reduceLT, reduceCtorEq, ↓reduceIte, Nat.reduceBEq, Int.reduceLT, Int.reduceLE, Int.reduceNeg, Int.reduceEq, Int.toNat_natCast, cast_lit, Int.reduceToNat, F22, s22, h1, h2, c]
theorem e83 (e : Evl) (h : e.t.thin) : callW E 83 [.p e.pv] [] = some ⟨.p (.int .i64 (if validE e = true then countE e else 0)), [], []⟩ := by
  rw [callW_eq, EnvS.h 83 F83 rfl]
  have h1 := e81 (E := E) e h
  have h2 := e162 (E := E) e
  unfold Evl.pv at *
  cases c : validE e <;> simp -implicitDefEqProofs only [go_sem, Nat.reduceEqDiff, Nat.reduceAdd, Nat.reduceLeDiff, Nat.reduceLT, reduceCtorEq, ↓reduceIte, Nat.reduceBEq, Int.reduceLT, Int.reduceLE, Int.reduceNeg, Int.reduceEq, Int.toNat_natCast, cast_lit, Int.reduceToNat, F83, s83, s83_1, h1, h2, c]
/-- 51 -/
def join (p q b : Bal) : Bal × Bal :=
  if zeroB b = true then (p, q) else if zeroB p = true then (b, q) else if less p b = true then (b, if p.v = b.v then (if q.v = b.v then ⟨0, ByteArray.empty⟩ else q) else p)
  else if (less b p && !decide (p.v = b.v) && (zeroB q || less q b)) = true then (p, b) else (p, q)
def Bal.pv (b : Bal) : PV := .agg [.int .i64 b.c, .str b.v]
theorem e51 (p q b : Bal) : callW E 51 [.p (.agg [.int .i64 p.c, .str p.v]), .p (.agg [.int .i64 q.c, .str q.v]), .p (.agg [.int .i64 b.c, .str b.v])] [] = some ⟨.tup [.p (join p q b).1.pv, .p (join p q b).2.pv], [], []⟩ := by
  rw [callW_eq, EnvS.h 51 F51 rfl]
  simp -implicitDefEqProofs only [go_sem, Nat.reduceEqDiff, Nat.reduceAdd, Nat.reduceLeDiff, Nat.reduceLT, reduceCtorEq, ↓reduceIte, Nat.reduceBEq, Int.reduceLT, Int.reduceLE, Int.reduceNeg, Int.reduceEq, Int.toNat_natCast, cast_lit, Int.reduceToNat, F51, s51, s51_11, s51_10, s51_1, s51_9, s51_6, s51_5, s51_2, s51_4, s51_3, s51_8, s51_7, ]
  repeat' ((first | rw [condW_q] | rw [opsG_q] | rw [opsLG_q]); unfold ifq; split <;> rename_i hq <;> simp -implicitDefEqProofs only [go_sem, Nat.reduceEqDiff, Nat.reduceAdd, Nat.reduceLeDiff, Nat.reduceLT, reduceCtorEq, ↓reduceIte, Nat.reduceBEq, Int.reduceLT, Int.reduceLE, Int.reduceNeg, Int.reduceEq, Int.toNat_natCast, cast_lit, Int.reduceToNat, hq, ])
  all_goals simp_all [join, Bal.pv]
end Go.Ab.S

set_option linter.unusedSimpArgs false
set_option linter.unusedVariables false
set_option linter.unusedSectionVars false
namespace Go.Ab.S
open Go Go.Ab
variable {E : Env} [EnvS E]

theorem e138I (th : Int) (ns : List PV) (h : ns.length ≤ 100) : callW E 138 [.p (.agg [.int .i64 th, .sl 1 ns, .sl 3 []])] [] = some ⟨.p (.agg [.int .i64 th, .sl 1 ns, .sl 3 []]), [], []⟩ := by
  rw [callW_eq, EnvS.h 138 F138 rfl]
  have e := e208 (E := E) ns (by unfold most; omega)
  simp -implicitDefEqProofs only [go_sem, Nat.reduceEqDiff, Nat.reduceAdd, Nat.reduceLeDiff, Nat.reduceLT, reduceCtorEq, ↓reduceIte, Nat.reduceBEq, Int.reduceLT, Int.reduceLE, Int.reduceNeg, Int.reduceEq, Int.toNat_natCast, cast_lit, Int.reduceToNat, F138, s138, s138_3, s138_2, s138_1, loopW_some, e]
theorem loop138 (t : Tr) (h : t.thin) (th : Int) (ns : List PV) : ∀ (suf pre : List In), t.is = pre ++ suf →
    loopW E 0 [2, 3, 13, 14, 15] [.loc 0 1 0, .loc 1 6 0, .loc 5 5 0] (.trim [2, 3, 13, 14, 15] [2] [(0, [2, 3])] [.loc 0 1 0, .loc 1 6 0, .loc 5 5 0] s138_2) (some ⟨[(2, .ptr (.loc 0 1 0) 0), (3, .ptr (.loc 1 6 0) 0), (13, .p (.sl 3 (t.is.map In.pv))), (14, .p (.int .i64 t.is.length)), (15, .p (.int .i64 pre.length))],
       [(.loc 0 1 0, some (.box [.p (.int .i64 0), .nils 1, .nils 3])), (.loc 1 6 0, some (.box [.p (.int .i64 th), .p (.sl 1 ns), ownA 3 (.loc 5 5 0) pre.length])), (.loc 5 5 0, ownO 3 (pre.map In.pv))]⟩) =
    some (.ex 0, ⟨[(2, .ptr (.loc 0 1 0) 0), (3, .ptr (.loc 1 6 0) 0)],
       [(.loc 0 1 0, some (.box [.p (.int .i64 0), .nils 1, .nils 3])), (.loc 1 6 0, some (.box [.p (.int .i64 th), .p (.sl 1 ns), ownA 3 (.loc 5 5 0) t.is.length])), (.loc 5 5 0, ownO 3 (t.is.map In.pv))]⟩) := by
  generalize hK : loopW E 0 _ _ _ = K
  intro suf
  induction suf with
  | nil =>
    intro pre hp
    have hp' : t.is = pre := by simpa using hp
    rw [← hK, loopW_some, hK, hp']
    cases pre with
    | nil => simp -implicitDefEqProofs only [go_sem, Nat.reduceEqDiff, Nat.reduceAdd, Nat.reduceLeDiff, Nat.reduceLT, reduceCtorEq, ↓reduceIte, Nat.reduceBEq, Int.reduceLT, Int.reduceLE, Int.reduceNeg, Int.reduceEq, Int.toNat_natCast, cast_lit, Int.reduceToNat, s138_2, s138_1, ownA_nil, ownO_nil, List.map_nil]
    | cons p pre => simp -implicitDefEqProofs only [go_sem, Nat.reduceEqDiff, Nat.reduceAdd, Nat.reduceLeDiff, Nat.reduceLT, reduceCtorEq, ↓reduceIte, Nat.reduceBEq, Int.reduceLT, Int.reduceLE, Int.reduceNeg, Int.reduceEq, Int.toNat_natCast, cast_lit, Int.reduceToNat, s138_2, s138_1, ownA_succ, ownO_cons, List.map_cons]
  | cons x suf ih =>
    intro pre hp
    have h4 := h.is
    have hlen : t.is.length = pre.length + (suf.length + 1) := by rw [hp]; simp
    have hx : t.is[pre.length]? = some x := by rw [hp]; simp
    have hth : x.ns.length ≤ 12 := h.all x (List.mem_of_getElem? hx)
    obtain ⟨f1, f2, f3⟩ := rangeFacts pre.length t.is.length (by omega) (by omega)
    have e := e138I (E := E) x.th (x.ns.map (.int .i64)) (by simp; omega)
    have ih' := ih (pre ++ [x]) (by simp [hp])
    rw [← hK, loopW_some, hK]
    cases pre with
    | nil =>
      have hm : 1 ≤ most := by unfold most; omega
      simp only [List.map_cons, List.map_nil, List.length_cons, List.length_nil, Nat.zero_add, List.nil_append, ownA_succ, ownO_cons, Int.natCast_zero, cast_lit] at ih' f1 f2 f3 hx
      simp -implicitDefEqProofs only [go_sem, Nat.reduceEqDiff, Nat.reduceAdd, Nat.reduceLeDiff, Nat.reduceLT, reduceCtorEq, ↓reduceIte, Nat.reduceBEq, Int.reduceLT, Int.reduceLE, Int.reduceNeg, Int.reduceEq, Int.toNat_natCast, cast_lit, Int.reduceToNat, s138_2, s138_1, hx, f1, f2, f3, In.pv, e, hm, ownA_nil, ownO_nil, ownA_succ, ownO_cons]
      exact ih'
    | cons p pre =>
      have hm : pre.length + 1 + 1 ≤ most := by simp at hlen; unfold most; omega
      simp only [List.map_append, List.map_cons, List.map_nil, List.length_append, List.length_cons, List.length_nil, Nat.zero_add, List.cons_append, ownA_succ, ownO_cons] at ih' f1 f2 f3 hx
      simp -implicitDefEqProofs only [go_sem, Nat.reduceEqDiff, Nat.reduceAdd, Nat.reduceLeDiff, Nat.reduceLT, reduceCtorEq, ↓reduceIte, Nat.reduceBEq, Int.reduceLT, Int.reduceLE, Int.reduceNeg, Int.reduceEq, Int.toNat_natCast, cast_lit, Int.reduceToNat, s138_2, s138_1, hx, f1, f2, f3, In.pv, e, hm, ownA_succ, ownO_cons]
      exact ih'
theorem e138 (t : Tr) (h : t.thin) : callW E 138 [.p t.pv] [] = some ⟨.p t.pv, [], []⟩ := by
  rw [callW_eq, EnvS.h 138 F138 rfl]
  have h1 := h.ns
  have e := e208 (E := E) (t.ns.map (.int .i64)) (by simp; unfold most; omega)
  have lp := loop138 (E := E) t h t.th (t.ns.map (.int .i64)) t.is [] rfl
  simp only [List.length_nil, Int.natCast_zero, ownA_nil, List.map_nil, ownO_nil] at lp
  unfold Tr.pv
  cases hi : t.is with
  | nil =>
    rw [hi] at lp
    simp only [List.length_nil, Int.natCast_zero, ownA_nil, List.map_nil, ownO_nil] at lp
    simp -implicitDefEqProofs only [go_sem, Nat.reduceEqDiff, Nat.reduceAdd, Nat.reduceLeDiff, Nat.reduceLT, reduceCtorEq, ↓reduceIte, Nat.reduceBEq, Int.reduceLT, Int.reduceLE, Int.reduceNeg, Int.reduceEq, Int.toNat_natCast, cast_lit, Int.reduceToNat, F138, s138, s138_3, e, lp]
  | cons x r =>
    rw [hi] at lp
    simp only [List.length_cons, ownA_succ, List.map_cons, ownO_cons] at lp
    simp -implicitDefEqProofs only [go_sem, Nat.reduceEqDiff, Nat.reduceAdd, Nat.reduceLeDiff, Nat.reduceLT, reduceCtorEq, ↓reduceIte, Nat.reduceBEq, Int.reduceLT, Int.reduceLE, Int.reduceNeg, Int.reduceEq, Int.toNat_natCast, cast_lit, Int.reduceToNat, F138, s138, s138_3, e, lp, List.length_cons, List.map_cons]
end Go.Ab.S

set_option linter.unusedSimpArgs false
set_option linter.unusedVariables false
set_option linter.unusedSectionVars false
namespace Go.Ab.S
open Go Go.Ab
variable {E : Env} [EnvS E]

/-- A member of a configuration. -/
structure Mem where
  d : Bool
  t : Tr
def Mem.pv (m : Mem) : PV := .agg [.bool m.d, .int .i64 m.t.th, .sl 1 (m.t.ns.map (.int .i64)), .sl 3 (m.t.is.map In.pv)]
def memZ : Mem := ⟨false, ⟨0, [], []⟩⟩
def viewS (ms : List Mem) (e : Evl) : List Mem :=
  if validE e = true ∧ (ms[e.node.toNat]?.map Mem.d) = some false then ms.set e.node.toNat ⟨true, e.t⟩ else ms
/-- What a node sees. -/
def viewM (node : Int) (t : Tr) (l : List Evl) : List Mem :=
  if node < 0 ∨ 10 ≤ node then List.replicate 10 memZ else l.foldl viewS ((List.replicate 10 memZ).set node.toNat ⟨true, t⟩)
theorem viewS_len (ms : List Mem) (e : Evl) : (viewS ms e).length = ms.length := by unfold viewS; split <;> simp
theorem validE_node {e : Evl} (h : validE e = true) : 0 ≤ e.node ∧ e.node < 10 := by
  simp only [validE, headE, Bool.and_eq_true, decide_eq_true_eq] at h
  omega

theorem loop53 (l : List Evl) (hl : l.length < 4611686018427387904) (hth : ∀ e ∈ l, e.t.thin) (ms : List Mem) (hms : ms.length = 10) :
    loopW E 0 [6, 7, 26, 27, 28] [.loc 0 1 0, .loc 1 0 0, .loc 1 2 0] (.trim [6, 7, 26, 27, 28] [6] [(0, [6, 7])] [.loc 0 1 0, .loc 1 0 0, .loc 1 2 0] s53_4) (some ⟨[(6, .ptr (.loc 0 1 0) 0), (7, .ptr (.loc 1 2 0) 0), (26, .p (.sl 15 (l.map Evl.pv))), (27, .p (.int .i64 l.length)), (28, .p (.int .i64 0))],
      [(.loc 0 1 0, some (.box [.nils 4])), (.loc 1 0 0, some (.parr (ms.map Mem.pv) 4 false)), (.loc 1 2 0, some (.box [.hsl (.loc 1 0 0) 0 10]))]⟩) =
    some (.ex 0, ⟨[(6, .ptr (.loc 0 1 0) 0), (7, .ptr (.loc 1 2 0) 0)],
      [(.loc 0 1 0, some (.box [.nils 4])), (.loc 1 0 0, some (.parr ((l.foldl viewS ms).map Mem.pv) 4 false)), (.loc 1 2 0, some (.box [.hsl (.loc 1 0 0) 0 10]))]⟩) := by
  generalize hK : loopW E 0 _ _ _ = K
  refine range_loopI K l (fun i (ms : List Mem) => ⟨[(6, .ptr (.loc 0 1 0) 0), (7, .ptr (.loc 1 2 0) 0), (26, .p (.sl 15 (l.map Evl.pv))), (27, .p (.int .i64 l.length)), (28, .p (.int .i64 i))],
      [(.loc 0 1 0, some (.box [.nils 4])), (.loc 1 0 0, some (.parr (ms.map Mem.pv) 4 false)), (.loc 1 2 0, some (.box [.hsl (.loc 1 0 0) 0 10]))]⟩)
    (fun ms r => some (.ex 0, ⟨[(6, .ptr (.loc 0 1 0) 0), (7, .ptr (.loc 1 2 0) 0)],
      [(.loc 0 1 0, some (.box [.nils 4])), (.loc 1 0 0, some (.parr ((r.foldl viewS ms).map Mem.pv) 4 false)), (.loc 1 2 0, some (.box [.hsl (.loc 1 0 0) 0 10]))]⟩)) (fun _ ms => ms.length = 10) ?_ ?_ ms hms
  · intro ms _
    rw [← hK, loopW_some, hK]
    simp -implicitDefEqProofs only [go_sem, Nat.reduceEqDiff, Nat.reduceAdd, Nat.reduceLeDiff, Nat.reduceLT, reduceCtorEq, ↓reduceIte, Nat.reduceBEq, Int.reduceLT, Int.reduceLE, Int.reduceNeg, Int.reduceEq, Int.toNat_natCast, cast_lit, Int.reduceToNat, s53_4, s53_3, s53_2, List.foldl_nil]
  · intro i ms e r hx hn hm10 ih
    obtain ⟨f1, f2, f3⟩ := rangeFacts i l.length (by omega) hl
    have ht := hth e (List.mem_of_getElem? hx)
    have e1 := e81 (E := E) e ht
    have e2 := e138 (E := E) e.t ht
    have ih' := ih (viewS ms e) (by rw [viewS_len]; exact hm10)
    try dsimp only at ih' ⊢
    rw [← hK, loopW_some, hK]
    unfold Evl.pv at e1
    unfold Tr.pv at e2
    cases hv : validE e with
    | false =>
      have hs : viewS ms e = ms := by unfold viewS; simp [hv]
      rw [hs] at ih'
      rw [hv] at e1
      simp -implicitDefEqProofs only [go_sem, Nat.reduceEqDiff, Nat.reduceAdd, Nat.reduceLeDiff, Nat.reduceLT, reduceCtorEq, ↓reduceIte, Nat.reduceBEq, Int.reduceLT, Int.reduceLE, Int.reduceNeg, Int.reduceEq, Int.toNat_natCast, cast_lit, Int.reduceToNat, s53_4, s53_3, s53_2, hx, f1, f2, f3, Evl.pv, e1, ih', List.foldl_cons, hs]
    | true =>
      rw [hv] at e1
      obtain ⟨n0, n1⟩ := validE_node hv
      obtain ⟨k, hk⟩ : ∃ k : Nat, e.node = k := ⟨e.node.toNat, by omega⟩
      have hk10 : k < 10 := by omega
      have hkm : k < ms.length := by omega
      have hg : ms[k]? = some ms[k] := by simp [hkm]
      have hkn : e.node.toNat = k := by omega
      have hm10' : (ms.map Mem.pv).length = 10 := by simp [hm10]
      have h10 : 0 + 10 ≤ ms.length := by omega
      cases hd : ms[k].d with
      | true =>
        have hs : viewS ms e = ms := by unfold viewS; simp [hkn, hg, hd]
        rw [hs] at ih'
        simp -implicitDefEqProofs only [go_sem, Nat.reduceEqDiff, Nat.reduceAdd, Nat.reduceLeDiff, Nat.reduceLT, reduceCtorEq, ↓reduceIte, Nat.reduceBEq, Int.reduceLT, Int.reduceLE, Int.reduceNeg, Int.reduceEq, Int.toNat_natCast, cast_lit, Int.reduceToNat, s53_4, s53_3, s53_2, hx, f1, f2, f3, Evl.pv, e1, ih', List.foldl_cons, hs, n0, hkn, hk10, hg, Mem.pv, hd, hm10, h10]
      | false =>
        have hs : viewS ms e = ms.set k ⟨true, e.t⟩ := by unfold viewS; simp [hkn, hg, hd, hv]
        rw [hs] at ih'
        simp -implicitDefEqProofs only [go_sem, Nat.reduceEqDiff, Nat.reduceAdd, Nat.reduceLeDiff, Nat.reduceLT, reduceCtorEq, ↓reduceIte, Nat.reduceBEq, Int.reduceLT, Int.reduceLE, Int.reduceNeg, Int.reduceEq, Int.toNat_natCast, cast_lit, Int.reduceToNat, s53_4, s53_3, s53_2, hx, f1, f2, f3, Evl.pv, e1, e2, List.foldl_cons, hs, n0, hkn, hk10, hg, Mem.pv, hd, hm10, h10, setE]
        rw [List.map_set] at ih'
        exact ih'
def confPv (ms : List Mem) : PV := .agg [.sl 4 (ms.map Mem.pv)]
theorem viewM_len (node : Int) (t : Tr) (l : List Evl) : (viewM node t l).length = 10 := by
  have key : ∀ (l : List Evl) (ms : List Mem), (l.foldl viewS ms).length = ms.length := by
    intro l
    induction l with
    | nil => intro ms; rfl
    | cons e r ih => intro ms; rw [List.foldl_cons, ih, viewS_len]
  unfold viewM
  split
  · simp
  · rw [key]; simp
theorem mkMem : (List.replicate 10 (PV.agg [.bool false, .int .i64 0, .sl 1 [], .sl 3 []])) = (List.replicate 10 memZ).map Mem.pv := rfl
theorem e53 (node : Int) (t : Tr) (l : List Evl) (ht : t.thin) (hl : l.length < 4611686018427387904) (hth : ∀ e ∈ l, e.t.thin) :
    callW E 53 [.p (.int .i64 node), .p t.pv, .p (.sl 15 (l.map Evl.pv))] [] = some ⟨.p (confPv (viewM node t l)), [], []⟩ := by
  have hlen := viewM_len node t l
  have htk : List.take 10 ((viewM node t l).map Mem.pv) = (viewM node t l).map Mem.pv := List.take_of_length_le (by simp [hlen])
  rw [callW_eq, EnvS.h 53 F53 rfl]
  have e1 := e138 (E := E) t ht
  unfold Tr.pv at *
  unfold confPv
  have h10 : (10 : Int) ≤ ((most : Nat) : Int) := by decide
  by_cases c : node < 0 ∨ 10 ≤ node
  · have hv : viewM node t l = List.replicate 10 memZ := by unfold viewM; rw [if_pos c]
    rw [hv] at htk ⊢
    rcases c with c | c
    · simp -implicitDefEqProofs only [go_sem, Nat.reduceEqDiff, Nat.reduceAdd, Nat.reduceLeDiff, Nat.reduceLT, reduceCtorEq, ↓reduceIte, Nat.reduceBEq, Int.reduceLT, Int.reduceLE, Int.reduceNeg, Int.reduceEq, Int.toNat_natCast, cast_lit, Int.reduceToNat, F53, s53, s53_1, s53_5, c, h10, mkMem, Nat.sub_zero, List.length_replicate, htk]
    · have c' : ¬ node < 0 := by omega
      simp -implicitDefEqProofs only [go_sem, Nat.reduceEqDiff, Nat.reduceAdd, Nat.reduceLeDiff, Nat.reduceLT, reduceCtorEq, ↓reduceIte, Nat.reduceBEq, Int.reduceLT, Int.reduceLE, Int.reduceNeg, Int.reduceEq, Int.toNat_natCast, cast_lit, Int.reduceToNat, F53, s53, s53_1, s53_5, c, c', h10, mkMem, Nat.sub_zero, List.length_replicate, htk]
  · obtain ⟨k, rfl⟩ : ∃ k : Nat, node = k := ⟨node.toNat, by omega⟩
    have c1 : ¬ (k : Int) < 0 := by omega
    have c2 : ¬ (10 : Int) ≤ k := by omega
    have c3 : (0 : Int) ≤ k := by omega
    have c4 : k < 10 := by omega
    have lp := loop53 (E := E) l hl hth ((List.replicate 10 memZ).set k ⟨true, t⟩) (by simp)
    have hv : viewM k t l = l.foldl viewS ((List.replicate 10 memZ).set k ⟨true, t⟩) := by unfold viewM; rw [if_neg c]; rfl
    rw [← hv] at lp
    rw [List.map_set] at lp
    have hg : ((List.replicate 10 memZ).map Mem.pv)[k]? = some (Mem.pv memZ) := by rw [List.getElem?_map, List.getElem?_replicate, if_pos c4]; rfl
    have hmz : Mem.pv memZ = .agg [.bool false, .int .i64 0, .sl 1 [], .sl 3 []] := rfl
    rw [hmz] at hg
    rw [show Mem.pv ⟨true, t⟩ = .agg [.bool true, .int .i64 t.th, .sl 1 (t.ns.map (.int .i64)), .sl 3 (t.is.map In.pv)] from rfl] at lp
    simp -implicitDefEqProofs only [go_sem, Nat.reduceEqDiff, Nat.reduceAdd, Nat.reduceLeDiff, Nat.reduceLT, reduceCtorEq, ↓reduceIte, Nat.reduceBEq, Int.reduceLT, Int.reduceLE, Int.reduceNeg, Int.reduceEq, Int.toNat_natCast, cast_lit, Int.reduceToNat, F53, s53, s53_1, s53_5, c1, c2, c3, c4, h10, mkMem, Nat.sub_zero, List.length_replicate, e1, hg, setE, lp, hlen, htk]
end Go.Ab.S
