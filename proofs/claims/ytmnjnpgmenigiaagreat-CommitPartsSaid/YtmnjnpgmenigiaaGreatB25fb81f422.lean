/- A part of the proof: an executor over plain data, shown sound for the model, and what it computes of the functions. -/
import Derived.Test.YtmnjnpgmenigiaaGreatBb4c48b26f7
set_option linter.all false
namespace Go.Ab.S
open Go Go.Ab
variable {E : Env} [EnvS E]

/-- How many of some nodes are in a set; whom a set satisfies. -/
def cnt (s : Nat) : List Int → Nat
  | [] => 0
  | k :: r => (if hasN s k = true then 1 else 0) + cnt s r
theorem cnt_le (s : Nat) : ∀ l : List Int, cnt s l ≤ l.length
  | [] => Nat.le_refl _
  | k :: r => by
    have := cnt_le s r
    simp only [cnt, List.length_cons]
    split <;> omega
def satI (s : Nat) (t : In) : Bool := decide (t.th ≤ cnt s t.ns)
def cntI (s : Nat) : List In → Nat
  | [] => 0
  | x :: r => (if satI s x = true then 1 else 0) + cntI s r
def satT (s : Nat) (t : Tr) : Bool := decide (t.th ≤ (cnt s t.ns + cntI s t.is : Nat))

theorem loop310a (s : Nat) (hs : s < 1024) (es : List Int) (hl : es.length ≤ 1000) (bx : List AV) (hbx : namesL bx = []) :
    loopW E 0 [1, 2, 5, 14, 15, 16] [.loc 0 0 0] (.trim [1, 2, 5, 14, 15, 16] [4] [(0, [1, 2, 5])] [.loc 0 0 0] s310_4) (some ⟨[(1, .p (.int .i64 s)), (2, .ptr (.loc 0 0 0) 0), (5, .p (.int .i64 0)), (14, .p (.sl 1 (es.map (.int .i64)))), (15, .p (.int .i64 es.length)), (16, .p (.int .i64 0))], [(.loc 0 0 0, some (.box bx))]⟩) =
    some (.ex 0, ⟨[(1, .p (.int .i64 s)), (2, .ptr (.loc 0 0 0) 0), (5, .p (.int .i64 (cnt s es : Nat)))], [(.loc 0 0 0, some (.box bx))]⟩) := by
  have key := range_loopI (loopW E 0 [1, 2, 5, 14, 15, 16] [.loc 0 0 0] (.trim [1, 2, 5, 14, 15, 16] [4] [(0, [1, 2, 5])] [.loc 0 0 0] s310_4)) es
    (fun i (n : Nat) => ⟨[(1, .p (.int .i64 s)), (2, .ptr (.loc 0 0 0) 0), (5, .p (.int .i64 n)), (14, .p (.sl 1 (es.map (.int .i64)))), (15, .p (.int .i64 es.length)), (16, .p (.int .i64 i))], [(.loc 0 0 0, some (.box bx))]⟩)
    (fun n r => some (.ex 0, ⟨[(1, .p (.int .i64 s)), (2, .ptr (.loc 0 0 0) 0), (5, .p (.int .i64 ((n + cnt s r : Nat) : Int)))], [(.loc 0 0 0, some (.box bx))]⟩)) (fun i n => n ≤ i)
  refine (key ?_ ?_ 0 (Nat.le_refl 0)).trans (by simp only [Nat.zero_add])
  · intro n _
    rw [loopW_some]
    generalize hK : loopW E 0 _ _ _ = K
    simp -implicitDefEqProofs only [go_sem, s310_4, s310_3, s310_2, hbx, cnt]
  · intro i n x r hx hn hI ih
    obtain ⟨f1, f2, f3⟩ := rangeFacts i es.length (by omega) (by omega)
    have e := e235 (E := E) s x hs
    have w : IntKind.i64.wrap ((n : Int) + 1) = ((n + 1 : Nat) : Int) := by rw [wrap64 (by omega) (by omega)]; omega
    rw [loopW_some]
    generalize hK : loopW E 0 _ _ _ = K at ih ⊢
    cases hh : hasN s x with
    | true =>
      have ih' := ih (n + 1) (by omega)
      rw [hh] at e
      try dsimp only at ih' ⊢
      simp -implicitDefEqProofs only [go_sem, s310_4, s310_3, s310_2, hx, f1, f2, f3, hbx, e, w, ih', cnt, hh, Nat.add_assoc]
    | false =>
      have ih' := ih n (by omega)
      rw [hh] at e
      try dsimp only at ih' ⊢
      simp -implicitDefEqProofs only [go_sem, s310_4, s310_3, s310_2, hx, f1, f2, f3, hbx, e, ih', cnt, hh]
theorem e310I (s : Nat) (hs : s < 1024) (t : In) (h : t.ns.length ≤ 1000) : callW E 310 [.p (.agg [.int .i64 t.th, .sl 1 (t.ns.map (.int .i64)), .sl 3 []]), .p (.int .i64 s)] [] = some ⟨.p (.bool (satI s t)), [], []⟩ := by
  have lp := loop310a (E := E) s hs t.ns h [.p (.int .i64 t.th), .p (.sl 1 (t.ns.map (.int .i64))), .p (.sl 3 [])] rfl
  rw [callW_eq, EnvS.h 310 F310 rfl]
  unfold satI
  simp -implicitDefEqProofs only [go_sem, F310, s310, s310_1, s310_5, s310_9, s310_8, s310_7, s310_6, loopW_some, e280 (E := E) s hs, lp]
theorem loop310b (s : Nat) (hs : s < 1024) (t : Tr) (h : t.thin) (n : Nat) (hn : n ≤ 100) :
    loopW E 0 [1, 2, 5, 27, 28, 29] [.loc 0 0 0] (.trim [1, 2, 5, 27, 28, 29] [4] [(2, [2, 5])] [.loc 0 0 0] s310_8) (some ⟨[(1, .p (.int .i64 s)), (2, .ptr (.loc 0 0 0) 0), (5, .p (.int .i64 n)), (27, .p (.sl 3 (t.is.map In.pv))), (28, .p (.int .i64 t.is.length)), (29, .p (.int .i64 0))], [(.loc 0 0 0, some (.box [.p (.int .i64 t.th), .p (.sl 1 (t.ns.map (.int .i64))), .p (.sl 3 (t.is.map In.pv))]))]⟩) =
    some (.ex 2, ⟨[(2, .ptr (.loc 0 0 0) 0), (5, .p (.int .i64 ((n + cntI s t.is : Nat) : Int)))], [(.loc 0 0 0, some (.box [.p (.int .i64 t.th), .p (.sl 1 (t.ns.map (.int .i64))), .p (.sl 3 (t.is.map In.pv))]))]⟩) := by
  have key := range_loopI (loopW E 0 [1, 2, 5, 27, 28, 29] [.loc 0 0 0] (.trim [1, 2, 5, 27, 28, 29] [4] [(2, [2, 5])] [.loc 0 0 0] s310_8)) t.is
    (fun i (n : Nat) => ⟨[(1, .p (.int .i64 s)), (2, .ptr (.loc 0 0 0) 0), (5, .p (.int .i64 n)), (27, .p (.sl 3 (t.is.map In.pv))), (28, .p (.int .i64 t.is.length)), (29, .p (.int .i64 i))], [(.loc 0 0 0, some (.box [.p (.int .i64 t.th), .p (.sl 1 (t.ns.map (.int .i64))), .p (.sl 3 (t.is.map In.pv))]))]⟩)
    (fun n r => some (.ex 2, ⟨[(2, .ptr (.loc 0 0 0) 0), (5, .p (.int .i64 ((n + cntI s r : Nat) : Int)))], [(.loc 0 0 0, some (.box [.p (.int .i64 t.th), .p (.sl 1 (t.ns.map (.int .i64))), .p (.sl 3 (t.is.map In.pv))]))]⟩)) (fun i n => n ≤ i + 100)
  have h4 := h.is
  refine key ?_ ?_ n (by omega)
  · intro n _
    rw [loopW_some]
    generalize hK : loopW E 0 _ _ _ = K
    simp -implicitDefEqProofs only [go_sem, s310_8, s310_7, s310_6, cntI]
  · intro i n x r hx hn hI ih
    have hth : x.ns.length ≤ 12 := h.all x (List.mem_of_getElem? hx)
    obtain ⟨f1, f2, f3⟩ := rangeFacts i t.is.length (by omega) (by omega)
    have e := e310I (E := E) s hs x (by omega)
    have w : IntKind.i64.wrap ((n : Int) + 1) = ((n + 1 : Nat) : Int) := by rw [wrap64 (by omega) (by omega)]; omega
    rw [loopW_some]
    generalize hK : loopW E 0 _ _ _ = K at ih ⊢
    cases hh : satI s x with
    | true =>
      have ih' := ih (n + 1) (by omega)
      rw [hh] at e
      try dsimp only at ih' ⊢
      simp -implicitDefEqProofs only [go_sem, s310_8, s310_7, s310_6, hx, f1, f2, f3, In.pv, e, w, ih', cntI, hh, Nat.add_assoc]
    | false =>
      have ih' := ih n (by omega)
      rw [hh] at e
      try dsimp only at ih' ⊢
      simp -implicitDefEqProofs only [go_sem, s310_8, s310_7, s310_6, hx, f1, f2, f3, In.pv, e, ih', cntI, hh]
theorem e310 (s : Nat) (hs : s < 1024) (t : Tr) (h : t.thin) : callW E 310 [.p t.pv, .p (.int .i64 s)] [] = some ⟨.p (.bool (satT s t)), [], []⟩ := by
  have h1 := h.ns
  have h2 := cnt_le s t.ns
  have lp := loop310a (E := E) s hs t.ns (by omega) [.p (.int .i64 t.th), .p (.sl 1 (t.ns.map (.int .i64))), .p (.sl 3 (t.is.map In.pv))] rfl
  have lq := loop310b (E := E) s hs t h (cnt s t.ns) (by omega)
  rw [callW_eq, EnvS.h 310 F310 rfl]
  unfold satT Tr.pv
  simp -implicitDefEqProofs only [go_sem, F310, s310, s310_1, s310_5, s310_9, e280 (E := E) s hs, lp, lq]
/-! as before -/
end Go.Ab.S

namespace Go.Ab.S
open Go Go.Ab
variable {E : Env} [EnvS E]

/-- The first error of a trust (214, 218). -/
def errI (t : In) : Int := if t.th < 1 ∨ (t.ns.length : Int) < t.th then 4 else if t.ns.any badN = true then 5 else (ofL 0 t.ns).2
def errIs : List In → Int
  | [] => 0
  | x :: r => if errI x = 0 then errIs r else errI x
def errT (t : Tr) : Int := if t.th < 1 ∨ (t.ns.length : Int) + t.is.length < t.th then 4 else if t.ns.any badN = true then 5 else if (ofL 0 t.ns).2 = 0 then errIs t.is else (ofL 0 t.ns).2

theorem e214I (t : In) (h : t.thin) : callW E 214 [.p (.agg [.int .i64 t.th, .sl 1 (t.ns.map (.int .i64)), .sl 3 []])] [] = some ⟨.p (.int .i64 (errI t)), [], []⟩ := by
  rw [callW_eq, EnvS.h 214 F214 rfl]
  unfold In.thin at h
  have e1 := e239 (E := E) t.ns (by omega)
  have e2 := e242 (E := E) t.ns (by omega)
  have w : IntKind.i64.wrap ((t.ns.length : Int) + 0) = t.ns.length := by rw [wrap64 (by omega) (by omega)]; omega
  unfold errI
  by_cases c1 : t.th < 1
  · simp -implicitDefEqProofs only [go_sem, F214, s214, s214_1, s214_2, s214_3, s214_7, c1]
  · by_cases c2 : (t.ns.length : Int) < t.th
    · simp -implicitDefEqProofs only [go_sem, F214, s214, s214_1, s214_2, s214_3, s214_7, c1, w, c2]
    · cases c3 : t.ns.any badN with
      | true => simp -implicitDefEqProofs only [go_sem, F214, s214, s214_1, s214_2, s214_3, s214_7, c1, w, c2, e1, c3]
      | false =>
        by_cases c4 : (ofL 0 t.ns).2 = 0
        · simp -implicitDefEqProofs only [go_sem, F214, s214, s214_1, s214_2, s214_3, s214_7, s214_6, s214_5, s214_4, loopW_some, c1, w, c2, e1, c3, e2, c4]
        · simp -implicitDefEqProofs only [go_sem, F214, s214, s214_1, s214_2, s214_3, s214_7, s214_6, s214_5, s214_4, loopW_some, c1, w, c2, e1, c3, e2, c4]
def errR (e : Int) : Option (Ex × St) := if e = 0 then some (.ex 0, ⟨[], []⟩) else some (.ret, ⟨[(2, .p (.int .i64 e))], []⟩)
theorem loop214 (t : Tr) (h : t.thin) : loopW E 0 [36, 37, 38] [] (.trim [36, 37, 38] [2] [(0, [])] [] s214_6) (some ⟨[(36, .p (.sl 3 (t.is.map In.pv))), (37, .p (.int .i64 t.is.length)), (38, .p (.int .i64 0))], []⟩) = errR (errIs t.is) := by
  generalize hK : loopW E 0 _ _ _ = K
  refine range_loopI K t.is (fun i (_ : Unit) => ⟨[(36, .p (.sl 3 (t.is.map In.pv))), (37, .p (.int .i64 t.is.length)), (38, .p (.int .i64 i))], []⟩) (fun _ l => errR (errIs l)) (fun _ _ => True) ?_ ?_ () trivial
  · intro _ _
    rw [← hK, loopW_some, hK]
    simp -implicitDefEqProofs only [go_sem, s214_6, s214_5, s214_4]
    rfl
  · intro i _ x r hx hn _ ih
    have h4 := h.is
    obtain ⟨f1, f2, f3⟩ := rangeFacts i t.is.length (by omega) (by omega)
    have ih' := ih () trivial
    have e := e214I (E := E) x (h.all x (List.mem_of_getElem? hx))
    try dsimp only at ih' ⊢
    rw [← hK, loopW_some, hK]
    by_cases c : errI x = 0
    · simp -implicitDefEqProofs only [go_sem, s214_6, s214_5, s214_4, hx, f1, f2, f3, In.pv, e, c, ih', errIs]
    · simp -implicitDefEqProofs only [go_sem, s214_6, s214_5, s214_4, hx, f1, f2, f3, In.pv, e, c, errIs, errR]
theorem e214 (t : Tr) (h : t.thin) : callW E 214 [.p t.pv] [] = some ⟨.p (.int .i64 (errT t)), [], []⟩ := by
  rw [callW_eq, EnvS.h 214 F214 rfl]
  have h1 := h.ns
  have h2 := h.is
  have e1 := e239 (E := E) t.ns (by omega)
  have e2 := e242 (E := E) t.ns (by omega)
  have w : IntKind.i64.wrap ((t.ns.length : Int) + (t.is.length : Int)) = (t.ns.length : Int) + t.is.length := wrap64 (by omega) (by omega)
  have lp := loop214 (E := E) t h
  unfold errT
  by_cases c1 : t.th < 1
  · simp -implicitDefEqProofs only [go_sem, F214, s214, s214_1, s214_2, s214_3, s214_7, Tr.pv, c1]
  · by_cases c2 : (t.ns.length : Int) + (t.is.length : Int) < t.th
    · simp -implicitDefEqProofs only [go_sem, F214, s214, s214_1, s214_2, s214_3, s214_7, Tr.pv, c1, w, c2]
    · cases c3 : t.ns.any badN with
      | true => simp -implicitDefEqProofs only [go_sem, F214, s214, s214_1, s214_2, s214_3, s214_7, Tr.pv, c1, w, c2, e1, c3]
      | false =>
        by_cases c4 : (ofL 0 t.ns).2 = 0
        · by_cases c5 : errIs t.is = 0
          · simp only [errR, c5, if_true] at lp
            simp -implicitDefEqProofs only [go_sem, F214, s214, s214_1, s214_2, s214_3, s214_7, Tr.pv, lp, c1, w, c2, e1, c3, e2, c4, c5]
          · simp only [errR, c5, if_false] at lp
            simp -implicitDefEqProofs only [go_sem, F214, s214, s214_1, s214_2, s214_3, s214_7, Tr.pv, lp, c1, w, c2, e1, c3, e2, c4, c5]
        · simp -implicitDefEqProofs only [go_sem, F214, s214, s214_1, s214_2, s214_3, s214_7, Tr.pv, c1, w, c2, e1, c3, e2, c4]
/-! ### The reference's -/
theorem loop218a (es : List Int) (hl : es.length < 4611686018427387904) (st : List AV) (hst : namesL st = []) :
    loopW E 0 [1, 26, 27, 28] [.loc 0 0 0] (.trim [1, 26, 27, 28] [2] [(0, [1])] [.loc 0 0 0] s218_4) (some ⟨[(1, .ptr (.loc 0 0 0) 0), (26, .p (.sl 1 (es.map (.int .i64)))), (27, .p (.int .i64 es.length)), (28, .p (.int .i64 0))], [(.loc 0 0 0, some (.box st))]⟩) =
     if es.any badN = true then some (.ret, ⟨[(2, .p (.int .i64 5))], [(.loc 0 0 0, some (.box st))]⟩) else some (.ex 0, ⟨[(1, .ptr (.loc 0 0 0) 0)], [(.loc 0 0 0, some (.box st))]⟩) := by
  generalize hK : loopW E 0 _ _ _ = K
  refine range_loopI K es (fun i (_ : Unit) => ⟨[(1, .ptr (.loc 0 0 0) 0), (26, .p (.sl 1 (es.map (.int .i64)))), (27, .p (.int .i64 es.length)), (28, .p (.int .i64 i))], [(.loc 0 0 0, some (.box st))]⟩) (fun _ l => if l.any badN = true then some (.ret, ⟨[(2, .p (.int .i64 5))], [(.loc 0 0 0, some (.box st))]⟩) else some (.ex 0, ⟨[(1, .ptr (.loc 0 0 0) 0)], [(.loc 0 0 0, some (.box st))]⟩)) (fun _ _ => True) ?_ ?_ () trivial
  · intro _ _
    rw [← hK, loopW_some, hK]
    simp -implicitDefEqProofs only [go_sem, s218_4, s218_3, s218_2, hst, List.any_nil]
  · intro i _ x r hx hn _ ih
    obtain ⟨f1, f2, f3⟩ := rangeFacts i es.length (by omega) hl
    have ih' := ih () trivial
    try dsimp only at ih' ⊢
    rw [← hK, loopW_some, hK]
    by_cases c1 : x < 0
    · have c2 : badN x = true := by unfold badN; simp; omega
      simp -implicitDefEqProofs only [go_sem, s218_4, s218_3, s218_2, hx, f1, f2, f3, hst, c1, c2, List.any_cons]
    · by_cases c2 : 10 ≤ x
      · have c3 : badN x = true := by unfold badN; simp; omega
        simp -implicitDefEqProofs only [go_sem, s218_4, s218_3, s218_2, hx, f1, f2, f3, hst, c1, c2, c3, List.any_cons]
      · have c3 : badN x = false := by unfold badN; simp; omega
        simp -implicitDefEqProofs only [go_sem, s218_4, s218_3, s218_2, hx, f1, f2, f3, hst, c1, c2, c3, ih', List.any_cons]
theorem e218I (t : In) (h : t.thin) : callW E 218 [.p (.agg [.int .i64 t.th, .sl 1 (t.ns.map (.int .i64)), .sl 3 []])] [] = some ⟨.p (.int .i64 (errI t)), [], []⟩ := by
  rw [callW_eq, EnvS.h 218 F218 rfl]
  unfold In.thin at h
  have e1 := loop218a (E := E) t.ns (by omega) [.p (.int .i64 t.th), .p (.sl 1 (t.ns.map (.int .i64))), .p (.sl 3 [])] rfl
  have e2 := e243 (E := E) t.ns (by omega)
  have w : IntKind.i64.wrap ((t.ns.length : Int) + 0) = t.ns.length := by rw [wrap64 (by omega) (by omega)]; omega
  unfold errI
  by_cases c1 : t.th < 1
  · simp -implicitDefEqProofs only [go_sem, F218, s218, s218_1, s218_5, s218_6, s218_10, c1]
  · by_cases c2 : (t.ns.length : Int) < t.th
    · simp -implicitDefEqProofs only [go_sem, F218, s218, s218_1, s218_5, s218_6, s218_10, c1, w, c2]
    · cases c3 : t.ns.any badN with
      | true =>
        simp only [c3, if_true] at e1
        simp -implicitDefEqProofs only [go_sem, F218, s218, s218_1, s218_5, s218_6, s218_10, c1, w, c2, e1]
      | false =>
        simp only [c3, Bool.false_eq_true, if_false] at e1
        by_cases c4 : (ofL 0 t.ns).2 = 0
        · simp -implicitDefEqProofs only [go_sem, F218, s218, s218_1, s218_5, s218_6, s218_10, s218_9, s218_8, s218_7, loopW_some, c1, w, c2, e1, e2, c4]
        · simp -implicitDefEqProofs only [go_sem, F218, s218, s218_1, s218_5, s218_6, s218_10, c1, w, c2, e1, e2, c4]
theorem loop218b (t : Tr) (h : t.thin) : loopW E 0 [49, 50, 51] [] (.trim [49, 50, 51] [2] [(2, [])] [] s218_9) (some ⟨[(49, .p (.sl 3 (t.is.map In.pv))), (50, .p (.int .i64 t.is.length)), (51, .p (.int .i64 0))], []⟩) = if errIs t.is = 0 then some (.ex 2, ⟨[], []⟩) else some (.ret, ⟨[(2, .p (.int .i64 (errIs t.is)))], []⟩) := by
  generalize hK : loopW E 0 _ _ _ = K
  refine range_loopI K t.is (fun i (_ : Unit) => ⟨[(49, .p (.sl 3 (t.is.map In.pv))), (50, .p (.int .i64 t.is.length)), (51, .p (.int .i64 i))], []⟩) (fun _ l => if errIs l = 0 then some (.ex 2, ⟨[], []⟩) else some (.ret, ⟨[(2, .p (.int .i64 (errIs l)))], []⟩)) (fun _ _ => True) ?_ ?_ () trivial
  · intro _ _
    rw [← hK, loopW_some, hK]
    simp -implicitDefEqProofs only [go_sem, s218_9, s218_8, s218_7, errIs]
  · intro i _ x r hx hn _ ih
    have h4 := h.is
    obtain ⟨f1, f2, f3⟩ := rangeFacts i t.is.length (by omega) (by omega)
    have ih' := ih () trivial
    have e := e218I (E := E) x (h.all x (List.mem_of_getElem? hx))
    try dsimp only at ih' ⊢
    rw [← hK, loopW_some, hK]
    by_cases c : errI x = 0
    · simp -implicitDefEqProofs only [go_sem, s218_9, s218_8, s218_7, hx, f1, f2, f3, In.pv, e, c, ih', errIs]
    · simp -implicitDefEqProofs only [go_sem, s218_9, s218_8, s218_7, hx, f1, f2, f3, In.pv, e, c, errIs]
theorem e218 (t : Tr) (h : t.thin) : callW E 218 [.p t.pv] [] = some ⟨.p (.int .i64 (errT t)), [], []⟩ := by
  rw [callW_eq, EnvS.h 218 F218 rfl]
  have h1 := h.ns
  have h2 := h.is
  have e1 := loop218a (E := E) t.ns (by omega) [.p (.int .i64 t.th), .p (.sl 1 (t.ns.map (.int .i64))), .p (.sl 3 (t.is.map In.pv))] rfl
  have e2 := e243 (E := E) t.ns (by omega)
  have w : IntKind.i64.wrap ((t.ns.length : Int) + (t.is.length : Int)) = (t.ns.length : Int) + t.is.length := wrap64 (by omega) (by omega)
  have lp := loop218b (E := E) t h
  unfold errT
  by_cases c1 : t.th < 1
  · simp -implicitDefEqProofs only [go_sem, F218, s218, s218_1, s218_5, s218_6, s218_10, Tr.pv, c1]
  · by_cases c2 : (t.ns.length : Int) + (t.is.length : Int) < t.th
    · simp -implicitDefEqProofs only [go_sem, F218, s218, s218_1, s218_5, s218_6, s218_10, Tr.pv, c1, w, c2]
    · cases c3 : t.ns.any badN with
      | true =>
        simp only [c3, if_true] at e1
        simp -implicitDefEqProofs only [go_sem, F218, s218, s218_1, s218_5, s218_6, s218_10, Tr.pv, c1, w, c2, e1]
      | false =>
        simp only [c3, Bool.false_eq_true, if_false] at e1
        by_cases c4 : (ofL 0 t.ns).2 = 0
        · by_cases c5 : errIs t.is = 0
          · simp only [c5, if_true] at lp
            simp -implicitDefEqProofs only [go_sem, F218, s218, s218_1, s218_5, s218_6, s218_10, Tr.pv, lp, c1, w, c2, e1, e2, c4, c5]
          · simp only [c5, if_false] at lp
            simp -implicitDefEqProofs only [go_sem, F218, s218, s218_1, s218_5, s218_6, s218_10, Tr.pv, lp, c1, w, c2, e1, e2, c4, c5]
        · simp -implicitDefEqProofs only [go_sem, F218, s218, s218_1, s218_5, s218_6, s218_10, Tr.pv, c1, w, c2, e1, e2, c4]
theorem e156 (t : Tr) (h : t.thin) : callW E 156 [.p t.pv] [] = some ⟨.p (.int .i64 (errT t)), [], []⟩ := by
  rw [callW_eq, EnvS.h 156 F156 rfl]
  have e1 := e212 (E := E) t h
  obtain ⟨n, hn, e2⟩ := e213 (E := E) t h
  have e3 := e214 (E := E) t h
  have c1 : ¬ (4 : Int) < (if t.is.length = 0 then 1 else 2) := by split <;> omega
  have c2 : ¬ (200 : Int) < n := by omega
  unfold Tr.pv at e1 e2 e3 ⊢
  simp -implicitDefEqProofs only [go_sem, F156, s156, s156_1, e1, e2, e3, c1, c2]
/-! as before -/
theorem e160 (t : Tr) (h : t.thin) : callW E 160 [.p t.pv] [] = some ⟨.p (.int .i64 (errT t)), [], []⟩ := by
  rw [callW_eq, EnvS.h 160 F160 rfl]
  have e1 := e216 (E := E) t h
  obtain ⟨n, hn, e2⟩ := e217 (E := E) t h
  have e3 := e218 (E := E) t h
  have c1 : ¬ (4 : Int) < (if t.is.length = 0 then 1 else 2) := by split <;> omega
  have c2 : ¬ (200 : Int) < n := by omega
  unfold Tr.pv at e1 e2 e3 ⊢
  simp -implicitDefEqProofs only [go_sem, F160, s160, s160_1, e1, e2, e3, c1, c2]
end Go.Ab.S

namespace Go.Ab.S
open Go Go.Ab
variable {E : Env} [EnvS E]

/-- An envelope. -/
structure Evl where
  node : Int
  slot : Int
  seq : Int
  t : Tr
  k : Int
  b : Bal
  p : Bal
  q : Bal
  lo : Int
  hi : Int
def Evl.pv (e : Evl) : PV := .agg [.int .i64 e.node, .int .i64 e.slot, .int .i64 e.seq, .int .i64 e.t.th, .sl 1 (e.t.ns.map (.int .i64)), .sl 3 (e.t.is.map In.pv), .int .i64 e.k, .int .i64 e.b.c, .str e.b.v, .int .i64 e.p.c, .str e.p.v, .int .i64 e.q.c, .str e.q.v, .int .i64 e.lo, .int .i64 e.hi]
def validB (b : Bal) : Bool := (decide (1 ≤ b.c) && decide (b.c ≤ 1000) || decide (b.c = 1000000)) && (decide (1 ≤ (b.v.size : Int)) && decide ((b.v.size : Int) ≤ 200))
def finite (b : Bal) : Bool := validB b && decide (b.c ≤ 1000)
def optional (b : Bal) : Bool := zeroB b || validB b
def primeE (e : Evl) : Bool := zeroB e.q || (!zeroB e.p && less e.q e.p && !decide (e.q.v = e.p.v))
def ranged (e : Evl) : Bool := decide (1 ≤ e.lo) && decide (e.lo ≤ e.hi) && decide (e.hi ≤ 1000)
def prepE (e : Evl) : Bool := finite e.b && optional e.p && optional e.q && primeE e && decide (0 ≤ e.lo) && decide (e.lo ≤ e.hi) && decide (e.hi ≤ e.b.c) && ((decide (e.hi = 0) || prepares e.p e.q ⟨e.hi, e.b.v⟩) && (decide (e.lo = 0) || (!aborts e.p ⟨e.lo, e.b.v⟩ && !aborts e.q ⟨e.lo, e.b.v⟩)))
def headE (e : Evl) : Bool := decide (0 ≤ e.node) && decide (e.node < 10) && decide (1 ≤ e.slot) && decide (e.slot ≤ 1000000) && decide (1 ≤ e.seq) && decide (e.seq ≤ 1000000) && decide (errT e.t = 0)
def validE (e : Evl) : Bool := headE e && (if e.k = 1 then prepE e else if e.k = 2 then finite e.b && validB e.p && decide (e.p.v = e.b.v) && zeroB e.q && ranged e && decide (e.hi ≤ e.p.c) else if e.k = 3 then validB e.b && zeroB e.p && zeroB e.q && ranged e else false)

theorem e159 (a : Bal) : callW E 159 [.p (.agg [.int .i64 a.c, .str a.v])] [] = some ⟨.p (.bool (validB a)), [], []⟩ := by
  rw [callW_eq, EnvS.h 159 F159 rfl]
  simp -implicitDefEqProofs only [go_sem, F159, s159, ]
  repeat' ((first | rw [condW_q] | rw [opsG_q] | rw [opsLG_q]); unfold ifq; split <;> rename_i hq <;> simp -implicitDefEqProofs only [go_sem, hq, ])
  all_goals simp_all [validB]
  all_goals (intros; first | omega | (exfalso; omega))
attribute [go_sem] e159
/-! as before -/
theorem e161 (a : Bal) : callW E 161 [.p (.agg [.int .i64 a.c, .str a.v])] [] = some ⟨.p (.bool (validB a)), [], []⟩ := by
  rw [callW_eq, EnvS.h 161 F161 rfl]
  simp -implicitDefEqProofs only [go_sem, F161, s161, ]
  repeat' ((first | rw [condW_q] | rw [opsG_q] | rw [opsLG_q]); unfold ifq; split <;> rename_i hq <;> simp -implicitDefEqProofs only [go_sem, hq, ])
  all_goals simp_all [validB]
  all_goals (intros; first | omega | (exfalso; omega))
attribute [go_sem] e161
theorem e158 (a : Bal) : callW E 158 [.p (.agg [.int .i64 a.c, .str a.v])] [] = some ⟨.p (.bool (finite a)), [], []⟩ := by
  rw [callW_eq, EnvS.h 158 F158 rfl]
  simp -implicitDefEqProofs only [go_sem, F158, s158, ]
  repeat' ((first | rw [condW_q] | rw [opsG_q] | rw [opsLG_q]); unfold ifq; split <;> rename_i hq <;> simp -implicitDefEqProofs only [go_sem, hq, ])
  all_goals simp_all [finite]
theorem e215 (a : Bal) : callW E 215 [.p (.agg [.int .i64 a.c, .str a.v])] [] = some ⟨.p (.bool (optional a)), [], []⟩ := by
  rw [callW_eq, EnvS.h 215 F215 rfl]
  simp -implicitDefEqProofs only [go_sem, F215, s215, ]
  repeat' ((first | rw [condW_q] | rw [opsG_q] | rw [opsLG_q]); unfold ifq; split <;> rename_i hq <;> simp -implicitDefEqProofs only [go_sem, hq, ])
  all_goals simp_all [optional]
attribute [go_sem] e158 e215
theorem e104 (e : Evl) (n : Int) : callW E 104 [.p e.pv, .p (.int .i64 n)] [] = some ⟨.p (.agg [.int .i64 n, .str e.b.v]), [], []⟩ := by
  rw [callW_eq, EnvS.h 104 F104 rfl]
  unfold Evl.pv
  simp -implicitDefEqProofs only [go_sem, F104, s104]
theorem e157 (e : Evl) : callW E 157 [.p e.pv] [] = some ⟨.p (.bool (prepE e)), [], []⟩ := by
  rw [callW_eq, EnvS.h 157 F157 rfl]
  have h1 := e104 (E := E) e e.lo
  have h2 := e104 (E := E) e e.hi
  have p1 := e132 (E := E) e.p e.q ⟨e.hi, e.b.v⟩
  have p2 := e122 (E := E) e.p ⟨e.lo, e.b.v⟩
  have p3 := e122 (E := E) e.q ⟨e.lo, e.b.v⟩
  unfold Evl.pv at *
  dsimp only at p1 p2 p3
  simp -implicitDefEqProofs only [go_sem, F157, s157, s157_1, h1, h2, p1, p2, p3]
  repeat' ((first | rw [condW_q] | rw [opsG_q] | rw [opsLG_q]); unfold ifq; split <;> rename_i hq <;> simp -implicitDefEqProofs only [go_sem, hq, h1, h2, p1, p2, p3])
  all_goals (clear p1 p2 p3 h1 h2; unfold prepE primeE; simp_all)
  all_goals (intros; first | omega | (exfalso; omega))
attribute [go_sem] e157
theorem e81 (e : Evl) (h : e.t.thin) : callW E 81 [.p e.pv] [] = some ⟨.p (.bool (validE e)), [], []⟩ := by
  rw [callW_eq, EnvS.h 81 F81 rfl]
  have h1 := e156 (E := E) e.t h
  have h2 := e157 (E := E) e
  unfold Evl.pv at *
  unfold Tr.pv at h1
  unfold validE
  cases c1 : headE e with
  | false =>
    simp -implicitDefEqProofs only [go_sem, F81, s81, s81_1, s81_7, s81_2, s81_6, s81_3, s81_5, s81_4, h1, h2]
    repeat' ((first | rw [condW_q] | rw [opsG_q] | rw [opsLG_q]); unfold ifq; split <;> rename_i hq <;> simp -implicitDefEqProofs only [go_sem, hq, h1, h2])
    all_goals (clear h1 h2; simp_all [headE])
  | true =>
    have c2 := c1
    unfold headE at c2
    simp only [Bool.and_eq_true, decide_eq_true_eq] at c2
    obtain ⟨⟨⟨⟨⟨⟨d1, d2⟩, d3⟩, d4⟩, d5⟩, d6⟩, d7⟩ := c2
    have f1 : ¬ e.node < 0 := by omega
    have f2 : ¬ 10 ≤ e.node := by omega
    have f3 : ¬ e.slot < 1 := by omega
    have f4 : ¬ 1000000 < e.slot := by omega
    have f5 : ¬ e.seq < 1 := by omega
    have f6 : ¬ 1000000 < e.seq := by omega
    simp -implicitDefEqProofs only [go_sem, F81, s81, s81_1, s81_7, s81_2, s81_6, s81_3, s81_5, s81_4, h1, h2, f1, f2, f3, f4, f5, f6, d7]
    repeat' ((first | rw [condW_q] | rw [opsG_q] | rw [opsLG_q]); unfold ifq; split <;> rename_i hq <;> simp -implicitDefEqProofs only [go_sem, hq, h1, h2, f1, f2, f3, f4, f5, f6, d7])
    all_goals (clear h1 h2; simp_all [ranged])
    all_goals (intros; first | omega | (exfalso; omega))
end Go.Ab.S

namespace Go.Ab.S
open Go Go.Ab
variable {E : Env} [EnvS E]

/-- The reference's word for what is valid. -/
def validR (e : Evl) : Bool := headE e && validB e.b && (if e.k = 1 then
    !decide (1000 < e.b.c) && (zeroB e.p || validB e.p) && (zeroB e.q || (!zeroB e.p && validB e.q && less e.q e.p && !decide (e.q.v = e.p.v))) && decide (0 ≤ e.lo) && decide (e.lo ≤ e.hi) && decide (e.hi ≤ e.b.c) &&
    ((!decide (0 < e.hi) || prepares e.p e.q ⟨e.hi, e.b.v⟩) && (decide (e.lo = 0) || (!aborts e.p ⟨e.lo, e.b.v⟩ && !aborts e.q ⟨e.lo, e.b.v⟩)))
  else if e.k = 2 then decide (e.b.c ≤ 1000) && validB e.p && decide (e.p.v = e.b.v) && zeroB e.q && ranged e && decide (e.hi ≤ e.p.c) else if e.k = 3 then zeroB e.p && zeroB e.q && ranged e else false)
theorem validR_eq (e : Evl) : validR e = validE e := by
  unfold validR validE
  cases headE e <;> simp
  by_cases k1 : e.k = 1
  · simp only [k1, if_true, prepE, finite, optional, primeE]
    by_cases h4 : 0 ≤ e.lo ∧ e.lo ≤ e.hi
    · have hd : (!decide (0 < e.hi)) = decide (e.hi = 0) := by rw [Bool.eq_iff_iff]; simp; omega
      have h1 : (!decide (1000 < e.b.c)) = decide (e.b.c ≤ 1000) := by rw [Bool.eq_iff_iff]; simp
      rw [hd, h1]
      generalize ((decide (e.hi = 0) || prepares e.p e.q ⟨e.hi, e.b.v⟩) && (decide (e.lo = 0) || (!aborts e.p ⟨e.lo, e.b.v⟩ && !aborts e.q ⟨e.lo, e.b.v⟩))) = X
      cases validB e.b <;> cases decide (e.b.c ≤ 1000) <;> cases zeroB e.p <;> cases validB e.p <;> cases zeroB e.q <;> cases validB e.q <;> cases less e.q e.p <;> simp
    · have : decide (0 ≤ e.lo) = false ∨ decide (e.lo ≤ e.hi) = false := by
        by_cases h5 : 0 ≤ e.lo
        · right; simp; omega
        · left; simp; omega
      rcases this with h | h <;> simp [h]
  · by_cases k2 : e.k = 2
    · simp [k2, finite]
      cases validB e.b <;> simp
    · by_cases k3 : e.k = 3 <;> simp [k1, k2, k3]
      cases validB e.b <;> simp
set_option maxHeartbeats 4000000 in
theorem e82 (e : Evl) (h : e.t.thin) : callW E 82 [.p e.pv] [] = some ⟨.p (.bool (validE e)), [], []⟩ := by
  rw [← validR_eq]
  rw [callW_eq, EnvS.h 82 F82 rfl]
  have h1 := e160 (E := E) e.t h
  have p1 := e46 (E := E) e.p e.q ⟨e.hi, e.b.v⟩
  have p2 := e90 (E := E) e.p ⟨e.lo, e.b.v⟩
  have p3 := e90 (E := E) e.q ⟨e.lo, e.b.v⟩
  unfold Evl.pv at *
  unfold Tr.pv at h1
  unfold validR
  dsimp only at p1 p2 p3
  cases c1 : headE e with
  | false =>
    simp -implicitDefEqProofs only [go_sem, F82, s82, s82_1, s82_11, s82_6, s82_2, s82_3, s82_4, s82_5, s82_10, s82_7, s82_9, s82_8, h1, p1, p2, p3]
    repeat' ((first | rw [condW_q] | rw [opsG_q] | rw [opsLG_q]); unfold ifq; split <;> rename_i hq <;> simp -implicitDefEqProofs only [go_sem, hq, h1, p1, p2, p3])
    all_goals (clear h1 p1 p2 p3; simp_all [headE])
    all_goals (intros; first | omega | (exfalso; omega))
  | true =>
    have c2 := c1
    unfold headE at c2
    simp only [Bool.and_eq_true, decide_eq_true_eq] at c2
    obtain ⟨⟨⟨⟨⟨⟨d1, d2⟩, d3⟩, d4⟩, d5⟩, d6⟩, d7⟩ := c2
    have f1 : ¬ e.node < 0 := by omega
    have f2 : ¬ 9 < e.node := by omega
    have f3 : ¬ e.slot < 1 := by omega
    have f4 : ¬ 1000000 < e.slot := by omega
    have f5 : ¬ e.seq < 1 := by omega
    have f6 : ¬ 1000000 < e.seq := by omega
    cases c3 : validB e.b with
    | false => simp -implicitDefEqProofs only [go_sem, F82, s82, s82_1, s82_11, s82_6, s82_2, s82_3, s82_4, s82_5, s82_10, s82_7, s82_9, s82_8, h1, p1, p2, p3, f1, f2, f3, f4, f5, f6, d7, c3]
    | true =>
      simp -implicitDefEqProofs only [go_sem, F82, s82, s82_1, s82_11, s82_6, s82_2, s82_3, s82_4, s82_5, s82_10, s82_7, s82_9, s82_8, h1, p1, p2, p3, f1, f2, f3, f4, f5, f6, d7, c3]
      repeat' ((first | rw [condW_q] | rw [opsG_q] | rw [opsLG_q]); unfold ifq; split <;> rename_i hq <;> simp -implicitDefEqProofs only [go_sem, hq, h1, p1, p2, p3, f1, f2, f3, f4, f5, f6, d7, c3])
      all_goals (clear h1 p1 p2 p3; simp_all [ranged])
      all_goals (intros; first | omega | (exfalso; omega))
end Go.Ab.S

namespace Go.Ab.S
open Go Go.Ab
variable {E : Env} [EnvS E]

def fromE (e : Evl) (v : ByteArray) (lo hi : Int) : Bool := decide (1 ≤ lo) && decide (lo ≤ hi) && decide (e.b.v = v) && decide (e.lo ≤ lo)
def accC (e : Evl) (v : ByteArray) (lo hi : Int) : Bool := fromE e v lo hi && (decide (e.k = 3) || (decide (e.k = 2) && decide (hi ≤ e.hi)))
def votC (e : Evl) (v : ByteArray) (lo hi : Int) : Bool := fromE e v lo hi && (!decide (e.k = 1) || (!decide (e.lo = 0) && decide (hi ≤ e.hi)))
def accP (e : Evl) (b : Bal) : Bool := if zeroB b = true then false else if e.k = 1 then prepares e.p e.q b else if e.k = 2 then covers e.p b else decide (e.b.v = b.v)
theorem e198 (e : Evl) (v : ByteArray) (lo hi : Int) : callW E 198 [.p e.pv, .p (.str v), .p (.int .i64 lo), .p (.int .i64 hi)] [] = some ⟨.p (.bool (fromE e v lo hi)), [], []⟩ := by
  rw [callW_eq, EnvS.h 198 F198 rfl]
  unfold Evl.pv
  simp -implicitDefEqProofs only [go_sem, F198, s198, ]
  repeat' ((first | rw [condW_q] | rw [opsG_q] | rw [opsLG_q]); unfold ifq; split <;> rename_i hq <;> simp -implicitDefEqProofs only [go_sem, hq, ])
  all_goals simp_all [fromE]
  all_goals (intros; first | omega | (exfalso; omega))
theorem e163 (e : Evl) (v : ByteArray) (lo hi : Int) : callW E 163 [.p e.pv, .p (.str v), .p (.int .i64 lo), .p (.int .i64 hi)] [] = some ⟨.p (.bool (accC e v lo hi)), [], []⟩ := by
  rw [callW_eq, EnvS.h 163 F163 rfl]
  have h1 := e198 (E := E) e v lo hi
  unfold Evl.pv at *
  simp -implicitDefEqProofs only [go_sem, F163, s163, h1]
  repeat' ((first | rw [condW_q] | rw [opsG_q] | rw [opsLG_q]); unfold ifq; split <;> rename_i hq <;> simp -implicitDefEqProofs only [go_sem, hq, h1])
  all_goals (clear h1; simp_all [accC])
  all_goals (intros; first | omega | (exfalso; omega))
theorem e116 (e : Evl) (v : ByteArray) (lo hi : Int) : callW E 116 [.p e.pv, .p (.str v), .p (.int .i64 lo), .p (.int .i64 hi)] [] = some ⟨.p (.bool (votC e v lo hi)), [], []⟩ := by
  rw [callW_eq, EnvS.h 116 F116 rfl]
  have h1 := e198 (E := E) e v lo hi
  unfold Evl.pv at *
  simp -implicitDefEqProofs only [go_sem, F116, s116, h1]
  repeat' ((first | rw [condW_q] | rw [opsG_q] | rw [opsLG_q]); unfold ifq; split <;> rename_i hq <;> simp -implicitDefEqProofs only [go_sem, hq, h1])
  all_goals (clear h1; simp_all [votC])
  all_goals (intros; first | omega | (exfalso; omega))
def Bal.pv (b : Bal) : PV := .agg [.int .i64 b.c, .str b.v]
end Go.Ab.S

namespace Go.Ab.S
open Go Go.Ab
variable {E : Env} [EnvS E]

theorem e138I (th : Int) (ns : List PV) (h : ns.length ≤ 100) : callW E 138 [.p (.agg [.int .i64 th, .sl 1 ns, .sl 3 []])] [] = some ⟨.p (.agg [.int .i64 th, .sl 1 ns, .sl 3 []]), [], []⟩ := by
  rw [callW_eq, EnvS.h 138 F138 rfl]
  have e := e208 (E := E) ns (by unfold most; omega)
  simp -implicitDefEqProofs only [go_sem, F138, s138, s138_3, s138_2, s138_1, loopW_some, e]
theorem loop138 (t : Tr) (h : t.thin) (th : Int) (ns : List PV) : ∀ (suf pre : List In), t.is = pre ++ suf →
    loopW E 0 [2, 3, 13, 14, 15] [.loc 0 1 0, .loc 1 6 0, .loc 5 5 0] (.trim [2, 3, 13, 14, 15] [2] [(0, [2, 3])] [.loc 0 1 0, .loc 1 6 0, .loc 5 5 0] s138_2) (some ⟨[(2, .ptr (.loc 0 1 0) 0), (3, .ptr (.loc 1 6 0) 0), (13, .p (.sl 3 (t.is.map In.pv))), (14, .p (.int .i64 t.is.length)), (15, .p (.int .i64 pre.length))],
       [(.loc 0 1 0, some (.box [.p (.int .i64 0), .nils 1, .nils 3])), (.loc 1 6 0, some (.box [.p (.int .i64 th), .p (.sl 1 ns), ownA 3 (.loc 5 5 0) pre.length])), (.loc 5 5 0, ownO 3 (pre.map In.pv))]⟩) =
    some (.ex 0, ⟨[(2, .ptr (.loc 0 1 0) 0), (3, .ptr (.loc 1 6 0) 0)],
       [(.loc 0 1 0, some (.box [.p (.int .i64 0), .nils 1, .nils 3])), (.loc 1 6 0, some (.box [.p (.int .i64 th), .p (.sl 1 ns), ownA 3 (.loc 5 5 0) t.is.length])), (.loc 5 5 0, ownO 3 (t.is.map In.pv))]⟩) := by
  generalize hK : loopW E 0 _ _ _ = K
  intro suf
  induction suf with
  | nil =>
    intro pre hp
    have hp' : t.is = pre := by simpa using hp
    rw [← hK, loopW_some, hK, hp']
    cases pre with
    | nil => simp -implicitDefEqProofs only [go_sem, s138_2, s138_1, ownA_nil, ownO_nil, List.map_nil]
    | cons p pre => simp -implicitDefEqProofs only [go_sem, s138_2, s138_1, ownA_succ, ownO_cons, List.map_cons]
  | cons x suf ih =>
    intro pre hp
    have h4 := h.is
    have hlen : t.is.length = pre.length + (suf.length + 1) := by rw [hp]; simp
    have hx : t.is[pre.length]? = some x := by rw [hp]; simp
    have hth : x.ns.length ≤ 12 := h.all x (List.mem_of_getElem? hx)
    obtain ⟨f1, f2, f3⟩ := rangeFacts pre.length t.is.length (by omega) (by omega)
    have e := e138I (E := E) x.th (x.ns.map (.int .i64)) (by simp; omega)
    have ih' := ih (pre ++ [x]) (by simp [hp])
    rw [← hK, loopW_some, hK]
    cases pre with
    | nil =>
      have hm : 1 ≤ most := by unfold most; omega
      simp only [List.map_cons, List.map_nil, List.length_cons, List.length_nil, Nat.zero_add, List.nil_append, ownA_succ, ownO_cons, Int.natCast_zero, cast_lit] at ih' f1 f2 f3 hx
      simp -implicitDefEqProofs only [go_sem, s138_2, s138_1, hx, f1, f2, f3, In.pv, e, hm, ownA_nil, ownO_nil, ownA_succ, ownO_cons]
      exact ih'
    | cons p pre =>
      have hm : pre.length + 1 + 1 ≤ most := by simp at hlen; unfold most; omega
      simp only [List.map_append, List.map_cons, List.map_nil, List.length_append, List.length_cons, List.length_nil, Nat.zero_add, List.cons_append, ownA_succ, ownO_cons] at ih' f1 f2 f3 hx
      simp -implicitDefEqProofs only [go_sem, s138_2, s138_1, hx, f1, f2, f3, In.pv, e, hm, ownA_succ, ownO_cons]
      exact ih'
theorem e138 (t : Tr) (h : t.thin) : callW E 138 [.p t.pv] [] = some ⟨.p t.pv, [], []⟩ := by
  rw [callW_eq, EnvS.h 138 F138 rfl]
  have h1 := h.ns
  have e := e208 (E := E) (t.ns.map (.int .i64)) (by simp; unfold most; omega)
  have lp := loop138 (E := E) t h t.th (t.ns.map (.int .i64)) t.is [] rfl
  simp only [List.length_nil, Int.natCast_zero, ownA_nil, List.map_nil, ownO_nil] at lp
  unfold Tr.pv
  cases hi : t.is with
  | nil =>
    rw [hi] at lp
    simp only [List.length_nil, Int.natCast_zero, ownA_nil, List.map_nil, ownO_nil] at lp
    simp -implicitDefEqProofs only [go_sem, F138, s138, s138_3, e, lp]
  | cons x r =>
    rw [hi] at lp
    simp only [List.length_cons, ownA_succ, List.map_cons, ownO_cons] at lp
    simp -implicitDefEqProofs only [go_sem, F138, s138, s138_3, e, lp, List.length_cons, List.map_cons]
end Go.Ab.S

namespace Go.Ab.S
open Go Go.Ab
variable {E : Env} [EnvS E]

/-- A member of a configuration. -/
structure Mem where
  d : Bool
  t : Tr
def Mem.pv (m : Mem) : PV := .agg [.bool m.d, .int .i64 m.t.th, .sl 1 (m.t.ns.map (.int .i64)), .sl 3 (m.t.is.map In.pv)]
def memZ : Mem := ⟨false, ⟨0, [], []⟩⟩
def viewS (ms : List Mem) (e : Evl) : List Mem :=
  if validE e = true ∧ (ms[e.node.toNat]?.map Mem.d) = some false then ms.set e.node.toNat ⟨true, e.t⟩ else ms
/-- What a node sees. -/
def viewM (node : Int) (t : Tr) (l : List Evl) : List Mem :=
  if node < 0 ∨ 10 ≤ node then List.replicate 10 memZ else l.foldl viewS ((List.replicate 10 memZ).set node.toNat ⟨true, t⟩)
theorem viewS_len (ms : List Mem) (e : Evl) : (viewS ms e).length = ms.length := by unfold viewS; split <;> simp
theorem validE_node {e : Evl} (h : validE e = true) : 0 ≤ e.node ∧ e.node < 10 := by
  simp only [validE, headE, Bool.and_eq_true, decide_eq_true_eq] at h
  omega

theorem loop53 (l : List Evl) (hl : l.length < 4611686018427387904) (hth : ∀ e ∈ l, e.t.thin) (ms : List Mem) (hms : ms.length = 10) :
    loopW E 0 [6, 7, 26, 27, 28] [.loc 0 1 0, .loc 1 0 0, .loc 1 2 0] (.trim [6, 7, 26, 27, 28] [6] [(0, [6, 7])] [.loc 0 1 0, .loc 1 0 0, .loc 1 2 0] s53_4) (some ⟨[(6, .ptr (.loc 0 1 0) 0), (7, .ptr (.loc 1 2 0) 0), (26, .p (.sl 15 (l.map Evl.pv))), (27, .p (.int .i64 l.length)), (28, .p (.int .i64 0))],
      [(.loc 0 1 0, some (.box [.nils 4])), (.loc 1 0 0, some (.parr (ms.map Mem.pv) 4 false)), (.loc 1 2 0, some (.box [.hsl (.loc 1 0 0) 0 10]))]⟩) =
    some (.ex 0, ⟨[(6, .ptr (.loc 0 1 0) 0), (7, .ptr (.loc 1 2 0) 0)],
      [(.loc 0 1 0, some (.box [.nils 4])), (.loc 1 0 0, some (.parr ((l.foldl viewS ms).map Mem.pv) 4 false)), (.loc 1 2 0, some (.box [.hsl (.loc 1 0 0) 0 10]))]⟩) := by
  generalize hK : loopW E 0 _ _ _ = K
  refine range_loopI K l (fun i (ms : List Mem) => ⟨[(6, .ptr (.loc 0 1 0) 0), (7, .ptr (.loc 1 2 0) 0), (26, .p (.sl 15 (l.map Evl.pv))), (27, .p (.int .i64 l.length)), (28, .p (.int .i64 i))],
      [(.loc 0 1 0, some (.box [.nils 4])), (.loc 1 0 0, some (.parr (ms.map Mem.pv) 4 false)), (.loc 1 2 0, some (.box [.hsl (.loc 1 0 0) 0 10]))]⟩)
    (fun ms r => some (.ex 0, ⟨[(6, .ptr (.loc 0 1 0) 0), (7, .ptr (.loc 1 2 0) 0)],
      [(.loc 0 1 0, some (.box [.nils 4])), (.loc 1 0 0, some (.parr ((r.foldl viewS ms).map Mem.pv) 4 false)), (.loc 1 2 0, some (.box [.hsl (.loc 1 0 0) 0 10]))]⟩)) (fun _ ms => ms.length = 10) ?_ ?_ ms hms
  · intro ms _
    rw [← hK, loopW_some, hK]
    simp -implicitDefEqProofs only [go_sem, s53_4, s53_3, s53_2, List.foldl_nil]
  · intro i ms e r hx hn hm10 ih
    obtain ⟨f1, f2, f3⟩ := rangeFacts i l.length (by omega) hl
    have ht := hth e (List.mem_of_getElem? hx)
    have e1 := e81 (E := E) e ht
    have e2 := e138 (E := E) e.t ht
    have ih' := ih (viewS ms e) (by rw [viewS_len]; exact hm10)
    try dsimp only at ih' ⊢
    rw [← hK, loopW_some, hK]
    unfold Evl.pv at e1
    unfold Tr.pv at e2
    cases hv : validE e with
    | false =>
      have hs : viewS ms e = ms := by unfold viewS; simp [hv]
      rw [hs] at ih'
      rw [hv] at e1
      simp -implicitDefEqProofs only [go_sem, s53_4, s53_3, s53_2, hx, f1, f2, f3, Evl.pv, e1, ih', List.foldl_cons, hs]
    | true =>
      rw [hv] at e1
      obtain ⟨n0, n1⟩ := validE_node hv
      obtain ⟨k, hk⟩ : ∃ k : Nat, e.node = k := ⟨e.node.toNat, by omega⟩
      have hk10 : k < 10 := by omega
      have hkm : k < ms.length := by omega
      have hg : ms[k]? = some ms[k] := by simp [hkm]
      have hkn : e.node.toNat = k := by omega
      have hm10' : (ms.map Mem.pv).length = 10 := by simp [hm10]
      have h10 : 0 + 10 ≤ ms.length := by omega
      cases hd : ms[k].d with
      | true =>
        have hs : viewS ms e = ms := by unfold viewS; simp [hkn, hg, hd]
        rw [hs] at ih'
        simp -implicitDefEqProofs only [go_sem, s53_4, s53_3, s53_2, hx, f1, f2, f3, Evl.pv, e1, ih', List.foldl_cons, hs, n0, hkn, hk10, hg, Mem.pv, hd, hm10, h10]
      | false =>
        have hs : viewS ms e = ms.set k ⟨true, e.t⟩ := by unfold viewS; simp [hkn, hg, hd, hv]
        rw [hs] at ih'
        simp -implicitDefEqProofs only [go_sem, s53_4, s53_3, s53_2, hx, f1, f2, f3, Evl.pv, e1, e2, List.foldl_cons, hs, n0, hkn, hk10, hg, Mem.pv, hd, hm10, h10, setE]
        rw [List.map_set] at ih'
        exact ih'
def confPv (ms : List Mem) : PV := .agg [.sl 4 (ms.map Mem.pv)]
theorem viewM_len (node : Int) (t : Tr) (l : List Evl) : (viewM node t l).length = 10 := by
  have key : ∀ (l : List Evl) (ms : List Mem), (l.foldl viewS ms).length = ms.length := by
    intro l
    induction l with
    | nil => intro ms; rfl
    | cons e r ih => intro ms; rw [List.foldl_cons, ih, viewS_len]
  unfold viewM
  split
  · simp
  · rw [key]; simp
theorem mkMem : (List.replicate 10 (PV.agg [.bool false, .int .i64 0, .sl 1 [], .sl 3 []])) = (List.replicate 10 memZ).map Mem.pv := rfl
theorem e53 (node : Int) (t : Tr) (l : List Evl) (ht : t.thin) (hl : l.length < 4611686018427387904) (hth : ∀ e ∈ l, e.t.thin) :
    callW E 53 [.p (.int .i64 node), .p t.pv, .p (.sl 15 (l.map Evl.pv))] [] = some ⟨.p (confPv (viewM node t l)), [], []⟩ := by
  have hlen := viewM_len node t l
  have htk : List.take 10 ((viewM node t l).map Mem.pv) = (viewM node t l).map Mem.pv := List.take_of_length_le (by simp [hlen])
  rw [callW_eq, EnvS.h 53 F53 rfl]
  have e1 := e138 (E := E) t ht
  unfold Tr.pv at *
  unfold confPv
  have h10 : (10 : Int) ≤ ((most : Nat) : Int) := by decide
  by_cases c : node < 0 ∨ 10 ≤ node
  · have hv : viewM node t l = List.replicate 10 memZ := by unfold viewM; rw [if_pos c]
    rw [hv] at htk ⊢
    rcases c with c | c
    · simp -implicitDefEqProofs only [go_sem, F53, s53, s53_1, s53_5, c, h10, mkMem, Nat.sub_zero, List.length_replicate, htk]
    · have c' : ¬ node < 0 := by omega
      simp -implicitDefEqProofs only [go_sem, F53, s53, s53_1, s53_5, c, c', h10, mkMem, Nat.sub_zero, List.length_replicate, htk]
  · obtain ⟨k, rfl⟩ : ∃ k : Nat, node = k := ⟨node.toNat, by omega⟩
    have c1 : ¬ (k : Int) < 0 := by omega
    have c2 : ¬ (10 : Int) ≤ k := by omega
    have c3 : (0 : Int) ≤ k := by omega
    have c4 : k < 10 := by omega
    have lp := loop53 (E := E) l hl hth ((List.replicate 10 memZ).set k ⟨true, t⟩) (by simp)
    have hv : viewM k t l = l.foldl viewS ((List.replicate 10 memZ).set k ⟨true, t⟩) := by unfold viewM; rw [if_neg c]; rfl
    rw [← hv] at lp
    rw [List.map_set] at lp
    have hg : ((List.replicate 10 memZ).map Mem.pv)[k]? = some (Mem.pv memZ) := by rw [List.getElem?_map, List.getElem?_replicate, if_pos c4]; rfl
    have hmz : Mem.pv memZ = .agg [.bool false, .int .i64 0, .sl 1 [], .sl 3 []] := rfl
    rw [hmz] at hg
    rw [show Mem.pv ⟨true, t⟩ = .agg [.bool true, .int .i64 t.th, .sl 1 (t.ns.map (.int .i64)), .sl 3 (t.is.map In.pv)] from rfl] at lp
    simp -implicitDefEqProofs only [go_sem, F53, s53, s53_1, s53_5, c1, c2, c3, c4, h10, mkMem, Nat.sub_zero, List.length_replicate, e1, hg, setE, lp, hlen, htk]
end Go.Ab.S

namespace Go.Ab.S
open Go Go.Ab
variable {E : Env} [EnvS E]

/-! ### Who is declared -/
def declN : Nat → Nat → List Mem → Nat
  | _, acc, [] => acc
  | i, acc, m :: r => declN (i + 1) (if m.d = true ∧ i < 10 then acc ||| 2 ^ i else acc) r
theorem declN_lt : ∀ (ms : List Mem) (i acc : Nat), acc < 1024 → declN i acc ms < 1024
  | [], i, acc, h => h
  | m :: r, i, acc, h => by
    simp only [declN]
    apply declN_lt
    split
    · exact or_lt _ _ h (by rename_i h; exact h.2)
    · exact h
def decl (ms : List Mem) : Nat := declN 0 0 ms
theorem decl_lt (ms : List Mem) : decl ms < 1024 := declN_lt ms 0 0 (by decide)
theorem declN_bit : ∀ (ms : List Mem) (i acc k : Nat), (declN i acc ms).testBit k = (acc.testBit k || (decide (i ≤ k) && decide (k < 10) && ((ms[k - i]?.map Mem.d) == some true)))
  | [], i, acc, k => by simp [declN]
  | m :: r, i, acc, k => by
    simp only [declN]
    rw [declN_bit r (i + 1)]
    by_cases h : i = k
    · subst h
      have h1 : ¬ (i + 1 ≤ i) := by omega
      simp only [h1, decide_false, Bool.false_and, Bool.or_false, Nat.le_refl, decide_true, Bool.true_and, Nat.sub_self, List.getElem?_cons_zero, Option.map_some]
      by_cases h2 : i < 10
      · cases hd : m.d <;> simp [h2, Nat.testBit_or, Nat.testBit_two_pow]
      · simp [h2]
    · have hk : (if m.d = true ∧ i < 10 then acc ||| 2 ^ i else acc).testBit k = acc.testBit k := by
        split
        · rw [Nat.testBit_or, Nat.testBit_two_pow]; simp [h]
        · rfl
      rw [hk]
      by_cases h2 : i ≤ k
      · have h3 : i + 1 ≤ k := by omega
        have h4 : k - i = (k - (i + 1)) + 1 := by omega
        rw [h4, List.getElem?_cons_succ]
        simp [h2, h3]
      · have h3 : ¬ i + 1 ≤ k := by omega
        simp [h2, h3]
theorem decl_bit (ms : List Mem) (k : Nat) : (decl ms).testBit k = (decide (k < 10) && ((ms[k]?.map Mem.d) == some true)) := by
  unfold decl
  rw [declN_bit]
  simp

theorem loop309 (ms : List Mem) (hl : ms.length ≤ 1000) :
    loopW E 0 [3, 7, 8, 9] [] (.trim [3, 7, 8, 9] [2] [(0, [3])] [] s309_3) (some ⟨[(3, .p (.int .i64 0)), (7, .p (.sl 4 (ms.map Mem.pv))), (8, .p (.int .i64 ms.length)), (9, .p (.int .i64 0))], []⟩) = some (.ex 0, ⟨[(3, .p (.int .i64 (decl ms : Nat)))], []⟩) := by
  have key := range_loopI (loopW E 0 [3, 7, 8, 9] [] (.trim [3, 7, 8, 9] [2] [(0, [3])] [] s309_3)) ms
    (fun i (a : Nat) => ⟨[(3, .p (.int .i64 a)), (7, .p (.sl 4 (ms.map Mem.pv))), (8, .p (.int .i64 ms.length)), (9, .p (.int .i64 i))], []⟩)
    (fun a r => some (.ex 0, ⟨[(3, .p (.int .i64 (declN (ms.length - r.length) a r : Nat)))], []⟩)) (fun _ a => a < 1024)
  refine (key ?_ ?_ 0 (by decide)).trans (by simp only [Nat.sub_self]; rfl)
  · intro a _
    rw [loopW_some]
    generalize hK : loopW E 0 _ _ _ = K
    simp -implicitDefEqProofs only [go_sem, s309_3, s309_2, s309_1, declN]
  · intro i a m r hx hn hI ih
    obtain ⟨f1, f2, f3⟩ := rangeFacts i ms.length (by omega) (by omega)
    have hi : ms.length - (r.length + 1) = i := by omega
    have hi2 : ms.length - r.length = i + 1 := by omega
    rw [loopW_some]
    generalize hK : loopW E 0 _ _ _ = K at ih ⊢
    by_cases h10 : i < 10
    · have h10' : (i : Int) < 10 := by omega
      have f4 : ¬ (i : Int) < 0 := by omega
      have w := orI_nat a (2 ^ i) (by omega) (Nat.lt_trans (pow_lt i h10) (by decide))
      cases hd : m.d with
      | true =>
        have ih' := ih (a ||| 2 ^ i) (or_lt _ _ hI h10)
        try dsimp only at ih' ⊢
        rw [hi2] at ih'
        simp -implicitDefEqProofs only [go_sem, s309_3, s309_2, s309_1, hx, f1, f2, f3, Mem.pv, hd, h10, h10', shl1 i (by omega), w, ih', declN, hi, f4]
      | false =>
        have ih' := ih a hI
        try dsimp only at ih' ⊢
        rw [hi2] at ih'
        simp -implicitDefEqProofs only [go_sem, s309_3, s309_2, s309_1, hx, f1, f2, f3, Mem.pv, hd, h10, h10', ih', declN, hi]
    · have h10' : ¬ (i : Int) < 10 := by omega
      have ih' := ih a hI
      try dsimp only at ih' ⊢
      rw [hi2] at ih'
      cases hd : m.d <;> simp -implicitDefEqProofs only [go_sem, s309_3, s309_2, s309_1, hx, f1, f2, f3, Mem.pv, hd, h10, h10', ih', declN, hi]
theorem e309 (ms : List Mem) (hl : ms.length ≤ 1000) : callW E 309 [.p (confPv ms)] [] = some ⟨.p (.int .i64 (decl ms : Nat)), [], []⟩ := by
  have lp := loop309 (E := E) ms hl
  rw [callW_eq, EnvS.h 309 F309 rfl]
  unfold confPv
  simp -implicitDefEqProofs only [go_sem, F309, s309, s309_4, lp]

/-! ### The nodes of a set -/
def nodesL (s : Nat) : Nat → Nat → List Nat
  | 0, _ => []
  | k + 1, i => if s.testBit i = true then i :: nodesL s k (i + 1) else nodesL s k (i + 1)
def nodes (s : Nat) : List Nat := nodesL s 10 0
theorem nodesL_mem (s : Nat) : ∀ (k i x : Nat), x ∈ nodesL s k i ↔ (i ≤ x ∧ x < i + k ∧ s.testBit x = true)
  | 0, i, x => by simp [nodesL]; omega
  | k + 1, i, x => by
    simp only [nodesL]
    split
    · rename_i h
      rw [List.mem_cons, nodesL_mem s k (i + 1)]
      constructor
      · rintro (rfl | ⟨h1, h2, h3⟩)
        · exact ⟨Nat.le_refl _, by omega, h⟩
        · exact ⟨by omega, by omega, h3⟩
      · rintro ⟨h1, h2, h3⟩
        by_cases hx : x = i
        · exact .inl hx
        · exact .inr ⟨by omega, by omega, h3⟩
    · rename_i h
      rw [nodesL_mem s k (i + 1)]
      constructor
      · rintro ⟨h1, h2, h3⟩; exact ⟨by omega, by omega, h3⟩
      · rintro ⟨h1, h2, h3⟩
        by_cases hx : x = i
        · subst hx; exact absurd h3 h
        · exact ⟨by omega, by omega, h3⟩
theorem nodes_mem (s x : Nat) : x ∈ nodes s ↔ (x < 10 ∧ s.testBit x = true) := by
  unfold nodes
  rw [nodesL_mem]
  constructor
  · rintro ⟨_, h1, h2⟩; exact ⟨by omega, h2⟩
  · rintro ⟨h1, h2⟩; exact ⟨by omega, by omega, h2⟩
theorem nodesL_len (s : Nat) : ∀ (k i : Nat), (nodesL s k i).length ≤ k
  | 0, i => Nat.le_refl _
  | k + 1, i => by
    have := nodesL_len s k (i + 1)
    simp only [nodesL]
    split
    · simp only [List.length_cons]; omega
    · omega
def intN (k : Nat) : PV := .int .i64 k
theorem hasN_nat (s k : Nat) (h : k < 10) : hasN s (k : Int) = s.testBit k := by
  have h1 : (0 : Int) ≤ k := by omega
  have h2 : (k : Int) < 10 := by omega
  simp [hasN, h1, h2]

theorem loop320 (s : Nat) (hs : s < 1024) : ∀ (k i : Nat) (ns : List Nat), k + i = 10 → ns.length ≤ i →
    loopW E 0 [0, 3, 5] [.loc 1 0 0] (.trim [0, 3, 5] [2] [(0, [3])] [.loc 1 0 0] s320_3) (some ⟨[(0, .p (.int .i64 s)), (3, .hsl (.loc 1 0 0) 0 ns.length), (5, .p (.int .i64 i))], [(.loc 1 0 0, some (.parr (ns.map intN) 1 false))]⟩) =
    some (.ex 0, ⟨[(3, .hsl (.loc 1 0 0) 0 (ns ++ nodesL s k i).length)], [(.loc 1 0 0, some (.parr ((ns ++ nodesL s k i).map intN) 1 false))]⟩) := by
  generalize hK : loopW E 0 _ _ _ = K
  intro k
  induction k with
  | zero =>
    intro i ns hk hns
    have hlt : ¬ (i : Int) < 10 := by omega
    rw [← hK, loopW_some, hK]
    simp -implicitDefEqProofs only [go_sem, s320_3, s320_2, s320_1, hlt, nodesL]
  | succ k ih =>
    intro i ns hk hns
    have hlt : (i : Int) < 10 := by omega
    have e := e235 (E := E) s (i : Int) hs
    rw [hasN_nat s i (by omega)] at e
    have hw : IntKind.i64.wrap ((i : Int) + 1) = ((i + 1 : Nat) : Int) := by rw [wrap64 (by omega) (by omega)]; omega
    rw [← hK, loopW_some, hK]
    cases h : s.testBit i with
    | true =>
      have hm : ns.length + 1 ≤ most := by unfold most; omega
      have ih' := ih (i + 1) (ns ++ [i]) (by omega) (by simp; omega)
      simp only [List.map_append, List.map_cons, List.map_nil, List.length_append, List.length_cons, List.length_nil, Nat.zero_add, List.append_assoc, List.singleton_append] at ih'
      rw [h] at e
      rw [show intN i = .int .i64 (i : Int) from rfl] at ih'
      simp -implicitDefEqProofs only [go_sem, s320_3, s320_2, s320_1, hlt, e, hw, h, hm, nodesL, List.map_append, List.append_assoc, List.singleton_append, List.length_append]
      exact ih'
    | false =>
      have ih' := ih (i + 1) ns (by omega) (by omega)
      rw [h] at e
      simp -implicitDefEqProofs only [go_sem, s320_3, s320_2, s320_1, hlt, e, hw, h, nodesL, ih']
theorem e320 (s : Nat) (hs : s < 1024) : callW E 320 [.p (.int .i64 s)] [] = some ⟨.p (.sl 1 ((nodes s).map intN)), [], []⟩ := by
  have lp := loop320 (E := E) s hs 10 0 [] rfl (Nat.le_refl 0)
  simp only [List.nil_append, List.map_nil, List.length_nil, Int.natCast_zero] at lp
  rw [← nodes] at lp
  rw [callW_eq, EnvS.h 320 F320 rfl]
  simp -implicitDefEqProofs only [go_sem, F320, s320, s320_4, lp]

end Go.Ab.S

namespace Go.Ab.S
open Go Go.Ab
variable {E : Env} [EnvS E]

/-! ### Taking nodes out of sets -/
theorem dec_sub : ((List.range 1024).all fun s => (List.range 10).all fun k => !s.testBit k || (s - 2 ^ k == s ^^^ 2 ^ k)) = true := by decide +kernel
theorem dec_andNot : ((List.range 1024).all fun s => (List.range 10).all fun k => !s.testBit k || (andNotI .i64 (s : Int) ((2 ^ k : Nat) : Int) == ((s ^^^ 2 ^ k : Nat) : Int))) = true := by decide +kernel
theorem dec_comp : ((List.range 1024).all fun s => (andNotI .i64 1023 (s : Int) == ((1023 ^^^ s : Nat) : Int)) && (1023 - s == 1023 ^^^ s)) = true := by decide +kernel
theorem sub_xor {s k : Nat} (hs : s < 1024) (hk : k < 10) (h : s.testBit k = true) : s - 2 ^ k = s ^^^ 2 ^ k := by
  have := List.all_eq_true.1 (List.all_eq_true.1 dec_sub s (List.mem_range.2 hs)) k (List.mem_range.2 hk)
  simpa [h] using this
theorem andNot_xor {s k : Nat} (hs : s < 1024) (hk : k < 10) (h : s.testBit k = true) : andNotI .i64 (s : Int) ((2 ^ k : Nat) : Int) = ((s ^^^ 2 ^ k : Nat) : Int) := by
  have := List.all_eq_true.1 (List.all_eq_true.1 dec_andNot s (List.mem_range.2 hs)) k (List.mem_range.2 hk)
  simp only [h, Bool.not_true, Bool.false_or, beq_iff_eq] at this
  exact this
theorem comp_xor {s : Nat} (hs : s < 1024) : andNotI .i64 1023 (s : Int) = ((1023 ^^^ s : Nat) : Int) ∧ 1023 - s = 1023 ^^^ s := by
  have := List.all_eq_true.1 dec_comp s (List.mem_range.2 hs)
  simp only [Bool.and_eq_true, beq_iff_eq] at this
  exact this
theorem xor_lt {s k : Nat} (hs : s < 1024) (hk : k < 10) (h : s.testBit k = true) : s ^^^ 2 ^ k < s := by
  rw [← sub_xor hs hk h]
  have h1 := Nat.ge_two_pow_of_testBit h
  have h2 : 0 < 2 ^ k := Nat.two_pow_pos k
  omega
theorem xor_bit {s k j : Nat} (h : s.testBit k = true) : (s ^^^ 2 ^ k).testBit j = (s.testBit j && !decide (j = k)) := by
  rw [Nat.testBit_xor, Nat.testBit_two_pow]
  by_cases hj : j = k
  · subst hj; simp [h]
  · simp [hj, Ne.symm hj]

/-- Is a member content with a set? -/
def contM (ms : List Mem) (s k : Nat) : Bool := match ms[k]? with
  | some m => satT s m.t
  | none => true
def unhL (ms : List Mem) (s : Nat) : List Nat → Option Nat
  | [] => none
  | k :: r => if contM ms s k = true then unhL ms s r else some k
def elim (ms : List Mem) : Nat → Nat → List Nat × Nat
  | 0, s => ([], s)
  | f + 1, s => match unhL ms s (nodes s) with
    | none => ([], s)
    | some k => (k :: (elim ms f (s ^^^ 2 ^ k)).1, (elim ms f (s ^^^ 2 ^ k)).2)
/-- Configurations of small trusts; sets of their members. -/
structure ConfOk (ms : List Mem) : Prop where
  len : ms.length ≤ 10
  thin : ∀ m ∈ ms, m.t.thin
def subM (ms : List Mem) (s : Nat) : Prop := s < 1024 ∧ ∀ k, s.testBit k = true → k < ms.length
theorem subM_decl (ms : List Mem) (s : Nat) : subM ms (s &&& decl ms) := by
  refine ⟨Nat.lt_of_le_of_lt Nat.and_le_right (decl_lt ms), fun k hk => ?_⟩
  rw [Nat.testBit_and, decl_bit] at hk
  simp only [Bool.and_eq_true] at hk
  cases h : ms[k]? with
  | none => rw [h] at hk; simp at hk
  | some m => exact (List.getElem?_eq_some_iff.1 h).1
theorem unhL_some {ms : List Mem} {s : Nat} : ∀ {l : List Nat} {k : Nat}, unhL ms s l = some k → k ∈ l ∧ contM ms s k = false
  | [], k, h => by simp [unhL] at h
  | x :: r, k, h => by
    simp only [unhL] at h
    split at h
    · obtain ⟨h1, h2⟩ := unhL_some h; exact ⟨List.mem_cons_of_mem _ h1, h2⟩
    · rename_i hx
      cases h
      exact ⟨List.mem_cons_self, by simpa using hx⟩
theorem unhL_none {ms : List Mem} {s : Nat} : ∀ {l : List Nat}, unhL ms s l = none → ∀ k ∈ l, contM ms s k = true
  | [], _, k, hk => by cases hk
  | x :: r, h, k, hk => by
    simp only [unhL] at h
    split at h
    · rename_i hx
      rcases List.mem_cons.1 hk with rfl | hk
      · exact hx
      · exact unhL_none h k hk
    · cases h

theorem e321 (ms : List Mem) (k s : Nat) (m : Mem) (hm : ms[k]? = some m) (ht : m.t.thin) (hs : s < 1024) : callW E 321 [.p (confPv ms), .p (.int .i64 k), .p (.int .i64 s)] [] = some ⟨.p (.bool (satT s m.t)), [], []⟩ := by
  have e := e310 (E := E) s hs m.t ht
  have h0 : (0 : Int) ≤ k := by omega
  unfold Tr.pv at e
  rw [callW_eq, EnvS.h 321 F321 rfl]
  unfold confPv
  simp -implicitDefEqProofs only [go_sem, F321, s321, hm, h0, Mem.pv, e]
theorem loop311 (ms : List Mem) (hc : ConfOk ms) (s : Nat) (hs : subM ms s) (ns : List Nat) (hns : ∀ k ∈ ns, s.testBit k = true) (hl : ns.length ≤ 10) :
    loopW E 0 [1, 2, 9, 10, 11] [.loc 0 0 0] (.trim [1, 2, 9, 10, 11] [4, 5] [(0, [])] [.loc 0 0 0] s311_3) (some ⟨[(1, .p (.int .i64 s)), (2, .ptr (.loc 0 0 0) 0), (9, .p (.sl 1 (ns.map intN))), (10, .p (.int .i64 ns.length)), (11, .p (.int .i64 0))], [(.loc 0 0 0, some (.box [.p (.sl 4 (ms.map Mem.pv))]))]⟩) =
    (match unhL ms s ns with
      | none => some (.ex 0, ⟨[], [(.loc 0 0 0, some (.box [.p (.sl 4 (ms.map Mem.pv))]))]⟩)
      | some k => some (.ret, ⟨[(4, .p (.int .i64 k)), (5, .p (.bool true))], [(.loc 0 0 0, some (.box [.p (.sl 4 (ms.map Mem.pv))]))]⟩)) := by
  have key := range_loopI (loopW E 0 [1, 2, 9, 10, 11] [.loc 0 0 0] (.trim [1, 2, 9, 10, 11] [4, 5] [(0, [])] [.loc 0 0 0] s311_3)) ns
    (fun i (_ : Unit) => ⟨[(1, .p (.int .i64 s)), (2, .ptr (.loc 0 0 0) 0), (9, .p (.sl 1 (ns.map intN))), (10, .p (.int .i64 ns.length)), (11, .p (.int .i64 i))], [(.loc 0 0 0, some (.box [.p (.sl 4 (ms.map Mem.pv))]))]⟩)
    (fun _ r => match unhL ms s r with
      | none => some (.ex 0, ⟨[], [(.loc 0 0 0, some (.box [.p (.sl 4 (ms.map Mem.pv))]))]⟩)
      | some k => some (.ret, ⟨[(4, .p (.int .i64 k)), (5, .p (.bool true))], [(.loc 0 0 0, some (.box [.p (.sl 4 (ms.map Mem.pv))]))]⟩)) (fun _ _ => True)
  refine key ?_ ?_ () trivial
  · intro _ _
    rw [loopW_some]
    generalize hK : loopW E 0 _ _ _ = K
    simp -implicitDefEqProofs only [go_sem, s311_3, s311_2, s311_1, unhL]
  · intro i _ x r hx hn _ ih
    obtain ⟨f1, f2, f3⟩ := rangeFacts i ns.length (by omega) (by omega)
    have hxl := hs.2 x (hns x (List.mem_of_getElem? hx))
    have hm : ms[x]? = some ms[x] := by simp [hxl]
    have e := e321 (E := E) ms x s ms[x] hm (hc.thin _ (List.getElem_mem ..)) hs.1
    have hcm : contM ms s x = satT s ms[x].t := by simp [contM, hm]
    have ih' := ih () trivial
    unfold confPv at e
    rw [loopW_some]
    generalize hK : loopW E 0 _ _ _ = K at ih' ⊢
    cases hh : satT s ms[x].t with
    | true =>
      rw [hh] at e hcm
      try dsimp only at ih' ⊢
      simp -implicitDefEqProofs only [go_sem, s311_3, s311_2, s311_1, hx, intN, f1, f2, f3, e, ih', unhL, hcm]
    | false =>
      rw [hh] at e hcm
      try dsimp only
      simp -implicitDefEqProofs only [go_sem, s311_3, s311_2, s311_1, hx, intN, f1, f2, f3, e, unhL, hcm]
theorem e311 (ms : List Mem) (hc : ConfOk ms) (s : Nat) (hs : subM ms s) : callW E 311 [.p (confPv ms), .p (.int .i64 s)] [] =
    some ⟨.tup (match unhL ms s (nodes s) with | none => [.p (.int .i64 0), .p (.bool false)] | some k => [.p (.int .i64 k), .p (.bool true)]), [], []⟩ := by
  have lp := loop311 (E := E) ms hc s hs (nodes s) (fun k hk => ((nodes_mem s k).1 hk).2) (nodesL_len s 10 0)
  have e := e320 (E := E) s hs.1
  rw [callW_eq, EnvS.h 311 F311 rfl]
  unfold confPv
  cases hu : unhL ms s (nodes s) with
  | none =>
    rw [hu] at lp
    simp -implicitDefEqProofs only [go_sem, F311, s311, s311_4, e, lp]
  | some k =>
    rw [hu] at lp
    simp -implicitDefEqProofs only [go_sem, F311, s311, s311_4, e, lp]
theorem subM_xor {ms : List Mem} {s k : Nat} (h : subM ms s) (hk : k < 10) (hb : s.testBit k = true) : subM ms (s ^^^ 2 ^ k) :=
  ⟨Nat.lt_trans (xor_lt h.1 hk hb) h.1, fun j hj => h.2 j (by rw [xor_bit hb] at hj; simp only [Bool.and_eq_true] at hj; exact hj.1)⟩
theorem loop282 (ms : List Mem) (hc : ConfOk ms) : ∀ (f s : Nat) (out : List Nat), s < f → subM ms s → out.length + s ≤ 5000 →
    loopW E 0 [1, 2, 6] [.loc 0 0 0, .loc 3 0 0] (.trim [1, 2, 6] [4, 5] [] [.loc 0 0 0, .loc 3 0 0] s282_4) (some ⟨[(1, .p (.int .i64 s)), (2, .ptr (.loc 0 0 0) 0), (6, .hsl (.loc 3 0 0) 0 out.length)], [(.loc 0 0 0, some (.box [.p (.sl 4 (ms.map Mem.pv))])), (.loc 3 0 0, some (.parr (out.map intN) 1 false))]⟩) =
    some (.ret, ⟨[(4, .p (.int .i64 ((elim ms f s).2 : Nat))), (5, .hsl (.loc 3 0 0) 0 (out ++ (elim ms f s).1).length)], [(.loc 0 0 0, some (.box [.p (.sl 4 (ms.map Mem.pv))])), (.loc 3 0 0, some (.parr ((out ++ (elim ms f s).1).map intN) 1 false))]⟩) := by
  generalize hK : loopW E 0 _ _ _ = K
  intro f
  induction f with
  | zero => intro s out h; omega
  | succ f ih =>
    intro s out hf hs ho
    have e := e311 (E := E) ms hc s hs
    unfold confPv at e
    rw [← hK, loopW_some, hK]
    cases hu : unhL ms s (nodes s) with
    | none =>
      rw [hu] at e
      simp -implicitDefEqProofs only [go_sem, s282_4, s282_3, s282_2, e, elim, hu]
    | some k =>
      rw [hu] at e
      obtain ⟨h1, h2⟩ := unhL_some hu
      obtain ⟨h3, h4⟩ := (nodes_mem s k).1 h1
      have hlt := xor_lt hs.1 h3 h4
      have ih' := ih (s ^^^ 2 ^ k) (out ++ [k]) (by omega) (subM_xor hs h3 h4) (by simp; omega)
      have hm : out.length + 1 ≤ most := by unfold most; omega
      have f4 : ¬ (k : Int) < 0 := by omega
      simp only [List.map_append, List.map_cons, List.map_nil, List.length_append, List.length_cons, List.length_nil, Nat.zero_add, List.append_assoc, List.singleton_append] at ih'
      rw [show intN k = .int .i64 (k : Int) from rfl] at ih'
      have hs9 := hs.1
      simp -implicitDefEqProofs only [go_sem, s282_4, s282_3, s282_2, e, elim, hu, hm, f4, shl1 k (by omega), andNot_xor hs9 h3 h4, List.map_append, List.append_assoc, List.singleton_append, List.length_append]
      exact ih'
def elimS (ms : List Mem) (s : Nat) : List Nat × Nat := elim ms 1024 (s &&& decl ms)
/-- The greatest quorum in a set. -/
def great (ms : List Mem) (s : Nat) : Nat := (elimS ms s).2
theorem e282 (ms : List Mem) (hc : ConfOk ms) (s : Nat) (hs : s < 1024) : callW E 282 [.p (confPv ms), .p (.int .i64 s)] [] = some ⟨.tup [.p (.int .i64 (great ms s : Nat)), .p (.sl 1 ((elimS ms s).1.map intN))], [], []⟩ := by
  have hsub := subM_decl ms s
  have lp := loop282 (E := E) ms hc 1024 (s &&& decl ms) [] hsub.1 hsub (by have := hsub.1; simp; omega)
  simp only [List.nil_append, List.map_nil, List.length_nil] at lp
  rw [← elimS, ← great] at lp
  have hl := hc.len
  have e1 := e309 (E := E) ms (by omega)
  have e2 := e280 (E := E) s hs
  have hd := decl_lt ms
  have w := andI_nat s (decl ms) (by omega) (by omega)
  unfold confPv at *
  rw [callW_eq, EnvS.h 282 F282 rfl]
  simp -implicitDefEqProofs only [go_sem, F282, s282, s282_1, s282_5, e1, e2, w, lp]
theorem e236 (ms : List Mem) (hc : ConfOk ms) (s : Nat) (hs : s < 1024) : callW E 236 [.p (confPv ms), .p (.int .i64 s)] [] = some ⟨.p (.int .i64 (great ms s : Nat)), [], []⟩ := by
  have e := e282 (E := E) ms hc s hs
  unfold confPv at *
  rw [callW_eq, EnvS.h 236 F236 rfl]
  simp -implicitDefEqProofs only [go_sem, F236, s236, e]
end Go.Ab.S

namespace Go.Ab.S
open Go Go.Ab
variable {E : Env} [EnvS E]

/-! ### Blocking sets, acceptance, confirmation -/
def blk (ms : List Mem) (v b : Nat) : Bool := match ms[v]? with
  | some m => m.d && !satT ((1023 ^^^ b) ||| 2 ^ v) m.t
  | none => false
theorem decl_has (ms : List Mem) (v : Nat) (hv : v < 10) : hasN (decl ms) v = (match ms[v]? with | some m => m.d | none => false) := by
  rw [hasN_nat _ _ hv, decl_bit]
  cases ms[v]? with
  | none => simp
  | some m => cases hm : m.d <;> simp [hv, hm]
theorem comp_lt {b : Nat} (hb : b < 1024) : 1023 ^^^ b < 1024 := Nat.xor_lt_two_pow (n := 10) (by decide) hb
theorem e281 (ms : List Mem) (hc : ConfOk ms) (v b : Nat) (hv : v < 10) (hb : b < 1024) : callW E 281 [.p (confPv ms), .p (.int .i64 v), .p (.int .i64 b)] [] = some ⟨.p (.bool (blk ms v b)), [], []⟩ := by
  have e1 := e280 (E := E) b hb
  have hl := hc.len
  have e2 := e309 (E := E) ms (by omega)
  have e3 := e235 (E := E) (decl ms) v (decl_lt ms)
  rw [decl_has _ _ hv] at e3
  have hn := comp_lt hb
  have f4 : ¬ (v : Int) < 0 := by omega
  have h0 : (0 : Int) ≤ v := by omega
  have w1 : andNotI .i64 1023 (b : Int) = ((1023 ^^^ b : Nat) : Int) := (comp_xor hb).1
  have w2 : IntKind.i64.wrap (1023 - (b : Int)) = ((1023 ^^^ b : Nat) : Int) := by
    have := (comp_xor hb).2
    rw [← this, wrap64 (by omega) (by omega)]; omega
  have w3 := orI_nat (1023 ^^^ b) (2 ^ v) (by omega) (Nat.lt_trans (pow_lt v hv) (by decide))
  have hS := or_lt (1023 ^^^ b) v hn hv
  unfold blk
  unfold confPv at *
  rw [callW_eq, EnvS.h 281 F281 rfl]
  cases hm : ms[v]? with
  | none =>
    rw [hm] at e3
    simp -implicitDefEqProofs only [go_sem, F281, s281, s281_1, e1, e2, e3]
  | some m =>
    rw [hm] at e3
    have e4 := e310 (E := E) _ hS m.t (hc.thin _ (List.mem_of_getElem? hm))
    unfold Tr.pv at e4
    cases hd : m.d with
    | false =>
      simp only [hd] at e3
      simp -implicitDefEqProofs only [go_sem, F281, s281, s281_1, e1, e2, e3, Bool.false_and, hd]
    | true =>
      simp only [hd] at e3
      simp -implicitDefEqProofs only [go_sem, F281, s281, s281_1, e1, e2, e3, hm, h0, Mem.pv, f4, shl1 v (by omega), w1, w2, w3, e4, Bool.true_and, hd]
/-! as before -/
def accW (ms : List Mem) (v votes acc : Nat) : Bool := blk ms v acc || (great ms (votes ||| acc)).testBit v
theorem great_lt (ms : List Mem) (s : Nat) : great ms s < 1024 := by
  have : ∀ f s, subM ms s → (elim ms f s).2 < 1024 := by
    intro f
    induction f with
    | zero => intro s h; exact h.1
    | succ f ih =>
      intro s h
      rw [elim]
      cases hu : unhL ms s (nodes s) with
      | none => exact h.1
      | some x =>
        obtain ⟨h1, h2⟩ := unhL_some hu
        obtain ⟨h3, h4⟩ := (nodes_mem s x).1 h1
        exact ih _ (subM_xor h h3 h4)
  exact this 1024 _ (subM_decl ms s)
theorem e233 (ms : List Mem) (hc : ConfOk ms) (v s b : Nat) (hv : v < 10) (hs : s < 1024) (hb : b < 1024) : callW E 233 [.p (confPv ms), .p (.int .i64 v), .p (.int .i64 s), .p (.int .i64 b)] [] = some ⟨.p (.bool (accW ms v s b)), [], []⟩ := by
  have e1 := e280 (E := E) s hs
  have e2 := e280 (E := E) b hb
  have e3 := e281 (E := E) ms hc v b hv hb
  have hsb : s ||| b < 1024 := Nat.or_lt_two_pow (n := 10) hs hb
  have w := orI_nat s b (by omega) (by omega)
  have e4 := e236 (E := E) ms hc _ hsb
  have e5 := e235 (E := E) _ v (great_lt ms (s ||| b))
  rw [hasN_nat _ _ hv] at e5
  unfold confPv at *
  rw [callW_eq, EnvS.h 233 F233 rfl]
  unfold accW
  cases h : blk ms v b with
  | true =>
    rw [h] at e3
    simp -implicitDefEqProofs only [go_sem, F233, s233, s233_1, e1, e2, e3, Bool.true_or]
  | false =>
    rw [h] at e3
    simp -implicitDefEqProofs only [go_sem, F233, s233, s233_1, e1, e2, e3, w, e4, e5, Bool.false_or]
theorem e205 (ms : List Mem) (hc : ConfOk ms) (v b : Nat) (hv : v < 10) (hb : b < 1024) : callW E 205 [.p (confPv ms), .p (.int .i64 v), .p (.int .i64 b)] [] = some ⟨.p (.bool ((great ms b).testBit v)), [], []⟩ := by
  have e4 := e236 (E := E) ms hc _ hb
  have e5 := e235 (E := E) _ v (great_lt ms b)
  rw [hasN_nat _ _ hv] at e5
  unfold confPv at *
  rw [callW_eq, EnvS.h 205 F205 rfl]
  simp -implicitDefEqProofs only [go_sem, F205, s205, e4, e5]
end Go.Ab.S

namespace Go.Ab.S
open Go Go.Ab
variable {E : Env} [EnvS E]

/-! ### What a node hears -/
theorem loop202 (l : List Evl) (hl : l.length < 4000) (hth : ∀ e ∈ l, e.t.thin) :
    loopW E 0 [3, 6, 7, 8] [.loc 1 0 0] (.trim [3, 6, 7, 8] [2] [(0, [3])] [.loc 1 0 0] s202_3) (some ⟨[(3, .hsl (.loc 1 0 0) 0 0), (6, .p (.sl 15 (l.map Evl.pv))), (7, .p (.int .i64 l.length)), (8, .p (.int .i64 0))], [(.loc 1 0 0, some (.parr [] 15 false))]⟩) =
    some (.ex 0, ⟨[(3, .hsl (.loc 1 0 0) 0 (l.filter validE).length)], [(.loc 1 0 0, some (.parr ((l.filter validE).map Evl.pv) 15 false))]⟩) := by
  have key := range_loopI (loopW E 0 [3, 6, 7, 8] [.loc 1 0 0] (.trim [3, 6, 7, 8] [2] [(0, [3])] [.loc 1 0 0] s202_3)) l
    (fun i (o : List Evl) => ⟨[(3, .hsl (.loc 1 0 0) 0 o.length), (6, .p (.sl 15 (l.map Evl.pv))), (7, .p (.int .i64 l.length)), (8, .p (.int .i64 i))], [(.loc 1 0 0, some (.parr (o.map Evl.pv) 15 false))]⟩)
    (fun o r => some (.ex 0, ⟨[(3, .hsl (.loc 1 0 0) 0 (o ++ r.filter validE).length)], [(.loc 1 0 0, some (.parr ((o ++ r.filter validE).map Evl.pv) 15 false))]⟩)) (fun i o => o.length ≤ i)
  refine key ?_ ?_ [] (by simp)
  · intro o _
    rw [loopW_some]
    generalize hK : loopW E 0 _ _ _ = K
    simp -implicitDefEqProofs only [go_sem, s202_3, s202_2, s202_1, List.filter_nil, List.append_nil]
  · intro i o e r hx hn ho ih
    obtain ⟨f1, f2, f3⟩ := rangeFacts i l.length (by omega) (by omega)
    have e1 := e81 (E := E) e (hth e (List.mem_of_getElem? hx))
    have hm : o.length + 1 ≤ most := by unfold most; omega
    rw [loopW_some]
    generalize hK : loopW E 0 _ _ _ = K at ih ⊢
    cases hv : validE e with
    | true =>
      rw [hv] at e1
      have ih' := ih (o ++ [e]) (by simp; omega)
      simp only [List.map_append, List.map_cons, List.map_nil, List.length_append, List.length_cons, List.length_nil, Nat.zero_add, List.append_assoc, List.singleton_append] at ih'
      try dsimp only at ih' ⊢
      unfold Evl.pv at *
      simp -implicitDefEqProofs only [go_sem, s202_3, s202_2, s202_1, hx, f1, f2, f3, e1, hm, List.filter_cons, hv, List.map_append, List.map_cons, List.length_append, List.length_cons]
      exact ih'
    | false =>
      rw [hv] at e1
      have ih' := ih o (by omega)
      try dsimp only at ih' ⊢
      unfold Evl.pv at *
      simp -implicitDefEqProofs only [go_sem, s202_3, s202_2, s202_1, hx, f1, f2, f3, e1, hm, List.filter_cons, hv]
      exact ih'
theorem e202 (l : List Evl) (hl : l.length < 4000) (hth : ∀ e ∈ l, e.t.thin) : callW E 202 [.p (.sl 15 (l.map Evl.pv))] [] = some ⟨.p (.sl 15 ((l.filter validE).map Evl.pv)), [], []⟩ := by
  have lp := loop202 (E := E) l hl hth
  rw [callW_eq, EnvS.h 202 F202 rfl]
  simp -implicitDefEqProofs only [go_sem, F202, s202, s202_4, lp]
end Go.Ab.S

namespace Go.Ab.S
open Go Go.Ab
variable {E : Env} [EnvS E]

/-! ### Of whose envelopes something holds -/
def whoStep (f : Evl → Bool) (a : Nat) (e : Evl) : Nat := if f e = true then a ||| 2 ^ e.node.toNat else a
def who (f : Evl → Bool) (l : List Evl) : Nat := l.foldl (whoStep f) 0
def nodesOk (l : List Evl) : Prop := ∀ e ∈ l, 0 ≤ e.node ∧ e.node < 10
theorem whoStep_lt (f : Evl → Bool) (a : Nat) (e : Evl) (ha : a < 1024) (he : 0 ≤ e.node ∧ e.node < 10) : whoStep f a e < 1024 := by
  unfold whoStep; split
  · exact or_lt _ _ ha (by omega)
  · exact ha
theorem who_lt' (f : Evl → Bool) : ∀ (l : List Evl) (a : Nat), a < 1024 → nodesOk l → l.foldl (whoStep f) a < 1024
  | [], a, h, _ => h
  | e :: r, a, h, hn => who_lt' f r _ (whoStep_lt f a e h (hn e List.mem_cons_self)) (fun x hx => hn x (List.mem_cons_of_mem _ hx))
theorem who_lt (f : Evl → Bool) (l : List Evl) (hn : nodesOk l) : who f l < 1024 := who_lt' f l 0 (by decide) hn
theorem who_bit' (f : Evl → Bool) (k : Nat) : ∀ (l : List Evl) (a : Nat), nodesOk l → (l.foldl (whoStep f) a).testBit k = (a.testBit k || l.any fun e => f e && decide (e.node = (k : Int)))
  | [], a, _ => by simp
  | e :: r, a, hn => by
    rw [List.foldl_cons, who_bit' f k r _ (fun x hx => hn x (List.mem_cons_of_mem _ hx)), List.any_cons, ← Bool.or_assoc]
    congr 1
    have h := hn e List.mem_cons_self
    unfold whoStep
    cases hf : f e with
    | false => simp
    | true =>
      simp only [if_true, Nat.testBit_or, Nat.testBit_two_pow, Bool.true_and]
      congr 1
      simp only [decide_eq_decide]
      omega
theorem who_bit (f : Evl → Bool) (k : Nat) (l : List Evl) (hn : nodesOk l) : (who f l).testBit k = l.any fun e => f e && decide (e.node = (k : Int)) := by
  rw [who, who_bit' f k l 0 hn]; simp
def seenPv (node : Nat) (ms : List Mem) (l : List Evl) : PV := .agg [.int .i64 node, .sl 4 (ms.map Mem.pv), .sl 15 (l.map Evl.pv)]
end Go.Ab.S

namespace Go.Ab.S
open Go Go.Ab
variable {E : Env} [EnvS E]

/-! ### Accepts, Confirms of a node -/
theorem e119 (node : Nat) (hnode : node < 10) (t : Tr) (l : List Evl) (ht : t.thin) (hl : l.length < 4000) (hth : ∀ e ∈ l, e.t.thin) :
    callW E 119 [.p (.int .i64 node), .p t.pv, .p (.sl 15 (l.map Evl.pv))] [] = some ⟨.p (seenPv node (viewM node t l) (l.filter validE)), [], []⟩ := by
  have e1 := e53 (E := E) node t l ht (by omega) hth
  have e2 := e202 (E := E) l hl hth
  unfold seenPv
  unfold confPv at e1
  unfold Tr.pv at *
  rw [callW_eq, EnvS.h 119 F119 rfl]
  simp -implicitDefEqProofs only [go_sem, F119, s119, e1, e2]
theorem valid_nodes (l : List Evl) : nodesOk (l.filter validE) := fun e he => validE_node (List.mem_filter.1 he).2
theorem viewM_ok (node : Int) (t : Tr) (l : List Evl) (ht : t.thin) (hth : ∀ e ∈ l, e.t.thin) : ConfOk (viewM node t l) := by
  refine ⟨Nat.le_of_eq (viewM_len node t l), ?_⟩
  have hz : memZ.t.thin := ⟨by decide, by decide, by simp [memZ]⟩
  have key : ∀ (l : List Evl) (ms : List Mem), (∀ e ∈ l, e.t.thin) → (∀ m ∈ ms, m.t.thin) → ∀ m ∈ l.foldl viewS ms, m.t.thin := by
    intro l
    induction l with
    | nil => intro ms _ h; exact h
    | cons e r ih =>
      intro ms h1 h2
      refine ih _ (fun x hx => h1 x (List.mem_cons_of_mem _ hx)) ?_
      unfold viewS
      split
      · intro m hm
        rcases List.mem_or_eq_of_mem_set hm with h | h
        · exact h2 m h
        · rw [h]; exact h1 e List.mem_cons_self
      · exact h2
  unfold viewM
  split
  · intro m hm
    rw [List.eq_of_mem_replicate hm]; exact hz
  · refine key l _ hth ?_
    intro m hm
    rcases List.mem_or_eq_of_mem_set hm with h | h
    · rw [List.eq_of_mem_replicate h]; exact hz
    · rw [h]; exact ht
end Go.Ab.S
