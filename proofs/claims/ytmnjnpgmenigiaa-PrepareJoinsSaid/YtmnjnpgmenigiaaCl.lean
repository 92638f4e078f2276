/- A part of the proof: an executor over plain data, shown sound for the model, and what it computes of the functions. -/
import Derived.Test.YtmnjnpgmenigiaaAlt
import Derived.Test.YtmnjnpgmenigiaaEv
set_option linter.all false
/-! slices.Clone. -/
set_option linter.unusedVariables false
set_option linter.unusedSimpArgs false
namespace Go.Ab
open Go

def cl0 (z : Nat) : SCode := .reg 0 [{ dst := some 2, op := .mv (.nils z) }]
def cl1 : SCode := .reg 1 [{ dst := some 3, op := .mv (.t 0) }, { dst := some 4, op := .isnil (.t 3) }]
def cl2 (z : Nat) : SCode := .seq (.reg 2 [{ dst := some 2, op := .mv (.nils z) }]) .ret
def cl3 (z : Nat) : SCode := .seq (.reg 3 [{ dst := some 5, op := .bslice true z [] }, { dst := some 6, op := .mv (.t 0) }, { dst := some 7, op := .append z (.t 5) (.t 6) }, { dst := some 2, op := .mv (.t 7) }]) .ret
def clF : SFn := { body := .skip, rv := [.tmp 2] }
def cloneL (P : Program) (idm : FuncId → FuncId) (f : FuncId) (z : Nat) : Bool :=
  match P.funcs[idm f]? with
  | some fn => (match fn.body with
    | some (.seq c0 (.seq (.seq c1 (.cond (.tmp 4) c2 .skip)) c3)) => codeL P idm fn.ntmps c0 (cl0 z) && codeL P idm fn.ntmps c1 cl1 && codeL P idm fn.ntmps c2 (cl2 z) && codeL P idm fn.ntmps c3 (cl3 z)
    | _ => false) && decide (fn.name ≠ "runtime.NumGoroutine") && rvsL P fn.results.toList [.tmp 2]
  | none => false

theorem clone_ok {P : Program} {idm : FuncId → FuncId} {f z : Nat} (h : cloneL P idm f z = true) {es : List PV} (hm : es.length ≤ most)
    {m : NMap} {w : World} {W : Nat → Prop} {vs : Array Value} (hs : SimH idm m w W (argH 0 [])) (hr : Reps idm m w W [.p (.sl z es)] vs) :
    CallF P (idm f) vs w (CallPost idm m w W [] ⟨.p (.sl z es), [], []⟩) := by
  unfold cloneL at h
  split at h
  · rename_i fn hP
    simp only [Bool.and_eq_true, decide_eq_true_eq] at h
    obtain ⟨⟨h1, h2⟩, h3⟩ := h
    split at h1
    · rename_i c0 c1 c2 c3 hb
      simp only [Bool.and_eq_true] at h1
      obtain ⟨⟨⟨l0, l1⟩, l2⟩, l3⟩ := h1
      have hE : EnvOK P idm { fn := fun _ => none } := ⟨(fun f F h => by cases h), (fun f a o c h => by cases h)⟩
      have fin2 : ∃ st2, sexW { fn := fun _ => none } 0 (cl2 z) ⟨[(4, .ub), (3, .p (.sl z [])), (2, .nils z), (0, .p (.sl z []))], []⟩ = some (.ret, st2) ∧ finish clF 0 st2 = some ⟨.p (.sl z []), [], []⟩ := by
        refine ⟨⟨[(2, .nils z), (4, .ub), (3, .p (.sl z [])), (2, .nils z), (0, .p (.sl z []))], []⟩, ?_, ?_⟩
        · simp -implicitDefEqProofs only [go_sem, Nat.reduceEqDiff, Nat.reduceAdd, Nat.reduceLeDiff, Nat.reduceLT, reduceCtorEq, ↓reduceIte, Nat.reduceBEq, Int.reduceLT, Int.reduceLE, Int.reduceNeg, Int.reduceEq, Int.toNat_natCast, cast_lit, Int.reduceToNat, cl2]
        · simp -implicitDefEqProofs only [go_sem, Nat.reduceEqDiff, Nat.reduceAdd, Nat.reduceLeDiff, Nat.reduceLT, reduceCtorEq, ↓reduceIte, Nat.reduceBEq, Int.reduceLT, Int.reduceLE, Int.reduceNeg, Int.reduceEq, Int.toNat_natCast, cast_lit, Int.reduceToNat, clF]
      have fin3 : ∀ (es : List PV) (v : AV), es.length ≤ most → ∃ st2, sexW { fn := fun _ => none } 0 (cl3 z) ⟨[(4, v), (3, .p (.sl z es)), (2, .nils z), (0, .p (.sl z es))], []⟩ = some (.ret, st2) ∧ finish clF 0 st2 = some ⟨.p (.sl z es), [], []⟩ := by
        intro es v hm
        have hp : ∃ T, sexW { fn := fun _ => none } 0 (cl3 z) ⟨[(4, v), (3, .p (.sl z es)), (2, .nils z), (0, .p (.sl z es))], []⟩ = some (.ret, ⟨(2, .hsl (.loc 3 0 0) 0 es.length) :: T, [(.loc 3 0 0, some (.parr es z false)), (.loc 3 0 0, some (.parr [] z false))]⟩) := by
          simp -implicitDefEqProofs only [go_sem, Nat.reduceEqDiff, Nat.reduceAdd, Nat.reduceLeDiff, Nat.reduceLT, reduceCtorEq, ↓reduceIte, Nat.reduceBEq, Int.reduceLT, Int.reduceLE, Int.reduceNeg, Int.reduceEq, Int.toNat_natCast, cast_lit, Int.reduceToNat, cl3, hm, Nat.zero_add]
          exact ⟨_, rfl⟩
        obtain ⟨T, hT⟩ := hp
        refine ⟨_, hT, ?_⟩
        simp -implicitDefEqProofs only [go_sem, Nat.reduceEqDiff, Nat.reduceAdd, Nat.reduceLeDiff, Nat.reduceLT, reduceCtorEq, ↓reduceIte, Nat.reduceBEq, Int.reduceLT, Int.reduceLE, Int.reduceNeg, Int.reduceEq, Int.toNat_natCast, cast_lit, Int.reduceToNat, clF, List.take_length]
      cases es with
      | nil =>
        exact alt_ok hE (E0 := { fn := fun _ => none }) hP hb h2 l0 l1 l2 l3 (F := clF) h3 (objs := []) (sta := ⟨[(2, .nils z), (0, .p (.sl z []))], []⟩) (st1 := ⟨[(4, .ub), (3, .p (.sl z [])), (2, .nils z), (0, .p (.sl z []))], []⟩)
          (by
            simp -implicitDefEqProofs only [go_sem, Nat.reduceEqDiff, Nat.reduceAdd, Nat.reduceLeDiff, Nat.reduceLT, reduceCtorEq, ↓reduceIte, Nat.reduceBEq, Int.reduceLT, Int.reduceLE, Int.reduceNeg, Int.reduceEq, Int.toNat_natCast, cast_lit, Int.reduceToNat, cl0])
          (by
            simp -implicitDefEqProofs only [go_sem, Nat.reduceEqDiff, Nat.reduceAdd, Nat.reduceLeDiff, Nat.reduceLT, reduceCtorEq, ↓reduceIte, Nat.reduceBEq, Int.reduceLT, Int.reduceLE, Int.reduceNeg, Int.reduceEq, Int.toNat_natCast, cast_lit, Int.reduceToNat, cl1])
           (.inl rfl) (fun _ => fin2) (fun _ => fin3 [] .ub hm) hs hr (by simp [namesL, AV.names])
      | cons e es =>
        exact alt_ok hE (E0 := { fn := fun _ => none }) hP hb h2 l0 l1 l2 l3 (F := clF) h3 (objs := []) (sta := ⟨[(2, .nils z), (0, .p (.sl z (e :: es)))], []⟩) (st1 := ⟨[(4, .p (.bool false)), (3, .p (.sl z (e :: es))), (2, .nils z), (0, .p (.sl z (e :: es)))], []⟩)
          (by
            simp -implicitDefEqProofs only [go_sem, Nat.reduceEqDiff, Nat.reduceAdd, Nat.reduceLeDiff, Nat.reduceLT, reduceCtorEq, ↓reduceIte, Nat.reduceBEq, Int.reduceLT, Int.reduceLE, Int.reduceNeg, Int.reduceEq, Int.toNat_natCast, cast_lit, Int.reduceToNat, cl0])
          (by
            simp -implicitDefEqProofs only [go_sem, Nat.reduceEqDiff, Nat.reduceAdd, Nat.reduceLeDiff, Nat.reduceLT, reduceCtorEq, ↓reduceIte, Nat.reduceBEq, Int.reduceLT, Int.reduceLE, Int.reduceNeg, Int.reduceEq, Int.toNat_natCast, cast_lit, Int.reduceToNat, cl1])
           (.inr (.inr rfl)) (fun h => absurd rfl h) (fun _ => fin3 (e :: es) _ hm) hs hr (by simp [namesL, AV.names])
    · cases h1
  · cases h
end Go.Ab
