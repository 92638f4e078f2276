/- A part of the proof: an executor over plain data, shown sound for the model, and what it computes of the functions. -/
import Derived.Test.YtmnjnpgmenigiaaGreatB25fb81f422
import Derived.Test.YtmnjnpgmenigiaaGreatBb4c48b26f7
import Derived.Sort.AssemblyPlain
set_option linter.all false
namespace Go.Ab.S
open Go Go.Ab
variable {E : Env} [EnvS E]

theorem exts_five (H : Hp) : exts H 0 5 = [(.ext 0, hget H (.ext 0)), (.ext 1, hget H (.ext 1)), (.ext 2, hget H (.ext 2)), (.ext 3, hget H (.ext 3)), (.ext 4, hget H (.ext 4))] := _root_.id rfl
theorem exts_six (H : Hp) : exts H 0 6 = [(.ext 0, hget H (.ext 0)), (.ext 1, hget H (.ext 1)), (.ext 2, hget H (.ext 2)), (.ext 3, hget H (.ext 3)), (.ext 4, hget H (.ext 4)), (.ext 5, hget H (.ext 5))] := _root_.id rfl
theorem exts_eight (H : Hp) : exts H 0 8 = [(.ext 0, hget H (.ext 0)), (.ext 1, hget H (.ext 1)), (.ext 2, hget H (.ext 2)), (.ext 3, hget H (.ext 3)), (.ext 4, hget H (.ext 4)), (.ext 5, hget H (.ext 5)), (.ext 6, hget H (.ext 6)), (.ext 7, hget H (.ext 7))] := _root_.id rfl
theorem plainEnd_newF3 (H : Hp) (r i : Nat) (f : FuncId) (a b c : PV) (h0 : hget H (.loc r i 0) = none) (h1 : hget H (.loc r i 1) = none) (h2 : hget H (.loc r i 2) = none) : plainEnd H r i (some ⟨.fn f [] [.ptr (.ext 0) 0, .ptr (.ext 1) 0, .ptr (.ext 2) 0], [], [.box [.p a], .box [.p b], .box [.p c]]⟩) = some { v := .fn f [] [.ptr (.loc r i 0) 0, .ptr (.loc r i 1) 0, .ptr (.loc r i 2) 0], up := [(.loc r i 0, some (.box [.p a])), (.loc r i 1, some (.box [.p b])), (.loc r i 2, some (.box [.p c]))] } := by
  simp [plainEnd, callEnd, newUp, freeH, h0, h1, h2, AV.ren, renL, renOs, AObj.ren, zipUp, fromExt]
attribute [go_sem] plainEnd_newF3 exts_five exts_six exts_eight
/-! ### Who says what of a range of commits -/
theorem e234 (e : Evl) (v : ByteArray) (lo hi : Int) : callW E 234 [.p e.pv, .ptr (.ext 0) 0, .ptr (.ext 1) 0, .ptr (.ext 2) 0] [.box [.p (.str v)], .box [.p (.int .i64 lo)], .box [.p (.int .i64 hi)]] = some ⟨.p (.bool (accC e v lo hi)), [.box [.p (.str v)], .box [.p (.int .i64 lo)], .box [.p (.int .i64 hi)]], []⟩ := by
  have h := e163 (E := E) e v lo hi
  unfold Evl.pv at *
  rw [callW_eq, EnvS.h 234 F234 rfl]
  simp -implicitDefEqProofs only [go_sem, F234, s234, h]
theorem e200 (e : Evl) (v : ByteArray) (lo hi : Int) : callW E 200 [.p e.pv, .ptr (.ext 0) 0, .ptr (.ext 1) 0, .ptr (.ext 2) 0] [.box [.p (.str v)], .box [.p (.int .i64 lo)], .box [.p (.int .i64 hi)]] = some ⟨.p (.bool (votC e v lo hi)), [.box [.p (.str v)], .box [.p (.int .i64 lo)], .box [.p (.int .i64 hi)]], []⟩ := by
  have h := e116 (E := E) e v lo hi
  unfold Evl.pv at *
  rw [callW_eq, EnvS.h 200 F200 rfl]
  simp -implicitDefEqProofs only [go_sem, F200, s200, h]
theorem e201 (v : ByteArray) (lo hi : Int) : callW E 201 [.p (.str v), .p (.int .i64 lo), .p (.int .i64 hi)] [] = some ⟨.fn 234 [] [.ptr (.ext 0) 0, .ptr (.ext 1) 0, .ptr (.ext 2) 0], [], [.box [.p (.str v)], .box [.p (.int .i64 lo)], .box [.p (.int .i64 hi)]]⟩ := by
  rw [callW_eq, EnvS.h 201 F201 rfl]
  simp -implicitDefEqProofs only [go_sem, F201, s201]
theorem e232c (e : Evl) (v : ByteArray) (lo hi : Int) : callW E 232 [.p e.pv, .ptr (.ext 0) 0, .ptr (.ext 1) 0] [.box [.fn 200 [] [.ptr (.ext 2) 0, .ptr (.ext 3) 0, .ptr (.ext 4) 0]], .box [.fn 234 [] [.ptr (.ext 5) 0, .ptr (.ext 6) 0, .ptr (.ext 7) 0]], .box [.p (.str v)], .box [.p (.int .i64 lo)], .box [.p (.int .i64 hi)], .box [.p (.str v)], .box [.p (.int .i64 lo)], .box [.p (.int .i64 hi)]] = some ⟨.p (.bool (votC e v lo hi || accC e v lo hi)), [.box [.fn 200 [] [.ptr (.ext 2) 0, .ptr (.ext 3) 0, .ptr (.ext 4) 0]], .box [.fn 234 [] [.ptr (.ext 5) 0, .ptr (.ext 6) 0, .ptr (.ext 7) 0]], .box [.p (.str v)], .box [.p (.int .i64 lo)], .box [.p (.int .i64 hi)], .box [.p (.str v)], .box [.p (.int .i64 lo)], .box [.p (.int .i64 hi)]], []⟩ := by
  have h1 := e200 (E := E) e v lo hi
  have h2 := e234 (E := E) e v lo hi
  unfold Evl.pv at *
  rw [callW_eq, EnvS.h 232 F232 rfl]
  cases hv : votC e v lo hi with
  | true =>
    rw [hv] at h1
    simp -implicitDefEqProofs only [go_sem, F232, s232, h1, Bool.true_or]
  | false =>
    rw [hv] at h1
    simp -implicitDefEqProofs only [go_sem, F232, s232, h1, h2, Bool.false_or]
theorem loop206c (v : ByteArray) (lo hi : Int) (l : List Evl) (hl : l.length < 4000) (hn : nodesOk l) :
    loopW E 3 [1, 5, 9, 10, 11] [] (.trim [1, 5, 9, 10, 11] [4] [(0, [5])] [] s206_3) (some ⟨[(1, .fn 234 [] [.ptr (.ext 0) 0, .ptr (.ext 1) 0, .ptr (.ext 2) 0]), (5, .p (.int .i64 0)), (9, .p (.sl 15 (l.map Evl.pv))), (10, .p (.int .i64 l.length)), (11, .p (.int .i64 0))], [(.ext 0, some (.box [.p (.str v)])), (.ext 1, some (.box [.p (.int .i64 lo)])), (.ext 2, some (.box [.p (.int .i64 hi)]))]⟩) =
    some (.ex 0, ⟨[(5, .p (.int .i64 (who (accC · v lo hi) l : Nat)))], [(.ext 0, some (.box [.p (.str v)])), (.ext 1, some (.box [.p (.int .i64 lo)])), (.ext 2, some (.box [.p (.int .i64 hi)]))]⟩) := by
  have key := range_loopI (loopW E 3 [1, 5, 9, 10, 11] [] (.trim [1, 5, 9, 10, 11] [4] [(0, [5])] [] s206_3)) l
    (fun i (a : Nat) => ⟨[(1, .fn 234 [] [.ptr (.ext 0) 0, .ptr (.ext 1) 0, .ptr (.ext 2) 0]), (5, .p (.int .i64 a)), (9, .p (.sl 15 (l.map Evl.pv))), (10, .p (.int .i64 l.length)), (11, .p (.int .i64 i))], [(.ext 0, some (.box [.p (.str v)])), (.ext 1, some (.box [.p (.int .i64 lo)])), (.ext 2, some (.box [.p (.int .i64 hi)]))]⟩)
    (fun a r => some (.ex 0, ⟨[(5, .p (.int .i64 (r.foldl (whoStep (accC · v lo hi)) a : Nat)))], [(.ext 0, some (.box [.p (.str v)])), (.ext 1, some (.box [.p (.int .i64 lo)])), (.ext 2, some (.box [.p (.int .i64 hi)]))]⟩)) (fun _ a => a < 1024)
  refine key ?_ ?_ 0 (by decide)
  · intro a _
    rw [loopW_some]
    generalize hK : loopW E 3 _ _ _ = K
    simp -implicitDefEqProofs only [go_sem, s206_3, s206_2, s206_1, List.foldl_nil]
  · intro i a e r hx hnn ha ih
    obtain ⟨f1, f2, f3⟩ := rangeFacts i l.length (by omega) (by omega)
    obtain ⟨n1, n2⟩ := hn e (List.mem_of_getElem? hx)
    have ih' := ih (whoStep (accC · v lo hi) a e) (whoStep_lt _ _ _ ha ⟨n1, n2⟩)
    have e1 := e234 (E := E) e v lo hi
    have f4 : ¬ e.node < 0 := by omega
    have w := orI_nat a (2 ^ e.node.toNat) (by omega) (Nat.lt_trans (pow_lt e.node.toNat (by omega)) (by decide))
    have w2 : shlI .i64 1 e.node = ((2 ^ e.node.toNat : Nat) : Int) := by
      have := shl1 e.node.toNat (by omega)
      rwa [Int.toNat_of_nonneg n1] at this
    rw [loopW_some]
    generalize hK : loopW E 3 _ _ _ = K at ih' ⊢
    cases hv : accC e v lo hi with
    | true =>
      rw [hv] at e1
      simp only [whoStep, hv, if_true] at ih'
      try dsimp only at ih' ⊢
      unfold Evl.pv at *
      simp -implicitDefEqProofs only [go_sem, s206_3, s206_2, s206_1, hx, f1, f2, f3, e1, f4, w, w2, List.foldl_cons, whoStep, hv, ih']
    | false =>
      rw [hv] at e1
      simp only [whoStep, hv, Bool.false_eq_true, if_false] at ih'
      try dsimp only at ih' ⊢
      unfold Evl.pv at *
      simp -implicitDefEqProofs only [go_sem, s206_3, s206_2, s206_1, hx, f1, f2, f3, e1, f4, w, w2, List.foldl_cons, whoStep, hv, ih']
theorem loop206d (v : ByteArray) (lo hi : Int) (l : List Evl) (hl : l.length < 4000) (hn : nodesOk l) :
    loopW E 8 [1, 5, 9, 10, 11] [] (.trim [1, 5, 9, 10, 11] [4] [(0, [5])] [] s206_3) (some ⟨[(1, .fn 232 [] [.ptr (.ext 0) 0, .ptr (.ext 1) 0]), (5, .p (.int .i64 0)), (9, .p (.sl 15 (l.map Evl.pv))), (10, .p (.int .i64 l.length)), (11, .p (.int .i64 0))], [(.ext 0, some (.box [.fn 200 [] [.ptr (.ext 2) 0, .ptr (.ext 3) 0, .ptr (.ext 4) 0]])), (.ext 1, some (.box [.fn 234 [] [.ptr (.ext 5) 0, .ptr (.ext 6) 0, .ptr (.ext 7) 0]])), (.ext 2, some (.box [.p (.str v)])), (.ext 3, some (.box [.p (.int .i64 lo)])), (.ext 4, some (.box [.p (.int .i64 hi)])), (.ext 5, some (.box [.p (.str v)])), (.ext 6, some (.box [.p (.int .i64 lo)])), (.ext 7, some (.box [.p (.int .i64 hi)]))]⟩) =
    some (.ex 0, ⟨[(5, .p (.int .i64 (who (fun e => votC e v lo hi || accC e v lo hi) l : Nat)))], [(.ext 0, some (.box [.fn 200 [] [.ptr (.ext 2) 0, .ptr (.ext 3) 0, .ptr (.ext 4) 0]])), (.ext 1, some (.box [.fn 234 [] [.ptr (.ext 5) 0, .ptr (.ext 6) 0, .ptr (.ext 7) 0]])), (.ext 2, some (.box [.p (.str v)])), (.ext 3, some (.box [.p (.int .i64 lo)])), (.ext 4, some (.box [.p (.int .i64 hi)])), (.ext 5, some (.box [.p (.str v)])), (.ext 6, some (.box [.p (.int .i64 lo)])), (.ext 7, some (.box [.p (.int .i64 hi)]))]⟩) := by
  have key := range_loopI (loopW E 8 [1, 5, 9, 10, 11] [] (.trim [1, 5, 9, 10, 11] [4] [(0, [5])] [] s206_3)) l
    (fun i (a : Nat) => ⟨[(1, .fn 232 [] [.ptr (.ext 0) 0, .ptr (.ext 1) 0]), (5, .p (.int .i64 a)), (9, .p (.sl 15 (l.map Evl.pv))), (10, .p (.int .i64 l.length)), (11, .p (.int .i64 i))], [(.ext 0, some (.box [.fn 200 [] [.ptr (.ext 2) 0, .ptr (.ext 3) 0, .ptr (.ext 4) 0]])), (.ext 1, some (.box [.fn 234 [] [.ptr (.ext 5) 0, .ptr (.ext 6) 0, .ptr (.ext 7) 0]])), (.ext 2, some (.box [.p (.str v)])), (.ext 3, some (.box [.p (.int .i64 lo)])), (.ext 4, some (.box [.p (.int .i64 hi)])), (.ext 5, some (.box [.p (.str v)])), (.ext 6, some (.box [.p (.int .i64 lo)])), (.ext 7, some (.box [.p (.int .i64 hi)]))]⟩)
    (fun a r => some (.ex 0, ⟨[(5, .p (.int .i64 (r.foldl (whoStep (fun e => votC e v lo hi || accC e v lo hi)) a : Nat)))], [(.ext 0, some (.box [.fn 200 [] [.ptr (.ext 2) 0, .ptr (.ext 3) 0, .ptr (.ext 4) 0]])), (.ext 1, some (.box [.fn 234 [] [.ptr (.ext 5) 0, .ptr (.ext 6) 0, .ptr (.ext 7) 0]])), (.ext 2, some (.box [.p (.str v)])), (.ext 3, some (.box [.p (.int .i64 lo)])), (.ext 4, some (.box [.p (.int .i64 hi)])), (.ext 5, some (.box [.p (.str v)])), (.ext 6, some (.box [.p (.int .i64 lo)])), (.ext 7, some (.box [.p (.int .i64 hi)]))]⟩)) (fun _ a => a < 1024)
  refine key ?_ ?_ 0 (by decide)
  · intro a _
    rw [loopW_some]
    generalize hK : loopW E 8 _ _ _ = K
    simp -implicitDefEqProofs only [go_sem, s206_3, s206_2, s206_1, List.foldl_nil]
  · intro i a e r hx hnn ha ih
    obtain ⟨f1, f2, f3⟩ := rangeFacts i l.length (by omega) (by omega)
    obtain ⟨n1, n2⟩ := hn e (List.mem_of_getElem? hx)
    have ih' := ih (whoStep (fun e => votC e v lo hi || accC e v lo hi) a e) (whoStep_lt _ _ _ ha ⟨n1, n2⟩)
    have e1 := e232c (E := E) e v lo hi
    have f4 : ¬ e.node < 0 := by omega
    have w := orI_nat a (2 ^ e.node.toNat) (by omega) (Nat.lt_trans (pow_lt e.node.toNat (by omega)) (by decide))
    have w2 : shlI .i64 1 e.node = ((2 ^ e.node.toNat : Nat) : Int) := by
      have := shl1 e.node.toNat (by omega)
      rwa [Int.toNat_of_nonneg n1] at this
    rw [loopW_some]
    generalize hK : loopW E 8 _ _ _ = K at ih' ⊢
    cases hv : (votC e v lo hi || accC e v lo hi) with
    | true =>
      rw [hv] at e1
      simp only [whoStep, hv, if_true] at ih'
      try dsimp only at ih' ⊢
      unfold Evl.pv at *
      simp -implicitDefEqProofs only [go_sem, s206_3, s206_2, s206_1, hx, f1, f2, f3, e1, f4, w, w2, List.foldl_cons, whoStep, hv, ih']
    | false =>
      rw [hv] at e1
      simp only [whoStep, hv, Bool.false_eq_true, if_false] at ih'
      try dsimp only at ih' ⊢
      unfold Evl.pv at *
      simp -implicitDefEqProofs only [go_sem, s206_3, s206_2, s206_1, hx, f1, f2, f3, e1, f4, w, w2, List.foldl_cons, whoStep, hv, ih']
theorem e206c (node : Nat) (ms : List Mem) (v : ByteArray) (lo hi : Int) (l : List Evl) (hl : l.length < 4000) (hn : nodesOk l) :
    callW E 206 [.p (seenPv node ms l), .fn 234 [] [.ptr (.ext 0) 0, .ptr (.ext 1) 0, .ptr (.ext 2) 0]] [.box [.p (.str v)], .box [.p (.int .i64 lo)], .box [.p (.int .i64 hi)]] = some ⟨.p (.int .i64 (who (accC · v lo hi) l : Nat)), [.box [.p (.str v)], .box [.p (.int .i64 lo)], .box [.p (.int .i64 hi)]], []⟩ := by
  have lp := loop206c (E := E) v lo hi l hl hn
  unfold seenPv
  rw [callW_eq, EnvS.h 206 F206 rfl]
  simp -implicitDefEqProofs only [go_sem, F206, s206, s206_4, lp]
theorem e206d (node : Nat) (ms : List Mem) (v : ByteArray) (lo hi : Int) (l : List Evl) (hl : l.length < 4000) (hn : nodesOk l) :
    callW E 206 [.p (seenPv node ms l), .fn 232 [] [.ptr (.ext 0) 0, .ptr (.ext 1) 0]] [.box [.fn 200 [] [.ptr (.ext 2) 0, .ptr (.ext 3) 0, .ptr (.ext 4) 0]], .box [.fn 234 [] [.ptr (.ext 5) 0, .ptr (.ext 6) 0, .ptr (.ext 7) 0]], .box [.p (.str v)], .box [.p (.int .i64 lo)], .box [.p (.int .i64 hi)], .box [.p (.str v)], .box [.p (.int .i64 lo)], .box [.p (.int .i64 hi)]] = some ⟨.p (.int .i64 (who (fun e => votC e v lo hi || accC e v lo hi) l : Nat)), [.box [.fn 200 [] [.ptr (.ext 2) 0, .ptr (.ext 3) 0, .ptr (.ext 4) 0]], .box [.fn 234 [] [.ptr (.ext 5) 0, .ptr (.ext 6) 0, .ptr (.ext 7) 0]], .box [.p (.str v)], .box [.p (.int .i64 lo)], .box [.p (.int .i64 hi)], .box [.p (.str v)], .box [.p (.int .i64 lo)], .box [.p (.int .i64 hi)]], []⟩ := by
  have lp := loop206d (E := E) v lo hi l hl hn
  unfold seenPv
  rw [callW_eq, EnvS.h 206 F206 rfl]
  simp -implicitDefEqProofs only [go_sem, F206, s206, s206_4, lp]
def bothC (v : ByteArray) (lo hi : Int) (e : Evl) : Bool := votC e v lo hi || accC e v lo hi
theorem e199c (node : Nat) (hnode : node < 10) (ms : List Mem) (hc : ConfOk ms) (v : ByteArray) (lo hi : Int) (l : List Evl) (hl : l.length < 4000) (hn : nodesOk l) :
    callW E 199 [.p (seenPv node ms l), .fn 200 [] [.ptr (.ext 0) 0, .ptr (.ext 1) 0, .ptr (.ext 2) 0], .fn 234 [] [.ptr (.ext 3) 0, .ptr (.ext 4) 0, .ptr (.ext 5) 0]] [.box [.p (.str v)], .box [.p (.int .i64 lo)], .box [.p (.int .i64 hi)], .box [.p (.str v)], .box [.p (.int .i64 lo)], .box [.p (.int .i64 hi)]] =
    some ⟨.p (.bool (accW ms node (who (bothC v lo hi) l) (who (accC · v lo hi) l))), [.box [.p (.str v)], .box [.p (.int .i64 lo)], .box [.p (.int .i64 hi)], .box [.p (.str v)], .box [.p (.int .i64 lo)], .box [.p (.int .i64 hi)]], []⟩ := by
  have e1 := e206c (E := E) node ms v lo hi l hl hn
  have e2 := e206d (E := E) node ms v lo hi l hl hn
  rw [show (fun e => votC e v lo hi || accC e v lo hi) = bothC v lo hi from rfl] at e2
  have e3 := e233 (E := E) ms hc node _ _ hnode (who_lt (bothC v lo hi) l hn) (who_lt (accC · v lo hi) l hn)
  unfold confPv at e3
  unfold seenPv at *
  rw [callW_eq, EnvS.h 199 F199 rfl]
  simp -implicitDefEqProofs only [go_sem, F199, s199, e1, e2, e3]
theorem e130c (node : Nat) (hnode : node < 10) (ms : List Mem) (hc : ConfOk ms) (v : ByteArray) (lo hi : Int) (l : List Evl) (hl : l.length < 4000) (hn : nodesOk l) :
    callW E 130 [.p (seenPv node ms l), .fn 234 [] [.ptr (.ext 0) 0, .ptr (.ext 1) 0, .ptr (.ext 2) 0]] [.box [.p (.str v)], .box [.p (.int .i64 lo)], .box [.p (.int .i64 hi)]] =
    some ⟨.p (.bool ((great ms (who (accC · v lo hi) l)).testBit node)), [.box [.p (.str v)], .box [.p (.int .i64 lo)], .box [.p (.int .i64 hi)]], []⟩ := by
  have e1 := e206c (E := E) node ms v lo hi l hl hn
  have e3 := e205 (E := E) ms hc node _ hnode (who_lt (accC · v lo hi) l hn)
  unfold confPv at e3
  unfold seenPv at *
  rw [callW_eq, EnvS.h 130 F130 rfl]
  simp -implicitDefEqProofs only [go_sem, F130, s130, e1, e3]
theorem e118 (node : Nat) (hnode : node < 10) (ms : List Mem) (hc : ConfOk ms) (v : ByteArray) (lo hi : Int) (l : List Evl) (hl : l.length < 4000) (hn : nodesOk l) :
    callW E 118 [.p (seenPv node ms l), .p (.str v), .p (.int .i64 lo), .p (.int .i64 hi)] [] =
    some ⟨.p (.bool (accW ms node (who (bothC v lo hi) l) (who (accC · v lo hi) l))), [], []⟩ := by
  have e1 := e201 (E := E) v lo hi
  have e2 := e199c (E := E) node hnode ms hc v lo hi l hl hn
  unfold seenPv at *
  rw [callW_eq, EnvS.h 118 F118 rfl]
  simp -implicitDefEqProofs only [go_sem, F118, s118, e1, e2]
theorem e120 (node : Nat) (hnode : node < 10) (ms : List Mem) (hc : ConfOk ms) (v : ByteArray) (lo hi : Int) (l : List Evl) (hl : l.length < 4000) (hn : nodesOk l) :
    callW E 120 [.p (seenPv node ms l), .p (.str v), .p (.int .i64 lo), .p (.int .i64 hi)] [] =
    some ⟨.p (.bool ((great ms (who (accC · v lo hi) l)).testBit node)), [], []⟩ := by
  have e1 := e201 (E := E) v lo hi
  have e2 := e130c (E := E) node hnode ms hc v lo hi l hl hn
  unfold seenPv at *
  rw [callW_eq, EnvS.h 120 F120 rfl]
  simp -implicitDefEqProofs only [go_sem, F120, s120, e1, e2]
def acceptC (node : Nat) (t : Tr) (l : List Evl) (v : ByteArray) (lo hi : Int) : Bool := accW (viewM node t l) node (who (bothC v lo hi) (l.filter validE)) (who (accC · v lo hi) (l.filter validE))
def confirmC (node : Nat) (t : Tr) (l : List Evl) (v : ByteArray) (lo hi : Int) : Bool := (great (viewM node t l) (who (accC · v lo hi) (l.filter validE))).testBit node
theorem e118s (node : Nat) (hnode : node < 10) (t : Tr) (l : List Evl) (v : ByteArray) (lo hi : Int) (ht : t.thin) (hl : l.length < 4000) (hth : ∀ e ∈ l, e.t.thin) :
    callW E 118 [.p (seenPv node (viewM node t l) (l.filter validE)), .p (.str v), .p (.int .i64 lo), .p (.int .i64 hi)] [] = some ⟨.p (.bool (acceptC node t l v lo hi)), [], []⟩ :=
  e118 (E := E) node hnode _ (viewM_ok node t l ht hth) v lo hi _ (Nat.lt_of_le_of_lt (List.length_filter_le validE l) hl) (valid_nodes l)
theorem e120s (node : Nat) (hnode : node < 10) (t : Tr) (l : List Evl) (v : ByteArray) (lo hi : Int) (ht : t.thin) (hl : l.length < 4000) (hth : ∀ e ∈ l, e.t.thin) :
    callW E 120 [.p (seenPv node (viewM node t l) (l.filter validE)), .p (.str v), .p (.int .i64 lo), .p (.int .i64 hi)] [] = some ⟨.p (.bool (confirmC node t l v lo hi)), [], []⟩ :=
  e120 (E := E) node hnode _ (viewM_ok node t l ht hth) v lo hi _ (Nat.lt_of_le_of_lt (List.length_filter_le validE l) hl) (valid_nodes l)
theorem e32 (node : Nat) (hnode : node < 10) (t : Tr) (l : List Evl) (v : ByteArray) (lo hi : Int) (ht : t.thin) (hl : l.length < 4000) (hth : ∀ e ∈ l, e.t.thin) :
    callW E 32 [.p (.int .i64 node), .p t.pv, .p (.sl 15 (l.map Evl.pv)), .p (.str v), .p (.int .i64 lo), .p (.int .i64 hi)] [] = some ⟨.p (.bool (acceptC node t l v lo hi)), [], []⟩ := by
  have e1 := e119 (E := E) node hnode t l ht hl hth
  have e2 := e118s (E := E) node hnode t l v lo hi ht hl hth
  unfold Tr.pv seenPv at *
  rw [callW_eq, EnvS.h 32 F32 rfl]
  simp -implicitDefEqProofs only [go_sem, F32, s32, e1, e2]
theorem e33 (node : Nat) (hnode : node < 10) (t : Tr) (l : List Evl) (v : ByteArray) (lo hi : Int) (ht : t.thin) (hl : l.length < 4000) (hth : ∀ e ∈ l, e.t.thin) :
    callW E 33 [.p (.int .i64 node), .p t.pv, .p (.sl 15 (l.map Evl.pv)), .p (.str v), .p (.int .i64 lo), .p (.int .i64 hi)] [] = some ⟨.p (.bool (confirmC node t l v lo hi)), [], []⟩ := by
  have e1 := e119 (E := E) node hnode t l ht hl hth
  have e2 := e120s (E := E) node hnode t l v lo hi ht hl hth
  unfold Tr.pv seenPv at *
  rw [callW_eq, EnvS.h 33 F33 rfl]
  simp -implicitDefEqProofs only [go_sem, F33, s33, e1, e2]
end Go.Ab.S

namespace Go.Ab.S
open Go Go.Ab
variable {E : Env} [EnvS E]

/-! ### Rows of data -/
theorem raw_T (f : Nat) (F : SFn) (h : fnSA f = some F) (hr : F.rawA = true) : E.raw f = true := by
  unfold Env.raw
  rw [EnvS.h f F h]
  exact hr
theorem raw195 : E.raw 195 = true := raw_T 195 F195 rfl rfl
theorem raw231 : E.raw 231 = true := raw_T 231 F231 rfl rfl
theorem raw272 : E.raw 272 = true := raw_T 272 F272 rfl rfl
theorem raw273 : E.raw 273 = true := raw_T 273 F273 rfl rfl
theorem raw274 : E.raw 274 = true := raw_T 274 F274 rfl rfl
theorem raw275 : E.raw 275 = true := raw_T 275 F275 rfl rfl
theorem raw276 : E.raw 276 = true := raw_T 276 F276 rfl rfl
theorem raw277 : E.raw 277 = true := raw_T 277 F277 rfl rfl
theorem raw278 : E.raw 278 = true := raw_T 278 F278 rfl rfl
theorem raw279 : E.raw 279 = true := raw_T 279 F279 rfl rfl
theorem raw305 : E.raw 305 = true := raw_T 305 F305 rfl rfl
theorem raw306 : E.raw 306 = true := raw_T 306 F306 rfl rfl
theorem raw307 : E.raw 307 = true := raw_T 307 F307 rfl rfl
theorem raw319 : E.raw 319 = true := raw_T 319 F319 rfl rfl
attribute [go_sem] raw195 raw231 raw272 raw273 raw274 raw275 raw276 raw277 raw278 raw279 raw305 raw306 raw307 raw319
section
variable {α : Type} [Inhabited α]
theorem ar_get {d : Array α} {i : Nat} (h : i < d.size) : d.toList[i]? = some d[i]! := by
  rw [Array.getElem?_toList, Array.getElem?_eq_getElem h, getElem!_pos d i h]
theorem swp_size (d : Array α) (i j : Nat) : (Sort.swp d i j).size = d.size := by simp [Sort.swp]
theorem swp_map (pv : α → PV) (d : Array α) (i j : Nat) : (Sort.swp d i j).toList.map pv = ((d.toList.map pv).set i (pv d[j]!)).set j (pv d[i]!) := by
  simp [Sort.swp, List.map_set]
theorem set_get (pv : α → PV) (d : Array α) (i j : Nat) (x : α) (hj : j < d.size) : ∃ y, ((d.toList.map pv).set i (pv x))[j]? = some (pv y) := by
  rw [← List.map_set, List.getElem?_map]
  have : j < (d.toList.set i x).length := by simpa using hj
  exact ⟨(d.toList.set i x)[j], by rw [List.getElem?_eq_getElem this]; rfl⟩
end
def ltI (x y : Int) : Bool := decide (x < y)
theorem cmpI_lt (x y : Int) : decide (cmpI x y < 0) = ltI x y := by
  unfold cmpI ltI
  by_cases h : x < y
  · simp [h]
  · by_cases h2 : y < x <;> simp [h, h2]
theorem loop272i (a b i : Nat) (hb : b < 4611686018427387904) (hi : i < 4611686018427387904) : ∀ (j : Nat) (d : Array Int), j < d.size → d.size < 4611686018427387904 →
    loopW E 1 [0, 1, 2, 3, 8, 9] [] (.trim [0, 1, 2, 3, 8, 9] [] [(2, [0, 1, 2, 3, 8])] [] s272_2) (some ⟨[(0, .hsl (.ext 0) 0 d.size), (1, .p (.int .i64 a)), (2, .p (.int .i64 b)), (3, .fn 115 [] []), (8, .p (.int .i64 i)), (9, .p (.int .i64 j))], [(.ext 0, some (.parr (d.toList.map (.int .i64)) 1 false))]⟩) =
    some (.ex 2, ⟨[(0, .hsl (.ext 0) 0 d.size), (1, .p (.int .i64 a)), (2, .p (.int .i64 b)), (3, .fn 115 [] []), (8, .p (.int .i64 i))], [(.ext 0, some (.parr ((Sort.insInner ltI a j d).toList.map (.int .i64)) 1 false))]⟩) := by
  generalize hK : loopW E 1 _ _ _ = K
  intro j
  induction j with
  | zero =>
    intro d hj hs
    have f1 : ¬ (a : Int) < 0 := by omega
    rw [← hK, loopW_some, hK]
    simp -implicitDefEqProofs only [go_sem, s272_2, s272_1, f1, Sort.insInner, Int.natCast_zero]
  | succ j ih =>
    intro d hj hs
    have f2 : IntKind.i64.wrap (((j + 1 : Nat) : Int) - 1) = (j : Int) := by rw [wrap64 (by omega) (by omega)]; omega
    have g1 := ar_get hj
    have g2 := ar_get (d := d) (i := j) (by omega)
    have e1 := e115 (E := E) d[j + 1]! d[j]!
    have e2 := cmpI_lt d[j + 1]! d[j]!
    have hn : (0 : Int) ≤ ((j + 1 : Nat) : Int) := by omega
    have hj0 : j < d.size := by omega
    have hp0 : (0 : Int) ≤ (j : Int) := by omega
    have h0 : 0 + d.size ≤ d.size := by omega
    by_cases ha : a < j + 1
    · have f1 : (a : Int) < ((j + 1 : Nat) : Int) := by omega
      rw [Sort.insInner, decide_eq_true ha, Bool.true_and]
      cases hl : ltI d[j + 1]! d[j]! with
      | true =>
        rw [hl] at e2
        have e3 := of_decide_eq_true e2
        have ih' := ih (Sort.swp d (j + 1) j) (by rw [swp_size]; omega) (by rw [swp_size]; omega)
        rw [swp_size, swp_map] at ih'
        obtain ⟨y, hy⟩ := set_get (.int .i64) d (j + 1) j d[j]! hj0
        rw [← hK, loopW_some, hK]
        simp -implicitDefEqProofs only [go_sem, s272_2, s272_1, f1, f2, g1, g2, e1, e3, hn, hj, hj0, hp0, h0, hy, setE, List.length_map, List.length_set, Array.length_toList]
        exact ih'
      | false =>
        rw [hl] at e2
        have e3 := of_decide_eq_false e2
        rw [← hK, loopW_some, hK]
        simp -implicitDefEqProofs only [go_sem, s272_2, s272_1, f1, f2, g1, g2, e1, e3, hn, hj, hj0, hp0, h0, Array.length_toList]
    · have f1 : ¬ (a : Int) < ((j + 1 : Nat) : Int) := by omega
      rw [Sort.insInner, decide_eq_false ha, Bool.false_and]
      rw [← hK, loopW_some, hK]
      simp -implicitDefEqProofs only [go_sem, s272_2, s272_1, f1]
theorem ins_size (a : Nat) : ∀ (j : Nat) (d : Array Int), (Sort.insInner ltI a j d).size = d.size
  | 0, d => rfl
  | j + 1, d => by
    rw [Sort.insInner]; split
    · rw [ins_size a j, swp_size]
    · rfl
theorem loop272 (a b : Nat) (hb : b < 4611686018427387904) : ∀ (n i : Nat) (d : Array Int), b - i = n → b ≤ d.size → d.size < 4611686018427387904 → i < 4611686018427387904 →
    loopW E 1 [0, 1, 2, 3, 8] [] (.trim [0, 1, 2, 3, 8] [] [(0, [])] [] s272_5) (some ⟨[(0, .hsl (.ext 0) 0 d.size), (1, .p (.int .i64 a)), (2, .p (.int .i64 b)), (3, .fn 115 [] []), (8, .p (.int .i64 i))], [(.ext 0, some (.parr (d.toList.map (.int .i64)) 1 false))]⟩) =
    some (.ex 0, ⟨[], [(.ext 0, some (.parr ((Sort.insOuter ltI a b i d).toList.map (.int .i64)) 1 false))]⟩) := by
  generalize hK : loopW E 1 _ _ _ = K
  intro n
  induction n with
  | zero =>
    intro i d hn hbd hs hi
    have f1 : ¬ (i : Int) < b := by omega
    have f2 : ¬ i < b := by omega
    rw [Sort.insOuter, if_neg f2]
    rw [← hK, loopW_some, hK]
    simp -implicitDefEqProofs only [go_sem, s272_5, f1]
  | succ n ih =>
    intro i d hn hbd hs hi
    have f1 : (i : Int) < b := by omega
    have f2 : i < b := by omega
    have f3 : IntKind.i64.wrap ((i : Int) + 1) = ((i + 1 : Nat) : Int) := wrap64 (by omega) (by omega)
    rw [Sort.insOuter, if_pos f2]
    have lp := loop272i (E := E) a b i hb hi i d (by omega) hs
    have ih' := ih (i + 1) (Sort.insInner ltI a i d) (by omega) (by rw [ins_size]; exact hbd) (by rw [ins_size]; exact hs) (by omega)
    rw [ins_size] at ih'
    rw [← hK, loopW_some, hK]
    simp -implicitDefEqProofs only [go_sem, s272_5, s272_4, s272_3, f1, f3, lp]
    exact ih'
theorem e272 (d : Array Int) (a b : Nat) (hb : b ≤ d.size) (ha : a < 4611686018427387903) (hs : d.size < 4611686018427387904) :
    callW E 272 [.hsl (.ext 0) 0 d.size, .p (.int .i64 a), .p (.int .i64 b), .fn 115 [] []] [.parr (d.toList.map (.int .i64)) 1 false] = some ⟨.tup [], [.parr ((Sort.insertionSort ltI d a b).toList.map (.int .i64)) 1 false], []⟩ := by
  have f3 : IntKind.i64.wrap ((a : Int) + 1) = ((a + 1 : Nat) : Int) := wrap64 (by omega) (by omega)
  have lp := loop272 (E := E) a b (by omega) _ (a + 1) d rfl hb hs (by omega)
  rw [← Sort.insertionSort] at lp
  rw [callW_eq, EnvS.h 272 F272 rfl]
  simp -implicitDefEqProofs only [go_sem, F272, s272, s272_6, f3, lp]
end Go.Ab.S

namespace Go.Ab.S
open Go Go.Ab
variable {E : Env} [EnvS E]

/-! ### The heap -/
theorem wAdd (a b : Nat) (h : a + b < 9223372036854775808) : IntKind.i64.wrap ((a : Int) + (b : Int)) = ((a + b : Nat) : Int) := by rw [wrap64 (by omega) (by omega)]; omega
theorem wAdd1 (a : Nat) (h : a + 1 < 9223372036854775808) : IntKind.i64.wrap ((a : Int) + 1) = ((a + 1 : Nat) : Int) := wAdd a 1 h
theorem wSub1 (a : Nat) (h : a + 1 < 9223372036854775808) : IntKind.i64.wrap (((a + 1 : Nat) : Int) - 1) = (a : Int) := by rw [wrap64 (by omega) (by omega)]; omega
theorem wSub (a b : Nat) (h : b ≤ a) (h2 : a < 9223372036854775808) : IntKind.i64.wrap ((a : Int) - (b : Int)) = ((a - b : Nat) : Int) := by rw [wrap64 (by omega) (by omega)]; omega
theorem wMul2 (a : Nat) (h : 2 * a < 9223372036854775808) : IntKind.i64.wrap (2 * (a : Int)) = ((2 * a : Nat) : Int) := by rw [wrap64 (by omega) (by omega)]; omega
theorem sift_size (hi first : Nat) : ∀ (n root : Nat) (d : Array Int), hi - root ≤ n → (Sort.siftDown ltI hi first root d).size = d.size := by
  intro n
  induction n with
  | zero =>
    intro root d h
    rw [Sort.siftDown, dif_pos (by omega)]
  | succ n ih =>
    intro root d h
    rw [Sort.siftDown]
    split
    · rfl
    · split
      · split
        · rfl
        · split
          · rw [ih _ _ (by omega), swp_size]
          · rfl
      · split
        · rfl
        · rw [ih _ _ (by omega), swp_size]
theorem loop305 (hi first : Nat) : ∀ (n root : Nat) (d : Array Int), hi - root ≤ n → first + hi ≤ d.size → d.size < 1152921504606846976 → root < 1152921504606846976 →
    ∃ ex, (ex = .ex 0 ∨ ex = .ret) ∧ loopW E 1 [0, 2, 3, 4, 10] [] (.trim [0, 2, 3, 4, 10] [] [(0, [])] [] s305_3) (some ⟨[(0, .hsl (.ext 0) 0 d.size), (2, .p (.int .i64 hi)), (3, .p (.int .i64 first)), (4, .fn 115 [] []), (10, .p (.int .i64 root))], [(.ext 0, some (.parr (d.toList.map (.int .i64)) 1 false))]⟩) =
    some (ex, ⟨[], [(.ext 0, some (.parr ((Sort.siftDown ltI hi first root d).toList.map (.int .i64)) 1 false))]⟩) := by
  generalize hK : loopW E 1 _ _ _ = K
  intro n
  induction n with
  | zero =>
    intro root d hn hf hs hr
    refine ⟨_, .inl rfl, ?_⟩
    have w1 := wMul2 root (by omega)
    have w2 := wAdd1 (2 * root) (by omega)
    have f1 : (hi : Int) ≤ ((2 * root + 1 : Nat) : Int) := by omega
    rw [Sort.siftDown, dif_pos (by omega)]
    rw [← hK, loopW_some, hK]
    simp -implicitDefEqProofs only [go_sem, s305_3, s305_2, w1, w2, f1]
  | succ n ih =>
    intro root d hn hf hs hr
    have w1 := wMul2 root (by omega)
    have w2 := wAdd1 (2 * root) (by omega)
    by_cases h1 : 2 * root + 1 ≥ hi
    · refine ⟨_, .inl rfl, ?_⟩
      have f1 : (hi : Int) ≤ ((2 * root + 1 : Nat) : Int) := by omega
      rw [Sort.siftDown, dif_pos h1]
      rw [← hK, loopW_some, hK]
      simp -implicitDefEqProofs only [go_sem, s305_3, s305_2, w1, w2, f1]
    · have f1 : ¬ (hi : Int) ≤ ((2 * root + 1 : Nat) : Int) := by omega
      have w3 := wAdd1 (2 * root + 1) (by omega)
      have w4 := wAdd first (2 * root + 1) (by omega)
      have w5 := wAdd1 (first + (2 * root + 1)) (by omega)
      have w6 := wAdd first root (by omega)
      have n4 : (0 : Int) ≤ ((first + (2 * root + 1) : Nat) : Int) := by omega
      have n5 : (0 : Int) ≤ ((first + (2 * root + 1) + 1 : Nat) : Int) := by omega
      have n6 : (0 : Int) ≤ ((first + root : Nat) : Int) := by omega
      have i4 : first + (2 * root + 1) < d.size := by omega
      have i6 : first + root < d.size := by omega
      have g4 := ar_get i4
      have g6 := ar_get i6
      have h0 : 0 + d.size ≤ d.size := by omega
      have a0 : d.toList.length = d.size := Array.length_toList
      by_cases h2 : 2 * root + 1 + 1 < hi
      · have f2 : ((2 * root + 1 + 1 : Nat) : Int) < hi := by omega
        have i5 : first + (2 * root + 1) + 1 < d.size := by omega
        have g5 := ar_get i5
        have e1 := e115 (E := E) d[first + (2 * root + 1)]! d[first + (2 * root + 1) + 1]!
        have e2 := cmpI_lt d[first + (2 * root + 1)]! d[first + (2 * root + 1) + 1]!
        cases hl : ltI d[first + (2 * root + 1)]! d[first + (2 * root + 1) + 1]! with
        | true =>
          rw [hl] at e2
          have e3 := of_decide_eq_true e2
          have w7 := wAdd first (2 * root + 1 + 1) (by omega)
          have i7 : first + (2 * root + 1 + 1) < d.size := by omega
          have n7 : (0 : Int) ≤ ((first + (2 * root + 1 + 1) : Nat) : Int) := by omega
          have g7 := ar_get i7
          have e4 := e115 (E := E) d[first + root]! d[first + (2 * root + 1 + 1)]!
          have e5 := cmpI_lt d[first + root]! d[first + (2 * root + 1 + 1)]!
          cases hl2 : ltI d[first + root]! d[first + (2 * root + 1 + 1)]! with
          | true =>
            rw [hl2] at e5
            have e6 := of_decide_eq_true e5
            obtain ⟨ex, hex, ih'⟩ := ih (2 * root + 1 + 1) (Sort.swp d (first + root) (first + (2 * root + 1 + 1))) (by omega) (by rw [swp_size]; exact hf) (by rw [swp_size]; exact hs) (by omega)
            rw [swp_size, swp_map] at ih'
            obtain ⟨y, hy⟩ := set_get (.int .i64) d (first + root) (first + (2 * root + 1 + 1)) d[first + (2 * root + 1 + 1)]! i7
            refine ⟨ex, hex, ?_⟩
            rw [Sort.siftDown, dif_neg h1, decide_eq_true h2, hl]
            simp only [Bool.true_and, if_true, show 2 * root + 2 = 2 * root + 1 + 1 from rfl, hl2, Bool.not_true, Bool.false_eq_true, if_false, dif_pos h2]
            rw [← hK, loopW_some, hK]
            simp -implicitDefEqProofs only [go_sem, s305_3, s305_2, s305_1, w1, w2, f1, w3, w4, w5, w6, w7, n4, n5, n6, n7, i4, i5, i6, i7, g4, g5, g6, g7, h0, a0, f2, e1, e3, e4, e6, hy, setE, List.length_map, List.length_set]
            exact ih'
          | false =>
            rw [hl2] at e5
            have e6 := of_decide_eq_false e5
            refine ⟨_, .inr rfl, ?_⟩
            rw [Sort.siftDown, dif_neg h1, decide_eq_true h2, hl]
            simp only [Bool.true_and, if_true, show 2 * root + 2 = 2 * root + 1 + 1 from rfl, hl2, Bool.not_false, if_true]
            rw [← hK, loopW_some, hK]
            simp -implicitDefEqProofs only [go_sem, s305_3, s305_2, s305_1, w1, w2, f1, w3, w4, w5, w6, w7, n4, n5, n6, n7, i4, i5, i6, i7, g4, g5, g6, g7, h0, a0, f2, e1, e3, e4, e6]
        | false =>
          rw [hl] at e2
          have e3 := of_decide_eq_false e2
          have e4 := e115 (E := E) d[first + root]! d[first + (2 * root + 1)]!
          have e5 := cmpI_lt d[first + root]! d[first + (2 * root + 1)]!
          cases hl2 : ltI d[first + root]! d[first + (2 * root + 1)]! with
          | true =>
            rw [hl2] at e5
            have e6 := of_decide_eq_true e5
            obtain ⟨ex, hex, ih'⟩ := ih (2 * root + 1) (Sort.swp d (first + root) (first + (2 * root + 1))) (by omega) (by rw [swp_size]; exact hf) (by rw [swp_size]; exact hs) (by omega)
            rw [swp_size, swp_map] at ih'
            obtain ⟨y, hy⟩ := set_get (.int .i64) d (first + root) (first + (2 * root + 1)) d[first + (2 * root + 1)]! i4
            refine ⟨ex, hex, ?_⟩
            rw [Sort.siftDown, dif_neg h1, decide_eq_true h2, hl]
            simp only [Bool.true_and, Bool.false_eq_true, if_false, hl2, Bool.not_true]
            rw [← hK, loopW_some, hK]
            simp -implicitDefEqProofs only [go_sem, s305_3, s305_2, s305_1, w1, w2, f1, w3, w4, w5, w6, n4, n5, n6, i4, i5, i6, g4, g5, g6, h0, a0, f2, e1, e3, e4, e6, hy, setE, List.length_map, List.length_set]
            exact ih'
          | false =>
            rw [hl2] at e5
            have e6 := of_decide_eq_false e5
            refine ⟨_, .inr rfl, ?_⟩
            rw [Sort.siftDown, dif_neg h1, decide_eq_true h2, hl]
            simp only [Bool.true_and, Bool.false_eq_true, if_false, hl2, Bool.not_false, if_true]
            rw [← hK, loopW_some, hK]
            simp -implicitDefEqProofs only [go_sem, s305_3, s305_2, s305_1, w1, w2, f1, w3, w4, w5, w6, n4, n5, n6, i4, i5, i6, g4, g5, g6, h0, a0, f2, e1, e3, e4, e6]
      · have f2 : ¬ ((2 * root + 1 + 1 : Nat) : Int) < hi := by omega
        have e4 := e115 (E := E) d[first + root]! d[first + (2 * root + 1)]!
        have e5 := cmpI_lt d[first + root]! d[first + (2 * root + 1)]!
        cases hl2 : ltI d[first + root]! d[first + (2 * root + 1)]! with
        | true =>
          rw [hl2] at e5
          have e6 := of_decide_eq_true e5
          obtain ⟨ex, hex, ih'⟩ := ih (2 * root + 1) (Sort.swp d (first + root) (first + (2 * root + 1))) (by omega) (by rw [swp_size]; exact hf) (by rw [swp_size]; exact hs) (by omega)
          rw [swp_size, swp_map] at ih'
          obtain ⟨y, hy⟩ := set_get (.int .i64) d (first + root) (first + (2 * root + 1)) d[first + (2 * root + 1)]! i4
          refine ⟨ex, hex, ?_⟩
          rw [Sort.siftDown, dif_neg h1, decide_eq_false h2]
          simp only [Bool.false_and, Bool.false_eq_true, if_false, hl2, Bool.not_true]
          rw [← hK, loopW_some, hK]
          simp -implicitDefEqProofs only [go_sem, s305_3, s305_2, s305_1, w1, w2, f1, w3, w4, w5, w6, n4, n5, n6, i4, i6, g4, g6, h0, a0, f2, e4, e6, hy, setE, List.length_map, List.length_set]
          exact ih'
        | false =>
          rw [hl2] at e5
          have e6 := of_decide_eq_false e5
          refine ⟨_, .inr rfl, ?_⟩
          rw [Sort.siftDown, dif_neg h1, decide_eq_false h2]
          simp only [Bool.false_and, Bool.false_eq_true, if_false, hl2, Bool.not_false, if_true]
          rw [← hK, loopW_some, hK]
          simp -implicitDefEqProofs only [go_sem, s305_3, s305_2, s305_1, w1, w2, f1, w3, w4, w5, w6, n4, n5, n6, i4, i6, g4, g6, h0, a0, f2, e4, e6]
theorem e305 (d : Array Int) (root hi first : Nat) (hf : first + hi ≤ d.size) (hs : d.size < 1152921504606846976) (hr : root < 1152921504606846976) :
    callW E 305 [.hsl (.ext 0) 0 d.size, .p (.int .i64 root), .p (.int .i64 hi), .p (.int .i64 first), .fn 115 [] []] [.parr (d.toList.map (.int .i64)) 1 false] = some ⟨.tup [], [.parr ((Sort.siftDown ltI hi first root d).toList.map (.int .i64)) 1 false], []⟩ := by
  obtain ⟨ex, hex, lp⟩ := loop305 (E := E) hi first _ root d (Nat.le_refl _) hf hs hr
  rw [callW_eq, EnvS.h 305 F305 rfl]
  rcases hex with rfl | rfl
  · simp -implicitDefEqProofs only [go_sem, F305, s305, s305_4, lp]
  · simp -implicitDefEqProofs only [go_sem, F305, s305, s305_4, lp]
end Go.Ab.S

namespace Go.Ab.S
open Go Go.Ab
variable {E : Env} [EnvS E]

theorem siftS (hi first root : Nat) (d : Array Int) : (Sort.siftDown ltI hi first root d).size = d.size := sift_size hi first _ root d (Nat.le_refl _)
theorem build_size (hi first : Nat) : ∀ (k : Nat) (d : Array Int), (Sort.heapBuild ltI hi first k d).size = d.size
  | 0, d => rfl
  | k + 1, d => by rw [Sort.heapBuild, build_size hi first k, siftS]
theorem loop273a (hi first : Nat) : ∀ (k : Nat) (d : Array Int) (e : Int), e = (k : Int) - 1 → first + hi ≤ d.size → d.size < 1152921504606846976 → k < 1152921504606846976 →
    loopW E 1 [0, 3, 8, 9, 10, 11] [] (.trim [0, 3, 8, 9, 10, 11] [] [(0, [0, 3, 8, 9, 10])] [] s273_2) (some ⟨[(0, .hsl (.ext 0) 0 d.size), (3, .fn 115 [] []), (8, .p (.int .i64 first)), (9, .p (.int .i64 0)), (10, .p (.int .i64 hi)), (11, .p (.int .i64 e))], [(.ext 0, some (.parr (d.toList.map (.int .i64)) 1 false))]⟩) =
    some (.ex 0, ⟨[(0, .hsl (.ext 0) 0 d.size), (3, .fn 115 [] []), (8, .p (.int .i64 first)), (9, .p (.int .i64 0)), (10, .p (.int .i64 hi))], [(.ext 0, some (.parr ((Sort.heapBuild ltI hi first k d).toList.map (.int .i64)) 1 false))]⟩) := by
  generalize hK : loopW E 1 _ _ _ = K
  intro k
  induction k with
  | zero =>
    intro d e he hf hs hk
    have f1 : ¬ (0 : Int) ≤ e := by omega
    rw [← hK, loopW_some, hK]
    simp -implicitDefEqProofs only [go_sem, s273_2, s273_1, f1, Sort.heapBuild]
  | succ k ih =>
    intro d e he hf hs hk
    have he' : e = (k : Int) := by omega
    subst he'
    have f1 : (0 : Int) ≤ (k : Int) := by omega
    have e1 := e305 (E := E) d k hi first hf hs (by omega)
    have w1 : IntKind.i64.wrap ((k : Int) - 1) = (k : Int) - 1 := wrap64 (by omega) (by omega)
    have ih' := ih (Sort.siftDown ltI hi first k d) _ rfl (by rw [siftS]; exact hf) (by rw [siftS]; exact hs) (by omega)
    rw [siftS] at ih'
    rw [← hK, loopW_some, hK]
    simp -implicitDefEqProofs only [go_sem, s273_2, s273_1, f1, e1, w1]
    rw [Sort.heapBuild]
    exact ih'
theorem loop273b (first : Nat) : ∀ (k : Nat) (d : Array Int) (e : Int), e = (k : Int) - 1 → first + k ≤ d.size → d.size < 1152921504606846976 →
    loopW E 1 [0, 3, 8, 9, 12] [] (.trim [0, 3, 8, 9, 12] [] [(2, [])] [] s273_5) (some ⟨[(0, .hsl (.ext 0) 0 d.size), (3, .fn 115 [] []), (8, .p (.int .i64 first)), (9, .p (.int .i64 0)), (12, .p (.int .i64 e))], [(.ext 0, some (.parr (d.toList.map (.int .i64)) 1 false))]⟩) =
    some (.ex 2, ⟨[], [(.ext 0, some (.parr ((Sort.heapPop ltI first k d).toList.map (.int .i64)) 1 false))]⟩) := by
  generalize hK : loopW E 1 _ _ _ = K
  intro k
  induction k with
  | zero =>
    intro d e he hf hs
    have f1 : ¬ (0 : Int) ≤ e := by omega
    rw [← hK, loopW_some, hK]
    simp -implicitDefEqProofs only [go_sem, s273_5, s273_4, f1, Sort.heapPop]
  | succ k ih =>
    intro d e he hf hs
    have he' : e = (k : Int) := by omega
    subst he'
    have f1 : (0 : Int) ≤ (k : Int) := by omega
    have w1 : IntKind.i64.wrap ((k : Int) - 1) = (k : Int) - 1 := wrap64 (by omega) (by omega)
    have w2 := wAdd first k (by omega)
    have n1 : (0 : Int) ≤ (first : Int) := by omega
    have n2 : (0 : Int) ≤ ((first + k : Nat) : Int) := by omega
    have i1 : first < d.size := by omega
    have i2 : first + k < d.size := by omega
    have g1 := ar_get i1
    have g2 := ar_get i2
    have h0 : 0 + d.size ≤ d.size := by omega
    have a0 : d.toList.length = d.size := Array.length_toList
    obtain ⟨y, hy⟩ := set_get (.int .i64) d first (first + k) d[first + k]! i2
    have e1 := e305 (E := E) (Sort.swp d first (first + k)) 0 k first (by rw [swp_size]; omega) (by rw [swp_size]; exact hs) (by omega)
    rw [swp_size, swp_map] at e1
    simp only [Int.natCast_zero] at e1
    have ih' := ih (Sort.siftDown ltI k first 0 (Sort.swp d first (first + k))) _ rfl (by rw [siftS, swp_size]; omega) (by rw [siftS, swp_size]; exact hs)
    rw [siftS, swp_size] at ih'
    rw [← hK, loopW_some, hK]
    simp -implicitDefEqProofs only [go_sem, s273_5, s273_4, f1, w1, w2, n1, n2, i1, i2, g1, g2, h0, a0, hy, setE, List.length_map, List.length_set, e1]
    rw [Sort.heapPop]
    exact ih'
theorem e273 (d : Array Int) (a b : Nat) (hab : a < b) (hb : b ≤ d.size) (hs : d.size < 1152921504606846976) :
    callW E 273 [.hsl (.ext 0) 0 d.size, .p (.int .i64 a), .p (.int .i64 b), .fn 115 [] []] [.parr (d.toList.map (.int .i64)) 1 false] = some ⟨.tup [], [.parr ((Sort.heapSort ltI d a b).toList.map (.int .i64)) 1 false], []⟩ := by
  have w1 := wSub b a (by omega) (by omega)
  have w2 : IntKind.i64.wrap (((b - a : Nat) : Int) - 1) = ((b - a - 1 : Nat) : Int) := wSub (b - a) 1 (by omega) (by omega)
  have w3 : IntKind.i64.wrap (((b - a - 1 : Nat) : Int).tdiv 2) = (((b - a - 1) / 2 : Nat) : Int) := by
    rw [show ((b - a - 1 : Nat) : Int).tdiv 2 = (((b - a - 1) / 2 : Nat) : Int) from rfl, wrapN _ (by omega)]
  have lp1 := loop273a (E := E) (b - a) a ((b - a - 1) / 2 + 1) d (((b - a - 1) / 2 : Nat) : Int) (by omega) (by omega) hs (by omega)
  have lp2 := loop273b (E := E) a (b - a) (Sort.heapBuild ltI (b - a) a ((b - a - 1) / 2 + 1) d) ((b - a - 1 : Nat) : Int) (by omega) (by rw [build_size]; omega) (by rw [build_size]; exact hs)
  rw [build_size] at lp2
  rw [← Sort.heapSort] at lp2
  rw [callW_eq, EnvS.h 273 F273 rfl]
  simp -implicitDefEqProofs only [go_sem, F273, s273, s273_3, s273_6, w1, w2, w3, lp1, lp2]
/-! ### Turning a range round -/
theorem loop276 : ∀ (n i j : Nat) (d : Array Int), j - i ≤ n → j < d.size → d.size < 1152921504606846976 → i < 1152921504606846976 →
    loopW E 1 [0, 8, 9] [] (.trim [0, 8, 9] [] [(0, [])] [] s276_2) (some ⟨[(0, .hsl (.ext 0) 0 d.size), (8, .p (.int .i64 i)), (9, .p (.int .i64 j))], [(.ext 0, some (.parr (d.toList.map (.int .i64)) 1 false))]⟩) =
    some (.ex 0, ⟨[], [(.ext 0, some (.parr ((Sort.reverseLoop i j d).toList.map (.int .i64)) 1 false))]⟩) := by
  generalize hK : loopW E 1 _ _ _ = K
  intro n
  induction n with
  | zero =>
    intro i j d hn hj hs hi
    have f1 : ¬ (i : Int) < (j : Int) := by omega
    rw [Sort.reverseLoop, if_neg (by omega)]
    rw [← hK, loopW_some, hK]
    simp -implicitDefEqProofs only [go_sem, s276_2, s276_1, f1]
  | succ n ih =>
    intro i j d hn hj hs hi
    by_cases h : i < j
    · have f1 : (i : Int) < (j : Int) := by omega
      have w1 := wAdd1 i (by omega)
      have w2 : IntKind.i64.wrap ((j : Int) - 1) = ((j - 1 : Nat) : Int) := wSub j 1 (by omega) (by omega)
      have n1 : (0 : Int) ≤ (i : Int) := by omega
      have n2 : (0 : Int) ≤ (j : Int) := by omega
      have i1 : i < d.size := by omega
      have g1 := ar_get i1
      have g2 := ar_get hj
      have h0 : 0 + d.size ≤ d.size := by omega
      have a0 : d.toList.length = d.size := Array.length_toList
      obtain ⟨y, hy⟩ := set_get (.int .i64) d i j d[j]! hj
      have ih' := ih (i + 1) (j - 1) (Sort.swp d i j) (by omega) (by rw [swp_size]; omega) (by rw [swp_size]; exact hs) (by omega)
      rw [swp_size, swp_map] at ih'
      rw [Sort.reverseLoop, if_pos h]
      rw [← hK, loopW_some, hK]
      simp -implicitDefEqProofs only [go_sem, s276_2, s276_1, f1, w1, w2, n1, n2, i1, hj, g1, g2, h0, a0, hy, setE, List.length_map, List.length_set]
      exact ih'
    · have f1 : ¬ (i : Int) < (j : Int) := by omega
      rw [Sort.reverseLoop, if_neg h]
      rw [← hK, loopW_some, hK]
      simp -implicitDefEqProofs only [go_sem, s276_2, s276_1, f1]
theorem e276 (d : Array Int) (a b : Nat) (hab : a < b) (hb : b ≤ d.size) (hs : d.size < 1152921504606846976) :
    callW E 276 [.hsl (.ext 0) 0 d.size, .p (.int .i64 a), .p (.int .i64 b), .fn 115 [] []] [.parr (d.toList.map (.int .i64)) 1 false] = some ⟨.tup [], [.parr ((Sort.reverseRange d a b).toList.map (.int .i64)) 1 false], []⟩ := by
  have w2 : IntKind.i64.wrap ((b : Int) - 1) = ((b - 1 : Nat) : Int) := wSub b 1 (by omega) (by omega)
  have lp := loop276 (E := E) _ a (b - 1) d (Nat.le_refl _) (by omega) hs (by omega)
  rw [← Sort.reverseRange] at lp
  rw [callW_eq, EnvS.h 276 F276 rfl]
  simp -implicitDefEqProofs only [go_sem, F276, s276, s276_3, w2, lp]
end Go.Ab.S

namespace Go.Ab.S
open Go Go.Ab
variable {E : Env} [EnvS E]

/-! ### Lengths in bits, numbers that look drawn -/
theorem dec_tab : ((List.range 256).all fun n => ((⟨#[0, 1, 2, 2, 3, 3, 3, 3, 4, 4, 4, 4, 4, 4, 4, 4, 5, 5, 5, 5, 5, 5, 5, 5, 5, 5, 5, 5, 5, 5, 5, 5, 6, 6, 6, 6, 6, 6, 6, 6, 6, 6, 6, 6, 6, 6, 6, 6, 6, 6, 6, 6, 6, 6, 6, 6, 6, 6, 6, 6, 6, 6, 6, 6, 7, 7, 7, 7, 7, 7, 7, 7, 7, 7, 7, 7, 7, 7, 7, 7, 7, 7, 7, 7, 7, 7, 7, 7, 7, 7, 7, 7, 7, 7, 7, 7, 7, 7, 7, 7, 7, 7, 7, 7, 7, 7, 7, 7, 7, 7, 7, 7, 7, 7, 7, 7, 7, 7, 7, 7, 7, 7, 7, 7, 7, 7, 7, 7, 8, 8, 8, 8, 8, 8, 8, 8, 8, 8, 8, 8, 8, 8, 8, 8, 8, 8, 8, 8, 8, 8, 8, 8, 8, 8, 8, 8, 8, 8, 8, 8, 8, 8, 8, 8, 8, 8, 8, 8, 8, 8, 8, 8, 8, 8, 8, 8, 8, 8, 8, 8, 8, 8, 8, 8, 8, 8, 8, 8, 8, 8, 8, 8, 8, 8, 8, 8, 8, 8, 8, 8, 8, 8, 8, 8, 8, 8, 8, 8, 8, 8, 8, 8, 8, 8, 8, 8, 8, 8, 8, 8, 8, 8, 8, 8, 8, 8, 8, 8, 8, 8, 8, 8, 8, 8, 8, 8, 8, 8, 8, 8, 8, 8, 8, 8, 8, 8, 8, 8, 8, 8, 8, 8, 8, 8, 8, 8]⟩ : ByteArray)[n]?).map UInt8.toNat == some (Sort.bitsLen n)) = true := by decide +kernel
theorem tab_get (n : Nat) (h : n < 256) : ∃ b : UInt8, (⟨#[0, 1, 2, 2, 3, 3, 3, 3, 4, 4, 4, 4, 4, 4, 4, 4, 5, 5, 5, 5, 5, 5, 5, 5, 5, 5, 5, 5, 5, 5, 5, 5, 6, 6, 6, 6, 6, 6, 6, 6, 6, 6, 6, 6, 6, 6, 6, 6, 6, 6, 6, 6, 6, 6, 6, 6, 6, 6, 6, 6, 6, 6, 6, 6, 7, 7, 7, 7, 7, 7, 7, 7, 7, 7, 7, 7, 7, 7, 7, 7, 7, 7, 7, 7, 7, 7, 7, 7, 7, 7, 7, 7, 7, 7, 7, 7, 7, 7, 7, 7, 7, 7, 7, 7, 7, 7, 7, 7, 7, 7, 7, 7, 7, 7, 7, 7, 7, 7, 7, 7, 7, 7, 7, 7, 7, 7, 7, 7, 8, 8, 8, 8, 8, 8, 8, 8, 8, 8, 8, 8, 8, 8, 8, 8, 8, 8, 8, 8, 8, 8, 8, 8, 8, 8, 8, 8, 8, 8, 8, 8, 8, 8, 8, 8, 8, 8, 8, 8, 8, 8, 8, 8, 8, 8, 8, 8, 8, 8, 8, 8, 8, 8, 8, 8, 8, 8, 8, 8, 8, 8, 8, 8, 8, 8, 8, 8, 8, 8, 8, 8, 8, 8, 8, 8, 8, 8, 8, 8, 8, 8, 8, 8, 8, 8, 8, 8, 8, 8, 8, 8, 8, 8, 8, 8, 8, 8, 8, 8, 8, 8, 8, 8, 8, 8, 8, 8, 8, 8, 8, 8, 8, 8, 8, 8, 8, 8, 8, 8, 8, 8, 8, 8, 8, 8, 8, 8]⟩ : ByteArray)[n]? = some b ∧ b.toNat = Sort.bitsLen n := by
  have := List.all_eq_true.1 dec_tab n (List.mem_range.2 h)
  exact Option.map_eq_some_iff.1 (eq_of_beq this)
theorem dec_len : ((List.range 1024).all fun n => decide (Sort.bitsLen n ≤ 10) && (decide (n < 256) || Sort.bitsLen n == 8 + Sort.bitsLen (n / 256)) && (n == 0 || (decide (1 <<< Sort.bitsLen n ≤ 2 * n) && decide (n < 1 <<< Sort.bitsLen n)))) = true := by decide +kernel
theorem len_facts {n : Nat} (h : n < 1024) : Sort.bitsLen n ≤ 10 ∧ (256 ≤ n → Sort.bitsLen n = 8 + Sort.bitsLen (n / 256)) ∧ (0 < n → 1 <<< Sort.bitsLen n ≤ 2 * n ∧ n < 1 <<< Sort.bitsLen n) := by
  have := List.all_eq_true.1 dec_len n (List.mem_range.2 h)
  simp only [Bool.and_eq_true, Bool.or_eq_true, decide_eq_true_eq, beq_iff_eq] at this
  obtain ⟨⟨h1, h2⟩, h3⟩ := this
  exact ⟨h1, fun hn => h2.resolve_left (by omega), fun hn => h3.resolve_left (by omega)⟩
theorem u64w (n : Nat) (h : n < 18446744073709551616) : IntKind.u64.wrap (n : Int) = n := by
  have : IntKind.u64.wrap (n : Int) = (n : Int) % 18446744073709551616 := by simp [IntKind.wrap, IntKind.signed, IntKind.bits]
  rw [this]; omega
theorem u8w (n : Nat) (h : n < 256) : IntKind.u8.wrap (n : Int) = n := by
  have : IntKind.u8.wrap (n : Int) = (n : Int) % 256 := by simp [IntKind.wrap, IntKind.signed, IntKind.bits]
  rw [this]; omega
set_option maxRecDepth 100000 in
theorem e263 (n : Nat) (h : n < 1024) : callW E 263 [.p (.int .u64 n)] [] = some ⟨.p (.int .i64 (Sort.bitsLen n)), [], []⟩ := by
  have f1 : ¬ (4294967296 : Int) ≤ n := by omega
  have f2 : ¬ (65536 : Int) ≤ n := by omega
  obtain ⟨l1, l2, _⟩ := len_facts h
  by_cases h8 : 256 ≤ n
  · have f3 : (256 : Int) ≤ n := by omega
    have w1 : shrI .u64 (n : Int) 8 = ((n / 256 : Nat) : Int) := by
      unfold shrI
      show (n : Int).fdiv 256 = _
      rw [Int.fdiv_eq_ediv_of_nonneg _ (by omega)]; rfl
    obtain ⟨b, hb1, hb2⟩ := tab_get (n / 256) (by omega)
    have w2 := u8w (n / 256) (by omega)
    have w3 : IntKind.i64.wrap ((b.toNat : Nat) : Int) = (b.toNat : Int) := wrapN _ (by have := UInt8.toNat_lt b; omega)
    have w4 : IntKind.i64.wrap (8 + (b.toNat : Int)) = ((8 + b.toNat : Nat) : Int) := by rw [wrap64 (by omega) (by have := UInt8.toNat_lt b; omega)]; omega
    have w5 : IntKind.i64.wrap 8 = 8 := by decide
    have n1 : (0 : Int) ≤ ((n / 256 : Nat) : Int) := by omega
    rw [l2 h8, ← hb2]
    rw [callW_eq, EnvS.h 263 F263 rfl]
    simp -implicitDefEqProofs only [go_sem, F263, s263, s263_1, s263_2, s263_3, f1, f2, f3, w1, hb1, w2, w3, w4, w5, n1, Int.zero_add]
  · have f3 : ¬ (256 : Int) ≤ n := by omega
    obtain ⟨b, hb1, hb2⟩ := tab_get n (by omega)
    have w2 := u8w n (by omega)
    have w3 : IntKind.i64.wrap ((b.toNat : Nat) : Int) = (b.toNat : Int) := wrapN _ (by have := UInt8.toNat_lt b; omega)
    have n1 : (0 : Int) ≤ (n : Int) := by omega
    rw [← hb2]
    rw [callW_eq, EnvS.h 263 F263 rfl]
    simp -implicitDefEqProofs only [go_sem, F263, s263, s263_1, s263_2, s263_3, f1, f2, f3, hb1, w2, w3, n1, Int.zero_add]
theorem e228 (n : Nat) (h : n < 1024) : callW E 228 [.p (.int .u64 n)] [] = some ⟨.p (.int .i64 (Sort.bitsLen n)), [], []⟩ := by
  have e := e263 (E := E) n h
  rw [callW_eq, EnvS.h 228 F228 rfl]
  simp -implicitDefEqProofs only [go_sem, F228, s228, s228_1, e]
theorem e298 (n : Nat) (h : n < 1024) : callW E 298 [.p (.int .i64 n)] [] = some ⟨.p (.int .u64 (1 <<< Sort.bitsLen n : Nat)), [], []⟩ := by
  have e := e228 (E := E) n h
  have w := u64w n (by omega)
  obtain ⟨l1, _, _⟩ := len_facts h
  have f : ¬ ((Sort.bitsLen n : Nat) : Int) < 0 := by omega
  have w2 : shlI .u64 1 ((Sort.bitsLen n : Nat) : Int) = ((1 <<< Sort.bitsLen n : Nat) : Int) := by
    unfold shlI
    have : min ((Sort.bitsLen n : Nat) : Int).toNat IntKind.u64.bits = Sort.bitsLen n := by simp [IntKind.bits]; omega
    rw [this, Nat.one_shiftLeft, Int.one_mul, show ((2 : Int) ^ Sort.bitsLen n) = ((2 ^ Sort.bitsLen n : Nat) : Int) by simp, u64w]
    exact Nat.lt_of_le_of_lt (Nat.pow_le_pow_right (n := 2) (by decide) l1) (by decide)
  rw [callW_eq, EnvS.h 298 F298 rfl]
  simp -implicitDefEqProofs only [go_sem, F298, s298, w, e, f, w2]
theorem xorU (a b : UInt64) : xorI .u64 (a.toNat : Int) (b.toNat : Int) = ((a ^^^ b).toNat : Int) := by
  unfold xorI
  have h1 : (BitVec.ofInt 64 (a.toNat : Int) ^^^ BitVec.ofInt 64 (b.toNat : Int)).toNat = (a ^^^ b).toNat := by
    rw [BitVec.toNat_xor, BitVec.ofInt_natCast, BitVec.ofInt_natCast, BitVec.toNat_ofNat, BitVec.toNat_ofNat, Nat.mod_eq_of_lt a.toNat_lt, Nat.mod_eq_of_lt b.toNat_lt, UInt64.toNat_xor]
  show IntKind.u64.wrap ((BitVec.ofInt 64 (a.toNat : Int) ^^^ BitVec.ofInt 64 (b.toNat : Int)).toNat : Int) = _
  rw [h1, u64w _ (UInt64.toNat_lt _)]
theorem shlU (a : UInt64) (k : Nat) (hk : k < 64) : shlI .u64 (a.toNat : Int) (k : Int) = ((a <<< UInt64.ofNat k).toNat : Int) := by
  unfold shlI
  have : min ((k : Nat) : Int).toNat IntKind.u64.bits = k := by simp [IntKind.bits]; omega
  rw [this, UInt64.toNat_shiftLeft]
  have hm : (UInt64.ofNat k).toNat % 64 = k := by rw [UInt64.toNat_ofNat_of_lt' (by simp [UInt64.size]; omega)]; omega
  rw [hm, Nat.shiftLeft_eq]
  have h2 : IntKind.u64.wrap ((a.toNat : Int) * 2 ^ k) = ((a.toNat : Int) * 2 ^ k) % 18446744073709551616 := by simp [IntKind.wrap, IntKind.signed, IntKind.bits]
  rw [h2, show ((2 : Int) ^ k) = ((2 ^ k : Nat) : Int) by simp]
  rfl
theorem shrU (a : UInt64) (k : Nat) (hk : k < 64) : shrI .u64 (a.toNat : Int) (k : Int) = ((a >>> UInt64.ofNat k).toNat : Int) := by
  unfold shrI
  have : min ((k : Nat) : Int).toNat IntKind.u64.bits = k := by simp [IntKind.bits]; omega
  rw [this, UInt64.toNat_shiftRight]
  have hm : (UInt64.ofNat k).toNat % 64 = k := by rw [UInt64.toNat_ofNat_of_lt' (by simp [UInt64.size]; omega)]; omega
  rw [hm, Nat.shiftRight_eq_div_pow, show ((2 : Int) ^ k) = ((2 ^ k : Nat) : Int) by simp, Int.fdiv_eq_ediv_of_nonneg _ (Int.natCast_nonneg _)]
  rfl
theorem e299 (r : UInt64) : callW E 299 [.ptr (.ext 0) 0] [.box [.p (.int .u64 r.toNat)]] = some ⟨.p (.int .u64 (Sort.xorNext r).toNat), [.box [.p (.int .u64 (Sort.xorNext r).toNat)]], []⟩ := by
  have a1 := shlU r 13 (by decide)
  have a2 := xorU r (r <<< 13)
  have b1 := shrU (r ^^^ (r <<< 13)) 7 (by decide)
  have b2 := xorU (r ^^^ (r <<< 13)) ((r ^^^ (r <<< 13)) >>> 7)
  have c1 := shlU ((r ^^^ (r <<< 13)) ^^^ ((r ^^^ (r <<< 13)) >>> 7)) 17 (by decide)
  have c2 := xorU ((r ^^^ (r <<< 13)) ^^^ ((r ^^^ (r <<< 13)) >>> 7)) (((r ^^^ (r <<< 13)) ^^^ ((r ^^^ (r <<< 13)) >>> 7)) <<< 17)
  rw [show UInt64.ofNat 13 = (13 : UInt64) from rfl] at a1
  rw [show UInt64.ofNat 7 = (7 : UInt64) from rfl] at b1
  rw [show UInt64.ofNat 17 = (17 : UInt64) from rfl] at c1
  simp only [cast_lit] at a1 b1 c1
  rw [callW_eq, EnvS.h 299 F299 rfl]
  simp -implicitDefEqProofs only [go_sem, F299, s299, a1, a2, b1, b2, c1, c2]
  rfl
end Go.Ab.S

namespace Go.Ab.S
open Go Go.Ab
variable {E : Env} [EnvS E]

/-! ### Breaking patterns -/
theorem andU (a b : Nat) (ha : a < 18446744073709551616) (hb : b < 18446744073709551616) : andI .u64 a b = ((a &&& b : Nat) : Int) := by
  unfold andI
  have h1 : (BitVec.ofInt 64 (a : Int) &&& BitVec.ofInt 64 (b : Int)).toNat = a &&& b := by
    rw [BitVec.toNat_and, BitVec.ofInt_natCast, BitVec.ofInt_natCast, BitVec.toNat_ofNat, BitVec.toNat_ofNat, Nat.mod_eq_of_lt (by omega), Nat.mod_eq_of_lt (by omega)]
  show IntKind.u64.wrap ((BitVec.ofInt 64 (a : Int) &&& BitVec.ofInt 64 (b : Int)).toNat : Int) = _
  rw [h1, u64w _ (Nat.lt_of_le_of_lt Nat.and_le_left ha)]
theorem brk_step (a len modulus : Nat) (hl : 8 ≤ len) (hl2 : len < 1024) (hm : 0 < modulus) (hm2 : modulus ≤ 2 * len) (d : Array Int) (had : a + len ≤ d.size) (hs : d.size < 1152921504606846976) (i : Nat) (hi : i ≤ a + len / 4 * 2 + 1) (r : UInt64) :
    loopW E 1 [0, 1, 8, 9, 10, 11] [.loc 2 2 0] (.trim [0, 1, 8, 9, 10, 11] [] [(0, [])] [.loc 2 2 0] s274_3) (some ⟨[(0, .hsl (.ext 0) 0 d.size), (1, .p (.int .i64 a)), (8, .p (.int .i64 len)), (9, .ptr (.loc 2 2 0) 0), (10, .p (.int .u64 modulus)), (11, .p (.int .i64 i))], [(.ext 0, some (.parr (d.toList.map (.int .i64)) 1 false)), (.loc 2 2 0, some (.box [.p (.int .u64 r.toNat)]))]⟩) =
    loopW E 1 [0, 1, 8, 9, 10, 11] [.loc 2 2 0] (.trim [0, 1, 8, 9, 10, 11] [] [(0, [])] [.loc 2 2 0] s274_3) (some ⟨[(0, .hsl (.ext 0) 0 d.size), (1, .p (.int .i64 a)), (8, .p (.int .i64 len)), (9, .ptr (.loc 2 2 0) 0), (10, .p (.int .u64 modulus)), (11, .p (.int .i64 (i + 1 : Nat)))], [(.ext 0, some (.parr ((Sort.breakStep a len modulus (r, d) i).2.toList.map (.int .i64)) 1 false)), (.loc 2 2 0, some (.box [.p (.int .u64 (Sort.breakStep a len modulus (r, d) i).1.toNat)]))]⟩) := by
  generalize hK : loopW E 1 _ _ _ = K
  rw [← hK, loopW_some, hK]
  have e1 := e299 (E := E) r
  have hrl := UInt64.toNat_lt (Sort.xorNext r)
  have q1 : IntKind.i64.wrap ((len : Int).tdiv 4) = ((len / 4 : Nat) : Int) := by
    rw [show (len : Int).tdiv 4 = ((len / 4 : Nat) : Int) from rfl, wrapN _ (by omega)]
  have q2 : IntKind.i64.wrap (((len / 4 : Nat) : Int) * 2) = ((len / 4 * 2 : Nat) : Int) := by rw [wrap64 (by omega) (by omega)]; omega
  have q3 := wAdd a (len / 4 * 2) (by omega)
  have q4 := wAdd1 (a + len / 4 * 2) (by omega)
  have f1 : (i : Int) ≤ ((a + len / 4 * 2 + 1 : Nat) : Int) := by omega
  have q5 : IntKind.u64.wrap ((modulus : Int) - 1) = ((modulus - 1 : Nat) : Int) := by
    rw [show (modulus : Int) - 1 = ((modulus - 1 : Nat) : Int) by omega, u64w _ (by omega)]
  have q6 := andU (Sort.xorNext r).toNat (modulus - 1) hrl (by omega)
  have hand : (Sort.xorNext r).toNat &&& (modulus - 1) ≤ modulus - 1 := Nat.and_le_right
  unfold Sort.breakStep
  dsimp only
  generalize (Sort.xorNext r).toNat &&& (modulus - 1) = o at *
  have q7 := wrapN o (by omega)
  have w1 := wAdd1 i (by omega)
  have n1 : (0 : Int) ≤ (i : Int) := by omega
  have i1 : i < d.size := by omega
  have g1 := ar_get i1
  have h0 : 0 + d.size ≤ d.size := by omega
  have a0 : d.toList.length = d.size := Array.length_toList
  by_cases h : o ≥ len
  · have f2 : (len : Int) ≤ (o : Int) := by omega
    have q8 := wSub o len h (by omega)
    have q9 := wAdd a (o - len) (by omega)
    have n2 : (0 : Int) ≤ ((a + (o - len) : Nat) : Int) := by omega
    have i2 : a + (o - len) < d.size := by omega
    have g2 := ar_get i2
    obtain ⟨y, hy⟩ := set_get (.int .i64) d i (a + (o - len)) d[a + (o - len)]! i2
    rw [if_pos h, swp_map]
    simp -implicitDefEqProofs only [go_sem, s274_3, s274_2, s274_1, q1, q2, q3, q4, f1, e1, q5, q6, q7, f2, q8, q9, w1, n1, n2, i1, i2, g1, g2, h0, a0, hy, setE, List.length_map, List.length_set]
  · have f2 : ¬ (len : Int) ≤ (o : Int) := by omega
    have q9 := wAdd a o (by omega)
    have n2 : (0 : Int) ≤ ((a + o : Nat) : Int) := by omega
    have i2 : a + o < d.size := by omega
    have g2 := ar_get i2
    obtain ⟨y, hy⟩ := set_get (.int .i64) d i (a + o) d[a + o]! i2
    rw [if_neg h, swp_map]
    simp -implicitDefEqProofs only [go_sem, s274_3, s274_2, s274_1, q1, q2, q3, q4, f1, e1, q5, q6, q7, f2, q9, w1, n1, n2, i1, i2, g1, g2, h0, a0, hy, setE, List.length_map, List.length_set]
theorem step_size (a len modulus : Nat) (r : UInt64) (d : Array Int) (i : Nat) : (Sort.breakStep a len modulus (r, d) i).2.size = d.size := by
  simp only [Sort.breakStep, swp_size]
theorem e274 (d : Array Int) (a b : Nat) (hab : a < b) (hb : b ≤ d.size) (hs : d.size < 1024) :
    callW E 274 [.hsl (.ext 0) 0 d.size, .p (.int .i64 a), .p (.int .i64 b), .fn 115 [] []] [.parr (d.toList.map (.int .i64)) 1 false] = some ⟨.tup [], [.parr ((Sort.breakPatterns d a b).toList.map (.int .i64)) 1 false], []⟩ := by
  have w1 := wSub b a (by omega) (by omega)
  unfold Sort.breakPatterns
  dsimp only
  generalize hlen : b - a = len at *
  by_cases h8 : len ≥ 8
  · have f1 : (8 : Int) ≤ (len : Int) := by omega
    have q0 := u64w len (by omega)
    have e1 := e298 (E := E) len (by omega)
    obtain ⟨_, _, l3⟩ := len_facts (n := len) (by omega)
    obtain ⟨m1, m2⟩ := l3 (by omega)
    generalize 1 <<< Sort.bitsLen len = modulus at *
    have q1 : IntKind.i64.wrap ((len : Int).tdiv 4) = ((len / 4 : Nat) : Int) := by
      rw [show (len : Int).tdiv 4 = ((len / 4 : Nat) : Int) from rfl, wrapN _ (by omega)]
    have q2 : IntKind.i64.wrap (((len / 4 : Nat) : Int) * 2) = ((len / 4 * 2 : Nat) : Int) := by rw [wrap64 (by omega) (by omega)]; omega
    have q3 := wAdd a (len / 4 * 2) (by omega)
    have q4 : IntKind.i64.wrap (((a + len / 4 * 2 : Nat) : Int) - 1) = ((a + len / 4 * 2 - 1 : Nat) : Int) := wSub _ 1 (by omega) (by omega)
    have hr0 : (UInt64.ofNat len).toNat = len := UInt64.toNat_ofNat_of_lt' (by simp [UInt64.size]; omega)
    generalize hidx : a + len / 4 * 2 - 1 = idx at *
    have t1 := brk_step (E := E) a len modulus h8 (by omega) (by omega) m1 d (by omega) (by omega) idx (by omega) (UInt64.ofNat len)
    rw [hr0] at t1
    have z1 := step_size a len modulus (UInt64.ofNat len) d idx
    generalize Sort.breakStep a len modulus (UInt64.ofNat len, d) idx = s1 at *
    obtain ⟨r1, d1⟩ := s1
    dsimp only at t1 z1
    have t2 := brk_step (E := E) a len modulus h8 (by omega) (by omega) m1 d1 (by omega) (by omega) (idx + 1) (by omega) r1
    have z2 := step_size a len modulus r1 d1 (idx + 1)
    generalize Sort.breakStep a len modulus (r1, d1) (idx + 1) = s2 at *
    obtain ⟨r2, d2⟩ := s2
    dsimp only at t2 z2
    have t3 := brk_step (E := E) a len modulus h8 (by omega) (by omega) m1 d2 (by omega) (by omega) (idx + 2) (by omega) r2
    have z3 := step_size a len modulus r2 d2 (idx + 2)
    generalize Sort.breakStep a len modulus (r2, d2) (idx + 2) = s3 at *
    obtain ⟨r3, d3⟩ := s3
    dsimp only at t3 z3
    rw [z1] at t2
    rw [z2, z1] at t3
    rw [if_pos h8]
    have f2 : ¬ ((idx + 2 + 1 : Nat) : Int) ≤ ((a + len / 4 * 2 + 1 : Nat) : Int) := by omega
    have q5 := wAdd1 (a + len / 4 * 2) (by omega)
    have t4 : loopW E 1 [0, 1, 8, 9, 10, 11] [.loc 2 2 0] (.trim [0, 1, 8, 9, 10, 11] [] [(0, [])] [.loc 2 2 0] s274_3) (some ⟨[(0, .hsl (.ext 0) 0 d.size), (1, .p (.int .i64 a)), (8, .p (.int .i64 len)), (9, .ptr (.loc 2 2 0) 0), (10, .p (.int .u64 modulus)), (11, .p (.int .i64 (idx + 2 + 1 : Nat)))], [(.ext 0, some (.parr (d3.toList.map (.int .i64)) 1 false)), (.loc 2 2 0, some (.box [.p (.int .u64 r3.toNat)]))]⟩) =
        some (.ex 0, ⟨[], [(.ext 0, some (.parr (d3.toList.map (.int .i64)) 1 false)), (.loc 2 2 0, some (.box [.p (.int .u64 r3.toNat)]))]⟩) := by
      rw [loopW_some]
      generalize hK : loopW E 1 _ _ _ = K
      simp -implicitDefEqProofs only [go_sem, s274_3, s274_2, s274_1, q1, q2, q3, q5, f2]
    have t5 := t1.trans (t2.trans (t3.trans t4))
    rw [callW_eq, EnvS.h 274 F274 rfl]
    simp -implicitDefEqProofs only [go_sem, F274, s274, s274_5, s274_4, w1, f1, q0, e1, q1, q2, q3, q4, t5]
  · have f1 : ¬ (8 : Int) ≤ (len : Int) := by omega
    rw [if_neg h8]
    rw [callW_eq, EnvS.h 274 F274 rfl]
    simp -implicitDefEqProofs only [go_sem, F274, s274, w1, f1]
/-! ### The pivot -/
theorem e319 (d : Array Int) (a b s : Nat) (ha : a < d.size) (hb : b < d.size) (hs : s < 1000) :
    callW E 319 [.hsl (.ext 0) 0 d.size, .p (.int .i64 a), .p (.int .i64 b), .ptr (.ext 1) 0, .fn 115 [] []] [.parr (d.toList.map (.int .i64)) 1 false, .box [.p (.int .i64 s)]] =
    some ⟨.tup [.p (.int .i64 (Sort.order2 ltI d a b s).1), .p (.int .i64 (Sort.order2 ltI d a b s).2.1)], [.parr (d.toList.map (.int .i64)) 1 false, .box [.p (.int .i64 (Sort.order2 ltI d a b s).2.2)]], []⟩ := by
  have g1 := ar_get ha
  have g2 := ar_get hb
  have n1 : (0 : Int) ≤ (a : Int) := by omega
  have n2 : (0 : Int) ≤ (b : Int) := by omega
  have h0 : 0 + d.size ≤ d.size := by omega
  have a0 : d.toList.length = d.size := Array.length_toList
  have e1 := e115 (E := E) d[b]! d[a]!
  have e2 := cmpI_lt d[b]! d[a]!
  have w1 := wAdd1 s (by omega)
  unfold Sort.order2
  rw [callW_eq, EnvS.h 319 F319 rfl]
  cases hl : ltI d[b]! d[a]! with
  | true =>
    rw [hl] at e2
    have e3 := of_decide_eq_true e2
    simp -implicitDefEqProofs only [go_sem, F319, s319, s319_1, g1, g2, n1, n2, ha, hb, h0, a0, e1, e3, w1]
  | false =>
    rw [hl] at e2
    have e3 := of_decide_eq_false e2
    simp -implicitDefEqProofs only [go_sem, F319, s319, s319_1, g1, g2, n1, n2, ha, hb, h0, a0, e1, e3, w1]
theorem ord_lt {d : Array Int} {a b s n : Nat} (ha : a < n) (hb : b < n) : (Sort.order2 ltI d a b s).1 < n ∧ (Sort.order2 ltI d a b s).2.1 < n ∧ (Sort.order2 ltI d a b s).2.2 ≤ s + 1 := by
  unfold Sort.order2
  split
  · exact ⟨hb, ha, Nat.le_refl _⟩
  · exact ⟨ha, hb, Nat.le_succ _⟩
theorem e307 (d : Array Int) (a b c s : Nat) (ha : a < d.size) (hb : b < d.size) (hc : c < d.size) (hs : s < 900) :
    callW E 307 [.hsl (.ext 0) 0 d.size, .p (.int .i64 a), .p (.int .i64 b), .p (.int .i64 c), .ptr (.ext 1) 0, .fn 115 [] []] [.parr (d.toList.map (.int .i64)) 1 false, .box [.p (.int .i64 s)]] =
    some ⟨.p (.int .i64 (Sort.median ltI d a b c s).1), [.parr (d.toList.map (.int .i64)) 1 false, .box [.p (.int .i64 (Sort.median ltI d a b c s).2)]], []⟩ := by
  unfold Sort.median
  dsimp only
  have e1 := e319 (E := E) d a b s ha hb (by omega)
  obtain ⟨p1, p2, p3⟩ := ord_lt (d := d) (s := s) ha hb
  generalize Sort.order2 ltI d a b s = r1 at *
  obtain ⟨a1, b1, s1⟩ := r1
  dsimp only at e1 p1 p2 p3 ⊢
  have e2 := e319 (E := E) d b1 c s1 p2 hc (by omega)
  obtain ⟨q1, q2, q3⟩ := ord_lt (d := d) (s := s1) p2 hc
  generalize Sort.order2 ltI d b1 c s1 = r2 at *
  obtain ⟨b2, c2, s2⟩ := r2
  dsimp only at e2 q1 q2 q3 ⊢
  have e3 := e319 (E := E) d a1 b2 s2 p1 q1 (by omega)
  generalize Sort.order2 ltI d a1 b2 s2 = r3 at *
  obtain ⟨a3, b3, s3⟩ := r3
  dsimp only at e3 ⊢
  rw [callW_eq, EnvS.h 307 F307 rfl]
  simp -implicitDefEqProofs only [go_sem, F307, s307, e1, e2, e3]
def hintN : Sort.Hint → Int
  | .unknown => 0
  | .increasing => 1
  | .decreasing => 2
theorem e275 (d : Array Int) (a b : Nat) (hab : a < b) (hb : b ≤ d.size) (hs : d.size < 50) :
    callW E 275 [.hsl (.ext 0) 0 d.size, .p (.int .i64 a), .p (.int .i64 b), .fn 115 [] []] [.parr (d.toList.map (.int .i64)) 1 false] =
    some ⟨.tup [.p (.int .i64 (Sort.choosePivot ltI d a b).1), .p (.int .i64 (hintN (Sort.choosePivot ltI d a b).2))], [.parr (d.toList.map (.int .i64)) 1 false], []⟩ := by
  have w1 := wSub b a (by omega) (by omega)
  unfold Sort.choosePivot
  dsimp only
  generalize hlen : b - a = len at *
  have q1 : IntKind.i64.wrap ((len : Int).tdiv 4) = ((len / 4 : Nat) : Int) := by
    rw [show (len : Int).tdiv 4 = ((len / 4 : Nat) : Int) from rfl, wrapN _ (by omega)]
  have q2 : IntKind.i64.wrap (((len / 4 : Nat) : Int) * 1) = ((len / 4 * 1 : Nat) : Int) := by rw [wrap64 (by omega) (by omega)]; omega
  have q3 : IntKind.i64.wrap (((len / 4 : Nat) : Int) * 2) = ((len / 4 * 2 : Nat) : Int) := by rw [wrap64 (by omega) (by omega)]; omega
  have q4 : IntKind.i64.wrap (((len / 4 : Nat) : Int) * 3) = ((len / 4 * 3 : Nat) : Int) := by rw [wrap64 (by omega) (by omega)]; omega
  have q5 := wAdd a (len / 4 * 1) (by omega)
  have q6 := wAdd a (len / 4 * 2) (by omega)
  have q7 := wAdd a (len / 4 * 3) (by omega)
  have f2 : ¬ (50 : Int) ≤ (len : Int) := by omega
  have f2' : ¬ len ≥ 50 := by omega
  by_cases h8 : len ≥ 8
  · have f1 : (8 : Int) ≤ (len : Int) := by omega
    have e1 := e307 (E := E) d (a + len / 4 * 1) (a + len / 4 * 2) (a + len / 4 * 3) 0 (by omega) (by omega) (by omega) (by omega)
    rw [if_pos h8, if_neg f2']
    generalize Sort.median ltI d (a + len / 4 * 1) (a + len / 4 * 2) (a + len / 4 * 3) 0 = m at *
    obtain ⟨m1, m2⟩ := m
    dsimp only at e1 ⊢
    simp only [Int.natCast_zero] at e1
    rw [callW_eq, EnvS.h 275 F275 rfl]
    by_cases hm0 : m2 = 0
    · subst hm0
      simp only [if_true, hintN]
      simp only [Int.natCast_zero] at e1
      simp -implicitDefEqProofs only [go_sem, F275, s275, s275_2, s275_1, s275_7, s275_3, s275_6, s275_4, s275_5, w1, q1, q2, q3, q4, q5, q6, q7, f1, f2, e1]
    · have hm0' : ¬ (m2 : Int) = 0 := by omega
      by_cases hm12 : m2 = 12
      · subst hm12
        simp only [hm0, if_false, if_true, hintN]
        simp -implicitDefEqProofs only [go_sem, F275, s275, s275_2, s275_1, s275_7, s275_3, s275_6, s275_4, s275_5, w1, q1, q2, q3, q4, q5, q6, q7, f1, f2, e1, hm0']
      · have hm12' : ¬ (m2 : Int) = 12 := by omega
        simp only [hm0, hm12, if_false, hintN]
        simp -implicitDefEqProofs only [go_sem, F275, s275, s275_2, s275_1, s275_7, s275_3, s275_6, s275_4, s275_5, w1, q1, q2, q3, q4, q5, q6, q7, f1, f2, e1, hm0', hm12']
  · have f1 : ¬ (8 : Int) ≤ (len : Int) := by omega
    rw [if_neg h8]
    simp only [if_true, hintN]
    rw [callW_eq, EnvS.h 275 F275 rfl]
    simp -implicitDefEqProofs only [go_sem, F275, s275, s275_2, s275_1, s275_7, s275_3, s275_6, s275_4, s275_5, w1, q1, q2, q3, q4, q5, q6, q7, f1]
end Go.Ab.S

namespace Go.Ab.S
open Go Go.Ab
variable {E : Env} [EnvS E]

/-! ### Scans -/
theorem scanUp_ge (p : Int → Bool) (d : Array Int) (j : Nat) : ∀ (n i : Nat), j + 1 - i ≤ n → i ≤ Sort.scanUp p d j i ∧ Sort.scanUp p d j i ≤ max i (j + 1) := by
  intro n
  induction n with
  | zero => intro i h; rw [Sort.scanUp, if_neg (by simp; omega)]; omega
  | succ n ih =>
    intro i h
    rw [Sort.scanUp]
    split
    · rename_i hc
      simp only [Bool.and_eq_true, decide_eq_true_eq] at hc
      have := ih (i + 1) (by omega)
      omega
    · omega
theorem scanDown_le (p : Int → Bool) (d : Array Int) (i : Nat) : ∀ j, Sort.scanDown p d i j ≤ j
  | 0 => Nat.le_refl 0
  | j + 1 => by
    rw [Sort.scanDown]
    split
    · exact Nat.le_succ_of_le (scanDown_le p d i j)
    · exact Nat.le_refl _
theorem up279_2 (d : Array Int) (a j : Nat) (ha : a < d.size) (hj : j < d.size) (hs : d.size < 1152921504606846976) : ∀ (n i : Nat), j + 1 - i ≤ n → i < 1152921504606846977 →
    loopW E 1 [0, 1, 4, 12, 13] [] (.trim [0, 1, 4, 12, 13] [10, 11] [(0, [0, 1, 4, 12, 13])] [] s279_2) (some ⟨[(0, .hsl (.ext 0) 0 d.size), (1, .p (.int .i64 a)), (4, .fn 115 [] []), (12, .p (.int .i64 i)), (13, .p (.int .i64 j))], [(.ext 0, some (.parr (d.toList.map (.int .i64)) 1 false))]⟩) = some (.ex 0, ⟨[(0, .hsl (.ext 0) 0 d.size), (1, .p (.int .i64 a)), (4, .fn 115 [] []), (12, .p (.int .i64 (Sort.scanUp (fun x => ltI x d[a]!) d j i : Nat))), (13, .p (.int .i64 j))], [(.ext 0, some (.parr (d.toList.map (.int .i64)) 1 false))]⟩) := by
  generalize hK : loopW E 1 _ _ _ = K
  intro n
  induction n with
  | zero =>
    intro i hn hi
    have f1 : ¬ (i : Int) ≤ (j : Int) := by omega
    rw [Sort.scanUp, if_neg (by simp; omega)]
    rw [← hK, loopW_some, hK]
    simp -implicitDefEqProofs only [go_sem, s279_2, s279_1, f1]
  | succ n ih =>
    intro i hn hi
    by_cases h : i ≤ j
    · have f1 : (i : Int) ≤ (j : Int) := by omega
      have n1 : (0 : Int) ≤ (i : Int) := by omega
      have n2 : (0 : Int) ≤ (a : Int) := by omega
      have i1 : i < d.size := by omega
      have g1 := ar_get i1
      have g2 := ar_get ha
      have h0 : 0 + d.size ≤ d.size := by omega
      have a0 : d.toList.length = d.size := Array.length_toList
      have w1 := wAdd1 i (by omega)
      have e1 := e115 (E := E) d[i]! d[a]!
      have e2 := cmpI_lt d[i]! d[a]!
      cases hl : ltI d[i]! d[a]! with
      | true =>
        rw [hl] at e2
        have e3 := of_decide_eq_true e2
        rw [Sort.scanUp, if_pos (by simp [h, hl])]
        have ih' := ih (i + 1) (by omega) (by omega)
        rw [← hK, loopW_some, hK]
        simp -implicitDefEqProofs only [go_sem, s279_2, s279_1, f1, n1, n2, i1, ha, g1, g2, h0, a0, w1, e1, e3]
        exact ih'
      | false =>
        rw [hl] at e2
        have e3 := of_decide_eq_false e2
        rw [Sort.scanUp, if_neg (by simp [hl])]
        rw [← hK, loopW_some, hK]
        simp -implicitDefEqProofs only [go_sem, s279_2, s279_1, f1, n1, n2, i1, ha, g1, g2, h0, a0, w1, e1, e3]
    · have f1 : ¬ (i : Int) ≤ (j : Int) := by omega
      rw [Sort.scanUp, if_neg (by simp; omega)]
      rw [← hK, loopW_some, hK]
      simp -implicitDefEqProofs only [go_sem, s279_2, s279_1, f1]
theorem down279_5 (d : Array Int) (a i : Nat) (ha : a < d.size) (hi1 : 1 ≤ i) (hs : d.size < 1152921504606846976) : ∀ (j : Nat), j < d.size →
    loopW E 1 [0, 1, 4, 12, 13] [] (.trim [0, 1, 4, 12, 13] [10, 11] [(2, [0, 1, 4, 12, 13])] [] s279_5) (some ⟨[(0, .hsl (.ext 0) 0 d.size), (1, .p (.int .i64 a)), (4, .fn 115 [] []), (12, .p (.int .i64 i)), (13, .p (.int .i64 j))], [(.ext 0, some (.parr (d.toList.map (.int .i64)) 1 false))]⟩) = some (.ex 2, ⟨[(0, .hsl (.ext 0) 0 d.size), (1, .p (.int .i64 a)), (4, .fn 115 [] []), (12, .p (.int .i64 i)), (13, .p (.int .i64 (Sort.scanDown (fun x => !ltI x d[a]!) d i j : Nat)))], [(.ext 0, some (.parr (d.toList.map (.int .i64)) 1 false))]⟩) := by
  generalize hK : loopW E 1 _ _ _ = K
  intro j
  induction j with
  | zero =>
    intro hj
    have f1 : ¬ (i : Int) ≤ 0 := by omega
    rw [Sort.scanDown]
    rw [← hK, loopW_some, hK]
    simp -implicitDefEqProofs only [go_sem, s279_5, s279_4, f1, Int.natCast_zero]
  | succ j ih =>
    intro hj
    by_cases h : i ≤ j + 1
    · have f1 : (i : Int) ≤ ((j + 1 : Nat) : Int) := by omega
      have n1 : (0 : Int) ≤ ((j + 1 : Nat) : Int) := by omega
      have n2 : (0 : Int) ≤ (a : Int) := by omega
      have g1 := ar_get hj
      have g2 := ar_get ha
      have h0 : 0 + d.size ≤ d.size := by omega
      have a0 : d.toList.length = d.size := Array.length_toList
      have w1 := wSub1 j (by omega)
      have e1 := e115 (E := E) d[j + 1]! d[a]!
      have e2 := cmpI_lt d[j + 1]! d[a]!
      cases hl : ltI d[j + 1]! d[a]! with
      | false =>
        rw [hl] at e2
        have e3 := of_decide_eq_false e2
        rw [Sort.scanDown, if_pos (by simp [h, hl])]
        have ih' := ih (by omega)
        rw [← hK, loopW_some, hK]
        simp -implicitDefEqProofs only [go_sem, s279_5, s279_4, f1, n1, n2, hj, ha, g1, g2, h0, a0, w1, e1, e3]
        exact ih'
      | true =>
        rw [hl] at e2
        have e3 := of_decide_eq_true e2
        rw [Sort.scanDown, if_neg (by simp [hl])]
        rw [← hK, loopW_some, hK]
        simp -implicitDefEqProofs only [go_sem, s279_5, s279_4, f1, n1, n2, hj, ha, g1, g2, h0, a0, w1, e1, e3]
    · have f1 : ¬ (i : Int) ≤ ((j + 1 : Nat) : Int) := by omega
      rw [Sort.scanDown, if_neg (by simp; omega)]
      rw [← hK, loopW_some, hK]
      simp -implicitDefEqProofs only [go_sem, s279_5, s279_4, f1]
theorem up279_9 (d : Array Int) (a j : Nat) (ha : a < d.size) (hj : j < d.size) (hs : d.size < 1152921504606846976) : ∀ (n i : Nat), j + 1 - i ≤ n → i < 1152921504606846977 →
    loopW E 1 [0, 1, 4, 12, 13] [] (.trim [0, 1, 4, 12, 13] [10, 11] [(6, [0, 1, 4, 12, 13])] [] s279_9) (some ⟨[(0, .hsl (.ext 0) 0 d.size), (1, .p (.int .i64 a)), (4, .fn 115 [] []), (12, .p (.int .i64 i)), (13, .p (.int .i64 j))], [(.ext 0, some (.parr (d.toList.map (.int .i64)) 1 false))]⟩) = some (.ex 6, ⟨[(0, .hsl (.ext 0) 0 d.size), (1, .p (.int .i64 a)), (4, .fn 115 [] []), (12, .p (.int .i64 (Sort.scanUp (fun x => ltI x d[a]!) d j i : Nat))), (13, .p (.int .i64 j))], [(.ext 0, some (.parr (d.toList.map (.int .i64)) 1 false))]⟩) := by
  generalize hK : loopW E 1 _ _ _ = K
  intro n
  induction n with
  | zero =>
    intro i hn hi
    have f1 : ¬ (i : Int) ≤ (j : Int) := by omega
    rw [Sort.scanUp, if_neg (by simp; omega)]
    rw [← hK, loopW_some, hK]
    simp -implicitDefEqProofs only [go_sem, s279_9, s279_8, f1]
  | succ n ih =>
    intro i hn hi
    by_cases h : i ≤ j
    · have f1 : (i : Int) ≤ (j : Int) := by omega
      have n1 : (0 : Int) ≤ (i : Int) := by omega
      have n2 : (0 : Int) ≤ (a : Int) := by omega
      have i1 : i < d.size := by omega
      have g1 := ar_get i1
      have g2 := ar_get ha
      have h0 : 0 + d.size ≤ d.size := by omega
      have a0 : d.toList.length = d.size := Array.length_toList
      have w1 := wAdd1 i (by omega)
      have e1 := e115 (E := E) d[i]! d[a]!
      have e2 := cmpI_lt d[i]! d[a]!
      cases hl : ltI d[i]! d[a]! with
      | true =>
        rw [hl] at e2
        have e3 := of_decide_eq_true e2
        rw [Sort.scanUp, if_pos (by simp [h, hl])]
        have ih' := ih (i + 1) (by omega) (by omega)
        rw [← hK, loopW_some, hK]
        simp -implicitDefEqProofs only [go_sem, s279_9, s279_8, f1, n1, n2, i1, ha, g1, g2, h0, a0, w1, e1, e3]
        exact ih'
      | false =>
        rw [hl] at e2
        have e3 := of_decide_eq_false e2
        rw [Sort.scanUp, if_neg (by simp [hl])]
        rw [← hK, loopW_some, hK]
        simp -implicitDefEqProofs only [go_sem, s279_9, s279_8, f1, n1, n2, i1, ha, g1, g2, h0, a0, w1, e1, e3]
    · have f1 : ¬ (i : Int) ≤ (j : Int) := by omega
      rw [Sort.scanUp, if_neg (by simp; omega)]
      rw [← hK, loopW_some, hK]
      simp -implicitDefEqProofs only [go_sem, s279_9, s279_8, f1]
theorem down279_12 (d : Array Int) (a i : Nat) (ha : a < d.size) (hi1 : 1 ≤ i) (hs : d.size < 1152921504606846976) : ∀ (j : Nat), j < d.size →
    loopW E 1 [0, 1, 4, 12, 13] [] (.trim [0, 1, 4, 12, 13] [10, 11] [(8, [0, 1, 4, 12, 13])] [] s279_12) (some ⟨[(0, .hsl (.ext 0) 0 d.size), (1, .p (.int .i64 a)), (4, .fn 115 [] []), (12, .p (.int .i64 i)), (13, .p (.int .i64 j))], [(.ext 0, some (.parr (d.toList.map (.int .i64)) 1 false))]⟩) = some (.ex 8, ⟨[(0, .hsl (.ext 0) 0 d.size), (1, .p (.int .i64 a)), (4, .fn 115 [] []), (12, .p (.int .i64 i)), (13, .p (.int .i64 (Sort.scanDown (fun x => !ltI x d[a]!) d i j : Nat)))], [(.ext 0, some (.parr (d.toList.map (.int .i64)) 1 false))]⟩) := by
  generalize hK : loopW E 1 _ _ _ = K
  intro j
  induction j with
  | zero =>
    intro hj
    have f1 : ¬ (i : Int) ≤ 0 := by omega
    rw [Sort.scanDown]
    rw [← hK, loopW_some, hK]
    simp -implicitDefEqProofs only [go_sem, s279_12, s279_11, f1, Int.natCast_zero]
  | succ j ih =>
    intro hj
    by_cases h : i ≤ j + 1
    · have f1 : (i : Int) ≤ ((j + 1 : Nat) : Int) := by omega
      have n1 : (0 : Int) ≤ ((j + 1 : Nat) : Int) := by omega
      have n2 : (0 : Int) ≤ (a : Int) := by omega
      have g1 := ar_get hj
      have g2 := ar_get ha
      have h0 : 0 + d.size ≤ d.size := by omega
      have a0 : d.toList.length = d.size := Array.length_toList
      have w1 := wSub1 j (by omega)
      have e1 := e115 (E := E) d[j + 1]! d[a]!
      have e2 := cmpI_lt d[j + 1]! d[a]!
      cases hl : ltI d[j + 1]! d[a]! with
      | false =>
        rw [hl] at e2
        have e3 := of_decide_eq_false e2
        rw [Sort.scanDown, if_pos (by simp [h, hl])]
        have ih' := ih (by omega)
        rw [← hK, loopW_some, hK]
        simp -implicitDefEqProofs only [go_sem, s279_12, s279_11, f1, n1, n2, hj, ha, g1, g2, h0, a0, w1, e1, e3]
        exact ih'
      | true =>
        rw [hl] at e2
        have e3 := of_decide_eq_true e2
        rw [Sort.scanDown, if_neg (by simp [hl])]
        rw [← hK, loopW_some, hK]
        simp -implicitDefEqProofs only [go_sem, s279_12, s279_11, f1, n1, n2, hj, ha, g1, g2, h0, a0, w1, e1, e3]
    · have f1 : ¬ (i : Int) ≤ ((j + 1 : Nat) : Int) := by omega
      rw [Sort.scanDown, if_neg (by simp; omega)]
      rw [← hK, loopW_some, hK]
      simp -implicitDefEqProofs only [go_sem, s279_12, s279_11, f1]
theorem up278_2 (d : Array Int) (a j : Nat) (ha : a < d.size) (hj : j < d.size) (hs : d.size < 1152921504606846976) : ∀ (n i : Nat), j + 1 - i ≤ n → i < 1152921504606846977 →
    loopW E 1 [0, 1, 4, 11, 12] [] (.trim [0, 1, 4, 11, 12] [10] [(2, [0, 1, 4, 11, 12])] [] s278_2) (some ⟨[(0, .hsl (.ext 0) 0 d.size), (1, .p (.int .i64 a)), (4, .fn 115 [] []), (11, .p (.int .i64 i)), (12, .p (.int .i64 j))], [(.ext 0, some (.parr (d.toList.map (.int .i64)) 1 false))]⟩) = some (.ex 2, ⟨[(0, .hsl (.ext 0) 0 d.size), (1, .p (.int .i64 a)), (4, .fn 115 [] []), (11, .p (.int .i64 (Sort.scanUp (fun x => !ltI d[a]! x) d j i : Nat))), (12, .p (.int .i64 j))], [(.ext 0, some (.parr (d.toList.map (.int .i64)) 1 false))]⟩) := by
  generalize hK : loopW E 1 _ _ _ = K
  intro n
  induction n with
  | zero =>
    intro i hn hi
    have f1 : ¬ (i : Int) ≤ (j : Int) := by omega
    rw [Sort.scanUp, if_neg (by simp; omega)]
    rw [← hK, loopW_some, hK]
    simp -implicitDefEqProofs only [go_sem, s278_2, s278_1, f1]
  | succ n ih =>
    intro i hn hi
    by_cases h : i ≤ j
    · have f1 : (i : Int) ≤ (j : Int) := by omega
      have n1 : (0 : Int) ≤ (i : Int) := by omega
      have n2 : (0 : Int) ≤ (a : Int) := by omega
      have i1 : i < d.size := by omega
      have g1 := ar_get i1
      have g2 := ar_get ha
      have h0 : 0 + d.size ≤ d.size := by omega
      have a0 : d.toList.length = d.size := Array.length_toList
      have w1 := wAdd1 i (by omega)
      have e1 := e115 (E := E) d[a]! d[i]!
      have e2 := cmpI_lt d[a]! d[i]!
      cases hl : ltI d[a]! d[i]! with
      | false =>
        rw [hl] at e2
        have e3 := of_decide_eq_false e2
        rw [Sort.scanUp, if_pos (by simp [h, hl])]
        have ih' := ih (i + 1) (by omega) (by omega)
        rw [← hK, loopW_some, hK]
        simp -implicitDefEqProofs only [go_sem, s278_2, s278_1, f1, n1, n2, i1, ha, g1, g2, h0, a0, w1, e1, e3]
        exact ih'
      | true =>
        rw [hl] at e2
        have e3 := of_decide_eq_true e2
        rw [Sort.scanUp, if_neg (by simp [hl])]
        rw [← hK, loopW_some, hK]
        simp -implicitDefEqProofs only [go_sem, s278_2, s278_1, f1, n1, n2, i1, ha, g1, g2, h0, a0, w1, e1, e3]
    · have f1 : ¬ (i : Int) ≤ (j : Int) := by omega
      rw [Sort.scanUp, if_neg (by simp; omega)]
      rw [← hK, loopW_some, hK]
      simp -implicitDefEqProofs only [go_sem, s278_2, s278_1, f1]
theorem down278_5 (d : Array Int) (a i : Nat) (ha : a < d.size) (hi1 : 1 ≤ i) (hs : d.size < 1152921504606846976) : ∀ (j : Nat), j < d.size →
    loopW E 1 [0, 1, 4, 11, 12] [] (.trim [0, 1, 4, 11, 12] [10] [(4, [0, 1, 4, 11, 12])] [] s278_5) (some ⟨[(0, .hsl (.ext 0) 0 d.size), (1, .p (.int .i64 a)), (4, .fn 115 [] []), (11, .p (.int .i64 i)), (12, .p (.int .i64 j))], [(.ext 0, some (.parr (d.toList.map (.int .i64)) 1 false))]⟩) = some (.ex 4, ⟨[(0, .hsl (.ext 0) 0 d.size), (1, .p (.int .i64 a)), (4, .fn 115 [] []), (11, .p (.int .i64 i)), (12, .p (.int .i64 (Sort.scanDown (fun x => ltI d[a]! x) d i j : Nat)))], [(.ext 0, some (.parr (d.toList.map (.int .i64)) 1 false))]⟩) := by
  generalize hK : loopW E 1 _ _ _ = K
  intro j
  induction j with
  | zero =>
    intro hj
    have f1 : ¬ (i : Int) ≤ 0 := by omega
    rw [Sort.scanDown]
    rw [← hK, loopW_some, hK]
    simp -implicitDefEqProofs only [go_sem, s278_5, s278_4, f1, Int.natCast_zero]
  | succ j ih =>
    intro hj
    by_cases h : i ≤ j + 1
    · have f1 : (i : Int) ≤ ((j + 1 : Nat) : Int) := by omega
      have n1 : (0 : Int) ≤ ((j + 1 : Nat) : Int) := by omega
      have n2 : (0 : Int) ≤ (a : Int) := by omega
      have g1 := ar_get hj
      have g2 := ar_get ha
      have h0 : 0 + d.size ≤ d.size := by omega
      have a0 : d.toList.length = d.size := Array.length_toList
      have w1 := wSub1 j (by omega)
      have e1 := e115 (E := E) d[a]! d[j + 1]!
      have e2 := cmpI_lt d[a]! d[j + 1]!
      cases hl : ltI d[a]! d[j + 1]! with
      | true =>
        rw [hl] at e2
        have e3 := of_decide_eq_true e2
        rw [Sort.scanDown, if_pos (by simp [h, hl])]
        have ih' := ih (by omega)
        rw [← hK, loopW_some, hK]
        simp -implicitDefEqProofs only [go_sem, s278_5, s278_4, f1, n1, n2, hj, ha, g1, g2, h0, a0, w1, e1, e3]
        exact ih'
      | false =>
        rw [hl] at e2
        have e3 := of_decide_eq_false e2
        rw [Sort.scanDown, if_neg (by simp [hl])]
        rw [← hK, loopW_some, hK]
        simp -implicitDefEqProofs only [go_sem, s278_5, s278_4, f1, n1, n2, hj, ha, g1, g2, h0, a0, w1, e1, e3]
    · have f1 : ¬ (i : Int) ≤ ((j + 1 : Nat) : Int) := by omega
      rw [Sort.scanDown, if_neg (by simp; omega)]
      rw [← hK, loopW_some, hK]
      simp -implicitDefEqProofs only [go_sem, s278_5, s278_4, f1]
end Go.Ab.S
