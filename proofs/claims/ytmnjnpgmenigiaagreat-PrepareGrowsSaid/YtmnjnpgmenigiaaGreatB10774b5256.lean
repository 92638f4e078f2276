/- A part of the proof: an executor over plain data, shown sound for the model, and what it computes of the functions. -/
import Derived.Test.YtmnjnpgmenigiaaGreatB910c02cb16
import Derived.Test.YtmnjnpgmenigiaaGreatEv
set_option linter.all false
namespace Go.Ab.S
open Go Go.Ab
variable {E : Env} [EnvS E]

theorem e138I (th : Int) (ns : List PV) (h : ns.length ≤ 100) : callW E 138 [.p (.agg [.int .i64 th, .sl 1 ns, .sl 3 []])] [] = some ⟨.p (.agg [.int .i64 th, .sl 1 ns, .sl 3 []]), [], []⟩ := by
  rw [callW_eq, EnvS.h 138 F138 rfl]
  have e := e208 (E := E) ns (by unfold most; omega)
  simp -implicitDefEqProofs only [go_sem, F138, s138, s138_3, s138_2, s138_1, loopW_some, e]
theorem loop138 (t : Tr) (h : t.thin) (th : Int) (ns : List PV) : ∀ (suf pre : List In), t.is = pre ++ suf →
    loopW E 0 [2, 3, 13, 14, 15] [.loc 0 1 0, .loc 1 6 0, .loc 5 5 0] (.trim [2, 3, 13, 14, 15] [2] [(0, [2, 3])] [.loc 0 1 0, .loc 1 6 0, .loc 5 5 0] s138_2) (some ⟨[(2, .ptr (.loc 0 1 0) 0), (3, .ptr (.loc 1 6 0) 0), (13, .p (.sl 3 (t.is.map In.pv))), (14, .p (.int .i64 t.is.length)), (15, .p (.int .i64 pre.length))],
       [(.loc 0 1 0, some (.box [.p (.int .i64 0), .nils 1, .nils 3])), (.loc 1 6 0, some (.box [.p (.int .i64 th), .p (.sl 1 ns), ownA 3 (.loc 5 5 0) pre.length])), (.loc 5 5 0, ownO 3 (pre.map In.pv))]⟩) =
    some (.ex 0, ⟨[(2, .ptr (.loc 0 1 0) 0), (3, .ptr (.loc 1 6 0) 0)],
       [(.loc 0 1 0, some (.box [.p (.int .i64 0), .nils 1, .nils 3])), (.loc 1 6 0, some (.box [.p (.int .i64 th), .p (.sl 1 ns), ownA 3 (.loc 5 5 0) t.is.length])), (.loc 5 5 0, ownO 3 (t.is.map In.pv))]⟩) := by
  generalize hK : loopW E 0 _ _ _ = K
  intro suf
  induction suf with
  | nil =>
    intro pre hp
    have hp' : t.is = pre := by simpa using hp
    rw [← hK, loopW_some, hK, hp']
    cases pre with
    | nil => simp -implicitDefEqProofs only [go_sem, s138_2, s138_1, ownA_nil, ownO_nil, List.map_nil]
    | cons p pre => simp -implicitDefEqProofs only [go_sem, s138_2, s138_1, ownA_succ, ownO_cons, List.map_cons]
  | cons x suf ih =>
    intro pre hp
    have h4 := h.is
    have hlen : t.is.length = pre.length + (suf.length + 1) := by rw [hp]; simp
    have hx : t.is[pre.length]? = some x := by rw [hp]; simp
    have hth : x.ns.length ≤ 12 := h.all x (List.mem_of_getElem? hx)
    obtain ⟨f1, f2, f3⟩ := rangeFacts pre.length t.is.length (by omega) (by omega)
    have e := e138I (E := E) x.th (x.ns.map (.int .i64)) (by simp; omega)
    have ih' := ih (pre ++ [x]) (by simp [hp])
    rw [← hK, loopW_some, hK]
    cases pre with
    | nil =>
      have hm : 1 ≤ most := by unfold most; omega
      simp only [List.map_cons, List.map_nil, List.length_cons, List.length_nil, Nat.zero_add, List.nil_append, ownA_succ, ownO_cons, Int.natCast_zero, cast_lit] at ih' f1 f2 f3 hx
      simp -implicitDefEqProofs only [go_sem, s138_2, s138_1, hx, f1, f2, f3, In.pv, e, hm, ownA_nil, ownO_nil, ownA_succ, ownO_cons]
      exact ih'
    | cons p pre =>
      have hm : pre.length + 1 + 1 ≤ most := by simp at hlen; unfold most; omega
      simp only [List.map_append, List.map_cons, List.map_nil, List.length_append, List.length_cons, List.length_nil, Nat.zero_add, List.cons_append, ownA_succ, ownO_cons] at ih' f1 f2 f3 hx
      simp -implicitDefEqProofs only [go_sem, s138_2, s138_1, hx, f1, f2, f3, In.pv, e, hm, ownA_succ, ownO_cons]
      exact ih'
theorem e138 (t : Tr) (h : t.thin) : callW E 138 [.p t.pv] [] = some ⟨.p t.pv, [], []⟩ := by
  rw [callW_eq, EnvS.h 138 F138 rfl]
  have h1 := h.ns
  have e := e208 (E := E) (t.ns.map (.int .i64)) (by simp; unfold most; omega)
  have lp := loop138 (E := E) t h t.th (t.ns.map (.int .i64)) t.is [] rfl
  simp only [List.length_nil, Int.natCast_zero, ownA_nil, List.map_nil, ownO_nil] at lp
  unfold Tr.pv
  cases hi : t.is with
  | nil =>
    rw [hi] at lp
    simp only [List.length_nil, Int.natCast_zero, ownA_nil, List.map_nil, ownO_nil] at lp
    simp -implicitDefEqProofs only [go_sem, F138, s138, s138_3, e, lp]
  | cons x r =>
    rw [hi] at lp
    simp only [List.length_cons, ownA_succ, List.map_cons, ownO_cons] at lp
    simp -implicitDefEqProofs only [go_sem, F138, s138, s138_3, e, lp, List.length_cons, List.map_cons]
end Go.Ab.S

namespace Go.Ab.S
open Go Go.Ab
variable {E : Env} [EnvS E]

/-- A member of a configuration. -/
structure Mem where
  d : Bool
  t : Tr
def Mem.pv (m : Mem) : PV := .agg [.bool m.d, .int .i64 m.t.th, .sl 1 (m.t.ns.map (.int .i64)), .sl 3 (m.t.is.map In.pv)]
def memZ : Mem := ⟨false, ⟨0, [], []⟩⟩
def viewS (ms : List Mem) (e : Evl) : List Mem :=
  if validE e = true ∧ (ms[e.node.toNat]?.map Mem.d) = some false then ms.set e.node.toNat ⟨true, e.t⟩ else ms
/-- What a node sees. -/
def viewM (node : Int) (t : Tr) (l : List Evl) : List Mem :=
  if node < 0 ∨ 10 ≤ node then List.replicate 10 memZ else l.foldl viewS ((List.replicate 10 memZ).set node.toNat ⟨true, t⟩)
theorem viewS_len (ms : List Mem) (e : Evl) : (viewS ms e).length = ms.length := by unfold viewS; split <;> simp
theorem validE_node {e : Evl} (h : validE e = true) : 0 ≤ e.node ∧ e.node < 10 := by
  simp only [validE, headE, Bool.and_eq_true, decide_eq_true_eq] at h
  omega

theorem loop53 (l : List Evl) (hl : l.length < 4611686018427387904) (hth : ∀ e ∈ l, e.t.thin) (ms : List Mem) (hms : ms.length = 10) :
    loopW E 0 [6, 7, 26, 27, 28] [.loc 0 1 0, .loc 1 0 0, .loc 1 2 0] (.trim [6, 7, 26, 27, 28] [6] [(0, [6, 7])] [.loc 0 1 0, .loc 1 0 0, .loc 1 2 0] s53_4) (some ⟨[(6, .ptr (.loc 0 1 0) 0), (7, .ptr (.loc 1 2 0) 0), (26, .p (.sl 15 (l.map Evl.pv))), (27, .p (.int .i64 l.length)), (28, .p (.int .i64 0))],
      [(.loc 0 1 0, some (.box [.nils 4])), (.loc 1 0 0, some (.parr (ms.map Mem.pv) 4 false)), (.loc 1 2 0, some (.box [.hsl (.loc 1 0 0) 0 10]))]⟩) =
    some (.ex 0, ⟨[(6, .ptr (.loc 0 1 0) 0), (7, .ptr (.loc 1 2 0) 0)],
      [(.loc 0 1 0, some (.box [.nils 4])), (.loc 1 0 0, some (.parr ((l.foldl viewS ms).map Mem.pv) 4 false)), (.loc 1 2 0, some (.box [.hsl (.loc 1 0 0) 0 10]))]⟩) := by
  generalize hK : loopW E 0 _ _ _ = K
  refine range_loopI K l (fun i (ms : List Mem) => ⟨[(6, .ptr (.loc 0 1 0) 0), (7, .ptr (.loc 1 2 0) 0), (26, .p (.sl 15 (l.map Evl.pv))), (27, .p (.int .i64 l.length)), (28, .p (.int .i64 i))],
      [(.loc 0 1 0, some (.box [.nils 4])), (.loc 1 0 0, some (.parr (ms.map Mem.pv) 4 false)), (.loc 1 2 0, some (.box [.hsl (.loc 1 0 0) 0 10]))]⟩)
    (fun ms r => some (.ex 0, ⟨[(6, .ptr (.loc 0 1 0) 0), (7, .ptr (.loc 1 2 0) 0)],
      [(.loc 0 1 0, some (.box [.nils 4])), (.loc 1 0 0, some (.parr ((r.foldl viewS ms).map Mem.pv) 4 false)), (.loc 1 2 0, some (.box [.hsl (.loc 1 0 0) 0 10]))]⟩)) (fun _ ms => ms.length = 10) ?_ ?_ ms hms
  · intro ms _
    rw [← hK, loopW_some, hK]
    simp -implicitDefEqProofs only [go_sem, s53_4, s53_3, s53_2, List.foldl_nil]
  · intro i ms e r hx hn hm10 ih
    obtain ⟨f1, f2, f3⟩ := rangeFacts i l.length (by omega) hl
    have ht := hth e (List.mem_of_getElem? hx)
    have e1 := e81 (E := E) e ht
    have e2 := e138 (E := E) e.t ht
    have ih' := ih (viewS ms e) (by rw [viewS_len]; exact hm10)
    try dsimp only at ih' ⊢
    rw [← hK, loopW_some, hK]
    unfold Evl.pv at e1
    unfold Tr.pv at e2
    cases hv : validE e with
    | false =>
      have hs : viewS ms e = ms := by unfold viewS; simp [hv]
      rw [hs] at ih'
      rw [hv] at e1
      simp -implicitDefEqProofs only [go_sem, s53_4, s53_3, s53_2, hx, f1, f2, f3, Evl.pv, e1, ih', List.foldl_cons, hs]
    | true =>
      rw [hv] at e1
      obtain ⟨n0, n1⟩ := validE_node hv
      obtain ⟨k, hk⟩ : ∃ k : Nat, e.node = k := ⟨e.node.toNat, by omega⟩
      have hk10 : k < 10 := by omega
      have hkm : k < ms.length := by omega
      have hg : ms[k]? = some ms[k] := by simp [hkm]
      have hkn : e.node.toNat = k := by omega
      have hm10' : (ms.map Mem.pv).length = 10 := by simp [hm10]
      have h10 : 0 + 10 ≤ ms.length := by omega
      cases hd : ms[k].d with
      | true =>
        have hs : viewS ms e = ms := by unfold viewS; simp [hkn, hg, hd]
        rw [hs] at ih'
        simp -implicitDefEqProofs only [go_sem, s53_4, s53_3, s53_2, hx, f1, f2, f3, Evl.pv, e1, ih', List.foldl_cons, hs, n0, hkn, hk10, hg, Mem.pv, hd, hm10, h10]
      | false =>
        have hs : viewS ms e = ms.set k ⟨true, e.t⟩ := by unfold viewS; simp [hkn, hg, hd, hv]
        rw [hs] at ih'
        simp -implicitDefEqProofs only [go_sem, s53_4, s53_3, s53_2, hx, f1, f2, f3, Evl.pv, e1, e2, List.foldl_cons, hs, n0, hkn, hk10, hg, Mem.pv, hd, hm10, h10, setE]
        rw [List.map_set] at ih'
        exact ih'
def confPv (ms : List Mem) : PV := .agg [.sl 4 (ms.map Mem.pv)]
theorem viewM_len (node : Int) (t : Tr) (l : List Evl) : (viewM node t l).length = 10 := by
  have key : ∀ (l : List Evl) (ms : List Mem), (l.foldl viewS ms).length = ms.length := by
    intro l
    induction l with
    | nil => intro ms; rfl
    | cons e r ih => intro ms; rw [List.foldl_cons, ih, viewS_len]
  unfold viewM
  split
  · simp
  · rw [key]; simp
theorem mkMem : (List.replicate 10 (PV.agg [.bool false, .int .i64 0, .sl 1 [], .sl 3 []])) = (List.replicate 10 memZ).map Mem.pv := rfl
theorem e53 (node : Int) (t : Tr) (l : List Evl) (ht : t.thin) (hl : l.length < 4611686018427387904) (hth : ∀ e ∈ l, e.t.thin) :
    callW E 53 [.p (.int .i64 node), .p t.pv, .p (.sl 15 (l.map Evl.pv))] [] = some ⟨.p (confPv (viewM node t l)), [], []⟩ := by
  have hlen := viewM_len node t l
  have htk : List.take 10 ((viewM node t l).map Mem.pv) = (viewM node t l).map Mem.pv := List.take_of_length_le (by simp [hlen])
  rw [callW_eq, EnvS.h 53 F53 rfl]
  have e1 := e138 (E := E) t ht
  unfold Tr.pv at *
  unfold confPv
  have h10 : (10 : Int) ≤ ((most : Nat) : Int) := by decide
  by_cases c : node < 0 ∨ 10 ≤ node
  · have hv : viewM node t l = List.replicate 10 memZ := by unfold viewM; rw [if_pos c]
    rw [hv] at htk ⊢
    rcases c with c | c
    · simp -implicitDefEqProofs only [go_sem, F53, s53, s53_1, s53_5, c, h10, mkMem, Nat.sub_zero, List.length_replicate, htk]
    · have c' : ¬ node < 0 := by omega
      simp -implicitDefEqProofs only [go_sem, F53, s53, s53_1, s53_5, c, c', h10, mkMem, Nat.sub_zero, List.length_replicate, htk]
  · obtain ⟨k, rfl⟩ : ∃ k : Nat, node = k := ⟨node.toNat, by omega⟩
    have c1 : ¬ (k : Int) < 0 := by omega
    have c2 : ¬ (10 : Int) ≤ k := by omega
    have c3 : (0 : Int) ≤ k := by omega
    have c4 : k < 10 := by omega
    have lp := loop53 (E := E) l hl hth ((List.replicate 10 memZ).set k ⟨true, t⟩) (by simp)
    have hv : viewM k t l = l.foldl viewS ((List.replicate 10 memZ).set k ⟨true, t⟩) := by unfold viewM; rw [if_neg c]; rfl
    rw [← hv] at lp
    rw [List.map_set] at lp
    have hg : ((List.replicate 10 memZ).map Mem.pv)[k]? = some (Mem.pv memZ) := by rw [List.getElem?_map, List.getElem?_replicate, if_pos c4]; rfl
    have hmz : Mem.pv memZ = .agg [.bool false, .int .i64 0, .sl 1 [], .sl 3 []] := rfl
    rw [hmz] at hg
    rw [show Mem.pv ⟨true, t⟩ = .agg [.bool true, .int .i64 t.th, .sl 1 (t.ns.map (.int .i64)), .sl 3 (t.is.map In.pv)] from rfl] at lp
    simp -implicitDefEqProofs only [go_sem, F53, s53, s53_1, s53_5, c1, c2, c3, c4, h10, mkMem, Nat.sub_zero, List.length_replicate, e1, hg, setE, lp, hlen, htk]
end Go.Ab.S

namespace Go.Ab.S
open Go Go.Ab
variable {E : Env} [EnvS E]

/-! ### Who is declared -/
def declN : Nat → Nat → List Mem → Nat
  | _, acc, [] => acc
  | i, acc, m :: r => declN (i + 1) (if m.d = true ∧ i < 10 then acc ||| 2 ^ i else acc) r
theorem declN_lt : ∀ (ms : List Mem) (i acc : Nat), acc < 1024 → declN i acc ms < 1024
  | [], i, acc, h => h
  | m :: r, i, acc, h => by
    simp only [declN]
    apply declN_lt
    split
    · exact or_lt _ _ h (by rename_i h; exact h.2)
    · exact h
def decl (ms : List Mem) : Nat := declN 0 0 ms
theorem decl_lt (ms : List Mem) : decl ms < 1024 := declN_lt ms 0 0 (by decide)
theorem declN_bit : ∀ (ms : List Mem) (i acc k : Nat), (declN i acc ms).testBit k = (acc.testBit k || (decide (i ≤ k) && decide (k < 10) && ((ms[k - i]?.map Mem.d) == some true)))
  | [], i, acc, k => by simp [declN]
  | m :: r, i, acc, k => by
    simp only [declN]
    rw [declN_bit r (i + 1)]
    by_cases h : i = k
    · subst h
      have h1 : ¬ (i + 1 ≤ i) := by omega
      simp only [h1, decide_false, Bool.false_and, Bool.or_false, Nat.le_refl, decide_true, Bool.true_and, Nat.sub_self, List.getElem?_cons_zero, Option.map_some]
      by_cases h2 : i < 10
      · cases hd : m.d <;> simp [h2, Nat.testBit_or, Nat.testBit_two_pow]
      · simp [h2]
    · have hk : (if m.d = true ∧ i < 10 then acc ||| 2 ^ i else acc).testBit k = acc.testBit k := by
        split
        · rw [Nat.testBit_or, Nat.testBit_two_pow]; simp [h]
        · rfl
      rw [hk]
      by_cases h2 : i ≤ k
      · have h3 : i + 1 ≤ k := by omega
        have h4 : k - i = (k - (i + 1)) + 1 := by omega
        rw [h4, List.getElem?_cons_succ]
        simp [h2, h3]
      · have h3 : ¬ i + 1 ≤ k := by omega
        simp [h2, h3]
theorem decl_bit (ms : List Mem) (k : Nat) : (decl ms).testBit k = (decide (k < 10) && ((ms[k]?.map Mem.d) == some true)) := by
  unfold decl
  rw [declN_bit]
  simp

theorem loop309 (ms : List Mem) (hl : ms.length ≤ 1000) :
    loopW E 0 [3, 7, 8, 9] [] (.trim [3, 7, 8, 9] [2] [(0, [3])] [] s309_3) (some ⟨[(3, .p (.int .i64 0)), (7, .p (.sl 4 (ms.map Mem.pv))), (8, .p (.int .i64 ms.length)), (9, .p (.int .i64 0))], []⟩) = some (.ex 0, ⟨[(3, .p (.int .i64 (decl ms : Nat)))], []⟩) := by
  have key := range_loopI (loopW E 0 [3, 7, 8, 9] [] (.trim [3, 7, 8, 9] [2] [(0, [3])] [] s309_3)) ms
    (fun i (a : Nat) => ⟨[(3, .p (.int .i64 a)), (7, .p (.sl 4 (ms.map Mem.pv))), (8, .p (.int .i64 ms.length)), (9, .p (.int .i64 i))], []⟩)
    (fun a r => some (.ex 0, ⟨[(3, .p (.int .i64 (declN (ms.length - r.length) a r : Nat)))], []⟩)) (fun _ a => a < 1024)
  refine (key ?_ ?_ 0 (by decide)).trans (by simp only [Nat.sub_self]; rfl)
  · intro a _
    rw [loopW_some]
    generalize hK : loopW E 0 _ _ _ = K
    simp -implicitDefEqProofs only [go_sem, s309_3, s309_2, s309_1, declN]
  · intro i a m r hx hn hI ih
    obtain ⟨f1, f2, f3⟩ := rangeFacts i ms.length (by omega) (by omega)
    have hi : ms.length - (r.length + 1) = i := by omega
    have hi2 : ms.length - r.length = i + 1 := by omega
    rw [loopW_some]
    generalize hK : loopW E 0 _ _ _ = K at ih ⊢
    by_cases h10 : i < 10
    · have h10' : (i : Int) < 10 := by omega
      have f4 : ¬ (i : Int) < 0 := by omega
      have w := orI_nat a (2 ^ i) (by omega) (Nat.lt_trans (pow_lt i h10) (by decide))
      cases hd : m.d with
      | true =>
        have ih' := ih (a ||| 2 ^ i) (or_lt _ _ hI h10)
        try dsimp only at ih' ⊢
        rw [hi2] at ih'
        simp -implicitDefEqProofs only [go_sem, s309_3, s309_2, s309_1, hx, f1, f2, f3, Mem.pv, hd, h10, h10', shl1 i (by omega), w, ih', declN, hi, f4]
      | false =>
        have ih' := ih a hI
        try dsimp only at ih' ⊢
        rw [hi2] at ih'
        simp -implicitDefEqProofs only [go_sem, s309_3, s309_2, s309_1, hx, f1, f2, f3, Mem.pv, hd, h10, h10', ih', declN, hi]
    · have h10' : ¬ (i : Int) < 10 := by omega
      have ih' := ih a hI
      try dsimp only at ih' ⊢
      rw [hi2] at ih'
      cases hd : m.d <;> simp -implicitDefEqProofs only [go_sem, s309_3, s309_2, s309_1, hx, f1, f2, f3, Mem.pv, hd, h10, h10', ih', declN, hi]
theorem e309 (ms : List Mem) (hl : ms.length ≤ 1000) : callW E 309 [.p (confPv ms)] [] = some ⟨.p (.int .i64 (decl ms : Nat)), [], []⟩ := by
  have lp := loop309 (E := E) ms hl
  rw [callW_eq, EnvS.h 309 F309 rfl]
  unfold confPv
  simp -implicitDefEqProofs only [go_sem, F309, s309, s309_4, lp]

/-! ### The nodes of a set -/
def nodesL (s : Nat) : Nat → Nat → List Nat
  | 0, _ => []
  | k + 1, i => if s.testBit i = true then i :: nodesL s k (i + 1) else nodesL s k (i + 1)
def nodes (s : Nat) : List Nat := nodesL s 10 0
theorem nodesL_mem (s : Nat) : ∀ (k i x : Nat), x ∈ nodesL s k i ↔ (i ≤ x ∧ x < i + k ∧ s.testBit x = true)
  | 0, i, x => by simp [nodesL]; omega
  | k + 1, i, x => by
    simp only [nodesL]
    split
    · rename_i h
      rw [List.mem_cons, nodesL_mem s k (i + 1)]
      constructor
      · rintro (rfl | ⟨h1, h2, h3⟩)
        · exact ⟨Nat.le_refl _, by omega, h⟩
        · exact ⟨by omega, by omega, h3⟩
      · rintro ⟨h1, h2, h3⟩
        by_cases hx : x = i
        · exact .inl hx
        · exact .inr ⟨by omega, by omega, h3⟩
    · rename_i h
      rw [nodesL_mem s k (i + 1)]
      constructor
      · rintro ⟨h1, h2, h3⟩; exact ⟨by omega, by omega, h3⟩
      · rintro ⟨h1, h2, h3⟩
        by_cases hx : x = i
        · subst hx; exact absurd h3 h
        · exact ⟨by omega, by omega, h3⟩
theorem nodes_mem (s x : Nat) : x ∈ nodes s ↔ (x < 10 ∧ s.testBit x = true) := by
  unfold nodes
  rw [nodesL_mem]
  constructor
  · rintro ⟨_, h1, h2⟩; exact ⟨by omega, h2⟩
  · rintro ⟨h1, h2⟩; exact ⟨by omega, by omega, h2⟩
theorem nodesL_len (s : Nat) : ∀ (k i : Nat), (nodesL s k i).length ≤ k
  | 0, i => Nat.le_refl _
  | k + 1, i => by
    have := nodesL_len s k (i + 1)
    simp only [nodesL]
    split
    · simp only [List.length_cons]; omega
    · omega
def intN (k : Nat) : PV := .int .i64 k
theorem hasN_nat (s k : Nat) (h : k < 10) : hasN s (k : Int) = s.testBit k := by
  have h1 : (0 : Int) ≤ k := by omega
  have h2 : (k : Int) < 10 := by omega
  simp [hasN, h1, h2]

theorem loop320 (s : Nat) (hs : s < 1024) : ∀ (k i : Nat) (ns : List Nat), k + i = 10 → ns.length ≤ i →
    loopW E 0 [0, 3, 5] [.loc 1 0 0] (.trim [0, 3, 5] [2] [(0, [3])] [.loc 1 0 0] s320_3) (some ⟨[(0, .p (.int .i64 s)), (3, .hsl (.loc 1 0 0) 0 ns.length), (5, .p (.int .i64 i))], [(.loc 1 0 0, some (.parr (ns.map intN) 1 false))]⟩) =
    some (.ex 0, ⟨[(3, .hsl (.loc 1 0 0) 0 (ns ++ nodesL s k i).length)], [(.loc 1 0 0, some (.parr ((ns ++ nodesL s k i).map intN) 1 false))]⟩) := by
  generalize hK : loopW E 0 _ _ _ = K
  intro k
  induction k with
  | zero =>
    intro i ns hk hns
    have hlt : ¬ (i : Int) < 10 := by omega
    rw [← hK, loopW_some, hK]
    simp -implicitDefEqProofs only [go_sem, s320_3, s320_2, s320_1, hlt, nodesL]
  | succ k ih =>
    intro i ns hk hns
    have hlt : (i : Int) < 10 := by omega
    have e := e235 (E := E) s (i : Int) hs
    rw [hasN_nat s i (by omega)] at e
    have hw : IntKind.i64.wrap ((i : Int) + 1) = ((i + 1 : Nat) : Int) := by rw [wrap64 (by omega) (by omega)]; omega
    rw [← hK, loopW_some, hK]
    cases h : s.testBit i with
    | true =>
      have hm : ns.length + 1 ≤ most := by unfold most; omega
      have ih' := ih (i + 1) (ns ++ [i]) (by omega) (by simp; omega)
      simp only [List.map_append, List.map_cons, List.map_nil, List.length_append, List.length_cons, List.length_nil, Nat.zero_add, List.append_assoc, List.singleton_append] at ih'
      rw [h] at e
      rw [show intN i = .int .i64 (i : Int) from rfl] at ih'
      simp -implicitDefEqProofs only [go_sem, s320_3, s320_2, s320_1, hlt, e, hw, h, hm, nodesL, List.map_append, List.append_assoc, List.singleton_append, List.length_append]
      exact ih'
    | false =>
      have ih' := ih (i + 1) ns (by omega) (by omega)
      rw [h] at e
      simp -implicitDefEqProofs only [go_sem, s320_3, s320_2, s320_1, hlt, e, hw, h, nodesL, ih']
theorem e320 (s : Nat) (hs : s < 1024) : callW E 320 [.p (.int .i64 s)] [] = some ⟨.p (.sl 1 ((nodes s).map intN)), [], []⟩ := by
  have lp := loop320 (E := E) s hs 10 0 [] rfl (Nat.le_refl 0)
  simp only [List.nil_append, List.map_nil, List.length_nil, Int.natCast_zero] at lp
  rw [← nodes] at lp
  rw [callW_eq, EnvS.h 320 F320 rfl]
  simp -implicitDefEqProofs only [go_sem, F320, s320, s320_4, lp]

end Go.Ab.S

namespace Go.Ab.S
open Go Go.Ab
variable {E : Env} [EnvS E]

/-! ### Taking nodes out of sets -/
theorem dec_sub : ((List.range 1024).all fun s => (List.range 10).all fun k => !s.testBit k || (s - 2 ^ k == s ^^^ 2 ^ k)) = true := by decide +kernel
theorem dec_andNot : ((List.range 1024).all fun s => (List.range 10).all fun k => !s.testBit k || (andNotI .i64 (s : Int) ((2 ^ k : Nat) : Int) == ((s ^^^ 2 ^ k : Nat) : Int))) = true := by decide +kernel
theorem dec_comp : ((List.range 1024).all fun s => (andNotI .i64 1023 (s : Int) == ((1023 ^^^ s : Nat) : Int)) && (1023 - s == 1023 ^^^ s)) = true := by decide +kernel
theorem sub_xor {s k : Nat} (hs : s < 1024) (hk : k < 10) (h : s.testBit k = true) : s - 2 ^ k = s ^^^ 2 ^ k := by
  have := List.all_eq_true.1 (List.all_eq_true.1 dec_sub s (List.mem_range.2 hs)) k (List.mem_range.2 hk)
  simpa [h] using this
theorem andNot_xor {s k : Nat} (hs : s < 1024) (hk : k < 10) (h : s.testBit k = true) : andNotI .i64 (s : Int) ((2 ^ k : Nat) : Int) = ((s ^^^ 2 ^ k : Nat) : Int) := by
  have := List.all_eq_true.1 (List.all_eq_true.1 dec_andNot s (List.mem_range.2 hs)) k (List.mem_range.2 hk)
  simp only [h, Bool.not_true, Bool.false_or, beq_iff_eq] at this
  exact this
theorem comp_xor {s : Nat} (hs : s < 1024) : andNotI .i64 1023 (s : Int) = ((1023 ^^^ s : Nat) : Int) ∧ 1023 - s = 1023 ^^^ s := by
  have := List.all_eq_true.1 dec_comp s (List.mem_range.2 hs)
  simp only [Bool.and_eq_true, beq_iff_eq] at this
  exact this
theorem xor_lt {s k : Nat} (hs : s < 1024) (hk : k < 10) (h : s.testBit k = true) : s ^^^ 2 ^ k < s := by
  rw [← sub_xor hs hk h]
  have h1 := Nat.ge_two_pow_of_testBit h
  have h2 : 0 < 2 ^ k := Nat.two_pow_pos k
  omega
theorem xor_bit {s k j : Nat} (h : s.testBit k = true) : (s ^^^ 2 ^ k).testBit j = (s.testBit j && !decide (j = k)) := by
  rw [Nat.testBit_xor, Nat.testBit_two_pow]
  by_cases hj : j = k
  · subst hj; simp [h]
  · simp [hj, Ne.symm hj]

/-- Is a member content with a set? -/
def contM (ms : List Mem) (s k : Nat) : Bool := match ms[k]? with
  | some m => satT s m.t
  | none => true
def unhL (ms : List Mem) (s : Nat) : List Nat → Option Nat
  | [] => none
  | k :: r => if contM ms s k = true then unhL ms s r else some k
def elim (ms : List Mem) : Nat → Nat → List Nat × Nat
  | 0, s => ([], s)
  | f + 1, s => match unhL ms s (nodes s) with
    | none => ([], s)
    | some k => (k :: (elim ms f (s ^^^ 2 ^ k)).1, (elim ms f (s ^^^ 2 ^ k)).2)
/-- Configurations of small trusts; sets of their members. -/
structure ConfOk (ms : List Mem) : Prop where
  len : ms.length ≤ 10
  thin : ∀ m ∈ ms, m.t.thin
def subM (ms : List Mem) (s : Nat) : Prop := s < 1024 ∧ ∀ k, s.testBit k = true → k < ms.length
theorem subM_decl (ms : List Mem) (s : Nat) : subM ms (s &&& decl ms) := by
  refine ⟨Nat.lt_of_le_of_lt Nat.and_le_right (decl_lt ms), fun k hk => ?_⟩
  rw [Nat.testBit_and, decl_bit] at hk
  simp only [Bool.and_eq_true] at hk
  cases h : ms[k]? with
  | none => rw [h] at hk; simp at hk
  | some m => exact (List.getElem?_eq_some_iff.1 h).1
theorem unhL_some {ms : List Mem} {s : Nat} : ∀ {l : List Nat} {k : Nat}, unhL ms s l = some k → k ∈ l ∧ contM ms s k = false
  | [], k, h => by simp [unhL] at h
  | x :: r, k, h => by
    simp only [unhL] at h
    split at h
    · obtain ⟨h1, h2⟩ := unhL_some h; exact ⟨List.mem_cons_of_mem _ h1, h2⟩
    · rename_i hx
      cases h
      exact ⟨List.mem_cons_self, by simpa using hx⟩
theorem unhL_none {ms : List Mem} {s : Nat} : ∀ {l : List Nat}, unhL ms s l = none → ∀ k ∈ l, contM ms s k = true
  | [], _, k, hk => by cases hk
  | x :: r, h, k, hk => by
    simp only [unhL] at h
    split at h
    · rename_i hx
      rcases List.mem_cons.1 hk with rfl | hk
      · exact hx
      · exact unhL_none h k hk
    · cases h

theorem e321 (ms : List Mem) (k s : Nat) (m : Mem) (hm : ms[k]? = some m) (ht : m.t.thin) (hs : s < 1024) : callW E 321 [.p (confPv ms), .p (.int .i64 k), .p (.int .i64 s)] [] = some ⟨.p (.bool (satT s m.t)), [], []⟩ := by
  have e := e310 (E := E) s hs m.t ht
  have h0 : (0 : Int) ≤ k := by omega
  unfold Tr.pv at e
  rw [callW_eq, EnvS.h 321 F321 rfl]
  unfold confPv
  simp -implicitDefEqProofs only [go_sem, F321, s321, hm, h0, Mem.pv, e]
theorem loop311 (ms : List Mem) (hc : ConfOk ms) (s : Nat) (hs : subM ms s) (ns : List Nat) (hns : ∀ k ∈ ns, s.testBit k = true) (hl : ns.length ≤ 10) :
    loopW E 0 [1, 2, 9, 10, 11] [.loc 0 0 0] (.trim [1, 2, 9, 10, 11] [4, 5] [(0, [])] [.loc 0 0 0] s311_3) (some ⟨[(1, .p (.int .i64 s)), (2, .ptr (.loc 0 0 0) 0), (9, .p (.sl 1 (ns.map intN))), (10, .p (.int .i64 ns.length)), (11, .p (.int .i64 0))], [(.loc 0 0 0, some (.box [.p (.sl 4 (ms.map Mem.pv))]))]⟩) =
    (match unhL ms s ns with
      | none => some (.ex 0, ⟨[], [(.loc 0 0 0, some (.box [.p (.sl 4 (ms.map Mem.pv))]))]⟩)
      | some k => some (.ret, ⟨[(4, .p (.int .i64 k)), (5, .p (.bool true))], [(.loc 0 0 0, some (.box [.p (.sl 4 (ms.map Mem.pv))]))]⟩)) := by
  have key := range_loopI (loopW E 0 [1, 2, 9, 10, 11] [.loc 0 0 0] (.trim [1, 2, 9, 10, 11] [4, 5] [(0, [])] [.loc 0 0 0] s311_3)) ns
    (fun i (_ : Unit) => ⟨[(1, .p (.int .i64 s)), (2, .ptr (.loc 0 0 0) 0), (9, .p (.sl 1 (ns.map intN))), (10, .p (.int .i64 ns.length)), (11, .p (.int .i64 i))], [(.loc 0 0 0, some (.box [.p (.sl 4 (ms.map Mem.pv))]))]⟩)
    (fun _ r => match unhL ms s r with
      | none => some (.ex 0, ⟨[], [(.loc 0 0 0, some (.box [.p (.sl 4 (ms.map Mem.pv))]))]⟩)
      | some k => some (.ret, ⟨[(4, .p (.int .i64 k)), (5, .p (.bool true))], [(.loc 0 0 0, some (.box [.p (.sl 4 (ms.map Mem.pv))]))]⟩)) (fun _ _ => True)
  refine key ?_ ?_ () trivial
  · intro _ _
    rw [loopW_some]
    generalize hK : loopW E 0 _ _ _ = K
    simp -implicitDefEqProofs only [go_sem, s311_3, s311_2, s311_1, unhL]
  · intro i _ x r hx hn _ ih
    obtain ⟨f1, f2, f3⟩ := rangeFacts i ns.length (by omega) (by omega)
    have hxl := hs.2 x (hns x (List.mem_of_getElem? hx))
    have hm : ms[x]? = some ms[x] := by simp [hxl]
    have e := e321 (E := E) ms x s ms[x] hm (hc.thin _ (List.getElem_mem ..)) hs.1
    have hcm : contM ms s x = satT s ms[x].t := by simp [contM, hm]
    have ih' := ih () trivial
    unfold confPv at e
    rw [loopW_some]
    generalize hK : loopW E 0 _ _ _ = K at ih' ⊢
    cases hh : satT s ms[x].t with
    | true =>
      rw [hh] at e hcm
      try dsimp only at ih' ⊢
      simp -implicitDefEqProofs only [go_sem, s311_3, s311_2, s311_1, hx, intN, f1, f2, f3, e, ih', unhL, hcm]
    | false =>
      rw [hh] at e hcm
      try dsimp only
      simp -implicitDefEqProofs only [go_sem, s311_3, s311_2, s311_1, hx, intN, f1, f2, f3, e, unhL, hcm]
theorem e311 (ms : List Mem) (hc : ConfOk ms) (s : Nat) (hs : subM ms s) : callW E 311 [.p (confPv ms), .p (.int .i64 s)] [] =
    some ⟨.tup (match unhL ms s (nodes s) with | none => [.p (.int .i64 0), .p (.bool false)] | some k => [.p (.int .i64 k), .p (.bool true)]), [], []⟩ := by
  have lp := loop311 (E := E) ms hc s hs (nodes s) (fun k hk => ((nodes_mem s k).1 hk).2) (nodesL_len s 10 0)
  have e := e320 (E := E) s hs.1
  rw [callW_eq, EnvS.h 311 F311 rfl]
  unfold confPv
  cases hu : unhL ms s (nodes s) with
  | none =>
    rw [hu] at lp
    simp -implicitDefEqProofs only [go_sem, F311, s311, s311_4, e, lp]
  | some k =>
    rw [hu] at lp
    simp -implicitDefEqProofs only [go_sem, F311, s311, s311_4, e, lp]
theorem subM_xor {ms : List Mem} {s k : Nat} (h : subM ms s) (hk : k < 10) (hb : s.testBit k = true) : subM ms (s ^^^ 2 ^ k) :=
  ⟨Nat.lt_trans (xor_lt h.1 hk hb) h.1, fun j hj => h.2 j (by rw [xor_bit hb] at hj; simp only [Bool.and_eq_true] at hj; exact hj.1)⟩
theorem loop282 (ms : List Mem) (hc : ConfOk ms) : ∀ (f s : Nat) (out : List Nat), s < f → subM ms s → out.length + s ≤ 5000 →
    loopW E 0 [1, 2, 6] [.loc 0 0 0, .loc 3 0 0] (.trim [1, 2, 6] [4, 5] [] [.loc 0 0 0, .loc 3 0 0] s282_4) (some ⟨[(1, .p (.int .i64 s)), (2, .ptr (.loc 0 0 0) 0), (6, .hsl (.loc 3 0 0) 0 out.length)], [(.loc 0 0 0, some (.box [.p (.sl 4 (ms.map Mem.pv))])), (.loc 3 0 0, some (.parr (out.map intN) 1 false))]⟩) =
    some (.ret, ⟨[(4, .p (.int .i64 ((elim ms f s).2 : Nat))), (5, .hsl (.loc 3 0 0) 0 (out ++ (elim ms f s).1).length)], [(.loc 0 0 0, some (.box [.p (.sl 4 (ms.map Mem.pv))])), (.loc 3 0 0, some (.parr ((out ++ (elim ms f s).1).map intN) 1 false))]⟩) := by
  generalize hK : loopW E 0 _ _ _ = K
  intro f
  induction f with
  | zero => intro s out h; omega
  | succ f ih =>
    intro s out hf hs ho
    have e := e311 (E := E) ms hc s hs
    unfold confPv at e
    rw [← hK, loopW_some, hK]
    cases hu : unhL ms s (nodes s) with
    | none =>
      rw [hu] at e
      simp -implicitDefEqProofs only [go_sem, s282_4, s282_3, s282_2, e, elim, hu]
    | some k =>
      rw [hu] at e
      obtain ⟨h1, h2⟩ := unhL_some hu
      obtain ⟨h3, h4⟩ := (nodes_mem s k).1 h1
      have hlt := xor_lt hs.1 h3 h4
      have ih' := ih (s ^^^ 2 ^ k) (out ++ [k]) (by omega) (subM_xor hs h3 h4) (by simp; omega)
      have hm : out.length + 1 ≤ most := by unfold most; omega
      have f4 : ¬ (k : Int) < 0 := by omega
      simp only [List.map_append, List.map_cons, List.map_nil, List.length_append, List.length_cons, List.length_nil, Nat.zero_add, List.append_assoc, List.singleton_append] at ih'
      rw [show intN k = .int .i64 (k : Int) from rfl] at ih'
      have hs9 := hs.1
      simp -implicitDefEqProofs only [go_sem, s282_4, s282_3, s282_2, e, elim, hu, hm, f4, shl1 k (by omega), andNot_xor hs9 h3 h4, List.map_append, List.append_assoc, List.singleton_append, List.length_append]
      exact ih'
def elimS (ms : List Mem) (s : Nat) : List Nat × Nat := elim ms 1024 (s &&& decl ms)
/-- The greatest quorum in a set. -/
def great (ms : List Mem) (s : Nat) : Nat := (elimS ms s).2
theorem e282 (ms : List Mem) (hc : ConfOk ms) (s : Nat) (hs : s < 1024) : callW E 282 [.p (confPv ms), .p (.int .i64 s)] [] = some ⟨.tup [.p (.int .i64 (great ms s : Nat)), .p (.sl 1 ((elimS ms s).1.map intN))], [], []⟩ := by
  have hsub := subM_decl ms s
  have lp := loop282 (E := E) ms hc 1024 (s &&& decl ms) [] hsub.1 hsub (by have := hsub.1; simp; omega)
  simp only [List.nil_append, List.map_nil, List.length_nil] at lp
  rw [← elimS, ← great] at lp
  have hl := hc.len
  have e1 := e309 (E := E) ms (by omega)
  have e2 := e280 (E := E) s hs
  have hd := decl_lt ms
  have w := andI_nat s (decl ms) (by omega) (by omega)
  unfold confPv at *
  rw [callW_eq, EnvS.h 282 F282 rfl]
  simp -implicitDefEqProofs only [go_sem, F282, s282, s282_1, s282_5, e1, e2, w, lp]
theorem e236 (ms : List Mem) (hc : ConfOk ms) (s : Nat) (hs : s < 1024) : callW E 236 [.p (confPv ms), .p (.int .i64 s)] [] = some ⟨.p (.int .i64 (great ms s : Nat)), [], []⟩ := by
  have e := e282 (E := E) ms hc s hs
  unfold confPv at *
  rw [callW_eq, EnvS.h 236 F236 rfl]
  simp -implicitDefEqProofs only [go_sem, F236, s236, e]
end Go.Ab.S

namespace Go.Ab.S
open Go Go.Ab
variable {E : Env} [EnvS E]

/-! ### Blocking sets, acceptance, confirmation -/
def blk (ms : List Mem) (v b : Nat) : Bool := match ms[v]? with
  | some m => m.d && !satT ((1023 ^^^ b) ||| 2 ^ v) m.t
  | none => false
theorem decl_has (ms : List Mem) (v : Nat) (hv : v < 10) : hasN (decl ms) v = (match ms[v]? with | some m => m.d | none => false) := by
  rw [hasN_nat _ _ hv, decl_bit]
  cases ms[v]? with
  | none => simp
  | some m => cases hm : m.d <;> simp [hv, hm]
theorem comp_lt {b : Nat} (hb : b < 1024) : 1023 ^^^ b < 1024 := Nat.xor_lt_two_pow (n := 10) (by decide) hb
theorem e281 (ms : List Mem) (hc : ConfOk ms) (v b : Nat) (hv : v < 10) (hb : b < 1024) : callW E 281 [.p (confPv ms), .p (.int .i64 v), .p (.int .i64 b)] [] = some ⟨.p (.bool (blk ms v b)), [], []⟩ := by
  have e1 := e280 (E := E) b hb
  have hl := hc.len
  have e2 := e309 (E := E) ms (by omega)
  have e3 := e235 (E := E) (decl ms) v (decl_lt ms)
  rw [decl_has _ _ hv] at e3
  have hn := comp_lt hb
  have f4 : ¬ (v : Int) < 0 := by omega
  have h0 : (0 : Int) ≤ v := by omega
  have w1 : andNotI .i64 1023 (b : Int) = ((1023 ^^^ b : Nat) : Int) := (comp_xor hb).1
  have w2 : IntKind.i64.wrap (1023 - (b : Int)) = ((1023 ^^^ b : Nat) : Int) := by
    have := (comp_xor hb).2
    rw [← this, wrap64 (by omega) (by omega)]; omega
  have w3 := orI_nat (1023 ^^^ b) (2 ^ v) (by omega) (Nat.lt_trans (pow_lt v hv) (by decide))
  have hS := or_lt (1023 ^^^ b) v hn hv
  unfold blk
  unfold confPv at *
  rw [callW_eq, EnvS.h 281 F281 rfl]
  cases hm : ms[v]? with
  | none =>
    rw [hm] at e3
    simp -implicitDefEqProofs only [go_sem, F281, s281, s281_1, e1, e2, e3]
  | some m =>
    rw [hm] at e3
    have e4 := e310 (E := E) _ hS m.t (hc.thin _ (List.mem_of_getElem? hm))
    unfold Tr.pv at e4
    cases hd : m.d with
    | false =>
      simp only [hd] at e3
      simp -implicitDefEqProofs only [go_sem, F281, s281, s281_1, e1, e2, e3, Bool.false_and, hd]
    | true =>
      simp only [hd] at e3
      simp -implicitDefEqProofs only [go_sem, F281, s281, s281_1, e1, e2, e3, hm, h0, Mem.pv, f4, shl1 v (by omega), w1, w2, w3, e4, Bool.true_and, hd]
/-! as before -/
def accW (ms : List Mem) (v votes acc : Nat) : Bool := blk ms v acc || (great ms (votes ||| acc)).testBit v
theorem great_lt (ms : List Mem) (s : Nat) : great ms s < 1024 := by
  have : ∀ f s, subM ms s → (elim ms f s).2 < 1024 := by
    intro f
    induction f with
    | zero => intro s h; exact h.1
    | succ f ih =>
      intro s h
      rw [elim]
      cases hu : unhL ms s (nodes s) with
      | none => exact h.1
      | some x =>
        obtain ⟨h1, h2⟩ := unhL_some hu
        obtain ⟨h3, h4⟩ := (nodes_mem s x).1 h1
        exact ih _ (subM_xor h h3 h4)
  exact this 1024 _ (subM_decl ms s)
theorem e233 (ms : List Mem) (hc : ConfOk ms) (v s b : Nat) (hv : v < 10) (hs : s < 1024) (hb : b < 1024) : callW E 233 [.p (confPv ms), .p (.int .i64 v), .p (.int .i64 s), .p (.int .i64 b)] [] = some ⟨.p (.bool (accW ms v s b)), [], []⟩ := by
  have e1 := e280 (E := E) s hs
  have e2 := e280 (E := E) b hb
  have e3 := e281 (E := E) ms hc v b hv hb
  have hsb : s ||| b < 1024 := Nat.or_lt_two_pow (n := 10) hs hb
  have w := orI_nat s b (by omega) (by omega)
  have e4 := e236 (E := E) ms hc _ hsb
  have e5 := e235 (E := E) _ v (great_lt ms (s ||| b))
  rw [hasN_nat _ _ hv] at e5
  unfold confPv at *
  rw [callW_eq, EnvS.h 233 F233 rfl]
  unfold accW
  cases h : blk ms v b with
  | true =>
    rw [h] at e3
    simp -implicitDefEqProofs only [go_sem, F233, s233, s233_1, e1, e2, e3, Bool.true_or]
  | false =>
    rw [h] at e3
    simp -implicitDefEqProofs only [go_sem, F233, s233, s233_1, e1, e2, e3, w, e4, e5, Bool.false_or]
theorem e205 (ms : List Mem) (hc : ConfOk ms) (v b : Nat) (hv : v < 10) (hb : b < 1024) : callW E 205 [.p (confPv ms), .p (.int .i64 v), .p (.int .i64 b)] [] = some ⟨.p (.bool ((great ms b).testBit v)), [], []⟩ := by
  have e4 := e236 (E := E) ms hc _ hb
  have e5 := e235 (E := E) _ v (great_lt ms b)
  rw [hasN_nat _ _ hv] at e5
  unfold confPv at *
  rw [callW_eq, EnvS.h 205 F205 rfl]
  simp -implicitDefEqProofs only [go_sem, F205, s205, e4, e5]
end Go.Ab.S

namespace Go.Ab
/-! ### Calls whose arguments hold names, step by step -/
def nmA : AV → Bool
  | .ptr .. => true
  | .fn _ a b => !(plainL a && plainL b)
  | _ => false
theorem nmA_ptr (x : Nm) (o : Nat) : nmA (.ptr x o) = true := _root_.id rfl
theorem nmA_fn (f : FuncId) (a b : List AV) : nmA (.fn f a b) = !(plainL a && plainL b) := _root_.id rfl
theorem nmA_p (v : PV) : nmA (.p v) = false := _root_.id rfl
theorem nmA_nils (z : Nat) : nmA (.nils z) = false := _root_.id rfl
theorem nmA_agg (z : List AV) : nmA (.agg z) = false := _root_.id rfl
theorem nmA_hsl (x : Nm) (a b : Nat) : nmA (.hsl x a b) = false := _root_.id rfl
def anyNm : List AV → Bool
  | [] => false
  | v :: r => nmA v || anyNm r
theorem anyNm_nil : anyNm [] = false := _root_.id rfl
theorem anyNm_cons (v : AV) (r : List AV) : anyNm (v :: r) = (nmA v || anyNm r) := _root_.id rfl
def genQ : List AV → Bool
  | .ptr .. :: r => anyNm r
  | r => anyNm r
theorem genQ_ptr (x : Nm) (o : Nat) (r : List AV) : genQ (.ptr x o :: r) = anyNm r := _root_.id rfl
theorem genQ_p (v : PV) (r : List AV) : genQ (.p v :: r) = anyNm r := _root_.id rfl
theorem genQ_agg (v : List AV) (r : List AV) : genQ (.agg v :: r) = anyNm r := _root_.id rfl
theorem genQ_nils (v : Nat) (r : List AV) : genQ (.nils v :: r) = anyNm r := _root_.id rfl
theorem genQ_hsl (x : Nm) (a b : Nat) (r : List AV) : genQ (.hsl x a b :: r) = anyNm r := _root_.id rfl
theorem genQ_fn (f : FuncId) (a b r : List AV) : genQ (.fn f a b :: r) = (!(plainL a && plainL b) || anyNm r) := _root_.id rfl
theorem anyNm_allP {l : List AV} (h : anyNm l = true) : allP l = none := by
  induction l with
  | nil => cases h
  | cons v r ih =>
    cases v with
    | p v =>
      simp only [anyNm, nmA, Bool.false_or] at h
      simp only [allP, ih h]
    | _ => rfl
theorem genQ_allP {l : List AV} (h : genQ l = true) : allP l = none := by
  cases l with
  | nil => cases h
  | cons v r =>
    cases v with
    | ptr x o => rfl
    | p v => simp only [genQ] at h; exact anyNm_allP h
    | _ => rfl
def gG (H : Hp) (r i : Nat) (ns : List Nm) (ups : Hp) (c : Option CR) : Option Dl := callEnd H r i ns ups c
def gF (cf : CF) (H : Hp) (r i : Nat) (f : FuncId) (args : List AV) (ns : List Nm) (ups : Hp) : Option (List AObj) → Option Dl
  | some os => gG H r i ns ups (cf f args os)
  | none => none
def gE (cf : CF) (H : Hp) (r i : Nat) (f : FuncId) (ns : List Nm) (ups : Hp) : Option (List AV) → Option (List AObj) → Option Dl
  | some args, some os => gF cf H r i f args ns ups (renOs (toExt ns) os)
  | _, _ => none
def gD (cf : CF) (H : Hp) (r i : Nat) (f : FuncId) (args : List AV) (ups : Hp) : Option (List Nm) → Option Dl
  | some ns => gE cf H r i f ns ups (renL (toExt ns) args) (hgets (ups ++ H) ns)
  | none => none
def gC (cf : CF) (H : Hp) (r i : Nat) (f : FuncId) (args : List AV) (u : Hp) : Option Hp → Option Dl
  | some b => gD cf H r i f args (b ++ u) (reach ((b ++ u) ++ H) 64 (namesL args) [])
  | none => none
def gB (cf : CF) (H : Hp) (r i : Nat) (f : FuncId) (args : List AV) (u : Hp) : Option (List Nm) → Option Dl
  | some ns => gC cf H r i f args u (boxUps (u ++ H) ns)
  | none => none
def gA (cf : CF) (H : Hp) (r i : Nat) (f : FuncId) (args : List AV) : Option (List AV) → Option Dl
  | some args' => gB cf H r i f args' (frzUp H (frzNs args)) (reach (frzUp H (frzNs args) ++ H) 64 (namesL args') [])
  | none => none
theorem callD_gen (cf : CF) (H : Hp) (r i : Nat) (f : FuncId) (args : List AV) (h : genQ args = true) : callD cf false H r i f args = gA cf H r i f args (frzL H args) := by
  simp only [callD, genQ_allP h, Bool.false_eq_true, if_false]
  cases frzL H args with
  | none => rfl
  | some a =>
    simp only [gA]
    cases reach (frzUp H (frzNs args) ++ H) 64 (namesL a) [] with
    | none => rfl
    | some ns =>
      simp only [gB]
      cases boxUps (frzUp H (frzNs args) ++ H) ns with
      | none => rfl
      | some b =>
        simp only [gC, callNs]
        cases reach ((b ++ frzUp H (frzNs args)) ++ H) 64 (namesL a) [] with
        | none => rfl
        | some ns =>
          simp only [gD]
          cases renL (toExt ns) a with
          | none => rfl
          | some a' => cases hgets ((b ++ frzUp H (frzNs args)) ++ H) ns with
            | none => rfl
            | some os =>
              simp only [gE]
              cases renOs (toExt ns) os <;> rfl
theorem gA_some (cf : CF) (H : Hp) (r i : Nat) (f : FuncId) (args args' : List AV) : gA cf H r i f args (some args') = gB cf H r i f args' (frzUp H (frzNs args)) (reach (frzUp H (frzNs args) ++ H) 64 (namesL args') []) := _root_.id rfl
theorem gB_some (cf : CF) (H : Hp) (r i : Nat) (f : FuncId) (args : List AV) (u : Hp) (ns : List Nm) : gB cf H r i f args u (some ns) = gC cf H r i f args u (boxUps (u ++ H) ns) := _root_.id rfl
theorem gC_some (cf : CF) (H : Hp) (r i : Nat) (f : FuncId) (args : List AV) (u b : Hp) : gC cf H r i f args u (some b) = gD cf H r i f args (b ++ u) (reach ((b ++ u) ++ H) 64 (namesL args) []) := _root_.id rfl
theorem gD_some (cf : CF) (H : Hp) (r i : Nat) (f : FuncId) (args : List AV) (u : Hp) (ns : List Nm) : gD cf H r i f args u (some ns) = gE cf H r i f ns u (renL (toExt ns) args) (hgets (u ++ H) ns) := _root_.id rfl
theorem gE_some (cf : CF) (H : Hp) (r i : Nat) (f : FuncId) (ns : List Nm) (u : Hp) (a : List AV) (os : List AObj) : gE cf H r i f ns u (some a) (some os) = gF cf H r i f a ns u (renOs (toExt ns) os) := _root_.id rfl
theorem gF_some (cf : CF) (H : Hp) (r i : Nat) (f : FuncId) (ns : List Nm) (u : Hp) (a : List AV) (os : List AObj) : gF cf H r i f a ns u (some os) = gG H r i ns u (cf f a os) := _root_.id rfl
def gH (ns : List Nm) (ups : Hp) (v : PV) : Option (List AObj) → Option Dl
  | some outs => some { v := .p v, up := zipUp ns outs ++ ups }
  | none => none
theorem gH_some (ns : List Nm) (ups : Hp) (v : PV) (outs : List AObj) : gH ns ups v (some outs) = some { v := .p v, up := zipUp ns outs ++ ups } := _root_.id rfl
theorem gG_some (H : Hp) (r i : Nat) (ns : List Nm) (ups : Hp) (v : PV) (outs : List AObj) (h : outs.length = ns.length) : gG H r i ns ups (some ⟨.p v, outs, []⟩) = gH ns ups v (renOs (fromExt ns r i) outs) := by
  cases outs with
  | nil => cases ns with
    | nil => rfl
    | cons n ns => cases h
  | cons o os => cases ns with
    | nil => cases h
    | cons n ns =>
      simp only [gG, callEnd, h, newUp, freeH, and_self, if_true, AV.ren]
      cases renOs (fromExt (n :: ns) r i) (o :: os) <;> rfl
/-- Reaching. -/
def reachK (H : Hp) (n : Nat) (x : Nm) (todo acc : List Nm) : Option AObj → Option (List Nm)
  | some o => reach H n (todo ++ o.names) (acc ++ [x])
  | none => none
theorem reachK_some (H : Hp) (n : Nat) (x : Nm) (todo acc : List Nm) (o : AObj) : reachK H n x todo acc (some o) = reach H n (todo ++ o.names) (acc ++ [x]) := _root_.id rfl
theorem reach_nil (H : Hp) (n : Nat) (acc : List Nm) : reach H n [] acc = some acc := by cases n <;> rfl
theorem reach_in (H : Hp) (n : Nat) (x : Nm) (todo acc : List Nm) (h : x ∈ acc) : reach H (n + 1) (x :: todo) acc = reach H n todo acc := by
  rw [reach]; simp [h]
theorem reach_out (H : Hp) (n : Nat) (x : Nm) (todo acc : List Nm) (h : ¬ x ∈ acc) : reach H (n + 1) (x :: todo) acc = reachK H n x todo acc (hget H x) := by
  rw [reach]; simp only [h, if_false]
  cases hget H x <;> rfl
/-- Boxes that are handed over. -/
def boxK (H : Hp) (x : Nm) (u : Hp) (cs : List AV) : Option (List AV) → Option Hp
  | some cs' => some ((x, some (.box cs')) :: (frzUp H (cs.flatMap hslN) ++ u))
  | none => none
theorem boxK_some (H : Hp) (x : Nm) (u : Hp) (cs cs' : List AV) : boxK H x u cs (some cs') = some ((x, some (.box cs')) :: (frzUp H (cs.flatMap hslN) ++ u)) := _root_.id rfl
def boxJ (H : Hp) (x : Nm) : Option AObj → Option Hp → Option Hp
  | some (.box cs), some u => boxK H x u cs (frzL1 H cs)
  | some _, some u => some u
  | _, _ => none
theorem boxJ_box (H : Hp) (x : Nm) (cs : List AV) (u : Hp) : boxJ H x (some (.box cs)) (some u) = boxK H x u cs (frzL1 H cs) := _root_.id rfl
theorem boxJ_parr (H : Hp) (x : Nm) (cs : List PV) (z : Nat) (b : Bool) (u : Hp) : boxJ H x (some (.parr cs z b)) (some u) = some u := _root_.id rfl
theorem boxUps_nil (H : Hp) : boxUps H [] = some [] := _root_.id rfl
theorem boxUps_cons (H : Hp) (x : Nm) (r : List Nm) : boxUps H (x :: r) = boxJ H x (hget H x) (boxUps H r) := by
  rw [boxUps]
  cases hget H x with
  | none => cases boxUps H r <;> rfl
  | some o => cases boxUps H r with
    | none => cases o <;> rfl
    | some u => cases o with
      | box cs => simp only [boxJ]; cases frzL1 H cs <;> rfl
      | parr => rfl
      | arr => rfl
/-- The end of a call, names in it. -/
def hE (n : Nat) (ns : List Nm) (vs : List AV) : Option (List AObj) → Option (List AObj) → Option CR
  | some outs, some news => some { v := tup1 vs, outs, news }
  | _, _ => none
theorem hE_some (n : Nat) (ns : List Nm) (vs : List AV) (a b : List AObj) : hE n ns vs (some a) (some b) = some { v := tup1 vs, outs := a, news := b } := _root_.id rfl
def hD (n : Nat) (ns : List Nm) : Option (List AV) → Option (List AObj) → Option (List AObj) → Option CR
  | some vs, some os, some news => hE n ns vs (renOs (outNm n ns) os) (renOs (outNm n ns) news)
  | _, _, _ => none
theorem hD_some (n : Nat) (ns : List Nm) (vs : List AV) (a b : List AObj) : hD n ns (some vs) (some a) (some b) = hE n ns vs (renOs (outNm n ns) a) (renOs (outNm n ns) b) := _root_.id rfl
def hB (n : Nat) (H1 : Hp) (vs' : List AV) : Option (List Nm) → Option CR
  | some all => if all.take n = extNs 0 n then hD n (all.drop n) (renL (outNm n (all.drop n)) vs') (hgets H1 (extNs 0 n)) (hgets H1 (all.drop n)) else none
  | none => none
theorem hB_some (n : Nat) (H1 : Hp) (vs' : List AV) (all : List Nm) (h : all.take n = extNs 0 n) : hB n H1 vs' (some all) = hD n (all.drop n) (renL (outNm n (all.drop n)) vs') (hgets H1 (extNs 0 n)) (hgets H1 (all.drop n)) := by
  simp only [hB, h, if_true]
theorem hB_zero (H1 : Hp) (vs' : List AV) (all : List Nm) : hB 0 H1 vs' (some all) = hD 0 all (renL (outNm 0 all) vs') (some []) (hgets H1 all) := _root_.id rfl
def hA (n : Nat) (H : Hp) (vs : List AV) : Option (List AV) → Option CR
  | some vs' => hB n (frzUp H (frzNs vs) ++ H) vs' (reach (frzUp H (frzNs vs) ++ H) 64 (extNs 0 n ++ namesL vs') [])
  | none => none
theorem hA_some (n : Nat) (H : Hp) (vs vs' : List AV) : hA n H vs (some vs') = hB n (frzUp H (frzNs vs) ++ H) vs' (reach (frzUp H (frzNs vs) ++ H) 64 (extNs 0 n ++ namesL vs') []) := _root_.id rfl
theorem finishG_eq (F : SFn) (n : Nat) (st : St) (vs : List AV) (hF : F.rawR = false) : finish.finishG F n st vs = hA n st.H vs (frzL st.H vs) := by
  unfold finish.finishG
  simp only [hF, Bool.false_eq_true, if_false]
  cases frzL st.H vs with
  | none => rfl
  | some vs' =>
    simp only [hA]
    cases reach (frzUp st.H (frzNs vs) ++ st.H) 64 (extNs 0 n ++ namesL vs') [] with
    | none => rfl
    | some all =>
      simp only [hB]
      split
      · cases renL (outNm n (all.drop n)) vs' with
        | none => rfl
        | some a => cases hgets (frzUp st.H (frzNs vs) ++ st.H) (extNs 0 n) with
          | none => rfl
          | some b => cases hgets (frzUp st.H (frzNs vs) ++ st.H) (all.drop n) with
            | none => rfl
            | some c =>
              simp only [hD]
              cases renOs (outNm n (all.drop n)) b with
              | none => rfl
              | some x => cases renOs (outNm n (all.drop n)) c <;> rfl
      · rfl
theorem finX_many (F : SFn) (n : Nat) (st : St) (vs : List AV) (hF : F.rawR = false) : finX F (n + 2) st (some vs) = hA (n + 2) st.H vs (frzL st.H vs) := by
  rw [finX_succ, finishG_eq _ _ _ _ hF]
theorem fin0_names (F : SFn) (st : St) (f : FuncId) (a b : List AV) (x : List AV) (hF : F.rawR = false) (h : (plainL a && plainL b) = false) :
    fin0 F st [.fn f a b] (some (.fn f a b :: x)) = hB 0 st.H [.fn f a b] (reach st.H 64 (namesL [.fn f a b]) []) := by
  have hp : plainL (AV.fn f a b :: x) = false := rfl
  simp only [fin0, hp, Bool.false_eq_true, if_false]
  simp only [finX, if_true, show allP [AV.fn f a b] = none from rfl]
  rw [finishG_eq _ _ _ _ hF]
  rfl
theorem plainEnd_newF (H : Hp) (r i : Nat) (f : FuncId) (cs : List AV) (hc : plainL cs = true) (h : hget H (.loc r i 0) = none) : plainEnd H r i (some ⟨.fn f [] [.ptr (.ext 0) 0], [], [.box cs]⟩) = some { v := .fn f [] [.ptr (.loc r i 0) 0], up := [(.loc r i 0, some (.box cs))] } := by
  obtain ⟨_, h2⟩ := plainL_facts hc
  simp [plainEnd, callEnd, newUp, freeH, h, AV.ren, renL, renOs, AObj.ren, h2, zipUp, fromExt]
theorem plainL_ptr (x : Nm) (o : Nat) (r : List AV) : plainL (.ptr x o :: r) = false := _root_.id rfl
theorem plainL_fn (f : FuncId) (a b r : List AV) : plainL (.fn f a b :: r) = false := _root_.id rfl
theorem plainL_hsl (x : Nm) (a b : Nat) (r : List AV) : plainL (.hsl x a b :: r) = false := _root_.id rfl
theorem exts_three (H : Hp) : exts H 0 3 = [(.ext 0, hget H (.ext 0)), (.ext 1, hget H (.ext 1)), (.ext 2, hget H (.ext 2))] := _root_.id rfl
theorem exts_four (H : Hp) : exts H 0 4 = [(.ext 0, hget H (.ext 0)), (.ext 1, hget H (.ext 1)), (.ext 2, hget H (.ext 2)), (.ext 3, hget H (.ext 3))] := _root_.id rfl
attribute [go_sem] exts_three exts_four plainL_ptr plainL_fn plainL_hsl nmA_ptr nmA_fn nmA_p nmA_nils nmA_agg nmA_hsl anyNm_nil anyNm_cons genQ_ptr genQ_p genQ_agg genQ_nils genQ_hsl genQ_fn callD_gen gA_some gB_some gC_some gD_some gE_some gF_some gG_some gH_some
attribute [go_sem high] reachK_some reach_nil reach_in reach_out boxK_some boxJ_box boxJ_parr boxUps_nil boxUps_cons
attribute [go_sem] hE_some hD_some hB_zero hB_some hA_some finX_many fin0_names plainEnd_newF
end Go.Ab

namespace Go.Ab.S
open Go Go.Ab
variable {E : Env} [EnvS E]

/-! ### What a node hears -/
theorem loop202 (l : List Evl) (hl : l.length < 4000) (hth : ∀ e ∈ l, e.t.thin) :
    loopW E 0 [3, 6, 7, 8] [.loc 1 0 0] (.trim [3, 6, 7, 8] [2] [(0, [3])] [.loc 1 0 0] s202_3) (some ⟨[(3, .hsl (.loc 1 0 0) 0 0), (6, .p (.sl 15 (l.map Evl.pv))), (7, .p (.int .i64 l.length)), (8, .p (.int .i64 0))], [(.loc 1 0 0, some (.parr [] 15 false))]⟩) =
    some (.ex 0, ⟨[(3, .hsl (.loc 1 0 0) 0 (l.filter validE).length)], [(.loc 1 0 0, some (.parr ((l.filter validE).map Evl.pv) 15 false))]⟩) := by
  have key := range_loopI (loopW E 0 [3, 6, 7, 8] [.loc 1 0 0] (.trim [3, 6, 7, 8] [2] [(0, [3])] [.loc 1 0 0] s202_3)) l
    (fun i (o : List Evl) => ⟨[(3, .hsl (.loc 1 0 0) 0 o.length), (6, .p (.sl 15 (l.map Evl.pv))), (7, .p (.int .i64 l.length)), (8, .p (.int .i64 i))], [(.loc 1 0 0, some (.parr (o.map Evl.pv) 15 false))]⟩)
    (fun o r => some (.ex 0, ⟨[(3, .hsl (.loc 1 0 0) 0 (o ++ r.filter validE).length)], [(.loc 1 0 0, some (.parr ((o ++ r.filter validE).map Evl.pv) 15 false))]⟩)) (fun i o => o.length ≤ i)
  refine key ?_ ?_ [] (by simp)
  · intro o _
    rw [loopW_some]
    generalize hK : loopW E 0 _ _ _ = K
    simp -implicitDefEqProofs only [go_sem, s202_3, s202_2, s202_1, List.filter_nil, List.append_nil]
  · intro i o e r hx hn ho ih
    obtain ⟨f1, f2, f3⟩ := rangeFacts i l.length (by omega) (by omega)
    have e1 := e81 (E := E) e (hth e (List.mem_of_getElem? hx))
    have hm : o.length + 1 ≤ most := by unfold most; omega
    rw [loopW_some]
    generalize hK : loopW E 0 _ _ _ = K at ih ⊢
    cases hv : validE e with
    | true =>
      rw [hv] at e1
      have ih' := ih (o ++ [e]) (by simp; omega)
      simp only [List.map_append, List.map_cons, List.map_nil, List.length_append, List.length_cons, List.length_nil, Nat.zero_add, List.append_assoc, List.singleton_append] at ih'
      try dsimp only at ih' ⊢
      unfold Evl.pv at *
      simp -implicitDefEqProofs only [go_sem, s202_3, s202_2, s202_1, hx, f1, f2, f3, e1, hm, List.filter_cons, hv, List.map_append, List.map_cons, List.length_append, List.length_cons]
      exact ih'
    | false =>
      rw [hv] at e1
      have ih' := ih o (by omega)
      try dsimp only at ih' ⊢
      unfold Evl.pv at *
      simp -implicitDefEqProofs only [go_sem, s202_3, s202_2, s202_1, hx, f1, f2, f3, e1, hm, List.filter_cons, hv]
      exact ih'
theorem e202 (l : List Evl) (hl : l.length < 4000) (hth : ∀ e ∈ l, e.t.thin) : callW E 202 [.p (.sl 15 (l.map Evl.pv))] [] = some ⟨.p (.sl 15 ((l.filter validE).map Evl.pv)), [], []⟩ := by
  have lp := loop202 (E := E) l hl hth
  rw [callW_eq, EnvS.h 202 F202 rfl]
  simp -implicitDefEqProofs only [go_sem, F202, s202, s202_4, lp]
theorem e207 (e : Evl) (b : Bal) : callW E 207 [.p e.pv, .ptr (.ext 0) 0] [.box [.p (.int .i64 b.c), .p (.str b.v)]] = some ⟨.p (.bool (accP e b)), [.box [.p (.int .i64 b.c), .p (.str b.v)]], []⟩ := by
  have h := e113 (E := E) e b
  unfold Evl.pv at *
  rw [callW_eq, EnvS.h 207 F207 rfl]
  simp -implicitDefEqProofs only [go_sem, F207, s207, h]
theorem e204 (e : Evl) (b : Bal) : callW E 204 [.p e.pv, .ptr (.ext 0) 0] [.box [.p (.int .i64 b.c), .p (.str b.v)]] = some ⟨.p (.bool (votP e b)), [.box [.p (.int .i64 b.c), .p (.str b.v)]], []⟩ := by
  have h := e112 (E := E) e b
  unfold Evl.pv at *
  rw [callW_eq, EnvS.h 204 F204 rfl]
  simp -implicitDefEqProofs only [go_sem, F204, s204, h]
theorem e131 (b : Bal) : callW E 131 [.p (.agg [.int .i64 b.c, .str b.v])] [] = some ⟨.fn 207 [] [.ptr (.ext 0) 0], [], [.box [.p (.int .i64 b.c), .p (.str b.v)]]⟩ := by
  rw [callW_eq, EnvS.h 131 F131 rfl]
  simp -implicitDefEqProofs only [go_sem, F131, s131]
theorem e232 (e : Evl) (b : Bal) : callW E 232 [.p e.pv, .ptr (.ext 0) 0, .ptr (.ext 1) 0] [.box [.fn 204 [] [.ptr (.ext 2) 0]], .box [.fn 207 [] [.ptr (.ext 3) 0]], .box [.p (.int .i64 b.c), .p (.str b.v)], .box [.p (.int .i64 b.c), .p (.str b.v)]] = some ⟨.p (.bool (votP e b || accP e b)), [.box [.fn 204 [] [.ptr (.ext 2) 0]], .box [.fn 207 [] [.ptr (.ext 3) 0]], .box [.p (.int .i64 b.c), .p (.str b.v)], .box [.p (.int .i64 b.c), .p (.str b.v)]], []⟩ := by
  have h1 := e204 (E := E) e b
  have h2 := e207 (E := E) e b
  unfold Evl.pv at *
  rw [callW_eq, EnvS.h 232 F232 rfl]
  cases hv : votP e b with
  | true =>
    rw [hv] at h1
    simp -implicitDefEqProofs only [go_sem, F232, s232, h1, Bool.true_or]
  | false =>
    rw [hv] at h1
    simp -implicitDefEqProofs only [go_sem, F232, s232, h1, h2, Bool.false_or]
end Go.Ab.S

namespace Go.Ab.S
open Go Go.Ab
variable {E : Env} [EnvS E]

/-! ### Of whose envelopes something holds -/
def whoStep (f : Evl → Bool) (a : Nat) (e : Evl) : Nat := if f e = true then a ||| 2 ^ e.node.toNat else a
def who (f : Evl → Bool) (l : List Evl) : Nat := l.foldl (whoStep f) 0
def nodesOk (l : List Evl) : Prop := ∀ e ∈ l, 0 ≤ e.node ∧ e.node < 10
theorem whoStep_lt (f : Evl → Bool) (a : Nat) (e : Evl) (ha : a < 1024) (he : 0 ≤ e.node ∧ e.node < 10) : whoStep f a e < 1024 := by
  unfold whoStep; split
  · exact or_lt _ _ ha (by omega)
  · exact ha
theorem who_lt' (f : Evl → Bool) : ∀ (l : List Evl) (a : Nat), a < 1024 → nodesOk l → l.foldl (whoStep f) a < 1024
  | [], a, h, _ => h
  | e :: r, a, h, hn => who_lt' f r _ (whoStep_lt f a e h (hn e List.mem_cons_self)) (fun x hx => hn x (List.mem_cons_of_mem _ hx))
theorem who_lt (f : Evl → Bool) (l : List Evl) (hn : nodesOk l) : who f l < 1024 := who_lt' f l 0 (by decide) hn
theorem who_bit' (f : Evl → Bool) (k : Nat) : ∀ (l : List Evl) (a : Nat), nodesOk l → (l.foldl (whoStep f) a).testBit k = (a.testBit k || l.any fun e => f e && decide (e.node = (k : Int)))
  | [], a, _ => by simp
  | e :: r, a, hn => by
    rw [List.foldl_cons, who_bit' f k r _ (fun x hx => hn x (List.mem_cons_of_mem _ hx)), List.any_cons, ← Bool.or_assoc]
    congr 1
    have h := hn e List.mem_cons_self
    unfold whoStep
    cases hf : f e with
    | false => simp
    | true =>
      simp only [if_true, Nat.testBit_or, Nat.testBit_two_pow, Bool.true_and]
      congr 1
      simp only [decide_eq_decide]
      omega
theorem who_bit (f : Evl → Bool) (k : Nat) (l : List Evl) (hn : nodesOk l) : (who f l).testBit k = l.any fun e => f e && decide (e.node = (k : Int)) := by
  rw [who, who_bit' f k l 0 hn]; simp
theorem loop206a (b : Bal) (l : List Evl) (hl : l.length < 4000) (hn : nodesOk l) :
    loopW E 1 [1, 5, 9, 10, 11] [] (.trim [1, 5, 9, 10, 11] [4] [(0, [5])] [] s206_3) (some ⟨[(1, .fn 207 [] [.ptr (.ext 0) 0]), (5, .p (.int .i64 0)), (9, .p (.sl 15 (l.map Evl.pv))), (10, .p (.int .i64 l.length)), (11, .p (.int .i64 0))], [(.ext 0, some (.box [.p (.int .i64 b.c), .p (.str b.v)]))]⟩) =
    some (.ex 0, ⟨[(5, .p (.int .i64 (who (accP · b) l : Nat)))], [(.ext 0, some (.box [.p (.int .i64 b.c), .p (.str b.v)]))]⟩) := by
  have key := range_loopI (loopW E 1 [1, 5, 9, 10, 11] [] (.trim [1, 5, 9, 10, 11] [4] [(0, [5])] [] s206_3)) l
    (fun i (a : Nat) => ⟨[(1, .fn 207 [] [.ptr (.ext 0) 0]), (5, .p (.int .i64 a)), (9, .p (.sl 15 (l.map Evl.pv))), (10, .p (.int .i64 l.length)), (11, .p (.int .i64 i))], [(.ext 0, some (.box [.p (.int .i64 b.c), .p (.str b.v)]))]⟩)
    (fun a r => some (.ex 0, ⟨[(5, .p (.int .i64 (r.foldl (whoStep (accP · b)) a : Nat)))], [(.ext 0, some (.box [.p (.int .i64 b.c), .p (.str b.v)]))]⟩)) (fun _ a => a < 1024)
  refine key ?_ ?_ 0 (by decide)
  · intro a _
    rw [loopW_some]
    generalize hK : loopW E 1 _ _ _ = K
    simp -implicitDefEqProofs only [go_sem, s206_3, s206_2, s206_1, List.foldl_nil]
  · intro i a e r hx hnn ha ih
    obtain ⟨f1, f2, f3⟩ := rangeFacts i l.length (by omega) (by omega)
    obtain ⟨n1, n2⟩ := hn e (List.mem_of_getElem? hx)
    have ih' := ih (whoStep (accP · b) a e) (whoStep_lt _ _ _ ha ⟨n1, n2⟩)
    have e1 := e207 (E := E) e b
    have f4 : ¬ e.node < 0 := by omega
    have w := orI_nat a (2 ^ e.node.toNat) (by omega) (Nat.lt_trans (pow_lt e.node.toNat (by omega)) (by decide))
    have w2 : shlI .i64 1 e.node = ((2 ^ e.node.toNat : Nat) : Int) := by
      have := shl1 e.node.toNat (by omega)
      rwa [Int.toNat_of_nonneg n1] at this
    rw [loopW_some]
    generalize hK : loopW E 1 _ _ _ = K at ih' ⊢
    cases hv : accP e b with
    | true =>
      rw [hv] at e1
      simp only [whoStep, hv, if_true] at ih'
      try dsimp only at ih' ⊢
      unfold Evl.pv at *
      simp -implicitDefEqProofs only [go_sem, s206_3, s206_2, s206_1, hx, f1, f2, f3, e1, f4, w, w2, List.foldl_cons, whoStep, hv, ih']
    | false =>
      rw [hv] at e1
      simp only [whoStep, hv, Bool.false_eq_true, if_false] at ih'
      try dsimp only at ih' ⊢
      unfold Evl.pv at *
      simp -implicitDefEqProofs only [go_sem, s206_3, s206_2, s206_1, hx, f1, f2, f3, e1, f4, w, w2, List.foldl_cons, whoStep, hv, ih']
theorem loop206b (b : Bal) (l : List Evl) (hl : l.length < 4000) (hn : nodesOk l) :
    loopW E 4 [1, 5, 9, 10, 11] [] (.trim [1, 5, 9, 10, 11] [4] [(0, [5])] [] s206_3) (some ⟨[(1, .fn 232 [] [.ptr (.ext 0) 0, .ptr (.ext 1) 0]), (5, .p (.int .i64 0)), (9, .p (.sl 15 (l.map Evl.pv))), (10, .p (.int .i64 l.length)), (11, .p (.int .i64 0))], [(.ext 0, some (.box [.fn 204 [] [.ptr (.ext 2) 0]])), (.ext 1, some (.box [.fn 207 [] [.ptr (.ext 3) 0]])), (.ext 2, some (.box [.p (.int .i64 b.c), .p (.str b.v)])), (.ext 3, some (.box [.p (.int .i64 b.c), .p (.str b.v)]))]⟩) =
    some (.ex 0, ⟨[(5, .p (.int .i64 (who (fun e => votP e b || accP e b) l : Nat)))], [(.ext 0, some (.box [.fn 204 [] [.ptr (.ext 2) 0]])), (.ext 1, some (.box [.fn 207 [] [.ptr (.ext 3) 0]])), (.ext 2, some (.box [.p (.int .i64 b.c), .p (.str b.v)])), (.ext 3, some (.box [.p (.int .i64 b.c), .p (.str b.v)]))]⟩) := by
  have key := range_loopI (loopW E 4 [1, 5, 9, 10, 11] [] (.trim [1, 5, 9, 10, 11] [4] [(0, [5])] [] s206_3)) l
    (fun i (a : Nat) => ⟨[(1, .fn 232 [] [.ptr (.ext 0) 0, .ptr (.ext 1) 0]), (5, .p (.int .i64 a)), (9, .p (.sl 15 (l.map Evl.pv))), (10, .p (.int .i64 l.length)), (11, .p (.int .i64 i))], [(.ext 0, some (.box [.fn 204 [] [.ptr (.ext 2) 0]])), (.ext 1, some (.box [.fn 207 [] [.ptr (.ext 3) 0]])), (.ext 2, some (.box [.p (.int .i64 b.c), .p (.str b.v)])), (.ext 3, some (.box [.p (.int .i64 b.c), .p (.str b.v)]))]⟩)
    (fun a r => some (.ex 0, ⟨[(5, .p (.int .i64 (r.foldl (whoStep (fun e => votP e b || accP e b)) a : Nat)))], [(.ext 0, some (.box [.fn 204 [] [.ptr (.ext 2) 0]])), (.ext 1, some (.box [.fn 207 [] [.ptr (.ext 3) 0]])), (.ext 2, some (.box [.p (.int .i64 b.c), .p (.str b.v)])), (.ext 3, some (.box [.p (.int .i64 b.c), .p (.str b.v)]))]⟩)) (fun _ a => a < 1024)
  refine key ?_ ?_ 0 (by decide)
  · intro a _
    rw [loopW_some]
    generalize hK : loopW E 4 _ _ _ = K
    simp -implicitDefEqProofs only [go_sem, s206_3, s206_2, s206_1, List.foldl_nil]
  · intro i a e r hx hnn ha ih
    obtain ⟨f1, f2, f3⟩ := rangeFacts i l.length (by omega) (by omega)
    obtain ⟨n1, n2⟩ := hn e (List.mem_of_getElem? hx)
    have ih' := ih (whoStep (fun e => votP e b || accP e b) a e) (whoStep_lt _ _ _ ha ⟨n1, n2⟩)
    have e1 := e232 (E := E) e b
    have f4 : ¬ e.node < 0 := by omega
    have w := orI_nat a (2 ^ e.node.toNat) (by omega) (Nat.lt_trans (pow_lt e.node.toNat (by omega)) (by decide))
    have w2 : shlI .i64 1 e.node = ((2 ^ e.node.toNat : Nat) : Int) := by
      have := shl1 e.node.toNat (by omega)
      rwa [Int.toNat_of_nonneg n1] at this
    rw [loopW_some]
    generalize hK : loopW E 4 _ _ _ = K at ih' ⊢
    cases hv : (votP e b || accP e b) with
    | true =>
      rw [hv] at e1
      simp only [whoStep, hv, if_true] at ih'
      try dsimp only at ih' ⊢
      unfold Evl.pv at *
      simp -implicitDefEqProofs only [go_sem, s206_3, s206_2, s206_1, hx, f1, f2, f3, e1, f4, w, w2, List.foldl_cons, whoStep, hv, ih']
    | false =>
      rw [hv] at e1
      simp only [whoStep, hv, Bool.false_eq_true, if_false] at ih'
      try dsimp only at ih' ⊢
      unfold Evl.pv at *
      simp -implicitDefEqProofs only [go_sem, s206_3, s206_2, s206_1, hx, f1, f2, f3, e1, f4, w, w2, List.foldl_cons, whoStep, hv, ih']
def seenPv (node : Nat) (ms : List Mem) (l : List Evl) : PV := .agg [.int .i64 node, .sl 4 (ms.map Mem.pv), .sl 15 (l.map Evl.pv)]
theorem e206a (node : Nat) (ms : List Mem) (b : Bal) (l : List Evl) (hl : l.length < 4000) (hn : nodesOk l) :
    callW E 206 [.p (seenPv node ms l), .fn 207 [] [.ptr (.ext 0) 0]] [.box [.p (.int .i64 b.c), .p (.str b.v)]] = some ⟨.p (.int .i64 (who (accP · b) l : Nat)), [.box [.p (.int .i64 b.c), .p (.str b.v)]], []⟩ := by
  have lp := loop206a (E := E) b l hl hn
  unfold seenPv
  rw [callW_eq, EnvS.h 206 F206 rfl]
  simp -implicitDefEqProofs only [go_sem, F206, s206, s206_4, lp]
theorem e206b (node : Nat) (ms : List Mem) (b : Bal) (l : List Evl) (hl : l.length < 4000) (hn : nodesOk l) :
    callW E 206 [.p (seenPv node ms l), .fn 232 [] [.ptr (.ext 0) 0, .ptr (.ext 1) 0]] [.box [.fn 204 [] [.ptr (.ext 2) 0]], .box [.fn 207 [] [.ptr (.ext 3) 0]], .box [.p (.int .i64 b.c), .p (.str b.v)], .box [.p (.int .i64 b.c), .p (.str b.v)]] = some ⟨.p (.int .i64 (who (fun e => votP e b || accP e b) l : Nat)), [.box [.fn 204 [] [.ptr (.ext 2) 0]], .box [.fn 207 [] [.ptr (.ext 3) 0]], .box [.p (.int .i64 b.c), .p (.str b.v)], .box [.p (.int .i64 b.c), .p (.str b.v)]], []⟩ := by
  have lp := loop206b (E := E) b l hl hn
  unfold seenPv
  rw [callW_eq, EnvS.h 206 F206 rfl]
  simp -implicitDefEqProofs only [go_sem, F206, s206, s206_4, lp]
end Go.Ab.S

namespace Go.Ab.S
open Go Go.Ab
variable {E : Env} [EnvS E]

/-! ### Accepts, Confirms of a node -/
def bothP (b : Bal) (e : Evl) : Bool := votP e b || accP e b
theorem e199 (node : Nat) (hnode : node < 10) (ms : List Mem) (hc : ConfOk ms) (b : Bal) (l : List Evl) (hl : l.length < 4000) (hn : nodesOk l) :
    callW E 199 [.p (seenPv node ms l), .fn 204 [] [.ptr (.ext 0) 0], .fn 207 [] [.ptr (.ext 1) 0]] [.box [.p (.int .i64 b.c), .p (.str b.v)], .box [.p (.int .i64 b.c), .p (.str b.v)]] =
    some ⟨.p (.bool (accW ms node (who (bothP b) l) (who (accP · b) l))), [.box [.p (.int .i64 b.c), .p (.str b.v)], .box [.p (.int .i64 b.c), .p (.str b.v)]], []⟩ := by
  have e1 := e206a (E := E) node ms b l hl hn
  have e2 := e206b (E := E) node ms b l hl hn
  rw [show (fun e => votP e b || accP e b) = bothP b from rfl] at e2
  have e3 := e233 (E := E) ms hc node _ _ hnode (who_lt (bothP b) l hn) (who_lt (accP · b) l hn)
  unfold confPv at e3
  unfold seenPv at *
  rw [callW_eq, EnvS.h 199 F199 rfl]
  simp -implicitDefEqProofs only [go_sem, F199, s199, e1, e2, e3]
theorem e130 (node : Nat) (hnode : node < 10) (ms : List Mem) (hc : ConfOk ms) (b : Bal) (l : List Evl) (hl : l.length < 4000) (hn : nodesOk l) :
    callW E 130 [.p (seenPv node ms l), .fn 207 [] [.ptr (.ext 0) 0]] [.box [.p (.int .i64 b.c), .p (.str b.v)]] =
    some ⟨.p (.bool ((great ms (who (accP · b) l)).testBit node)), [.box [.p (.int .i64 b.c), .p (.str b.v)]], []⟩ := by
  have e1 := e206a (E := E) node ms b l hl hn
  have e3 := e205 (E := E) ms hc node _ hnode (who_lt (accP · b) l hn)
  unfold confPv at e3
  unfold seenPv at *
  rw [callW_eq, EnvS.h 130 F130 rfl]
  simp -implicitDefEqProofs only [go_sem, F130, s130, e1, e3]
theorem e129 (node : Nat) (hnode : node < 10) (ms : List Mem) (hc : ConfOk ms) (b : Bal) (l : List Evl) (hl : l.length < 4000) (hn : nodesOk l) :
    callW E 129 [.p (seenPv node ms l), .p (.agg [.int .i64 b.c, .str b.v])] [] =
    some ⟨.p (.bool (accW ms node (who (bothP b) l) (who (accP · b) l))), [], []⟩ := by
  have e1 := e131 (E := E) b
  have e2 := e199 (E := E) node hnode ms hc b l hl hn
  unfold seenPv at *
  rw [callW_eq, EnvS.h 129 F129 rfl]
  simp -implicitDefEqProofs only [go_sem, F129, s129, e1, e2]
theorem e119 (node : Nat) (hnode : node < 10) (t : Tr) (l : List Evl) (ht : t.thin) (hl : l.length < 4000) (hth : ∀ e ∈ l, e.t.thin) :
    callW E 119 [.p (.int .i64 node), .p t.pv, .p (.sl 15 (l.map Evl.pv))] [] = some ⟨.p (seenPv node (viewM node t l) (l.filter validE)), [], []⟩ := by
  have e1 := e53 (E := E) node t l ht (by omega) hth
  have e2 := e202 (E := E) l hl hth
  unfold seenPv
  unfold confPv at e1
  unfold Tr.pv at *
  rw [callW_eq, EnvS.h 119 F119 rfl]
  simp -implicitDefEqProofs only [go_sem, F119, s119, e1, e2]
theorem valid_nodes (l : List Evl) : nodesOk (l.filter validE) := fun e he => validE_node (List.mem_filter.1 he).2
theorem viewM_ok (node : Int) (t : Tr) (l : List Evl) (ht : t.thin) (hth : ∀ e ∈ l, e.t.thin) : ConfOk (viewM node t l) := by
  refine ⟨Nat.le_of_eq (viewM_len node t l), ?_⟩
  have hz : memZ.t.thin := ⟨by decide, by decide, by simp [memZ]⟩
  have key : ∀ (l : List Evl) (ms : List Mem), (∀ e ∈ l, e.t.thin) → (∀ m ∈ ms, m.t.thin) → ∀ m ∈ l.foldl viewS ms, m.t.thin := by
    intro l
    induction l with
    | nil => intro ms _ h; exact h
    | cons e r ih =>
      intro ms h1 h2
      refine ih _ (fun x hx => h1 x (List.mem_cons_of_mem _ hx)) ?_
      unfold viewS
      split
      · intro m hm
        rcases List.mem_or_eq_of_mem_set hm with h | h
        · exact h2 m h
        · rw [h]; exact h1 e List.mem_cons_self
      · exact h2
  unfold viewM
  split
  · intro m hm
    rw [List.eq_of_mem_replicate hm]; exact hz
  · refine key l _ hth ?_
    intro m hm
    rcases List.mem_or_eq_of_mem_set hm with h | h
    · rw [List.eq_of_mem_replicate h]; exact hz
    · rw [h]; exact ht
def acceptW (node : Nat) (t : Tr) (l : List Evl) (b : Bal) : Bool := accW (viewM node t l) node (who (bothP b) (l.filter validE)) (who (accP · b) (l.filter validE))
def confirmW (node : Nat) (t : Tr) (l : List Evl) (b : Bal) : Bool := (great (viewM node t l) (who (accP · b) (l.filter validE))).testBit node
theorem e41 (node : Nat) (hnode : node < 10) (t : Tr) (l : List Evl) (b : Bal) (ht : t.thin) (hl : l.length < 4000) (hth : ∀ e ∈ l, e.t.thin) :
    callW E 41 [.p (.int .i64 node), .p t.pv, .p (.sl 15 (l.map Evl.pv)), .p (.agg [.int .i64 b.c, .str b.v])] [] = some ⟨.p (.bool (acceptW node t l b)), [], []⟩ := by
  have e1 := e119 (E := E) node hnode t l ht hl hth
  have e2 := e129 (E := E) node hnode _ (viewM_ok node t l ht hth) b _ (Nat.lt_of_le_of_lt (List.length_filter_le validE l) hl) (valid_nodes l)
  rw [← acceptW] at e2
  unfold Tr.pv seenPv at *
  rw [callW_eq, EnvS.h 41 F41 rfl]
  simp -implicitDefEqProofs only [go_sem, F41, s41, e1, e2]
theorem e42 (node : Nat) (hnode : node < 10) (t : Tr) (l : List Evl) (b : Bal) (ht : t.thin) (hl : l.length < 4000) (hth : ∀ e ∈ l, e.t.thin) :
    callW E 42 [.p (.int .i64 node), .p t.pv, .p (.sl 15 (l.map Evl.pv)), .p (.agg [.int .i64 b.c, .str b.v])] [] = some ⟨.p (.bool (confirmW node t l b)), [], []⟩ := by
  have e1 := e119 (E := E) node hnode t l ht hl hth
  have e3 := e131 (E := E) b
  have e2 := e130 (E := E) node hnode _ (viewM_ok node t l ht hth) b _ (Nat.lt_of_le_of_lt (List.length_filter_le validE l) hl) (valid_nodes l)
  rw [← confirmW] at e2
  unfold Tr.pv seenPv at *
  rw [callW_eq, EnvS.h 42 F42 rfl]
  simp -implicitDefEqProofs only [go_sem, F42, s42, e1, e2, e3]
end Go.Ab.S

namespace Go.Ab.S
open Go Go.Ab
variable {E : Env} [EnvS E]

/-! ### The trusts that are made are valid -/
theorem tn_mem (l : List Int) : ∀ (k i a : Nat), ∀ x ∈ (tn l k i a).1, (i : Int) ≤ x ∧ x < (i + k : Nat)
  | 0, i, a => by simp [tn]
  | k + 1, i, a => by
    intro x hx
    have ih := tn_mem l k (i + 1) (dA l a 5)
    simp only [tn] at hx
    split at hx
    · simp only [List.mem_cons] at hx
      rcases hx with rfl | hx
      · omega
      · have := ih x hx; omega
    · have := ih x hx; omega
theorem tn_of (l : List Int) : ∀ (k i a acc : Nat), i + k ≤ 10 → acc < 2 ^ i → (ofL acc (tn l k i a).1).2 = 0
  | 0, i, a, acc, h, h2 => by simp [tn, ofL]
  | k + 1, i, a, acc, h, h2 => by
    simp only [tn]
    split
    · have h3 : acc.testBit i = false := Nat.testBit_lt_two_pow h2
      have h4 : acc ||| 2 ^ i < 2 ^ (i + 1) := Nat.or_lt_two_pow (Nat.lt_of_lt_of_le h2 (Nat.pow_le_pow_right (by decide) (by omega))) (Nat.pow_lt_pow_right (by decide) (by omega))
      rw [ofL_cons _ _ _ (by omega) (by simpa using h3)]
      simp only [Int.toNat_natCast]
      exact tn_of l k (i + 1) (dA l a 5) _ (by omega) h4
    · exact tn_of l k (i + 1) (dA l a 5) acc (by omega) (Nat.lt_of_lt_of_le h2 (Nat.pow_le_pow_right (by decide) (by omega)))
/-- Trusts of some of the first n nodes. -/
structure TrG (n : Nat) (t : Tr) : Prop where
  thin : t.thin
  ok : errT t = 0
  nn : 1 ≤ t.ns.length
  ns : ∀ x ∈ t.ns, 0 ≤ x ∧ x < n
  is : ∀ x ∈ t.is, ∃ y : Int, x = ⟨1, [y]⟩ ∧ 0 ≤ y ∧ y < n
theorem any_bad {n : Nat} (hn : n ≤ 10) {l : List Int} (h : ∀ x ∈ l, 0 ≤ x ∧ x < n) : l.any badN = false := by
  rw [List.any_eq_false]
  intro x hx
  have := h x hx
  simp [badN]; omega
theorem ofL_one (y : Int) (h : 0 ≤ y ∧ y < 10) : (ofL 0 [y]).2 = 0 := by
  rw [ofL_cons _ _ _ (by omega) (by simp)]
  rfl
theorem trG_ok (l : List Int) (a n : Nat) (h1 : 1 ≤ n) (h10 : n ≤ 10) : TrG n (trG l a n).1 := by
  have g1 := trR2_len l a n h1
  have g2 := trI_len l a n
  have m1 : ∀ x ∈ (trR2 l a n).1, 0 ≤ x ∧ x < n := by
    intro x hx
    unfold trR2 at hx
    dsimp only at hx
    split at hx
    · simp only [List.mem_cons, List.not_mem_nil, or_false] at hx
      subst hx
      exact ⟨dV_nonneg .., dV_lt _ _ _ (by omega)⟩
    · have := tn_mem l n 0 a x hx
      omega
  have m2 : ∀ x ∈ (trI l a n).1, ∃ y : Int, x = ⟨1, [y]⟩ ∧ 0 ≤ y ∧ y < n := by
    intro x hx
    unfold trI at hx
    dsimp only at hx
    split at hx
    · simp only [List.mem_cons, List.not_mem_nil, or_false] at hx
      subst hx
      exact ⟨_, rfl, dV_nonneg .., dV_lt _ _ _ (by omega)⟩
    · simp at hx
  have o1 : (ofL 0 (trR2 l a n).1).2 = 0 := by
    unfold trR2
    dsimp only
    split
    · exact ofL_one _ ⟨dV_nonneg .., by have := dV_lt l (tn l n 0 a).2 n (by omega); omega⟩
    · exact tn_of l n 0 a 0 (by omega) (by decide)
  have o2 : errIs (trI l a n).1 = 0 := by
    cases hi : (trI l a n).1 with
    | nil => rfl
    | cons x r =>
      have hr : r = [] := by
        rw [hi] at g2
        simp only [List.length_cons] at g2
        exact List.length_eq_zero_iff.1 (by omega)
      subst hr
      obtain ⟨y, rfl, y1, y2⟩ := m2 x (by rw [hi]; exact List.mem_cons_self)
      have : errI ⟨1, [y]⟩ = 0 := by
        unfold errI
        rw [if_neg (by simp), if_neg (by simp [badN]; omega)]
        exact ofL_one y ⟨y1, by omega⟩
      simp [errIs, this]
  have gk : 1 ≤ trK l a n ∧ trK l a n ≤ 11 := by unfold trK; omega
  have th : 1 ≤ (trG l a n).1.th ∧ (trG l a n).1.th ≤ trK l a n := by
    unfold trG
    dsimp only
    split
    · omega
    · unfold trT
      have b1 := dV_nonneg l (trI l a n).2 (trD l a n)
      have b2 := dV_lt l (trI l a n).2 (trD l a n) (by unfold trD; omega)
      unfold trD at *
      omega
  refine ⟨⟨?_, ?_, ?_⟩, ?_, ?_, ?_, ?_⟩
  · show (trR2 l a n).1.length ≤ 12; omega
  · show (trI l a n).1.length ≤ 4; omega
  · intro x hx
    obtain ⟨y, rfl, _⟩ := m2 x hx
    unfold In.thin; simp
  · unfold errT
    rw [if_neg (by unfold trK at th; show ¬ ((trG l a n).1.th < 1 ∨ ((trR2 l a n).1.length : Int) + ((trI l a n).1.length : Int) < (trG l a n).1.th); omega), if_neg (by rw [show (trG l a n).1.ns = (trR2 l a n).1 from rfl, any_bad h10 m1]; simp), if_pos (by exact o1)]
    exact o2
  · exact g1.1
  · exact m1
  · exact m2
end Go.Ab.S

namespace Go.Ab.S
open Go Go.Ab
variable {E : Env} [EnvS E]

def Evl.av (e : Evl) : List AV := [.p (.int .i64 e.node), .p (.int .i64 e.slot), .p (.int .i64 e.seq), .p (.int .i64 e.t.th), .p (.sl 1 (e.t.ns.map (.int .i64))), .p (.sl 3 (e.t.is.map In.pv)), .p (.int .i64 e.k), .p (.int .i64 e.b.c), .p (.str e.b.v), .p (.int .i64 e.p.c), .p (.str e.p.v), .p (.int .i64 e.q.c), .p (.str e.q.v), .p (.int .i64 e.lo), .p (.int .i64 e.hi)]
def av0 : List AV := [.p (.int .i64 0), .p (.int .i64 0), .p (.int .i64 0), .p (.int .i64 0), .nils 1, .nils 3, .p (.int .i64 0), .p (.int .i64 0), .p (.str ByteArray.empty), .p (.int .i64 0), .p (.str ByteArray.empty), .p (.int .i64 0), .p (.str ByteArray.empty), .p (.int .i64 0), .p (.int .i64 0)]
def Bal.zero : Bal := ⟨0, ByteArray.empty⟩
/-- An envelope that only its ranges and ballots can spoil. -/
structure EnvH (e : Evl) : Prop where
  thin : e.t.thin
  head : headE e = true
  k : e.k = 1
  b : finite e.b = true
  p : optional e.p = true
  lo : 0 ≤ e.lo
  hi : e.lo ≤ e.hi
  top : e.hi ≤ e.b.c
theorem validE_end (e : Evl) (h : EnvH { e with lo := 0, hi := 0, q := Bal.zero }) : validE { e with lo := 0, hi := 0, q := Bal.zero } = true := by
  have h1 := h.head
  have h2 := h.k
  have h3 := h.b
  have h4 := h.p
  have h5 := h.top
  have hz : zeroB Bal.zero = true := by decide
  dsimp only at h2 h3 h4 h5
  unfold validE
  rw [h1]
  simp [h2, prepE, primeE, optional, h3, hz]
  constructor
  · simpa [optional] using h4
  · exact h5

theorem chunk76 (l : List Int) (a : Nat) (e : Evl) (h : EnvH e) : ∃ e' : Evl, validE e' = true ∧ e'.node = e.node ∧ e'.slot = e.slot ∧ e'.seq = e.seq ∧ e'.t = e.t ∧ e'.k = e.k ∧ e'.b = e.b ∧ e'.p = e.p ∧
    ∀ T H, tget T 8 = .ptr (.loc 0 0 0) 0 → tget T 9 = .ptr (.loc 1 8 0) 0 → hget H (.ext 0) = some (.box [.p (.sl 1 (l.map (.int .i64))), .p (.int .i64 a)]) → hget H (.loc 0 0 0) = some (.box av0) → hget H (.loc 1 8 0) = some (.box e.av) →
    sexW E 1 (.seq (.seq (.reg 21 [{ dst := some 99, op := .load true 15 (.t 9) }, { dst := some 100, op := .call (.f 82) [.t 99] }, { dst := some 101, op := .un .not (.t 100) }]) (.trim [8, 9] [8] [] [.loc 0 0 0, .loc 1 8 0] (.cond (.t 101) s76_7 .skip))) (.seq (.seq (.reg 23 [{ dst := some 103, op := .load true 15 (.t 9) }, { dst := some 104, op := .call (.f 82) [.t 103] }, { dst := some 105, op := .un .not (.t 104) }]) (.trim [8, 9] [8] [] [.loc 0 0 0, .loc 1 8 0] (.cond (.t 105) s76_8 .skip))) (.seq (.reg 25 [{ dst := some 107, op := .load true 15 (.t 9) }, { dst := some 108, op := .call (.f 82) [.t 107] }, { dst := some 109, op := .un .not (.t 108) }]) (.trim [8, 9] [8] [] [.loc 0 0 0, .loc 1 8 0] (.cond (.t 109) s76_9 .skip))))) ⟨T, H⟩ =
    some (.nrm, ⟨[(8, .ptr (.loc 0 0 0) 0), (9, .ptr (.loc 1 8 0) 0)], [(.ext 0, some (.box [.p (.sl 1 (l.map (.int .i64))), .p (.int .i64 a)])), (.loc 0 0 0, some (.box av0)), (.loc 1 8 0, some (.box e'.av))]⟩) := by
  have v0 := e82 (E := E) e h.thin
  cases c0 : validE e with
  | true =>
    refine ⟨e, c0, rfl, rfl, rfl, rfl, rfl, rfl, rfl, fun T H t8 t9 h0 h1 h2 => ?_⟩
    unfold Evl.pv at v0
    unfold Evl.av av0 at *
    simp -implicitDefEqProofs only [go_sem, s76_7, s76_8, s76_9, t8, t9, h0, h1, h2, v0, c0]
  | false =>
    have v1 := e82 (E := E) { e with lo := 0 } h.thin
    cases c1 : validE { e with lo := 0 } with
    | true =>
      refine ⟨{ e with lo := 0 }, c1, rfl, rfl, rfl, rfl, rfl, rfl, rfl, fun T H t8 t9 h0 h1 h2 => ?_⟩
      unfold Evl.pv at v0 v1
      unfold Evl.av av0 at *
      dsimp only at v1
      simp -implicitDefEqProofs only [go_sem, s76_7, s76_8, s76_9, t8, t9, h0, h1, h2, v0, c0, v1, c1]
    | false =>
      have v2 := e82 (E := E) { e with lo := 0, hi := 0 } h.thin
      cases c2 : validE { e with lo := 0, hi := 0 } with
      | true =>
        refine ⟨{ e with lo := 0, hi := 0 }, c2, rfl, rfl, rfl, rfl, rfl, rfl, rfl, fun T H t8 t9 h0 h1 h2 => ?_⟩
        unfold Evl.pv at v0 v1 v2
        unfold Evl.av av0 at *
        dsimp only at v1 v2
        simp -implicitDefEqProofs only [go_sem, s76_7, s76_8, s76_9, t8, t9, h0, h1, h2, v0, c0, v1, c1, v2, c2]
      | false =>
        have c3 := validE_end e ⟨h.thin, h.head, h.k, h.b, h.p, Int.le_refl 0, Int.le_refl 0, by have := h.lo; have := h.hi; have := h.top; show 0 ≤ e.b.c; omega⟩
        refine ⟨{ e with lo := 0, hi := 0, q := Bal.zero }, c3, rfl, rfl, rfl, rfl, rfl, rfl, rfl, fun T H t8 t9 h0 h1 h2 => ?_⟩
        unfold Evl.pv at v0 v1 v2
        unfold Evl.av av0 at *
        dsimp only at v1 v2
        simp -implicitDefEqProofs only [go_sem, s76_7, s76_8, s76_9, t8, t9, h0, h1, h2, v0, c0, v1, c1, v2, c2, Bal.zero]
/-- An envelope that has its ballots. -/
structure EnvB (e : Evl) : Prop where
  thin : e.t.thin
  head : headE e = true
  k : e.k = 1
  b : finite e.b = true
  p : optional e.p = true
  c1 : 1 ≤ e.b.c
  c7 : e.b.c ≤ 7
theorem chunk76b (l : List Int) (a : Nat) (e : Evl) (h : EnvB e) (hl : l.length ≤ 800) (ha : a ≤ l.length) : ∃ (e' : Evl) (a' : Nat), a' ≤ l.length ∧ validE e' = true ∧ e'.node = e.node ∧ e'.slot = e.slot ∧ e'.seq = e.seq ∧ e'.t = e.t ∧ e'.k = e.k ∧ e'.b = e.b ∧ e'.p = e.p ∧
    ∀ T H, tget T 0 = .ptr (.ext 0) 0 → tget T 8 = .ptr (.loc 0 0 0) 0 → tget T 9 = .ptr (.loc 1 8 0) 0 → hget H (.ext 0) = some (.box [.p (.sl 1 (l.map (.int .i64))), .p (.int .i64 a)]) → hget H (.loc 0 0 0) = some (.box av0) → hget H (.loc 1 8 0) = some (.box e.av) →
    sexW E 1 (.seq (.reg 19 [{ dst := some 86, op := .mv (.t 0) }, { dst := some 87, op := .faddr 7 (.t 9) }, { dst := some 88, op := .faddr 0 (.t 87) }, { dst := some 89, op := .load false 1 (.t 88) }, { dst := some 90, op := .bin .add (.t 89) (.c (.int .i64 (1))) }, { dst := some 91, op := .call (.f 28) [.t 86, .t 90] }, { dst := some 92, op := .faddr 14 (.t 9) }, { dst := none, op := .store 1 (.t 92) (.t 91) }]) (.seq (.reg 20 [{ dst := some 93, op := .mv (.t 0) }, { dst := some 94, op := .faddr 14 (.t 9) }, { dst := some 95, op := .load false 1 (.t 94) }, { dst := some 96, op := .bin .add (.t 95) (.c (.int .i64 (1))) }, { dst := some 97, op := .call (.f 28) [.t 93, .t 96] }, { dst := some 98, op := .faddr 13 (.t 9) }, { dst := none, op := .store 1 (.t 98) (.t 97) }]) (.seq (.seq (.reg 21 [{ dst := some 99, op := .load true 15 (.t 9) }, { dst := some 100, op := .call (.f 82) [.t 99] }, { dst := some 101, op := .un .not (.t 100) }]) (.trim [8, 9] [8] [] [.loc 0 0 0, .loc 1 8 0] (.cond (.t 101) s76_7 .skip))) (.seq (.seq (.reg 23 [{ dst := some 103, op := .load true 15 (.t 9) }, { dst := some 104, op := .call (.f 82) [.t 103] }, { dst := some 105, op := .un .not (.t 104) }]) (.trim [8, 9] [8] [] [.loc 0 0 0, .loc 1 8 0] (.cond (.t 105) s76_8 .skip))) (.seq (.reg 25 [{ dst := some 107, op := .load true 15 (.t 9) }, { dst := some 108, op := .call (.f 82) [.t 107] }, { dst := some 109, op := .un .not (.t 108) }]) (.trim [8, 9] [8] [] [.loc 0 0 0, .loc 1 8 0] (.cond (.t 109) s76_9 .skip))))))) ⟨T, H⟩ =
    some (.nrm, ⟨[(8, .ptr (.loc 0 0 0) 0), (9, .ptr (.loc 1 8 0) 0)], [(.ext 0, some (.box [.p (.sl 1 (l.map (.int .i64))), .p (.int .i64 a')])), (.loc 0 0 0, some (.box av0)), (.loc 1 8 0, some (.box e'.av))]⟩) := by
  have g1 := h.c1
  have g2 := h.c7
  have b1 := dV_nonneg l a (e.b.c + 1)
  have b2 := dV_lt l a (e.b.c + 1) (by omega)
  have b3 := dV_nonneg l (dA l a (e.b.c + 1)) (dV l a (e.b.c + 1) + 1)
  have b4 := dV_lt l (dA l a (e.b.c + 1)) (dV l a (e.b.c + 1) + 1) (by omega)
  have l1 := dA_le l a (e.b.c + 1) ha
  have e1 := e28 (E := E) l a (e.b.c + 1) hl ha (by omega)
  have e2 := e28 (E := E) l (dA l a (e.b.c + 1)) (dV l a (e.b.c + 1) + 1) hl l1 (by omega)
  have w1 : IntKind.i64.wrap (e.b.c + 1) = e.b.c + 1 := wrap64 (by omega) (by omega)
  have w2 : IntKind.i64.wrap (dV l a (e.b.c + 1) + 1) = dV l a (e.b.c + 1) + 1 := wrap64 (by omega) (by omega)
  obtain ⟨e', p1, p2, p3, p4, p5, p6, p7, p8, hc⟩ := chunk76 (E := E) l (dA l (dA l a (e.b.c + 1)) (dV l a (e.b.c + 1) + 1)) { e with hi := dV l a (e.b.c + 1), lo := dV l (dA l a (e.b.c + 1)) (dV l a (e.b.c + 1) + 1) } ⟨h.thin, h.head, h.k, h.b, h.p, b3, Int.lt_add_one_iff.1 b4, by show dV l a (e.b.c + 1) ≤ e.b.c; omega⟩
  refine ⟨e', dA l (dA l a (e.b.c + 1)) (dV l a (e.b.c + 1) + 1), dA_le l _ _ l1, p1, p2, p3, p4, p5, p6, p7, p8, fun T H t0 t8 t9 h0 h1 h2 => ?_⟩
  unfold Evl.av av0 at *
  dsimp only at hc
  simp -implicitDefEqProofs only [go_sem, ↓hc, t0, t8, t9, h0, h1, h2, e1, e2, w1, w2]
theorem valN_cases (k : Int) (h0 : 0 ≤ k) (h4 : k < 4) : valN k = ⟨#[97]⟩ ∨ valN k = ⟨#[98]⟩ ∨ valN k = ⟨#[99]⟩ ∨ valN k = ⟨#[97, 97]⟩ := by
  have : k = 0 ∨ k = 1 ∨ k = 2 ∨ k = 3 := by omega
  rcases this with rfl | rfl | rfl | rfl
  · exact .inl rfl
  · exact .inr (.inl rfl)
  · exact .inr (.inr (.inl rfl))
  · exact .inr (.inr (.inr rfl))
/-- The values that are made. -/
def isVal (v : ByteArray) : Prop := v = ⟨#[97]⟩ ∨ v = ⟨#[98]⟩ ∨ v = ⟨#[99]⟩ ∨ v = ⟨#[97, 97]⟩
theorem isVal_size {v : ByteArray} (h : isVal v) : 1 ≤ (v.size : Int) ∧ (v.size : Int) ≤ 2 := by
  rcases h with rfl | rfl | rfl | rfl <;> decide
theorem isVal_dV (l : List Int) (a : Nat) : isVal (valN (dV l a 4)) := valN_cases _ (dV_nonneg ..) (dV_lt _ _ _ (by decide))
theorem finite_mk {c : Int} {v : ByteArray} (hc : 1 ≤ c) (hc2 : c ≤ 1000) (hv : isVal v) : finite ⟨c, v⟩ = true := by
  have := isVal_size hv
  simp [finite, validB]
  omega
theorem chunk76c (l : List Int) (a : Nat) (e : Evl) (he : headE { e with k := 1 } = true) (hth : e.t.thin) (hv : isVal e.b.v) (hp : e.p = Bal.zero) (hl : l.length ≤ 800) (ha : a ≤ l.length) : ∃ (e' : Evl) (a' : Nat), a' ≤ l.length ∧ validE e' = true ∧ e'.node = e.node ∧ e'.slot = e.slot ∧ e'.seq = e.seq ∧ e'.t = e.t ∧ e'.k = 1 ∧ e'.b.v = e.b.v ∧ 1 ≤ e'.b.c ∧ e'.b.c ≤ 7 ∧
    ∀ T H v0 c0, tget T 0 = .ptr (.ext 0) 0 → tget T 8 = .ptr (.loc 0 0 0) 0 → tget T 9 = .ptr (.loc 1 8 0) 0 → tget T 10 = .p (.str e.b.v) → hget H (.ext 0) = some (.box [.p (.sl 1 (l.map (.int .i64))), .p (.int .i64 a)]) → hget H (.loc 0 0 0) = some (.box av0) → hget H (.loc 1 8 0) = some (.box ({ e with b := ⟨c0, v0⟩ } : Evl).av) →
    sexW E 1 (.seq (.reg 14 [{ dst := some 68, op := .mv (.t 0) }, { dst := some 69, op := .call (.f 31) [.t 68, .c (.int .i64 (1)), .c (.int .i64 (7))] }, { dst := some 70, op := .mv (.t 10) }, { dst := some 71, op := .build [.c (.int .i64 0), .c (.str ByteArray.empty)] [(0, 1, .t 69), (1, 1, .t 70)] }, { dst := some 72, op := .faddr 6 (.t 9) }, { dst := none, op := .store 1 (.t 72) (.c (.int .i64 (1))) }, { dst := some 73, op := .faddr 7 (.t 9) }, { dst := none, op := .store 2 (.t 73) (.t 71) }]) (.seq (.seq (.reg 15 [{ dst := some 74, op := .mv (.t 0) }, { dst := some 75, op := .call (.f 28) [.t 74, .c (.int .i64 (3))] }, { dst := some 76, op := .bin .gtr (.t 75) (.c (.int .i64 (0))) }]) (.trim [0, 8, 9] [8] [] [.loc 0 0 0, .loc 1 8 0] (.cond (.t 76) s76_6 .skip))) (.seq (.reg 19 [{ dst := some 86, op := .mv (.t 0) }, { dst := some 87, op := .faddr 7 (.t 9) }, { dst := some 88, op := .faddr 0 (.t 87) }, { dst := some 89, op := .load false 1 (.t 88) }, { dst := some 90, op := .bin .add (.t 89) (.c (.int .i64 (1))) }, { dst := some 91, op := .call (.f 28) [.t 86, .t 90] }, { dst := some 92, op := .faddr 14 (.t 9) }, { dst := none, op := .store 1 (.t 92) (.t 91) }]) (.seq (.reg 20 [{ dst := some 93, op := .mv (.t 0) }, { dst := some 94, op := .faddr 14 (.t 9) }, { dst := some 95, op := .load false 1 (.t 94) }, { dst := some 96, op := .bin .add (.t 95) (.c (.int .i64 (1))) }, { dst := some 97, op := .call (.f 28) [.t 93, .t 96] }, { dst := some 98, op := .faddr 13 (.t 9) }, { dst := none, op := .store 1 (.t 98) (.t 97) }]) (.seq (.seq (.reg 21 [{ dst := some 99, op := .load true 15 (.t 9) }, { dst := some 100, op := .call (.f 82) [.t 99] }, { dst := some 101, op := .un .not (.t 100) }]) (.trim [8, 9] [8] [] [.loc 0 0 0, .loc 1 8 0] (.cond (.t 101) s76_7 .skip))) (.seq (.seq (.reg 23 [{ dst := some 103, op := .load true 15 (.t 9) }, { dst := some 104, op := .call (.f 82) [.t 103] }, { dst := some 105, op := .un .not (.t 104) }]) (.trim [8, 9] [8] [] [.loc 0 0 0, .loc 1 8 0] (.cond (.t 105) s76_8 .skip))) (.seq (.reg 25 [{ dst := some 107, op := .load true 15 (.t 9) }, { dst := some 108, op := .call (.f 82) [.t 107] }, { dst := some 109, op := .un .not (.t 108) }]) (.trim [8, 9] [8] [] [.loc 0 0 0, .loc 1 8 0] (.cond (.t 109) s76_9 .skip))))))))) ⟨T, H⟩ =
    some (.nrm, ⟨[(8, .ptr (.loc 0 0 0) 0), (9, .ptr (.loc 1 8 0) 0)], [(.ext 0, some (.box [.p (.sl 1 (l.map (.int .i64))), .p (.int .i64 a')])), (.loc 0 0 0, some (.box av0)), (.loc 1 8 0, some (.box e'.av))]⟩) := by
  have e1 := e31 (E := E) l a 1 7 hl ha (by omega) (by omega) (by omega) (by omega)
  simp only [show (7 : Int) - 1 + 1 = 7 from rfl] at e1
  have l1 := dA_le l a 7 ha
  have e2 := e28 (E := E) l (dA l a 7) 3 hl l1 (by omega)
  have l2 := dA_le l _ 3 l1
  have b1 := dV_nonneg l a 7
  have b2 := dV_lt l a 7 (by decide)
  have fb : finite ⟨1 + dV l a 7, e.b.v⟩ = true := finite_mk (by omega) (by omega) hv
  have oz : optional Bal.zero = true := by decide
  generalize hx2 : dA l (dA l a 7) 3 = x2 at *
  by_cases c1 : 0 < dV l (dA l a 7) 3
  · have e3 := e39 (E := E) l x2 hl l2
    have l3 := dA_le l _ 6 l2
    have l4 := dA_le l _ 4 l3
    have fp : optional ⟨1 + dV l x2 6, valN (dV l (dA l x2 6) 4)⟩ = true := by
      have d1 := dV_nonneg l x2 6
      have d2 := dV_lt l x2 6 (by decide)
      have := finite_mk (c := 1 + dV l x2 6) (by omega) (by omega) (isVal_dV l (dA l x2 6))
      simp [finite] at this
      simp [optional, this.1]
    generalize hx4 : dA l (dA l x2 6) 4 = x4 at *
    have e4 := e28 (E := E) l x4 2 hl l4 (by omega)
    have l5 := dA_le l _ 2 l4
    generalize hx5 : dA l x4 2 = x5 at *
    by_cases c2 : dV l x4 2 = 1
    · have e5 := e39 (E := E) l x5 hl l5
      have l6 := dA_le l _ 6 l5
      have l7 := dA_le l _ 4 l6
      obtain ⟨e', a', q0, q1, q2, q3, q4, q5, q6, q7, q8, hc⟩ := chunk76b (E := E) l (dA l (dA l x5 6) 4) { e with k := 1, b := ⟨1 + dV l a 7, e.b.v⟩, p := ⟨1 + dV l x2 6, valN (dV l (dA l x2 6) 4)⟩, q := ⟨1 + dV l x5 6, valN (dV l (dA l x5 6) 4)⟩ } ⟨hth, he, rfl, fb, fp, by show 1 ≤ 1 + dV l a 7; omega, by show 1 + dV l a 7 ≤ 7; omega⟩ hl l7
      refine ⟨e', a', q0, q1, q2, q3, q4, q5, q6, by rw [q7], by rw [q7]; show 1 ≤ 1 + dV l a 7; omega, by rw [q7]; show 1 + dV l a 7 ≤ 7; omega, fun T H v0 c0 t0 t8 t9 t10 h0 h1 h2 => ?_⟩
      unfold Evl.av av0 at *
      dsimp only at hc h2
      simp -implicitDefEqProofs only [go_sem, ↓hc, s76_5, s76_6, t0, t8, t9, t10, h0, h1, h2, e1, e2, e3, e4, e5, c1, c2]
    · obtain ⟨e', a', q0, q1, q2, q3, q4, q5, q6, q7, q8, hc⟩ := chunk76b (E := E) l x5 { e with k := 1, b := ⟨1 + dV l a 7, e.b.v⟩, p := ⟨1 + dV l x2 6, valN (dV l (dA l x2 6) 4)⟩ } ⟨hth, he, rfl, fb, fp, by show 1 ≤ 1 + dV l a 7; omega, by show 1 + dV l a 7 ≤ 7; omega⟩ hl l5
      refine ⟨e', a', q0, q1, q2, q3, q4, q5, q6, by rw [q7], by rw [q7]; show 1 ≤ 1 + dV l a 7; omega, by rw [q7]; show 1 + dV l a 7 ≤ 7; omega, fun T H v0 c0 t0 t8 t9 t10 h0 h1 h2 => ?_⟩
      unfold Evl.av av0 at *
      dsimp only at hc h2
      simp -implicitDefEqProofs only [go_sem, ↓hc, s76_5, s76_6, t0, t8, t9, t10, h0, h1, h2, e1, e2, e3, e4, c1, c2]
  · obtain ⟨e', a', q0, q1, q2, q3, q4, q5, q6, q7, q8, hc⟩ := chunk76b (E := E) l x2 { e with k := 1, b := ⟨1 + dV l a 7, e.b.v⟩ } ⟨hth, he, rfl, fb, by show optional e.p = true; rw [hp]; exact oz, by show 1 ≤ 1 + dV l a 7; omega, by show 1 + dV l a 7 ≤ 7; omega⟩ hl l2
    refine ⟨e', a', q0, q1, q2, q3, q4, q5, q6, by rw [q7], by rw [q7]; show 1 ≤ 1 + dV l a 7; omega, by rw [q7]; show 1 + dV l a 7 ≤ 7; omega, fun T H v0 c0 t0 t8 t9 t10 h0 h1 h2 => ?_⟩
    unfold Evl.av av0 at *
    dsimp only at hc h2
    simp -implicitDefEqProofs only [go_sem, ↓hc, s76_5, s76_6, t0, t8, t9, t10, h0, h1, h2, e1, e2, c1]
end Go.Ab.S
