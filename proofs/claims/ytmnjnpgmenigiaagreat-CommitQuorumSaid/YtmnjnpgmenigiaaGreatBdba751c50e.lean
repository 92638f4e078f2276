/- A part of the proof (an executor, and what it computes). -/
import Derived.Test.YtmnjnpgmenigiaaGreatB0739676eea
import Derived.Sort.AssemblyPlain
set_option linter.all false
namespace Go.Ab.S
open Go Go.Ab
variable {E : Env} [EnvS E]

/-- A member of a configuration. -/
structure Mem where
  d : Bool
  t : Tr
def Mem.pv (m : Mem) : PV := .agg [.bool m.d, .int .i64 m.t.th, .sl 1 (m.t.ns.map (.int .i64)), .sl 3 (m.t.is.map In.pv)]
def memZ : Mem := ⟨false, ⟨0, [], []⟩⟩
def viewS (ms : List Mem) (e : Evl) : List Mem :=
  if validE e = true ∧ (ms[e.node.toNat]?.map Mem.d) = some false then ms.set e.node.toNat ⟨true, e.t⟩ else ms
/-- What a node sees. -/
def viewM (node : Int) (t : Tr) (l : List Evl) : List Mem :=
  if node < 0 ∨ 10 ≤ node then List.replicate 10 memZ else l.foldl viewS ((List.replicate 10 memZ).set node.toNat ⟨true, t⟩)
theorem viewS_len (ms : List Mem) (e : Evl) : (viewS ms e).length = ms.length := by unfold viewS; split <;> simp
theorem validE_node {e : Evl} (h : validE e = true) : 0 ≤ e.node ∧ e.node < 10 := by
  simp only [validE, headE, Bool.and_eq_true, decide_eq_true_eq] at h
  omega

theorem loop53 (l : List Evl) (hl : l.length < 4611686018427387904) (hth : ∀ e ∈ l, e.t.thin) (ms : List Mem) (hms : ms.length = 10) :
    loopW E 0 [6, 7, 26, 27, 28] [.loc 0 1 0, .loc 1 0 0, .loc 1 2 0] (.trim [6, 7, 26, 27, 28] [6] [(0, [6, 7])] [.loc 0 1 0, .loc 1 0 0, .loc 1 2 0] s53_4) (some ⟨[(6, .ptr (.loc 0 1 0) 0), (7, .ptr (.loc 1 2 0) 0), (26, .p (.sl 15 (l.map Evl.pv))), (27, .p (.int .i64 l.length)), (28, .p (.int .i64 0))],
      [(.loc 0 1 0, some (.box [.nils 4])), (.loc 1 0 0, some (.parr (ms.map Mem.pv) 4 false)), (.loc 1 2 0, some (.box [.hsl (.loc 1 0 0) 0 10]))]⟩) =
    some (.ex 0, ⟨[(6, .ptr (.loc 0 1 0) 0), (7, .ptr (.loc 1 2 0) 0)],
      [(.loc 0 1 0, some (.box [.nils 4])), (.loc 1 0 0, some (.parr ((l.foldl viewS ms).map Mem.pv) 4 false)), (.loc 1 2 0, some (.box [.hsl (.loc 1 0 0) 0 10]))]⟩) := by
  generalize hK : loopW E 0 _ _ _ = K
  refine range_loopI K l (fun i (ms : List Mem) => ⟨[(6, .ptr (.loc 0 1 0) 0), (7, .ptr (.loc 1 2 0) 0), (26, .p (.sl 15 (l.map Evl.pv))), (27, .p (.int .i64 l.length)), (28, .p (.int .i64 i))],
      [(.loc 0 1 0, some (.box [.nils 4])), (.loc 1 0 0, some (.parr (ms.map Mem.pv) 4 false)), (.loc 1 2 0, some (.box [.hsl (.loc 1 0 0) 0 10]))]⟩)
    (fun ms r => some (.ex 0, ⟨[(6, .ptr (.loc 0 1 0) 0), (7, .ptr (.loc 1 2 0) 0)],
      [(.loc 0 1 0, some (.box [.nils 4])), (.loc 1 0 0, some (.parr ((r.foldl viewS ms).map Mem.pv) 4 false)), (.loc 1 2 0, some (.box [.hsl (.loc 1 0 0) 0 10]))]⟩)) (fun _ ms => ms.length = 10) ?_ ?_ ms hms
  · intro ms _
    rw [← hK, loopW_some, hK]
    simp -implicitDefEqProofs only [go_sem, s53_4, s53_3, s53_2, List.foldl_nil]
  · intro i ms e r hx hn hm10 ih
    obtain ⟨f1, f2, f3⟩ := rangeFacts i l.length (by omega) hl
    have ht := hth e (List.mem_of_getElem? hx)
    have e1 := e81 (E := E) e ht
    have e2 := e138 (E := E) e.t ht
    have ih' := ih (viewS ms e) (by rw [viewS_len]; exact hm10)
    try dsimp only at ih' ⊢
    rw [← hK, loopW_some, hK]
    unfold Evl.pv at e1
    unfold Tr.pv at e2
    cases hv : validE e with
    | false =>
      have hs : viewS ms e = ms := by unfold viewS; simp [hv]
      rw [hs] at ih'
      rw [hv] at e1
      simp -implicitDefEqProofs only [go_sem, s53_4, s53_3, s53_2, hx, f1, f2, f3, Evl.pv, e1, ih', List.foldl_cons, hs]
    | true =>
      rw [hv] at e1
      obtain ⟨n0, n1⟩ := validE_node hv
      obtain ⟨k, hk⟩ : ∃ k : Nat, e.node = k := ⟨e.node.toNat, by omega⟩
      have hk10 : k < 10 := by omega
      have hkm : k < ms.length := by omega
      have hg : ms[k]? = some ms[k] := by simp [hkm]
      have hkn : e.node.toNat = k := by omega
      have hm10' : (ms.map Mem.pv).length = 10 := by simp [hm10]
      have h10 : 0 + 10 ≤ ms.length := by omega
      cases hd : ms[k].d with
      | true =>
        have hs : viewS ms e = ms := by unfold viewS; simp [hkn, hg, hd]
        rw [hs] at ih'
        simp -implicitDefEqProofs only [go_sem, s53_4, s53_3, s53_2, hx, f1, f2, f3, Evl.pv, e1, ih', List.foldl_cons, hs, n0, hkn, hk10, hg, Mem.pv, hd, hm10, h10]
      | false =>
        have hs : viewS ms e = ms.set k ⟨true, e.t⟩ := by unfold viewS; simp [hkn, hg, hd, hv]
        rw [hs] at ih'
        simp -implicitDefEqProofs only [go_sem, s53_4, s53_3, s53_2, hx, f1, f2, f3, Evl.pv, e1, e2, List.foldl_cons, hs, n0, hkn, hk10, hg, Mem.pv, hd, hm10, h10, setE]
        rw [List.map_set] at ih'
        exact ih'
def confPv (ms : List Mem) : PV := .agg [.sl 4 (ms.map Mem.pv)]
theorem viewM_len (node : Int) (t : Tr) (l : List Evl) : (viewM node t l).length = 10 := by
  have key : ∀ (l : List Evl) (ms : List Mem), (l.foldl viewS ms).length = ms.length := by
    intro l
    induction l with
    | nil => intro ms; rfl
    | cons e r ih => intro ms; rw [List.foldl_cons, ih, viewS_len]
  unfold viewM
  split
  · simp
  · rw [key]; simp
theorem mkMem : (List.replicate 10 (PV.agg [.bool false, .int .i64 0, .sl 1 [], .sl 3 []])) = (List.replicate 10 memZ).map Mem.pv := rfl
theorem e53 (node : Int) (t : Tr) (l : List Evl) (ht : t.thin) (hl : l.length < 4611686018427387904) (hth : ∀ e ∈ l, e.t.thin) :
    callW E 53 [.p (.int .i64 node), .p t.pv, .p (.sl 15 (l.map Evl.pv))] [] = some ⟨.p (confPv (viewM node t l)), [], []⟩ := by
  have hlen := viewM_len node t l
  have htk : List.take 10 ((viewM node t l).map Mem.pv) = (viewM node t l).map Mem.pv := List.take_of_length_le (by simp [hlen])
  rw [callW_eq, EnvS.h 53 F53 rfl]
  have e1 := e138 (E := E) t ht
  unfold Tr.pv at *
  unfold confPv
  have h10 : (10 : Int) ≤ ((most : Nat) : Int) := by decide
  by_cases c : node < 0 ∨ 10 ≤ node
  · have hv : viewM node t l = List.replicate 10 memZ := by unfold viewM; rw [if_pos c]
    rw [hv] at htk ⊢
    rcases c with c | c
    · simp -implicitDefEqProofs only [go_sem, F53, s53, s53_1, s53_5, c, h10, mkMem, Nat.sub_zero, List.length_replicate, htk]
    · have c' : ¬ node < 0 := by omega
      simp -implicitDefEqProofs only [go_sem, F53, s53, s53_1, s53_5, c, c', h10, mkMem, Nat.sub_zero, List.length_replicate, htk]
  · obtain ⟨k, rfl⟩ : ∃ k : Nat, node = k := ⟨node.toNat, by omega⟩
    have c1 : ¬ (k : Int) < 0 := by omega
    have c2 : ¬ (10 : Int) ≤ k := by omega
    have c3 : (0 : Int) ≤ k := by omega
    have c4 : k < 10 := by omega
    have lp := loop53 (E := E) l hl hth ((List.replicate 10 memZ).set k ⟨true, t⟩) (by simp)
    have hv : viewM k t l = l.foldl viewS ((List.replicate 10 memZ).set k ⟨true, t⟩) := by unfold viewM; rw [if_neg c]; rfl
    rw [← hv] at lp
    rw [List.map_set] at lp
    have hg : ((List.replicate 10 memZ).map Mem.pv)[k]? = some (Mem.pv memZ) := by rw [List.getElem?_map, List.getElem?_replicate, if_pos c4]; rfl
    have hmz : Mem.pv memZ = .agg [.bool false, .int .i64 0, .sl 1 [], .sl 3 []] := rfl
    rw [hmz] at hg
    rw [show Mem.pv ⟨true, t⟩ = .agg [.bool true, .int .i64 t.th, .sl 1 (t.ns.map (.int .i64)), .sl 3 (t.is.map In.pv)] from rfl] at lp
    simp -implicitDefEqProofs only [go_sem, F53, s53, s53_1, s53_5, c1, c2, c3, c4, h10, mkMem, Nat.sub_zero, List.length_replicate, e1, hg, setE, lp, hlen, htk]
end Go.Ab.S

namespace Go.Ab.S
open Go Go.Ab
variable {E : Env} [EnvS E]

/-! ### Who is declared -/
def declN : Nat → Nat → List Mem → Nat
  | _, acc, [] => acc
  | i, acc, m :: r => declN (i + 1) (if m.d = true ∧ i < 10 then acc ||| 2 ^ i else acc) r
theorem declN_lt : ∀ (ms : List Mem) (i acc : Nat), acc < 1024 → declN i acc ms < 1024
  | [], i, acc, h => h
  | m :: r, i, acc, h => by
    simp only [declN]
    apply declN_lt
    split
    · exact or_lt _ _ h (by rename_i h; exact h.2)
    · exact h
def decl (ms : List Mem) : Nat := declN 0 0 ms
theorem decl_lt (ms : List Mem) : decl ms < 1024 := declN_lt ms 0 0 (by decide)
theorem declN_bit : ∀ (ms : List Mem) (i acc k : Nat), (declN i acc ms).testBit k = (acc.testBit k || (decide (i ≤ k) && decide (k < 10) && ((ms[k - i]?.map Mem.d) == some true)))
  | [], i, acc, k => by simp [declN]
  | m :: r, i, acc, k => by
    simp only [declN]
    rw [declN_bit r (i + 1)]
    by_cases h : i = k
    · subst h
      have h1 : ¬ (i + 1 ≤ i) := by omega
      simp only [h1, decide_false, Bool.false_and, Bool.or_false, Nat.le_refl, decide_true, Bool.true_and, Nat.sub_self, List.getElem?_cons_zero, Option.map_some]
      by_cases h2 : i < 10
      · cases hd : m.d <;> simp [h2, Nat.testBit_or, Nat.testBit_two_pow]
      · simp [h2]
    · have hk : (if m.d = true ∧ i < 10 then acc ||| 2 ^ i else acc).testBit k = acc.testBit k := by
        split
        · rw [Nat.testBit_or, Nat.testBit_two_pow]; simp [h]
        · rfl
      rw [hk]
      by_cases h2 : i ≤ k
      · have h3 : i + 1 ≤ k := by omega
        have h4 : k - i = (k - (i + 1)) + 1 := by omega
        rw [h4, List.getElem?_cons_succ]
        simp [h2, h3]
      · have h3 : ¬ i + 1 ≤ k := by omega
        simp [h2, h3]
theorem decl_bit (ms : List Mem) (k : Nat) : (decl ms).testBit k = (decide (k < 10) && ((ms[k]?.map Mem.d) == some true)) := by
  unfold decl
  rw [declN_bit]
  simp

theorem loop309 (ms : List Mem) (hl : ms.length ≤ 1000) :
    loopW E 0 [3, 7, 8, 9] [] (.trim [3, 7, 8, 9] [2] [(0, [3])] [] s309_3) (some ⟨[(3, .p (.int .i64 0)), (7, .p (.sl 4 (ms.map Mem.pv))), (8, .p (.int .i64 ms.length)), (9, .p (.int .i64 0))], []⟩) = some (.ex 0, ⟨[(3, .p (.int .i64 (decl ms : Nat)))], []⟩) := by
  have key := range_loopI (loopW E 0 [3, 7, 8, 9] [] (.trim [3, 7, 8, 9] [2] [(0, [3])] [] s309_3)) ms
    (fun i (a : Nat) => ⟨[(3, .p (.int .i64 a)), (7, .p (.sl 4 (ms.map Mem.pv))), (8, .p (.int .i64 ms.length)), (9, .p (.int .i64 i))], []⟩)
    (fun a r => some (.ex 0, ⟨[(3, .p (.int .i64 (declN (ms.length - r.length) a r : Nat)))], []⟩)) (fun _ a => a < 1024)
  refine (key ?_ ?_ 0 (by decide)).trans (by simp only [Nat.sub_self]; rfl)
  · intro a _
    rw [loopW_some]
    generalize hK : loopW E 0 _ _ _ = K
    simp -implicitDefEqProofs only [go_sem, s309_3, s309_2, s309_1, declN]
  · intro i a m r hx hn hI ih
    obtain ⟨f1, f2, f3⟩ := rangeFacts i ms.length (by omega) (by omega)
    have hi : ms.length - (r.length + 1) = i := by omega
    have hi2 : ms.length - r.length = i + 1 := by omega
    rw [loopW_some]
    generalize hK : loopW E 0 _ _ _ = K at ih ⊢
    by_cases h10 : i < 10
    · have h10' : (i : Int) < 10 := by omega
      have f4 : ¬ (i : Int) < 0 := by omega
      have w := orI_nat a (2 ^ i) (by omega) (Nat.lt_trans (pow_lt i h10) (by decide))
      cases hd : m.d with
      | true =>
        have ih' := ih (a ||| 2 ^ i) (or_lt _ _ hI h10)
        try dsimp only at ih' ⊢
        rw [hi2] at ih'
        simp -implicitDefEqProofs only [go_sem, s309_3, s309_2, s309_1, hx, f1, f2, f3, Mem.pv, hd, h10, h10', shl1 i (by omega), w, ih', declN, hi, f4]
      | false =>
        have ih' := ih a hI
        try dsimp only at ih' ⊢
        rw [hi2] at ih'
        simp -implicitDefEqProofs only [go_sem, s309_3, s309_2, s309_1, hx, f1, f2, f3, Mem.pv, hd, h10, h10', ih', declN, hi]
    · have h10' : ¬ (i : Int) < 10 := by omega
      have ih' := ih a hI
      try dsimp only at ih' ⊢
      rw [hi2] at ih'
      cases hd : m.d <;> simp -implicitDefEqProofs only [go_sem, s309_3, s309_2, s309_1, hx, f1, f2, f3, Mem.pv, hd, h10, h10', ih', declN, hi]
theorem e309 (ms : List Mem) (hl : ms.length ≤ 1000) : callW E 309 [.p (confPv ms)] [] = some ⟨.p (.int .i64 (decl ms : Nat)), [], []⟩ := by
  have lp := loop309 (E := E) ms hl
  rw [callW_eq, EnvS.h 309 F309 rfl]
  unfold confPv
  simp -implicitDefEqProofs only [go_sem, F309, s309, s309_4, lp]

/-! ### The nodes of a set -/
def nodesL (s : Nat) : Nat → Nat → List Nat
  | 0, _ => []
  | k + 1, i => if s.testBit i = true then i :: nodesL s k (i + 1) else nodesL s k (i + 1)
def nodes (s : Nat) : List Nat := nodesL s 10 0
theorem nodesL_mem (s : Nat) : ∀ (k i x : Nat), x ∈ nodesL s k i ↔ (i ≤ x ∧ x < i + k ∧ s.testBit x = true)
  | 0, i, x => by simp [nodesL]; omega
  | k + 1, i, x => by
    simp only [nodesL]
    split
    · rename_i h
      rw [List.mem_cons, nodesL_mem s k (i + 1)]
      constructor
      · rintro (rfl | ⟨h1, h2, h3⟩)
        · exact ⟨Nat.le_refl _, by omega, h⟩
        · exact ⟨by omega, by omega, h3⟩
      · rintro ⟨h1, h2, h3⟩
        by_cases hx : x = i
        · exact .inl hx
        · exact .inr ⟨by omega, by omega, h3⟩
    · rename_i h
      rw [nodesL_mem s k (i + 1)]
      constructor
      · rintro ⟨h1, h2, h3⟩; exact ⟨by omega, by omega, h3⟩
      · rintro ⟨h1, h2, h3⟩
        by_cases hx : x = i
        · subst hx; exact absurd h3 h
        · exact ⟨by omega, by omega, h3⟩
theorem nodes_mem (s x : Nat) : x ∈ nodes s ↔ (x < 10 ∧ s.testBit x = true) := by
  unfold nodes
  rw [nodesL_mem]
  constructor
  · rintro ⟨_, h1, h2⟩; exact ⟨by omega, h2⟩
  · rintro ⟨h1, h2⟩; exact ⟨by omega, by omega, h2⟩
theorem nodesL_len (s : Nat) : ∀ (k i : Nat), (nodesL s k i).length ≤ k
  | 0, i => Nat.le_refl _
  | k + 1, i => by
    have := nodesL_len s k (i + 1)
    simp only [nodesL]
    split
    · simp only [List.length_cons]; omega
    · omega
def intN (k : Nat) : PV := .int .i64 k
theorem hasN_nat (s k : Nat) (h : k < 10) : hasN s (k : Int) = s.testBit k := by
  have h1 : (0 : Int) ≤ k := by omega
  have h2 : (k : Int) < 10 := by omega
  simp [hasN, h1, h2]

theorem loop320 (s : Nat) (hs : s < 1024) : ∀ (k i : Nat) (ns : List Nat), k + i = 10 → ns.length ≤ i →
    loopW E 0 [0, 3, 5] [.loc 1 0 0] (.trim [0, 3, 5] [2] [(0, [3])] [.loc 1 0 0] s320_3) (some ⟨[(0, .p (.int .i64 s)), (3, .hsl (.loc 1 0 0) 0 ns.length), (5, .p (.int .i64 i))], [(.loc 1 0 0, some (.parr (ns.map intN) 1 false))]⟩) =
    some (.ex 0, ⟨[(3, .hsl (.loc 1 0 0) 0 (ns ++ nodesL s k i).length)], [(.loc 1 0 0, some (.parr ((ns ++ nodesL s k i).map intN) 1 false))]⟩) := by
  generalize hK : loopW E 0 _ _ _ = K
  intro k
  induction k with
  | zero =>
    intro i ns hk hns
    have hlt : ¬ (i : Int) < 10 := by omega
    rw [← hK, loopW_some, hK]
    simp -implicitDefEqProofs only [go_sem, s320_3, s320_2, s320_1, hlt, nodesL]
  | succ k ih =>
    intro i ns hk hns
    have hlt : (i : Int) < 10 := by omega
    have e := e235 (E := E) s (i : Int) hs
    rw [hasN_nat s i (by omega)] at e
    have hw : IntKind.i64.wrap ((i : Int) + 1) = ((i + 1 : Nat) : Int) := by rw [wrap64 (by omega) (by omega)]; omega
    rw [← hK, loopW_some, hK]
    cases h : s.testBit i with
    | true =>
      have hm : ns.length + 1 ≤ most := by unfold most; omega
      have ih' := ih (i + 1) (ns ++ [i]) (by omega) (by simp; omega)
      simp only [List.map_append, List.map_cons, List.map_nil, List.length_append, List.length_cons, List.length_nil, Nat.zero_add, List.append_assoc, List.singleton_append] at ih'
      rw [h] at e
      rw [show intN i = .int .i64 (i : Int) from rfl] at ih'
      simp -implicitDefEqProofs only [go_sem, s320_3, s320_2, s320_1, hlt, e, hw, h, hm, nodesL, List.map_append, List.append_assoc, List.singleton_append, List.length_append]
      exact ih'
    | false =>
      have ih' := ih (i + 1) ns (by omega) (by omega)
      rw [h] at e
      simp -implicitDefEqProofs only [go_sem, s320_3, s320_2, s320_1, hlt, e, hw, h, nodesL, ih']
theorem e320 (s : Nat) (hs : s < 1024) : callW E 320 [.p (.int .i64 s)] [] = some ⟨.p (.sl 1 ((nodes s).map intN)), [], []⟩ := by
  have lp := loop320 (E := E) s hs 10 0 [] rfl (Nat.le_refl 0)
  simp only [List.nil_append, List.map_nil, List.length_nil, Int.natCast_zero] at lp
  rw [← nodes] at lp
  rw [callW_eq, EnvS.h 320 F320 rfl]
  simp -implicitDefEqProofs only [go_sem, F320, s320, s320_4, lp]

end Go.Ab.S

namespace Go.Ab.S
open Go Go.Ab
variable {E : Env} [EnvS E]

/-! ### Taking nodes out of sets -/
theorem dec_sub : ((List.range 1024).all fun s => (List.range 10).all fun k => !s.testBit k || (s - 2 ^ k == s ^^^ 2 ^ k)) = true := by decide +kernel
theorem dec_andNot : ((List.range 1024).all fun s => (List.range 10).all fun k => !s.testBit k || (andNotI .i64 (s : Int) ((2 ^ k : Nat) : Int) == ((s ^^^ 2 ^ k : Nat) : Int))) = true := by decide +kernel
theorem dec_comp : ((List.range 1024).all fun s => (andNotI .i64 1023 (s : Int) == ((1023 ^^^ s : Nat) : Int)) && (1023 - s == 1023 ^^^ s)) = true := by decide +kernel
theorem sub_xor {s k : Nat} (hs : s < 1024) (hk : k < 10) (h : s.testBit k = true) : s - 2 ^ k = s ^^^ 2 ^ k := by
  have := List.all_eq_true.1 (List.all_eq_true.1 dec_sub s (List.mem_range.2 hs)) k (List.mem_range.2 hk)
  simpa [h] using this
theorem andNot_xor {s k : Nat} (hs : s < 1024) (hk : k < 10) (h : s.testBit k = true) : andNotI .i64 (s : Int) ((2 ^ k : Nat) : Int) = ((s ^^^ 2 ^ k : Nat) : Int) := by
  have := List.all_eq_true.1 (List.all_eq_true.1 dec_andNot s (List.mem_range.2 hs)) k (List.mem_range.2 hk)
  simp only [h, Bool.not_true, Bool.false_or, beq_iff_eq] at this
  exact this
theorem comp_xor {s : Nat} (hs : s < 1024) : andNotI .i64 1023 (s : Int) = ((1023 ^^^ s : Nat) : Int) ∧ 1023 - s = 1023 ^^^ s := by
  have := List.all_eq_true.1 dec_comp s (List.mem_range.2 hs)
  simp only [Bool.and_eq_true, beq_iff_eq] at this
  exact this
theorem xor_lt {s k : Nat} (hs : s < 1024) (hk : k < 10) (h : s.testBit k = true) : s ^^^ 2 ^ k < s := by
  rw [← sub_xor hs hk h]
  have h1 := Nat.ge_two_pow_of_testBit h
  have h2 : 0 < 2 ^ k := Nat.two_pow_pos k
  omega
theorem xor_bit {s k j : Nat} (h : s.testBit k = true) : (s ^^^ 2 ^ k).testBit j = (s.testBit j && !decide (j = k)) := by
  rw [Nat.testBit_xor, Nat.testBit_two_pow]
  by_cases hj : j = k
  · subst hj; simp [h]
  · simp [hj, Ne.symm hj]

/-- Is a member content with a set? -/
def contM (ms : List Mem) (s k : Nat) : Bool := match ms[k]? with
  | some m => satT s m.t
  | none => true
def unhL (ms : List Mem) (s : Nat) : List Nat → Option Nat
  | [] => none
  | k :: r => if contM ms s k = true then unhL ms s r else some k
def elim (ms : List Mem) : Nat → Nat → List Nat × Nat
  | 0, s => ([], s)
  | f + 1, s => match unhL ms s (nodes s) with
    | none => ([], s)
    | some k => (k :: (elim ms f (s ^^^ 2 ^ k)).1, (elim ms f (s ^^^ 2 ^ k)).2)
/-- Configurations of small trusts; sets of their members. -/
structure ConfOk (ms : List Mem) : Prop where
  len : ms.length ≤ 10
  thin : ∀ m ∈ ms, m.t.thin
def subM (ms : List Mem) (s : Nat) : Prop := s < 1024 ∧ ∀ k, s.testBit k = true → k < ms.length
theorem subM_decl (ms : List Mem) (s : Nat) : subM ms (s &&& decl ms) := by
  refine ⟨Nat.lt_of_le_of_lt Nat.and_le_right (decl_lt ms), fun k hk => ?_⟩
  rw [Nat.testBit_and, decl_bit] at hk
  simp only [Bool.and_eq_true] at hk
  cases h : ms[k]? with
  | none => rw [h] at hk; simp at hk
  | some m => exact (List.getElem?_eq_some_iff.1 h).1
theorem unhL_some {ms : List Mem} {s : Nat} : ∀ {l : List Nat} {k : Nat}, unhL ms s l = some k → k ∈ l ∧ contM ms s k = false
  | [], k, h => by simp [unhL] at h
  | x :: r, k, h => by
    simp only [unhL] at h
    split at h
    · obtain ⟨h1, h2⟩ := unhL_some h; exact ⟨List.mem_cons_of_mem _ h1, h2⟩
    · rename_i hx
      cases h
      exact ⟨List.mem_cons_self, by simpa using hx⟩
theorem unhL_none {ms : List Mem} {s : Nat} : ∀ {l : List Nat}, unhL ms s l = none → ∀ k ∈ l, contM ms s k = true
  | [], _, k, hk => by cases hk
  | x :: r, h, k, hk => by
    simp only [unhL] at h
    split at h
    · rename_i hx
      rcases List.mem_cons.1 hk with rfl | hk
      · exact hx
      · exact unhL_none h k hk
    · cases h

theorem e321 (ms : List Mem) (k s : Nat) (m : Mem) (hm : ms[k]? = some m) (ht : m.t.thin) (hs : s < 1024) : callW E 321 [.p (confPv ms), .p (.int .i64 k), .p (.int .i64 s)] [] = some ⟨.p (.bool (satT s m.t)), [], []⟩ := by
  have e := e310 (E := E) s hs m.t ht
  have h0 : (0 : Int) ≤ k := by omega
  unfold Tr.pv at e
  rw [callW_eq, EnvS.h 321 F321 rfl]
  unfold confPv
  simp -implicitDefEqProofs only [go_sem, F321, s321, hm, h0, Mem.pv, e]
theorem loop311 (ms : List Mem) (hc : ConfOk ms) (s : Nat) (hs : subM ms s) (ns : List Nat) (hns : ∀ k ∈ ns, s.testBit k = true) (hl : ns.length ≤ 10) :
    loopW E 0 [1, 2, 9, 10, 11] [.loc 0 0 0] (.trim [1, 2, 9, 10, 11] [4, 5] [(0, [])] [.loc 0 0 0] s311_3) (some ⟨[(1, .p (.int .i64 s)), (2, .ptr (.loc 0 0 0) 0), (9, .p (.sl 1 (ns.map intN))), (10, .p (.int .i64 ns.length)), (11, .p (.int .i64 0))], [(.loc 0 0 0, some (.box [.p (.sl 4 (ms.map Mem.pv))]))]⟩) =
    (match unhL ms s ns with
      | none => some (.ex 0, ⟨[], [(.loc 0 0 0, some (.box [.p (.sl 4 (ms.map Mem.pv))]))]⟩)
      | some k => some (.ret, ⟨[(4, .p (.int .i64 k)), (5, .p (.bool true))], [(.loc 0 0 0, some (.box [.p (.sl 4 (ms.map Mem.pv))]))]⟩)) := by
  have key := range_loopI (loopW E 0 [1, 2, 9, 10, 11] [.loc 0 0 0] (.trim [1, 2, 9, 10, 11] [4, 5] [(0, [])] [.loc 0 0 0] s311_3)) ns
    (fun i (_ : Unit) => ⟨[(1, .p (.int .i64 s)), (2, .ptr (.loc 0 0 0) 0), (9, .p (.sl 1 (ns.map intN))), (10, .p (.int .i64 ns.length)), (11, .p (.int .i64 i))], [(.loc 0 0 0, some (.box [.p (.sl 4 (ms.map Mem.pv))]))]⟩)
    (fun _ r => match unhL ms s r with
      | none => some (.ex 0, ⟨[], [(.loc 0 0 0, some (.box [.p (.sl 4 (ms.map Mem.pv))]))]⟩)
      | some k => some (.ret, ⟨[(4, .p (.int .i64 k)), (5, .p (.bool true))], [(.loc 0 0 0, some (.box [.p (.sl 4 (ms.map Mem.pv))]))]⟩)) (fun _ _ => True)
  refine key ?_ ?_ () trivial
  · intro _ _
    rw [loopW_some]
    generalize hK : loopW E 0 _ _ _ = K
    simp -implicitDefEqProofs only [go_sem, s311_3, s311_2, s311_1, unhL]
  · intro i _ x r hx hn _ ih
    obtain ⟨f1, f2, f3⟩ := rangeFacts i ns.length (by omega) (by omega)
    have hxl := hs.2 x (hns x (List.mem_of_getElem? hx))
    have hm : ms[x]? = some ms[x] := by simp [hxl]
    have e := e321 (E := E) ms x s ms[x] hm (hc.thin _ (List.getElem_mem ..)) hs.1
    have hcm : contM ms s x = satT s ms[x].t := by simp [contM, hm]
    have ih' := ih () trivial
    unfold confPv at e
    rw [loopW_some]
    generalize hK : loopW E 0 _ _ _ = K at ih' ⊢
    cases hh : satT s ms[x].t with
    | true =>
      rw [hh] at e hcm
      try dsimp only at ih' ⊢
      simp -implicitDefEqProofs only [go_sem, s311_3, s311_2, s311_1, hx, intN, f1, f2, f3, e, ih', unhL, hcm]
    | false =>
      rw [hh] at e hcm
      try dsimp only
      simp -implicitDefEqProofs only [go_sem, s311_3, s311_2, s311_1, hx, intN, f1, f2, f3, e, unhL, hcm]
theorem e311 (ms : List Mem) (hc : ConfOk ms) (s : Nat) (hs : subM ms s) : callW E 311 [.p (confPv ms), .p (.int .i64 s)] [] =
    some ⟨.tup (match unhL ms s (nodes s) with | none => [.p (.int .i64 0), .p (.bool false)] | some k => [.p (.int .i64 k), .p (.bool true)]), [], []⟩ := by
  have lp := loop311 (E := E) ms hc s hs (nodes s) (fun k hk => ((nodes_mem s k).1 hk).2) (nodesL_len s 10 0)
  have e := e320 (E := E) s hs.1
  rw [callW_eq, EnvS.h 311 F311 rfl]
  unfold confPv
  cases hu : unhL ms s (nodes s) with
  | none =>
    rw [hu] at lp
    simp -implicitDefEqProofs only [go_sem, F311, s311, s311_4, e, lp]
  | some k =>
    rw [hu] at lp
    simp -implicitDefEqProofs only [go_sem, F311, s311, s311_4, e, lp]
theorem subM_xor {ms : List Mem} {s k : Nat} (h : subM ms s) (hk : k < 10) (hb : s.testBit k = true) : subM ms (s ^^^ 2 ^ k) :=
  ⟨Nat.lt_trans (xor_lt h.1 hk hb) h.1, fun j hj => h.2 j (by rw [xor_bit hb] at hj; simp only [Bool.and_eq_true] at hj; exact hj.1)⟩
theorem loop282 (ms : List Mem) (hc : ConfOk ms) : ∀ (f s : Nat) (out : List Nat), s < f → subM ms s → out.length + s ≤ 5000 →
    loopW E 0 [1, 2, 6] [.loc 0 0 0, .loc 3 0 0] (.trim [1, 2, 6] [4, 5] [] [.loc 0 0 0, .loc 3 0 0] s282_4) (some ⟨[(1, .p (.int .i64 s)), (2, .ptr (.loc 0 0 0) 0), (6, .hsl (.loc 3 0 0) 0 out.length)], [(.loc 0 0 0, some (.box [.p (.sl 4 (ms.map Mem.pv))])), (.loc 3 0 0, some (.parr (out.map intN) 1 false))]⟩) =
    some (.ret, ⟨[(4, .p (.int .i64 ((elim ms f s).2 : Nat))), (5, .hsl (.loc 3 0 0) 0 (out ++ (elim ms f s).1).length)], [(.loc 0 0 0, some (.box [.p (.sl 4 (ms.map Mem.pv))])), (.loc 3 0 0, some (.parr ((out ++ (elim ms f s).1).map intN) 1 false))]⟩) := by
  generalize hK : loopW E 0 _ _ _ = K
  intro f
  induction f with
  | zero => intro s out h; omega
  | succ f ih =>
    intro s out hf hs ho
    have e := e311 (E := E) ms hc s hs
    unfold confPv at e
    rw [← hK, loopW_some, hK]
    cases hu : unhL ms s (nodes s) with
    | none =>
      rw [hu] at e
      simp -implicitDefEqProofs only [go_sem, s282_4, s282_3, s282_2, e, elim, hu]
    | some k =>
      rw [hu] at e
      obtain ⟨h1, h2⟩ := unhL_some hu
      obtain ⟨h3, h4⟩ := (nodes_mem s k).1 h1
      have hlt := xor_lt hs.1 h3 h4
      have ih' := ih (s ^^^ 2 ^ k) (out ++ [k]) (by omega) (subM_xor hs h3 h4) (by simp; omega)
      have hm : out.length + 1 ≤ most := by unfold most; omega
      have f4 : ¬ (k : Int) < 0 := by omega
      simp only [List.map_append, List.map_cons, List.map_nil, List.length_append, List.length_cons, List.length_nil, Nat.zero_add, List.append_assoc, List.singleton_append] at ih'
      rw [show intN k = .int .i64 (k : Int) from rfl] at ih'
      have hs9 := hs.1
      simp -implicitDefEqProofs only [go_sem, s282_4, s282_3, s282_2, e, elim, hu, hm, f4, shl1 k (by omega), andNot_xor hs9 h3 h4, List.map_append, List.append_assoc, List.singleton_append, List.length_append]
      exact ih'
def elimS (ms : List Mem) (s : Nat) : List Nat × Nat := elim ms 1024 (s &&& decl ms)
/-- The greatest quorum in a set. -/
def great (ms : List Mem) (s : Nat) : Nat := (elimS ms s).2
theorem e282 (ms : List Mem) (hc : ConfOk ms) (s : Nat) (hs : s < 1024) : callW E 282 [.p (confPv ms), .p (.int .i64 s)] [] = some ⟨.tup [.p (.int .i64 (great ms s : Nat)), .p (.sl 1 ((elimS ms s).1.map intN))], [], []⟩ := by
  have hsub := subM_decl ms s
  have lp := loop282 (E := E) ms hc 1024 (s &&& decl ms) [] hsub.1 hsub (by have := hsub.1; simp; omega)
  simp only [List.nil_append, List.map_nil, List.length_nil] at lp
  rw [← elimS, ← great] at lp
  have hl := hc.len
  have e1 := e309 (E := E) ms (by omega)
  have e2 := e280 (E := E) s hs
  have hd := decl_lt ms
  have w := andI_nat s (decl ms) (by omega) (by omega)
  unfold confPv at *
  rw [callW_eq, EnvS.h 282 F282 rfl]
  simp -implicitDefEqProofs only [go_sem, F282, s282, s282_1, s282_5, e1, e2, w, lp]
theorem e236 (ms : List Mem) (hc : ConfOk ms) (s : Nat) (hs : s < 1024) : callW E 236 [.p (confPv ms), .p (.int .i64 s)] [] = some ⟨.p (.int .i64 (great ms s : Nat)), [], []⟩ := by
  have e := e282 (E := E) ms hc s hs
  unfold confPv at *
  rw [callW_eq, EnvS.h 236 F236 rfl]
  simp -implicitDefEqProofs only [go_sem, F236, s236, e]
end Go.Ab.S

namespace Go.Ab.S
open Go Go.Ab
variable {E : Env} [EnvS E]

/-! ### Blocking sets, acceptance, confirmation -/
def blk (ms : List Mem) (v b : Nat) : Bool := match ms[v]? with
  | some m => m.d && !satT ((1023 ^^^ b) ||| 2 ^ v) m.t
  | none => false
theorem decl_has (ms : List Mem) (v : Nat) (hv : v < 10) : hasN (decl ms) v = (match ms[v]? with | some m => m.d | none => false) := by
  rw [hasN_nat _ _ hv, decl_bit]
  cases ms[v]? with
  | none => simp
  | some m => cases hm : m.d <;> simp [hv, hm]
theorem comp_lt {b : Nat} (hb : b < 1024) : 1023 ^^^ b < 1024 := Nat.xor_lt_two_pow (n := 10) (by decide) hb
theorem e281 (ms : List Mem) (hc : ConfOk ms) (v b : Nat) (hv : v < 10) (hb : b < 1024) : callW E 281 [.p (confPv ms), .p (.int .i64 v), .p (.int .i64 b)] [] = some ⟨.p (.bool (blk ms v b)), [], []⟩ := by
  have e1 := e280 (E := E) b hb
  have hl := hc.len
  have e2 := e309 (E := E) ms (by omega)
  have e3 := e235 (E := E) (decl ms) v (decl_lt ms)
  rw [decl_has _ _ hv] at e3
  have hn := comp_lt hb
  have f4 : ¬ (v : Int) < 0 := by omega
  have h0 : (0 : Int) ≤ v := by omega
  have w1 : andNotI .i64 1023 (b : Int) = ((1023 ^^^ b : Nat) : Int) := (comp_xor hb).1
  have w2 : IntKind.i64.wrap (1023 - (b : Int)) = ((1023 ^^^ b : Nat) : Int) := by
    have := (comp_xor hb).2
    rw [← this, wrap64 (by omega) (by omega)]; omega
  have w3 := orI_nat (1023 ^^^ b) (2 ^ v) (by omega) (Nat.lt_trans (pow_lt v hv) (by decide))
  have hS := or_lt (1023 ^^^ b) v hn hv
  unfold blk
  unfold confPv at *
  rw [callW_eq, EnvS.h 281 F281 rfl]
  cases hm : ms[v]? with
  | none =>
    rw [hm] at e3
    simp -implicitDefEqProofs only [go_sem, F281, s281, s281_1, e1, e2, e3]
  | some m =>
    rw [hm] at e3
    have e4 := e310 (E := E) _ hS m.t (hc.thin _ (List.mem_of_getElem? hm))
    unfold Tr.pv at e4
    cases hd : m.d with
    | false =>
      simp only [hd] at e3
      simp -implicitDefEqProofs only [go_sem, F281, s281, s281_1, e1, e2, e3, Bool.false_and, hd]
    | true =>
      simp only [hd] at e3
      simp -implicitDefEqProofs only [go_sem, F281, s281, s281_1, e1, e2, e3, hm, h0, Mem.pv, f4, shl1 v (by omega), w1, w2, w3, e4, Bool.true_and, hd]
/-! as before -/
def accW (ms : List Mem) (v votes acc : Nat) : Bool := blk ms v acc || (great ms (votes ||| acc)).testBit v
theorem great_lt (ms : List Mem) (s : Nat) : great ms s < 1024 := by
  have : ∀ f s, subM ms s → (elim ms f s).2 < 1024 := by
    intro f
    induction f with
    | zero => intro s h; exact h.1
    | succ f ih =>
      intro s h
      rw [elim]
      cases hu : unhL ms s (nodes s) with
      | none => exact h.1
      | some x =>
        obtain ⟨h1, h2⟩ := unhL_some hu
        obtain ⟨h3, h4⟩ := (nodes_mem s x).1 h1
        exact ih _ (subM_xor h h3 h4)
  exact this 1024 _ (subM_decl ms s)
theorem e233 (ms : List Mem) (hc : ConfOk ms) (v s b : Nat) (hv : v < 10) (hs : s < 1024) (hb : b < 1024) : callW E 233 [.p (confPv ms), .p (.int .i64 v), .p (.int .i64 s), .p (.int .i64 b)] [] = some ⟨.p (.bool (accW ms v s b)), [], []⟩ := by
  have e1 := e280 (E := E) s hs
  have e2 := e280 (E := E) b hb
  have e3 := e281 (E := E) ms hc v b hv hb
  have hsb : s ||| b < 1024 := Nat.or_lt_two_pow (n := 10) hs hb
  have w := orI_nat s b (by omega) (by omega)
  have e4 := e236 (E := E) ms hc _ hsb
  have e5 := e235 (E := E) _ v (great_lt ms (s ||| b))
  rw [hasN_nat _ _ hv] at e5
  unfold confPv at *
  rw [callW_eq, EnvS.h 233 F233 rfl]
  unfold accW
  cases h : blk ms v b with
  | true =>
    rw [h] at e3
    simp -implicitDefEqProofs only [go_sem, F233, s233, s233_1, e1, e2, e3, Bool.true_or]
  | false =>
    rw [h] at e3
    simp -implicitDefEqProofs only [go_sem, F233, s233, s233_1, e1, e2, e3, w, e4, e5, Bool.false_or]
theorem e205 (ms : List Mem) (hc : ConfOk ms) (v b : Nat) (hv : v < 10) (hb : b < 1024) : callW E 205 [.p (confPv ms), .p (.int .i64 v), .p (.int .i64 b)] [] = some ⟨.p (.bool ((great ms b).testBit v)), [], []⟩ := by
  have e4 := e236 (E := E) ms hc _ hb
  have e5 := e235 (E := E) _ v (great_lt ms b)
  rw [hasN_nat _ _ hv] at e5
  unfold confPv at *
  rw [callW_eq, EnvS.h 205 F205 rfl]
  simp -implicitDefEqProofs only [go_sem, F205, s205, e4, e5]
end Go.Ab.S

namespace Go.Ab.S
open Go Go.Ab
variable {E : Env} [EnvS E]

/-! ### What a node hears -/
theorem loop202 (l : List Evl) (hl : l.length < 4000) (hth : ∀ e ∈ l, e.t.thin) :
    loopW E 0 [3, 6, 7, 8] [.loc 1 0 0] (.trim [3, 6, 7, 8] [2] [(0, [3])] [.loc 1 0 0] s202_3) (some ⟨[(3, .hsl (.loc 1 0 0) 0 0), (6, .p (.sl 15 (l.map Evl.pv))), (7, .p (.int .i64 l.length)), (8, .p (.int .i64 0))], [(.loc 1 0 0, some (.parr [] 15 false))]⟩) =
    some (.ex 0, ⟨[(3, .hsl (.loc 1 0 0) 0 (l.filter validE).length)], [(.loc 1 0 0, some (.parr ((l.filter validE).map Evl.pv) 15 false))]⟩) := by
  have key := range_loopI (loopW E 0 [3, 6, 7, 8] [.loc 1 0 0] (.trim [3, 6, 7, 8] [2] [(0, [3])] [.loc 1 0 0] s202_3)) l
    (fun i (o : List Evl) => ⟨[(3, .hsl (.loc 1 0 0) 0 o.length), (6, .p (.sl 15 (l.map Evl.pv))), (7, .p (.int .i64 l.length)), (8, .p (.int .i64 i))], [(.loc 1 0 0, some (.parr (o.map Evl.pv) 15 false))]⟩)
    (fun o r => some (.ex 0, ⟨[(3, .hsl (.loc 1 0 0) 0 (o ++ r.filter validE).length)], [(.loc 1 0 0, some (.parr ((o ++ r.filter validE).map Evl.pv) 15 false))]⟩)) (fun i o => o.length ≤ i)
  refine key ?_ ?_ [] (by simp)
  · intro o _
    rw [loopW_some]
    generalize hK : loopW E 0 _ _ _ = K
    simp -implicitDefEqProofs only [go_sem, s202_3, s202_2, s202_1, List.filter_nil, List.append_nil]
  · intro i o e r hx hn ho ih
    obtain ⟨f1, f2, f3⟩ := rangeFacts i l.length (by omega) (by omega)
    have e1 := e81 (E := E) e (hth e (List.mem_of_getElem? hx))
    have hm : o.length + 1 ≤ most := by unfold most; omega
    rw [loopW_some]
    generalize hK : loopW E 0 _ _ _ = K at ih ⊢
    cases hv : validE e with
    | true =>
      rw [hv] at e1
      have ih' := ih (o ++ [e]) (by simp; omega)
      simp only [List.map_append, List.map_cons, List.map_nil, List.length_append, List.length_cons, List.length_nil, Nat.zero_add, List.append_assoc, List.singleton_append] at ih'
      try dsimp only at ih' ⊢
      unfold Evl.pv at *
      simp -implicitDefEqProofs only [go_sem, s202_3, s202_2, s202_1, hx, f1, f2, f3, e1, hm, List.filter_cons, hv, List.map_append, List.map_cons, List.length_append, List.length_cons]
      exact ih'
    | false =>
      rw [hv] at e1
      have ih' := ih o (by omega)
      try dsimp only at ih' ⊢
      unfold Evl.pv at *
      simp -implicitDefEqProofs only [go_sem, s202_3, s202_2, s202_1, hx, f1, f2, f3, e1, hm, List.filter_cons, hv]
      exact ih'
theorem e202 (l : List Evl) (hl : l.length < 4000) (hth : ∀ e ∈ l, e.t.thin) : callW E 202 [.p (.sl 15 (l.map Evl.pv))] [] = some ⟨.p (.sl 15 ((l.filter validE).map Evl.pv)), [], []⟩ := by
  have lp := loop202 (E := E) l hl hth
  rw [callW_eq, EnvS.h 202 F202 rfl]
  simp -implicitDefEqProofs only [go_sem, F202, s202, s202_4, lp]
end Go.Ab.S

namespace Go.Ab.S
open Go Go.Ab
variable {E : Env} [EnvS E]

/-! ### Of whose envelopes something holds -/
def whoStep (f : Evl → Bool) (a : Nat) (e : Evl) : Nat := if f e = true then a ||| 2 ^ e.node.toNat else a
def who (f : Evl → Bool) (l : List Evl) : Nat := l.foldl (whoStep f) 0
def nodesOk (l : List Evl) : Prop := ∀ e ∈ l, 0 ≤ e.node ∧ e.node < 10
theorem whoStep_lt (f : Evl → Bool) (a : Nat) (e : Evl) (ha : a < 1024) (he : 0 ≤ e.node ∧ e.node < 10) : whoStep f a e < 1024 := by
  unfold whoStep; split
  · exact or_lt _ _ ha (by omega)
  · exact ha
theorem who_lt' (f : Evl → Bool) : ∀ (l : List Evl) (a : Nat), a < 1024 → nodesOk l → l.foldl (whoStep f) a < 1024
  | [], a, h, _ => h
  | e :: r, a, h, hn => who_lt' f r _ (whoStep_lt f a e h (hn e List.mem_cons_self)) (fun x hx => hn x (List.mem_cons_of_mem _ hx))
theorem who_lt (f : Evl → Bool) (l : List Evl) (hn : nodesOk l) : who f l < 1024 := who_lt' f l 0 (by decide) hn
theorem who_bit' (f : Evl → Bool) (k : Nat) : ∀ (l : List Evl) (a : Nat), nodesOk l → (l.foldl (whoStep f) a).testBit k = (a.testBit k || l.any fun e => f e && decide (e.node = (k : Int)))
  | [], a, _ => by simp
  | e :: r, a, hn => by
    rw [List.foldl_cons, who_bit' f k r _ (fun x hx => hn x (List.mem_cons_of_mem _ hx)), List.any_cons, ← Bool.or_assoc]
    congr 1
    have h := hn e List.mem_cons_self
    unfold whoStep
    cases hf : f e with
    | false => simp
    | true =>
      simp only [if_true, Nat.testBit_or, Nat.testBit_two_pow, Bool.true_and]
      congr 1
      simp only [decide_eq_decide]
      omega
theorem who_bit (f : Evl → Bool) (k : Nat) (l : List Evl) (hn : nodesOk l) : (who f l).testBit k = l.any fun e => f e && decide (e.node = (k : Int)) := by
  rw [who, who_bit' f k l 0 hn]; simp
def seenPv (node : Nat) (ms : List Mem) (l : List Evl) : PV := .agg [.int .i64 node, .sl 4 (ms.map Mem.pv), .sl 15 (l.map Evl.pv)]
end Go.Ab.S

namespace Go.Ab.S
open Go Go.Ab
variable {E : Env} [EnvS E]

/-! ### Accepts, Confirms of a node -/
theorem e119 (node : Nat) (hnode : node < 10) (t : Tr) (l : List Evl) (ht : t.thin) (hl : l.length < 4000) (hth : ∀ e ∈ l, e.t.thin) :
    callW E 119 [.p (.int .i64 node), .p t.pv, .p (.sl 15 (l.map Evl.pv))] [] = some ⟨.p (seenPv node (viewM node t l) (l.filter validE)), [], []⟩ := by
  have e1 := e53 (E := E) node t l ht (by omega) hth
  have e2 := e202 (E := E) l hl hth
  unfold seenPv
  unfold confPv at e1
  unfold Tr.pv at *
  rw [callW_eq, EnvS.h 119 F119 rfl]
  simp -implicitDefEqProofs only [go_sem, F119, s119, e1, e2]
theorem valid_nodes (l : List Evl) : nodesOk (l.filter validE) := fun e he => validE_node (List.mem_filter.1 he).2
theorem viewM_ok (node : Int) (t : Tr) (l : List Evl) (ht : t.thin) (hth : ∀ e ∈ l, e.t.thin) : ConfOk (viewM node t l) := by
  refine ⟨Nat.le_of_eq (viewM_len node t l), ?_⟩
  have hz : memZ.t.thin := ⟨by decide, by decide, by simp [memZ]⟩
  have key : ∀ (l : List Evl) (ms : List Mem), (∀ e ∈ l, e.t.thin) → (∀ m ∈ ms, m.t.thin) → ∀ m ∈ l.foldl viewS ms, m.t.thin := by
    intro l
    induction l with
    | nil => intro ms _ h; exact h
    | cons e r ih =>
      intro ms h1 h2
      refine ih _ (fun x hx => h1 x (List.mem_cons_of_mem _ hx)) ?_
      unfold viewS
      split
      · intro m hm
        rcases List.mem_or_eq_of_mem_set hm with h | h
        · exact h2 m h
        · rw [h]; exact h1 e List.mem_cons_self
      · exact h2
  unfold viewM
  split
  · intro m hm
    rw [List.eq_of_mem_replicate hm]; exact hz
  · refine key l _ hth ?_
    intro m hm
    rcases List.mem_or_eq_of_mem_set hm with h | h
    · rw [List.eq_of_mem_replicate h]; exact hz
    · rw [h]; exact ht
end Go.Ab.S

namespace Go.Ab.S
open Go Go.Ab
variable {E : Env} [EnvS E]

theorem exts_five (H : Hp) : exts H 0 5 = [(.ext 0, hget H (.ext 0)), (.ext 1, hget H (.ext 1)), (.ext 2, hget H (.ext 2)), (.ext 3, hget H (.ext 3)), (.ext 4, hget H (.ext 4))] := _root_.id rfl
theorem exts_six (H : Hp) : exts H 0 6 = [(.ext 0, hget H (.ext 0)), (.ext 1, hget H (.ext 1)), (.ext 2, hget H (.ext 2)), (.ext 3, hget H (.ext 3)), (.ext 4, hget H (.ext 4)), (.ext 5, hget H (.ext 5))] := _root_.id rfl
theorem exts_eight (H : Hp) : exts H 0 8 = [(.ext 0, hget H (.ext 0)), (.ext 1, hget H (.ext 1)), (.ext 2, hget H (.ext 2)), (.ext 3, hget H (.ext 3)), (.ext 4, hget H (.ext 4)), (.ext 5, hget H (.ext 5)), (.ext 6, hget H (.ext 6)), (.ext 7, hget H (.ext 7))] := _root_.id rfl
theorem plainEnd_newF3 (H : Hp) (r i : Nat) (f : FuncId) (a b c : PV) (h0 : hget H (.loc r i 0) = none) (h1 : hget H (.loc r i 1) = none) (h2 : hget H (.loc r i 2) = none) : plainEnd H r i (some ⟨.fn f [] [.ptr (.ext 0) 0, .ptr (.ext 1) 0, .ptr (.ext 2) 0], [], [.box [.p a], .box [.p b], .box [.p c]]⟩) = some { v := .fn f [] [.ptr (.loc r i 0) 0, .ptr (.loc r i 1) 0, .ptr (.loc r i 2) 0], up := [(.loc r i 0, some (.box [.p a])), (.loc r i 1, some (.box [.p b])), (.loc r i 2, some (.box [.p c]))] } := by
  simp [plainEnd, callEnd, newUp, freeH, h0, h1, h2, AV.ren, renL, renOs, AObj.ren, zipUp, fromExt]
attribute [go_sem] plainEnd_newF3 exts_five exts_six exts_eight
/-! ### Who says what of a range of commits -/
theorem e234 (e : Evl) (v : ByteArray) (lo hi : Int) : callW E 234 [.p e.pv, .ptr (.ext 0) 0, .ptr (.ext 1) 0, .ptr (.ext 2) 0] [.box [.p (.str v)], .box [.p (.int .i64 lo)], .box [.p (.int .i64 hi)]] = some ⟨.p (.bool (accC e v lo hi)), [.box [.p (.str v)], .box [.p (.int .i64 lo)], .box [.p (.int .i64 hi)]], []⟩ := by
  have h := e163 (E := E) e v lo hi
  unfold Evl.pv at *
  rw [callW_eq, EnvS.h 234 F234 rfl]
  simp -implicitDefEqProofs only [go_sem, F234, s234, h]
theorem e200 (e : Evl) (v : ByteArray) (lo hi : Int) : callW E 200 [.p e.pv, .ptr (.ext 0) 0, .ptr (.ext 1) 0, .ptr (.ext 2) 0] [.box [.p (.str v)], .box [.p (.int .i64 lo)], .box [.p (.int .i64 hi)]] = some ⟨.p (.bool (votC e v lo hi)), [.box [.p (.str v)], .box [.p (.int .i64 lo)], .box [.p (.int .i64 hi)]], []⟩ := by
  have h := e116 (E := E) e v lo hi
  unfold Evl.pv at *
  rw [callW_eq, EnvS.h 200 F200 rfl]
  simp -implicitDefEqProofs only [go_sem, F200, s200, h]
theorem e201 (v : ByteArray) (lo hi : Int) : callW E 201 [.p (.str v), .p (.int .i64 lo), .p (.int .i64 hi)] [] = some ⟨.fn 234 [] [.ptr (.ext 0) 0, .ptr (.ext 1) 0, .ptr (.ext 2) 0], [], [.box [.p (.str v)], .box [.p (.int .i64 lo)], .box [.p (.int .i64 hi)]]⟩ := by
  rw [callW_eq, EnvS.h 201 F201 rfl]
  simp -implicitDefEqProofs only [go_sem, F201, s201]
theorem e232c (e : Evl) (v : ByteArray) (lo hi : Int) : callW E 232 [.p e.pv, .ptr (.ext 0) 0, .ptr (.ext 1) 0] [.box [.fn 200 [] [.ptr (.ext 2) 0, .ptr (.ext 3) 0, .ptr (.ext 4) 0]], .box [.fn 234 [] [.ptr (.ext 5) 0, .ptr (.ext 6) 0, .ptr (.ext 7) 0]], .box [.p (.str v)], .box [.p (.int .i64 lo)], .box [.p (.int .i64 hi)], .box [.p (.str v)], .box [.p (.int .i64 lo)], .box [.p (.int .i64 hi)]] = some ⟨.p (.bool (votC e v lo hi || accC e v lo hi)), [.box [.fn 200 [] [.ptr (.ext 2) 0, .ptr (.ext 3) 0, .ptr (.ext 4) 0]], .box [.fn 234 [] [.ptr (.ext 5) 0, .ptr (.ext 6) 0, .ptr (.ext 7) 0]], .box [.p (.str v)], .box [.p (.int .i64 lo)], .box [.p (.int .i64 hi)], .box [.p (.str v)], .box [.p (.int .i64 lo)], .box [.p (.int .i64 hi)]], []⟩ := by
  have h1 := e200 (E := E) e v lo hi
  have h2 := e234 (E := E) e v lo hi
  unfold Evl.pv at *
  rw [callW_eq, EnvS.h 232 F232 rfl]
  cases hv : votC e v lo hi with
  | true =>
    rw [hv] at h1
    simp -implicitDefEqProofs only [go_sem, F232, s232, h1, Bool.true_or]
  | false =>
    rw [hv] at h1
    simp -implicitDefEqProofs only [go_sem, F232, s232, h1, h2, Bool.false_or]
theorem loop206c (v : ByteArray) (lo hi : Int) (l : List Evl) (hl : l.length < 4000) (hn : nodesOk l) :
    loopW E 3 [1, 5, 9, 10, 11] [] (.trim [1, 5, 9, 10, 11] [4] [(0, [5])] [] s206_3) (some ⟨[(1, .fn 234 [] [.ptr (.ext 0) 0, .ptr (.ext 1) 0, .ptr (.ext 2) 0]), (5, .p (.int .i64 0)), (9, .p (.sl 15 (l.map Evl.pv))), (10, .p (.int .i64 l.length)), (11, .p (.int .i64 0))], [(.ext 0, some (.box [.p (.str v)])), (.ext 1, some (.box [.p (.int .i64 lo)])), (.ext 2, some (.box [.p (.int .i64 hi)]))]⟩) =
    some (.ex 0, ⟨[(5, .p (.int .i64 (who (accC · v lo hi) l : Nat)))], [(.ext 0, some (.box [.p (.str v)])), (.ext 1, some (.box [.p (.int .i64 lo)])), (.ext 2, some (.box [.p (.int .i64 hi)]))]⟩) := by
  have key := range_loopI (loopW E 3 [1, 5, 9, 10, 11] [] (.trim [1, 5, 9, 10, 11] [4] [(0, [5])] [] s206_3)) l
    (fun i (a : Nat) => ⟨[(1, .fn 234 [] [.ptr (.ext 0) 0, .ptr (.ext 1) 0, .ptr (.ext 2) 0]), (5, .p (.int .i64 a)), (9, .p (.sl 15 (l.map Evl.pv))), (10, .p (.int .i64 l.length)), (11, .p (.int .i64 i))], [(.ext 0, some (.box [.p (.str v)])), (.ext 1, some (.box [.p (.int .i64 lo)])), (.ext 2, some (.box [.p (.int .i64 hi)]))]⟩)
    (fun a r => some (.ex 0, ⟨[(5, .p (.int .i64 (r.foldl (whoStep (accC · v lo hi)) a : Nat)))], [(.ext 0, some (.box [.p (.str v)])), (.ext 1, some (.box [.p (.int .i64 lo)])), (.ext 2, some (.box [.p (.int .i64 hi)]))]⟩)) (fun _ a => a < 1024)
  refine key ?_ ?_ 0 (by decide)
  · intro a _
    rw [loopW_some]
    generalize hK : loopW E 3 _ _ _ = K
    simp -implicitDefEqProofs only [go_sem, s206_3, s206_2, s206_1, List.foldl_nil]
  · intro i a e r hx hnn ha ih
    obtain ⟨f1, f2, f3⟩ := rangeFacts i l.length (by omega) (by omega)
    obtain ⟨n1, n2⟩ := hn e (List.mem_of_getElem? hx)
    have ih' := ih (whoStep (accC · v lo hi) a e) (whoStep_lt _ _ _ ha ⟨n1, n2⟩)
    have e1 := e234 (E := E) e v lo hi
    have f4 : ¬ e.node < 0 := by omega
    have w := orI_nat a (2 ^ e.node.toNat) (by omega) (Nat.lt_trans (pow_lt e.node.toNat (by omega)) (by decide))
    have w2 : shlI .i64 1 e.node = ((2 ^ e.node.toNat : Nat) : Int) := by
      have := shl1 e.node.toNat (by omega)
      rwa [Int.toNat_of_nonneg n1] at this
    rw [loopW_some]
    generalize hK : loopW E 3 _ _ _ = K at ih' ⊢
    cases hv : accC e v lo hi with
    | true =>
      rw [hv] at e1
      simp only [whoStep, hv, if_true] at ih'
      try dsimp only at ih' ⊢
      unfold Evl.pv at *
      simp -implicitDefEqProofs only [go_sem, s206_3, s206_2, s206_1, hx, f1, f2, f3, e1, f4, w, w2, List.foldl_cons, whoStep, hv, ih']
    | false =>
      rw [hv] at e1
      simp only [whoStep, hv, Bool.false_eq_true, if_false] at ih'
      try dsimp only at ih' ⊢
      unfold Evl.pv at *
      simp -implicitDefEqProofs only [go_sem, s206_3, s206_2, s206_1, hx, f1, f2, f3, e1, f4, w, w2, List.foldl_cons, whoStep, hv, ih']
theorem loop206d (v : ByteArray) (lo hi : Int) (l : List Evl) (hl : l.length < 4000) (hn : nodesOk l) :
    loopW E 8 [1, 5, 9, 10, 11] [] (.trim [1, 5, 9, 10, 11] [4] [(0, [5])] [] s206_3) (some ⟨[(1, .fn 232 [] [.ptr (.ext 0) 0, .ptr (.ext 1) 0]), (5, .p (.int .i64 0)), (9, .p (.sl 15 (l.map Evl.pv))), (10, .p (.int .i64 l.length)), (11, .p (.int .i64 0))], [(.ext 0, some (.box [.fn 200 [] [.ptr (.ext 2) 0, .ptr (.ext 3) 0, .ptr (.ext 4) 0]])), (.ext 1, some (.box [.fn 234 [] [.ptr (.ext 5) 0, .ptr (.ext 6) 0, .ptr (.ext 7) 0]])), (.ext 2, some (.box [.p (.str v)])), (.ext 3, some (.box [.p (.int .i64 lo)])), (.ext 4, some (.box [.p (.int .i64 hi)])), (.ext 5, some (.box [.p (.str v)])), (.ext 6, some (.box [.p (.int .i64 lo)])), (.ext 7, some (.box [.p (.int .i64 hi)]))]⟩) =
    some (.ex 0, ⟨[(5, .p (.int .i64 (who (fun e => votC e v lo hi || accC e v lo hi) l : Nat)))], [(.ext 0, some (.box [.fn 200 [] [.ptr (.ext 2) 0, .ptr (.ext 3) 0, .ptr (.ext 4) 0]])), (.ext 1, some (.box [.fn 234 [] [.ptr (.ext 5) 0, .ptr (.ext 6) 0, .ptr (.ext 7) 0]])), (.ext 2, some (.box [.p (.str v)])), (.ext 3, some (.box [.p (.int .i64 lo)])), (.ext 4, some (.box [.p (.int .i64 hi)])), (.ext 5, some (.box [.p (.str v)])), (.ext 6, some (.box [.p (.int .i64 lo)])), (.ext 7, some (.box [.p (.int .i64 hi)]))]⟩) := by
  have key := range_loopI (loopW E 8 [1, 5, 9, 10, 11] [] (.trim [1, 5, 9, 10, 11] [4] [(0, [5])] [] s206_3)) l
    (fun i (a : Nat) => ⟨[(1, .fn 232 [] [.ptr (.ext 0) 0, .ptr (.ext 1) 0]), (5, .p (.int .i64 a)), (9, .p (.sl 15 (l.map Evl.pv))), (10, .p (.int .i64 l.length)), (11, .p (.int .i64 i))], [(.ext 0, some (.box [.fn 200 [] [.ptr (.ext 2) 0, .ptr (.ext 3) 0, .ptr (.ext 4) 0]])), (.ext 1, some (.box [.fn 234 [] [.ptr (.ext 5) 0, .ptr (.ext 6) 0, .ptr (.ext 7) 0]])), (.ext 2, some (.box [.p (.str v)])), (.ext 3, some (.box [.p (.int .i64 lo)])), (.ext 4, some (.box [.p (.int .i64 hi)])), (.ext 5, some (.box [.p (.str v)])), (.ext 6, some (.box [.p (.int .i64 lo)])), (.ext 7, some (.box [.p (.int .i64 hi)]))]⟩)
    (fun a r => some (.ex 0, ⟨[(5, .p (.int .i64 (r.foldl (whoStep (fun e => votC e v lo hi || accC e v lo hi)) a : Nat)))], [(.ext 0, some (.box [.fn 200 [] [.ptr (.ext 2) 0, .ptr (.ext 3) 0, .ptr (.ext 4) 0]])), (.ext 1, some (.box [.fn 234 [] [.ptr (.ext 5) 0, .ptr (.ext 6) 0, .ptr (.ext 7) 0]])), (.ext 2, some (.box [.p (.str v)])), (.ext 3, some (.box [.p (.int .i64 lo)])), (.ext 4, some (.box [.p (.int .i64 hi)])), (.ext 5, some (.box [.p (.str v)])), (.ext 6, some (.box [.p (.int .i64 lo)])), (.ext 7, some (.box [.p (.int .i64 hi)]))]⟩)) (fun _ a => a < 1024)
  refine key ?_ ?_ 0 (by decide)
  · intro a _
    rw [loopW_some]
    generalize hK : loopW E 8 _ _ _ = K
    simp -implicitDefEqProofs only [go_sem, s206_3, s206_2, s206_1, List.foldl_nil]
  · intro i a e r hx hnn ha ih
    obtain ⟨f1, f2, f3⟩ := rangeFacts i l.length (by omega) (by omega)
    obtain ⟨n1, n2⟩ := hn e (List.mem_of_getElem? hx)
    have ih' := ih (whoStep (fun e => votC e v lo hi || accC e v lo hi) a e) (whoStep_lt _ _ _ ha ⟨n1, n2⟩)
    have e1 := e232c (E := E) e v lo hi
    have f4 : ¬ e.node < 0 := by omega
    have w := orI_nat a (2 ^ e.node.toNat) (by omega) (Nat.lt_trans (pow_lt e.node.toNat (by omega)) (by decide))
    have w2 : shlI .i64 1 e.node = ((2 ^ e.node.toNat : Nat) : Int) := by
      have := shl1 e.node.toNat (by omega)
      rwa [Int.toNat_of_nonneg n1] at this
    rw [loopW_some]
    generalize hK : loopW E 8 _ _ _ = K at ih' ⊢
    cases hv : (votC e v lo hi || accC e v lo hi) with
    | true =>
      rw [hv] at e1
      simp only [whoStep, hv, if_true] at ih'
      try dsimp only at ih' ⊢
      unfold Evl.pv at *
      simp -implicitDefEqProofs only [go_sem, s206_3, s206_2, s206_1, hx, f1, f2, f3, e1, f4, w, w2, List.foldl_cons, whoStep, hv, ih']
    | false =>
      rw [hv] at e1
      simp only [whoStep, hv, Bool.false_eq_true, if_false] at ih'
      try dsimp only at ih' ⊢
      unfold Evl.pv at *
      simp -implicitDefEqProofs only [go_sem, s206_3, s206_2, s206_1, hx, f1, f2, f3, e1, f4, w, w2, List.foldl_cons, whoStep, hv, ih']
theorem e206c (node : Nat) (ms : List Mem) (v : ByteArray) (lo hi : Int) (l : List Evl) (hl : l.length < 4000) (hn : nodesOk l) :
    callW E 206 [.p (seenPv node ms l), .fn 234 [] [.ptr (.ext 0) 0, .ptr (.ext 1) 0, .ptr (.ext 2) 0]] [.box [.p (.str v)], .box [.p (.int .i64 lo)], .box [.p (.int .i64 hi)]] = some ⟨.p (.int .i64 (who (accC · v lo hi) l : Nat)), [.box [.p (.str v)], .box [.p (.int .i64 lo)], .box [.p (.int .i64 hi)]], []⟩ := by
  have lp := loop206c (E := E) v lo hi l hl hn
  unfold seenPv
  rw [callW_eq, EnvS.h 206 F206 rfl]
  simp -implicitDefEqProofs only [go_sem, F206, s206, s206_4, lp]
theorem e206d (node : Nat) (ms : List Mem) (v : ByteArray) (lo hi : Int) (l : List Evl) (hl : l.length < 4000) (hn : nodesOk l) :
    callW E 206 [.p (seenPv node ms l), .fn 232 [] [.ptr (.ext 0) 0, .ptr (.ext 1) 0]] [.box [.fn 200 [] [.ptr (.ext 2) 0, .ptr (.ext 3) 0, .ptr (.ext 4) 0]], .box [.fn 234 [] [.ptr (.ext 5) 0, .ptr (.ext 6) 0, .ptr (.ext 7) 0]], .box [.p (.str v)], .box [.p (.int .i64 lo)], .box [.p (.int .i64 hi)], .box [.p (.str v)], .box [.p (.int .i64 lo)], .box [.p (.int .i64 hi)]] = some ⟨.p (.int .i64 (who (fun e => votC e v lo hi || accC e v lo hi) l : Nat)), [.box [.fn 200 [] [.ptr (.ext 2) 0, .ptr (.ext 3) 0, .ptr (.ext 4) 0]], .box [.fn 234 [] [.ptr (.ext 5) 0, .ptr (.ext 6) 0, .ptr (.ext 7) 0]], .box [.p (.str v)], .box [.p (.int .i64 lo)], .box [.p (.int .i64 hi)], .box [.p (.str v)], .box [.p (.int .i64 lo)], .box [.p (.int .i64 hi)]], []⟩ := by
  have lp := loop206d (E := E) v lo hi l hl hn
  unfold seenPv
  rw [callW_eq, EnvS.h 206 F206 rfl]
  simp -implicitDefEqProofs only [go_sem, F206, s206, s206_4, lp]
def bothC (v : ByteArray) (lo hi : Int) (e : Evl) : Bool := votC e v lo hi || accC e v lo hi
theorem e199c (node : Nat) (hnode : node < 10) (ms : List Mem) (hc : ConfOk ms) (v : ByteArray) (lo hi : Int) (l : List Evl) (hl : l.length < 4000) (hn : nodesOk l) :
    callW E 199 [.p (seenPv node ms l), .fn 200 [] [.ptr (.ext 0) 0, .ptr (.ext 1) 0, .ptr (.ext 2) 0], .fn 234 [] [.ptr (.ext 3) 0, .ptr (.ext 4) 0, .ptr (.ext 5) 0]] [.box [.p (.str v)], .box [.p (.int .i64 lo)], .box [.p (.int .i64 hi)], .box [.p (.str v)], .box [.p (.int .i64 lo)], .box [.p (.int .i64 hi)]] =
    some ⟨.p (.bool (accW ms node (who (bothC v lo hi) l) (who (accC · v lo hi) l))), [.box [.p (.str v)], .box [.p (.int .i64 lo)], .box [.p (.int .i64 hi)], .box [.p (.str v)], .box [.p (.int .i64 lo)], .box [.p (.int .i64 hi)]], []⟩ := by
  have e1 := e206c (E := E) node ms v lo hi l hl hn
  have e2 := e206d (E := E) node ms v lo hi l hl hn
  rw [show (fun e => votC e v lo hi || accC e v lo hi) = bothC v lo hi from rfl] at e2
  have e3 := e233 (E := E) ms hc node _ _ hnode (who_lt (bothC v lo hi) l hn) (who_lt (accC · v lo hi) l hn)
  unfold confPv at e3
  unfold seenPv at *
  rw [callW_eq, EnvS.h 199 F199 rfl]
  simp -implicitDefEqProofs only [go_sem, F199, s199, e1, e2, e3]
theorem e130c (node : Nat) (hnode : node < 10) (ms : List Mem) (hc : ConfOk ms) (v : ByteArray) (lo hi : Int) (l : List Evl) (hl : l.length < 4000) (hn : nodesOk l) :
    callW E 130 [.p (seenPv node ms l), .fn 234 [] [.ptr (.ext 0) 0, .ptr (.ext 1) 0, .ptr (.ext 2) 0]] [.box [.p (.str v)], .box [.p (.int .i64 lo)], .box [.p (.int .i64 hi)]] =
    some ⟨.p (.bool ((great ms (who (accC · v lo hi) l)).testBit node)), [.box [.p (.str v)], .box [.p (.int .i64 lo)], .box [.p (.int .i64 hi)]], []⟩ := by
  have e1 := e206c (E := E) node ms v lo hi l hl hn
  have e3 := e205 (E := E) ms hc node _ hnode (who_lt (accC · v lo hi) l hn)
  unfold confPv at e3
  unfold seenPv at *
  rw [callW_eq, EnvS.h 130 F130 rfl]
  simp -implicitDefEqProofs only [go_sem, F130, s130, e1, e3]
theorem e118 (node : Nat) (hnode : node < 10) (ms : List Mem) (hc : ConfOk ms) (v : ByteArray) (lo hi : Int) (l : List Evl) (hl : l.length < 4000) (hn : nodesOk l) :
    callW E 118 [.p (seenPv node ms l), .p (.str v), .p (.int .i64 lo), .p (.int .i64 hi)] [] =
    some ⟨.p (.bool (accW ms node (who (bothC v lo hi) l) (who (accC · v lo hi) l))), [], []⟩ := by
  have e1 := e201 (E := E) v lo hi
  have e2 := e199c (E := E) node hnode ms hc v lo hi l hl hn
  unfold seenPv at *
  rw [callW_eq, EnvS.h 118 F118 rfl]
  simp -implicitDefEqProofs only [go_sem, F118, s118, e1, e2]
theorem e120 (node : Nat) (hnode : node < 10) (ms : List Mem) (hc : ConfOk ms) (v : ByteArray) (lo hi : Int) (l : List Evl) (hl : l.length < 4000) (hn : nodesOk l) :
    callW E 120 [.p (seenPv node ms l), .p (.str v), .p (.int .i64 lo), .p (.int .i64 hi)] [] =
    some ⟨.p (.bool ((great ms (who (accC · v lo hi) l)).testBit node)), [], []⟩ := by
  have e1 := e201 (E := E) v lo hi
  have e2 := e130c (E := E) node hnode ms hc v lo hi l hl hn
  unfold seenPv at *
  rw [callW_eq, EnvS.h 120 F120 rfl]
  simp -implicitDefEqProofs only [go_sem, F120, s120, e1, e2]
def acceptC (node : Nat) (t : Tr) (l : List Evl) (v : ByteArray) (lo hi : Int) : Bool := accW (viewM node t l) node (who (bothC v lo hi) (l.filter validE)) (who (accC · v lo hi) (l.filter validE))
def confirmC (node : Nat) (t : Tr) (l : List Evl) (v : ByteArray) (lo hi : Int) : Bool := (great (viewM node t l) (who (accC · v lo hi) (l.filter validE))).testBit node
theorem e118s (node : Nat) (hnode : node < 10) (t : Tr) (l : List Evl) (v : ByteArray) (lo hi : Int) (ht : t.thin) (hl : l.length < 4000) (hth : ∀ e ∈ l, e.t.thin) :
    callW E 118 [.p (seenPv node (viewM node t l) (l.filter validE)), .p (.str v), .p (.int .i64 lo), .p (.int .i64 hi)] [] = some ⟨.p (.bool (acceptC node t l v lo hi)), [], []⟩ :=
  e118 (E := E) node hnode _ (viewM_ok node t l ht hth) v lo hi _ (Nat.lt_of_le_of_lt (List.length_filter_le validE l) hl) (valid_nodes l)
theorem e32 (node : Nat) (hnode : node < 10) (t : Tr) (l : List Evl) (v : ByteArray) (lo hi : Int) (ht : t.thin) (hl : l.length < 4000) (hth : ∀ e ∈ l, e.t.thin) :
    callW E 32 [.p (.int .i64 node), .p t.pv, .p (.sl 15 (l.map Evl.pv)), .p (.str v), .p (.int .i64 lo), .p (.int .i64 hi)] [] = some ⟨.p (.bool (acceptC node t l v lo hi)), [], []⟩ := by
  have e1 := e119 (E := E) node hnode t l ht hl hth
  have e2 := e118s (E := E) node hnode t l v lo hi ht hl hth
  unfold Tr.pv seenPv at *
  rw [callW_eq, EnvS.h 32 F32 rfl]
  simp -implicitDefEqProofs only [go_sem, F32, s32, e1, e2]
end Go.Ab.S

namespace Go.Ab.S
open Go Go.Ab
variable {E : Env} [EnvS E]

/-! ### Rows of data -/
theorem raw_T (f : Nat) (F : SFn) (h : fnSA f = some F) (hr : F.rawA = true) : E.raw f = true := by
  unfold Env.raw
  rw [EnvS.h f F h]
  exact hr
theorem raw195 : E.raw 195 = true := raw_T 195 F195 rfl rfl
theorem raw231 : E.raw 231 = true := raw_T 231 F231 rfl rfl
theorem raw272 : E.raw 272 = true := raw_T 272 F272 rfl rfl
theorem raw273 : E.raw 273 = true := raw_T 273 F273 rfl rfl
theorem raw274 : E.raw 274 = true := raw_T 274 F274 rfl rfl
theorem raw275 : E.raw 275 = true := raw_T 275 F275 rfl rfl
theorem raw276 : E.raw 276 = true := raw_T 276 F276 rfl rfl
theorem raw277 : E.raw 277 = true := raw_T 277 F277 rfl rfl
theorem raw278 : E.raw 278 = true := raw_T 278 F278 rfl rfl
theorem raw279 : E.raw 279 = true := raw_T 279 F279 rfl rfl
theorem raw305 : E.raw 305 = true := raw_T 305 F305 rfl rfl
theorem raw306 : E.raw 306 = true := raw_T 306 F306 rfl rfl
theorem raw307 : E.raw 307 = true := raw_T 307 F307 rfl rfl
theorem raw319 : E.raw 319 = true := raw_T 319 F319 rfl rfl
attribute [go_sem] raw195 raw231 raw272 raw273 raw274 raw275 raw276 raw277 raw278 raw279 raw305 raw306 raw307 raw319
section
variable {α : Type} [Inhabited α]
theorem ar_get {d : Array α} {i : Nat} (h : i < d.size) : d.toList[i]? = some d[i]! := by
  rw [Array.getElem?_toList, Array.getElem?_eq_getElem h, getElem!_pos d i h]
theorem swp_size (d : Array α) (i j : Nat) : (Sort.swp d i j).size = d.size := by simp [Sort.swp]
theorem swp_map (pv : α → PV) (d : Array α) (i j : Nat) : (Sort.swp d i j).toList.map pv = ((d.toList.map pv).set i (pv d[j]!)).set j (pv d[i]!) := by
  simp [Sort.swp, List.map_set]
theorem set_get (pv : α → PV) (d : Array α) (i j : Nat) (x : α) (hj : j < d.size) : ∃ y, ((d.toList.map pv).set i (pv x))[j]? = some (pv y) := by
  rw [← List.map_set, List.getElem?_map]
  have : j < (d.toList.set i x).length := by simpa using hj
  exact ⟨(d.toList.set i x)[j], by rw [List.getElem?_eq_getElem this]; rfl⟩
end
def ltI (x y : Int) : Bool := decide (x < y)
theorem cmpI_lt (x y : Int) : decide (cmpI x y < 0) = ltI x y := by
  unfold cmpI ltI
  by_cases h : x < y
  · simp [h]
  · by_cases h2 : y < x <;> simp [h, h2]
theorem loop272i (a b i : Nat) (hb : b < 4611686018427387904) (hi : i < 4611686018427387904) : ∀ (j : Nat) (d : Array Int), j < d.size → d.size < 4611686018427387904 →
    loopW E 1 [0, 1, 2, 3, 8, 9] [] (.trim [0, 1, 2, 3, 8, 9] [] [(2, [0, 1, 2, 3, 8])] [] s272_2) (some ⟨[(0, .hsl (.ext 0) 0 d.size), (1, .p (.int .i64 a)), (2, .p (.int .i64 b)), (3, .fn 115 [] []), (8, .p (.int .i64 i)), (9, .p (.int .i64 j))], [(.ext 0, some (.parr (d.toList.map (.int .i64)) 1 false))]⟩) =
    some (.ex 2, ⟨[(0, .hsl (.ext 0) 0 d.size), (1, .p (.int .i64 a)), (2, .p (.int .i64 b)), (3, .fn 115 [] []), (8, .p (.int .i64 i))], [(.ext 0, some (.parr ((Sort.insInner ltI a j d).toList.map (.int .i64)) 1 false))]⟩) := by
  generalize hK : loopW E 1 _ _ _ = K
  intro j
  induction j with
  | zero =>
    intro d hj hs
    have f1 : ¬ (a : Int) < 0 := by omega
    rw [← hK, loopW_some, hK]
    simp -implicitDefEqProofs only [go_sem, s272_2, s272_1, f1, Sort.insInner, Int.natCast_zero]
  | succ j ih =>
    intro d hj hs
    have f2 : IntKind.i64.wrap (((j + 1 : Nat) : Int) - 1) = (j : Int) := by rw [wrap64 (by omega) (by omega)]; omega
    have g1 := ar_get hj
    have g2 := ar_get (d := d) (i := j) (by omega)
    have e1 := e115 (E := E) d[j + 1]! d[j]!
    have e2 := cmpI_lt d[j + 1]! d[j]!
    have hn : (0 : Int) ≤ ((j + 1 : Nat) : Int) := by omega
    have hj0 : j < d.size := by omega
    have hp0 : (0 : Int) ≤ (j : Int) := by omega
    have h0 : 0 + d.size ≤ d.size := by omega
    by_cases ha : a < j + 1
    · have f1 : (a : Int) < ((j + 1 : Nat) : Int) := by omega
      rw [Sort.insInner, decide_eq_true ha, Bool.true_and]
      cases hl : ltI d[j + 1]! d[j]! with
      | true =>
        rw [hl] at e2
        have e3 := of_decide_eq_true e2
        have ih' := ih (Sort.swp d (j + 1) j) (by rw [swp_size]; omega) (by rw [swp_size]; omega)
        rw [swp_size, swp_map] at ih'
        obtain ⟨y, hy⟩ := set_get (.int .i64) d (j + 1) j d[j]! hj0
        rw [← hK, loopW_some, hK]
        simp -implicitDefEqProofs only [go_sem, s272_2, s272_1, f1, f2, g1, g2, e1, e3, hn, hj, hj0, hp0, h0, hy, setE, List.length_map, List.length_set, Array.length_toList]
        exact ih'
      | false =>
        rw [hl] at e2
        have e3 := of_decide_eq_false e2
        rw [← hK, loopW_some, hK]
        simp -implicitDefEqProofs only [go_sem, s272_2, s272_1, f1, f2, g1, g2, e1, e3, hn, hj, hj0, hp0, h0, Array.length_toList]
    · have f1 : ¬ (a : Int) < ((j + 1 : Nat) : Int) := by omega
      rw [Sort.insInner, decide_eq_false ha, Bool.false_and]
      rw [← hK, loopW_some, hK]
      simp -implicitDefEqProofs only [go_sem, s272_2, s272_1, f1]
theorem ins_size (a : Nat) : ∀ (j : Nat) (d : Array Int), (Sort.insInner ltI a j d).size = d.size
  | 0, d => rfl
  | j + 1, d => by
    rw [Sort.insInner]; split
    · rw [ins_size a j, swp_size]
    · rfl
theorem loop272 (a b : Nat) (hb : b < 4611686018427387904) : ∀ (n i : Nat) (d : Array Int), b - i = n → b ≤ d.size → d.size < 4611686018427387904 → i < 4611686018427387904 →
    loopW E 1 [0, 1, 2, 3, 8] [] (.trim [0, 1, 2, 3, 8] [] [(0, [])] [] s272_5) (some ⟨[(0, .hsl (.ext 0) 0 d.size), (1, .p (.int .i64 a)), (2, .p (.int .i64 b)), (3, .fn 115 [] []), (8, .p (.int .i64 i))], [(.ext 0, some (.parr (d.toList.map (.int .i64)) 1 false))]⟩) =
    some (.ex 0, ⟨[], [(.ext 0, some (.parr ((Sort.insOuter ltI a b i d).toList.map (.int .i64)) 1 false))]⟩) := by
  generalize hK : loopW E 1 _ _ _ = K
  intro n
  induction n with
  | zero =>
    intro i d hn hbd hs hi
    have f1 : ¬ (i : Int) < b := by omega
    have f2 : ¬ i < b := by omega
    rw [Sort.insOuter, if_neg f2]
    rw [← hK, loopW_some, hK]
    simp -implicitDefEqProofs only [go_sem, s272_5, f1]
  | succ n ih =>
    intro i d hn hbd hs hi
    have f1 : (i : Int) < b := by omega
    have f2 : i < b := by omega
    have f3 : IntKind.i64.wrap ((i : Int) + 1) = ((i + 1 : Nat) : Int) := wrap64 (by omega) (by omega)
    rw [Sort.insOuter, if_pos f2]
    have lp := loop272i (E := E) a b i hb hi i d (by omega) hs
    have ih' := ih (i + 1) (Sort.insInner ltI a i d) (by omega) (by rw [ins_size]; exact hbd) (by rw [ins_size]; exact hs) (by omega)
    rw [ins_size] at ih'
    rw [← hK, loopW_some, hK]
    simp -implicitDefEqProofs only [go_sem, s272_5, s272_4, s272_3, f1, f3, lp]
    exact ih'
theorem e272 (d : Array Int) (a b : Nat) (hb : b ≤ d.size) (ha : a < 4611686018427387903) (hs : d.size < 4611686018427387904) :
    callW E 272 [.hsl (.ext 0) 0 d.size, .p (.int .i64 a), .p (.int .i64 b), .fn 115 [] []] [.parr (d.toList.map (.int .i64)) 1 false] = some ⟨.tup [], [.parr ((Sort.insertionSort ltI d a b).toList.map (.int .i64)) 1 false], []⟩ := by
  have f3 : IntKind.i64.wrap ((a : Int) + 1) = ((a + 1 : Nat) : Int) := wrap64 (by omega) (by omega)
  have lp := loop272 (E := E) a b (by omega) _ (a + 1) d rfl hb hs (by omega)
  rw [← Sort.insertionSort] at lp
  rw [callW_eq, EnvS.h 272 F272 rfl]
  simp -implicitDefEqProofs only [go_sem, F272, s272, s272_6, f3, lp]
end Go.Ab.S

namespace Go.Ab.S
open Go Go.Ab
variable {E : Env} [EnvS E]

/-! ### The heap -/
theorem wAdd (a b : Nat) (h : a + b < 9223372036854775808) : IntKind.i64.wrap ((a : Int) + (b : Int)) = ((a + b : Nat) : Int) := by rw [wrap64 (by omega) (by omega)]; omega
theorem wAdd1 (a : Nat) (h : a + 1 < 9223372036854775808) : IntKind.i64.wrap ((a : Int) + 1) = ((a + 1 : Nat) : Int) := wAdd a 1 h
theorem wSub1 (a : Nat) (h : a + 1 < 9223372036854775808) : IntKind.i64.wrap (((a + 1 : Nat) : Int) - 1) = (a : Int) := by rw [wrap64 (by omega) (by omega)]; omega
theorem wSub (a b : Nat) (h : b ≤ a) (h2 : a < 9223372036854775808) : IntKind.i64.wrap ((a : Int) - (b : Int)) = ((a - b : Nat) : Int) := by rw [wrap64 (by omega) (by omega)]; omega
theorem wMul2 (a : Nat) (h : 2 * a < 9223372036854775808) : IntKind.i64.wrap (2 * (a : Int)) = ((2 * a : Nat) : Int) := by rw [wrap64 (by omega) (by omega)]; omega
theorem sift_size (hi first : Nat) : ∀ (n root : Nat) (d : Array Int), hi - root ≤ n → (Sort.siftDown ltI hi first root d).size = d.size := by
  intro n
  induction n with
  | zero =>
    intro root d h
    rw [Sort.siftDown, dif_pos (by omega)]
  | succ n ih =>
    intro root d h
    rw [Sort.siftDown]
    split
    · rfl
    · split
      · split
        · rfl
        · split
          · rw [ih _ _ (by omega), swp_size]
          · rfl
      · split
        · rfl
        · rw [ih _ _ (by omega), swp_size]
theorem loop305 (hi first : Nat) : ∀ (n root : Nat) (d : Array Int), hi - root ≤ n → first + hi ≤ d.size → d.size < 1152921504606846976 → root < 1152921504606846976 →
    ∃ ex, (ex = .ex 0 ∨ ex = .ret) ∧ loopW E 1 [0, 2, 3, 4, 10] [] (.trim [0, 2, 3, 4, 10] [] [(0, [])] [] s305_3) (some ⟨[(0, .hsl (.ext 0) 0 d.size), (2, .p (.int .i64 hi)), (3, .p (.int .i64 first)), (4, .fn 115 [] []), (10, .p (.int .i64 root))], [(.ext 0, some (.parr (d.toList.map (.int .i64)) 1 false))]⟩) =
    some (ex, ⟨[], [(.ext 0, some (.parr ((Sort.siftDown ltI hi first root d).toList.map (.int .i64)) 1 false))]⟩) := by
  generalize hK : loopW E 1 _ _ _ = K
  intro n
  induction n with
  | zero =>
    intro root d hn hf hs hr
    refine ⟨_, .inl rfl, ?_⟩
    have w1 := wMul2 root (by omega)
    have w2 := wAdd1 (2 * root) (by omega)
    have f1 : (hi : Int) ≤ ((2 * root + 1 : Nat) : Int) := by omega
    rw [Sort.siftDown, dif_pos (by omega)]
    rw [← hK, loopW_some, hK]
    simp -implicitDefEqProofs only [go_sem, s305_3, s305_2, w1, w2, f1]
  | succ n ih =>
    intro root d hn hf hs hr
    have w1 := wMul2 root (by omega)
    have w2 := wAdd1 (2 * root) (by omega)
    by_cases h1 : 2 * root + 1 ≥ hi
    · refine ⟨_, .inl rfl, ?_⟩
      have f1 : (hi : Int) ≤ ((2 * root + 1 : Nat) : Int) := by omega
      rw [Sort.siftDown, dif_pos h1]
      rw [← hK, loopW_some, hK]
      simp -implicitDefEqProofs only [go_sem, s305_3, s305_2, w1, w2, f1]
    · have f1 : ¬ (hi : Int) ≤ ((2 * root + 1 : Nat) : Int) := by omega
      have w3 := wAdd1 (2 * root + 1) (by omega)
      have w4 := wAdd first (2 * root + 1) (by omega)
      have w5 := wAdd1 (first + (2 * root + 1)) (by omega)
      have w6 := wAdd first root (by omega)
      have n4 : (0 : Int) ≤ ((first + (2 * root + 1) : Nat) : Int) := by omega
      have n5 : (0 : Int) ≤ ((first + (2 * root + 1) + 1 : Nat) : Int) := by omega
      have n6 : (0 : Int) ≤ ((first + root : Nat) : Int) := by omega
      have i4 : first + (2 * root + 1) < d.size := by omega
      have i6 : first + root < d.size := by omega
      have g4 := ar_get i4
      have g6 := ar_get i6
      have h0 : 0 + d.size ≤ d.size := by omega
      have a0 : d.toList.length = d.size := Array.length_toList
      by_cases h2 : 2 * root + 1 + 1 < hi
      · have f2 : ((2 * root + 1 + 1 : Nat) : Int) < hi := by omega
        have i5 : first + (2 * root + 1) + 1 < d.size := by omega
        have g5 := ar_get i5
        have e1 := e115 (E := E) d[first + (2 * root + 1)]! d[first + (2 * root + 1) + 1]!
        have e2 := cmpI_lt d[first + (2 * root + 1)]! d[first + (2 * root + 1) + 1]!
        cases hl : ltI d[first + (2 * root + 1)]! d[first + (2 * root + 1) + 1]! with
        | true =>
          rw [hl] at e2
          have e3 := of_decide_eq_true e2
          have w7 := wAdd first (2 * root + 1 + 1) (by omega)
          have i7 : first + (2 * root + 1 + 1) < d.size := by omega
          have n7 : (0 : Int) ≤ ((first + (2 * root + 1 + 1) : Nat) : Int) := by omega
          have g7 := ar_get i7
          have e4 := e115 (E := E) d[first + root]! d[first + (2 * root + 1 + 1)]!
          have e5 := cmpI_lt d[first + root]! d[first + (2 * root + 1 + 1)]!
          cases hl2 : ltI d[first + root]! d[first + (2 * root + 1 + 1)]! with
          | true =>
            rw [hl2] at e5
            have e6 := of_decide_eq_true e5
            obtain ⟨ex, hex, ih'⟩ := ih (2 * root + 1 + 1) (Sort.swp d (first + root) (first + (2 * root + 1 + 1))) (by omega) (by rw [swp_size]; exact hf) (by rw [swp_size]; exact hs) (by omega)
            rw [swp_size, swp_map] at ih'
            obtain ⟨y, hy⟩ := set_get (.int .i64) d (first + root) (first + (2 * root + 1 + 1)) d[first + (2 * root + 1 + 1)]! i7
            refine ⟨ex, hex, ?_⟩
            rw [Sort.siftDown, dif_neg h1, decide_eq_true h2, hl]
            simp only [Bool.true_and, if_true, show 2 * root + 2 = 2 * root + 1 + 1 from rfl, hl2, Bool.not_true, Bool.false_eq_true, if_false, dif_pos h2]
            rw [← hK, loopW_some, hK]
            simp -implicitDefEqProofs only [go_sem, s305_3, s305_2, s305_1, w1, w2, f1, w3, w4, w5, w6, w7, n4, n5, n6, n7, i4, i5, i6, i7, g4, g5, g6, g7, h0, a0, f2, e1, e3, e4, e6, hy, setE, List.length_map, List.length_set]
            exact ih'
          | false =>
            rw [hl2] at e5
            have e6 := of_decide_eq_false e5
            refine ⟨_, .inr rfl, ?_⟩
            rw [Sort.siftDown, dif_neg h1, decide_eq_true h2, hl]
            simp only [Bool.true_and, if_true, show 2 * root + 2 = 2 * root + 1 + 1 from rfl, hl2, Bool.not_false, if_true]
            rw [← hK, loopW_some, hK]
            simp -implicitDefEqProofs only [go_sem, s305_3, s305_2, s305_1, w1, w2, f1, w3, w4, w5, w6, w7, n4, n5, n6, n7, i4, i5, i6, i7, g4, g5, g6, g7, h0, a0, f2, e1, e3, e4, e6]
        | false =>
          rw [hl] at e2
          have e3 := of_decide_eq_false e2
          have e4 := e115 (E := E) d[first + root]! d[first + (2 * root + 1)]!
          have e5 := cmpI_lt d[first + root]! d[first + (2 * root + 1)]!
          cases hl2 : ltI d[first + root]! d[first + (2 * root + 1)]! with
          | true =>
            rw [hl2] at e5
            have e6 := of_decide_eq_true e5
            obtain ⟨ex, hex, ih'⟩ := ih (2 * root + 1) (Sort.swp d (first + root) (first + (2 * root + 1))) (by omega) (by rw [swp_size]; exact hf) (by rw [swp_size]; exact hs) (by omega)
            rw [swp_size, swp_map] at ih'
            obtain ⟨y, hy⟩ := set_get (.int .i64) d (first + root) (first + (2 * root + 1)) d[first + (2 * root + 1)]! i4
            refine ⟨ex, hex, ?_⟩
            rw [Sort.siftDown, dif_neg h1, decide_eq_true h2, hl]
            simp only [Bool.true_and, Bool.false_eq_true, if_false, hl2, Bool.not_true]
            rw [← hK, loopW_some, hK]
            simp -implicitDefEqProofs only [go_sem, s305_3, s305_2, s305_1, w1, w2, f1, w3, w4, w5, w6, n4, n5, n6, i4, i5, i6, g4, g5, g6, h0, a0, f2, e1, e3, e4, e6, hy, setE, List.length_map, List.length_set]
            exact ih'
          | false =>
            rw [hl2] at e5
            have e6 := of_decide_eq_false e5
            refine ⟨_, .inr rfl, ?_⟩
            rw [Sort.siftDown, dif_neg h1, decide_eq_true h2, hl]
            simp only [Bool.true_and, Bool.false_eq_true, if_false, hl2, Bool.not_false, if_true]
            rw [← hK, loopW_some, hK]
            simp -implicitDefEqProofs only [go_sem, s305_3, s305_2, s305_1, w1, w2, f1, w3, w4, w5, w6, n4, n5, n6, i4, i5, i6, g4, g5, g6, h0, a0, f2, e1, e3, e4, e6]
      · have f2 : ¬ ((2 * root + 1 + 1 : Nat) : Int) < hi := by omega
        have e4 := e115 (E := E) d[first + root]! d[first + (2 * root + 1)]!
        have e5 := cmpI_lt d[first + root]! d[first + (2 * root + 1)]!
        cases hl2 : ltI d[first + root]! d[first + (2 * root + 1)]! with
        | true =>
          rw [hl2] at e5
          have e6 := of_decide_eq_true e5
          obtain ⟨ex, hex, ih'⟩ := ih (2 * root + 1) (Sort.swp d (first + root) (first + (2 * root + 1))) (by omega) (by rw [swp_size]; exact hf) (by rw [swp_size]; exact hs) (by omega)
          rw [swp_size, swp_map] at ih'
          obtain ⟨y, hy⟩ := set_get (.int .i64) d (first + root) (first + (2 * root + 1)) d[first + (2 * root + 1)]! i4
          refine ⟨ex, hex, ?_⟩
          rw [Sort.siftDown, dif_neg h1, decide_eq_false h2]
          simp only [Bool.false_and, Bool.false_eq_true, if_false, hl2, Bool.not_true]
          rw [← hK, loopW_some, hK]
          simp -implicitDefEqProofs only [go_sem, s305_3, s305_2, s305_1, w1, w2, f1, w3, w4, w5, w6, n4, n5, n6, i4, i6, g4, g6, h0, a0, f2, e4, e6, hy, setE, List.length_map, List.length_set]
          exact ih'
        | false =>
          rw [hl2] at e5
          have e6 := of_decide_eq_false e5
          refine ⟨_, .inr rfl, ?_⟩
          rw [Sort.siftDown, dif_neg h1, decide_eq_false h2]
          simp only [Bool.false_and, Bool.false_eq_true, if_false, hl2, Bool.not_false, if_true]
          rw [← hK, loopW_some, hK]
          simp -implicitDefEqProofs only [go_sem, s305_3, s305_2, s305_1, w1, w2, f1, w3, w4, w5, w6, n4, n5, n6, i4, i6, g4, g6, h0, a0, f2, e4, e6]
theorem e305 (d : Array Int) (root hi first : Nat) (hf : first + hi ≤ d.size) (hs : d.size < 1152921504606846976) (hr : root < 1152921504606846976) :
    callW E 305 [.hsl (.ext 0) 0 d.size, .p (.int .i64 root), .p (.int .i64 hi), .p (.int .i64 first), .fn 115 [] []] [.parr (d.toList.map (.int .i64)) 1 false] = some ⟨.tup [], [.parr ((Sort.siftDown ltI hi first root d).toList.map (.int .i64)) 1 false], []⟩ := by
  obtain ⟨ex, hex, lp⟩ := loop305 (E := E) hi first _ root d (Nat.le_refl _) hf hs hr
  rw [callW_eq, EnvS.h 305 F305 rfl]
  rcases hex with rfl | rfl
  · simp -implicitDefEqProofs only [go_sem, F305, s305, s305_4, lp]
  · simp -implicitDefEqProofs only [go_sem, F305, s305, s305_4, lp]
end Go.Ab.S

namespace Go.Ab.S
open Go Go.Ab
variable {E : Env} [EnvS E]

theorem siftS (hi first root : Nat) (d : Array Int) : (Sort.siftDown ltI hi first root d).size = d.size := sift_size hi first _ root d (Nat.le_refl _)
theorem build_size (hi first : Nat) : ∀ (k : Nat) (d : Array Int), (Sort.heapBuild ltI hi first k d).size = d.size
  | 0, d => rfl
  | k + 1, d => by rw [Sort.heapBuild, build_size hi first k, siftS]
theorem loop273a (hi first : Nat) : ∀ (k : Nat) (d : Array Int) (e : Int), e = (k : Int) - 1 → first + hi ≤ d.size → d.size < 1152921504606846976 → k < 1152921504606846976 →
    loopW E 1 [0, 3, 8, 9, 10, 11] [] (.trim [0, 3, 8, 9, 10, 11] [] [(0, [0, 3, 8, 9, 10])] [] s273_2) (some ⟨[(0, .hsl (.ext 0) 0 d.size), (3, .fn 115 [] []), (8, .p (.int .i64 first)), (9, .p (.int .i64 0)), (10, .p (.int .i64 hi)), (11, .p (.int .i64 e))], [(.ext 0, some (.parr (d.toList.map (.int .i64)) 1 false))]⟩) =
    some (.ex 0, ⟨[(0, .hsl (.ext 0) 0 d.size), (3, .fn 115 [] []), (8, .p (.int .i64 first)), (9, .p (.int .i64 0)), (10, .p (.int .i64 hi))], [(.ext 0, some (.parr ((Sort.heapBuild ltI hi first k d).toList.map (.int .i64)) 1 false))]⟩) := by
  generalize hK : loopW E 1 _ _ _ = K
  intro k
  induction k with
  | zero =>
    intro d e he hf hs hk
    have f1 : ¬ (0 : Int) ≤ e := by omega
    rw [← hK, loopW_some, hK]
    simp -implicitDefEqProofs only [go_sem, s273_2, s273_1, f1, Sort.heapBuild]
  | succ k ih =>
    intro d e he hf hs hk
    have he' : e = (k : Int) := by omega
    subst he'
    have f1 : (0 : Int) ≤ (k : Int) := by omega
    have e1 := e305 (E := E) d k hi first hf hs (by omega)
    have w1 : IntKind.i64.wrap ((k : Int) - 1) = (k : Int) - 1 := wrap64 (by omega) (by omega)
    have ih' := ih (Sort.siftDown ltI hi first k d) _ rfl (by rw [siftS]; exact hf) (by rw [siftS]; exact hs) (by omega)
    rw [siftS] at ih'
    rw [← hK, loopW_some, hK]
    simp -implicitDefEqProofs only [go_sem, s273_2, s273_1, f1, e1, w1]
    rw [Sort.heapBuild]
    exact ih'
theorem loop273b (first : Nat) : ∀ (k : Nat) (d : Array Int) (e : Int), e = (k : Int) - 1 → first + k ≤ d.size → d.size < 1152921504606846976 →
    loopW E 1 [0, 3, 8, 9, 12] [] (.trim [0, 3, 8, 9, 12] [] [(2, [])] [] s273_5) (some ⟨[(0, .hsl (.ext 0) 0 d.size), (3, .fn 115 [] []), (8, .p (.int .i64 first)), (9, .p (.int .i64 0)), (12, .p (.int .i64 e))], [(.ext 0, some (.parr (d.toList.map (.int .i64)) 1 false))]⟩) =
    some (.ex 2, ⟨[], [(.ext 0, some (.parr ((Sort.heapPop ltI first k d).toList.map (.int .i64)) 1 false))]⟩) := by
  generalize hK : loopW E 1 _ _ _ = K
  intro k
  induction k with
  | zero =>
    intro d e he hf hs
    have f1 : ¬ (0 : Int) ≤ e := by omega
    rw [← hK, loopW_some, hK]
    simp -implicitDefEqProofs only [go_sem, s273_5, s273_4, f1, Sort.heapPop]
  | succ k ih =>
    intro d e he hf hs
    have he' : e = (k : Int) := by omega
    subst he'
    have f1 : (0 : Int) ≤ (k : Int) := by omega
    have w1 : IntKind.i64.wrap ((k : Int) - 1) = (k : Int) - 1 := wrap64 (by omega) (by omega)
    have w2 := wAdd first k (by omega)
    have n1 : (0 : Int) ≤ (first : Int) := by omega
    have n2 : (0 : Int) ≤ ((first + k : Nat) : Int) := by omega
    have i1 : first < d.size := by omega
    have i2 : first + k < d.size := by omega
    have g1 := ar_get i1
    have g2 := ar_get i2
    have h0 : 0 + d.size ≤ d.size := by omega
    have a0 : d.toList.length = d.size := Array.length_toList
    obtain ⟨y, hy⟩ := set_get (.int .i64) d first (first + k) d[first + k]! i2
    have e1 := e305 (E := E) (Sort.swp d first (first + k)) 0 k first (by rw [swp_size]; omega) (by rw [swp_size]; exact hs) (by omega)
    rw [swp_size, swp_map] at e1
    simp only [Int.natCast_zero] at e1
    have ih' := ih (Sort.siftDown ltI k first 0 (Sort.swp d first (first + k))) _ rfl (by rw [siftS, swp_size]; omega) (by rw [siftS, swp_size]; exact hs)
    rw [siftS, swp_size] at ih'
    rw [← hK, loopW_some, hK]
    simp -implicitDefEqProofs only [go_sem, s273_5, s273_4, f1, w1, w2, n1, n2, i1, i2, g1, g2, h0, a0, hy, setE, List.length_map, List.length_set, e1]
    rw [Sort.heapPop]
    exact ih'
theorem e273 (d : Array Int) (a b : Nat) (hab : a < b) (hb : b ≤ d.size) (hs : d.size < 1152921504606846976) :
    callW E 273 [.hsl (.ext 0) 0 d.size, .p (.int .i64 a), .p (.int .i64 b), .fn 115 [] []] [.parr (d.toList.map (.int .i64)) 1 false] = some ⟨.tup [], [.parr ((Sort.heapSort ltI d a b).toList.map (.int .i64)) 1 false], []⟩ := by
  have w1 := wSub b a (by omega) (by omega)
  have w2 : IntKind.i64.wrap (((b - a : Nat) : Int) - 1) = ((b - a - 1 : Nat) : Int) := wSub (b - a) 1 (by omega) (by omega)
  have w3 : IntKind.i64.wrap (((b - a - 1 : Nat) : Int).tdiv 2) = (((b - a - 1) / 2 : Nat) : Int) := by
    rw [show ((b - a - 1 : Nat) : Int).tdiv 2 = (((b - a - 1) / 2 : Nat) : Int) from rfl, wrapN _ (by omega)]
  have lp1 := loop273a (E := E) (b - a) a ((b - a - 1) / 2 + 1) d (((b - a - 1) / 2 : Nat) : Int) (by omega) (by omega) hs (by omega)
  have lp2 := loop273b (E := E) a (b - a) (Sort.heapBuild ltI (b - a) a ((b - a - 1) / 2 + 1) d) ((b - a - 1 : Nat) : Int) (by omega) (by rw [build_size]; omega) (by rw [build_size]; exact hs)
  rw [build_size] at lp2
  rw [← Sort.heapSort] at lp2
  rw [callW_eq, EnvS.h 273 F273 rfl]
  simp -implicitDefEqProofs only [go_sem, F273, s273, s273_3, s273_6, w1, w2, w3, lp1, lp2]
/-! ### Turning a range round -/
theorem loop276 : ∀ (n i j : Nat) (d : Array Int), j - i ≤ n → j < d.size → d.size < 1152921504606846976 → i < 1152921504606846976 →
    loopW E 1 [0, 8, 9] [] (.trim [0, 8, 9] [] [(0, [])] [] s276_2) (some ⟨[(0, .hsl (.ext 0) 0 d.size), (8, .p (.int .i64 i)), (9, .p (.int .i64 j))], [(.ext 0, some (.parr (d.toList.map (.int .i64)) 1 false))]⟩) =
    some (.ex 0, ⟨[], [(.ext 0, some (.parr ((Sort.reverseLoop i j d).toList.map (.int .i64)) 1 false))]⟩) := by
  generalize hK : loopW E 1 _ _ _ = K
  intro n
  induction n with
  | zero =>
    intro i j d hn hj hs hi
    have f1 : ¬ (i : Int) < (j : Int) := by omega
    rw [Sort.reverseLoop, if_neg (by omega)]
    rw [← hK, loopW_some, hK]
    simp -implicitDefEqProofs only [go_sem, s276_2, s276_1, f1]
  | succ n ih =>
    intro i j d hn hj hs hi
    by_cases h : i < j
    · have f1 : (i : Int) < (j : Int) := by omega
      have w1 := wAdd1 i (by omega)
      have w2 : IntKind.i64.wrap ((j : Int) - 1) = ((j - 1 : Nat) : Int) := wSub j 1 (by omega) (by omega)
      have n1 : (0 : Int) ≤ (i : Int) := by omega
      have n2 : (0 : Int) ≤ (j : Int) := by omega
      have i1 : i < d.size := by omega
      have g1 := ar_get i1
      have g2 := ar_get hj
      have h0 : 0 + d.size ≤ d.size := by omega
      have a0 : d.toList.length = d.size := Array.length_toList
      obtain ⟨y, hy⟩ := set_get (.int .i64) d i j d[j]! hj
      have ih' := ih (i + 1) (j - 1) (Sort.swp d i j) (by omega) (by rw [swp_size]; omega) (by rw [swp_size]; exact hs) (by omega)
      rw [swp_size, swp_map] at ih'
      rw [Sort.reverseLoop, if_pos h]
      rw [← hK, loopW_some, hK]
      simp -implicitDefEqProofs only [go_sem, s276_2, s276_1, f1, w1, w2, n1, n2, i1, hj, g1, g2, h0, a0, hy, setE, List.length_map, List.length_set]
      exact ih'
    · have f1 : ¬ (i : Int) < (j : Int) := by omega
      rw [Sort.reverseLoop, if_neg h]
      rw [← hK, loopW_some, hK]
      simp -implicitDefEqProofs only [go_sem, s276_2, s276_1, f1]
theorem e276 (d : Array Int) (a b : Nat) (hab : a < b) (hb : b ≤ d.size) (hs : d.size < 1152921504606846976) :
    callW E 276 [.hsl (.ext 0) 0 d.size, .p (.int .i64 a), .p (.int .i64 b), .fn 115 [] []] [.parr (d.toList.map (.int .i64)) 1 false] = some ⟨.tup [], [.parr ((Sort.reverseRange d a b).toList.map (.int .i64)) 1 false], []⟩ := by
  have w2 : IntKind.i64.wrap ((b : Int) - 1) = ((b - 1 : Nat) : Int) := wSub b 1 (by omega) (by omega)
  have lp := loop276 (E := E) _ a (b - 1) d (Nat.le_refl _) (by omega) hs (by omega)
  rw [← Sort.reverseRange] at lp
  rw [callW_eq, EnvS.h 276 F276 rfl]
  simp -implicitDefEqProofs only [go_sem, F276, s276, s276_3, w2, lp]
end Go.Ab.S
