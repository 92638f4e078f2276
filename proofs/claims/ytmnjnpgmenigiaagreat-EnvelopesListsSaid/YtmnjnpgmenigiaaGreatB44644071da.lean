/- A part of the proof: an executor over plain data, shown sound for the model, and what it computes of the functions. -/
import Derived.Test.YtmnjnpgmenigiaaGreatB27ccc1b20d
import Derived.Test.YtmnjnpgmenigiaaGreatSoV
import Derived.Test.YtmnjnpgmenigiaaGreatBdbdf72616b
import Derived.Test.YtmnjnpgmenigiaaGreatB366c7715c2
set_option linter.all false
namespace Go.Ab.S.SV
open Go Go.Ab Go.Ab.S
variable {E : Env} [EnvS E]
theorem loop192b (l : List ByteArray) (k0 : Nat) (hN : l.length < 4611686018427387904) : ∀ (n j k : Nat) (l' : List ByteArray), l.length - (k0 + j) ≤ n → l'.length = l.length → 1 ≤ j → k + 1 ≤ k0 + j → k0 + j ≤ l.length → (∀ i, k0 + j ≤ i + 1 → l'[i]? = l[i]?) → ∀ a, l[k0 + j - 1]? = some a →
    ∃ (k' : Nat) (l'' : List ByteArray), l''.length = l.length ∧ k' + 1 ≤ l.length ∧ l''.take k' = l'.take k ++ keepNew a (l.drop (k0 + j)) ∧
    loopW E 1 [0, 3, 4, 5] [] (.trim [0, 3, 4, 5] [2] [(2, [0, 3])] [] s192_4) (some ⟨[(0, .hsl (.ext 0) 0 l.length), (3, .p (.int .i64 k)), (4, .hsl (.ext 0) k0 (l.length - k0)), (5, .p (.int .i64 j))], [(.ext 0, some (.parr (l'.map .str) 1 false))]⟩) =
    some (.ex 2, ⟨[(0, .hsl (.ext 0) 0 l.length), (3, .p (.int .i64 k'))], [(.ext 0, some (.parr (l''.map .str) 1 false))]⟩) := by
  generalize hK : loopW E 1 _ _ _ = K
  intro n
  induction n with
  | zero =>
    intro j k l' hn hl hj hk hp hag a ha
    refine ⟨k, l', hl, by omega, ?_, ?_⟩
    · rw [List.drop_eq_nil_of_le (by omega), keepNew, List.append_nil]
    · have f1 : ¬ (j : Int) < ((l.length - k0 : Nat) : Int) := by omega
      rw [← hK, loopW_some, hK]
      simp -implicitDefEqProofs only [go_sem, s192_4, s192_3, s192_2, f1]
  | succ n ih =>
    intro j k l' hn hl hj hk hp hag a ha
    by_cases h : k0 + j < l.length
    · have f1 : (j : Int) < ((l.length - k0 : Nat) : Int) := by omega
      have f2 := wAdd1 j (by omega)
      have f3 : IntKind.i64.wrap ((j : Int) - 1) = ((j - 1 : Nat) : Int) := wSub j 1 (by omega) (by omega)
      have n1 : (0 : Int) ≤ (j : Int) := by omega
      have n2 : (0 : Int) ≤ ((j - 1 : Nat) : Int) := by omega
      have i1 : j < l.length - k0 := by omega
      have i2 : j - 1 < l.length - k0 := by omega
      obtain ⟨x, hx⟩ : ∃ x, l[k0 + j]? = some x := ⟨_, List.getElem?_eq_getElem h⟩
      have g1 : l'[k0 + j]? = some x := by rw [hag _ (by omega)]; exact hx
      have g2 : l'[k0 + (j - 1)]? = some a := by rw [hag _ (by omega), ← ha]; congr 1; omega
      have h0 : k0 + (l.length - k0) ≤ l.length := by omega
      have hd : l.drop (k0 + j) = x :: l.drop (k0 + (j + 1)) := by
        rw [List.drop_eq_getElem_cons h]
        congr 1
        rw [List.getElem?_eq_getElem h] at hx
        exact Option.some.inj hx
      by_cases hxa : x = a
      · subst hxa
        obtain ⟨k', l'', r1, r2, r3, r4⟩ := ih (j + 1) k l' (by omega) hl (by omega) (by omega) (by omega) (fun i hi => hag i (by omega)) x (by rw [← hx]; congr 1)
        refine ⟨k', l'', r1, r2, by rw [r3, hd, keepNew, if_pos rfl], ?_⟩
        rw [← hK, loopW_some, hK]
        simp -implicitDefEqProofs only [go_sem, s192_4, s192_3, s192_2, f1, f2, f3, n1, n2, i1, i2, g1, g2, h0, hl]
        exact r4
      · have hkl : k < l'.length := by omega
        have hkl2 : k < l.length := by omega
        obtain ⟨z, hz⟩ : ∃ z, l'[k]? = some z := ⟨_, List.getElem?_eq_getElem hkl⟩
        have n3 : (0 : Int) ≤ (k : Int) := by omega
        have h00 : 0 + l.length ≤ l'.length := by omega
        have f4 := wAdd1 k (by omega)
        obtain ⟨k', l'', r1, r2, r3, r4⟩ := ih (j + 1) (k + 1) (l'.set k x) (by omega) (by simp [hl]) (by omega) (by omega) (by omega) (fun i hi => by rw [List.getElem?_set_ne (by omega)]; exact hag i (by omega)) x (by rw [← hx]; congr 1)
        refine ⟨k', l'', r1, r2, ?_, ?_⟩
        · rw [r3, hd, keepNew, if_neg hxa, take_set_succ _ _ _ hkl, List.append_assoc]; rfl
        · rw [List.map_set] at r4
          rw [← hK, loopW_some, hK]
          simp -implicitDefEqProofs only [go_sem, s192_4, s192_3, s192_2, f1, f2, f3, f4, n1, n2, n3, i1, i2, g1, g2, h0, h00, hl, hxa, hz, hkl2, setE]
          exact r4
    · refine ⟨k, l', hl, by omega, ?_, ?_⟩
      · rw [List.drop_eq_nil_of_le (by omega), keepNew, List.append_nil]
      · have f1 : ¬ (j : Int) < ((l.length - k0 : Nat) : Int) := by omega
        rw [← hK, loopW_some, hK]
        simp -implicitDefEqProofs only [go_sem, s192_4, s192_3, s192_2, f1]
theorem loop192a (l : List ByteArray) (hN : l.length < 4611686018427387904) : ∀ (n k : Nat) (a : ByteArray), l.length - k ≤ n → 1 ≤ k → k ≤ l.length → l[k - 1]? = some a →
    (keepNew a (l.drop k) = l.drop k ∧ loopW E 1 [0, 3] [] (.trim [0, 3] [2] [(0, [0])] [] s192_8) (some ⟨[(0, .hsl (.ext 0) 0 l.length), (3, .p (.int .i64 k))], [(.ext 0, some (.parr (l.map .str) 1 false))]⟩) = some (.ex 0, ⟨[(0, .hsl (.ext 0) 0 l.length)], [(.ext 0, some (.parr (l.map .str) 1 false))]⟩)) ∨
    (∃ (k' : Nat) (l3 : List ByteArray), l3.length = l.length ∧ k' ≤ l.length ∧ l3.take k' = l.take k ++ keepNew a (l.drop k) ∧ loopW E 1 [0, 3] [] (.trim [0, 3] [2] [(0, [0])] [] s192_8) (some ⟨[(0, .hsl (.ext 0) 0 l.length), (3, .p (.int .i64 k))], [(.ext 0, some (.parr (l.map .str) 1 false))]⟩) = some (.ret, ⟨[(2, .hsl (.ext 0) 0 k')], [(.ext 0, some (.parr (l3.map .str) 1 false))]⟩)) := by
  generalize hK : loopW E 1 _ _ _ = K
  intro n
  induction n with
  | zero =>
    intro k a hn hk hkl ha
    have f1 : ¬ (k : Int) < (l.length : Int) := by omega
    refine .inl ⟨by rw [List.drop_eq_nil_of_le (by omega), keepNew], ?_⟩
    rw [← hK, loopW_some, hK]
    simp -implicitDefEqProofs only [go_sem, s192_8, s192_7, s192_6, s192_5, f1]
  | succ n ih =>
    intro k a hn hk hkl ha
    by_cases h : k < l.length
    · have f1 : (k : Int) < (l.length : Int) := by omega
      have f2 := wAdd1 k (by omega)
      have f3 : IntKind.i64.wrap ((k : Int) - 1) = ((k - 1 : Nat) : Int) := wSub k 1 (by omega) (by omega)
      have n1 : (0 : Int) ≤ (k : Int) := by omega
      have n2 : (0 : Int) ≤ ((k - 1 : Nat) : Int) := by omega
      have i2 : k - 1 < l.length := by omega
      obtain ⟨x, hx⟩ : ∃ x, l[k]? = some x := ⟨_, List.getElem?_eq_getElem h⟩
      have hd : l.drop k = x :: l.drop (k + 1) := by
        rw [List.drop_eq_getElem_cons h]
        congr 1
        rw [List.getElem?_eq_getElem h] at hx
        exact Option.some.inj hx
      have h0 : 0 + l.length ≤ l.length := by omega
      by_cases hxa : x = a
      · subst hxa
        right
        have lp := loop192b (E := E) l k hN _ 1 k l (Nat.le_refl _) rfl (by omega) (by omega) (by omega) (fun _ _ => rfl) x (by rw [← hx]; congr 1)
        obtain ⟨k', l'', r1, r2, r3, r4⟩ := lp
        rw [Int.natCast_one] at r4
        have h1 : k ≤ l.length := by omega
        have h2 : k' ≤ l.length := by omega
        have h3 : ¬ (l.length - k' = 0) := by omega
        have h4 : k' + (l.length - k') ≤ l.length := by omega
        have n3 : (0 : Int) ≤ (k' : Int) := by omega
        have z1 : (k : Int) ≤ (l.length : Int) := by omega
        have z2 : (k' : Int) ≤ (l.length : Int) := by omega
        have hlen : (l''.take k' ++ List.replicate (l.length - k') ByteArray.empty ++ l''.drop (k' + (l.length - k'))).length = l.length := by simp; omega
        refine ⟨k', l''.take k' ++ List.replicate (l.length - k') ByteArray.empty ++ l''.drop (k' + (l.length - k')), hlen, h2, ?_, ?_⟩
        · rw [List.append_assoc, List.take_append_of_le_length (by simp; omega), List.take_take, Nat.min_self, r3, hd, keepNew, if_pos rfl]
        · rw [List.map_append, List.map_append, List.map_replicate, List.map_take, List.map_drop]
          rw [← hK, loopW_some, hK]
          simp -implicitDefEqProofs only [go_sem, s192_8, s192_7, s192_6, s192_5, s192_7, s192_6, s192_5, f1, f3, n1, n2, i2, h, ha, hx, h0, h1, h2, h3, h4, n3, z1, z2, r1, r4, List.length_map, Nat.sub_zero]
      · rcases ih (k + 1) x (by omega) (by omega) h (by rw [← hx]; congr 1) with ⟨r1, r2⟩ | ⟨k', l3, r1, r2, r3, r4⟩
        · left
          refine ⟨by rw [hd, keepNew, if_neg hxa, r1], ?_⟩
          rw [← hK, loopW_some, hK]
          simp -implicitDefEqProofs only [go_sem, s192_8, s192_7, s192_6, s192_5, f1, f2, f3, n1, n2, i2, h, ha, hx, h0, hxa]
          exact r2
        · right
          refine ⟨k', l3, r1, r2, ?_, ?_⟩
          · rw [r3, hd, keepNew, if_neg hxa, List.take_add_one, hx, List.append_assoc]; rfl
          · rw [← hK, loopW_some, hK]
            simp -implicitDefEqProofs only [go_sem, s192_8, s192_7, s192_6, s192_5, f1, f2, f3, n1, n2, i2, h, ha, hx, h0, hxa]
            exact r4
    · have f1 : ¬ (k : Int) < (l.length : Int) := by omega
      refine .inl ⟨by rw [List.drop_eq_nil_of_le (by omega), keepNew], ?_⟩
      rw [← hK, loopW_some, hK]
      simp -implicitDefEqProofs only [go_sem, s192_8, s192_7, s192_6, s192_5, f1]
theorem e192 (l : List ByteArray) (hN : l.length < 4611686018427387904) : ∃ es : List PV, callW E 192 [.hsl (.ext 0) 0 l.length] [.parr (l.map .str) 1 false] = some ⟨.p (.sl 1 ((compactL l).map .str)), [.parr es 1 true], []⟩ := by
  by_cases h : l.length < 2
  · have f1 : (l.length : Int) < 2 := by omega
    have hc : compactL l = l := by
      match l, h with
      | [], _ => rfl
      | [a], _ => rfl
    refine ⟨l.map .str, ?_⟩
    rw [hc]
    rw [callW_eq, EnvS.h 192 F192 rfl]
    simp -implicitDefEqProofs only [go_sem, F192, s192, s192_1, f1, fin1_hsl]
  · have f1 : ¬ (l.length : Int) < 2 := by omega
    obtain ⟨a, r, rfl⟩ : ∃ a r, l = a :: r := by
      match l, h with
      | [], h => simp at h
      | a :: r, _ => exact ⟨a, r, rfl⟩
    have hl := loop192a (E := E) (a :: r) hN _ 1 a (Nat.le_refl _) (Nat.le_refl _) (by simp) rfl
    rw [Int.natCast_one] at hl
    simp only [List.drop_succ_cons, List.drop_zero, List.take_succ_cons, List.take_zero] at hl
    rcases hl with ⟨r1, r2⟩ | ⟨k', l3, r1, r2, r3, r4⟩
    · refine ⟨(a :: r).map .str, ?_⟩
      rw [compactL, r1]
      generalize hg : a :: r = l at *
      rw [callW_eq, EnvS.h 192 F192 rfl]
      simp -implicitDefEqProofs only [go_sem, F192, s192, s192_9, f1, r2, fin1_hsl]
    · refine ⟨l3.map .str, ?_⟩
      rw [compactL, show a :: keepNew a r = l3.take k' from r3.symm, List.map_take]
      generalize hg : a :: r = l at *
      have h0 : 0 + k' ≤ l3.length := by omega
      rw [callW_eq, EnvS.h 192 F192 rfl]
      simp -implicitDefEqProofs only [go_sem, F192, s192, s192_9, f1, r4, r1, r2, h0, fin1_hsl]
theorem raw192 : E.raw 192 = true := raw_T 192 F192 rfl rfl
theorem raw110 : E.raw 110 = true := raw_T 110 F110 rfl rfl
attribute [go_sem] raw192 raw110
/-- A list sorted, what stands twice left out. -/
def uniqV (l : List ByteArray) : List ByteArray := compactL (Sort.sort ltV l.toArray).toList
theorem e110 (l : List ByteArray) (hN : l.length < 50) : ∃ es : List PV, callW E 110 [.hsl (.ext 0) 0 l.length, .fn 111 [] []] [.parr (l.map .str) 1 false] = some ⟨.p (.sl 1 ((uniqV l).map .str)), [.parr es 1 true], []⟩ := by
  have e1 := e191 (E := E) l.toArray (by simpa using hN)
  have hs : (Sort.sort ltV l.toArray).toList.length = l.length := by
    have := (Go.Sort.sort_sorts ltV swo_ltV l.toArray).1.1
    simpa using this
  obtain ⟨es, e2⟩ := e192 (E := E) (Sort.sort ltV l.toArray).toList (by omega)
  rw [hs] at e2
  refine ⟨es, ?_⟩
  rw [List.size_toArray] at e1
  unfold uniqV
  rw [callW_eq, EnvS.h 110 F110 rfl]
  simp -implicitDefEqProofs only [go_sem, F110, s110, e1, e2]
end Go.Ab.S.SV

namespace Go.Ab.S
open Go Go.Ab
variable {E : Env} [EnvS E]

/-- How many of some nodes are in a set; whom a set satisfies. -/
def cnt (s : Nat) : List Int → Nat
  | [] => 0
  | k :: r => (if hasN s k = true then 1 else 0) + cnt s r
def satI (s : Nat) (t : In) : Bool := decide (t.th ≤ cnt s t.ns)
def cntI (s : Nat) : List In → Nat
  | [] => 0
  | x :: r => (if satI s x = true then 1 else 0) + cntI s r
def satT (s : Nat) (t : Tr) : Bool := decide (t.th ≤ (cnt s t.ns + cntI s t.is : Nat))

/-! as before -/
end Go.Ab.S

namespace Go.Ab.S
open Go Go.Ab
variable {E : Env} [EnvS E]

/-- A member of a configuration. -/
structure Mem where
  d : Bool
  t : Tr
def Mem.pv (m : Mem) : PV := .agg [.bool m.d, .int .i64 m.t.th, .sl 1 (m.t.ns.map (.int .i64)), .sl 3 (m.t.is.map In.pv)]
end Go.Ab.S

namespace Go.Ab.S
open Go Go.Ab
variable {E : Env} [EnvS E]

/-! ### Who is declared -/
/-! ### The nodes of a set -/
def nodesL (s : Nat) : Nat → Nat → List Nat
  | 0, _ => []
  | k + 1, i => if s.testBit i = true then i :: nodesL s k (i + 1) else nodesL s k (i + 1)
def nodes (s : Nat) : List Nat := nodesL s 10 0
end Go.Ab.S

namespace Go.Ab.S
open Go Go.Ab
variable {E : Env} [EnvS E]

/-! ### Taking nodes out of sets -/
/-- Is a member content with a set? -/
def contM (ms : List Mem) (s k : Nat) : Bool := match ms[k]? with
  | some m => satT s m.t
  | none => true
def unhL (ms : List Mem) (s : Nat) : List Nat → Option Nat
  | [] => none
  | k :: r => if contM ms s k = true then unhL ms s r else some k
def elim (ms : List Mem) : Nat → Nat → List Nat × Nat
  | 0, s => ([], s)
  | f + 1, s => match unhL ms s (nodes s) with
    | none => ([], s)
    | some k => (k :: (elim ms f (s ^^^ 2 ^ k)).1, (elim ms f (s ^^^ 2 ^ k)).2)
/-- Configurations of small trusts; sets of their members. -/
structure ConfOk (ms : List Mem) : Prop where
  len : ms.length ≤ 10
  thin : ∀ m ∈ ms, m.t.thin
end Go.Ab.S

namespace Go.Ab.S
open Go Go.Ab
variable {E : Env} [EnvS E]

/-! ### Blocking sets, acceptance, confirmation -/
def blk (ms : List Mem) (v b : Nat) : Bool := match ms[v]? with
  | some m => m.d && !satT ((1023 ^^^ b) ||| 2 ^ v) m.t
  | none => false
/-! as before -/
end Go.Ab.S

namespace Go.Ab.S
open Go Go.Ab
variable {E : Env} [EnvS E]

/-! ### Of whose envelopes something holds -/
def whoStep (f : Evl → Bool) (a : Nat) (e : Evl) : Nat := if f e = true then a ||| 2 ^ e.node.toNat else a
def who (f : Evl → Bool) (l : List Evl) : Nat := l.foldl (whoStep f) 0
end Go.Ab.S

namespace Go.Ab.S
open Go Go.Ab
variable {E : Env} [EnvS E]

/-! ### The ballots of envelopes -/
def balsOf (e : Evl) : List Bal := if e.k = 1 then [e.b, e.p, e.q] else if e.k = 2 then [e.p, ⟨1000000, e.b.v⟩] else [⟨1000000, e.b.v⟩]
def balsL (l : List Evl) : List Bal := (l.filter validE).flatMap balsOf
theorem balsOf_len (e : Evl) : (balsOf e).length ≤ 3 := by
  unfold balsOf
  split
  · simp
  · split <;> simp
theorem loop19 (l : List Evl) (hl : l.length < 4000) (hth : ∀ e ∈ l, e.t.thin) :
    loopW E 0 [3, 6, 7, 8] [.loc 1 0 0] (.trim [3, 6, 7, 8] [2] [(0, [3])] [.loc 1 0 0] s19_7) (some ⟨[(3, .hsl (.loc 1 0 0) 0 0), (6, .p (.sl 15 (l.map Evl.pv))), (7, .p (.int .i64 l.length)), (8, .p (.int .i64 0))], [(.loc 1 0 0, some (.parr [] 2 false))]⟩) =
    some (.ex 0, ⟨[(3, .hsl (.loc 1 0 0) 0 (balsL l).length)], [(.loc 1 0 0, some (.parr ((balsL l).map Bal.pv) 2 false))]⟩) := by
  have key := range_loopI (loopW E 0 [3, 6, 7, 8] [.loc 1 0 0] (.trim [3, 6, 7, 8] [2] [(0, [3])] [.loc 1 0 0] s19_7)) l
    (fun i (o : List Bal) => ⟨[(3, .hsl (.loc 1 0 0) 0 o.length), (6, .p (.sl 15 (l.map Evl.pv))), (7, .p (.int .i64 l.length)), (8, .p (.int .i64 i))], [(.loc 1 0 0, some (.parr (o.map Bal.pv) 2 false))]⟩)
    (fun o r => some (.ex 0, ⟨[(3, .hsl (.loc 1 0 0) 0 (o ++ balsL r).length)], [(.loc 1 0 0, some (.parr ((o ++ balsL r).map Bal.pv) 2 false))]⟩)) (fun i o => o.length ≤ 3 * i)
  refine key ?_ ?_ [] (by simp)
  · intro o _
    rw [loopW_some]
    generalize hK : loopW E 0 _ _ _ = K
    simp -implicitDefEqProofs only [go_sem, s19_7, s19_6, s19_5, s19_1, s19_4, s19_2, s19_3, show balsL [] = [] from rfl, List.append_nil]
  · intro i o e r hx hn ho ih
    obtain ⟨f1, f2, f3⟩ := rangeFacts i l.length (by omega) (by omega)
    have e1 := e81 (E := E) e (hth e (List.mem_of_getElem? hx))
    have e2 := e104 (E := E) e 1000000
    have hm1 : o.length + 1 ≤ most := by unfold most; omega
    have hm2 : o.length + 2 ≤ most := by unfold most; omega
    have hm3 : o.length + 3 ≤ most := by unfold most; omega
    rw [loopW_some]
    generalize hK : loopW E 0 _ _ _ = K at ih ⊢
    cases hv : validE e with
    | false =>
      rw [hv] at e1
      have hb : balsL (e :: r) = balsL r := by simp [balsL, hv]
      have ih' := ih o (by omega)
      try dsimp only at ih' ⊢
      rw [hb]
      unfold Evl.pv at *
      simp -implicitDefEqProofs only [go_sem, s19_7, s19_6, s19_5, s19_1, s19_4, s19_2, s19_3, hx, f1, f2, f3, e1]
      exact ih'
    | true =>
      rw [hv] at e1
      have hb : balsL (e :: r) = balsOf e ++ balsL r := by simp [balsL, hv]
      have ih' := ih (o ++ balsOf e) (by have := balsOf_len e; simp; omega)
      rw [List.append_assoc, ← hb] at ih'
      try dsimp only at ih' ⊢
      by_cases h1 : e.k = 1
      · have hbo : balsOf e = [e.b, e.p, e.q] := by simp [balsOf, h1]
        rw [hbo] at ih'
        simp only [List.map_append, List.map_cons, List.map_nil, List.length_append, List.length_cons, List.length_nil, Nat.zero_add, Nat.reduceAdd, Bal.pv] at ih'
        unfold Evl.pv at *
        rw [h1] at e1
        simp -implicitDefEqProofs only [go_sem, s19_7, s19_6, s19_5, s19_1, s19_4, s19_2, s19_3, hx, f1, f2, f3, h1, e1, hm3, List.map_append, List.length_append]
        exact ih'
      · by_cases h2 : e.k = 2
        · have hbo : balsOf e = [e.p, ⟨1000000, e.b.v⟩] := by simp [balsOf, h2]
          rw [hbo] at ih'
          simp only [List.map_append, List.map_cons, List.map_nil, List.length_append, List.length_cons, List.length_nil, Nat.zero_add, Nat.reduceAdd, Bal.pv] at ih'
          unfold Evl.pv at *
          rw [h2] at e1 e2
          simp -implicitDefEqProofs only [go_sem, s19_7, s19_6, s19_5, s19_1, s19_4, s19_2, s19_3, hx, f1, f2, f3, h2, e1, e2, hm2, List.map_append, List.length_append]
          exact ih'
        · have hbo : balsOf e = [⟨1000000, e.b.v⟩] := by simp [balsOf, h1, h2]
          rw [hbo] at ih'
          simp only [List.map_append, List.map_cons, List.map_nil, List.length_append, List.length_cons, List.length_nil, Nat.zero_add, Nat.reduceAdd, Bal.pv] at ih'
          unfold Evl.pv at *
          simp -implicitDefEqProofs only [go_sem, s19_7, s19_6, s19_5, s19_1, s19_4, s19_2, s19_3, hx, f1, f2, f3, e1, e2, h1, h2, hm1, List.map_append, List.length_append]
          exact ih'
def balsN (l : List Evl) : List Bal := SB.uniqB ((balsL l).filter fun x => !zeroB x)
theorem balsL_len : ∀ l : List Evl, (balsL l).length ≤ 3 * l.length
  | [] => by simp [balsL]
  | e :: r => by
    have ih := balsL_len r
    have h : (balsL (e :: r)).length ≤ 3 + (balsL r).length := by
      unfold balsL
      rw [List.filter_cons]
      split
      · have := balsOf_len e
        rw [List.flatMap_cons, List.length_append]; omega
      · omega
    rw [List.length_cons]; omega
theorem e19 (l : List Evl) (hl : l.length ≤ 16) (hth : ∀ e ∈ l, e.t.thin) : callW E 19 [.p (.sl 15 (l.map Evl.pv))] [] = some ⟨.p (.sl 2 ((balsN l).map Bal.pv)), [], []⟩ := by
  have lp := loop19 (E := E) l (by omega) hth
  have hb := balsL_len l
  have e1 := SB.e106 (E := E) (balsL l) (by omega)
  have hf := List.length_filter_le (fun x => !zeroB x) (balsL l)
  obtain ⟨es, e2⟩ := SB.e105 (E := E) ((balsL l).filter fun x => !zeroB x) (by omega)
  unfold balsN
  rw [callW_eq, EnvS.h 19 F19 rfl]
  simp -implicitDefEqProofs only [go_sem, F19, s19, s19_8, lp, e1, e2]
end Go.Ab.S

namespace Go.Ab.S
open Go Go.Ab
variable {E : Env} [EnvS E]

/-! ### The values and the bounds of envelopes -/
theorem loop20 (l : List Evl) (hl : l.length < 4000) (hth : ∀ e ∈ l, e.t.thin) :
    loopW E 0 [3, 6, 7, 8] [.loc 1 0 0] (.trim [3, 6, 7, 8] [2] [(0, [3])] [.loc 1 0 0] s20_3) (some ⟨[(3, .hsl (.loc 1 0 0) 0 0), (6, .p (.sl 15 (l.map Evl.pv))), (7, .p (.int .i64 l.length)), (8, .p (.int .i64 0))], [(.loc 1 0 0, some (.parr [] 1 false))]⟩) =
    some (.ex 0, ⟨[(3, .hsl (.loc 1 0 0) 0 ((l.filter validE).map fun e => e.b.v).length)], [(.loc 1 0 0, some (.parr (((l.filter validE).map fun e => e.b.v).map .str) 1 false))]⟩) := by
  have key := range_loopI (loopW E 0 [3, 6, 7, 8] [.loc 1 0 0] (.trim [3, 6, 7, 8] [2] [(0, [3])] [.loc 1 0 0] s20_3)) l
    (fun i (o : List ByteArray) => ⟨[(3, .hsl (.loc 1 0 0) 0 o.length), (6, .p (.sl 15 (l.map Evl.pv))), (7, .p (.int .i64 l.length)), (8, .p (.int .i64 i))], [(.loc 1 0 0, some (.parr (o.map .str) 1 false))]⟩)
    (fun o r => some (.ex 0, ⟨[(3, .hsl (.loc 1 0 0) 0 (o ++ (r.filter validE).map fun e => e.b.v).length)], [(.loc 1 0 0, some (.parr ((o ++ (r.filter validE).map fun e => e.b.v).map .str) 1 false))]⟩)) (fun i o => o.length ≤ i)
  refine key ?_ ?_ [] (by simp)
  · intro o _
    rw [loopW_some]
    generalize hK : loopW E 0 _ _ _ = K
    simp -implicitDefEqProofs only [go_sem, s20_3, s20_2, s20_1, List.filter_nil, List.append_nil]
  · intro i o e r hx hn ho ih
    obtain ⟨f1, f2, f3⟩ := rangeFacts i l.length (by omega) (by omega)
    have e1 := e81 (E := E) e (hth e (List.mem_of_getElem? hx))
    have hm1 : o.length + 1 ≤ most := by unfold most; omega
    rw [loopW_some]
    generalize hK : loopW E 0 _ _ _ = K at ih ⊢
    cases hv : validE e with
    | false =>
      rw [hv] at e1
      have ih' := ih o (by omega)
      try dsimp only at ih' ⊢
      rw [List.filter_cons_of_neg (by simp [hv])]
      unfold Evl.pv at *
      simp -implicitDefEqProofs only [go_sem, s20_3, s20_2, s20_1, hx, f1, f2, f3, e1]
      exact ih'
    | true =>
      rw [hv] at e1
      have ih' := ih (o ++ [e.b.v]) (by simp; omega)
      rw [List.append_assoc] at ih'
      try dsimp only at ih' ⊢
      rw [List.filter_cons_of_pos hv]
      simp only [List.map_append, List.map_cons, List.map_nil, List.length_append, List.length_cons, List.length_nil, Nat.zero_add, Nat.reduceAdd, List.cons_append, List.nil_append, List.length_map] at ih' ⊢
      unfold Evl.pv at *
      simp -implicitDefEqProofs only [go_sem, s20_3, s20_2, s20_1, hx, f1, f2, f3, e1, hm1]
      exact ih'
def valsN (l : List Evl) : List ByteArray := SV.uniqV ((l.filter validE).map fun e => e.b.v)
theorem e20 (l : List Evl) (hl : l.length ≤ 16) (hth : ∀ e ∈ l, e.t.thin) : callW E 20 [.p (.sl 15 (l.map Evl.pv))] [] = some ⟨.p (.sl 1 ((valsN l).map .str)), [], []⟩ := by
  have lp := loop20 (E := E) l (by omega) hth
  have hf := List.length_filter_le validE l
  obtain ⟨es, e2⟩ := SV.e110 (E := E) ((l.filter validE).map fun e => e.b.v) (by simp; omega)
  rw [List.length_map] at e2
  rw [List.length_map] at lp
  unfold valsN
  rw [callW_eq, EnvS.h 20 F20 rfl]
  simp -implicitDefEqProofs only [go_sem, F20, s20, s20_4, lp, e2]
def bndP (v : ByteArray) (e : Evl) : Bool := validE e && (decide (e.b.v = v) && !decide (e.lo = 0))
def bndL (v : ByteArray) (l : List Evl) : List Int := (l.filter (bndP v)).flatMap fun e => [e.lo, e.hi]
theorem loop25 (v : ByteArray) (l : List Evl) (hl : l.length < 4000) (hth : ∀ e ∈ l, e.t.thin) :
    loopW E 0 [1, 5, 8, 9, 10] [.loc 1 0 0] (.trim [1, 5, 8, 9, 10] [4] [(0, [5])] [.loc 1 0 0] s25_3) (some ⟨[(1, .p (.str v)), (5, .hsl (.loc 1 0 0) 0 0), (8, .p (.sl 15 (l.map Evl.pv))), (9, .p (.int .i64 l.length)), (10, .p (.int .i64 0))], [(.loc 1 0 0, some (.parr [] 1 false))]⟩) =
    some (.ex 0, ⟨[(5, .hsl (.loc 1 0 0) 0 (bndL v l).length)], [(.loc 1 0 0, some (.parr ((bndL v l).map (.int .i64)) 1 false))]⟩) := by
  have key := range_loopI (loopW E 0 [1, 5, 8, 9, 10] [.loc 1 0 0] (.trim [1, 5, 8, 9, 10] [4] [(0, [5])] [.loc 1 0 0] s25_3)) l
    (fun i (o : List Int) => ⟨[(1, .p (.str v)), (5, .hsl (.loc 1 0 0) 0 o.length), (8, .p (.sl 15 (l.map Evl.pv))), (9, .p (.int .i64 l.length)), (10, .p (.int .i64 i))], [(.loc 1 0 0, some (.parr (o.map (.int .i64)) 1 false))]⟩)
    (fun o r => some (.ex 0, ⟨[(5, .hsl (.loc 1 0 0) 0 (o ++ bndL v r).length)], [(.loc 1 0 0, some (.parr ((o ++ bndL v r).map (.int .i64)) 1 false))]⟩)) (fun i o => o.length ≤ 2 * i)
  refine key ?_ ?_ [] (by simp)
  · intro o _
    rw [loopW_some]
    generalize hK : loopW E 0 _ _ _ = K
    simp -implicitDefEqProofs only [go_sem, s25_3, s25_2, s25_1, show bndL v [] = [] from rfl, List.append_nil]
  · intro i o e r hx hn ho ih
    obtain ⟨f1, f2, f3⟩ := rangeFacts i l.length (by omega) (by omega)
    have e1 := e81 (E := E) e (hth e (List.mem_of_getElem? hx))
    have hm1 : o.length + 2 ≤ most := by unfold most; omega
    rw [loopW_some]
    generalize hK : loopW E 0 _ _ _ = K at ih ⊢
    by_cases hb : bndP v e = true
    · have ih' := ih (o ++ [e.lo, e.hi]) (by simp; omega)
      have hc : bndL v (e :: r) = [e.lo, e.hi] ++ bndL v r := by simp [bndL, hb]
      rw [List.append_assoc, ← hc] at ih'
      have hb' := hb
      simp only [bndP, Bool.and_eq_true, decide_eq_true_eq, Bool.not_eq_true', decide_eq_false_iff_not] at hb'
      obtain ⟨h1, h2, h3⟩ := hb'
      rw [h1] at e1
      try dsimp only at ih' ⊢
      simp only [List.map_append, List.map_cons, List.map_nil, List.length_append, List.length_cons, List.length_nil, Nat.zero_add, Nat.reduceAdd] at ih' ⊢
      unfold Evl.pv at *
      have h2' : decide (e.b.v = v) = true := decide_eq_true h2
      simp -implicitDefEqProofs only [go_sem, s25_3, s25_2, s25_1, hx, f1, f2, f3, e1, h2', h3, hm1]
      exact ih'
    · have ih' := ih o (by omega)
      have hc : bndL v (e :: r) = bndL v r := by simp [bndL, hb]
      rw [hc]
      try dsimp only at ih' ⊢
      unfold Evl.pv at *
      cases h1 : validE e with
      | false =>
        rw [h1] at e1
        simp -implicitDefEqProofs only [go_sem, s25_3, s25_2, s25_1, hx, f1, f2, f3, e1]
        exact ih'
      | true =>
        rw [h1] at e1
        by_cases h2 : e.b.v = v
        · have h3 : e.lo = 0 := by
            by_cases h3 : e.lo = 0
            · exact h3
            · exact absurd (by simp [bndP, h1, h2, h3]) hb
          have h2' : decide (e.b.v = v) = true := decide_eq_true h2
          rw [h3] at e1
          simp -implicitDefEqProofs only [go_sem, s25_3, s25_2, s25_1, hx, f1, f2, f3, h3, e1, h2']
          exact ih'
        · have h2' : decide (e.b.v = v) = false := decide_eq_false h2
          simp -implicitDefEqProofs only [go_sem, s25_3, s25_2, s25_1, hx, f1, f2, f3, e1, h2']
          exact ih'
theorem bndL_len (v : ByteArray) : ∀ l : List Evl, (bndL v l).length ≤ 2 * l.length
  | [] => by simp [bndL]
  | e :: r => by
    have ih := bndL_len v r
    have h : (bndL v (e :: r)).length ≤ 2 + (bndL v r).length := by
      unfold bndL
      rw [List.filter_cons]
      split
      · rw [List.flatMap_cons, List.length_append, List.length_cons, List.length_cons, List.length_nil]; omega
      · omega
    rw [List.length_cons]; omega
def bndsN (l : List Evl) (v : ByteArray) : List Int := uniqI (bndL v l)
theorem e25 (l : List Evl) (v : ByteArray) (hl : l.length ≤ 16) (hth : ∀ e ∈ l, e.t.thin) : callW E 25 [.p (.sl 15 (l.map Evl.pv)), .p (.str v)] [] = some ⟨.p (.sl 1 ((bndsN l v).map (.int .i64))), [], []⟩ := by
  have lp := loop25 (E := E) v l (by omega) hth
  have hf := bndL_len v l
  obtain ⟨es, e2⟩ := e114 (E := E) (bndL v l) (by omega)
  unfold bndsN
  rw [callW_eq, EnvS.h 25 F25 rfl]
  simp -implicitDefEqProofs only [go_sem, F25, s25, s25_4, lp, e2]
end Go.Ab.S

namespace Go.Ab.S
open Go Go.Ab
variable {E : Env} [EnvS E]

/-! ### The trusts that are made are valid -/
theorem tn_mem (l : List Int) : ∀ (k i a : Nat), ∀ x ∈ (tn l k i a).1, (i : Int) ≤ x ∧ x < (i + k : Nat)
  | 0, i, a => by simp [tn]
  | k + 1, i, a => by
    intro x hx
    have ih := tn_mem l k (i + 1) (dA l a 5)
    simp only [tn] at hx
    split at hx
    · simp only [List.mem_cons] at hx
      rcases hx with rfl | hx
      · omega
      · have := ih x hx; omega
    · have := ih x hx; omega
theorem tn_of (l : List Int) : ∀ (k i a acc : Nat), i + k ≤ 10 → acc < 2 ^ i → (ofL acc (tn l k i a).1).2 = 0
  | 0, i, a, acc, h, h2 => by simp [tn, ofL]
  | k + 1, i, a, acc, h, h2 => by
    simp only [tn]
    split
    · have h3 : acc.testBit i = false := Nat.testBit_lt_two_pow h2
      have h4 : acc ||| 2 ^ i < 2 ^ (i + 1) := Nat.or_lt_two_pow (Nat.lt_of_lt_of_le h2 (Nat.pow_le_pow_right (by decide) (by omega))) (Nat.pow_lt_pow_right (by decide) (by omega))
      rw [ofL_cons _ _ _ (by omega) (by simpa using h3)]
      simp only [Int.toNat_natCast]
      exact tn_of l k (i + 1) (dA l a 5) _ (by omega) h4
    · exact tn_of l k (i + 1) (dA l a 5) acc (by omega) (Nat.lt_of_lt_of_le h2 (Nat.pow_le_pow_right (by decide) (by omega)))
/-- Trusts of some of the first n nodes. -/
structure TrG (n : Nat) (t : Tr) : Prop where
  thin : t.thin
  ok : errT t = 0
  nn : 1 ≤ t.ns.length
  ns : ∀ x ∈ t.ns, 0 ≤ x ∧ x < n
  is : ∀ x ∈ t.is, ∃ y : Int, x = ⟨1, [y]⟩ ∧ 0 ≤ y ∧ y < n
theorem any_bad {n : Nat} (hn : n ≤ 10) {l : List Int} (h : ∀ x ∈ l, 0 ≤ x ∧ x < n) : l.any badN = false := by
  rw [List.any_eq_false]
  intro x hx
  have := h x hx
  simp [badN]; omega
theorem ofL_one (y : Int) (h : 0 ≤ y ∧ y < 10) : (ofL 0 [y]).2 = 0 := by
  rw [ofL_cons _ _ _ (by omega) (by simp)]
  rfl
theorem trG_ok (l : List Int) (a n : Nat) (h1 : 1 ≤ n) (h10 : n ≤ 10) : TrG n (trG l a n).1 := by
  have g1 := trR2_len l a n h1
  have g2 := trI_len l a n
  have m1 : ∀ x ∈ (trR2 l a n).1, 0 ≤ x ∧ x < n := by
    intro x hx
    unfold trR2 at hx
    dsimp only at hx
    split at hx
    · simp only [List.mem_cons, List.not_mem_nil, or_false] at hx
      subst hx
      exact ⟨dV_nonneg .., dV_lt _ _ _ (by omega)⟩
    · have := tn_mem l n 0 a x hx
      omega
  have m2 : ∀ x ∈ (trI l a n).1, ∃ y : Int, x = ⟨1, [y]⟩ ∧ 0 ≤ y ∧ y < n := by
    intro x hx
    unfold trI at hx
    dsimp only at hx
    split at hx
    · simp only [List.mem_cons, List.not_mem_nil, or_false] at hx
      subst hx
      exact ⟨_, rfl, dV_nonneg .., dV_lt _ _ _ (by omega)⟩
    · simp at hx
  have o1 : (ofL 0 (trR2 l a n).1).2 = 0 := by
    unfold trR2
    dsimp only
    split
    · exact ofL_one _ ⟨dV_nonneg .., by have := dV_lt l (tn l n 0 a).2 n (by omega); omega⟩
    · exact tn_of l n 0 a 0 (by omega) (by decide)
  have o2 : errIs (trI l a n).1 = 0 := by
    cases hi : (trI l a n).1 with
    | nil => rfl
    | cons x r =>
      have hr : r = [] := by
        rw [hi] at g2
        simp only [List.length_cons] at g2
        exact List.length_eq_zero_iff.1 (by omega)
      subst hr
      obtain ⟨y, rfl, y1, y2⟩ := m2 x (by rw [hi]; exact List.mem_cons_self)
      have : errI ⟨1, [y]⟩ = 0 := by
        unfold errI
        rw [if_neg (by simp), if_neg (by simp [badN]; omega)]
        exact ofL_one y ⟨y1, by omega⟩
      simp [errIs, this]
  have gk : 1 ≤ trK l a n ∧ trK l a n ≤ 11 := by unfold trK; omega
  have th : 1 ≤ (trG l a n).1.th ∧ (trG l a n).1.th ≤ trK l a n := by
    unfold trG
    dsimp only
    split
    · omega
    · unfold trT
      have b1 := dV_nonneg l (trI l a n).2 (trD l a n)
      have b2 := dV_lt l (trI l a n).2 (trD l a n) (by unfold trD; omega)
      unfold trD at *
      omega
  refine ⟨⟨?_, ?_, ?_⟩, ?_, ?_, ?_, ?_⟩
  · show (trR2 l a n).1.length ≤ 12; omega
  · show (trI l a n).1.length ≤ 4; omega
  · intro x hx
    obtain ⟨y, rfl, _⟩ := m2 x hx
    unfold In.thin; simp
  · unfold errT
    rw [if_neg (by unfold trK at th; show ¬ ((trG l a n).1.th < 1 ∨ ((trR2 l a n).1.length : Int) + ((trI l a n).1.length : Int) < (trG l a n).1.th); omega), if_neg (by rw [show (trG l a n).1.ns = (trR2 l a n).1 from rfl, any_bad h10 m1]; simp), if_pos (by exact o1)]
    exact o2
  · exact g1.1
  · exact m1
  · exact m2
end Go.Ab.S

namespace Go.Ab.S
open Go Go.Ab
variable {E : Env} [EnvS E]

def Evl.av (e : Evl) : List AV := [.p (.int .i64 e.node), .p (.int .i64 e.slot), .p (.int .i64 e.seq), .p (.int .i64 e.t.th), .p (.sl 1 (e.t.ns.map (.int .i64))), .p (.sl 3 (e.t.is.map In.pv)), .p (.int .i64 e.k), .p (.int .i64 e.b.c), .p (.str e.b.v), .p (.int .i64 e.p.c), .p (.str e.p.v), .p (.int .i64 e.q.c), .p (.str e.q.v), .p (.int .i64 e.lo), .p (.int .i64 e.hi)]
def av0 : List AV := [.p (.int .i64 0), .p (.int .i64 0), .p (.int .i64 0), .p (.int .i64 0), .nils 1, .nils 3, .p (.int .i64 0), .p (.int .i64 0), .p (.str ByteArray.empty), .p (.int .i64 0), .p (.str ByteArray.empty), .p (.int .i64 0), .p (.str ByteArray.empty), .p (.int .i64 0), .p (.int .i64 0)]
def Bal.zero : Bal := ⟨0, ByteArray.empty⟩
/-- An envelope that only its ranges and ballots can spoil. -/
structure EnvH (e : Evl) : Prop where
  thin : e.t.thin
  head : headE e = true
  k : e.k = 1
  b : finite e.b = true
  p : optional e.p = true
  lo : 0 ≤ e.lo
  hi : e.lo ≤ e.hi
  top : e.hi ≤ e.b.c
theorem validE_end (e : Evl) (h : EnvH { e with lo := 0, hi := 0, q := Bal.zero }) : validE { e with lo := 0, hi := 0, q := Bal.zero } = true := by
  have h1 := h.head
  have h2 := h.k
  have h3 := h.b
  have h4 := h.p
  have h5 := h.top
  have hz : zeroB Bal.zero = true := by decide
  dsimp only at h2 h3 h4 h5
  unfold validE
  rw [h1]
  simp [h2, prepE, primeE, optional, h3, hz]
  constructor
  · simpa [optional] using h4
  · exact h5

theorem chunk76 (l : List Int) (a : Nat) (e : Evl) (h : EnvH e) : ∃ e' : Evl, validE e' = true ∧ e'.node = e.node ∧ e'.slot = e.slot ∧ e'.seq = e.seq ∧ e'.t = e.t ∧ e'.k = e.k ∧ e'.b = e.b ∧ e'.p = e.p ∧
    ∀ T H, tget T 8 = .ptr (.loc 0 0 0) 0 → tget T 9 = .ptr (.loc 1 8 0) 0 → hget H (.ext 0) = some (.box [.p (.sl 1 (l.map (.int .i64))), .p (.int .i64 a)]) → hget H (.loc 0 0 0) = some (.box av0) → hget H (.loc 1 8 0) = some (.box e.av) →
    sexW E 1 (.seq (.seq (.reg 21 [{ dst := some 99, op := .load true 15 (.t 9) }, { dst := some 100, op := .call (.f 82) [.t 99] }, { dst := some 101, op := .un .not (.t 100) }]) (.trim [8, 9] [8] [] [.loc 0 0 0, .loc 1 8 0] (.cond (.t 101) s76_7 .skip))) (.seq (.seq (.reg 23 [{ dst := some 103, op := .load true 15 (.t 9) }, { dst := some 104, op := .call (.f 82) [.t 103] }, { dst := some 105, op := .un .not (.t 104) }]) (.trim [8, 9] [8] [] [.loc 0 0 0, .loc 1 8 0] (.cond (.t 105) s76_8 .skip))) (.seq (.reg 25 [{ dst := some 107, op := .load true 15 (.t 9) }, { dst := some 108, op := .call (.f 82) [.t 107] }, { dst := some 109, op := .un .not (.t 108) }]) (.trim [8, 9] [8] [] [.loc 0 0 0, .loc 1 8 0] (.cond (.t 109) s76_9 .skip))))) ⟨T, H⟩ =
    some (.nrm, ⟨[(8, .ptr (.loc 0 0 0) 0), (9, .ptr (.loc 1 8 0) 0)], [(.ext 0, some (.box [.p (.sl 1 (l.map (.int .i64))), .p (.int .i64 a)])), (.loc 0 0 0, some (.box av0)), (.loc 1 8 0, some (.box e'.av))]⟩) := by
  have v0 := e82 (E := E) e h.thin
  cases c0 : validE e with
  | true =>
    refine ⟨e, c0, rfl, rfl, rfl, rfl, rfl, rfl, rfl, fun T H t8 t9 h0 h1 h2 => ?_⟩
    unfold Evl.pv at v0
    unfold Evl.av av0 at *
    simp -implicitDefEqProofs only [go_sem, s76_7, s76_8, s76_9, t8, t9, h0, h1, h2, v0, c0]
  | false =>
    have v1 := e82 (E := E) { e with lo := 0 } h.thin
    cases c1 : validE { e with lo := 0 } with
    | true =>
      refine ⟨{ e with lo := 0 }, c1, rfl, rfl, rfl, rfl, rfl, rfl, rfl, fun T H t8 t9 h0 h1 h2 => ?_⟩
      unfold Evl.pv at v0 v1
      unfold Evl.av av0 at *
      dsimp only at v1
      simp -implicitDefEqProofs only [go_sem, s76_7, s76_8, s76_9, t8, t9, h0, h1, h2, v0, c0, v1, c1]
    | false =>
      have v2 := e82 (E := E) { e with lo := 0, hi := 0 } h.thin
      cases c2 : validE { e with lo := 0, hi := 0 } with
      | true =>
        refine ⟨{ e with lo := 0, hi := 0 }, c2, rfl, rfl, rfl, rfl, rfl, rfl, rfl, fun T H t8 t9 h0 h1 h2 => ?_⟩
        unfold Evl.pv at v0 v1 v2
        unfold Evl.av av0 at *
        dsimp only at v1 v2
        simp -implicitDefEqProofs only [go_sem, s76_7, s76_8, s76_9, t8, t9, h0, h1, h2, v0, c0, v1, c1, v2, c2]
      | false =>
        have c3 := validE_end e ⟨h.thin, h.head, h.k, h.b, h.p, Int.le_refl 0, Int.le_refl 0, by have := h.lo; have := h.hi; have := h.top; show 0 ≤ e.b.c; omega⟩
        refine ⟨{ e with lo := 0, hi := 0, q := Bal.zero }, c3, rfl, rfl, rfl, rfl, rfl, rfl, rfl, fun T H t8 t9 h0 h1 h2 => ?_⟩
        unfold Evl.pv at v0 v1 v2
        unfold Evl.av av0 at *
        dsimp only at v1 v2
        simp -implicitDefEqProofs only [go_sem, s76_7, s76_8, s76_9, t8, t9, h0, h1, h2, v0, c0, v1, c1, v2, c2, Bal.zero]
/-- An envelope that has its ballots. -/
structure EnvB (e : Evl) : Prop where
  thin : e.t.thin
  head : headE e = true
  k : e.k = 1
  b : finite e.b = true
  p : optional e.p = true
  c1 : 1 ≤ e.b.c
  c7 : e.b.c ≤ 7
theorem chunk76b (l : List Int) (a : Nat) (e : Evl) (h : EnvB e) (hl : l.length ≤ 800) (ha : a ≤ l.length) : ∃ (e' : Evl) (a' : Nat), a' ≤ l.length ∧ validE e' = true ∧ e'.node = e.node ∧ e'.slot = e.slot ∧ e'.seq = e.seq ∧ e'.t = e.t ∧ e'.k = e.k ∧ e'.b = e.b ∧ e'.p = e.p ∧
    ∀ T H, tget T 0 = .ptr (.ext 0) 0 → tget T 8 = .ptr (.loc 0 0 0) 0 → tget T 9 = .ptr (.loc 1 8 0) 0 → hget H (.ext 0) = some (.box [.p (.sl 1 (l.map (.int .i64))), .p (.int .i64 a)]) → hget H (.loc 0 0 0) = some (.box av0) → hget H (.loc 1 8 0) = some (.box e.av) →
    sexW E 1 (.seq (.reg 19 [{ dst := some 86, op := .mv (.t 0) }, { dst := some 87, op := .faddr 7 (.t 9) }, { dst := some 88, op := .faddr 0 (.t 87) }, { dst := some 89, op := .load false 1 (.t 88) }, { dst := some 90, op := .bin .add (.t 89) (.c (.int .i64 (1))) }, { dst := some 91, op := .call (.f 28) [.t 86, .t 90] }, { dst := some 92, op := .faddr 14 (.t 9) }, { dst := none, op := .store 1 (.t 92) (.t 91) }]) (.seq (.reg 20 [{ dst := some 93, op := .mv (.t 0) }, { dst := some 94, op := .faddr 14 (.t 9) }, { dst := some 95, op := .load false 1 (.t 94) }, { dst := some 96, op := .bin .add (.t 95) (.c (.int .i64 (1))) }, { dst := some 97, op := .call (.f 28) [.t 93, .t 96] }, { dst := some 98, op := .faddr 13 (.t 9) }, { dst := none, op := .store 1 (.t 98) (.t 97) }]) (.seq (.seq (.reg 21 [{ dst := some 99, op := .load true 15 (.t 9) }, { dst := some 100, op := .call (.f 82) [.t 99] }, { dst := some 101, op := .un .not (.t 100) }]) (.trim [8, 9] [8] [] [.loc 0 0 0, .loc 1 8 0] (.cond (.t 101) s76_7 .skip))) (.seq (.seq (.reg 23 [{ dst := some 103, op := .load true 15 (.t 9) }, { dst := some 104, op := .call (.f 82) [.t 103] }, { dst := some 105, op := .un .not (.t 104) }]) (.trim [8, 9] [8] [] [.loc 0 0 0, .loc 1 8 0] (.cond (.t 105) s76_8 .skip))) (.seq (.reg 25 [{ dst := some 107, op := .load true 15 (.t 9) }, { dst := some 108, op := .call (.f 82) [.t 107] }, { dst := some 109, op := .un .not (.t 108) }]) (.trim [8, 9] [8] [] [.loc 0 0 0, .loc 1 8 0] (.cond (.t 109) s76_9 .skip))))))) ⟨T, H⟩ =
    some (.nrm, ⟨[(8, .ptr (.loc 0 0 0) 0), (9, .ptr (.loc 1 8 0) 0)], [(.ext 0, some (.box [.p (.sl 1 (l.map (.int .i64))), .p (.int .i64 a')])), (.loc 0 0 0, some (.box av0)), (.loc 1 8 0, some (.box e'.av))]⟩) := by
  have g1 := h.c1
  have g2 := h.c7
  have b1 := dV_nonneg l a (e.b.c + 1)
  have b2 := dV_lt l a (e.b.c + 1) (by omega)
  have b3 := dV_nonneg l (dA l a (e.b.c + 1)) (dV l a (e.b.c + 1) + 1)
  have b4 := dV_lt l (dA l a (e.b.c + 1)) (dV l a (e.b.c + 1) + 1) (by omega)
  have l1 := dA_le l a (e.b.c + 1) ha
  have e1 := e28 (E := E) l a (e.b.c + 1) hl ha (by omega)
  have e2 := e28 (E := E) l (dA l a (e.b.c + 1)) (dV l a (e.b.c + 1) + 1) hl l1 (by omega)
  have w1 : IntKind.i64.wrap (e.b.c + 1) = e.b.c + 1 := wrap64 (by omega) (by omega)
  have w2 : IntKind.i64.wrap (dV l a (e.b.c + 1) + 1) = dV l a (e.b.c + 1) + 1 := wrap64 (by omega) (by omega)
  obtain ⟨e', p1, p2, p3, p4, p5, p6, p7, p8, hc⟩ := chunk76 (E := E) l (dA l (dA l a (e.b.c + 1)) (dV l a (e.b.c + 1) + 1)) { e with hi := dV l a (e.b.c + 1), lo := dV l (dA l a (e.b.c + 1)) (dV l a (e.b.c + 1) + 1) } ⟨h.thin, h.head, h.k, h.b, h.p, b3, Int.lt_add_one_iff.1 b4, by show dV l a (e.b.c + 1) ≤ e.b.c; omega⟩
  refine ⟨e', dA l (dA l a (e.b.c + 1)) (dV l a (e.b.c + 1) + 1), dA_le l _ _ l1, p1, p2, p3, p4, p5, p6, p7, p8, fun T H t0 t8 t9 h0 h1 h2 => ?_⟩
  unfold Evl.av av0 at *
  dsimp only at hc
  simp -implicitDefEqProofs only [go_sem, ↓hc, t0, t8, t9, h0, h1, h2, e1, e2, w1, w2]
theorem valN_cases (k : Int) (h0 : 0 ≤ k) (h4 : k < 4) : valN k = ⟨#[97]⟩ ∨ valN k = ⟨#[98]⟩ ∨ valN k = ⟨#[99]⟩ ∨ valN k = ⟨#[97, 97]⟩ := by
  have : k = 0 ∨ k = 1 ∨ k = 2 ∨ k = 3 := by omega
  rcases this with rfl | rfl | rfl | rfl
  · exact .inl rfl
  · exact .inr (.inl rfl)
  · exact .inr (.inr (.inl rfl))
  · exact .inr (.inr (.inr rfl))
/-- The values that are made. -/
def isVal (v : ByteArray) : Prop := v = ⟨#[97]⟩ ∨ v = ⟨#[98]⟩ ∨ v = ⟨#[99]⟩ ∨ v = ⟨#[97, 97]⟩
theorem isVal_size {v : ByteArray} (h : isVal v) : 1 ≤ (v.size : Int) ∧ (v.size : Int) ≤ 2 := by
  rcases h with rfl | rfl | rfl | rfl <;> decide
theorem isVal_dV (l : List Int) (a : Nat) : isVal (valN (dV l a 4)) := valN_cases _ (dV_nonneg ..) (dV_lt _ _ _ (by decide))
theorem finite_mk {c : Int} {v : ByteArray} (hc : 1 ≤ c) (hc2 : c ≤ 1000) (hv : isVal v) : finite ⟨c, v⟩ = true := by
  have := isVal_size hv
  simp [finite, validB]
  omega
theorem chunk76c (l : List Int) (a : Nat) (e : Evl) (he : headE { e with k := 1 } = true) (hth : e.t.thin) (hv : isVal e.b.v) (hp : e.p = Bal.zero) (hl : l.length ≤ 800) (ha : a ≤ l.length) : ∃ (e' : Evl) (a' : Nat), a' ≤ l.length ∧ validE e' = true ∧ e'.node = e.node ∧ e'.slot = e.slot ∧ e'.seq = e.seq ∧ e'.t = e.t ∧ e'.k = 1 ∧ e'.b.v = e.b.v ∧ 1 ≤ e'.b.c ∧ e'.b.c ≤ 7 ∧
    ∀ T H v0 c0, tget T 0 = .ptr (.ext 0) 0 → tget T 8 = .ptr (.loc 0 0 0) 0 → tget T 9 = .ptr (.loc 1 8 0) 0 → tget T 10 = .p (.str e.b.v) → hget H (.ext 0) = some (.box [.p (.sl 1 (l.map (.int .i64))), .p (.int .i64 a)]) → hget H (.loc 0 0 0) = some (.box av0) → hget H (.loc 1 8 0) = some (.box ({ e with b := ⟨c0, v0⟩ } : Evl).av) →
    sexW E 1 (.seq (.reg 14 [{ dst := some 68, op := .mv (.t 0) }, { dst := some 69, op := .call (.f 31) [.t 68, .c (.int .i64 (1)), .c (.int .i64 (7))] }, { dst := some 70, op := .mv (.t 10) }, { dst := some 71, op := .build [.c (.int .i64 0), .c (.str ByteArray.empty)] [(0, 1, .t 69), (1, 1, .t 70)] }, { dst := some 72, op := .faddr 6 (.t 9) }, { dst := none, op := .store 1 (.t 72) (.c (.int .i64 (1))) }, { dst := some 73, op := .faddr 7 (.t 9) }, { dst := none, op := .store 2 (.t 73) (.t 71) }]) (.seq (.seq (.reg 15 [{ dst := some 74, op := .mv (.t 0) }, { dst := some 75, op := .call (.f 28) [.t 74, .c (.int .i64 (3))] }, { dst := some 76, op := .bin .gtr (.t 75) (.c (.int .i64 (0))) }]) (.trim [0, 8, 9] [8] [] [.loc 0 0 0, .loc 1 8 0] (.cond (.t 76) s76_6 .skip))) (.seq (.reg 19 [{ dst := some 86, op := .mv (.t 0) }, { dst := some 87, op := .faddr 7 (.t 9) }, { dst := some 88, op := .faddr 0 (.t 87) }, { dst := some 89, op := .load false 1 (.t 88) }, { dst := some 90, op := .bin .add (.t 89) (.c (.int .i64 (1))) }, { dst := some 91, op := .call (.f 28) [.t 86, .t 90] }, { dst := some 92, op := .faddr 14 (.t 9) }, { dst := none, op := .store 1 (.t 92) (.t 91) }]) (.seq (.reg 20 [{ dst := some 93, op := .mv (.t 0) }, { dst := some 94, op := .faddr 14 (.t 9) }, { dst := some 95, op := .load false 1 (.t 94) }, { dst := some 96, op := .bin .add (.t 95) (.c (.int .i64 (1))) }, { dst := some 97, op := .call (.f 28) [.t 93, .t 96] }, { dst := some 98, op := .faddr 13 (.t 9) }, { dst := none, op := .store 1 (.t 98) (.t 97) }]) (.seq (.seq (.reg 21 [{ dst := some 99, op := .load true 15 (.t 9) }, { dst := some 100, op := .call (.f 82) [.t 99] }, { dst := some 101, op := .un .not (.t 100) }]) (.trim [8, 9] [8] [] [.loc 0 0 0, .loc 1 8 0] (.cond (.t 101) s76_7 .skip))) (.seq (.seq (.reg 23 [{ dst := some 103, op := .load true 15 (.t 9) }, { dst := some 104, op := .call (.f 82) [.t 103] }, { dst := some 105, op := .un .not (.t 104) }]) (.trim [8, 9] [8] [] [.loc 0 0 0, .loc 1 8 0] (.cond (.t 105) s76_8 .skip))) (.seq (.reg 25 [{ dst := some 107, op := .load true 15 (.t 9) }, { dst := some 108, op := .call (.f 82) [.t 107] }, { dst := some 109, op := .un .not (.t 108) }]) (.trim [8, 9] [8] [] [.loc 0 0 0, .loc 1 8 0] (.cond (.t 109) s76_9 .skip))))))))) ⟨T, H⟩ =
    some (.nrm, ⟨[(8, .ptr (.loc 0 0 0) 0), (9, .ptr (.loc 1 8 0) 0)], [(.ext 0, some (.box [.p (.sl 1 (l.map (.int .i64))), .p (.int .i64 a')])), (.loc 0 0 0, some (.box av0)), (.loc 1 8 0, some (.box e'.av))]⟩) := by
  have e1 := e31 (E := E) l a 1 7 hl ha (by omega) (by omega) (by omega) (by omega)
  simp only [show (7 : Int) - 1 + 1 = 7 from rfl] at e1
  have l1 := dA_le l a 7 ha
  have e2 := e28 (E := E) l (dA l a 7) 3 hl l1 (by omega)
  have l2 := dA_le l _ 3 l1
  have b1 := dV_nonneg l a 7
  have b2 := dV_lt l a 7 (by decide)
  have fb : finite ⟨1 + dV l a 7, e.b.v⟩ = true := finite_mk (by omega) (by omega) hv
  have oz : optional Bal.zero = true := by decide
  generalize hx2 : dA l (dA l a 7) 3 = x2 at *
  by_cases c1 : 0 < dV l (dA l a 7) 3
  · have e3 := e39 (E := E) l x2 hl l2
    have l3 := dA_le l _ 6 l2
    have l4 := dA_le l _ 4 l3
    have fp : optional ⟨1 + dV l x2 6, valN (dV l (dA l x2 6) 4)⟩ = true := by
      have d1 := dV_nonneg l x2 6
      have d2 := dV_lt l x2 6 (by decide)
      have := finite_mk (c := 1 + dV l x2 6) (by omega) (by omega) (isVal_dV l (dA l x2 6))
      simp [finite] at this
      simp [optional, this.1]
    generalize hx4 : dA l (dA l x2 6) 4 = x4 at *
    have e4 := e28 (E := E) l x4 2 hl l4 (by omega)
    have l5 := dA_le l _ 2 l4
    generalize hx5 : dA l x4 2 = x5 at *
    by_cases c2 : dV l x4 2 = 1
    · have e5 := e39 (E := E) l x5 hl l5
      have l6 := dA_le l _ 6 l5
      have l7 := dA_le l _ 4 l6
      obtain ⟨e', a', q0, q1, q2, q3, q4, q5, q6, q7, q8, hc⟩ := chunk76b (E := E) l (dA l (dA l x5 6) 4) { e with k := 1, b := ⟨1 + dV l a 7, e.b.v⟩, p := ⟨1 + dV l x2 6, valN (dV l (dA l x2 6) 4)⟩, q := ⟨1 + dV l x5 6, valN (dV l (dA l x5 6) 4)⟩ } ⟨hth, he, rfl, fb, fp, by show 1 ≤ 1 + dV l a 7; omega, by show 1 + dV l a 7 ≤ 7; omega⟩ hl l7
      refine ⟨e', a', q0, q1, q2, q3, q4, q5, q6, by rw [q7], by rw [q7]; show 1 ≤ 1 + dV l a 7; omega, by rw [q7]; show 1 + dV l a 7 ≤ 7; omega, fun T H v0 c0 t0 t8 t9 t10 h0 h1 h2 => ?_⟩
      unfold Evl.av av0 at *
      dsimp only at hc h2
      simp -implicitDefEqProofs only [go_sem, ↓hc, s76_5, s76_6, t0, t8, t9, t10, h0, h1, h2, e1, e2, e3, e4, e5, c1, c2]
    · obtain ⟨e', a', q0, q1, q2, q3, q4, q5, q6, q7, q8, hc⟩ := chunk76b (E := E) l x5 { e with k := 1, b := ⟨1 + dV l a 7, e.b.v⟩, p := ⟨1 + dV l x2 6, valN (dV l (dA l x2 6) 4)⟩ } ⟨hth, he, rfl, fb, fp, by show 1 ≤ 1 + dV l a 7; omega, by show 1 + dV l a 7 ≤ 7; omega⟩ hl l5
      refine ⟨e', a', q0, q1, q2, q3, q4, q5, q6, by rw [q7], by rw [q7]; show 1 ≤ 1 + dV l a 7; omega, by rw [q7]; show 1 + dV l a 7 ≤ 7; omega, fun T H v0 c0 t0 t8 t9 t10 h0 h1 h2 => ?_⟩
      unfold Evl.av av0 at *
      dsimp only at hc h2
      simp -implicitDefEqProofs only [go_sem, ↓hc, s76_5, s76_6, t0, t8, t9, t10, h0, h1, h2, e1, e2, e3, e4, c1, c2]
  · obtain ⟨e', a', q0, q1, q2, q3, q4, q5, q6, q7, q8, hc⟩ := chunk76b (E := E) l x2 { e with k := 1, b := ⟨1 + dV l a 7, e.b.v⟩ } ⟨hth, he, rfl, fb, by show optional e.p = true; rw [hp]; exact oz, by show 1 ≤ 1 + dV l a 7; omega, by show 1 + dV l a 7 ≤ 7; omega⟩ hl l2
    refine ⟨e', a', q0, q1, q2, q3, q4, q5, q6, by rw [q7], by rw [q7]; show 1 ≤ 1 + dV l a 7; omega, by rw [q7]; show 1 + dV l a 7 ≤ 7; omega, fun T H v0 c0 t0 t8 t9 t10 h0 h1 h2 => ?_⟩
    unfold Evl.av av0 at *
    dsimp only at hc h2
    simp -implicitDefEqProofs only [go_sem, ↓hc, s76_5, s76_6, t0, t8, t9, t10, h0, h1, h2, e1, e2, c1]
end Go.Ab.S

namespace Go.Ab.S
open Go Go.Ab
variable {E : Env} [EnvS E]

/-- The envelopes that are made. -/
structure EnvG (n : Nat) (e : Evl) : Prop where
  valid : validE e = true
  t : TrG n e.t
  s1 : 1 ≤ e.seq
  s9 : e.seq ≤ 9
  v : isVal e.b.v
  c1 : 1 ≤ e.b.c
  c7 : e.b.c ≤ 7
set_option maxHeartbeats 1000000 in
theorem e76 (l : List Int) (a : Nat) (node slot : Int) (n : Nat) (hl : l.length ≤ 800) (ha : a ≤ l.length) (hn : 1 ≤ n) (hn' : n ≤ 10) (hd : 0 ≤ node) (hd' : node < 10) (hs : 1 ≤ slot) (hs' : slot ≤ 1000000) :
    ∃ (e : Evl) (a' : Nat), a' ≤ l.length ∧ EnvG n e ∧ e.node = node ∧ e.slot = slot ∧ callW E 76 [.ptr (.ext 0) 0, .p (.int .i64 node), .p (.int .i64 slot), .p (.int .i64 n)] [.box [.p (.sl 1 (l.map (.int .i64))), .p (.int .i64 a)]] = some ⟨.p e.pv, [.box [.p (.sl 1 (l.map (.int .i64))), .p (.int .i64 a')]], []⟩ := by
  have e1 := e31 (E := E) l a 1 9 hl ha (by omega) (by omega) (by omega) (by omega)
  simp only [show (9 : Int) - 1 + 1 = 9 from rfl] at e1
  have l1 := dA_le l a 9 ha
  have b1 := dV_nonneg l a 9
  have b2 := dV_lt l a 9 (by decide)
  have e2 := e29 (E := E) l (dA l a 9) n hl l1 hn' hn
  have l2 := trG_le l (dA l a 9) n l1
  have tg := trG_ok l (dA l a 9) n hn hn'
  generalize htt : trG l (dA l a 9) n = tt at *
  obtain ⟨t, x2⟩ := tt
  dsimp only at e2 l2 tg
  have e3 := e30 (E := E) l x2 hl l2
  have l3 := dA_le l x2 4 l2
  have hv := isVal_dV l x2
  generalize hvv : valN (dV l x2 4) = v at *
  generalize hx3 : dA l x2 4 = x3 at *
  have e4 := e28 (E := E) l x3 4 hl l3 (by omega)
  have l4 := dA_le l x3 4 l3
  generalize hx4 : dA l x3 4 = x4 at *
  have b3 := dV_nonneg l x3 4
  generalize hsw : dV l x3 4 = sw at *
  have hz : zeroB Bal.zero = true := by decide
  have hh : ∀ k b p q lo hi, headE ⟨node, slot, 1 + dV l a 9, t, k, b, p, q, lo, hi⟩ = true := by
    intro k b p q lo hi
    simp [headE, tg.ok]
    omega
  by_cases c0 : sw = 0
  · -- commit
    have f1 := e31 (E := E) l x4 1 7 hl l4 (by omega) (by omega) (by omega) (by omega)
    simp only [show (7 : Int) - 1 + 1 = 7 from rfl] at f1
    have m1 := dA_le l x4 7 l4
    have d1 := dV_nonneg l x4 7
    have d1' := dV_lt l x4 7 (by decide)
    generalize hx5 : dA l x4 7 = x5 at *
    have f2 := e31 (E := E) l x5 1 4 hl m1 (by omega) (by omega) (by omega) (by omega)
    simp only [show (4 : Int) - 1 + 1 = 4 from rfl] at f2
    have m2 := dA_le l x5 4 m1
    have d2 := dV_nonneg l x5 4
    have d2' := dV_lt l x5 4 (by decide)
    generalize hx6 : dA l x5 4 = x6 at *
    have f3 := e28 (E := E) l x6 3 hl m2 (by omega)
    have m3 := dA_le l x6 3 m2
    have d3 := dV_nonneg l x6 3
    have d3' := dV_lt l x6 3 (by decide)
    generalize hx7 : dA l x6 3 = x7 at *
    have f4 := e28 (E := E) l x7 3 hl m3 (by omega)
    have m4 := dA_le l x7 3 m3
    have d4 := dV_nonneg l x7 3
    have d4' := dV_lt l x7 3 (by decide)
    generalize hx8 : dA l x7 3 = x8 at *
    have w1 : IntKind.i64.wrap (1 + dV l x5 4 + dV l x6 3) = 1 + dV l x5 4 + dV l x6 3 := wrap64 (by omega) (by omega)
    have w2 : IntKind.i64.wrap (1 + dV l x5 4 + dV l x6 3 + dV l x7 3) = 1 + dV l x5 4 + dV l x6 3 + dV l x7 3 := wrap64 (by omega) (by omega)
    refine ⟨⟨node, slot, 1 + dV l a 9, t, 2, ⟨1 + dV l x4 7, v⟩, ⟨1 + dV l x5 4 + dV l x6 3 + dV l x7 3, v⟩, Bal.zero, 1 + dV l x5 4, 1 + dV l x5 4 + dV l x6 3⟩, x8, m4, ⟨?_, tg, by show 1 ≤ 1 + dV l a 9; omega, by show 1 + dV l a 9 ≤ 9; omega, hv, by show 1 ≤ 1 + dV l x4 7; omega, by show 1 + dV l x4 7 ≤ 7; omega⟩, rfl, rfl, ?_⟩
    · have q1 := finite_mk (c := 1 + dV l x4 7) (by omega) (by omega) hv
      have q2 := finite_mk (c := 1 + dV l x5 4 + dV l x6 3 + dV l x7 3) (by omega) (by omega) hv
      simp only [finite, Bool.and_eq_true] at q2
      unfold validE
      rw [hh]
      simp [q1, q2.1, hz, ranged]
      omega
    · rw [callW_eq, EnvS.h 76 F76 rfl]
      unfold Evl.pv
      simp only [Tr.pv] at e2
      simp -implicitDefEqProofs only [go_sem, F76, s76, s76_10, s76_4, s76_2, s76_1, s76_3, s76_6, s76_5, s76_7, s76_8, s76_9, e1, e2, e3, e4, c0, f1, f2, f3, f4, w1, w2, Bal.zero]
  · have dflt := chunk76c (E := E) l
    by_cases c1 : sw = 1
    · have f0 := e28 (E := E) l x4 3 hl l4 (by omega)
      have m0 := dA_le l x4 3 l4
      generalize hy0 : dA l x4 3 = y0 at *
      by_cases c2 : 0 < dV l x4 3
      · -- external
        have f1 := e31 (E := E) l y0 1 7 hl m0 (by omega) (by omega) (by omega) (by omega)
        simp only [show (7 : Int) - 1 + 1 = 7 from rfl] at f1
        have m1 := dA_le l y0 7 m0
        have d1 := dV_nonneg l y0 7
        have d1' := dV_lt l y0 7 (by decide)
        generalize hx5 : dA l y0 7 = x5 at *
        have f2 := e31 (E := E) l x5 1 4 hl m1 (by omega) (by omega) (by omega) (by omega)
        simp only [show (4 : Int) - 1 + 1 = 4 from rfl] at f2
        have m2 := dA_le l x5 4 m1
        have d2 := dV_nonneg l x5 4
        have d2' := dV_lt l x5 4 (by decide)
        generalize hx6 : dA l x5 4 = x6 at *
        have f3 := e28 (E := E) l x6 3 hl m2 (by omega)
        have m3 := dA_le l x6 3 m2
        have d3 := dV_nonneg l x6 3
        have d3' := dV_lt l x6 3 (by decide)
        generalize hx7 : dA l x6 3 = x7 at *
        have w1 : IntKind.i64.wrap (1 + dV l x5 4 + dV l x6 3) = 1 + dV l x5 4 + dV l x6 3 := wrap64 (by omega) (by omega)
        refine ⟨⟨node, slot, 1 + dV l a 9, t, 3, ⟨1 + dV l y0 7, v⟩, Bal.zero, Bal.zero, 1 + dV l x5 4, 1 + dV l x5 4 + dV l x6 3⟩, x7, m3, ⟨?_, tg, by show 1 ≤ 1 + dV l a 9; omega, by show 1 + dV l a 9 ≤ 9; omega, hv, by show 1 ≤ 1 + dV l y0 7; omega, by show 1 + dV l y0 7 ≤ 7; omega⟩, rfl, rfl, ?_⟩
        · have q1 := finite_mk (c := 1 + dV l y0 7) (by omega) (by omega) hv
          simp only [finite, Bool.and_eq_true] at q1
          unfold validE
          rw [hh]
          simp [q1.1, hz, ranged]
          omega
        · rw [callW_eq, EnvS.h 76 F76 rfl]
          unfold Evl.pv
          simp only [Tr.pv] at e2
          simp -implicitDefEqProofs only [go_sem, F76, s76, s76_10, s76_4, s76_2, s76_1, s76_3, s76_6, s76_5, s76_7, s76_8, s76_9, e1, e2, e3, e4, c0, c1, c2, f0, f1, f2, f3, w1, Bal.zero]
      · obtain ⟨e', a', q0, q1, q2, q3, q4, q5, q6, q7, q8, q9, hc⟩ := dflt y0 ⟨node, slot, 1 + dV l a 9, t, 0, ⟨0, v⟩, Bal.zero, Bal.zero, 0, 0⟩ (hh ..) tg.thin hv rfl hl m0
        refine ⟨e', a', q0, ⟨q1, by rw [q5]; exact tg, by rw [q4]; show 1 ≤ 1 + dV l a 9; omega, by rw [q4]; show 1 + dV l a 9 ≤ 9; omega, by rw [q7]; exact hv, q8, q9⟩, q2, q3, ?_⟩
        rw [callW_eq, EnvS.h 76 F76 rfl]
        simp only [Tr.pv] at e2
        unfold Evl.pv
        replace hc := fun T H => hc T H ByteArray.empty 0
        unfold Evl.av av0 Bal.zero at hc
        dsimp only at hc
        simp -implicitDefEqProofs only [go_sem, ↓hc, F76, s76, s76_10, s76_4, s76_2, s76_1, s76_3, e1, e2, e3, e4, c0, c1, c2, f0, tg.thin]
    · obtain ⟨e', a', q0, q1, q2, q3, q4, q5, q6, q7, q8, q9, hc⟩ := dflt x4 ⟨node, slot, 1 + dV l a 9, t, 0, ⟨0, v⟩, Bal.zero, Bal.zero, 0, 0⟩ (hh ..) tg.thin hv rfl hl l4
      refine ⟨e', a', q0, ⟨q1, by rw [q5]; exact tg, by rw [q4]; show 1 ≤ 1 + dV l a 9; omega, by rw [q4]; show 1 + dV l a 9 ≤ 9; omega, by rw [q7]; exact hv, q8, q9⟩, q2, q3, ?_⟩
      rw [callW_eq, EnvS.h 76 F76 rfl]
      simp only [Tr.pv] at e2
      unfold Evl.pv
      replace hc := fun T H => hc T H ByteArray.empty 0
      unfold Evl.av av0 Bal.zero at hc
      dsimp only at hc
      simp -implicitDefEqProofs only [go_sem, ↓hc, F76, s76, s76_10, s76_4, s76_2, s76_1, s76_3, e1, e2, e3, e4, c0, c1, tg.thin]
end Go.Ab.S

namespace Go.Ab.S
open Go Go.Ab
/-! ### Sorted lists in which nothing stands twice -/
section
variable {α : Type} [DecidableEq α] [Inhabited α] {lt : α → α → Bool}
theorem keepNew_sub : ∀ {l : List α} {a x : α}, x ∈ keepNew a l → x ∈ l
  | [], a, x, h => by simp [keepNew] at h
  | y :: r, a, x, h => by
    unfold keepNew at h
    by_cases e : y = a
    · rw [if_pos e] at h
      exact List.mem_cons_of_mem _ (keepNew_sub h)
    · rw [if_neg e] at h
      rcases List.mem_cons.1 h with h | h
      · subst h; exact List.mem_cons_self
      · exact List.mem_cons_of_mem _ (keepNew_sub h)
theorem keepNew_mem : ∀ {l : List α} {a x : α}, x ∈ l → x = a ∨ x ∈ keepNew a l
  | [], a, x, h => by cases h
  | y :: r, a, x, h => by
    unfold keepNew
    by_cases e : y = a
    · rw [if_pos e]
      rcases List.mem_cons.1 h with h | h
      · exact .inl (h.trans e)
      · subst e; exact keepNew_mem h
    · rw [if_neg e]
      rcases List.mem_cons.1 h with h | h
      · subst h; exact .inr List.mem_cons_self
      · rcases keepNew_mem (a := y) h with h | h
        · subst h; exact .inr List.mem_cons_self
        · exact .inr (List.mem_cons_of_mem _ h)
theorem compactL_mem {l : List α} {x : α} : x ∈ compactL l ↔ x ∈ l := by
  cases l with
  | nil => simp [compactL]
  | cons a r =>
    simp only [compactL, List.mem_cons]
    constructor
    · rintro (h | h)
      · exact .inl h
      · exact .inr (keepNew_sub h)
    · rintro (h | h)
      · exact .inl h
      · exact keepNew_mem h
theorem keepNew_sorted (hs : Go.Sort.SWO lt) (ht : ∀ x y, lt x y = false → lt y x = false → x = y) : ∀ {l : List α} {a : α}, (a :: l).Pairwise (fun x y => lt y x = false) → (a :: keepNew a l).Pairwise (fun x y => lt x y = true)
  | [], a, _ => by simp [keepNew]
  | y :: r, a, h => by
    obtain ⟨h1, h2⟩ := List.pairwise_cons.1 h
    unfold keepNew
    split
    · rename_i e
      subst e
      exact keepNew_sorted hs ht h2
    · rename_i e
      have ih := keepNew_sorted hs ht h2
      refine List.pairwise_cons.2 ⟨fun z hz => ?_, ih⟩
      have hay : lt a y = true := by
        cases hl : lt a y with
        | true => rfl
        | false => exact absurd (ht a y hl (h1 y List.mem_cons_self)).symm e
      rcases List.mem_cons.1 hz with rfl | hz
      · exact hay
      · exact hs.trans _ _ _ hay ((List.pairwise_cons.1 ih).1 z hz)
/-- A list sorted, what stands twice left out. -/
def uniqG (lt : α → α → Bool) (l : List α) : List α := compactL (Go.Sort.sort lt l.toArray).toList
theorem sort_mem (hs : Go.Sort.SWO lt) {l : List α} {x : α} : x ∈ (Go.Sort.sort lt l.toArray).toList ↔ x ∈ l := by
  obtain ⟨⟨h1, _, h2⟩, _⟩ := Go.Sort.sort_sorts lt hs l.toArray
  have e1 : (l.toArray.extract 0 l.toArray.size).toList = l := by simp
  have e2 : ((Go.Sort.sort lt l.toArray).extract 0 l.toArray.size) = Go.Sort.sort lt l.toArray := by rw [← h1]; simp
  rw [e1, e2] at h2
  exact h2.mem_iff
theorem uniqG_mem (hs : Go.Sort.SWO lt) {l : List α} {x : α} : x ∈ uniqG lt l ↔ x ∈ l := by
  unfold uniqG
  rw [compactL_mem, sort_mem hs]
theorem uniqG_sorted (hs : Go.Sort.SWO lt) (ht : ∀ x y, lt x y = false → lt y x = false → x = y) (l : List α) : (uniqG lt l).Pairwise (fun x y => lt x y = true) := by
  obtain ⟨⟨h1, _, _⟩, h3⟩ := Go.Sort.sort_sorts lt hs l.toArray
  have hp : (Go.Sort.sort lt l.toArray).toList.Pairwise (fun x y => lt y x = false) := by
    rw [List.pairwise_iff_getElem]
    intro i j hi hj hij
    have hi' : i < (Go.Sort.sort lt l.toArray).size := by simpa using hi
    have hj' : j < (Go.Sort.sort lt l.toArray).size := by simpa using hj
    have := h3 i j (by omega) hij (by omega)
    simpa [hi', hj'] using this
  unfold uniqG
  generalize (Go.Sort.sort lt l.toArray).toList = m at hp
  cases m with
  | nil => simp [compactL]
  | cons a r => exact keepNew_sorted hs ht hp
theorem keepNew_len : ∀ (l : List α) (a : α), (keepNew a l).length ≤ l.length
  | [], a => Nat.le_refl _
  | y :: r, a => by
    unfold keepNew
    split
    · have := keepNew_len r y; simp; omega
    · have := keepNew_len r y; simp; omega
theorem uniqG_len (hs : Go.Sort.SWO lt) (l : List α) : (uniqG lt l).length ≤ l.length := by
  have h : (Go.Sort.sort lt l.toArray).toList.length = l.length := by
    have := (Go.Sort.sort_sorts lt hs l.toArray).1.1
    simpa using this
  unfold uniqG
  generalize (Go.Sort.sort lt l.toArray).toList = m at h
  cases m with
  | nil => simp [compactL]
  | cons a r => simp only [compactL, List.length_cons] at h ⊢; have := keepNew_len r a; omega
end
theorem uniqI_eq (l : List Int) : uniqI l = uniqG ltI l := rfl
theorem uniqB_eq (l : List Bal) : SB.uniqB l = uniqG SB.ltB l := rfl
theorem uniqV_eq (l : List ByteArray) : SV.uniqV l = uniqG SV.ltV l := rfl
end Go.Ab.S

namespace Go.Ab.S
open Go Go.Ab
variable {E : Env} [EnvS E]

/-- The chapter's example. -/
def saneE : Evl := ⟨0, 1, 1, ⟨2, upto 3 0, []⟩, 1, ⟨3, ⟨#[97]⟩⟩, ⟨3, ⟨#[97]⟩⟩, Bal.zero, 2, 3⟩
theorem saneE_thin : saneE.t.thin := ⟨by decide, by decide, by simp [saneE]⟩
theorem e27 : callW E 27 [] [] = some ⟨.p (.bool true), [], []⟩ := by
  have h1 := e81 (E := E) saneE saneE_thin
  have h2 := e26 (E := E) saneE saneE_thin ⟨#[97]⟩ 2 3
  have h3 := e87 (E := E) saneE saneE_thin ⟨#[97]⟩ 2 3
  have h4 := e83 (E := E) saneE saneE_thin
  have v1 : validE saneE = true := by decide
  have v2 : votC saneE ⟨#[97]⟩ 2 3 = true := by decide
  have v3 : accC saneE ⟨#[97]⟩ 2 3 = false := by decide
  have v4 : countE saneE = 3 := by decide
  rw [v1] at h1 h2 h3 h4
  rw [v2] at h2
  rw [v3] at h3
  rw [v4] at h4
  have h0 := e36 (E := E) 3 2 (by decide)
  unfold Evl.pv at h1 h2 h3 h4
  unfold Tr.pv at h0
  simp only [saneE, Bal.zero, Bool.and_true, Bool.and_false, if_true, List.map_nil, cast_lit] at h0 h1 h2 h3 h4
  rw [callW_eq, EnvS.h 27 F27 rfl]
  simp -implicitDefEqProofs only [go_sem, F27, s27, h0, h1, h2, h3, h4]

end Go.Ab.S

namespace Go.Ab.S
open Go Go.Ab
variable {E : Env} [EnvS E]

/-! ### Envelopes of some nodes -/
structure EnvLs (i : Nat) (es : List Evl) : Prop where
  len : es.length ≤ i
  g : ∀ e ∈ es, EnvG 5 e ∧ e.slot = 1 ∧ 0 ≤ e.node ∧ e.node < i
  asc : es.Pairwise fun a b => a.node < b.node
theorem EnvLs.nil : EnvLs 0 [] := ⟨Nat.le_refl _, (fun _ h => by cases h), List.Pairwise.nil⟩
theorem EnvLs.skip {i : Nat} {es : List Evl} (h : EnvLs i es) : EnvLs (i + 1) es := ⟨by have := h.len; omega, fun e he => by obtain ⟨h1, h2, h3, h4⟩ := h.g e he; exact ⟨h1, h2, h3, by omega⟩, h.asc⟩
theorem EnvLs.add {i : Nat} {es : List Evl} (h : EnvLs i es) {e : Evl} (g : EnvG 5 e) (hs : e.slot = 1) (hn : e.node = (i : Int)) : EnvLs (i + 1) (es ++ [e]) := by
  refine ⟨by have := h.len; simp; omega, fun e' he => ?_, ?_⟩
  · rcases List.mem_append.1 he with he | he
    · obtain ⟨h1, h2, h3, h4⟩ := h.g e' he; exact ⟨h1, h2, h3, by omega⟩
    · rw [List.mem_singleton.1 he]; exact ⟨g, hs, by omega, by omega⟩
  · refine List.pairwise_append.2 ⟨h.asc, by simp, fun a ha b hb => ?_⟩
    rw [List.mem_singleton.1 hb, hn]
    exact (h.g a ha).2.2.2
theorem EnvLs.thin {i : Nat} {es : List Evl} (h : EnvLs i es) : ∀ e ∈ es, e.t.thin := fun e he => (h.g e he).1.t.thin
theorem EnvLs.valid {i : Nat} {es : List Evl} (h : EnvLs i es) : ∀ e ∈ es, validE e = true := fun e he => (h.g e he).1.valid
theorem loop18 (l : List Int) (hl : l.length ≤ 800) : ∀ (k i a : Nat) (es : List Evl), i + k = 5 → a ≤ l.length → EnvLs i es →
    ∃ (es' : List Evl) (a' : Nat), a' ≤ l.length ∧ EnvLs 5 es' ∧
    loopW E 1 [0, 1, 2, 7, 8] [.loc 1 0 0] (.trim [0, 1, 2, 7, 8] [6] [(0, [7])] [.loc 1 0 0] s18_3) (some ⟨[(0, .ptr (.ext 0) 0), (1, .p (.int .i64 5)), (2, .p (.int .i64 1)), (7, .hsl (.loc 1 0 0) 0 es.length), (8, .p (.int .i64 i))], [(.ext 0, some (.box [.p (.sl 1 (l.map (.int .i64))), .p (.int .i64 a)])), (.loc 1 0 0, some (.parr (es.map Evl.pv) 15 false))]⟩) =
    some (.ex 0, ⟨[(7, .hsl (.loc 1 0 0) 0 es'.length)], [(.ext 0, some (.box [.p (.sl 1 (l.map (.int .i64))), .p (.int .i64 a')])), (.loc 1 0 0, some (.parr (es'.map Evl.pv) 15 false))]⟩) := by
  generalize hK : loopW E 1 _ _ _ = K
  intro k
  induction k with
  | zero =>
    intro i a es hi ha hI
    have : i = 5 := by omega
    subst this
    refine ⟨es, a, ha, hI, ?_⟩
    rw [← hK, loopW_some, hK]
    simp -implicitDefEqProofs only [go_sem, s18_3, s18_2, s18_1]
  | succ k ih =>
    intro i a es hi ha hI
    have f1 : (i : Int) < 5 := by omega
    have f3 : IntKind.i64.wrap ((i : Int) + 1) = ((i + 1 : Nat) : Int) := wrap64 (by omega) (by omega)
    have e1 := e28 (E := E) l a 4 hl ha (by decide)
    have b1 := dV_nonneg l a 4
    have l1 := dA_le l a 4 ha
    by_cases h : 0 < dV l a 4
    · obtain ⟨e, a2, l2, g, n1, n2, e2⟩ := e76 (E := E) l (dA l a 4) i 1 5 hl l1 (by decide) (by decide) (by omega) (by omega) (by omega) (by omega)
      obtain ⟨es', a', r1, r2, r3⟩ := ih (i + 1) a2 (es ++ [e]) (by omega) l2 (hI.add g n2 n1)
      refine ⟨es', a', r1, r2, ?_⟩
      have hm : es.length + 1 ≤ most := by have := hI.len; unfold most; omega
      rw [List.map_append, List.length_append] at r3
      simp only [List.map_cons, List.map_nil, List.length_cons, List.length_nil, Nat.zero_add] at r3
      rw [show ((5 : Nat) : Int) = 5 from rfl] at e2
      unfold Evl.pv at *
      rw [← hK, loopW_some, hK]
      simp -implicitDefEqProofs only [go_sem, s18_3, s18_2, s18_1, f1, f3, e1, h, e2, hm]
      exact r3
    · obtain ⟨es', a', r1, r2, r3⟩ := ih (i + 1) (dA l a 4) es (by omega) l1 hI.skip
      refine ⟨es', a', r1, r2, ?_⟩
      rw [← hK, loopW_some, hK]
      simp -implicitDefEqProofs only [go_sem, s18_3, s18_2, s18_1, f1, f3, e1, h]
      exact r3
theorem e18 (l : List Int) (a : Nat) (hl : l.length ≤ 800) (ha : a ≤ l.length) : ∃ (es : List Evl) (a' : Nat), a' ≤ l.length ∧ EnvLs 5 es ∧
    callW E 18 [.ptr (.ext 0) 0, .p (.int .i64 5), .p (.int .i64 1)] [.box [.p (.sl 1 (l.map (.int .i64))), .p (.int .i64 a)]] = some ⟨.p (.sl 15 (es.map Evl.pv)), [.box [.p (.sl 1 (l.map (.int .i64))), .p (.int .i64 a')]], []⟩ := by
  obtain ⟨es, a', r1, r2, lp⟩ := loop18 (E := E) l hl 5 0 a [] (by omega) ha EnvLs.nil
  refine ⟨es, a', r1, r2, ?_⟩
  simp only [Int.natCast_zero, List.length_nil, List.map_nil] at lp
  rw [callW_eq, EnvS.h 18 F18 rfl]
  simp -implicitDefEqProofs only [go_sem, F18, s18, s18_4, lp]

/-! ### What the lists are -/
theorem lessV_lt (a b : ByteArray) : SV.ltV a b = lessV a b := by
  have h := less_eq ⟨0, a⟩ ⟨0, b⟩
  simp only [if_true] at h
  rw [← h]
  unfold SV.ltV less cmpB
  simp [cmpI, or2]
theorem balsN_sorted (l : List Evl) : (balsN l).Pairwise fun x y => less y x = true :=
  uniqG_sorted SB.swo_ltB (fun x y h1 h2 => less_total h2 h1) _
theorem balsN_mem {l : List Evl} {x : Bal} : x ∈ balsN l ↔ zeroB x = false ∧ ∃ e ∈ l, validE e = true ∧ x ∈ balsOf e := by
  unfold balsN
  rw [uniqB_eq, uniqG_mem SB.swo_ltB, List.mem_filter]
  simp only [balsL, List.mem_flatMap, List.mem_filter, Bool.not_eq_true']
  constructor
  · rintro ⟨⟨e, ⟨h1, h2⟩, h3⟩, h4⟩; exact ⟨h4, e, h1, h2, h3⟩
  · rintro ⟨h4, e, h1, h2, h3⟩; exact ⟨⟨e, ⟨h1, h2⟩, h3⟩, h4⟩
theorem valsN_sorted (l : List Evl) : (valsN l).Pairwise fun x y => lessV x y = true := by
  have := uniqG_sorted SV.swo_ltV (fun x y h1 h2 => by rw [lessV_lt] at h1 h2; exact lv_total h1 h2) ((l.filter validE).map fun e => e.b.v)
  simp only [lessV_lt] at this
  exact this
theorem valsN_mem {l : List Evl} {v : ByteArray} : v ∈ valsN l ↔ ∃ e ∈ l, validE e = true ∧ e.b.v = v := by
  unfold valsN
  rw [uniqV_eq, uniqG_mem SV.swo_ltV]
  simp only [List.mem_map, List.mem_filter]
  constructor
  · rintro ⟨e, ⟨h1, h2⟩, h3⟩; exact ⟨e, h1, h2, h3⟩
  · rintro ⟨e, h1, h2, h3⟩; exact ⟨e, ⟨h1, h2⟩, h3⟩
theorem bndsN_sorted (l : List Evl) (v : ByteArray) : (bndsN l v).Pairwise fun x y => x < y := by
  have := uniqG_sorted swo_ltI (fun x y h1 h2 => by simp [ltI] at h1 h2; omega) (bndL v l)
  simpa [ltI, bndsN, uniqI_eq] using this
theorem bndsN_mem {l : List Evl} {v : ByteArray} {n : Int} : n ∈ bndsN l v ↔ ∃ e ∈ l, bndP v e = true ∧ (n = e.lo ∨ n = e.hi) := by
  unfold bndsN
  rw [uniqI_eq, uniqG_mem swo_ltI]
  simp only [bndL, List.mem_flatMap, List.mem_filter, List.mem_cons, List.not_mem_nil, or_false]
  constructor
  · rintro ⟨e, ⟨h1, h2⟩, h3⟩; exact ⟨e, h1, h2, h3⟩
  · rintro ⟨e, h1, h2, h3⟩; exact ⟨e, ⟨h1, h2⟩, h3⟩
/-- The range of a valid envelope. -/
theorem valid_range {e : Evl} (h : validE e = true) (h0 : e.lo ≠ 0) : 1 ≤ e.lo ∧ e.lo ≤ e.hi := by
  simp only [validE, Bool.and_eq_true] at h
  obtain ⟨_, h⟩ := h
  split at h
  · simp only [prepE, Bool.and_eq_true, decide_eq_true_eq] at h; omega
  · split at h
    · simp only [ranged, Bool.and_eq_true, decide_eq_true_eq] at h; omega
    · split at h
      · simp only [ranged, Bool.and_eq_true, decide_eq_true_eq] at h; omega
      · cases h
theorem bnd_voted {e : Evl} {v : ByteArray} {n : Int} (h : bndP v e = true) (hn : n = e.lo ∨ n = e.hi) : votC e v n n = true := by
  simp only [bndP, Bool.and_eq_true, Bool.not_eq_true', decide_eq_true_eq, decide_eq_false_iff_not] at h
  obtain ⟨h1, h2, h3⟩ := h
  obtain ⟨r1, r2⟩ := valid_range h1 h3
  simp only [votC, fromE, Bool.and_eq_true, Bool.or_eq_true, Bool.not_eq_true', decide_eq_true_eq, decide_eq_false_iff_not]
  exact ⟨⟨⟨⟨by omega, by omega⟩, h2⟩, by omega⟩, .inr ⟨h3, by omega⟩⟩
theorem bals_voted {e : Evl} {x : Bal} (hv : validE e = true) (hz : zeroB x = false) (hx : x ∈ balsOf e) : votP e x = true ∨ accP e x = true := by
  unfold balsOf at hx
  simp only [votP, accP, hz, Bool.false_eq_true, if_false]
  split at hx
  · rename_i hk
    simp only [hk, if_true]
    simp only [List.mem_cons, List.not_mem_nil, or_false] at hx
    rcases hx with rfl | rfl | rfl
    · exact .inl (covers_self hz)
    · exact .inr (by simp [prepares, covers_self hz])
    · exact .inr (by simp [prepares, covers_self hz])
  · rename_i hk
    simp only [hk, if_false]
    split at hx
    · rename_i hk2
      simp only [hk2, if_true]
      simp only [List.mem_cons, List.not_mem_nil, or_false] at hx
      rcases hx with rfl | rfl
      · exact .inr (covers_self hz)
      · exact .inl (by simp)
    · simp only [List.mem_cons, List.not_mem_nil, or_false] at hx
      subst hx
      exact .inl (by simp)
end Go.Ab.S

namespace Go.Ab.S
open Go Go.Ab
variable {E : Env} [EnvS E]

/-! ### EnvelopesLists -/
def votedB (x : Bal) (e : Evl) : Bool := (validE e && votP e x) || (validE e && accP e x)
theorem loop3a (l : List Evl) (hl : l.length < 4000) (hth : ∀ e ∈ l, e.t.thin) (x : Bal) (p5 p6 p28 p29 p30 : PV) (v0 : Bool) :
    loopW E 0 [4, 5, 6, 8, 9, 28, 29, 30, 47, 48, 49] [.loc 6 3 0] (.trim [4, 5, 6, 8, 9, 28, 29, 30, 47, 48, 49] [2] [(2, [4, 5, 6, 9, 28, 29, 30])] [.loc 6 3 0] s3_3) (some ⟨[(4, .p (.sl 15 (l.map Evl.pv))), (5, .p p5), (6, .p p6), (8, .ptr (.loc 6 3 0) 0), (9, .p (.bool v0)), (28, .p p28), (29, .p p29), (30, .p p30), (47, .p (.sl 15 (l.map Evl.pv))), (48, .p (.int .i64 l.length)), (49, .p (.int .i64 0))], [(.loc 6 3 0, some (.box [.p (.int .i64 x.c), .p (.str x.v)]))]⟩) =
    some (.ex 2, ⟨[(4, .p (.sl 15 (l.map Evl.pv))), (5, .p p5), (6, .p p6), (9, .p (.bool (v0 || l.any (votedB x)))), (28, .p p28), (29, .p p29), (30, .p p30)], [(.loc 6 3 0, some (.box [.p (.int .i64 x.c), .p (.str x.v)]))]⟩) := by
  have key := range_loop (loopW E 0 [4, 5, 6, 8, 9, 28, 29, 30, 47, 48, 49] [.loc 6 3 0] (.trim [4, 5, 6, 8, 9, 28, 29, 30, 47, 48, 49] [2] [(2, [4, 5, 6, 9, 28, 29, 30])] [.loc 6 3 0] s3_3)) l
    (fun i (v : Bool) => ⟨[(4, .p (.sl 15 (l.map Evl.pv))), (5, .p p5), (6, .p p6), (8, .ptr (.loc 6 3 0) 0), (9, .p (.bool v)), (28, .p p28), (29, .p p29), (30, .p p30), (47, .p (.sl 15 (l.map Evl.pv))), (48, .p (.int .i64 l.length)), (49, .p (.int .i64 i))], [(.loc 6 3 0, some (.box [.p (.int .i64 x.c), .p (.str x.v)]))]⟩)
    (fun v r => some (.ex 2, ⟨[(4, .p (.sl 15 (l.map Evl.pv))), (5, .p p5), (6, .p p6), (9, .p (.bool (v || r.any (votedB x)))), (28, .p p28), (29, .p p29), (30, .p p30)], [(.loc 6 3 0, some (.box [.p (.int .i64 x.c), .p (.str x.v)]))]⟩))
  refine key ?_ ?_ v0
  · intro v
    rw [loopW_some]
    generalize hK : loopW E 0 _ _ _ = K
    simp -implicitDefEqProofs only [go_sem, s3_3, s3_2, List.any_nil]
  · intro i v e r hx hi ih
    obtain ⟨f1, f2, f3⟩ := rangeFacts i l.length hi (by omega)
    have e1 := e22 (E := E) e (hth e (List.mem_of_getElem? hx)) x
    have e2 := e23 (E := E) e (hth e (List.mem_of_getElem? hx)) x
    have ih' := ih (v || votedB x e)
    rw [Bool.or_assoc, ← List.any_cons] at ih'
    unfold votedB at ih' ⊢
    rw [loopW_some]
    generalize hK : loopW E 0 _ _ _ = K at ih' ⊢
    unfold Evl.pv at *
    cases v with
    | true =>
      simp -implicitDefEqProofs only [go_sem, s3_3, s3_2, hx, f1, f2, f3] at ih' ⊢
      exact ih'
    | false =>
      generalize hb1 : (validE e && votP e x) = b1 at *
      generalize hb2 : (validE e && accP e x) = b2 at *
      cases b1 with
      | true =>
        simp -implicitDefEqProofs only [go_sem, s3_3, s3_2, hx, f1, f2, f3, e1] at ih' ⊢
        exact ih'
      | false =>
        cases b2 with
        | true =>
          simp -implicitDefEqProofs only [go_sem, s3_3, s3_2, hx, f1, f2, f3, e1, e2] at ih' ⊢
          exact ih'
        | false =>
          simp -implicitDefEqProofs only [go_sem, s3_3, s3_2, hx, f1, f2, f3, e1, e2] at ih' ⊢
          exact ih'

theorem loop3A (l : List Evl) (hl : l.length < 4000) (hth : ∀ e ∈ l, e.t.thin) (bs : List Bal) (hb : bs.length < 4000) (hs : bs.Pairwise fun x y => less y x = true) (hv : ∀ x ∈ bs, l.any (votedB x) = true) (p6 : PV) :
    loopW E 0 [4, 5, 6, 28, 29, 30] [] (.trim [4, 5, 6, 28, 29, 30] [2] [(0, [4, 6])] [] s3_7) (some ⟨[(4, .p (.sl 15 (l.map Evl.pv))), (5, .p (.sl 2 (bs.map Bal.pv))), (6, .p p6), (28, .p (.sl 2 (bs.map Bal.pv))), (29, .p (.int .i64 bs.length)), (30, .p (.int .i64 0))], []⟩) =
    some (.ex 0, ⟨[(4, .p (.sl 15 (l.map Evl.pv))), (6, .p p6)], []⟩) := by
  have key := range_loop (loopW E 0 [4, 5, 6, 28, 29, 30] [] (.trim [4, 5, 6, 28, 29, 30] [2] [(0, [4, 6])] [] s3_7)) bs
    (fun i (_ : Unit) => ⟨[(4, .p (.sl 15 (l.map Evl.pv))), (5, .p (.sl 2 (bs.map Bal.pv))), (6, .p p6), (28, .p (.sl 2 (bs.map Bal.pv))), (29, .p (.int .i64 bs.length)), (30, .p (.int .i64 i))], []⟩)
    (fun _ _ => some (.ex 0, ⟨[(4, .p (.sl 15 (l.map Evl.pv))), (6, .p p6)], []⟩))
  refine key ?_ ?_ ()
  · intro v
    rw [loopW_some]
    generalize hK : loopW E 0 _ _ _ = K
    simp -implicitDefEqProofs only [go_sem, s3_7, s3_6, s3_1, s3_4, s3_5]
  · intro i _ x r hx hi ih
    obtain ⟨f1, f2, f3⟩ := rangeFacts i bs.length hi (by omega)
    have ih' := ih ()
    have hvx := hv x (List.mem_of_getElem? hx)
    have lp := loop3a (E := E) l hl hth x (.sl 2 (bs.map Bal.pv)) p6 (.sl 2 (bs.map Bal.pv)) (.int .i64 bs.length) (.int .i64 i) false
    rw [hvx, Bool.or_true] at lp
    rw [loopW_some]
    generalize hK : loopW E 0 _ _ _ = K at ih' ⊢
    try dsimp only at ih' ⊢
    unfold Bal.pv at *
    cases i with
    | zero =>
      have g1 : (0 : Int) < (bs.length : Int) := by omega
      have g3 : IntKind.i64.wrap ((0 : Int) + 1) = 1 := by decide
      simp only [Int.natCast_zero, Nat.zero_add, Int.natCast_one] at lp ih' ⊢
      simp -implicitDefEqProofs only [go_sem, s3_7, s3_6, s3_1, s3_4, s3_5, hx, g1, g3, lp, Int.lt_irrefl]
      exact ih'
    | succ j =>
      have f0 : (0 : Int) < ((j + 1 : Nat) : Int) := by omega
      have f4 : IntKind.i64.wrap (((j + 1 : Nat) : Int) - 1) = (j : Int) := by rw [wrap64 (by omega) (by omega)]; omega
      have f5 : (0 : Int) ≤ (j : Int) := by omega
      obtain ⟨y, hy⟩ : ∃ y, bs[j]? = some y := ⟨bs[j]'(by omega), List.getElem?_eq_getElem (by omega)⟩
      have hlt : less x y = true := by
        have h1 := List.pairwise_iff_getElem.1 hs j (j + 1) (by omega) hi (by omega)
        rw [List.getElem?_eq_getElem (by omega)] at hx hy
        rw [Option.some.injEq] at hx hy
        rw [hx, hy] at h1
        exact h1
      have e1 := e21 (E := E) x y
      rw [hlt] at e1
      simp -implicitDefEqProofs only [go_sem, s3_7, s3_6, s3_1, s3_4, s3_5, hx, hy, f1, f2, f3, f0, f4, f5, e1, lp]
      exact ih'

def votedC (x : ByteArray) (y : Int) (e : Evl) : Bool := validE e && votC e x y y
theorem loop3b (l : List Evl) (hl : l.length < 4000) (hth : ∀ e ∈ l, e.t.thin) (x : ByteArray) (y : Int) (p6 p14 p68 p69 p70 p90 p91 p92 : PV) (v0 : Bool) :
    loopW E 0 [4, 6, 13, 14, 16, 17, 68, 69, 70, 90, 91, 92, 108, 109, 110] [] (.trim [4, 6, 13, 14, 16, 17, 68, 69, 70, 90, 91, 92, 108, 109, 110] [2] [(8, [4, 6, 13, 14, 17, 68, 69, 70, 90, 91, 92])] [] s3_12) (some ⟨[(4, .p (.sl 15 (l.map Evl.pv))), (6, .p p6), (13, .p (.str x)), (14, .p p14), (16, .p (.int .i64 y)), (17, .p (.bool v0)), (68, .p p68), (69, .p p69), (70, .p p70), (90, .p p90), (91, .p p91), (92, .p p92), (108, .p (.sl 15 (l.map Evl.pv))), (109, .p (.int .i64 l.length)), (110, .p (.int .i64 0))], []⟩) =
    some (.ex 8, ⟨[(4, .p (.sl 15 (l.map Evl.pv))), (6, .p p6), (13, .p (.str x)), (14, .p p14), (17, .p (.bool (v0 || l.any (votedC x y)))), (68, .p p68), (69, .p p69), (70, .p p70), (90, .p p90), (91, .p p91), (92, .p p92)], []⟩) := by
  have key := range_loop (loopW E 0 [4, 6, 13, 14, 16, 17, 68, 69, 70, 90, 91, 92, 108, 109, 110] [] (.trim [4, 6, 13, 14, 16, 17, 68, 69, 70, 90, 91, 92, 108, 109, 110] [2] [(8, [4, 6, 13, 14, 17, 68, 69, 70, 90, 91, 92])] [] s3_12)) l
    (fun i (v : Bool) => ⟨[(4, .p (.sl 15 (l.map Evl.pv))), (6, .p p6), (13, .p (.str x)), (14, .p p14), (16, .p (.int .i64 y)), (17, .p (.bool v)), (68, .p p68), (69, .p p69), (70, .p p70), (90, .p p90), (91, .p p91), (92, .p p92), (108, .p (.sl 15 (l.map Evl.pv))), (109, .p (.int .i64 l.length)), (110, .p (.int .i64 i))], []⟩)
    (fun v r => some (.ex 8, ⟨[(4, .p (.sl 15 (l.map Evl.pv))), (6, .p p6), (13, .p (.str x)), (14, .p p14), (17, .p (.bool (v || r.any (votedC x y)))), (68, .p p68), (69, .p p69), (70, .p p70), (90, .p p90), (91, .p p91), (92, .p p92)], []⟩))
  refine key ?_ ?_ v0
  · intro v
    rw [loopW_some]
    generalize hK : loopW E 0 _ _ _ = K
    simp -implicitDefEqProofs only [go_sem, s3_12, s3_11, List.any_nil]
  · intro i v e r hx hi ih
    obtain ⟨f1, f2, f3⟩ := rangeFacts i l.length hi (by omega)
    have e1 := e26 (E := E) e (hth e (List.mem_of_getElem? hx)) x y y
    have ih' := ih (v || votedC x y e)
    rw [Bool.or_assoc, ← List.any_cons] at ih'
    unfold votedC at ih' ⊢
    rw [loopW_some]
    generalize hK : loopW E 0 _ _ _ = K at ih' ⊢
    unfold Evl.pv at *
    cases v with
    | true =>
      simp -implicitDefEqProofs only [go_sem, s3_12, s3_11, hx, f1, f2, f3] at ih' ⊢
      exact ih'
    | false =>
      generalize hb1 : (validE e && votC e x y y) = b1 at *
      simp -implicitDefEqProofs only [go_sem, s3_12, s3_11, hx, f1, f2, f3, e1] at ih' ⊢
      exact ih'
theorem loop3B (l : List Evl) (hl : l.length < 4000) (hth : ∀ e ∈ l, e.t.thin) (x : ByteArray) (ns : List Int) (hb : ns.length < 4000) (hs : ns.Pairwise fun x y => x < y) (hv : ∀ y ∈ ns, l.any (votedC x y) = true) (p6 p68 p69 p70 : PV) :
    loopW E 0 [4, 6, 13, 14, 68, 69, 70, 90, 91, 92] [] (.trim [4, 6, 13, 14, 68, 69, 70, 90, 91, 92] [2] [(6, [4, 6, 68, 69, 70])] [] s3_16) (some ⟨[(4, .p (.sl 15 (l.map Evl.pv))), (6, .p p6), (13, .p (.str x)), (14, .p (.sl 1 (ns.map (.int .i64)))), (68, .p p68), (69, .p p69), (70, .p p70), (90, .p (.sl 1 (ns.map (.int .i64)))), (91, .p (.int .i64 ns.length)), (92, .p (.int .i64 0))], []⟩) =
    some (.ex 6, ⟨[(4, .p (.sl 15 (l.map Evl.pv))), (6, .p p6), (68, .p p68), (69, .p p69), (70, .p p70)], []⟩) := by
  have key := range_loop (loopW E 0 [4, 6, 13, 14, 68, 69, 70, 90, 91, 92] [] (.trim [4, 6, 13, 14, 68, 69, 70, 90, 91, 92] [2] [(6, [4, 6, 68, 69, 70])] [] s3_16)) ns
    (fun i (_ : Unit) => ⟨[(4, .p (.sl 15 (l.map Evl.pv))), (6, .p p6), (13, .p (.str x)), (14, .p (.sl 1 (ns.map (.int .i64)))), (68, .p p68), (69, .p p69), (70, .p p70), (90, .p (.sl 1 (ns.map (.int .i64)))), (91, .p (.int .i64 ns.length)), (92, .p (.int .i64 i))], []⟩)
    (fun _ _ => some (.ex 6, ⟨[(4, .p (.sl 15 (l.map Evl.pv))), (6, .p p6), (68, .p p68), (69, .p p69), (70, .p p70)], []⟩))
  refine key ?_ ?_ ()
  · intro v
    rw [loopW_some]
    generalize hK : loopW E 0 _ _ _ = K
    simp -implicitDefEqProofs only [go_sem, s3_16, s3_15, s3_10, s3_13, s3_14]
  · intro i _ y r hx hi ih
    obtain ⟨f1, f2, f3⟩ := rangeFacts i ns.length hi (by omega)
    have ih' := ih ()
    have hvx := hv y (List.mem_of_getElem? hx)
    have lp := loop3b (E := E) l hl hth x y p6 (.sl 1 (ns.map (.int .i64))) p68 p69 p70 (.sl 1 (ns.map (.int .i64))) (.int .i64 ns.length) (.int .i64 i) false
    rw [hvx, Bool.or_true] at lp
    rw [loopW_some]
    generalize hK : loopW E 0 _ _ _ = K at ih' ⊢
    try dsimp only at ih' ⊢
    cases i with
    | zero =>
      have g1 : (0 : Int) < (ns.length : Int) := by omega
      have g3 : IntKind.i64.wrap ((0 : Int) + 1) = 1 := by decide
      simp only [Int.natCast_zero, Nat.zero_add, Int.natCast_one] at lp ih' ⊢
      simp -implicitDefEqProofs only [go_sem, s3_16, s3_15, s3_10, s3_13, s3_14, hx, g1, g3, lp, Int.lt_irrefl]
      exact ih'
    | succ j =>
      have f0 : (0 : Int) < ((j + 1 : Nat) : Int) := by omega
      have f4 : IntKind.i64.wrap (((j + 1 : Nat) : Int) - 1) = (j : Int) := by rw [wrap64 (by omega) (by omega)]; omega
      have f5 : (0 : Int) ≤ (j : Int) := by omega
      obtain ⟨z, hz⟩ : ∃ z, ns[j]? = some z := ⟨ns[j]'(by omega), List.getElem?_eq_getElem (by omega)⟩
      have hlt : ¬ y ≤ z := by
        have h1 := List.pairwise_iff_getElem.1 hs j (j + 1) (by omega) hi (by omega)
        rw [List.getElem?_eq_getElem (by omega)] at hx hz
        rw [Option.some.injEq] at hx hz
        rw [hx, hz] at h1
        omega
      simp -implicitDefEqProofs only [go_sem, s3_16, s3_15, s3_10, s3_13, s3_14, hx, hz, f1, f2, f3, f0, f4, f5, hlt, lp]
      exact ih'
theorem loop3C (l : List Evl) (hl : l.length ≤ 16) (hth : ∀ e ∈ l, e.t.thin) (vs : List ByteArray) (hb : vs.length < 4000) (hs : vs.Pairwise fun x y => lessV x y = true) (hn : ∀ x ∈ vs, (bndsN l x).length < 4000 ∧ ∀ y ∈ bndsN l x, l.any (votedC x y) = true) :
    loopW E 0 [4, 6, 68, 69, 70] [] (.trim [4, 6, 68, 69, 70] [2] [(4, [4, 6])] [] s3_19) (some ⟨[(4, .p (.sl 15 (l.map Evl.pv))), (6, .p (.sl 1 (vs.map .str))), (68, .p (.sl 1 (vs.map .str))), (69, .p (.int .i64 vs.length)), (70, .p (.int .i64 0))], []⟩) =
    some (.ex 4, ⟨[(4, .p (.sl 15 (l.map Evl.pv))), (6, .p (.sl 1 (vs.map .str)))], []⟩) := by
  have key := range_loop (loopW E 0 [4, 6, 68, 69, 70] [] (.trim [4, 6, 68, 69, 70] [2] [(4, [4, 6])] [] s3_19)) vs
    (fun i (_ : Unit) => ⟨[(4, .p (.sl 15 (l.map Evl.pv))), (6, .p (.sl 1 (vs.map .str))), (68, .p (.sl 1 (vs.map .str))), (69, .p (.int .i64 vs.length)), (70, .p (.int .i64 i))], []⟩)
    (fun _ _ => some (.ex 4, ⟨[(4, .p (.sl 15 (l.map Evl.pv))), (6, .p (.sl 1 (vs.map .str)))], []⟩))
  refine key ?_ ?_ ()
  · intro v
    rw [loopW_some]
    generalize hK : loopW E 0 _ _ _ = K
    simp -implicitDefEqProofs only [go_sem, s3_19, s3_18, s3_9, s3_17]
  · intro i _ x r hx hi ih
    obtain ⟨f1, f2, f3⟩ := rangeFacts i vs.length hi (by omega)
    have ih' := ih ()
    obtain ⟨n1, n2⟩ := hn x (List.mem_of_getElem? hx)
    have lp := loop3B (E := E) l (by omega) hth x (bndsN l x) n1 (bndsN_sorted l x) n2 (.sl 1 (vs.map .str)) (.sl 1 (vs.map .str)) (.int .i64 vs.length) (.int .i64 i)
    have e2 := e25 (E := E) l x hl hth
    rw [loopW_some]
    generalize hK : loopW E 0 _ _ _ = K at ih' ⊢
    try dsimp only at ih' ⊢
    cases i with
    | zero =>
      have g1 : (0 : Int) < (vs.length : Int) := by omega
      have g3 : IntKind.i64.wrap ((0 : Int) + 1) = 1 := by decide
      simp only [Int.natCast_zero, Nat.zero_add, Int.natCast_one] at lp ih' ⊢
      simp -implicitDefEqProofs only [go_sem, s3_19, s3_18, s3_9, s3_17, hx, g1, g3, e2, lp, Int.lt_irrefl]
      exact ih'
    | succ j =>
      have f0 : (0 : Int) < ((j + 1 : Nat) : Int) := by omega
      have f4 : IntKind.i64.wrap (((j + 1 : Nat) : Int) - 1) = (j : Int) := by rw [wrap64 (by omega) (by omega)]; omega
      have f5 : (0 : Int) ≤ (j : Int) := by omega
      obtain ⟨z, hz⟩ : ∃ z, vs[j]? = some z := ⟨vs[j]'(by omega), List.getElem?_eq_getElem (by omega)⟩
      have hlt : lessV z x = true := by
        have h1 := List.pairwise_iff_getElem.1 hs j (j + 1) (by omega) hi (by omega)
        rw [List.getElem?_eq_getElem (by omega)] at hx hz
        rw [Option.some.injEq] at hx hz
        rw [hx, hz] at h1
        exact h1
      have e1 := e24 (E := E) z x
      rw [hlt] at e1
      simp -implicitDefEqProofs only [go_sem, s3_19, s3_18, s3_9, s3_17, hx, hz, f1, f2, f3, f0, f4, f5, e1, e2, lp]
      exact ih'

theorem balsN_len (l : List Evl) : (balsN l).length ≤ 3 * l.length := by
  have h1 := uniqG_len SB.swo_ltB ((balsL l).filter fun x => !zeroB x)
  have h2 := List.length_filter_le (fun x => !zeroB x) (balsL l)
  have h3 := balsL_len l
  unfold balsN
  rw [uniqB_eq]; omega
theorem valsN_len (l : List Evl) : (valsN l).length ≤ l.length := by
  have h1 := uniqG_len SV.swo_ltV ((l.filter validE).map fun e => e.b.v)
  have h2 := List.length_filter_le validE l
  unfold valsN
  rw [uniqV_eq]; simp at h1; omega
theorem bndsN_len (l : List Evl) (v : ByteArray) : (bndsN l v).length ≤ 2 * l.length := by
  have h1 := uniqG_len swo_ltI (bndL v l)
  have h2 := bndL_len v l
  unfold bndsN
  rw [uniqI_eq]; omega
theorem law3 (zs : List Int) : callW E 3 [.p (.sl 1 (zs.map (.int .i64)))] [] = some ⟨.p (.bool true), [], []⟩ := by
  have e0 := e17 (E := E) zs
  generalize hz : zs.take 800 = l at e0
  have hl : l.length ≤ 800 := by rw [← hz]; exact List.length_take_le ..
  obtain ⟨es, a', l1, g, e1⟩ := e18 (E := E) l 0 hl (Nat.zero_le _)
  have hlen := g.len
  have e2 := e19 (E := E) es (by omega) g.thin
  have e3 := e20 (E := E) es (by omega) g.thin
  have b1 := balsN_len es
  have b2 := valsN_len es
  have lpA := loop3A (E := E) es (by omega) g.thin (balsN es) (by omega) (balsN_sorted es) (fun x hx => by
    obtain ⟨h1, e, h2, h3, h4⟩ := balsN_mem.1 hx
    refine List.any_eq_true.2 ⟨e, h2, ?_⟩
    rcases bals_voted h3 h1 h4 with h | h <;> simp [votedB, h3, h]) (.sl 1 ((valsN es).map .str))
  have lpC := loop3C (E := E) es (by omega) g.thin (valsN es) (by omega) (valsN_sorted es) (fun x hx => ⟨by have := bndsN_len es x; omega, fun y hy => by
    obtain ⟨e, h1, h2, h3⟩ := bndsN_mem.1 hy
    have h4 : validE e = true := by simp only [bndP, Bool.and_eq_true] at h2; exact h2.1
    exact List.any_eq_true.2 ⟨e, h1, by simp [votedC, h4, bnd_voted h2 h3]⟩⟩)
  have hlast : (decide ((es.length : Int) = 0) == decide (((valsN es).length : Int) = 0)) = true := by
    cases es with
    | nil =>
      have h0 : (valsN []).length = 0 := by simpa using b2
      rw [h0]; rfl
    | cons e r =>
      have hm : e.b.v ∈ valsN (e :: r) := valsN_mem.2 ⟨e, List.mem_cons_self, g.valid e List.mem_cons_self, rfl⟩
      have := List.length_pos_of_mem hm
      have h1 : ¬ (((e :: r).length : Int) = 0) := by simp; omega
      have h2 : ¬ (((valsN (e :: r)).length : Int) = 0) := by omega
      rw [decide_eq_false h1, decide_eq_false h2]; rfl
  simp only [Int.natCast_zero] at e1
  rw [callW_eq, EnvS.h 3 F3 rfl]
  simp -implicitDefEqProofs only [go_sem, F3, s3, s3_8, s3_20, e0, e1, e2, e3, lpA, lpC, hlast, e27]
end Go.Ab.S
