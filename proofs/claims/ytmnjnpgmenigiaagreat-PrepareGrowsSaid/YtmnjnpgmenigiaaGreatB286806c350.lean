/- A part of the proof: an executor over plain data, shown sound for the model, and what it computes of the functions. -/
import Derived.Test.YtmnjnpgmenigiaaGreatBcadba86285
import Derived.Test.YtmnjnpgmenigiaaGreatB7c6c99ed11
import Derived.Test.YtmnjnpgmenigiaaGreatB10774b5256
set_option linter.all false
namespace Go.Ab.S
open Go Go.Ab
variable {E : Env} [EnvS E]

/-! ### Envelopes of some nodes -/
structure EnvLs (i : Nat) (es : List Evl) : Prop where
  len : es.length ≤ i
  g : ∀ e ∈ es, EnvG 5 e ∧ e.slot = 1 ∧ 0 ≤ e.node ∧ e.node < i
  asc : es.Pairwise fun a b => a.node < b.node
theorem EnvLs.nil : EnvLs 0 [] := ⟨Nat.le_refl _, (fun _ h => by cases h), List.Pairwise.nil⟩
theorem EnvLs.skip {i : Nat} {es : List Evl} (h : EnvLs i es) : EnvLs (i + 1) es := ⟨by have := h.len; omega, fun e he => by obtain ⟨h1, h2, h3, h4⟩ := h.g e he; exact ⟨h1, h2, h3, by omega⟩, h.asc⟩
theorem EnvLs.add {i : Nat} {es : List Evl} (h : EnvLs i es) {e : Evl} (g : EnvG 5 e) (hs : e.slot = 1) (hn : e.node = (i : Int)) : EnvLs (i + 1) (es ++ [e]) := by
  refine ⟨by have := h.len; simp; omega, fun e' he => ?_, ?_⟩
  · rcases List.mem_append.1 he with he | he
    · obtain ⟨h1, h2, h3, h4⟩ := h.g e' he; exact ⟨h1, h2, h3, by omega⟩
    · rw [List.mem_singleton.1 he]; exact ⟨g, hs, by omega, by omega⟩
  · refine List.pairwise_append.2 ⟨h.asc, by simp, fun a ha b hb => ?_⟩
    rw [List.mem_singleton.1 hb, hn]
    exact (h.g a ha).2.2.2
theorem EnvLs.thin {i : Nat} {es : List Evl} (h : EnvLs i es) : ∀ e ∈ es, e.t.thin := fun e he => (h.g e he).1.t.thin
theorem EnvLs.valid {i : Nat} {es : List Evl} (h : EnvLs i es) : ∀ e ∈ es, validE e = true := fun e he => (h.g e he).1.valid
theorem loop18 (l : List Int) (hl : l.length ≤ 800) : ∀ (k i a : Nat) (es : List Evl), i + k = 5 → a ≤ l.length → EnvLs i es →
    ∃ (es' : List Evl) (a' : Nat), a' ≤ l.length ∧ EnvLs 5 es' ∧
    loopW E 1 [0, 1, 2, 7, 8] [.loc 1 0 0] (.trim [0, 1, 2, 7, 8] [6] [(0, [7])] [.loc 1 0 0] s18_3) (some ⟨[(0, .ptr (.ext 0) 0), (1, .p (.int .i64 5)), (2, .p (.int .i64 1)), (7, .hsl (.loc 1 0 0) 0 es.length), (8, .p (.int .i64 i))], [(.ext 0, some (.box [.p (.sl 1 (l.map (.int .i64))), .p (.int .i64 a)])), (.loc 1 0 0, some (.parr (es.map Evl.pv) 15 false))]⟩) =
    some (.ex 0, ⟨[(7, .hsl (.loc 1 0 0) 0 es'.length)], [(.ext 0, some (.box [.p (.sl 1 (l.map (.int .i64))), .p (.int .i64 a')])), (.loc 1 0 0, some (.parr (es'.map Evl.pv) 15 false))]⟩) := by
  generalize hK : loopW E 1 _ _ _ = K
  intro k
  induction k with
  | zero =>
    intro i a es hi ha hI
    have : i = 5 := by omega
    subst this
    refine ⟨es, a, ha, hI, ?_⟩
    rw [← hK, loopW_some, hK]
    simp -implicitDefEqProofs only [go_sem, s18_3, s18_2, s18_1]
  | succ k ih =>
    intro i a es hi ha hI
    have f1 : (i : Int) < 5 := by omega
    have f3 : IntKind.i64.wrap ((i : Int) + 1) = ((i + 1 : Nat) : Int) := wrap64 (by omega) (by omega)
    have e1 := e28 (E := E) l a 4 hl ha (by decide)
    have b1 := dV_nonneg l a 4
    have l1 := dA_le l a 4 ha
    by_cases h : 0 < dV l a 4
    · obtain ⟨e, a2, l2, g, n1, n2, e2⟩ := e76 (E := E) l (dA l a 4) i 1 5 hl l1 (by decide) (by decide) (by omega) (by omega) (by omega) (by omega)
      obtain ⟨es', a', r1, r2, r3⟩ := ih (i + 1) a2 (es ++ [e]) (by omega) l2 (hI.add g n2 n1)
      refine ⟨es', a', r1, r2, ?_⟩
      have hm : es.length + 1 ≤ most := by have := hI.len; unfold most; omega
      rw [List.map_append, List.length_append] at r3
      simp only [List.map_cons, List.map_nil, List.length_cons, List.length_nil, Nat.zero_add] at r3
      rw [show ((5 : Nat) : Int) = 5 from rfl] at e2
      unfold Evl.pv at *
      rw [← hK, loopW_some, hK]
      simp -implicitDefEqProofs only [go_sem, s18_3, s18_2, s18_1, f1, f3, e1, h, e2, hm]
      exact r3
    · obtain ⟨es', a', r1, r2, r3⟩ := ih (i + 1) (dA l a 4) es (by omega) l1 hI.skip
      refine ⟨es', a', r1, r2, ?_⟩
      rw [← hK, loopW_some, hK]
      simp -implicitDefEqProofs only [go_sem, s18_3, s18_2, s18_1, f1, f3, e1, h]
      exact r3
theorem e18 (l : List Int) (a : Nat) (hl : l.length ≤ 800) (ha : a ≤ l.length) : ∃ (es : List Evl) (a' : Nat), a' ≤ l.length ∧ EnvLs 5 es ∧
    callW E 18 [.ptr (.ext 0) 0, .p (.int .i64 5), .p (.int .i64 1)] [.box [.p (.sl 1 (l.map (.int .i64))), .p (.int .i64 a)]] = some ⟨.p (.sl 15 (es.map Evl.pv)), [.box [.p (.sl 1 (l.map (.int .i64))), .p (.int .i64 a')]], []⟩ := by
  obtain ⟨es, a', r1, r2, lp⟩ := loop18 (E := E) l hl 5 0 a [] (by omega) ha EnvLs.nil
  refine ⟨es, a', r1, r2, ?_⟩
  simp only [Int.natCast_zero, List.length_nil, List.map_nil] at lp
  rw [callW_eq, EnvS.h 18 F18 rfl]
  simp -implicitDefEqProofs only [go_sem, F18, s18, s18_4, lp]

/-! ### What the lists are -/
end Go.Ab.S

namespace Go.Ab.S
open Go Go.Ab
variable {E : Env} [EnvS E]

/-! ### The next ballot -/
def endl (b : Bal) : Bal := if 1000 ≤ b.c then ⟨1000000, b.v⟩ else b
theorem e133 (b : Bal) : callW E 133 [.p (.agg [.int .i64 b.c, .str b.v])] [] = some ⟨.p (endl b).pv, [], []⟩ := by
  rw [callW_eq, EnvS.h 133 F133 rfl]
  unfold endl Bal.pv
  by_cases h : 1000 ≤ b.c
  · simp -implicitDefEqProofs only [go_sem, F133, s133, s133_1, h]
  · simp -implicitDefEqProofs only [go_sem, F133, s133, s133_1, h]
theorem e43 (p q b : Bal) : callW E 43 [.p (.agg [.int .i64 p.c, .str p.v]), .p (.agg [.int .i64 q.c, .str q.v]), .p (.agg [.int .i64 b.c, .str b.v])] [] = some ⟨.tup [.p (join p q b).1.pv, .p (join p q b).2.pv], [], []⟩ := by
  rw [callW_eq, EnvS.h 43 F43 rfl]
  simp -implicitDefEqProofs only [go_sem, F43, s43, s43_10, s43_1, s43_9, s43_2, s43_8, s43_5, s43_3, s43_4, s43_7, s43_6, e45, e21, e128]
  repeat' ((first | rw [condW_q] | rw [opsG_q] | rw [opsLG_q]); unfold ifq; split <;> rename_i hq <;> simp -implicitDefEqProofs only [go_sem, hq, e45, e21, e128])
  all_goals simp_all [join, Bal.pv, @eq_comm _ b.v p.v]

theorem accP_ref {e : Evl} {b : Bal} (hv : validE e = true) (hz : zeroB b = false) : accP e b = if e.k = 3 then decide (e.b.v = b.v) else prepares e.p e.q b := by
  unfold accP
  simp only [hz, Bool.false_eq_true, if_false]
  by_cases h3 : e.k = 3
  · have h1 : ¬ e.k = 1 := by omega
    have h2 : ¬ e.k = 2 := by omega
    simp [h3]
  · by_cases h1 : e.k = 1
    · simp [h1]
    · simp only [validE, Bool.and_eq_true] at hv
      obtain ⟨_, hv⟩ := hv
      by_cases h2 : e.k = 2
      · rw [if_neg h1, if_pos h2] at hv
        simp only [Bool.and_eq_true] at hv
        have hq : zeroB e.q = true := hv.1.1.2
        simp [h2, prepares, hq, covers]
      · simp [h1, h2, h3] at hv
theorem e40 (e : Evl) (h : e.t.thin) (b : Bal) : callW E 40 [.p e.pv, .p (.agg [.int .i64 b.c, .str b.v])] [] = some ⟨.p (.bool (validE e && accP e b)), [], []⟩ := by
  have e1 := e82 (E := E) e h
  have e2 := e45 (E := E) b
  have e3 := e46 (E := E) e.p e.q b
  have e4 := e128 (E := E) e.b b
  rw [callW_eq, EnvS.h 40 F40 rfl]
  unfold Evl.pv at *
  cases hv : validE e with
  | false =>
    rw [hv] at e1
    simp -implicitDefEqProofs only [go_sem, F40, s40, s40_1, s40_2, e1]
  | true =>
    rw [hv] at e1
    cases hz : zeroB b with
    | true =>
      rw [hz] at e2
      have : accP e b = false := by simp [accP, hz]
      rw [this]
      simp -implicitDefEqProofs only [go_sem, F40, s40, s40_1, s40_2, e1, e2]
    | false =>
      rw [hz] at e2
      rw [accP_ref hv hz]
      by_cases h3 : e.k = 3
      · rw [h3] at e1
        simp -implicitDefEqProofs only [go_sem, F40, s40, s40_1, s40_2, e1, e2, e4, h3]
      · simp -implicitDefEqProofs only [go_sem, F40, s40, s40_1, s40_2, e1, e2, e3, h3]
def nextP (node : Nat) (t : Tr) (l : List Evl) (p q : Bal) (v : ByteArray) (b : Bal) : Bool := (decide (v = ByteArray.empty) || decide (b.v = v)) && (!prepares (endl p) (endl q) b && acceptW node t l b)
def nextW (node : Nat) (t : Tr) (l : List Evl) (p q : Bal) (v : ByteArray) : Bal := ((balsN l).find? (nextP node t l p q v)).getD Bal.zero
theorem loop44 (node : Nat) (hnode : node < 10) (t : Tr) (l : List Evl) (ht : t.thin) (hl : l.length ≤ 16) (hth : ∀ e ∈ l, e.t.thin) (p q : Bal) (v : ByteArray) (bs : List Bal) (hb : bs.length < 4000) :
    loopW E 0 [5, 9, 10, 12, 13, 21, 22, 23] [.loc 0 1 0, .loc 0 2 0, .loc 0 3 0, .loc 1 4 0] (.trim [5, 9, 10, 12, 13, 21, 22, 23] [12] [(0, [12])] [.loc 0 1 0, .loc 0 2 0, .loc 0 3 0, .loc 1 4 0] s44_3) (some ⟨[(5, .p (.str v)), (9, .ptr (.loc 0 1 0) 0), (10, .ptr (.loc 0 2 0) 0), (12, .ptr (.loc 0 3 0) 0), (13, .ptr (.loc 1 4 0) 0), (21, .p (.sl 2 (bs.map Bal.pv))), (22, .p (.int .i64 bs.length)), (23, .p (.int .i64 0))],
      [(.loc 0 1 0, some (.box [.p (.int .i64 p.c), .p (.str p.v)])), (.loc 0 2 0, some (.box [.p (.int .i64 q.c), .p (.str q.v)])), (.loc 0 3 0, some (.box [.p (.int .i64 0), .p (.str ByteArray.empty)])), (.loc 1 4 0, some (.box [.p (.int .i64 node), .p (.sl 4 ((viewM node t l).map Mem.pv)), .p (.sl 15 ((l.filter validE).map Evl.pv))]))]⟩) =
    match bs.find? (nextP node t l p q v) with
    | some b => some (.ret, ⟨[(12, .ptr (.loc 0 3 0) 0)], [(.loc 0 1 0, some (.box [.p (.int .i64 p.c), .p (.str p.v)])), (.loc 0 2 0, some (.box [.p (.int .i64 q.c), .p (.str q.v)])), (.loc 0 3 0, some (.box [.p (.int .i64 b.c), .p (.str b.v)])), (.loc 1 4 0, some (.box [.p (.int .i64 node), .p (.sl 4 ((viewM node t l).map Mem.pv)), .p (.sl 15 ((l.filter validE).map Evl.pv))]))]⟩)
    | none => some (.ex 0, ⟨[(12, .ptr (.loc 0 3 0) 0)], [(.loc 0 1 0, some (.box [.p (.int .i64 p.c), .p (.str p.v)])), (.loc 0 2 0, some (.box [.p (.int .i64 q.c), .p (.str q.v)])), (.loc 0 3 0, some (.box [.p (.int .i64 0), .p (.str ByteArray.empty)])), (.loc 1 4 0, some (.box [.p (.int .i64 node), .p (.sl 4 ((viewM node t l).map Mem.pv)), .p (.sl 15 ((l.filter validE).map Evl.pv))]))]⟩) := by
  have key := range_loop (loopW E 0 [5, 9, 10, 12, 13, 21, 22, 23] [.loc 0 1 0, .loc 0 2 0, .loc 0 3 0, .loc 1 4 0] (.trim [5, 9, 10, 12, 13, 21, 22, 23] [12] [(0, [12])] [.loc 0 1 0, .loc 0 2 0, .loc 0 3 0, .loc 1 4 0] s44_3)) bs
    (fun i (_ : Unit) => ⟨[(5, .p (.str v)), (9, .ptr (.loc 0 1 0) 0), (10, .ptr (.loc 0 2 0) 0), (12, .ptr (.loc 0 3 0) 0), (13, .ptr (.loc 1 4 0) 0), (21, .p (.sl 2 (bs.map Bal.pv))), (22, .p (.int .i64 bs.length)), (23, .p (.int .i64 i))],
      [(.loc 0 1 0, some (.box [.p (.int .i64 p.c), .p (.str p.v)])), (.loc 0 2 0, some (.box [.p (.int .i64 q.c), .p (.str q.v)])), (.loc 0 3 0, some (.box [.p (.int .i64 0), .p (.str ByteArray.empty)])), (.loc 1 4 0, some (.box [.p (.int .i64 node), .p (.sl 4 ((viewM node t l).map Mem.pv)), .p (.sl 15 ((l.filter validE).map Evl.pv))]))]⟩)
    (fun _ r => match r.find? (nextP node t l p q v) with
      | some b => some (.ret, ⟨[(12, .ptr (.loc 0 3 0) 0)], [(.loc 0 1 0, some (.box [.p (.int .i64 p.c), .p (.str p.v)])), (.loc 0 2 0, some (.box [.p (.int .i64 q.c), .p (.str q.v)])), (.loc 0 3 0, some (.box [.p (.int .i64 b.c), .p (.str b.v)])), (.loc 1 4 0, some (.box [.p (.int .i64 node), .p (.sl 4 ((viewM node t l).map Mem.pv)), .p (.sl 15 ((l.filter validE).map Evl.pv))]))]⟩)
      | none => some (.ex 0, ⟨[(12, .ptr (.loc 0 3 0) 0)], [(.loc 0 1 0, some (.box [.p (.int .i64 p.c), .p (.str p.v)])), (.loc 0 2 0, some (.box [.p (.int .i64 q.c), .p (.str q.v)])), (.loc 0 3 0, some (.box [.p (.int .i64 0), .p (.str ByteArray.empty)])), (.loc 1 4 0, some (.box [.p (.int .i64 node), .p (.sl 4 ((viewM node t l).map Mem.pv)), .p (.sl 15 ((l.filter validE).map Evl.pv))]))]⟩))
  refine key ?_ ?_ ()
  · intro _
    rw [loopW_some]
    generalize hK : loopW E 0 _ _ _ = K
    simp -implicitDefEqProofs only [go_sem, s44_3, s44_2, s44_1, List.find?_nil]
  · intro i _ b r hx hi ih
    obtain ⟨f1, f2, f3⟩ := rangeFacts i bs.length hi (by omega)
    have ih' := ih ()
    have e1 := e133 (E := E) p
    have e2 := e133 (E := E) q
    have e3 := e132 (E := E) (endl p) (endl q) b
    have e4 := e129 (E := E) node hnode _ (viewM_ok node t l ht hth) b _ (Nat.lt_of_le_of_lt (List.length_filter_le validE l) (by omega)) (valid_nodes l)
    rw [← acceptW] at e4
    rw [List.find?_cons]
    unfold nextP at ih' ⊢
    rw [loopW_some]
    generalize hK : loopW E 0 _ _ _ = K at ih' ⊢
    try dsimp only at ih' ⊢
    unfold Bal.pv seenPv at *
    generalize h1 : decide (v = ByteArray.empty) = c1 at *
    generalize h2 : decide (b.v = v) = c2 at *
    generalize h3 : prepares (endl p) (endl q) b = c3 at *
    generalize h4 : acceptW node t l b = c4 at *
    cases c1 <;> cases c2 <;> cases c3 <;> cases c4 <;> (simp -implicitDefEqProofs only [go_sem, s44_3, s44_2, s44_1, hx, f1, f2, f3, e1, e2, e3, e4, h1, h2, h3, h4]) <;> exact ih'
theorem nextW_cases (node : Nat) (t : Tr) (l : List Evl) (p q : Bal) (v : ByteArray) : nextW node t l p q v = Bal.zero ∨ (nextW node t l p q v ∈ balsN l ∧ nextP node t l p q v (nextW node t l p q v) = true) := by
  unfold nextW
  cases h : (balsN l).find? (nextP node t l p q v) with
  | none => exact .inl rfl
  | some b => exact .inr ⟨List.mem_of_find?_eq_some h, List.find?_some h⟩
theorem e44 (node : Nat) (hnode : node < 10) (t : Tr) (l : List Evl) (p q : Bal) (v : ByteArray) (ht : t.thin) (hl : l.length ≤ 16) (hth : ∀ e ∈ l, e.t.thin) :
    callW E 44 [.p (.int .i64 node), .p t.pv, .p (.sl 15 (l.map Evl.pv)), .p (.agg [.int .i64 p.c, .str p.v]), .p (.agg [.int .i64 q.c, .str q.v]), .p (.str v)] [] = some ⟨.p (nextW node t l p q v).pv, [], []⟩ := by
  have e1 := e119 (E := E) node hnode t l ht (by omega) hth
  have e2 := e19 (E := E) l hl hth
  have b1 := uniqG_len SB.swo_ltB ((balsL l).filter fun x => !zeroB x)
  have b2 := List.length_filter_le (fun x => !zeroB x) (balsL l)
  have b3 := balsL_len l
  have b4 : (balsN l).length < 4000 := by unfold balsN; rw [uniqB_eq]; omega
  have lp := loop44 (E := E) node hnode t l ht hl hth p q v (balsN l) b4
  unfold nextW
  unfold Tr.pv seenPv at *
  rw [callW_eq, EnvS.h 44 F44 rfl]
  cases h : (balsN l).find? (nextP node t l p q v) with
  | none =>
    rw [h] at lp
    simp -implicitDefEqProofs only [go_sem, F44, s44, s44_4, e1, e2, lp, Option.getD_none, Bal.zero, Bal.pv]
  | some b =>
    rw [h] at lp
    simp -implicitDefEqProofs only [go_sem, F44, s44, s44_4, e1, e2, lp, Option.getD_some, Bal.pv]
end Go.Ab.S

namespace Go.Ab.S
open Go Go.Ab
variable {E : Env} [EnvS E]

/-! ### Larger sets -/
def subN (s s' : Nat) : Prop := ∀ k, s.testBit k = true → s'.testBit k = true
theorem hasN_mono {s s' : Nat} (h : subN s s') (k : Int) (hk : hasN s k = true) : hasN s' k = true := by
  simp only [hasN, Bool.and_eq_true] at hk ⊢
  exact ⟨hk.1, h _ hk.2⟩
theorem cnt_mono {s s' : Nat} (h : subN s s') : ∀ l : List Int, cnt s l ≤ cnt s' l
  | [] => Nat.le_refl _
  | k :: r => by
    simp only [cnt]
    have ih := cnt_mono h r
    cases h1 : hasN s k with
    | true => rw [hasN_mono h k h1]; simp only [if_true]; omega
    | false => simp only [Bool.false_eq_true, if_false]; omega
theorem satI_mono {s s' : Nat} (h : subN s s') (t : In) (ht : satI s t = true) : satI s' t = true := by
  simp only [satI, decide_eq_true_eq] at ht ⊢
  have := cnt_mono h t.ns
  omega
theorem cntI_mono {s s' : Nat} (h : subN s s') : ∀ l : List In, cntI s l ≤ cntI s' l
  | [] => Nat.le_refl _
  | k :: r => by
    simp only [cntI]
    have ih := cntI_mono h r
    cases h1 : satI s k with
    | true => rw [satI_mono h k h1]; simp only [if_true]; omega
    | false => simp only [Bool.false_eq_true, if_false]; omega
theorem satT_mono {s s' : Nat} (h : subN s s') (t : Tr) (ht : satT s t = true) : satT s' t = true := by
  simp only [satT, decide_eq_true_eq] at ht ⊢
  have h1 := cnt_mono h t.ns
  have h2 := cntI_mono h t.is
  omega
theorem great_mono (ms : List Mem) {s s' : Nat} (h : subN s s') : subN (great ms s) (great ms s') := by
  intro j hj
  have hq := great_quorum ms s
  have hsub := subM_decl ms s'
  refine elim_keep ms (great ms s) (fun u hu k hk => ?_) 1024 _ hsub (fun i hi => ?_) j hj
  · obtain ⟨m, h1, _, h3⟩ := hq k hk
    simp only [contM, h1]
    exact satT_mono hu _ h3
  · obtain ⟨h1, m, h2, h3⟩ := great_sub ms s i hi
    rw [Nat.testBit_and, h i h1, decl_bit, h2]
    simp [h3, bit10 (great_lt ms s) hi]
theorem comp_anti {s s' v : Nat} (hs : s < 1024) (hs' : s' < 1024) (h : subN s s') : subN ((1023 ^^^ s') ||| 2 ^ v) ((1023 ^^^ s) ||| 2 ^ v) := by
  intro k hk
  rw [Nat.testBit_or, Nat.testBit_xor] at hk ⊢
  cases h1 : s.testBit k with
  | false =>
    cases h2 : s'.testBit k with
    | false => rw [h2] at hk; exact hk
    | true =>
      have hk10 := bit10 hs' h2
      have : Nat.testBit 1023 k = true := by
        have : (1023 : Nat) = 2 ^ 10 - 1 := rfl
        rw [this, Nat.testBit_two_pow_sub_one]; simp [hk10]
      simp [this]
  | true => rw [h k h1] at hk; exact hk
theorem blk_mono (ms : List Mem) (v : Nat) {s s' : Nat} (hs : s < 1024) (hs' : s' < 1024) (h : subN s s') (hb : blk ms v s = true) : blk ms v s' = true := by
  unfold blk at hb ⊢
  cases hm : ms[v]? with
  | none => rw [hm] at hb; cases hb
  | some m =>
    rw [hm] at hb
    simp only [Bool.and_eq_true, Bool.not_eq_true'] at hb ⊢
    refine ⟨hb.1, ?_⟩
    cases h2 : satT ((1023 ^^^ s') ||| 2 ^ v) m.t with
    | false => rfl
    | true =>
      have := satT_mono (comp_anti (v := v) hs hs' h) _ h2
      rw [hb.2] at this; cases this
theorem accW_mono (ms : List Mem) (v : Nat) {a a' b b' : Nat} (hb : b < 1024) (hb' : b' < 1024) (h1 : subN a a') (h2 : subN b b') (h : accW ms v a b = true) : accW ms v a' b' = true := by
  simp only [accW, Bool.or_eq_true] at h ⊢
  rcases h with h | h
  · exact .inl (blk_mono ms v hb hb' h2 h)
  · refine .inr (great_mono ms (fun k hk => ?_) v h)
    rw [Nat.testBit_or, Bool.or_eq_true] at hk ⊢
    exact hk.imp (h1 k) (h2 k)

/-! ### The others say it, too -/
def moreE (node : Int) (b : Bal) (e : Evl) : Evl := if e.node = node then e else if (validE e && accP e b) = true then e else ⟨e.node, 1, 20, e.t, 1, b, b, Bal.zero, 0, 0⟩
theorem moreE_node (node : Int) (b : Bal) (e : Evl) : (moreE node b e).node = e.node ∧ (moreE node b e).t = e.t := by
  unfold moreE
  split
  · exact ⟨rfl, rfl⟩
  · split <;> exact ⟨rfl, rfl⟩
theorem head_t {e : Evl} (h : validE e = true) : errT e.t = 0 := by
  simp only [validE, headE, Bool.and_eq_true, decide_eq_true_eq] at h
  exact h.1.2
theorem newE_valid {e : Evl} (h : validE e = true) {b : Bal} (hb : finite b = true) : validE ⟨e.node, 1, 20, e.t, 1, b, b, Bal.zero, 0, 0⟩ = true := by
  have h0 := hb
  simp only [finite, Bool.and_eq_true, decide_eq_true_eq] at h0
  obtain ⟨h1, h2⟩ := h0
  have h3 : 1 ≤ b.c := by
    simp only [validB, Bool.and_eq_true, Bool.or_eq_true, decide_eq_true_eq] at h1; omega
  have hz : zeroB Bal.zero = true := by decide
  obtain ⟨n1, n2⟩ := validE_node h
  simp [validE, headE, head_t h, prepE, hb, optional, h1, hz, primeE, n1, n2]
  show (0 : Int) ≤ b.c
  omega
theorem newE_acc {e : Evl} {b : Bal} (hb : zeroB b = false) : accP ⟨e.node, 1, 20, e.t, 1, b, b, Bal.zero, 0, 0⟩ b = true := by
  simp [accP, hb, prepares, covers_self hb]
theorem moreE_valid {node : Int} {b : Bal} {e : Evl} (hv : validE e = true) (hb : finite b = true) : validE (moreE node b e) = true := by
  unfold moreE
  split
  · exact hv
  · split
    · exact hv
    · exact newE_valid hv hb
theorem moreE_acc {node : Int} {b : Bal} {e : Evl} (hv : validE e = true) (hz : zeroB b = false) (h : accP e b = true) : accP (moreE node b e) b = true := by
  unfold moreE
  split
  · exact h
  · rw [hv, h]; exact h
theorem moreE_both {node : Int} {b : Bal} {e : Evl} (hv : validE e = true) (hz : zeroB b = false) (h : bothP b e = true) : bothP b (moreE node b e) = true := by
  unfold moreE
  split
  · exact h
  · split
    · exact h
    · simp [bothP, newE_acc hz]
theorem more_view {b : Bal} (hb : finite b = true) (node : Int) (t : Tr) {l : List Evl} (hv : ∀ e ∈ l, validE e = true) (i : Int) : viewM i t (l.map (moreE node b)) = viewM i t l := by
  have key : ∀ (l : List Evl) (ms : List Mem), (∀ e ∈ l, validE e = true) → (l.map (moreE node b)).foldl viewS ms = l.foldl viewS ms := by
    intro l
    induction l with
    | nil => intro ms _; rfl
    | cons e r ih =>
      intro ms h
      have h1 := h e List.mem_cons_self
      simp only [List.map_cons, List.foldl_cons]
      have : viewS ms (moreE node b e) = viewS ms e := by
        unfold viewS
        rw [moreE_valid h1 hb, h1, (moreE_node node b e).1, (moreE_node node b e).2]
      rw [this]
      exact ih _ fun x hx => h x (List.mem_cons_of_mem _ hx)
  unfold viewM
  split
  · rfl
  · exact key l _ hv
theorem more_accept {b : Bal} (hb : finite b = true) (hz : zeroB b = false) (node : Nat) (t : Tr) {l : List Evl} (hv : ∀ e ∈ l, validE e = true) (h : acceptW node t l b = true) : acceptW node t (l.map (moreE node b)) b = true := by
  have hv' : ∀ e ∈ l.map (moreE node b), validE e = true := by
    intro e he
    obtain ⟨e0, h1, rfl⟩ := List.mem_map.1 he
    exact moreE_valid (hv e0 h1) hb
  have f1 : l.filter validE = l := List.filter_eq_self.2 hv
  have f2 : (l.map (moreE node b)).filter validE = l.map (moreE node b) := List.filter_eq_self.2 hv'
  unfold acceptW at h ⊢
  rw [more_view hb node t hv, f2]
  rw [f1] at h
  have n1 : nodesOk l := fun e he => validE_node (hv e he)
  have n2 : nodesOk (l.map (moreE node b)) := fun e he => validE_node (hv' e he)
  refine accW_mono _ _ (who_lt _ _ n1) (who_lt _ _ n2) (fun k hk => ?_) (fun k hk => ?_) h
  · rw [who_bit _ _ _ n1, List.any_eq_true] at hk
    rw [who_bit _ _ _ n2, List.any_eq_true]
    obtain ⟨e, h1, h2⟩ := hk
    simp only [Bool.and_eq_true, decide_eq_true_eq] at h2
    exact ⟨_, List.mem_map.2 ⟨e, h1, rfl⟩, by rw [moreE_both (hv e h1) hz h2.1, (moreE_node node b e).1]; simp [h2.2]⟩
  · rw [who_bit _ _ _ n1, List.any_eq_true] at hk
    rw [who_bit _ _ _ n2, List.any_eq_true]
    obtain ⟨e, h1, h2⟩ := hk
    simp only [Bool.and_eq_true, decide_eq_true_eq] at h2
    exact ⟨_, List.mem_map.2 ⟨e, h1, rfl⟩, by rw [moreE_acc (hv e h1) hz h2.1, (moreE_node node b e).1]; simp [h2.2]⟩
/-- The last envelope of a node. -/
def fnd (i : Int) : Option Evl → List Evl → Option Evl
  | o, [] => o
  | o, e :: r => fnd i (if e.node = i then some e else o) r
theorem fnd_none {i : Int} : ∀ {l : List Evl} {o : Option Evl}, (∀ e ∈ l, e.node ≠ i) → fnd i o l = o
  | [], o, _ => rfl
  | e :: r, o, h => by
    rw [fnd, if_neg (h e List.mem_cons_self)]
    exact fnd_none fun x hx => h x (List.mem_cons_of_mem _ hx)
theorem fnd_next (i : Nat) : ∀ {l : List Evl}, l.Pairwise (fun a b => a.node < b.node) → l.filter (fun e => decide (e.node < ((i + 1 : Nat) : Int))) = l.filter (fun e => decide (e.node < (i : Int))) ++ (fnd i none l).toList
  | [], _ => rfl
  | e :: r, h => by
    obtain ⟨h1, h2⟩ := List.pairwise_cons.1 h
    rw [fnd]
    by_cases c1 : e.node < (i : Int)
    · have a1 : decide (e.node < ((i + 1 : Nat) : Int)) = true := decide_eq_true (by omega)
      have a2 : decide (e.node < (i : Int)) = true := decide_eq_true c1
      simp only [List.filter_cons, a1, a2, if_true]
      rw [if_neg (by omega), fnd_next i h2]; rfl
    · have hn : r.filter (fun e => decide (e.node < (i : Int))) = [] := List.filter_eq_nil_iff.2 fun x hx => by have := h1 x hx; simp; omega
      have hn2 : r.filter (fun e => decide (e.node < ((i + 1 : Nat) : Int))) = [] := List.filter_eq_nil_iff.2 fun x hx => by have := h1 x hx; simp; omega
      have a2 : decide (e.node < (i : Int)) = false := decide_eq_false c1
      by_cases c2 : e.node = (i : Int)
      · have a1 : decide (e.node < ((i + 1 : Nat) : Int)) = true := decide_eq_true (by omega)
        simp only [List.filter_cons, a1, a2, if_true, Bool.false_eq_true, if_false, hn, hn2]
        rw [if_pos c2, fnd_none fun x hx => by have := h1 x hx; omega]; rfl
      · have a1 : decide (e.node < ((i + 1 : Nat) : Int)) = false := decide_eq_false (by omega)
        simp only [List.filter_cons, a1, a2, if_true, Bool.false_eq_true, if_false, hn, hn2]
        rw [if_neg c2, fnd_none fun x hx => by have := h1 x hx; omega]; rfl
theorem fnd_mem {i : Int} : ∀ {l : List Evl} {o : Option Evl} {e : Evl}, fnd i o l = some e → o = some e ∨ (e ∈ l ∧ e.node = i)
  | [], o, e, h => .inl h
  | x :: r, o, e, h => by
    rw [fnd] at h
    rcases fnd_mem h with h | ⟨h1, h2⟩
    · split at h
      · rename_i hx
        cases h
        exact .inr ⟨List.mem_cons_self, hx⟩
      · exact .inl h
    · exact .inr ⟨List.mem_cons_of_mem _ h1, h2⟩
end Go.Ab.S

namespace Go.Ab.S
open Go Go.Ab
variable {E : Env} [EnvS E]
def oav : Option Evl → List AV
  | none => av0
  | some e => e.av
theorem loop6a (z : List Int) (a : Nat) (t : Tr) (b : Bal) (l : List Evl) (hl : l.length < 4000) (node i : Int) (es : List Evl) (o : Option Evl) :
    loopW E 0 [3, 4, 5, 6, 7, 8, 9, 10, 35, 36, 37] [.loc 1 1 0, .loc 1 1 1, .loc 1 1 2, .loc 1 1 3, .loc 3 6 0, .loc 3 7 0, .loc 4 0 0, .loc 8 1 0] (.trim [3, 4, 5, 6, 7, 8, 9, 10, 35, 36, 37] [2] [(2, [3, 4, 5, 6, 7, 8, 9, 10])] [.loc 1 1 0, .loc 1 1 1, .loc 1 1 2, .loc 1 1 3, .loc 3 6 0, .loc 3 7 0, .loc 4 0 0, .loc 8 1 0] s6_3) (some ⟨[(3, .ptr (.loc 1 1 0) 0), (4, .p (.sl 15 (l.map Evl.pv))), (5, .p (.int .i64 node)), (6, .ptr (.loc 3 6 0) 0), (7, .ptr (.loc 3 7 0) 0), (8, .hsl (.loc 4 0 0) 0 es.length), (9, .p (.int .i64 i)), (10, .ptr (.loc 8 1 0) 0), (35, .p (.sl 15 (l.map Evl.pv))), (36, .p (.int .i64 l.length)), (37, .p (.int .i64 0))], [(.loc 1 1 0, some (.box [.p (.sl 1 (z.map (.int .i64))), .p (.int .i64 a)])), (.loc 1 1 1, none), (.loc 1 1 2, none), (.loc 1 1 3, none), (.loc 3 6 0, some (.box [.p (.int .i64 t.th), .p (.sl 1 (t.ns.map (.int .i64))), .p (.sl 3 (t.is.map In.pv))])), (.loc 3 7 0, some (.box [.p (.int .i64 b.c), .p (.str b.v)])), (.loc 4 0 0, some (.parr (es.map Evl.pv) 15 false)), (.loc 8 1 0, some (.box (oav o)))]⟩) =
    some (.ex 2, ⟨[(3, .ptr (.loc 1 1 0) 0), (4, .p (.sl 15 (l.map Evl.pv))), (5, .p (.int .i64 node)), (6, .ptr (.loc 3 6 0) 0), (7, .ptr (.loc 3 7 0) 0), (8, .hsl (.loc 4 0 0) 0 es.length), (9, .p (.int .i64 i)), (10, .ptr (.loc 8 1 0) 0)], [(.loc 1 1 0, some (.box [.p (.sl 1 (z.map (.int .i64))), .p (.int .i64 a)])), (.loc 1 1 1, none), (.loc 1 1 2, none), (.loc 1 1 3, none), (.loc 3 6 0, some (.box [.p (.int .i64 t.th), .p (.sl 1 (t.ns.map (.int .i64))), .p (.sl 3 (t.is.map In.pv))])), (.loc 3 7 0, some (.box [.p (.int .i64 b.c), .p (.str b.v)])), (.loc 4 0 0, some (.parr (es.map Evl.pv) 15 false)), (.loc 8 1 0, some (.box (oav (fnd i o l))))]⟩) := by
  have key := range_loop (loopW E 0 [3, 4, 5, 6, 7, 8, 9, 10, 35, 36, 37] [.loc 1 1 0, .loc 1 1 1, .loc 1 1 2, .loc 1 1 3, .loc 3 6 0, .loc 3 7 0, .loc 4 0 0, .loc 8 1 0] (.trim [3, 4, 5, 6, 7, 8, 9, 10, 35, 36, 37] [2] [(2, [3, 4, 5, 6, 7, 8, 9, 10])] [.loc 1 1 0, .loc 1 1 1, .loc 1 1 2, .loc 1 1 3, .loc 3 6 0, .loc 3 7 0, .loc 4 0 0, .loc 8 1 0] s6_3)) l
    (fun j (o : Option Evl) => ⟨[(3, .ptr (.loc 1 1 0) 0), (4, .p (.sl 15 (l.map Evl.pv))), (5, .p (.int .i64 node)), (6, .ptr (.loc 3 6 0) 0), (7, .ptr (.loc 3 7 0) 0), (8, .hsl (.loc 4 0 0) 0 es.length), (9, .p (.int .i64 i)), (10, .ptr (.loc 8 1 0) 0), (35, .p (.sl 15 (l.map Evl.pv))), (36, .p (.int .i64 l.length)), (37, .p (.int .i64 j))], [(.loc 1 1 0, some (.box [.p (.sl 1 (z.map (.int .i64))), .p (.int .i64 a)])), (.loc 1 1 1, none), (.loc 1 1 2, none), (.loc 1 1 3, none), (.loc 3 6 0, some (.box [.p (.int .i64 t.th), .p (.sl 1 (t.ns.map (.int .i64))), .p (.sl 3 (t.is.map In.pv))])), (.loc 3 7 0, some (.box [.p (.int .i64 b.c), .p (.str b.v)])), (.loc 4 0 0, some (.parr (es.map Evl.pv) 15 false)), (.loc 8 1 0, some (.box (oav o)))]⟩)
    (fun o r => some (.ex 2, ⟨[(3, .ptr (.loc 1 1 0) 0), (4, .p (.sl 15 (l.map Evl.pv))), (5, .p (.int .i64 node)), (6, .ptr (.loc 3 6 0) 0), (7, .ptr (.loc 3 7 0) 0), (8, .hsl (.loc 4 0 0) 0 es.length), (9, .p (.int .i64 i)), (10, .ptr (.loc 8 1 0) 0)], [(.loc 1 1 0, some (.box [.p (.sl 1 (z.map (.int .i64))), .p (.int .i64 a)])), (.loc 1 1 1, none), (.loc 1 1 2, none), (.loc 1 1 3, none), (.loc 3 6 0, some (.box [.p (.int .i64 t.th), .p (.sl 1 (t.ns.map (.int .i64))), .p (.sl 3 (t.is.map In.pv))])), (.loc 3 7 0, some (.box [.p (.int .i64 b.c), .p (.str b.v)])), (.loc 4 0 0, some (.parr (es.map Evl.pv) 15 false)), (.loc 8 1 0, some (.box (oav (fnd i o r))))]⟩))
  refine key ?_ ?_ o
  · intro o
    rw [loopW_some]
    generalize hK : loopW E 0 _ _ _ = K
    cases o <;> (simp only [oav, av0, Evl.av, fnd]; simp -implicitDefEqProofs only [go_sem, s6_3, s6_2, s6_1])
  · intro j o e r hx hi ih
    obtain ⟨f1, f2, f3⟩ := rangeFacts j l.length hi (by omega)
    rw [fnd]
    by_cases h : e.node = i
    · have ih' := ih (some e)
      rw [if_pos h]
      rw [loopW_some]
      generalize hK : loopW E 0 _ _ _ = K at ih' ⊢
      unfold Evl.pv at *
      cases o <;> (simp only [oav, av0, Evl.av, h] at ih' ⊢; simp -implicitDefEqProofs only [go_sem, s6_3, s6_2, s6_1, hx, f1, f2, f3, h]; exact ih')
    · have ih' := ih o
      rw [if_neg h]
      rw [loopW_some]
      generalize hK : loopW E 0 _ _ _ = K at ih' ⊢
      unfold Evl.pv at *
      cases o <;> (simp only [oav, av0, Evl.av] at ih' ⊢; simp -implicitDefEqProofs only [go_sem, s6_3, s6_2, s6_1, hx, f1, f2, f3, h]; exact ih')

def mineP (node : Int) (b : Bal) (e : Evl) : Bool := decide (e.node = node) && (validE e && accP e b)
theorem loop6c (z : List Int) (a : Nat) (t : Tr) (b : Bal) (l : List Evl) (hl : l.length < 4000) (hth : ∀ e ∈ l, e.t.thin) (node : Int) (v0 : Bool) :
    loopW E 0 [3, 4, 5, 6, 7, 14, 95, 96, 97] [.loc 1 1 0, .loc 1 1 1, .loc 1 1 2, .loc 1 1 3, .loc 3 6 0, .loc 3 7 0] (.trim [3, 4, 5, 6, 7, 14, 95, 96, 97] [2] [(4, [3, 4, 5, 6, 14])] [.loc 1 1 0, .loc 1 1 1, .loc 1 1 2, .loc 1 1 3, .loc 3 6 0, .loc 3 7 0] s6_13) (some ⟨[(3, .ptr (.loc 1 1 0) 0), (4, .p (.sl 15 (l.map Evl.pv))), (5, .p (.int .i64 node)), (6, .ptr (.loc 3 6 0) 0), (7, .ptr (.loc 3 7 0) 0), (14, .p (.bool v0)), (95, .p (.sl 15 (l.map Evl.pv))), (96, .p (.int .i64 l.length)), (97, .p (.int .i64 0))], [(.loc 1 1 0, some (.box [.p (.sl 1 (z.map (.int .i64))), .p (.int .i64 a)])), (.loc 1 1 1, none), (.loc 1 1 2, none), (.loc 1 1 3, none), (.loc 3 6 0, some (.box [.p (.int .i64 t.th), .p (.sl 1 (t.ns.map (.int .i64))), .p (.sl 3 (t.is.map In.pv))])), (.loc 3 7 0, some (.box [.p (.int .i64 b.c), .p (.str b.v)]))]⟩) =
    some (.ex 4, ⟨[(3, .ptr (.loc 1 1 0) 0), (4, .p (.sl 15 (l.map Evl.pv))), (5, .p (.int .i64 node)), (6, .ptr (.loc 3 6 0) 0), (14, .p (.bool (v0 || l.any (mineP node b))))], [(.loc 1 1 0, some (.box [.p (.sl 1 (z.map (.int .i64))), .p (.int .i64 a)])), (.loc 1 1 1, none), (.loc 1 1 2, none), (.loc 1 1 3, none), (.loc 3 6 0, some (.box [.p (.int .i64 t.th), .p (.sl 1 (t.ns.map (.int .i64))), .p (.sl 3 (t.is.map In.pv))])), (.loc 3 7 0, some (.box [.p (.int .i64 b.c), .p (.str b.v)]))]⟩) := by
  have key := range_loop (loopW E 0 [3, 4, 5, 6, 7, 14, 95, 96, 97] [.loc 1 1 0, .loc 1 1 1, .loc 1 1 2, .loc 1 1 3, .loc 3 6 0, .loc 3 7 0] (.trim [3, 4, 5, 6, 7, 14, 95, 96, 97] [2] [(4, [3, 4, 5, 6, 14])] [.loc 1 1 0, .loc 1 1 1, .loc 1 1 2, .loc 1 1 3, .loc 3 6 0, .loc 3 7 0] s6_13)) l
    (fun j (v : Bool) => ⟨[(3, .ptr (.loc 1 1 0) 0), (4, .p (.sl 15 (l.map Evl.pv))), (5, .p (.int .i64 node)), (6, .ptr (.loc 3 6 0) 0), (7, .ptr (.loc 3 7 0) 0), (14, .p (.bool v)), (95, .p (.sl 15 (l.map Evl.pv))), (96, .p (.int .i64 l.length)), (97, .p (.int .i64 j))], [(.loc 1 1 0, some (.box [.p (.sl 1 (z.map (.int .i64))), .p (.int .i64 a)])), (.loc 1 1 1, none), (.loc 1 1 2, none), (.loc 1 1 3, none), (.loc 3 6 0, some (.box [.p (.int .i64 t.th), .p (.sl 1 (t.ns.map (.int .i64))), .p (.sl 3 (t.is.map In.pv))])), (.loc 3 7 0, some (.box [.p (.int .i64 b.c), .p (.str b.v)]))]⟩)
    (fun v r => some (.ex 4, ⟨[(3, .ptr (.loc 1 1 0) 0), (4, .p (.sl 15 (l.map Evl.pv))), (5, .p (.int .i64 node)), (6, .ptr (.loc 3 6 0) 0), (14, .p (.bool (v || r.any (mineP node b))))], [(.loc 1 1 0, some (.box [.p (.sl 1 (z.map (.int .i64))), .p (.int .i64 a)])), (.loc 1 1 1, none), (.loc 1 1 2, none), (.loc 1 1 3, none), (.loc 3 6 0, some (.box [.p (.int .i64 t.th), .p (.sl 1 (t.ns.map (.int .i64))), .p (.sl 3 (t.is.map In.pv))])), (.loc 3 7 0, some (.box [.p (.int .i64 b.c), .p (.str b.v)]))]⟩))
  refine key ?_ ?_ v0
  · intro v
    rw [loopW_some]
    generalize hK : loopW E 0 _ _ _ = K
    simp -implicitDefEqProofs only [go_sem, s6_13, s6_12, List.any_nil, Bool.or_false]
  · intro j v e r hx hi ih
    obtain ⟨f1, f2, f3⟩ := rangeFacts j l.length hi (by omega)
    have e1 := e40 (E := E) e (hth e (List.mem_of_getElem? hx)) b
    have ih' := ih (v || mineP node b e)
    rw [Bool.or_assoc, ← List.any_cons] at ih'
    unfold mineP at ih' ⊢
    rw [loopW_some]
    generalize hK : loopW E 0 _ _ _ = K at ih' ⊢
    unfold Evl.pv at *
    generalize (validE e && accP e b) = c at *
    cases v with
    | true => simp -implicitDefEqProofs only [go_sem, s6_13, s6_12, hx, f1, f2, f3] at ih' ⊢; exact ih'
    | false =>
      by_cases h : e.node = node
      · simp only [h, decide_true, Bool.true_and] at ih' e1
        simp -implicitDefEqProofs only [go_sem, s6_13, s6_12, hx, f1, f2, f3, h, e1] at ih' ⊢; exact ih'
      · simp only [h, decide_false, Bool.false_and] at ih'
        simp -implicitDefEqProofs only [go_sem, s6_13, s6_12, hx, f1, f2, f3, h] at ih' ⊢; exact ih'

theorem loop6b (z : List Int) (a : Nat) (t : Tr) (b : Bal) (l : List Evl) (hl : l.length < 4000) (hth : ∀ e ∈ l, e.t.thin) (hv : ∀ e ∈ l, validE e = true) (node : Int) (hn : ∀ e ∈ l, e.node < 5) (hlen : l.length ≤ 5) (hasc : l.Pairwise (fun a b => a.node < b.node)) :
    ∀ (k i : Nat) (es : List Evl), i + k = 5 → es = (l.filter (fun e => decide (e.node < (i : Int)))).map (moreE node b) →
    loopW E 0 [3, 4, 5, 6, 7, 8, 9] [.loc 1 1 0, .loc 1 1 1, .loc 1 1 2, .loc 1 1 3, .loc 3 6 0, .loc 3 7 0, .loc 4 0 0] (.trim [3, 4, 5, 6, 7, 8, 9] [2] [(0, [3, 4, 5, 6, 7, 8])] [.loc 1 1 0, .loc 1 1 1, .loc 1 1 2, .loc 1 1 3, .loc 3 6 0, .loc 3 7 0, .loc 4 0 0] s6_9) (some ⟨[(3, .ptr (.loc 1 1 0) 0), (4, .p (.sl 15 (l.map Evl.pv))), (5, .p (.int .i64 node)), (6, .ptr (.loc 3 6 0) 0), (7, .ptr (.loc 3 7 0) 0), (8, .hsl (.loc 4 0 0) 0 es.length), (9, .p (.int .i64 i))], [(.loc 1 1 0, some (.box [.p (.sl 1 (z.map (.int .i64))), .p (.int .i64 a)])), (.loc 1 1 1, none), (.loc 1 1 2, none), (.loc 1 1 3, none), (.loc 3 6 0, some (.box [.p (.int .i64 t.th), .p (.sl 1 (t.ns.map (.int .i64))), .p (.sl 3 (t.is.map In.pv))])), (.loc 3 7 0, some (.box [.p (.int .i64 b.c), .p (.str b.v)])), (.loc 4 0 0, some (.parr (es.map Evl.pv) 15 false))]⟩) =
    some (.ex 0, ⟨[(3, .ptr (.loc 1 1 0) 0), (4, .p (.sl 15 (l.map Evl.pv))), (5, .p (.int .i64 node)), (6, .ptr (.loc 3 6 0) 0), (7, .ptr (.loc 3 7 0) 0), (8, .hsl (.loc 4 0 0) 0 (l.map (moreE node b)).length)], [(.loc 1 1 0, some (.box [.p (.sl 1 (z.map (.int .i64))), .p (.int .i64 a)])), (.loc 1 1 1, none), (.loc 1 1 2, none), (.loc 1 1 3, none), (.loc 3 6 0, some (.box [.p (.int .i64 t.th), .p (.sl 1 (t.ns.map (.int .i64))), .p (.sl 3 (t.is.map In.pv))])), (.loc 3 7 0, some (.box [.p (.int .i64 b.c), .p (.str b.v)])), (.loc 4 0 0, some (.parr ((l.map (moreE node b)).map Evl.pv) 15 false))]⟩) := by
  generalize hK : loopW E 0 _ _ _ = K
  intro k
  induction k with
  | zero =>
    intro i es hi he
    have : i = 5 := by omega
    subst this
    have hf : l.filter (fun e => decide (e.node < ((5 : Nat) : Int))) = l := List.filter_eq_self.2 fun e he => decide_eq_true (hn e he)
    rw [hf] at he
    subst he
    rw [← hK, loopW_some, hK]
    simp -implicitDefEqProofs only [go_sem, s6_9, s6_8, s6_4, s6_6, s6_5, s6_7]
  | succ k ih =>
    intro i es hi he
    have f1 : (i : Int) < 5 := by omega
    have f3 : IntKind.i64.wrap ((i : Int) + 1) = ((i + 1 : Nat) : Int) := wrap64 (by omega) (by omega)
    have lp := loop6a (E := E) z a t b l hl node i es none
    have hnx := fnd_next i hasc
    have hel : es.length ≤ 5 := by rw [he, List.length_map]; exact Nat.le_trans (List.length_filter_le _ _) hlen
    have hm : es.length + 1 ≤ most := by unfold most; omega
    cases hf : fnd (i : Int) none l with
    | none =>
      rw [hf] at hnx lp
      have ih' := ih (i + 1) es (by omega) (by rw [he, hnx]; simp)
      simp only [oav, av0] at lp
      rw [← hK, loopW_some, hK]
      simp -implicitDefEqProofs only [go_sem, s6_9, s6_8, s6_4, s6_6, s6_5, s6_7, f1, f3, lp] at ih' ⊢
      exact ih'
    | some e =>
      rw [hf] at hnx lp
      obtain ⟨hel1, hnode⟩ : e ∈ l ∧ e.node = (i : Int) := by
        rcases fnd_mem hf with h | h
        · cases h
        · exact h
      have ih' := ih (i + 1) (es ++ [moreE node b e]) (by omega) (by rw [he, hnx]; simp)
      have hve := hv e hel1
      have hs : ¬ e.seq = 0 := by
        have h0 := hve
        simp only [validE, headE, Bool.and_eq_true, decide_eq_true_eq] at h0
        omega
      have e1 := e40 (E := E) e (hth e hel1) b
      simp only [List.map_append, List.map_cons, List.map_nil, List.length_append, List.length_cons, List.length_nil, Nat.zero_add] at ih'
      rw [← hK, loopW_some, hK]
      simp only [oav, av0, Evl.av] at lp
      unfold moreE at ih'
      unfold Evl.pv at *
      by_cases hno : (i : Int) = node
      · subst hno
        rw [if_pos hnode] at ih'
        simp -implicitDefEqProofs only [go_sem, s6_9, s6_8, s6_4, s6_6, s6_5, s6_7, f1, f3, lp, hs, hm] at ih' ⊢
        exact ih'
      · rw [if_neg (by rw [hnode]; exact hno)] at ih'
        cases hc : (validE e && accP e b) with
        | true =>
          rw [hc] at e1 ih'
          rw [if_pos rfl] at ih'
          simp -implicitDefEqProofs only [go_sem, s6_9, s6_8, s6_4, s6_6, s6_5, s6_7, f1, f3, lp, hs, hno, hm, e1] at ih' ⊢
          exact ih'
        | false =>
          rw [hc] at e1 ih'
          rw [if_neg (by decide), hnode] at ih'
          simp -implicitDefEqProofs only [go_sem, s6_9, s6_8, s6_4, s6_6, s6_5, s6_7, f1, f3, lp, hs, hno, hm, e1, Bal.zero] at ih' ⊢
          exact ih'
end Go.Ab.S

namespace Go.Ab.S
open Go Go.Ab
variable {E : Env} [EnvS E]
theorem join_small {p q b : Bal} (hp : p.c < 1000) (hq : q.c < 1000) (hb : b.c < 1000) : (join p q b).1.c < 1000 ∧ (join p q b).2.c < 1000 := by
  unfold join
  repeat' split
  all_goals exact ⟨by simp [*], by simp [*]⟩
theorem endl_small {b : Bal} (h : b.c < 1000) : endl b = b := by unfold endl; rw [if_neg (by omega)]
theorem confirm_mine {nd : Nat} {t : Tr} {l : List Evl} {b : Bal} (hv : ∀ e ∈ l, validE e = true) (h : confirmW nd t l b = true) : l.any (mineP nd b) = true := by
  have f1 : l.filter validE = l := List.filter_eq_self.2 hv
  unfold confirmW at h
  rw [f1] at h
  have h1 := (great_sub _ _ nd h).1
  rw [who_bit _ _ _ (fun e he => validE_node (hv e he)), List.any_eq_true] at h1
  obtain ⟨e, he, h2⟩ := h1
  simp only [Bool.and_eq_true, decide_eq_true_eq] at h2
  exact List.any_eq_true.2 ⟨e, he, by simp [mineP, h2.1, h2.2, hv e he]⟩
theorem law6 (zs : List Int) : callW E 6 [.p (.sl 1 (zs.map (.int .i64)))] [] = some ⟨.p (.bool true), [], []⟩ := by
  have e0 := e17 (E := E) zs
  have hl : (zs.take 800).length ≤ 800 := by simp; omega
  generalize zs.take 800 = l at *
  obtain ⟨es, a1, l1, g, e1⟩ := e18 (E := E) l 0 hl (Nat.zero_le _)
  have hlen := g.len
  have hth := g.thin
  have hv := g.valid
  have e2 := e28 (E := E) l a1 5 hl l1 (by decide)
  have d1 := dV_nonneg l a1 5
  have d2 := dV_lt l a1 5 (by decide)
  have l2 := dA_le l a1 5 l1
  obtain ⟨nd, hnd⟩ : ∃ k : Nat, dV l a1 5 = k := ⟨(dV l a1 5).toNat, by omega⟩
  rw [hnd] at e2 d1 d2
  have hn10 : nd < 10 := by omega
  generalize dA l a1 5 = a2 at *
  have e3 := e29 (E := E) l a2 5 hl l2 (by omega) (by omega)
  have tg := trG_ok l a2 5 (by omega) (by omega)
  have l3 := trG_le l a2 5 l2
  generalize trG l a2 5 = tt at *
  obtain ⟨t, a3⟩ := tt
  dsimp only at e3 tg l3
  have e4 := e39 (E := E) l a3 hl l3
  have b1 := dV_nonneg l a3 6
  have b2 := dV_lt l a3 6 (by decide)
  have l4 := dA_le l _ 4 (dA_le l a3 6 l3)
  have hval := isVal_dV l (dA l a3 6)
  generalize valN (dV l (dA l a3 6) 4) = bv at *
  generalize dA l (dA l a3 6) 4 = a4 at *
  have hbf : finite ⟨1 + dV l a3 6, bv⟩ = true := finite_mk (by omega) (by omega) hval
  have hbz : zeroB ⟨1 + dV l a3 6, bv⟩ = false := by simp [zeroB]; omega
  generalize 1 + dV l a3 6 = bc at *
  have e5 := e39 (E := E) l a4 hl l4
  have c1 := dV_lt l a4 6 (by decide)
  have l5 := dA_le l _ 4 (dA_le l a4 6 l4)
  generalize valN (dV l (dA l a4 6) 4) = pv at *
  generalize dA l (dA l a4 6) 4 = a5 at *
  have hp : (⟨1 + dV l a4 6, pv⟩ : Bal).c < 1000 := by show 1 + dV l a4 6 < 1000; omega
  generalize 1 + dV l a4 6 = pc at *
  have e6 := e39 (E := E) l a5 hl l5
  have c2 := dV_lt l a5 6 (by decide)
  generalize valN (dV l (dA l a5 6) 4) = qv at *
  generalize dA l (dA l a5 6) 4 = a6 at *
  have hq : (⟨1 + dV l a5 6, qv⟩ : Bal).c < 1000 := by show 1 + dV l a5 6 < 1000; omega
  generalize 1 + dV l a5 6 = qc at *
  have e7 := e43 (E := E) ⟨pc, pv⟩ ⟨0, ByteArray.empty⟩ ⟨qc, qv⟩
  obtain ⟨j1, j2⟩ := join_small (p := ⟨pc, pv⟩) (q := ⟨0, ByteArray.empty⟩) (b := ⟨qc, qv⟩) hp (by decide) hq
  generalize join ⟨pc, pv⟩ ⟨0, ByteArray.empty⟩ ⟨qc, qv⟩ = pq at *
  obtain ⟨⟨p1, p2⟩, ⟨q1, q2⟩⟩ := pq
  dsimp only at j1 j2 e7
  have e8 := e44 (E := E) nd hn10 t es ⟨p1, p2⟩ ⟨q1, q2⟩ ByteArray.empty tg.thin (by omega) hth
  have nw := nextW_cases nd t es ⟨p1, p2⟩ ⟨q1, q2⟩ ByteArray.empty
  generalize nextW nd t es ⟨p1, p2⟩ ⟨q1, q2⟩ ByteArray.empty = n at *
  obtain ⟨n1, n2⟩ := n
  have e9 := e45 (E := E) ⟨n1, n2⟩
  have ea := e46 (E := E) ⟨p1, p2⟩ ⟨q1, q2⟩ ⟨n1, n2⟩
  have eb := e41 (E := E) nd hn10 t es ⟨n1, n2⟩ tg.thin (by omega) hth
  have ec := e41 (E := E) nd hn10 t es ⟨bc, bv⟩ tg.thin (by omega) hth
  have ed := e41 (E := E) nd hn10 t (es.map (moreE nd ⟨bc, bv⟩)) ⟨bc, bv⟩ tg.thin (by simp; omega) (by
    intro e he
    obtain ⟨e0, h1, rfl⟩ := List.mem_map.1 he
    rw [(moreE_node _ _ _).2]; exact hth e0 h1)
  have ee := e42 (E := E) nd hn10 t es ⟨bc, bv⟩ tg.thin (by omega) hth
  have ef := e47 (E := E)
  have hz : zeroB ⟨n1, n2⟩ = true ∨ (prepares ⟨p1, p2⟩ ⟨q1, q2⟩ ⟨n1, n2⟩ = false ∧ acceptW nd t es ⟨n1, n2⟩ = true) := by
    rcases nw with h | ⟨_, h⟩
    · rw [h]; exact .inl (by decide)
    · simp only [nextP, endl_small (b := ⟨p1, p2⟩) j1, endl_small (b := ⟨q1, q2⟩) j2, Bool.and_eq_true, Bool.not_eq_true'] at h
      exact .inr h.2
  have hA : acceptW nd t es ⟨bc, bv⟩ = true → acceptW nd t (es.map (moreE nd ⟨bc, bv⟩)) ⟨bc, bv⟩ = true := more_accept hbf hbz nd t hv
  have hC : confirmW nd t es ⟨bc, bv⟩ = true → es.any (mineP nd ⟨bc, bv⟩) = true := confirm_mine hv
  have lp1 := loop6b (E := E) l a4 t ⟨bc, bv⟩ es (by omega) hth hv nd (fun e he => (g.g e he).2.2.2) hlen g.asc 5 0 [] rfl (by
    have : es.filter (fun e => decide (e.node < ((0 : Nat) : Int))) = [] := List.filter_eq_nil_iff.2 fun e he => by have := (g.g e he).2.2.1; simp; omega
    rw [this]; rfl)
  have lp2 := loop6c (E := E) l a4 t ⟨bc, bv⟩ es (by omega) hth nd false
  simp only [Bool.false_or] at lp2
  generalize es.map (moreE nd ⟨bc, bv⟩) = ms at *
  unfold Tr.pv at e3 e8 eb ec ed ee
  simp only [cast_lit, Int.natCast_zero, List.length_nil, List.map_nil, Bal.pv] at e0 e1 e2 e3 e4 e5 e6 e7 e8 lp1 lp2
  generalize confirmW nd t es ⟨bc, bv⟩ = C at *
  generalize es.any (mineP nd ⟨bc, bv⟩) = M at *
  generalize acceptW nd t es ⟨bc, bv⟩ = A at *
  generalize acceptW nd t ms ⟨bc, bv⟩ = A' at *
  generalize zeroB ⟨n1, n2⟩ = Z at *
  generalize prepares ⟨p1, p2⟩ ⟨q1, q2⟩ ⟨n1, n2⟩ = P at *
  generalize acceptW nd t es ⟨n1, n2⟩ = N at *
  have hAA : A = false ∨ (A = true ∧ A' = true) := by cases A <;> simp_all
  have hCM : C = false ∨ (C = true ∧ M = true) := by cases C <;> simp_all
  have hZ : Z = true ∨ (Z = false ∧ P = false ∧ N = true) := by cases Z <;> simp_all
  clear hz
  rw [callW_eq, EnvS.h 6 F6 rfl]
  rcases hAA with rfl | ⟨rfl, rfl⟩ <;> rcases hCM with rfl | ⟨rfl, rfl⟩ <;> rcases hZ with rfl | ⟨rfl, rfl, rfl⟩ <;>
    (simp -implicitDefEqProofs only [go_sem, F6, s6, s6_10, s6_11, s6_16, s6_14, s6_15, e0, e1, e2, e3, e4, e5, e6, e7, e8, e9, ea, eb, ec, ed, ee, ef, lp1, lp2])
end Go.Ab.S
