/- A part of the proof: an executor over plain data, shown sound for the model, and what it computes of the functions. -/
import Derived.Test.YtmnjnpgmenigiaaDraw2
set_option linter.all false
/-! Regions. -/
set_option linter.unusedVariables false
set_option linter.unusedSimpArgs false
set_option linter.unusedSectionVars false
namespace Go.Ab
open Go

/-! ### What must agree -/
def guardL (ops : Array Go.Oper) (N : Nat) (g g' : Option (Nat × Bool)) : Bool :=
  match g, g' with
  | none, none => true
  | some (j, b), some (t, b') => b == b' && ((ops[j]?).bind (·.dst)) == some t && decide (t < N)
  | _, _ => false

def operL (P : Program) (idm : FuncId → FuncId) (N : Nat) (ops : Array Go.Oper) (o : Go.Oper) (s : SOper) : Bool :=
  o.dst == s.dst && (match o.dst with
    | some t => decide (t < N)
    | none => true) && guardL ops N o.guard s.guard && opL P idm o.op s.op

def opersL (P : Program) (idm : FuncId → FuncId) (N : Nat) (ops : Array Go.Oper) : List Go.Oper → List SOper → Bool
  | [], [] => true
  | o :: r, s :: q => operL P idm N ops o s && opersL P idm N ops r q
  | _, _ => false

theorem opersL_get {P : Program} {idm : FuncId → FuncId} {N : Nat} {ops : Array Go.Oper} : ∀ {l : List Go.Oper} {q : List SOper}, opersL P idm N ops l q = true → l.length = q.length ∧ ∀ (i : Nat) (o : Go.Oper) (s : SOper), l[i]? = some o → q[i]? = some s → operL P idm N ops o s = true
  | [], [], _ => ⟨rfl, fun i o s h => by simp at h⟩
  | o :: r, s :: q, h => by
    simp only [opersL, Bool.and_eq_true] at h
    obtain ⟨h1, h2⟩ := opersL_get h.2
    refine ⟨by simp [h1], fun i o' s' ho hs => ?_⟩
    cases i with
    | zero => simp at ho hs; subst ho; subst hs; exact h.1
    | succ i => simp at ho hs; exact h2 i o' s' ho hs
  | [], _ :: _, h => by simp [opersL] at h
  | _ :: _, [], h => by simp [opersL] at h

def bothM (e : Edge) : Bool :=
  match e.ground with
  | .textOnly _ => false
  | .gcOnly _ => false
  | _ => true
theorem bothM_binds {e : Edge} (h : bothM e = true) (md : Region.Mode) : Region.binds md e = true := by
  unfold bothM at h; unfold Region.binds; split at h <;> simp_all

inductive Bef (ops : Array Go.Oper) : Nat → Nat → Prop
  | one (j : Nat) (o : Go.Oper) (e : Edge) (h : ops[j]? = some o) (he : e ∈ o.after) (hb : bothM e = true) : Bef ops e.on j
  | two (i j : Nat) (o : Go.Oper) (e : Edge) (h : ops[j]? = some o) (he : e ∈ o.after) (hb : bothM e = true) (h2 : Bef ops i e.on) : Bef ops i j

def befOf (acc : List (List Nat)) (o : Go.Oper) : List Nat := o.after.toList.flatMap fun e => if bothM e then e.on :: acc.getD e.on [] else []
def befL : List Go.Oper → List (List Nat) → List (List Nat)
  | [], acc => acc
  | o :: r, acc => befL r (acc ++ [befOf acc o])

theorem befL_spec {ops : Array Go.Oper} : ∀ (l : List Go.Oper) (acc : List (List Nat)), (∀ k o, l[k]? = some o → ops[acc.length + k]? = some o) → (∀ j i, i ∈ acc.getD j [] → Bef ops i j) → ∀ j i, i ∈ (befL l acc).getD j [] → Bef ops i j
  | [], acc, _, h => h
  | o :: r, acc, hl, h => by
    refine befL_spec r (acc ++ [befOf acc o]) (fun k o' hk => ?_) fun j i hi => ?_
    · have := hl (k + 1) o' (by simpa using hk)
      simpa [Nat.add_assoc, Nat.add_comm 1 k] using this
    · by_cases hj : j < acc.length
      · have e : (acc ++ [befOf acc o]).getD j [] = acc.getD j [] := by simp [List.getD_eq_getElem?_getD, List.getElem?_append_left hj]
        rw [e] at hi
        exact h j i hi
      · by_cases hj2 : j = acc.length
        · subst hj2
          have e : (acc ++ [befOf acc o]).getD acc.length [] = befOf acc o := by simp [List.getD_eq_getElem?_getD]
          rw [e] at hi
          obtain ⟨ed, h1, h2⟩ := List.mem_flatMap.1 hi
          have ho : ops[acc.length]? = some o := by simpa using hl 0 o rfl
          split at h2
          · rename_i hb
            rcases List.mem_cons.1 h2 with rfl | h2
            · exact .one _ o ed ho (by simpa using h1) hb
            · exact .two _ _ o ed ho (by simpa using h1) hb (h _ _ h2)
          · cases h2
        · have e : (acc ++ [befOf acc o]).getD j [] = [] := by
            rw [List.getD_eq_getElem?_getD, List.getElem?_eq_none (by simp; omega)]; rfl
          rw [e] at hi; cases hi

def pairFree (pairs : List (Nat × Nat)) (a b : SOper) (i j : Nat) : Bool :=
  apartS a b && (pairs.contains (i, j) || (pureS a.op && noPgS b.op) || (pureS b.op && noPgS a.op))

/-- An order that holds all operations, each behind what it waits for. -/
def topo (md : Region.Mode) (ops : Array Go.Oper) : List Nat → List Nat → Bool
  | _, [] => true
  | seen, i :: r => (match ops[i]? with
    | some o => o.after.all fun e => !Region.binds md e || seen.contains e.on
    | none => false) && topo md ops (i :: seen) r
def topoOk (md : Region.Mode) (ops : Array Go.Oper) : Bool :=
  let l := Region.linearise md ops 0
  topo md ops [] l && (List.range ops.size).all fun j => l.contains j

theorem topo_ready {md : Region.Mode} {ops : Array Go.Oper} {listed : Array Bool} (hs : listed.size = ops.size) : ∀ (l seen : List Nat), topo md ops seen l = true → (∀ k ∈ seen, listed.getD k false = true) → (∃ j ∈ l, listed.getD j false = false) → Region.ready md ops listed ≠ []
  | [], seen, _, _, ⟨j, hj, _⟩ => by cases hj
  | i :: r, seen, ht, hseen, ⟨j, hj, hlj⟩ => by
    simp only [topo, Bool.and_eq_true] at ht
    cases hi : listed.getD i false with
    | true => exact topo_ready hs r (i :: seen) ht.2 (fun k hk => by rcases List.mem_cons.1 hk with rfl | hk <;> first | exact hi | exact hseen k hk) (by
        rcases List.mem_cons.1 hj with rfl | hj
        · rw [hi] at hlj; cases hlj
        · exact ⟨j, hj, hlj⟩)
    | false =>
      have h1 := ht.1
      split at h1
      · rename_i o ho
        have hlt := (Array.getElem?_eq_some_iff.1 ho).1
        have : i ∈ Region.ready md ops listed := mem_ready.2 ⟨by rw [← hi]; simp [Array.getD_eq_getD_getElem?, hs, hlt], o, ho, fun e he hb => by
          have := Array.all_eq_true_iff_forall_mem.1 h1 e he
          simp only [hb, Bool.not_true, Bool.false_or, List.contains_iff_mem] at this
          exact hseen _ this⟩
        intro hn
        rw [hn] at this; cases this
      · cases h1

def drawOk (ops : Array Go.Oper) (sops : List SOper) (pairs : List (Nat × Nat)) : Bool :=
  let b := befL ops.toList []
  ((List.range ops.size).all fun j => match ops[j]?, sops[j]? with
    | some o, some s => (List.range j).all fun i => (b.getD j []).contains i || match sops[i]? with
        | some s' => pairFree pairs s' s i j
        | none => false
    | _, _ => false) &&
  (((List.range ops.size).all fun j => match ops[j]? with
    | some o => o.after.all fun e => decide (e.on < j)
    | none => false) || (topoOk .text ops && topoOk .gc ops && topoOk .any ops))

theorem drawOk_spec {ops : Array Go.Oper} {sops : List SOper} {pairs : List (Nat × Nat)} (h : drawOk ops sops pairs = true) {j : Nat} {o : Go.Oper} {s : SOper} (ho : ops[j]? = some o) (hs : sops[j]? = some s) :
    ∀ i s', i < j → sops[i]? = some s' → Bef ops i j ∨ pairFree pairs s' s i j = true := by
  unfold drawOk at h
  rw [Bool.and_eq_true] at h
  have hj := (Array.getElem?_eq_some_iff.1 ho).1
  have h1 := List.all_eq_true.1 h.1 j (List.mem_range.2 hj)
  simp only [ho, hs] at h1
  intro i s' hi hs'
  have h2 := List.all_eq_true.1 h1 i (List.mem_range.2 hi)
  simp only [hs', Bool.or_eq_true] at h2
  rcases h2 with h2 | h2
  · exact .inl (befL_spec ops.toList [] (fun k o h => by simpa using h) (fun j i h => by simp at h) j i (by simpa using h2))
  · exact .inr h2

/-- Who is left finds somebody ready. -/
theorem drawOk_ready {ops : Array Go.Oper} {sops : List SOper} {pairs : List (Nat × Nat)} (h : drawOk ops sops pairs = true) (md : Region.Mode) {listed : Array Bool} (hs : listed.size = ops.size) (hj : ∃ j, j < ops.size ∧ listed.getD j false = false) :
    Region.ready md ops listed ≠ [] := by
  unfold drawOk at h
  simp only [Bool.and_eq_true, Bool.or_eq_true] at h
  obtain ⟨j, hjl, hj⟩ := hj
  have viaTopo : ∀ md, topoOk md ops = true → Region.ready md ops listed ≠ [] := by
    intro md ht
    simp only [topoOk, Bool.and_eq_true] at ht
    exact topo_ready hs _ [] ht.1 (fun k hk => by cases hk) ⟨j, by simpa using List.all_eq_true.1 ht.2 j (List.mem_range.2 hjl), hj⟩
  rcases h.2 with h2 | h2
  · refine topo_ready hs (List.range ops.size) [] ?_ (fun k hk => by cases hk) ⟨j, List.mem_range.2 hjl, hj⟩
    have gen : ∀ (n k : Nat) (seen : List Nat), k + n = ops.size → (∀ i, i < k → i ∈ seen) → topo md ops seen (List.range' k n) = true := by
      intro n
      induction n with
      | zero => exact fun _ _ _ _ => rfl
      | succ n ih =>
        intro k seen hk hseen
        rw [List.range'_succ]
        have hkl : k < ops.size := by omega
        have hok := Array.getElem?_eq_getElem hkl
        have h3 := List.all_eq_true.1 h2 k (List.mem_range.2 hkl)
        simp only [hok] at h3
        simp only [topo, hok, Bool.and_eq_true]
        refine ⟨Array.all_eq_true_iff_forall_mem.2 fun e he => ?_, ih (k + 1) (k :: seen) (by omega) fun i hi => ?_⟩
        · have := Array.all_eq_true_iff_forall_mem.1 h3 e he
          simp only [decide_eq_true_eq] at this
          simp [hseen _ this]
        · rcases Nat.lt_or_ge i k with h | h
          · exact List.mem_cons_of_mem _ (hseen i h)
          · have : i = k := by omega
            subst this; exact List.mem_cons_self
    rw [List.range_eq_range']
    exact gen ops.size 0 [] (by omega) fun i hi => by omega
  · cases md with
    | text => exact viaTopo _ h2.1.1
    | gc => exact viaTopo _ h2.1.2
    | any => exact viaTopo _ h2.2

/-! ### A frame -/
section
variable {P : Program} {idm : FuncId → FuncId} {N : Nat} {m0 : NMap} {w0 : World} {W0 : Nat → Prop} {H0 : Hp}

def FI (idm : FuncId → FuncId) (N : Nat) (m0 : NMap) (w0 : World) (W0 : Nat → Prop) (H0 : Hp) (st : St) (a : Act) (w : World) : Prop :=
  a.defers = [] ∧ ∃ m W, Sim idm N m w W st a ∧ Since m0 w0 W0 H0 m w W st.H

theorem FI.eqv {st st' : St} {a : Act} {w : World} (h : FI idm N m0 w0 W0 H0 st a w) (e : Eqv st st') : FI idm N m0 w0 W0 H0 st' a w := by
  obtain ⟨h0, m, W, s, si⟩ := h
  refine ⟨h0, m, W, { h := fun x o hx => s.h x o (by rw [e.h]; exact hx), sep := fun x y o o' b hx hy => s.sep x y o o' b (by rw [e.h]; exact hx) (by rw [e.h]; exact hy), ch := fun y o x hy hx => (e.h x) ▸ s.ch y o x (by rw [e.h]; exact hy) hx, lt := s.lt, sz := s.sz, t := fun i => (e.t i) ▸ s.t i, ct := fun i x hx => (e.h x) ▸ s.ct i x (by rw [e.t]; exact hx) }, ?_⟩
  exact si.less fun x o hx => by rw [e.h]; exact hx

theorem FI.drew {st : St} {a : Act} {w : World} (h : FI idm N m0 w0 W0 H0 st a w) : FI idm N m0 w0 W0 H0 st a { w with drawn := w.drawn + 1 } := by
  obtain ⟨h0, m, W, s, si⟩ := h
  have k : Keep (fun _ => False) w { w with drawn := w.drawn + 1 } := ⟨rfl, rfl, rfl, Nat.le_refl _, fun _ _ _ => rfl⟩
  have hk : ∀ {x : Nm} {o : AObj}, hget st.H x = some o → ORep idm m { w with drawn := w.drawn + 1 } W (m x) o := fun hx => (s.h _ _ hx).keep k (fun _ h => h.elim) (fun _ _ h => h) (fun _ _ => rfl) fun b hb => ⟨fun h => h, fun h => h⟩
  refine ⟨h0, m, W, { h := fun x o hx => hk hx, sep := s.sep, ch := s.ch, lt := s.lt, sz := s.sz, t := fun i => (s.t i).keep k (fun _ h => h.elim) (fun _ _ h => h) fun _ _ => rfl, ct := s.ct }, ?_⟩
  exact ⟨⟨⟨si.tr.os, si.tr.tape, si.tr.output, si.tr.size, si.tr.block⟩, si.tr.sub, si.tr.sup, si.tr.own⟩, si.born, si.ext⟩

/-- One operation. -/
theorem wpOp_step {cf : CF} (cfok : CFOK P idm cf) {raw : FuncId → Bool} {r i : Nat} {ops : Array Go.Oper} {o : Go.Oper} {so : SOper} (ho : ops[i]? = some o) (hl : operL P idm N ops o so = true) {st : St} {a : Act} {w : World}
    (hfi : FI idm N m0 w0 W0 H0 st a w) {d : Dl} {f : List Nm} (h : outX cf raw r i so st = some (d, f)) {K : Act → World → Prop} {Q : Exit → Act → World → Prop}
    (hK : ∀ a' w', FI idm N m0 w0 W0 H0 (putD so.dst d st.T st.H) a' w' → K a' w') : wpOp P ops Q i K a w := by
  obtain ⟨h0, m, W, s, si⟩ := hfi
  simp only [operL, Bool.and_eq_true, beq_iff_eq] at hl
  obtain ⟨⟨⟨l1, l2⟩, l3⟩, l4⟩ := hl
  have hdst : ∀ t, so.dst = some t → t < N := fun t ht => by rw [l1, ht] at l2; simpa using l2
  have hdef : ∀ v, (a.put o.dst v).defers = [] := fun v => by cases o.dst <;> simp [Act.put, h0]
  have hwant : ∀ b, wantedG st.T so.guard = some b → Region.wanted o (yielded ops a.tmps) = b := by
    intro b hb
    unfold Region.wanted
    unfold guardL at l3
    split at l3
    · rename_i e1 e2
      rw [e2] at hb
      simp only [wantedG, Option.some.injEq] at hb
      rw [e1, ← hb]
    · rename_i j want t want' e1 e2
      simp only [Bool.and_eq_true, beq_iff_eq, decide_eq_true_eq] at l3
      obtain ⟨⟨rfl, h3⟩, h4⟩ := l3
      rw [e2] at hb
      rw [e1]
      simp only [wantedG] at hb
      have ht := s.t t
      have hlt : t < a.tmps.size := by rw [s.sz]; exact h4
      have hg : a.tmps[t]? = some (a.tmps.getD t undef) := by simp [hlt]
      simp only [yielded, h3, Option.bind_some, hg]
      split at hb
      · rename_i c hc
        rw [hc] at ht
        simp only [Option.some.injEq] at hb
        rw [ht.bool_inv]
        simpa using hb
      · rename_i hc
        simp only [Option.some.injEq] at hb
        subst hb
        rw [hc] at ht
        generalize a.tmps.getD t undef = u at ht
        cases ht with
        | tup _ vs hl hh =>
          have : vs = #[] := Array.eq_empty_of_size_eq_zero (by simpa using hl)
          subst this
          rfl
      · cases hb
    · cases l3
  unfold wpOp
  simp only [ho]
  unfold outX at h
  split at h
  · rename_i hw
    rw [hwant true hw]
    simp only [if_true]
    left
    cases hd : opD cf raw r i st.T st.H so.op with
    | none => simp [hd, obind_none] at h
    | some d' =>
      simp only [hd, obind_some, Option.some.injEq, Prod.mk.injEq] at h
      obtain ⟨rfl, _⟩ := h
      refine opD_ok s cfok r i l4 hd K Q fun v m' w' W' g1 g2 g3 => ?_
      obtain ⟨s', _⟩ := g1.step s so.dst hdst v g2 g3
      refine hK _ _ ⟨hdef v, m', W', by rw [l1]; exact s', si.trans ?_⟩
      rw [putD_eq]
      exact g1.since s.toSimH
  · rename_i hw
    rw [hwant false hw]
    simp only [Option.some.injEq, Prod.mk.injEq] at h
    obtain ⟨rfl, _⟩ := h
    simp only [Bool.false_eq_true, if_false]
    have g1 : Good idm m w W st.H { v := .tup [] } m w W := Good.id s.lt _
    obtain ⟨s', _⟩ := g1.step s so.dst hdst undef (.tup [] #[] rfl fun i c v h => by simp at h) (by simp [AV.names, namesL])
    refine hK _ _ ⟨hdef _, m, W, by rw [l1]; exact s', si.trans ?_⟩
    rw [putD_eq]
    exact g1.since s.toSimH
  · cases h

/-! ### Runs -/
def enumS : Nat → List SOper → List (Nat × SOper)
  | _, [] => []
  | i, o :: r => (i, o) :: enumS (i + 1) r

theorem mem_enumS : ∀ {l : List SOper} {k i : Nat} {s : SOper}, (i, s) ∈ enumS k l ↔ ∃ j, i = k + j ∧ l[j]? = some s
  | [], k, i, s => by simp [enumS]
  | o :: r, k, i, s => by
    simp only [enumS, List.mem_cons, Prod.mk.injEq]
    rw [mem_enumS]
    constructor
    · rintro (⟨rfl, rfl⟩ | ⟨j, rfl, h⟩)
      · exact ⟨0, rfl, rfl⟩
      · exact ⟨j + 1, by omega, by simpa using h⟩
    · rintro ⟨j, rfl, h⟩
      cases j with
      | zero => simp at h; exact .inl ⟨rfl, h.symm⟩
      | succ j => exact .inr ⟨j, by omega, by simpa using h⟩

theorem enumS_sorted : ∀ {l : List SOper} {k : Nat}, (enumS k l).Pairwise fun p q => p.1 < q.1
  | [], k => List.Pairwise.nil
  | o :: r, k => by
    simp only [enumS]
    refine List.pairwise_cons.2 ⟨fun p hp => ?_, enumS_sorted⟩
    obtain ⟨i, s⟩ := p
    obtain ⟨j, rfl, _⟩ := mem_enumS.1 hp
    show k < _
    omega

section
variable {cf : CF} {raw : FuncId → Bool} {r : Nat}

theorem operX_out {i : Nat} {o : SOper} {st st' : St} (h : operX cf raw r i o st = some st') : ∃ d f, outX cf raw r i o st = some (d, f) ∧ st' = putD o.dst d st.T st.H := by
  unfold operX at h
  unfold outX
  split at h
  · rename_i hw
    cases hd : opD cf raw r i st.T st.H o.op with
    | none => simp [hd, obind_none] at h
    | some d =>
      simp only [hd, obind_some, Option.some.injEq] at h
      exact ⟨d, fp raw st.T st.H o.op, by simp only [hw, hd, obind_some], h.symm⟩
  · rename_i hw
    simp only [Option.some.injEq] at h
    exact ⟨{ v := .tup [] }, [], by simp only [hw], h.symm⟩
  · cases h

theorem opsX_run : ∀ {l : List SOper} {i : Nat} {st fin : St}, opsX cf raw r i l st = some fin → ∃ log, Run cf raw r (enumS i l) st log fin
  | [], i, st, fin, h => by simp only [opsX, Option.some.injEq] at h; subst h; exact ⟨[], .nil st⟩
  | o :: rest, i, st, fin, h => by
    simp only [opsX] at h
    cases ho : operX cf raw r i o st with
    | none => simp [ho, obind_none] at h
    | some st1 =>
      simp only [ho, obind_some] at h
      obtain ⟨d, f, h1, rfl⟩ := operX_out ho
      obtain ⟨log, h2⟩ := opsX_run h
      exact ⟨_, .cons i o _ st d f log fin h1 h2⟩

def entOf (q : Rec) : Ent := ⟨q.f, upNames q.d.up, q.d.pg.isNone⟩

theorem opsLX_run : ∀ {l : List SOper} {i : Nat} {st fin : St} {lg lg' : Log}, opsLX cf raw r i l st lg = some (fin, lg') → ∃ log, Run cf raw r (enumS i l) st log fin ∧ lg' = lg ++ log.map entOf
  | [], i, st, fin, lg, lg', h => by
    simp only [opsLX, Option.some.injEq, Prod.mk.injEq] at h
    obtain ⟨rfl, rfl⟩ := h
    exact ⟨[], .nil st, by simp⟩
  | o :: rest, i, st, fin, lg, lg', h => by
    simp only [opsLX] at h
    cases ho : outX cf raw r i o st with
    | none => simp [ho, obind_none] at h
    | some x =>
      obtain ⟨d, f⟩ := x
      simp only [ho, obind_some] at h
      obtain ⟨log, h2, h3⟩ := opsLX_run h
      exact ⟨⟨i, d, f, pureS o.op⟩ :: log, .cons i o _ st d f log fin ho h2, by rw [h3]; simp [entOf]⟩

theorem Run.pos : ∀ {l : List SOper} {k : Nat} {st fin : St} {log : List Rec}, Run cf raw r (enumS k l) st log fin → log.length = l.length ∧ ∀ (j : Nat) (q : Rec), log[j]? = some q → q.i = k + j
  | [], k, st, fin, log, h => by cases h; exact ⟨rfl, fun j q h => by simp at h⟩
  | o :: l, k, st, fin, log, h => by
    simp only [enumS] at h
    cases h with
    | cons _ _ _ _ d f log fin h h2 =>
      obtain ⟨h3, h4⟩ := Run.pos h2
      refine ⟨by simp [h3], fun j q hq => ?_⟩
      cases j with
      | zero => simp at hq; subst hq; rfl
      | succ j => simp at hq; have := h4 j q hq; omega

theorem Run.recs {L : List (Nat × SOper)} {st fin : St} {log : List Rec} (h : Run cf raw r L st log fin) : ∀ q ∈ log, ∃ o st', (q.i, o) ∈ L ∧ outX cf raw r q.i o st' = some (q.d, q.f) ∧ q.q = pureS o.op := by
  induction h with
  | nil st => exact fun q h => by cases h
  | cons i o rest st d f log fin h h2 ih =>
    intro q hq
    rcases List.mem_cons.1 hq with rfl | hq
    · exact ⟨o, st, List.mem_cons_self, h, rfl⟩
    · obtain ⟨o', st', h3, h4⟩ := ih q hq
      exact ⟨o', st', List.mem_cons_of_mem _ h3, h4⟩

theorem callEnd_pg {H : Hp} {i : Nat} {ns : List Nm} {ups : Hp} {x : Option CR} {d : Dl} (h : callEnd H r i ns ups x = some d) : d.pg = none := by
  obtain ⟨c, _, _, _, av, outs, news, _, _, _, rfl⟩ := callEnd_inv h; rfl

theorem callD_pg {H : Hp} {i : Nat} {b : Bool} {f : FuncId} {args : List AV} {d : Dl} (h : callD cf b H r i f args = some d) : d.pg = none := by
  have hN : ∀ {args : List AV} {ups : Hp}, callNs cf H r i f args ups = some d → d.pg = none := by
    intro args ups h
    unfold callNs at h
    split at h
    · cases h
    · split at h
      · split at h
        · exact callEnd_pg h
        · cases h
      · cases h
  unfold callD at h
  split at h
  · exact callEnd_pg h
  · split at h
    · exact hN h
    · split at h
      · cases h
      · simp only at h
        split at h
        · cases h
        · split at h
          · cases h
          · exact hN h

theorem noPg_out {i : Nat} {o : SOper} {st : St} {d : Dl} {f : List Nm} (hp : noPgS o.op = true) (h : outX cf raw r i o st = some (d, f)) : d.pg = none := by
  unfold outX at h
  split at h
  · cases hd : opD cf raw r i st.T st.H o.op with
    | none => simp [hd, obind_none] at h
    | some d' =>
      simp only [hd, obind_some, Option.some.injEq, Prod.mk.injEq] at h
      obtain ⟨rfl, _⟩ := h
      generalize o.op = op at hd hp
      cases op
      case append => simp [noPgS] at hp
      case call => simp only [opD] at hd; split at hd <;> first | exact callD_pg hd | cases hd
      case len s x => cases s <;> simp only [opD] at hd <;> (split at hd <;> first | (simp only [Option.some.injEq] at hd; subst hd; rfl) | cases hd)
      all_goals (simp only [opD, storeD] at hd; (repeat' split at hd) <;> first | (simp only [Option.some.injEq] at hd; subst hd; rfl) | cases hd)
  · simp only [Option.some.injEq, Prod.mk.injEq] at h; obtain ⟨rfl, _⟩ := h; rfl
  · cases h

theorem pure_out {i : Nat} {o : SOper} {st : St} {d : Dl} {f : List Nm} (hp : pureS o.op = true) (h : outX cf raw r i o st = some (d, f)) : d.up = [] ∧ d.pg = none ∧ f = [] := by
  have h0 := noPg_out (by revert hp; cases o.op <;> simp [pureS, noPgS]) h
  unfold outX at h
  split at h
  · cases hd : opD cf raw r i st.T st.H o.op with
    | none => simp [hd, obind_none] at h
    | some d' =>
      simp only [hd, obind_some, Option.some.injEq, Prod.mk.injEq] at h
      obtain ⟨rfl, rfl⟩ := h
      generalize o.op = op at hd hp
      refine ⟨?_, h0, by revert hp; cases op <;> simp [pureS, fp]⟩
      cases op
      case len s x => cases s <;> simp only [opD] at hd <;> (split at hd <;> first | (simp only [Option.some.injEq] at hd; subst hd; rfl) | cases hd)
      all_goals first
        | (simp [pureS] at hp; done)
        | (simp only [opD] at hd; (repeat' split at hd) <;> first | (simp only [Option.some.injEq] at hd; subst hd; rfl) | cases hd)
  · simp only [Option.some.injEq, Prod.mk.injEq] at h; obtain ⟨rfl, rfl⟩ := h; exact ⟨rfl, rfl, rfl⟩
  · cases h

theorem disj_spec {a b : List Nm} (h : disj a b = true) : ∀ x ∈ a, x ∉ b := fun x hx hb => by
  have := List.all_eq_true.1 h x hx
  simp [hb] at this
theorem offNm_spec {i : Nat} {x : Nm} (h : offNm r i x = true) : ∀ k, x ≠ .loc r i k := by
  rintro k rfl; simp [offNm] at h

theorem entOk_meet {i j : Nat} {a b : Rec} (h : entOk r i j (entOf a) (entOf b) = true) : Meet r i j a.q b.q a.d b.d a.f b.f := by
  simp only [entOk, entOf, Bool.and_eq_true, upNames_eq] at h
  obtain ⟨⟨⟨⟨⟨h1, h2⟩, h3⟩, h4⟩, h5⟩, h6⟩ := h
  refine ⟨Option.isNone_iff_eq_none.1 h1, Option.isNone_iff_eq_none.1 h2, fun x hx => ?_, fun x hx => ⟨disj_spec h4 x hx, fun _ => offNm_spec (List.all_eq_true.1 h6 x hx)⟩⟩
  have := disj_spec h3 x hx
  simp only [List.mem_append, not_or] at this
  exact ⟨this.1, this.2, fun _ => offNm_spec (List.all_eq_true.1 h5 x hx)⟩
end
end
end Go.Ab
