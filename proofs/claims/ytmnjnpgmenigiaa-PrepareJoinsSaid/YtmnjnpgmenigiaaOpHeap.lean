/- A part of the proof: an executor over plain data, shown sound for the model, and what it computes of the functions. -/
import Derived.Test.YtmnjnpgmenigiaaFrz
set_option linter.all false
/-! Operations that make variables. -/
set_option linter.unusedVariables false
set_option linter.unusedSimpArgs false
set_option linter.unusedSectionVars false
namespace Go.Ab
open Go

/-- The new names of an operation. -/
def mNew (m : NMap) (r i : Nat) (l : Loc) (zs : List ZC) : NMap := fun x =>
  match x with
  | .loc r' i' j => if r' = r ∧ i' = i then (if j = 0 then l else match zs[j - 1]? with | some (.new z) => ⟨none, 0, z⟩ | _ => m x) else m x
  | x => m x

theorem mNew_zero (m : NMap) (r i : Nat) (l : Loc) (zs : List ZC) : mNew m r i l zs (.loc r i 0) = l := by simp [mNew]
theorem mNew_succ (m : NMap) (r i : Nat) (l : Loc) (zs : List ZC) (j z : Nat) (h : zs[j]? = some (.new z)) : mNew m r i l zs (.loc r i (j + 1)) = ⟨none, 0, z⟩ := by simp [mNew, h]

theorem freeH_none {H : Hp} : ∀ {n : Hp}, freeH H n = true → ∀ x ∈ upNs n, hget H x = none
  | [], _, x, hx => by simp [upNs] at hx
  | (y, o) :: r, h, x, hx => by
    simp only [freeH, Bool.and_eq_true] at h
    rcases List.mem_cons.1 hx with rfl | hx
    · simpa using h.1
    · exact freeH_none h.2 x hx

theorem znews_mem {r i : Nat} : ∀ {zs : List ZC} {j : Nat} {x : Nm}, x ∈ upNs (znews r i j zs) → ∃ k z, x = .loc r i (j + k + 1) ∧ zs[k]? = some (.new z) ∧ hget (znews r i j zs) x = some (.parr [] z false)
  | [], j, x, h => by simp [znews, upNs] at h
  | .c v :: zs, j, x, h => by
    simp only [znews] at h ⊢
    obtain ⟨k, z, h1, h2, h3⟩ := znews_mem h
    exact ⟨k + 1, z, by rw [h1]; congr 1; omega, by simpa using h2, h3⟩
  | .nils v :: zs, j, x, h => by
    simp only [znews] at h ⊢
    obtain ⟨k, z, h1, h2, h3⟩ := znews_mem h
    exact ⟨k + 1, z, by rw [h1]; congr 1; omega, by simpa using h2, h3⟩
  | .new v :: zs, j, x, h => by
    simp only [znews, upNs, List.mem_cons] at h
    simp only [znews, hget]
    by_cases e : Nm.loc r i (j + 1) = x
    · subst e; exact ⟨0, v, rfl, rfl, by simp⟩
    · rcases h with rfl | h
      · exact absurd rfl e
      · obtain ⟨k, z, h1, h2, h3⟩ := znews_mem h
        exact ⟨k + 1, z, by rw [h1]; congr 1; omega, by simpa using h2, by rw [if_neg e]; exact h3⟩

theorem znews_of {r i : Nat} : ∀ {zs : List ZC} {j k z : Nat}, zs[k]? = some (.new z) → Nm.loc r i (j + k + 1) ∈ upNs (znews r i j zs)
  | [], j, k, z, h => by simp at h
  | c :: zs, j, 0, z, h => by
    simp only [List.getElem?_cons_zero, Option.some.injEq] at h
    subst h
    simp [znews, upNs]
  | c :: zs, j, k + 1, z, h => by
    have := znews_of (r := r) (i := i) (j := j + 1) (k := k) (z := z) (by simpa using h)
    have e : j + 1 + k + 1 = j + (k + 1) + 1 := by omega
    rw [e] at this
    cases c <;> simp only [znews, upNs, List.mem_cons] <;> first | exact this | exact .inr this

theorem zcells_get {r i : Nat} : ∀ {zs : List ZC} {j k : Nat} {c : AV}, (zcells r i j zs)[k]? = some c → (∃ v, zs[k]? = some (.c v) ∧ c = .p v) ∨ (∃ z, zs[k]? = some (.nils z) ∧ c = .nils z) ∨ ∃ z, zs[k]? = some (.new z) ∧ c = .hsl (.loc r i (j + k + 1)) 0 0
  | [], j, k, c, h => by simp [zcells] at h
  | z :: zs, j, 0, c, h => by cases z <;> simp [zcells] at h <;> subst h <;> simp
  | z :: zs, j, k + 1, c, h => by
    have h' : (zcells r i (j + 1) zs)[k]? = some c := by cases z <;> simpa [zcells] using h
    have := zcells_get h'
    simpa [Nat.add_assoc, Nat.add_comm 1 k] using this
theorem zcells_length {r i : Nat} : ∀ {zs : List ZC} {j : Nat}, (zcells r i j zs).length = zs.length
  | [], j => rfl
  | z :: zs, j => by cases z <;> simp [zcells, zcells_length]

theorem zcsL_get : ∀ {vs : List Value} {zs : List ZC}, zcsL vs zs = true → vs.length = zs.length ∧ ∀ (k : Nat) (v : Value) (z : ZC), vs[k]? = some v → zs[k]? = some z → zcL v z = true
  | [], [], _ => ⟨rfl, fun k v z h => by simp at h⟩
  | v :: vs, z :: zs, h => by
    simp only [zcsL, Bool.and_eq_true] at h
    obtain ⟨h1, h2⟩ := zcsL_get h.2
    refine ⟨by simp [h1], fun k u c hu hc => ?_⟩
    cases k with
    | zero => simp at hu hc; subst hu; subst hc; exact h.1
    | succ k => simp at hu hc; exact h2 k u c hu hc
  | [], _ :: _, h => by simp [zcsL] at h
  | _ :: _, [], h => by simp [zcsL] at h

/-- The zero cells of a variable. -/
theorem zcells_rep {idm : FuncId → FuncId} {m : NMap} {w : World} {W : Nat → Prop} {r i : Nat} {l : Loc} {vs : Array Value} {zs : List ZC} (h : zcsL vs.toList zs = true) :
    vs.size = (zcells r i 0 zs).length ∧ (∀ c ∈ zcells r i 0 zs, c.flat = true) ∧ (∀ v ∈ vs, v.oneCell' = true) ∧
      (∀ (k : Nat) (c : AV) (v : Value), (zcells r i 0 zs)[k]? = some c → vs[k]? = some v → Rep idm (mNew m r i l zs) w W c v) ∧ ∀ x ∈ namesL (zcells r i 0 zs), x ∈ upNs (znews r i 0 zs) := by
  obtain ⟨h1, h2⟩ := zcsL_get h
  have hz : ∀ {k : Nat} {c : AV} {v : Value}, (zcells r i 0 zs)[k]? = some c → vs[k]? = some v → Rep idm (mNew m r i l zs) w W c v ∧ c.flat = true ∧ v.oneCell' = true ∧ ∀ x ∈ c.names, x ∈ upNs (znews r i 0 zs) := by
    intro k c v hc hv
    rcases zcells_get hc with ⟨q, hq, rfl⟩ | ⟨z, hq, rfl⟩ | ⟨z, hq, rfl⟩
    · have := h2 k v _ (by simpa using hv) hq
      have hf : flatL v q = true := by
        unfold zcL at this
        split at this <;> first | (simp_all; done) | skip
        all_goals (rename_i e; cases e; exact this)
      obtain ⟨g1, g2⟩ := flatL_rep hf w W
      exact ⟨.p _ _ g1, by cases q <;> first | rfl | simp [PV.flat] at g2, (g1.flat_one g2).1, by simp [AV.names]⟩
    · have := h2 k v _ (by simpa using hv) hq
      unfold zcL at this
      split at this <;> first | (simp_all; done) | skip
      exact ⟨.nils _ _, rfl, rfl, by simp [AV.names]⟩
    · have := h2 k v _ (by simpa using hv) hq
      unfold zcL at this
      split at this <;> first | (simp_all; done) | skip
      rw [Nat.zero_add]
      refine ⟨.hsl _ 0 0 none 0 ?_ (Nat.le_refl _), rfl, rfl, ?_⟩
      · rw [mNew_succ m r i l zs k z hq]; simp [HslOK]
      · intro x hx
        simp [AV.names] at hx
        subst hx
        have := znews_of (r := r) (i := i) (j := 0) hq
        rwa [Nat.zero_add] at this
  have hlen : vs.size = (zcells r i 0 zs).length := by rw [zcells_length, ← h1]; simp
  refine ⟨hlen, fun c hc => ?_, fun v hv => ?_, fun k c v hc hv => (hz hc hv).1, fun x hx => ?_⟩
  · obtain ⟨k, hk⟩ := List.mem_iff_getElem?.1 hc
    have hlt := (List.getElem?_eq_some_iff.1 hk).1
    exact (hz hk (Array.getElem?_eq_getElem (by omega))).2.1
  · obtain ⟨k, hk⟩ := Array.mem_iff_getElem?.1 hv
    have hlt := (Array.getElem?_eq_some_iff.1 hk).1
    exact (hz (List.getElem?_eq_getElem (show k < (zcells r i 0 zs).length by omega)) hk).2.2.1
  · obtain ⟨c, hc, hx⟩ := mem_namesL.1 hx
    obtain ⟨k, hk⟩ := List.mem_iff_getElem?.1 hc
    have hlt := (List.getElem?_eq_some_iff.1 hk).1
    exact (hz hk (Array.getElem?_eq_getElem (by omega))).2.2.2 x hx

theorem keep_alloc (w : World) (o : Obj) : Keep (fun _ => False) w (w.alloc o) := ⟨rfl, rfl, rfl, by simp, fun i hi _ => heap_alloc_old w o i hi⟩

section
variable {P : Program} {idm : FuncId → FuncId} {N : Nat} {m : NMap} {w : World} {W : Nat → Prop} {st : St} {a : Act} {o : Oper} (s : Sim idm N m w W st a)
include s

/-- A variable of one's own, and the nil slices in it. -/
theorem ok_var (r i : Nat) {zs : List ZC} {cells : List AV} {cs : Array Value} {e : TypeId} (hfr : freeH st.H ((Nm.loc r i 0, some (AObj.box cells)) :: znews r i 0 zs) = true)
    (hrun : (execOp a.eval o).run P w = .ok (.value (.pointer (some ⟨w.heap.size, 0, none⟩))) (w.alloc (.cells cs e)))
    (hl : cs.size = cells.length) (hf : ∀ c ∈ cells, c.flat = true) (h1 : ∀ v ∈ cs, v.oneCell' = true)
    (hr : ∀ (k : Nat) (c : AV) (v : Value), cells[k]? = some c → cs[k]? = some v → Rep idm (mNew m r i ⟨some w.heap.size, 0, 0⟩ zs) w W c v)
    (hn : ∀ x ∈ namesL cells, (hget st.H x).isSome = true ∨ x ∈ upNs (znews r i 0 zs)) :
    OpOK P idm m w W st.H o a { v := .ptr (.loc r i 0) 0, up := (.loc r i 0, some (.box cells)) :: znews r i 0 zs } := by
  have hfree := freeH_none hfr
  have hW' : ∀ j, (W j ∨ (w.heap.size ≤ j ∧ j < (w.alloc (.cells cs e)).heap.size)) → j < w.heap.size → W j := fun j h hlt => by rcases h with h | ⟨h, _⟩ <;> first | exact h | omega
  have hsm : ∀ x ∈ upNs ((Nm.loc r i 0, some (AObj.box cells)) :: znews r i 0 zs), ∃ o, hget ((Nm.loc r i 0, some (AObj.box cells)) :: znews r i 0 zs) x = some o := by
    intro x hx
    simp only [hget]
    split
    · exact ⟨_, rfl⟩
    · rename_i hne
      rcases List.mem_cons.1 hx with rfl | hx
      · exact absurd rfl hne
      · obtain ⟨k, z, _, _, h⟩ := znews_mem hx; exact ⟨_, h⟩
  refine ⟨_, _, mNew m r i ⟨some w.heap.size, 0, 0⟩ zs, fun j => W j ∨ (w.heap.size ≤ j ∧ j < (w.alloc (.cells cs e)).heap.size), .inl hrun,
    Good.fresh s.toSimH _ (keep_alloc w _) (fun _ => Iff.rfl) hfree ?_ ?_ ?_ ?_ hsm ?_, .ptr _ _ w.heap.size (by rw [mNew_zero]), ?_⟩
  · intro k hk
    rcases List.mem_cons.1 hk with h | h
    · cases h
    · obtain ⟨_, _, h, _⟩ := znews_mem h; cases h
  · intro x hx
    cases x with
    | ext k => rfl
    | loc r' i' j =>
      simp only [mNew]
      split
      · rename_i h
        obtain ⟨rfl, rfl⟩ := h
        by_cases hj : j = 0
        · subst hj; exact absurd (List.mem_cons_self) hx
        · simp only [hj, if_false]
          split
          · rename_i z hz
            obtain ⟨k, rfl⟩ : ∃ k, j = k + 1 := ⟨j - 1, by omega⟩
            have := znews_of (r := r') (i := i') (j := 0) (k := k) (z := z) (by simpa using hz)
            rw [Nat.zero_add] at this
            exact absurd (List.mem_cons_of_mem _ this) hx
          · rfl
      · rfl
  · intro x hx b hb
    rcases List.mem_cons.1 hx with rfl | hx
    · rw [mNew_zero] at hb; cases hb; exact Nat.le_refl _
    · obtain ⟨k, z, rfl, hk, _⟩ := znews_mem hx
      rw [Nat.zero_add, mNew_succ m r i _ zs k z hk] at hb; cases hb
  · intro x hx y hy b hbx hby
    rcases List.mem_cons.1 hx with rfl | hx
    · rcases List.mem_cons.1 hy with rfl | hy
      · rfl
      · obtain ⟨k, z, rfl, hk, _⟩ := znews_mem hy
        rw [Nat.zero_add, mNew_succ m r i _ zs k z hk] at hby; cases hby
    · obtain ⟨k, z, rfl, hk, _⟩ := znews_mem hx
      rw [Nat.zero_add, mNew_succ m r i _ zs k z hk] at hbx; cases hbx
  · intro x ob ho
    simp only [hget] at ho
    split at ho
    · rename_i hx
      subst hx
      simp only [Option.some.injEq] at ho
      subst ho
      refine ⟨⟨w.heap.size, cs, e, by rw [mNew_zero], heap_alloc_new w _, hl, hf, h1, fun k c v hc hv => (hr k c v hc hv).keep (keep_alloc w _) (fun _ h => h.elim) (fun j hj h => hW' j h hj) fun _ _ => rfl, .inr ⟨Nat.le_refl _, by simp⟩⟩, fun y hy => ?_⟩
      rcases hn y hy with h | h
      · exact isSome_app (pg := none) hsm h
      · have hy' : y ∈ upNs ((Nm.loc r i 0, some (AObj.box cells)) :: znews r i 0 zs) := List.mem_cons_of_mem _ h
        rw [hget_append, if_pos hy']
        obtain ⟨o, ho⟩ := hsm y hy'
        simp [ho]
    · obtain ⟨k, z, rfl, hk, h⟩ := znews_mem (x := x) (by
        rcases Classical.em (x ∈ upNs (znews r i 0 zs)) with h | h
        · exact h
        · rw [hget_notin h] at ho; cases ho)
      rw [h] at ho
      simp only [Option.some.injEq] at ho
      subst ho
      refine ⟨?_, fun y hy => by simp [AObj.names] at hy⟩
      rw [Nat.zero_add, mNew_succ m r i _ zs k z hk]
      exact ⟨rfl, fun e he => by simp at he, .inl ⟨rfl, rfl, rfl⟩⟩
  · intro y hy
    simp [AV.names] at hy
    subst hy
    simp [pgH, hget]
theorem ok_alloc (r i : Nat) {t : TypeId} {zs : List ZC} (ho : o.op = .alloc t) {z : Value} (hz : zeroT P t = some z) (hzs : zcsL z.cells.toList zs = true)
    (hfr : freeH st.H ((Nm.loc r i 0, some (AObj.box (zcells r i 0 zs))) :: znews r i 0 zs) = true) :
    OpOK P idm m w W st.H o a { v := .ptr (.loc r i 0) 0, up := (.loc r i 0, some (.box (zcells r i 0 zs))) :: znews r i 0 zs } := by
  obtain ⟨g1, g2, g3, g4, g5⟩ := zcells_rep (idm := idm) (m := m) (w := w) (W := W) (r := r) (i := i) (l := ⟨some w.heap.size, 0, 0⟩) hzs
  obtain ⟨ti, hti, hzz⟩ := Option.bind_eq_some_iff.1 hz
  exact ok_var s r i (e := t) hfr (by simp [execOp, ho, Instr.alloc, zeroValue, typeInfo, hti, hzz, newVar, newRow]) g1 g2 g3 g4 fun x hx => .inr (g5 x hx)

theorem ok_box (r i : Nat) {t : TypeId} {x : Operand} {y : Opd} (ho : o.op = .box t x) (h : opdL idm x y = true) (hfr : (hget st.H (.loc r i 0)).isNone = true) (hok : (ev st.T y).okv = true) :
    OpOK P idm m w W st.H o a { v := .ptr (.loc r i 0) 0, up := [(.loc r i 0, some (.box (ev st.T y).cells))] } := by
  obtain ⟨h1, h2⟩ := opdL_rep h s
  obtain ⟨g1, g2, g3, g4, g5⟩ := h1.cells hok
  have hne : ∀ n ∈ namesL (ev st.T y).cells, n ≠ .loc r i 0 := fun n hn e => by
    subst e
    have := h2 _ (g5 _ hn)
    rw [Option.isNone_iff_eq_none.1 hfr] at this; cases this
  exact ok_var s r i (zs := []) (e := t) (by simp [znews, freeH, hfr]) (by simp [execOp, ho, Instr.box, newVar, newRow]) g1 g2 g3
    (fun k c v hc hv => (g4 k c v hc hv).same fun n hn => by
      have hn' := hne n (mem_namesL.2 ⟨c, List.mem_of_getElem? hc, hn⟩)
      cases n with
      | ext k => rfl
      | loc r' i' j =>
        simp only [mNew]
        split
        · rename_i e
          obtain ⟨rfl, rfl⟩ := e
          have hj : j ≠ 0 := fun e => hn' (by rw [e])
          simp [hj]
        · rfl)
    fun n hn => .inl (h2 n (g5 n hn))

/-- A slice of one's own in a new block (or none, if it is nil). -/
theorem ok_row (x0 : Nm) (hx0 : ∃ r i j, x0 = .loc r i j) (hfr : hget st.H x0 = none) {es : List PV} {z : Nat} {b : Option Nat} {cap : Nat} {w' : World} {v : Value}
    (hrun : (execOp a.eval o).run P w = .ok (.value v) w') (kp : Keep (fun _ => False) w w')
    (hv : ∀ m' : NMap, m' x0 = ⟨b, cap, z⟩ → Rep idm m' w' (fun j => W j ∨ (w.heap.size ≤ j ∧ j < w'.heap.size)) (.hsl x0 0 es.length) v)
    (hb : ∀ q, b = some q → w.heap.size ≤ q)
    (hr : ORep idm m w' (fun j => W j ∨ (w.heap.size ≤ j ∧ j < w'.heap.size)) ⟨b, cap, z⟩ (.parr es z false)) :
    OpOK P idm m w W st.H o a { v := .hsl x0 0 es.length, up := [(x0, some (.parr es z false))] } := by
  obtain ⟨r, i, j, rfl⟩ := hx0
  have hm : ∀ x, x ≠ Nm.loc r i j → (fun x => if x = Nm.loc r i j then (⟨b, cap, z⟩ : Loc) else m x) x = m x := fun x hx => by simp [hx]
  refine ⟨v, w', fun x => if x = Nm.loc r i j then ⟨b, cap, z⟩ else m x, _, .inl hrun, Good.fresh s.toSimH _ kp (fun _ => Iff.rfl) (fun x hx => ?_) (fun k hk => by simp [upNs] at hk) (fun x hx => hm x (by simpa [upNs] using hx)) (fun x hx q hq => ?_)
    (fun x hx y hy q _ _ => ?_) (fun x hx => ?_) (fun x ob ho => ?_), hv _ (by simp), fun y hy => ?_⟩
  · simp [upNs] at hx; subst hx; exact hfr
  · simp [upNs] at hx; subst hx; simp at hq; exact hb q hq
  · simp [upNs] at hx hy; rw [hx, hy]
  · simp [upNs] at hx; subst hx; exact ⟨.parr es z false, by simp [hget]⟩
  · simp only [hget] at ho
    split at ho
    · rename_i e
      subst e
      simp only [Option.some.injEq] at ho
      subst ho
      refine ⟨?_, fun y hy => by simp [AObj.names] at hy⟩
      simp only [if_true]
      exact hr
    · cases ho
  · simp [AV.names] at hy; subst hy; simp [hget]

theorem ok_nnew (r i : Nat) {z : Nat} (ho : o.op = .assign (.const (.slice none 0 0))) (hfr : (hget st.H (.loc r i 0)).isNone = true) :
    OpOK P idm m w W st.H o a { v := .hsl (.loc r i 0) 0 0, up := [(.loc r i 0, some (.parr [] z false))] } := by
  have := ok_row (P := P) (o := o) s (.loc r i 0) ⟨r, i, 0, rfl⟩ (Option.isNone_iff_eq_none.1 hfr) (es := []) (z := z) (b := none) (cap := 0) (w' := w) (v := .slice none 0 0)
    (by simp [execOp, ho, Act.eval]) (Keep.refl _ w) (fun m' hm => .hsl _ 0 0 none 0 (by rw [hm]; simp [HslOK]) (Nat.le_refl _)) (fun q h => by cases h) ⟨rfl, fun e he => by simp at he, .inl ⟨rfl, rfl, rfl⟩⟩
  exact this
end
end Go.Ab
