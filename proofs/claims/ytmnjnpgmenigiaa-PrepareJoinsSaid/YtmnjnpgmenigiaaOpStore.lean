/- A part of the proof: an executor over plain data, shown sound for the model, and what it computes of the functions. -/
import Derived.Test.YtmnjnpgmenigiaaOpBuild
set_option linter.all false
/-! Stores; slice literals; make. -/
set_option linter.unusedVariables false
set_option linter.unusedSimpArgs false
set_option linter.unusedSectionVars false
namespace Go.Ab
open Go

section
variable {idm : FuncId → FuncId} {m : NMap} {w : World} {W : Nat → Prop} {H : Hp}

/-- A variable is written. -/
theorem Good.upd (s : SimH idm m w W H) {x : Nm} {o o' : AObj} {b : Nat} (v : AV) (hx : hget H x = some o) (hf : o.frozen = false) (hb : (m x).base = some b) (c : Array Value)
    (hr : ORep idm m (w.setRow b c) W (m x) o') (hn : ∀ y ∈ o'.names, (hget H y).isSome = true) (hf' : o'.frozen = false) :
    Good idm m w W H { v, up := [(x, some o')] } m (w.setRow b c) W where
  k := ⟨rfl, rfl, rfl, by simp [World.setRow], fun i hi hn => setRow_other w b i c fun e => hn ⟨x, o, by simp [upNs], hx, hf, by rw [e]; exact hb⟩⟩
  sub := fun _ _ h => h
  sup := fun _ _ h _ => h
  lt := fun i h => by have := s.lt i h; simpa [World.setRow] using this
  mm := fun _ _ _ => rfl
  up := fun y ob ho => by
    simp only [hget] at ho
    split at ho
    · rename_i e
      subst e
      simp only [Option.some.injEq] at ho
      subst ho
      exact ⟨hr, fun y hy => isSome_app (pg := none) (fun z hz => by simp [upNs] at hz; subst hz; exact ⟨o', by simp [hget]⟩) (hn y hy)⟩
    · cases ho
  ups := fun y hy => by simp [upNs] at hy; subst hy; exact ⟨o', by simp [hget]⟩
  b1 := fun y ob q ho hq _ => by
    simp only [hget] at ho
    split at ho
    · rename_i e; subst e; exact ⟨o, hx, hq, fun _ => hf⟩
    · cases ho
  b2 := fun y z q hy hz _ _ _ => by simp [upNs] at hy hz; rw [hy, hz]
  pgu := fun y h => by simp at h
  ext := fun _ => rfl

/-- What was read in the old world reads so behind a write to another block. -/
theorem keep_setRow (b : Nat) (c : Array Value) : Keep (fun i => i = b) w (w.setRow b c) :=
  ⟨rfl, rfl, rfl, by simp [World.setRow], fun i hi hn => setRow_other w b i c hn⟩
end

theorem splice_get {α : Type} (l vs : List α) (off : Nat) (h : off + vs.length ≤ l.length) (q : Nat) : (l.take off ++ vs ++ l.drop (off + vs.length))[q]? = if off ≤ q ∧ q < off + vs.length then vs[q - off]? else l[q]? := by
  rw [List.append_assoc, List.getElem?_append]
  have e1 : (l.take off).length = off := by simp; omega
  rw [e1]
  by_cases h1 : q < off
  · rw [if_pos h1, if_neg (by omega), List.getElem?_take, if_pos h1]
  · rw [if_neg h1, List.getElem?_append]
    by_cases h2 : q - off < vs.length
    · rw [if_pos h2, if_pos ⟨by omega, by omega⟩]
    · rw [if_neg h2, if_neg (by omega), List.getElem?_drop]
      congr 1
      omega
theorem splice_len {α : Type} (l vs : List α) (off : Nat) (h : off + vs.length ≤ l.length) : (l.take off ++ vs ++ l.drop (off + vs.length)).length = l.length := by simp; omega

section
variable {P : Program} {idm : FuncId → FuncId} {N : Nat} {m : NMap} {w : World} {W : Nat → Prop} {st : St} {a : Act} {o : Oper} (s : Sim idm N m w W st a)
include s

theorem run_store_at {t : TypeId} {x v : Operand} (ho : o.op = .store t x v) {size : Nat} (hS : sizeT P t = some size) {b off : Nat} (hx : a.eval x = .pointer (some ⟨b, off, none⟩)) {c : Array Value} {e : TypeId} (hb : w.heap[b]? = some (.cells c e (0, 0)))
    (hsz : (a.eval v).cells.size = size) (hl : off + size ≤ c.size) (h1 : ∀ u ∈ (a.eval v).cells, u.oneCell' = true) :
    (execOp a.eval o).run P w = .ok .skip (w.setRow b (c.toList.take off ++ (a.eval v).cells.toList ++ c.toList.drop (off + (a.eval v).cells.toList.length)).toArray) := by
  have := run_storeCells_at P b off e (a.eval v).cells.toList 0 c w hb (by simp; omega) (fun u hu => h1 u (by simpa using hu))
  simp only [Nat.add_zero] at this
  simp [execOp, ho, Instr.storeAt, hx, Instr.sureAddr, storeVar, run_sizeT hS, hsz]
  simp at this
  rw [this]
  simp [hsz]

theorem ok_store_box {t : TypeId} {x v : Operand} {x' v' : Opd} {size : Nat} (ho : o.op = .store t x v) (hS : sizeT P t = some size) (hx : opdL idm x x' = true) (hv : opdL idm v v' = true) {y : Nm} {off : Nat} {cs : List AV}
    (h1 : ev st.T x' = .ptr y off) (h2 : hget st.H y = some (.box cs)) (hok : (ev st.T v').okv = true) (hl : (ev st.T v').cells.length = size) (hle : off + size ≤ cs.length) :
    OpOK P idm m w W st.H o a { v := .undef, up := [(y, some (.box (setL cs off (ev st.T v').cells)))] } := by
  obtain ⟨g1, _⟩ := opdL_rep hx s
  obtain ⟨g2, g3⟩ := opdL_rep hv s
  rw [h1] at g1
  generalize he : a.eval x = ux at g1
  cases g1 with
  | ptr _ _ b hb =>
    obtain ⟨b', c, e, q1, q2, q3, q4, q5, q6, q7⟩ := s.h y _ h2
    rw [hb] at q1; cases q1
    obtain ⟨c1, c2, c3, c4, c5⟩ := g2.cells hok
    have hsz : (a.eval v).cells.size = size := c1.trans hl
    have hr := run_store_at (P := P) s ho hS he q2 hsz (by omega) c3
    have hbl : off + (a.eval v).cells.toList.length ≤ c.toList.length := by simp; omega
    refine ⟨undef, _, m, W, .inr ⟨hr, rfl⟩, Good.upd s.toSimH _ h2 rfl hb _ ⟨b, _, e, hb, setRow_heap w b c _ e _ q2, ?_, ?_, ?_, ?_, q7⟩ (fun n hn => ?_) rfl, .undef _, by simp [AV.names]⟩
    · simp only [List.size_toArray]
      rw [splice_len _ _ _ hbl]
      unfold setL
      rw [splice_len _ _ _ (by rw [hl]; exact hle)]
      simpa using q3
    · intro c hc
      unfold setL at hc
      rw [List.append_assoc] at hc
      rcases List.mem_append.1 hc with hc | hc
      · exact q4 c (List.mem_of_mem_take hc)
      · rcases List.mem_append.1 hc with hc | hc
        · exact c2 c hc
        · exact q4 c (List.mem_of_mem_drop hc)
    · intro u hu
      simp only [List.mem_toArray, List.append_assoc] at hu
      rcases List.mem_append.1 hu with hu | hu
      · exact q5 u (by simpa using List.mem_of_mem_take hu)
      · rcases List.mem_append.1 hu with hu | hu
        · exact c3 u (by simpa using hu)
        · exact q5 u (by simpa using List.mem_of_mem_drop hu)
    · intro i av u hi hu
      unfold setL at hi
      rw [splice_get _ _ _ (by rw [hl]; exact hle)] at hi
      simp only [List.getElem?_toArray] at hu
      rw [splice_get _ _ _ hbl] at hu
      simp only [Array.length_toList, hsz, hl] at hi hu
      have hk : Rep idm m w W av u := by
        split at hi
        · rename_i hc; rw [if_pos hc] at hu; exact c4 _ av u hi (by simpa using hu)
        · rename_i hc; rw [if_neg hc] at hu; exact q6 i av u hi (by simpa using hu)
      exact hk.keep (keep_setRow b _) (fun i hi => by rw [hi]; exact q7) (fun _ _ h => h) fun _ _ => rfl
    · simp only [AObj.names, setL] at hn
      obtain ⟨q, hq, hn⟩ := mem_namesL.1 hn
      rw [List.append_assoc] at hq
      rcases List.mem_append.1 hq with hq | hq
      · exact s.ch y _ n h2 (mem_namesL.2 ⟨q, List.mem_of_mem_take hq, hn⟩)
      · rcases List.mem_append.1 hq with hq | hq
        · exact g3 n (c5 n (mem_namesL.2 ⟨q, hq, hn⟩))
        · exact s.ch y _ n h2 (mem_namesL.2 ⟨q, List.mem_of_mem_drop hq, hn⟩)

theorem setE_cells {e : PV} {off : Nat} {vs : List PV} (h : off + vs.length ≤ e.cells.length) (hv : 0 < vs.length) (hfl : ∀ c ∈ vs, c.flat = true) : (setE e off vs).cells = e.cells.take off ++ vs ++ e.cells.drop (off + vs.length) := by
  cases e with
  | agg cs => rfl
  | _ =>
    simp only [PV.cells, List.length_cons, List.length_nil] at h
    match vs, hv, h, hfl with
    | [v], _, h, hfl =>
      have hv := hfl v (by simp)
      have : off = 0 := by simp at h; omega
      subst this
      simp only [setE, PV.flat_cells hv]
      rfl
    | v :: u :: r, _, h, _ => simp at h; omega

theorem ok_store_row {t : TypeId} {x v : Operand} {x' v' : Opd} {size : Nat} (ho : o.op = .store t x v) (hS : sizeT P t = some size) (hx : opdL idm x x' = true) (hv : opdL idm v v' = true) {y : Nm} {i off z : Nat} {es : List PV} {vs : List PV} {el : PV}
    (h1 : ev st.T x' = .eptr y i off) (h2 : hget st.H y = some (.parr es z false)) (h3 : pcells st.H (ev st.T v') = some vs) (h4 : es[i]? = some el) (hok : (ev st.T v').okv = true) (hl : vs.length = size) (hle : off + size ≤ z)
    (hni : y ∉ (ev st.T v').cells.flatMap hslN) :
    OpOK P idm m w W st.H o a { v := .undef, up := (y, some (.parr (es.set i (setE el off vs)) z false)) :: frzUp st.H ((ev st.T v').cells.flatMap hslN) } := by
  obtain ⟨g1, _⟩ := opdL_rep hx s
  obtain ⟨g2, g3⟩ := opdL_rep hv s
  rw [h1] at g1
  generalize he : a.eval x = ux at g1
  cases g1 with
  | eptr _ _ _ b hb =>
    obtain ⟨q0, q1, q2⟩ := s.h y _ h2
    have hei := (List.getElem?_eq_some_iff.1 h4).1
    rcases q2 with ⟨q2, rfl, _⟩ | ⟨b', c, e, q2, q3, q4, q5, q6, q7, q8, q9, q10⟩
    · simp at h4
    · rw [hb] at q2; cases q2
      obtain ⟨c1, c2, c3, c4, c5⟩ := g2.cells hok
      -- the plain cells
      unfold pcells at h3
      cases hfz : frzL1 st.H (ev st.T v').cells with
      | none => simp [hfz] at h3
      | some cs' =>
        simp only [hfz] at h3
        have e1 := allP_some h3
        obtain ⟨f1, f2, f3, f4⟩ := frzL1_rep s.toSimH c1 c4 hfz (ns := (ev st.T v').cells.flatMap hslN) (fun x hx => hx)
        subst e1
        have hvl : (a.eval v).cells.size = vs.length := by simpa using f1
        have hfl : ∀ p ∈ vs, p.flat = true := by
          intro p hp
          have := f4 c2 (.p p) (List.mem_map.2 ⟨p, hp, rfl⟩)
          cases p <;> first | rfl | simp [AV.flat] at this
        have hrep : ∀ (k : Nat) (p : PV) (u : Value), vs[k]? = some p → (a.eval v).cells[k]? = some u → PRep w (Wf m st.H ((ev st.T v').cells.flatMap hslN) W) p u := by
          intro k p u hp hu
          have := f2 k (.p p) u (by simp [hp]) hu
          cases this with | p _ _ h => exact h
        obtain ⟨z1, z2⟩ := q1 el (List.mem_of_getElem? h4)
        have hcap : (i + 1) * z ≤ (m y).cap * z := Nat.mul_le_mul_right z (by omega)
        rw [Nat.add_mul] at hcap
        have hbound : i * z + off + size ≤ c.size := by omega
        rw [q0] at he
        have hr := run_store_at (P := P) s ho hS he q3 (hvl.trans hl) (by omega) c3
        have gz := Good.freeze s.toSimH ((ev st.T v').cells.flatMap hslN) (.undef)
        have s1 : SimH idm m w (Wf m st.H ((ev st.T v').cells.flatMap hslN) W) (frzUp st.H ((ev st.T v').cells.flatMap hslN) ++ st.H) := gz.simH s.toSimH
        have hy1 : hget (frzUp st.H ((ev st.T v').cells.flatMap hslN) ++ st.H) y = some (.parr es z false) := by
          rw [hget_append]
          split
          · rename_i hm
            obtain ⟨ob, hob⟩ := ups_frzUp hm
            exact absurd (hget_frzUp hob).choose_spec.choose_spec.choose_spec.2.2 hni
          · exact h2
        have hWb : Wf m st.H ((ev st.T v').cells.flatMap hslN) W b := ⟨q9 rfl, fun ⟨x2, hx2, ⟨es2, z2, f2', hp2⟩, hb2⟩ => hni (s.sep y x2 _ _ b h2 hp2 hb hb2 ▸ hx2)⟩
        have hbl : (i * z + off) + (a.eval v).cells.toList.length ≤ c.toList.length := by simp; omega
        have hz0 : 0 < vs.length ∨ size = 0 := by omega
        refine ⟨undef, _, m, _, .inr ⟨hr, rfl⟩, Good.comp s.toSimH gz (u2 := [(y, some (.parr (es.set i (setE el off vs)) z false))]) (Good.upd s1 .undef hy1 rfl hb _ ⟨q0, ?_, .inr ⟨b, _, e, hb, setRow_heap w b c _ e _ q3, ?_, by simpa using q5, q6, ?_, ?_, fun _ => hWb, fun h => by cases h⟩⟩ (fun n hn => by simp [AObj.names] at hn) rfl), .undef _, by simp [AV.names]⟩
        · intro e' he'
          rcases List.mem_or_eq_of_mem_set he' with h | rfl
          · exact q1 e' h
          · rcases Nat.eq_zero_or_pos vs.length with h0 | h0
            · -- nothing is written
              have hv0 : vs = [] := List.eq_nil_of_length_eq_zero h0
              subst hv0
              cases el with
              | agg cs0 =>
                have : setE (.agg cs0) off [] = .agg cs0 := by simp [setE]
                rw [this]; exact ⟨z1, z2⟩
              | _ => exact ⟨z1, z2⟩
            · rw [setE_cells s (by omega) h0 hfl]
              refine ⟨by rw [splice_len _ _ _ (by omega)]; exact z1, fun c' hc' => ?_⟩
              rw [List.append_assoc] at hc'
              rcases List.mem_append.1 hc' with hc' | hc'
              · exact z2 c' (List.mem_of_mem_take hc')
              · rcases List.mem_append.1 hc' with hc' | hc'
                · exact hfl c' hc'
                · exact z2 c' (List.mem_of_mem_drop hc')
        · simp only [List.size_toArray]
          rw [splice_len _ _ _ hbl]
          simpa using q4
        · intro u hu
          simp only [List.mem_toArray, List.append_assoc] at hu
          rcases List.mem_append.1 hu with hu | hu
          · exact q7 u (by simpa using List.mem_of_mem_take hu)
          · rcases List.mem_append.1 hu with hu | hu
            · exact c3 u (by simpa using hu)
            · exact q7 u (by simpa using List.mem_of_mem_drop hu)
        · intro k j e' a' u hk hj hu
          simp only [List.getElem?_toArray] at hu
          rw [splice_get _ _ _ hbl] at hu
          simp only [Array.length_toList, hvl] at hu
          have hjz : j < z := by
            have hmem : e' ∈ es.set i (setE el off vs) := List.mem_of_getElem? hk
            have hjl := (List.getElem?_eq_some_iff.1 hj).1
            rcases List.mem_or_eq_of_mem_set hmem with h | rfl
            · have := (q1 e' h).1; omega
            · rcases Nat.eq_zero_or_pos vs.length with h0 | h0
              · have hv0 : vs = [] := List.eq_nil_of_length_eq_zero h0
                subst hv0
                cases el with
                | agg cs0 =>
                  have : setE (.agg cs0) off [] = .agg cs0 := by simp [setE]
                  rw [this] at hjl; omega
                | _ => simp only [setE] at hjl; omega
              · rw [setE_cells s (by omega) h0 hfl, splice_len _ _ _ (by omega)] at hjl; omega
          have key : PRep w (Wf m st.H ((ev st.T v').cells.flatMap hslN) W) a' u := by
            have old : ∀ {k' : Nat} {e0 : PV}, es[k']? = some e0 → e0.cells[j]? = some a' → c[k' * z + j]? = some u → PRep w (Wf m st.H ((ev st.T v').cells.flatMap hslN) W) a' u :=
              fun he0 ha hu => (q8 _ j _ a' u he0 ha hu).keep (Keep.refl (fun _ => False) w) (fun _ h => h.elim) fun _ _ h => h.1
            rw [List.getElem?_set] at hk
            by_cases hik : i = k
            · subst hik
              rw [if_pos rfl, if_pos hei] at hk
              simp only [Option.some.injEq] at hk
              subst hk
              rcases Nat.eq_zero_or_pos vs.length with h0 | h0
              · have hv0 : vs = [] := List.eq_nil_of_length_eq_zero h0
                subst hv0
                rw [if_neg (by simp only [List.length_nil]; omega)] at hu
                have : (setE el off []).cells = el.cells := by cases el <;> simp [setE]
                rw [this] at hj
                exact old h4 hj (by simpa using hu)
              · rw [setE_cells s (by omega) h0 hfl, splice_get _ _ _ (by omega)] at hj
                split at hj
                · rename_i hc
                  rw [if_pos (by omega)] at hu
                  have : i * z + j - (i * z + off) = j - off := by omega
                  rw [this] at hu
                  exact hrep _ a' u hj (by simpa using hu)
                · rename_i hc
                  rw [if_neg (by omega)] at hu
                  exact old h4 hj (by simpa using hu)
            · rw [if_neg hik] at hk
              have hne : ¬ (i * z + off ≤ k * z + j ∧ k * z + j < i * z + off + vs.length) := by
                rintro ⟨h1', h2'⟩
                rcases Nat.lt_or_gt_of_ne hik with h | h
                · have := Nat.mul_le_mul_right z (show i + 1 ≤ k by omega)
                  rw [Nat.add_mul] at this; omega
                · have := Nat.mul_le_mul_right z (show k + 1 ≤ i by omega)
                  rw [Nat.add_mul] at this; omega
              rw [if_neg hne] at hu
              exact old hk hj (by simpa using hu)
          exact key.keep (keep_setRow b _) (fun i hi => by rw [hi]; exact hWb) fun _ _ h => h
end
end Go.Ab
