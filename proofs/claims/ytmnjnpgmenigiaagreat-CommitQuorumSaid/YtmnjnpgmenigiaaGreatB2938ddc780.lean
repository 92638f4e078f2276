/- A part of the proof (an executor, and what it computes). -/
import Derived.Test.YtmnjnpgmenigiaaGreatB147dce5bbd
import Derived.Laws.OwnMore
set_option linter.all false
/-! Stores; slice literals; make. -/
namespace Go.Ab
open Go

section
variable {idm : FuncId → FuncId} {m : NMap} {w : World} {W : Nat → Prop} {H : Hp}

/-- A variable is written. -/
theorem Good.upd (s : SimH idm m w W H) {x : Nm} {o o' : AObj} {b : Nat} (v : AV) (hx : hget H x = some o) (hf : o.frozen = false) (hb : (m x).base = some b) (c : Array Value)
    (hr : ORep idm m (w.setRow b c) W (m x) o') (hn : ∀ y ∈ o'.names, (hget H y).isSome = true) (hf' : o'.frozen = false) :
    Good idm m w W H { v, up := [(x, some o')] } m (w.setRow b c) W where
  k := ⟨rfl, rfl, rfl, by simp [World.setRow], fun i hi hn => setRow_other w b i c fun e => hn ⟨x, o, by simp [upNs], hx, hf, by rw [e]; exact hb⟩⟩
  sub := fun _ _ h => h
  sup := fun _ _ h _ => h
  lt := fun i h => by have := s.lt i h; simpa [World.setRow] using this
  mm := fun _ _ _ => rfl
  up := fun y ob ho => by
    simp only [hget] at ho
    split at ho
    · rename_i e
      subst e
      simp only [Option.some.injEq] at ho
      subst ho
      exact ⟨hr, fun y hy => isSome_app (pg := none) (fun z hz => by simp [upNs] at hz; subst hz; exact ⟨o', by simp [hget]⟩) (hn y hy)⟩
    · cases ho
  ups := fun y hy => by simp [upNs] at hy; subst hy; exact ⟨o', by simp [hget]⟩
  b1 := fun y ob q ho hq _ => by
    simp only [hget] at ho
    split at ho
    · rename_i e; subst e; exact ⟨o, hx, hq, fun _ => hf⟩
    · cases ho
  b2 := fun y z q hy hz _ _ _ => by simp [upNs] at hy hz; rw [hy, hz]
  pgu := fun y h => by simp at h
  ext := fun _ => rfl

/-- What was read in the old world reads so behind a write to another block. -/
theorem keep_setRow (b : Nat) (c : Array Value) : Keep (fun i => i = b) w (w.setRow b c) :=
  ⟨rfl, rfl, rfl, by simp [World.setRow], fun i hi hn => setRow_other w b i c hn⟩
end

theorem splice_get {α : Type} (l vs : List α) (off : Nat) (h : off + vs.length ≤ l.length) (q : Nat) : (l.take off ++ vs ++ l.drop (off + vs.length))[q]? = if off ≤ q ∧ q < off + vs.length then vs[q - off]? else l[q]? := by
  rw [List.append_assoc, List.getElem?_append]
  have e1 : (l.take off).length = off := by simp; omega
  rw [e1]
  by_cases h1 : q < off
  · rw [if_pos h1, if_neg (by omega), List.getElem?_take, if_pos h1]
  · rw [if_neg h1, List.getElem?_append]
    by_cases h2 : q - off < vs.length
    · rw [if_pos h2, if_pos ⟨by omega, by omega⟩]
    · rw [if_neg h2, if_neg (by omega), List.getElem?_drop]
      congr 1
      omega
theorem splice_len {α : Type} (l vs : List α) (off : Nat) (h : off + vs.length ≤ l.length) : (l.take off ++ vs ++ l.drop (off + vs.length)).length = l.length := by simp; omega

section
variable {P : Program} {idm : FuncId → FuncId} {N : Nat} {m : NMap} {w : World} {W : Nat → Prop} {st : St} {a : Act} {o : Oper} (s : Sim idm N m w W st a)
include s

theorem run_store_at {t : TypeId} {x v : Operand} (ho : o.op = .store t x v) {size : Nat} (hS : sizeT P t = some size) {b off : Nat} (hx : a.eval x = .pointer (some ⟨b, off, none⟩)) {c : Array Value} {e : TypeId} (hb : w.heap[b]? = some (.cells c e (0, 0)))
    (hsz : (a.eval v).cells.size = size) (hl : off + size ≤ c.size) (h1 : ∀ u ∈ (a.eval v).cells, u.oneCell' = true) :
    (execOp a.eval o).run P w = .ok .skip (w.setRow b (c.toList.take off ++ (a.eval v).cells.toList ++ c.toList.drop (off + (a.eval v).cells.toList.length)).toArray) := by
  have := run_storeCells_at P b off e (a.eval v).cells.toList 0 c w hb (by simp; omega) (fun u hu => h1 u (by simpa using hu))
  simp only [Nat.add_zero] at this
  simp [execOp, ho, Instr.storeAt, hx, Instr.sureAddr, storeVar, run_sizeT hS, hsz]
  simp at this
  rw [this]
  simp [hsz]

theorem ok_store_box {t : TypeId} {x v : Operand} {x' v' : Opd} {size : Nat} (ho : o.op = .store t x v) (hS : sizeT P t = some size) (hx : opdL idm x x' = true) (hv : opdL idm v v' = true) {y : Nm} {off : Nat} {cs : List AV}
    (h1 : ev st.T x' = .ptr y off) (h2 : hget st.H y = some (.box cs)) (hok : (ev st.T v').okv = true) (hl : (ev st.T v').cells.length = size) (hle : off + size ≤ cs.length) :
    OpOK P idm m w W st.H o a { v := .undef, up := [(y, some (.box (setL cs off (ev st.T v').cells)))] } := by
  obtain ⟨g1, _⟩ := opdL_rep hx s
  obtain ⟨g2, g3⟩ := opdL_rep hv s
  rw [h1] at g1
  generalize he : a.eval x = ux at g1
  cases g1 with
  | ptr _ _ b hb =>
    obtain ⟨b', c, e, q1, q2, q3, q4, q5, q6, q7⟩ := s.h y _ h2
    rw [hb] at q1; cases q1
    obtain ⟨c1, c2, c3, c4, c5⟩ := g2.cells hok
    have hsz : (a.eval v).cells.size = size := c1.trans hl
    have hr := run_store_at (P := P) s ho hS he q2 hsz (by omega) c3
    have hbl : off + (a.eval v).cells.toList.length ≤ c.toList.length := by simp; omega
    refine ⟨undef, _, m, W, .inr ⟨hr, rfl⟩, Good.upd s.toSimH _ h2 rfl hb _ ⟨b, _, e, hb, setRow_heap w b c _ e _ q2, ?_, ?_, ?_, ?_, q7⟩ (fun n hn => ?_) rfl, .undef _, by simp [AV.names]⟩
    · simp only [List.size_toArray]
      rw [splice_len _ _ _ hbl]
      unfold setL
      rw [splice_len _ _ _ (by rw [hl]; exact hle)]
      simpa using q3
    · intro c hc
      unfold setL at hc
      rw [List.append_assoc] at hc
      rcases List.mem_append.1 hc with hc | hc
      · exact q4 c (List.mem_of_mem_take hc)
      · rcases List.mem_append.1 hc with hc | hc
        · exact c2 c hc
        · exact q4 c (List.mem_of_mem_drop hc)
    · intro u hu
      simp only [List.mem_toArray, List.append_assoc] at hu
      rcases List.mem_append.1 hu with hu | hu
      · exact q5 u (by simpa using List.mem_of_mem_take hu)
      · rcases List.mem_append.1 hu with hu | hu
        · exact c3 u (by simpa using hu)
        · exact q5 u (by simpa using List.mem_of_mem_drop hu)
    · intro i av u hi hu
      unfold setL at hi
      rw [splice_get _ _ _ (by rw [hl]; exact hle)] at hi
      simp only [List.getElem?_toArray] at hu
      rw [splice_get _ _ _ hbl] at hu
      simp only [Array.length_toList, hsz, hl] at hi hu
      have hk : Rep idm m w W av u := by
        split at hi
        · rename_i hc; rw [if_pos hc] at hu; exact c4 _ av u hi (by simpa using hu)
        · rename_i hc; rw [if_neg hc] at hu; exact q6 i av u hi (by simpa using hu)
      exact hk.keep (keep_setRow b _) (fun i hi => by rw [hi]; exact q7) (fun _ _ h => h) fun _ _ => rfl
    · simp only [AObj.names, setL] at hn
      obtain ⟨q, hq, hn⟩ := mem_namesL.1 hn
      rw [List.append_assoc] at hq
      rcases List.mem_append.1 hq with hq | hq
      · exact s.ch y _ n h2 (mem_namesL.2 ⟨q, List.mem_of_mem_take hq, hn⟩)
      · rcases List.mem_append.1 hq with hq | hq
        · exact g3 n (c5 n (mem_namesL.2 ⟨q, hq, hn⟩))
        · exact s.ch y _ n h2 (mem_namesL.2 ⟨q, List.mem_of_mem_drop hq, hn⟩)

theorem setE_cells {e : PV} {off : Nat} {vs : List PV} (h : off + vs.length ≤ e.cells.length) (hv : 0 < vs.length) (hfl : ∀ c ∈ vs, c.flat = true) : (setE e off vs).cells = e.cells.take off ++ vs ++ e.cells.drop (off + vs.length) := by
  cases e with
  | agg cs => rfl
  | _ =>
    simp only [PV.cells, List.length_cons, List.length_nil] at h
    match vs, hv, h, hfl with
    | [v], _, h, hfl =>
      have hv := hfl v (by simp)
      have : off = 0 := by simp at h; omega
      subst this
      simp only [setE, PV.flat_cells hv]
      rfl
    | v :: u :: r, _, h, _ => simp at h; omega

theorem ok_store_row {t : TypeId} {x v : Operand} {x' v' : Opd} {size : Nat} (ho : o.op = .store t x v) (hS : sizeT P t = some size) (hx : opdL idm x x' = true) (hv : opdL idm v v' = true) {y : Nm} {i off z : Nat} {es : List PV} {vs : List PV} {el : PV}
    (h1 : ev st.T x' = .eptr y i off) (h2 : hget st.H y = some (.parr es z false)) (h3 : pcells st.H (ev st.T v') = some vs) (h4 : es[i]? = some el) (hok : (ev st.T v').okv = true) (hl : vs.length = size) (hle : off + size ≤ z)
    (hni : y ∉ (ev st.T v').cells.flatMap hslN) :
    OpOK P idm m w W st.H o a { v := .undef, up := (y, some (.parr (es.set i (setE el off vs)) z false)) :: frzUp st.H ((ev st.T v').cells.flatMap hslN) } := by
  obtain ⟨g1, _⟩ := opdL_rep hx s
  obtain ⟨g2, g3⟩ := opdL_rep hv s
  rw [h1] at g1
  generalize he : a.eval x = ux at g1
  cases g1 with
  | eptr _ _ _ b hb =>
    obtain ⟨q0, q1, q2⟩ := s.h y _ h2
    have hei := (List.getElem?_eq_some_iff.1 h4).1
    rcases q2 with ⟨q2, rfl, _⟩ | ⟨b', c, e, q2, q3, q4, q5, q6, q7, q8, q9, q10⟩
    · simp at h4
    · rw [hb] at q2; cases q2
      obtain ⟨c1, c2, c3, c4, c5⟩ := g2.cells hok
      -- the plain cells
      unfold pcells at h3
      cases hfz : frzL1 st.H (ev st.T v').cells with
      | none => simp [hfz] at h3
      | some cs' =>
        simp only [hfz] at h3
        have e1 := allP_some h3
        obtain ⟨f1, f2, f3, f4⟩ := frzL1_rep s.toSimH c1 c4 hfz (ns := (ev st.T v').cells.flatMap hslN) (fun x hx => hx)
        subst e1
        have hvl : (a.eval v).cells.size = vs.length := by simpa using f1
        have hfl : ∀ p ∈ vs, p.flat = true := by
          intro p hp
          have := f4 c2 (.p p) (List.mem_map.2 ⟨p, hp, rfl⟩)
          cases p <;> first | rfl | simp [AV.flat] at this
        have hrep : ∀ (k : Nat) (p : PV) (u : Value), vs[k]? = some p → (a.eval v).cells[k]? = some u → PRep w (Wf m st.H ((ev st.T v').cells.flatMap hslN) W) p u := by
          intro k p u hp hu
          have := f2 k (.p p) u (by simp [hp]) hu
          cases this with | p _ _ h => exact h
        obtain ⟨z1, z2⟩ := q1 el (List.mem_of_getElem? h4)
        have hcap : (i + 1) * z ≤ (m y).cap * z := Nat.mul_le_mul_right z (by omega)
        rw [Nat.add_mul] at hcap
        have hbound : i * z + off + size ≤ c.size := by omega
        rw [q0] at he
        have hr := run_store_at (P := P) s ho hS he q3 (hvl.trans hl) (by omega) c3
        have gz := Good.freeze s.toSimH ((ev st.T v').cells.flatMap hslN) (.undef)
        have s1 : SimH idm m w (Wf m st.H ((ev st.T v').cells.flatMap hslN) W) (frzUp st.H ((ev st.T v').cells.flatMap hslN) ++ st.H) := gz.simH s.toSimH
        have hy1 : hget (frzUp st.H ((ev st.T v').cells.flatMap hslN) ++ st.H) y = some (.parr es z false) := by
          rw [hget_append]
          split
          · rename_i hm
            obtain ⟨ob, hob⟩ := ups_frzUp hm
            exact absurd (hget_frzUp hob).choose_spec.choose_spec.choose_spec.2.2 hni
          · exact h2
        have hWb : Wf m st.H ((ev st.T v').cells.flatMap hslN) W b := ⟨q9 rfl, fun ⟨x2, hx2, ⟨es2, z2, f2', hp2⟩, hb2⟩ => hni (s.sep y x2 _ _ b h2 hp2 hb hb2 ▸ hx2)⟩
        have hbl : (i * z + off) + (a.eval v).cells.toList.length ≤ c.toList.length := by simp; omega
        have hz0 : 0 < vs.length ∨ size = 0 := by omega
        refine ⟨undef, _, m, _, .inr ⟨hr, rfl⟩, Good.comp s.toSimH gz (u2 := [(y, some (.parr (es.set i (setE el off vs)) z false))]) (Good.upd s1 .undef hy1 rfl hb _ ⟨q0, ?_, .inr ⟨b, _, e, hb, setRow_heap w b c _ e _ q3, ?_, by simpa using q5, q6, ?_, ?_, fun _ => hWb, fun h => by cases h⟩⟩ (fun n hn => by simp [AObj.names] at hn) rfl), .undef _, by simp [AV.names]⟩
        · intro e' he'
          rcases List.mem_or_eq_of_mem_set he' with h | rfl
          · exact q1 e' h
          · rcases Nat.eq_zero_or_pos vs.length with h0 | h0
            · -- nothing is written
              have hv0 : vs = [] := List.eq_nil_of_length_eq_zero h0
              subst hv0
              cases el with
              | agg cs0 =>
                have : setE (.agg cs0) off [] = .agg cs0 := by simp [setE]
                rw [this]; exact ⟨z1, z2⟩
              | _ => exact ⟨z1, z2⟩
            · rw [setE_cells s (by omega) h0 hfl]
              refine ⟨by rw [splice_len _ _ _ (by omega)]; exact z1, fun c' hc' => ?_⟩
              rw [List.append_assoc] at hc'
              rcases List.mem_append.1 hc' with hc' | hc'
              · exact z2 c' (List.mem_of_mem_take hc')
              · rcases List.mem_append.1 hc' with hc' | hc'
                · exact hfl c' hc'
                · exact z2 c' (List.mem_of_mem_drop hc')
        · simp only [List.size_toArray]
          rw [splice_len _ _ _ hbl]
          simpa using q4
        · intro u hu
          simp only [List.mem_toArray, List.append_assoc] at hu
          rcases List.mem_append.1 hu with hu | hu
          · exact q7 u (by simpa using List.mem_of_mem_take hu)
          · rcases List.mem_append.1 hu with hu | hu
            · exact c3 u (by simpa using hu)
            · exact q7 u (by simpa using List.mem_of_mem_drop hu)
        · intro k j e' a' u hk hj hu
          simp only [List.getElem?_toArray] at hu
          rw [splice_get _ _ _ hbl] at hu
          simp only [Array.length_toList, hvl] at hu
          have hjz : j < z := by
            have hmem : e' ∈ es.set i (setE el off vs) := List.mem_of_getElem? hk
            have hjl := (List.getElem?_eq_some_iff.1 hj).1
            rcases List.mem_or_eq_of_mem_set hmem with h | rfl
            · have := (q1 e' h).1; omega
            · rcases Nat.eq_zero_or_pos vs.length with h0 | h0
              · have hv0 : vs = [] := List.eq_nil_of_length_eq_zero h0
                subst hv0
                cases el with
                | agg cs0 =>
                  have : setE (.agg cs0) off [] = .agg cs0 := by simp [setE]
                  rw [this] at hjl; omega
                | _ => simp only [setE] at hjl; omega
              · rw [setE_cells s (by omega) h0 hfl, splice_len _ _ _ (by omega)] at hjl; omega
          have key : PRep w (Wf m st.H ((ev st.T v').cells.flatMap hslN) W) a' u := by
            have old : ∀ {k' : Nat} {e0 : PV}, es[k']? = some e0 → e0.cells[j]? = some a' → c[k' * z + j]? = some u → PRep w (Wf m st.H ((ev st.T v').cells.flatMap hslN) W) a' u :=
              fun he0 ha hu => (q8 _ j _ a' u he0 ha hu).keep (Keep.refl (fun _ => False) w) (fun _ h => h.elim) fun _ _ h => h.1
            rw [List.getElem?_set] at hk
            by_cases hik : i = k
            · subst hik
              rw [if_pos rfl, if_pos hei] at hk
              simp only [Option.some.injEq] at hk
              subst hk
              rcases Nat.eq_zero_or_pos vs.length with h0 | h0
              · have hv0 : vs = [] := List.eq_nil_of_length_eq_zero h0
                subst hv0
                rw [if_neg (by simp only [List.length_nil]; omega)] at hu
                have : (setE el off []).cells = el.cells := by cases el <;> simp [setE]
                rw [this] at hj
                exact old h4 hj (by simpa using hu)
              · rw [setE_cells s (by omega) h0 hfl, splice_get _ _ _ (by omega)] at hj
                split at hj
                · rename_i hc
                  rw [if_pos (by omega)] at hu
                  have : i * z + j - (i * z + off) = j - off := by omega
                  rw [this] at hu
                  exact hrep _ a' u hj (by simpa using hu)
                · rename_i hc
                  rw [if_neg (by omega)] at hu
                  exact old h4 hj (by simpa using hu)
            · rw [if_neg hik] at hk
              have hne : ¬ (i * z + off ≤ k * z + j ∧ k * z + j < i * z + off + vs.length) := by
                rintro ⟨h1', h2'⟩
                rcases Nat.lt_or_gt_of_ne hik with h | h
                · have := Nat.mul_le_mul_right z (show i + 1 ≤ k by omega)
                  rw [Nat.add_mul] at this; omega
                · have := Nat.mul_le_mul_right z (show k + 1 ≤ i by omega)
                  rw [Nat.add_mul] at this; omega
              rw [if_neg hne] at hu
              exact old hk hj (by simpa using hu)
          exact key.keep (keep_setRow b _) (fun i hi => by rw [hi]; exact hWb) fun _ _ h => h
end
end Go.Ab

/-! Appending; slice literals; make. -/
namespace Go.Ab
open Go

section
variable {P : Program} (w : World)

theorem run_firstCells_gen (size n : Nat) (a : Option Addr) (len cap : Nat) (cs : List Value) (hl : cs.length = n * size) (h : cs ≠ [] → ∃ b, a = some b ∧ ∀ j v, cs[j]? = some v → w.cell? (b.add j) = some v) :
    (Builtin.firstCells size n (.slice a len cap)).run P w = .ok cs.toArray w := by
  cases cs with
  | nil =>
    cases a with
    | none => simp [Builtin.firstCells]
    | some b => exact run_firstCells_some w size n b len cap [] hl fun j v h => by simp at h
  | cons c cs =>
    obtain ⟨b, rfl, hb⟩ := h (by simp)
    exact run_firstCells_some w size n b len cap _ hl hb

theorem run_append_grown (t u ty e e' : TypeId) (i : TypeInfo) (z : Value) (ht : P.underlying t = some (.slice e)) (hu : P.underlying u = some (.slice e')) (hi : P.info? e = some i) (hz : i.zero = some z)
    (b : Option Addr) (sLen sCap : Nat) (olds : List Value) (hlo : olds.length = sLen * i.size) (holds : olds ≠ [] → ∃ a, b = some a ∧ ∀ j v, olds[j]? = some v → w.cell? (a.add j) = some v)
    (a : Option Addr) (n c : Nat) (news : List Value) (hl : news.length = n * i.size) (hnews : news ≠ [] → ∃ b, a = some b ∧ ∀ j v, news[j]? = some v → w.cell? (b.add j) = some v)
    (hg : sCap < sLen + n) (h63 : ((sLen + n : Nat) : Int) ≤ 9223372036854775807) (hfit : Builtin.nextslicecap (sLen + n) sCap * i.bytes ≤ 281474976710656) :
    (Builtin.append_ #[t, u] ty #[.slice b sLen sCap, .slice a n c]).run P w =
      .ok (.slice (some ⟨w.heap.size, 0, none⟩) (sLen + n) (grownCap w (sLen + n) sCap e))
        (w.drew.alloc (.cells (olds.toArray ++ news.toArray ++ Builtin.zeroCells z.cells (grownCap w (sLen + n) sCap e - (sLen + n))) e)) := by
  have hn : ¬ (sLen + n ≤ sCap) := by omega
  have h63' : ¬ (9223372036854775807 < ((sLen : Int) + (n : Int))) := by omega
  have h48' : ¬ (281474976710656 < Builtin.nextslicecap (sLen + n) sCap * i.bytes) := by omega
  have hf := run_firstCells_gen (P := P) w.drew i.size n a n c news hl (by simpa using hnews)
  have hfo := run_firstCells_gen (P := P) w.drew i.size sLen b sLen sCap olds hlo (by simpa using holds)
  simp [Builtin.append_, run_underlying ht, run_underlying hu, sizeOf, typeInfo, zeroValue, hi, hz, Builtin.lenOf, hn, h63', h48', Question.forced, hf, hfo, newRow, grownCap]
  congr 2
  apply Array.ext'
  simp [List.append_assoc]

theorem run_append_kept (t u ty e e' : TypeId) (i : TypeInfo) (ht : P.underlying t = some (.slice e)) (hu : P.underlying u = some (.slice e')) (hi : P.info? e = some i)
    (b : Option Addr) (a : Option Addr) (c : Nat) : (Builtin.append_ #[t, u] ty #[.slice b 0 0, .slice a 0 c]).run P w = .ok (.slice b 0 0) w := by
  have hf := run_firstCells_gen (P := P) w i.size 0 a 0 c [] (by simp) (by simp)
  cases b <;> simp [Builtin.append_, run_underlying ht, run_underlying hu, sizeOf, typeInfo, hi, Builtin.lenOf, hf, storeCells]

theorem run_append_roomy (t u ty e e' e0 : TypeId) (i : TypeInfo) (ht : P.underlying t = some (.slice e)) (hu : P.underlying u = some (.slice e')) (hi : P.info? e = some i)
    (g sLen sCap : Nat) (cur : Array Value) (hg : w.heap[g]? = some (.cells cur e0 (0, 0)))
    (a : Option Addr) (m c : Nat) (news : List Value) (hl : news.length = m * i.size) (hnews : news ≠ [] → ∃ b, a = some b ∧ ∀ j v, news[j]? = some v → w.cell? (b.add j) = some v) (h1 : ∀ u ∈ news, u.oneCell' = true)
    (hroom : sLen + m ≤ sCap) (hfit : sLen * i.size + news.length ≤ cur.size) :
    (Builtin.append_ #[t, u] ty #[.slice (some ⟨g, 0, none⟩) sLen sCap, .slice a m c]).run P w =
      .ok (.slice (some ⟨g, 0, none⟩) (sLen + m) sCap) (w.setRow g (cur.toList.take (sLen * i.size) ++ news ++ cur.toList.drop (sLen * i.size + news.length)).toArray) := by
  have hf := run_firstCells_gen (P := P) w i.size m a m c news hl hnews
  have hst := run_storeCells_at P g (sLen * i.size) e0 news 0 cur w hg (by simpa using hfit) h1
  simp only [Nat.add_zero] at hst
  simp [Builtin.append_, run_underlying ht, run_underlying hu, sizeOf, typeInfo, hi, Builtin.lenOf, hroom, hf, Addr.add_lit, hst]
end

/-- What a slice holds, cell by cell. -/
structure Cellz (w : World) (W : Nat → Prop) (z : Nat) (ys : List PV) (a : Option Addr) (news : List Value) : Prop where
  hl : news.length = ys.length * z
  hc : news ≠ [] → ∃ b, a = some b ∧ ∀ j v, news[j]? = some v → w.cell? (b.add j) = some v
  hz : ∀ e ∈ ys, e.cells.length = z ∧ ∀ c ∈ e.cells, c.flat = true
  h : ∀ (i j : Nat) (e c : PV) (u : Value), ys[i]? = some e → e.cells[j]? = some c → news[i * z + j]? = some u → PRep w W c u

theorem Cellz.nil (w : World) (W : Nat → Prop) (z : Nat) (a : Option Addr) : Cellz w W z [] a [] :=
  ⟨by simp, by simp, by simp, fun i j e c u h => by simp at h⟩

theorem idx_lt {i j n z : Nat} (hi : i < n) (hj : j < z) : i * z + j < n * z := by
  have := Nat.mul_le_mul_right z (show i + 1 ≤ n by omega)
  rw [Nat.add_mul] at this
  omega
theorem idx_split {q n z : Nat} (h : q < n * z) : ∃ i j, i < n ∧ j < z ∧ q = i * z + j := by
  have hz : 0 < z := by
    rcases Nat.eq_zero_or_pos z with h0 | h0
    · subst h0; simp at h
    · exact h0
  refine ⟨q / z, q % z, (Nat.div_lt_iff_lt_mul hz).2 h, Nat.mod_lt _ hz, ?_⟩
  rw [Nat.mul_comm]; exact (Nat.div_add_mod q z).symm

theorem Cellz.one {w : World} {W : Nat → Prop} {z : Nat} {ys : List PV} {a : Option Addr} {news : List Value} (h : Cellz w W z ys a news) : ∀ u ∈ news, u.oneCell' = true := by
  intro u hu
  obtain ⟨q, hq⟩ := List.mem_iff_getElem?.1 hu
  have hlt := (List.getElem?_eq_some_iff.1 hq).1
  rw [h.hl] at hlt
  obtain ⟨i, j, hi, hj, rfl⟩ := idx_split hlt
  have he := List.getElem?_eq_getElem hi
  obtain ⟨h1, h2⟩ := h.hz _ (List.mem_of_getElem? he)
  have hc := List.getElem?_eq_getElem (show j < (ys[i]).cells.length by omega)
  exact ((h.h i j _ _ u he hc hq).flat_one (h2 _ (List.mem_of_getElem? hc))).1

theorem PRep.cellz {w : World} {W : Nat → Prop} {z : Nat} {es : List PV} {v : Value} (h : PRep w W (.sl z es) v) : ∃ a n cap news, v = .slice a n cap ∧ es.length = n ∧ n ≤ cap ∧ Cellz w W z es a news := by
  cases h with
  | sl _ _ a n cap ad f hn hcap hz ha hc h =>
    have hget : ∀ {q : Nat} {u : Value}, ((List.range (n * z)).map fun q => f (q / z) (q % z))[q]? = some u → q < n * z ∧ u = f (q / z) (q % z) := by
      intro q u hq
      have hlt : q < n * z := by have := (List.getElem?_eq_some_iff.1 hq).1; simpa using this
      simp [List.getElem?_range, hlt] at hq
      exact ⟨hlt, hq.symm⟩
    have hij : ∀ {i j : Nat}, j < z → (i * z + j) / z = i ∧ (i * z + j) % z = j := by
      intro i j hj
      rw [Nat.mul_comm i z]
      exact ⟨by rw [Nat.mul_add_div (by omega), Nat.div_eq_of_lt hj]; simp, by rw [Nat.mul_add_mod]; exact Nat.mod_eq_of_lt hj⟩
    refine ⟨a, n, cap, (List.range (n * z)).map fun q => f (q / z) (q % z), rfl, hn, hcap, ⟨by simp [hn], fun hne => ?_, hz, fun i j e c u hi hj hu => ?_⟩⟩
    · have hes : es ≠ [] := by rintro rfl; simp at hn; subst hn; simp at hne
      obtain ⟨ha1, _⟩ := ha hes
      refine ⟨ad, ha1, fun q u hq => ?_⟩
      obtain ⟨hlt, rfl⟩ := hget hq
      obtain ⟨i, j, hi, hj, rfl⟩ := idx_split hlt
      have he := List.getElem?_eq_getElem (show i < es.length by omega)
      have hcl := (hz _ (List.mem_of_getElem? he)).1
      obtain ⟨e1, e2⟩ := hij (i := i) hj
      rw [e1, e2]
      exact hc i j _ _ he (List.getElem?_eq_getElem (show j < (es[i]).cells.length by omega))
    · obtain ⟨hlt, rfl⟩ := hget hu
      have hj' : j < z := by have := (List.getElem?_eq_some_iff.1 hj).1; have := (hz e (List.mem_of_getElem? hi)).1; omega
      obtain ⟨e1, e2⟩ := hij (i := i) hj'
      rw [e1, e2]
      exact h i j e c hi hj

theorem elems_cellz {idm : FuncId → FuncId} {m : NMap} {w : World} {W : Nat → Prop} {H : Hp} (s : SimH idm m w W H) {x : AV} {v : Value} (h : Rep idm m w W x v) {z : Nat} {ys : List PV} (he : elems H x = some (z, ys)) :
    ∃ a n cap news, v = .slice a n cap ∧ ys.length = n ∧ n ≤ cap ∧ Cellz w W z ys a news := by
  cases h with
  | p c v h =>
    cases c <;> simp [elems] at he
    obtain ⟨rfl, rfl⟩ := he
    exact h.cellz
  | nils z' a =>
    simp only [elems, Option.some.injEq, Prod.mk.injEq] at he
    obtain ⟨rfl, rfl⟩ := he
    exact ⟨a, 0, 0, [], rfl, rfl, Nat.le_refl _, Cellz.nil ..⟩
  | hsl x off len a c hh hlc =>
    simp only [elems] at he
    cases ho : hget H x with
    | none => simp [ho] at he
    | some ob =>
      rw [ho] at he
      cases ob with
      | box => simp at he
      | arr => simp at he
      | parr es0 z0 f =>
        simp only at he
        split at he
        · rename_i hle
          simp only [Option.some.injEq, Prod.mk.injEq] at he
          obtain ⟨rfl, rfl⟩ := he
          obtain ⟨q0, q1, q2⟩ := s.h x _ ho
          have hlen : ((es0.drop off).take len).length = len := by simp; omega
          rcases q2 with ⟨q2, rfl, q3⟩ | ⟨b, ca, ety, g2, g3, g4, g5, g6, g7, g8, g9, g10⟩
          · simp only [List.drop_nil, List.take_nil]
            simp only [List.drop_nil, List.take_nil, List.length_nil] at hlen
            exact ⟨a, len, c, [], rfl, hlen, hlc, Cellz.nil ..⟩
          · unfold HslOK at hh
            rw [g2] at hh
            simp only at hh
            have hmem : ∀ {e : PV}, e ∈ (es0.drop off).take len → e ∈ es0 := fun h => List.mem_of_mem_drop (List.mem_of_mem_take h)
            have hgi : ∀ {i : Nat} {e : PV}, ((es0.drop off).take len)[i]? = some e → i < len ∧ es0[off + i]? = some e := by
              intro i e hi
              rw [List.getElem?_take] at hi
              split at hi
              · rename_i hlt; rw [List.getElem?_drop] at hi; exact ⟨hlt, hi⟩
              · cases hi
            have hcs : (off + len) * z0 ≤ ca.size := by rw [g4]; exact Nat.mul_le_mul_right z0 (by omega)
            have hcs' : off * z0 + len * z0 ≤ ca.size := by rwa [Nat.add_mul] at hcs
            have hnl : ((ca.toList.drop (off * z0)).take (len * z0)).length = len * z0 := by simp; omega
            have hng : ∀ {q : Nat} {u : Value}, ((ca.toList.drop (off * z0)).take (len * z0))[q]? = some u → ca[off * z0 + q]? = some u := by
              intro q u hq
              rw [List.getElem?_take] at hq
              split at hq
              · rw [List.getElem?_drop] at hq; simpa using hq
              · cases hq
            refine ⟨a, len, c, (ca.toList.drop (off * z0)).take (len * z0), rfl, hlen, hlc, ⟨by rw [hnl, hlen], fun hne => ?_, fun e he => q1 e (hmem he), fun i j e a u hi hj => ?_⟩⟩
            · have hpos : 0 < len := by
                rcases Nat.eq_zero_or_pos len with h | h
                · subst h; simp at hne
                · exact h
              have := hh.2 hpos
              rw [q0] at this
              refine ⟨_, this, fun j u hj => ?_⟩
              rw [add_at, cell_of_row w b _ ca ety (0, 0) g3]
              exact hng hj
            · intro hu
              have := hng hu
              obtain ⟨_, h2⟩ := hgi hi
              exact g8 (off + i) j e a _ h2 hj (by rw [Nat.add_mul, Nat.add_assoc]; exact this)
        · cases he
  | _ => simp [elems] at he

/-- Rows one behind the other. -/
theorem cellz_app {w w' : World} {W W' : Nat → Prop} {z : Nat} {xs ys : List PV} {a b : Option Addr} {olds news : List Value} (h1 : Cellz w W z xs a olds) (h2 : Cellz w W z ys b news)
    {O : Nat → Prop} (k : Keep O w w') (hO : ∀ i, O i → W i) (hW : ∀ i, i < w.heap.size → W' i → W i) (rest : List Value) :
    (∀ e ∈ xs ++ ys, e.cells.length = z ∧ ∀ c ∈ e.cells, c.flat = true) ∧
    ∀ (i j : Nat) (e c : PV) (u : Value), (xs ++ ys)[i]? = some e → e.cells[j]? = some c → (olds ++ news ++ rest)[i * z + j]? = some u → PRep w' W' c u := by
  have hz : ∀ e ∈ xs ++ ys, e.cells.length = z ∧ ∀ c ∈ e.cells, c.flat = true := fun e he => by
    rcases List.mem_append.1 he with he | he
    · exact h1.hz e he
    · exact h2.hz e he
  refine ⟨hz, fun i j e c u hi hj hu => ?_⟩
  have hj' : j < z := by have := (List.getElem?_eq_some_iff.1 hj).1; have := (hz e (List.mem_of_getElem? hi)).1; omega
  rw [List.getElem?_append] at hi
  split at hi
  · rename_i hlt
    have := idx_lt hlt hj'
    rw [List.append_assoc, List.getElem?_append_left (by rw [h1.hl]; exact this)] at hu
    exact (h1.h i j e c u hi hj hu).keep k hO hW
  · rename_i hge
    have hlt := (List.getElem?_eq_some_iff.1 hi).1
    have e1 : i * z + j = xs.length * z + ((i - xs.length) * z + j) := by
      rw [← Nat.add_assoc, ← Nat.add_mul]
      congr 2
      omega
    have := idx_lt hlt hj'
    rw [e1, List.append_assoc, List.getElem?_append_right (by rw [h1.hl]; omega), h1.hl, Nat.add_sub_cancel_left, List.getElem?_append_left (by rw [h2.hl]; exact this)] at hu
    exact (h2.h _ j e c u hi hj hu).keep k hO hW

section
variable {idm : FuncId → FuncId} {m : NMap} {w : World} {W : Nat → Prop} {H : Hp}

/-- As Good, with a purge. -/
theorem Good.withPg {v : AV} {up : Hp} {m' : NMap} {w' : World} {W' : Nat → Prop} (g : Good idm m w W H { v, up } m' w' W') {x : Nm} (hx : x ∈ upNs up) : Good idm m w W H { v, up, pg := some x } m' w' W' where
  k := g.k
  sub := g.sub
  sup := g.sup
  lt := g.lt
  mm := fun y hy _ => g.mm y hy (by simp)
  up := fun y o ho => by
    obtain ⟨h1, h2⟩ := g.up y o ho
    refine ⟨h1, fun q hq => ?_⟩
    have := h2 q hq
    rw [hget_append] at this ⊢
    split
    · rename_i h; rw [if_pos h] at this; exact this
    · rename_i h
      rw [if_neg h] at this
      rw [hget_pgH_some]
      rwa [hget_pgH_some] at this
  ups := g.ups
  b1 := g.b1
  b2 := g.b2
  pgu := fun y hy => by simp at hy; subst hy; exact hx
  ext := g.ext

/-- A slice of one's own moves. -/
theorem Good.move (s : SimH idm m w W H) {x : Nm} (hloc : x.isLoc = true) {o : AObj} (hx : hget H x = some o) (hof : o.frozen = false) {o' : AObj} {l : Loc} (v : AV) {w' : World} (kp : Keep (fun _ => False) w w')
    (hn : o'.names = []) (hr : ORep idm (fun y => if y = x then l else m y) w' (fun j => W j ∨ (w.heap.size ≤ j ∧ j < w'.heap.size)) l o') (hb : ∀ q, l.base = some q → w.heap.size ≤ q) :
    Good idm m w W H { v, up := [(x, some o')], pg := some x } (fun y => if y = x then l else m y) w' (fun j => W j ∨ (w.heap.size ≤ j ∧ j < w'.heap.size)) where
  k := ⟨kp.os, kp.tape, kp.output, kp.size, fun i hi _ => kp.block i hi (fun h => h)⟩
  sub := fun i hi h => by rcases h with h | ⟨h, _⟩ <;> first | exact h | omega
  sup := fun i _ h _ => .inl h
  lt := fun i h => by rcases h with h | ⟨_, h⟩ <;> first | exact Nat.lt_of_lt_of_le (s.lt i h) kp.size | exact h
  mm := fun y _ hy => by
    have : y ≠ x := fun e => hy (by rw [e])
    simp [this]
  up := fun y ob ho => by
    simp only [hget] at ho
    split at ho
    · rename_i e
      subst e
      simp only [Option.some.injEq] at ho
      subst ho
      exact ⟨by simpa using hr, fun y hy => by rw [hn] at hy; cases hy⟩
    · cases ho
  ups := fun y hy => by simp [upNs] at hy; subst hy; exact ⟨o', by simp [hget]⟩
  b1 := fun y ob q ho hq hlt => by
    simp only [hget] at ho
    split at ho
    · rename_i e
      subst e
      simp only [if_true] at hq
      have := hb q hq
      omega
    · cases ho
  b2 := fun y z q hy hz _ _ _ => by simp [upNs] at hy hz; rw [hy, hz]
  pgu := fun y h => by simp at h; subst h; simp [upNs]
  ext := fun k => by
    have : Nm.ext k ≠ x := by rintro rfl; simp [Nm.isLoc] at hloc
    simp [this]
end

theorem run_call_app {P : Program} {o : Oper} {a : Act} {w w' : World} {x y : Operand} {t u : TypeId} {v1 v2 v : Value} (ho : o.op = .call { callee := .builtin .append, args := #[x, y], argTypes := #[t, u] }) (hx : a.eval x = v1) (hy : a.eval y = v2)
    (h : (Builtin.append_ #[t, u] o.type #[v1, v2]).run P w = .ok v w') : (execOp a.eval o).run P w = .ok (.value v) w' := by
  simp only [execOp, ho, resolve, invoke, builtin, Sem.run_bind, Sem.run_pure, Result.andThen_ok, List.map_toArray, List.map_cons, List.map_nil, hx, hy, h]

theorem maxLen_ge : most ≤ maxLen := by simp only [most, maxLen]; omega

section
variable {P : Program} {idm : FuncId → FuncId} {N : Nat} {m : NMap} {w : World} {W : Nat → Prop} {st : St} {a : Act} {o : Oper} (s : Sim idm N m w W st a)
include s

/-- The new row of a slice that has grown. -/
theorem grown_row {z : Nat} {xs ys : List PV} {aa bb : Option Addr} {olds news : List Value} (h1 : Cellz w W z xs aa olds) (h2 : Cellz w W z ys bb news) {zv : Value} (hzv : zv.cells.size = z) (hz1 : ∀ v ∈ zv.cells, v.oneCell' = true)
    (hz0 : 0 < z) (cap : Nat) (hcap : xs.length + ys.length ≤ cap) (hm : cap ≤ maxLen) (e : TypeId) (m' : NMap) :
    ORep idm m' (w.drew.alloc (.cells (olds.toArray ++ news.toArray ++ Builtin.zeroCells zv.cells (cap - (xs.length + ys.length))) e)) (fun j => W j ∨ (w.heap.size ≤ j ∧ j < (w.drew.alloc (.cells (olds.toArray ++ news.toArray ++ Builtin.zeroCells zv.cells (cap - (xs.length + ys.length))) e)).heap.size))
      ⟨some w.heap.size, cap, z⟩ (.parr (xs ++ ys) z false) := by
  have kp : Keep (fun _ => False) w (w.drew.alloc (.cells (olds.toArray ++ news.toArray ++ Builtin.zeroCells zv.cells (cap - (xs.length + ys.length))) e)) := ⟨rfl, rfl, rfl, by simp, fun i hi _ => heap_alloc_old w.drew _ i hi⟩
  obtain ⟨g1, g2⟩ := cellz_app (W' := fun j => W j ∨ (w.heap.size ≤ j ∧ j < (w.drew.alloc (.cells (olds.toArray ++ news.toArray ++ Builtin.zeroCells zv.cells (cap - (xs.length + ys.length))) e)).heap.size)) h1 h2 kp (fun _ h => h.elim)
    (fun i hi h => by rcases h with h | ⟨h, _⟩ <;> first | exact h | omega) (Builtin.zeroCells zv.cells (cap - (xs.length + ys.length))).toList
  refine ⟨rfl, g1, .inr ⟨w.heap.size, _, e, rfl, heap_alloc_new w.drew _, ?_, by simpa using hcap, hm, ?_, ?_, fun _ => .inr ⟨Nat.le_refl _, by simp⟩, fun h => by cases h⟩⟩
  · simp only [Array.size_append, List.size_toArray, h1.hl, h2.hl, size_zeroCells, hzv]
    rw [← Nat.add_mul, ← Nat.add_mul]
    congr 1
    omega
  · intro v hv
    rcases Array.mem_append.1 hv with hv | hv
    · rcases Array.mem_append.1 hv with hv | hv
      · exact h1.one v (by simpa using hv)
      · exact h2.one v (by simpa using hv)
    · simp only [Builtin.zeroCells, Array.mem_map, Array.mem_range] at hv
      obtain ⟨k, hk, rfl⟩ := hv
      have : k % zv.cells.size < zv.cells.size := Nat.mod_lt _ (by omega)
      rw [getElem!_pos zv.cells _ this]
      exact hz1 _ (Array.getElem_mem this)
  · intro i j e' a' v hi hj hv
    refine g2 i j e' a' v hi hj ?_
    rw [← hv, ← Array.getElem?_toList]
    simp

theorem ok_append_nils (r i : Nat) {t u : TypeId} {x y : Operand} {x' y' : Opd} {args : Array Operand} {tys : Array TypeId} (hargs : args.toList = [x, y]) (htys : tys.toList = [t, u]) (ho : o.op = .call { callee := .builtin .append, args := args, argTypes := tys })
    (hx : opdL idm x x' = true) (hy : opdL idm y y' = true) {e e' : TypeId} {ti : TypeInfo} {zv : Value} {z : Nat} (ht : P.underlying t = some (.slice e)) (hu : P.underlying u = some (.slice e')) (hi : P.info? e = some ti) (hz : ti.zero = some zv) (hsz : ti.size = z) (hz0 : 0 < z)
    (hby : ti.bytes ≤ 65536) (hzv : zv.cells.size = z) (hz1 : ∀ v ∈ zv.cells, v.oneCell' = true) {ys : List PV} (hel : elems st.H (ev st.T y') = some (z, ys)) {z' : Nat} (h1 : ev st.T x' = .nils z') (hfr : (hget st.H (.loc r i 0)).isNone = true) (hle : ys.length ≤ most) :
    OpOK P idm m w W st.H o a { v := .hsl (.loc r i 0) 0 ys.length, up := [(.loc r i 0, some (.parr ys z false))] } := by
  obtain rfl : args = #[x, y] := by rw [← hargs]
  obtain rfl : tys = #[t, u] := by rw [← htys]
  obtain ⟨g1, _⟩ := opdL_rep hx s
  obtain ⟨g2, _⟩ := opdL_rep hy s
  rw [h1] at g1
  generalize hex : a.eval x = ux at g1
  generalize hey : a.eval y = uy at g2
  obtain ⟨ab, n, c, news, rfl, hn, hnc, hcz⟩ := elems_cellz s.toSimH g2 hel
  subst hsz
  cases g1 with
  | nils _ aa =>
    by_cases h0 : n = 0
    · subst h0
      have hys : ys = [] := List.eq_nil_of_length_eq_zero hn
      subst hys
      have hrun := run_append_kept (P := P) w t u o.type e e' ti ht hu hi aa ab c
      exact ok_row (P := P) (o := o) s (.loc r i 0) ⟨r, i, 0, rfl⟩ (Option.isNone_iff_eq_none.1 hfr) (es := []) (z := ti.size) (b := none) (cap := 0) (w' := w) (v := .slice aa 0 0)
        (run_call_app (o := o) (P := P) (a := a) ho hex hey hrun) (Keep.refl _ w) (fun m' hm => .hsl _ 0 0 aa 0 (by rw [hm]; simp [HslOK]) (Nat.le_refl _)) (fun q h => by cases h) ⟨rfl, fun e he => by simp at he, .inl ⟨rfl, rfl, rfl⟩⟩
    · have hmx := maxLen_ge
      have hml : n ≤ maxLen := by omega
      have hb : (0 + n) * ti.bytes ≤ 140737488355328 := by
        have := Nat.mul_le_mul (show 0 + n ≤ 2147483648 by simp only [most] at hle; omega) hby
        omega
      have hrun := run_append_grown (P := P) w t u o.type e e' ti zv ht hu hi hz aa 0 0 [] (by simp) (by simp) ab n c news (by rw [hcz.hl, hn]) hcz.hc (by omega) (by simp only [maxLen] at hml; omega) (growslice_fits (by omega) hb)
      have hge := grownCap_ge w (0 + n) 0 e
      have hro := grown_row (idm := idm) s (z := ti.size) (xs := []) (aa := none) (olds := []) (Cellz.nil w W ti.size none) hcz hzv hz1 hz0 (grownCap w (0 + n) 0 e) (by simpa [hn] using hge) (grownCap_le_maxLen w (0 + n) 0 e (by simpa using hml)) e m
      simp only [List.nil_append, List.length_nil, hn] at hro
      have hrun' := run_call_app (o := o) (P := P) (a := a) ho hex hey hrun
      exact ok_row (P := P) (o := o) s (.loc r i 0) ⟨r, i, 0, rfl⟩ (Option.isNone_iff_eq_none.1 hfr) (es := ys) (z := ti.size) (b := some w.heap.size) (cap := grownCap w (0 + n) 0 e)
        hrun' ⟨rfl, rfl, rfl, by simp, fun i hi _ => heap_alloc_old w.drew _ i hi⟩
        (fun m' hm => by rw [hn, Nat.zero_add]; exact .hsl _ 0 n _ _ (by rw [hm]; simp [HslOK]) (by simpa using hge)) (fun q h => by cases h; exact Nat.le_refl _) hro

theorem ok_append_hsl {t u : TypeId} {x y : Operand} {x' y' : Opd} {args : Array Operand} {tys : Array TypeId} (hargs : args.toList = [x, y]) (htys : tys.toList = [t, u]) (ho : o.op = .call { callee := .builtin .append, args := args, argTypes := tys })
    (hx : opdL idm x x' = true) (hy : opdL idm y y' = true) {e e' : TypeId} {ti : TypeInfo} {zv : Value} {z : Nat} (ht : P.underlying t = some (.slice e)) (hu : P.underlying u = some (.slice e')) (hi : P.info? e = some ti) (hz : ti.zero = some zv) (hsz : ti.size = z) (hz0 : 0 < z)
    (hby : ti.bytes ≤ 65536) (hzv : zv.cells.size = z) (hz1 : ∀ v ∈ zv.cells, v.oneCell' = true) {ys : List PV} (hel : elems st.H (ev st.T y') = some (z, ys)) {n : Nm} {es : List PV} (h1 : ev st.T x' = .hsl n 0 es.length) (h2 : hget st.H n = some (.parr es z false)) (hloc : n.isLoc = true)
    (hle : es.length + ys.length ≤ most) :
    OpOK P idm m w W st.H o a { v := .hsl n 0 (es.length + ys.length), up := [(n, some (.parr (es ++ ys) z false))], pg := some n } := by
  obtain rfl : args = #[x, y] := by rw [← hargs]
  obtain rfl : tys = #[t, u] := by rw [← htys]
  obtain ⟨g1, _⟩ := opdL_rep hx s
  obtain ⟨g2, _⟩ := opdL_rep hy s
  have hex' : elems st.H (ev st.T x') = some (z, es) := by rw [h1]; simp [elems, h2]
  obtain ⟨aa0, n0, c0, olds, hux, hn0, hnc0, hcz0⟩ := elems_cellz s.toSimH g1 hex'
  rw [h1] at g1
  generalize hex : a.eval x = ux at g1 hux
  generalize hey : a.eval y = uy at g2
  obtain ⟨ab, k, c, news, rfl, hn, hnc, hcz⟩ := elems_cellz s.toSimH g2 hel
  subst hsz
  have hmx := maxLen_ge
  have hml : es.length + k ≤ maxLen := by omega
  have hnames : ∀ y ∈ (AV.hsl n 0 (es.length + ys.length)).names, (hget ([(n, some (AObj.parr (es ++ ys) ti.size false))] ++ pgH (some n) st.H) y).isSome = true := fun y hy => by
    simp [AV.names] at hy; subst hy; simp [hget]
  cases g1 with
  | hsl _ _ _ aa cc hh hlc =>
    have grow : cc < es.length + k → OpOK P idm m w W st.H o a { v := .hsl n 0 (es.length + ys.length), up := [(n, some (.parr (es ++ ys) ti.size false))], pg := some n } := by
      intro hg
      simp only [Value.slice.injEq] at hux
      obtain ⟨rfl, rfl, rfl⟩ := hux
      have hb : (es.length + k) * ti.bytes ≤ 140737488355328 := by
        have := Nat.mul_le_mul (show es.length + k ≤ 2147483648 by simp only [most] at hle; omega) hby
        omega
      have hrun := run_append_grown (P := P) w t u o.type e e' ti zv ht hu hi hz aa es.length cc olds hcz0.hl hcz0.hc ab k c news (by rw [hcz.hl, hn]) hcz.hc hg (by simp only [maxLen] at hml; omega) (growslice_fits hg hb)
      have hge := grownCap_ge w (es.length + k) cc e
      have hro := fun m' => grown_row (idm := idm) s hcz0 hcz hzv hz1 hz0 (grownCap w (es.length + k) cc e) (by rw [hn]; exact hge) (grownCap_le_maxLen w _ cc e hml) e m'
      simp only [hn] at hro
      refine ⟨_, _, _, _, .inl (run_call_app (o := o) (P := P) (a := a) ho hex hey hrun),
        Good.move s.toSimH hloc h2 rfl _ ⟨rfl, rfl, rfl, by simp, fun i hi _ => heap_alloc_old w.drew _ i hi⟩ rfl (hro _) (fun q h => by cases h; exact Nat.le_refl _), ?_, hnames⟩
      rw [hn]
      exact .hsl _ 0 _ _ _ (by simp [HslOK]) hge
    have hORep := s.h n _ h2
    obtain ⟨q0, q1, q2⟩ := hORep
    rcases q2 with ⟨q2, q3, q4⟩ | ⟨b, ca, ety, e2, e3, e4, e5, e6, e7, e8, e9, e10⟩
    · -- a nil slice
      unfold HslOK at hh
      rw [q2] at hh
      simp only at hh
      obtain ⟨_, _, hc0⟩ := hh
      subst hc0
      subst q3
      by_cases hk : k = 0
      · subst hk
        have hys : ys = [] := List.eq_nil_of_length_eq_zero hn
        subst hys
        have hrun := run_append_kept (P := P) w t u o.type e e' ti ht hu hi aa ab c
        refine ⟨.slice aa 0 0, w, m, W, .inl (run_call_app (o := o) (P := P) (a := a) ho hex hey hrun), Good.withPg (x := n) ?_ (by simp [upNs]), ?_, hnames⟩
        · have hid := Good.id (idm := idm) (m := m) (w := w) (H := st.H) s.lt (.hsl n 0 (([] : List PV).length + ([] : List PV).length))
          exact { k := ⟨rfl, rfl, rfl, Nat.le_refl _, fun _ _ _ => rfl⟩, sub := fun _ _ h => h, sup := fun _ _ h _ => h, lt := s.lt, mm := fun _ _ _ => rfl,
                  up := fun y ob hob => by
                    simp only [hget] at hob
                    split at hob
                    · rename_i e; subst e; simp only [Option.some.injEq] at hob; subst hob
                      exact ⟨s.h _ _ h2, fun y hy => by simp [AObj.names] at hy⟩
                    · cases hob
                  ups := fun y hy => by simp [upNs] at hy; subst hy; exact ⟨.parr ([] ++ []) ti.size false, by simp [hget]⟩
                  b1 := fun y ob q hob hq _ => by
                    simp only [hget] at hob
                    split at hob
                    · rename_i e; subst e; exact ⟨_, h2, hq, fun _ => rfl⟩
                    · cases hob
                  b2 := fun y z q hy hz _ _ _ => by simp [upNs] at hy hz; rw [hy, hz]
                  pgu := fun y h => by simp at h
                  ext := fun _ => rfl }
        · exact .hsl n 0 _ aa 0 (by unfold HslOK; rw [q2]; simp) (by simp)
      · exact grow (by simp; omega)
    · by_cases hroom : es.length + k ≤ cc
      · unfold HslOK at hh
        rw [e2] at hh
        simp only at hh
        obtain ⟨h3, h4⟩ := hh.1 trivial
        subst h3; subst h4
        have hfit : es.length * ti.size + news.length ≤ ca.size := by rw [hcz.hl, hn, e4, ← Nat.add_mul]; exact Nat.mul_le_mul_right _ hroom
        have hrun := run_append_roomy (P := P) w t u o.type e e' ety ti ht hu hi b es.length (m n).cap ca e3 ab k c news (by rw [hcz.hl, hn]) hcz.hc hcz.one hroom hfit
        refine ⟨_, _, m, W, .inl (run_call_app (o := o) (P := P) (a := a) ho hex hey hrun),
          Good.withPg (x := n) (Good.upd (o' := .parr (es ++ ys) ti.size false) s.toSimH _ h2 rfl e2 _ ⟨q0, ?_, .inr ⟨b, _, ety, e2, setRow_heap w b ca _ ety _ e3, ?_, by simpa [hn] using hroom, e6, ?_, ?_, e9, e10⟩⟩ (fun y hy => by simp [AObj.names] at hy) rfl) (by simp [upNs]), ?_, hnames⟩
        · intro e he
          rcases List.mem_append.1 he with he | he
          · exact q1 e he
          · exact hcz.hz e he
        · simp only [List.size_toArray, List.length_append, List.length_take, List.length_drop, Array.length_toList]
          omega
        · intro v hv
          simp only [List.mem_toArray, List.append_assoc] at hv
          rcases List.mem_append.1 hv with hv | hv
          · exact e7 v (by simpa using List.mem_of_mem_take hv)
          · rcases List.mem_append.1 hv with hv | hv
            · exact hcz.one v hv
            · exact e7 v (by simpa using List.mem_of_mem_drop hv)
        · intro i j e' a' v hi hj hv
          have hz' : e' ∈ es ++ ys := List.mem_of_getElem? hi
          have hjz : j < ti.size := by
            have hjl := (List.getElem?_eq_some_iff.1 hj).1
            rcases List.mem_append.1 hz' with h | h
            · have := (q1 e' h).1; omega
            · have := (hcz.hz e' h).1; omega
          have key : PRep w W a' v := by
            simp only [List.getElem?_toArray] at hv
            rw [splice_get _ _ _ (by simpa using hfit)] at hv
            rw [List.getElem?_append] at hi
            split at hi
            · rename_i hlt
              have := idx_lt hlt hjz
              rw [if_neg (by omega)] at hv
              exact e8 i j e' a' v hi hj (by simpa using hv)
            · rename_i hge
              have hlt := (List.getElem?_eq_some_iff.1 hi).1
              have h5 := idx_lt hlt hjz
              have e1 : i * ti.size + j = es.length * ti.size + ((i - es.length) * ti.size + j) := by
                rw [← Nat.add_assoc, ← Nat.add_mul]
                congr 2
                omega
              rw [e1, if_pos ⟨by omega, by rw [hcz.hl]; omega⟩, Nat.add_sub_cancel_left] at hv
              exact hcz.h _ j e' a' v hi hj hv
          exact key.keep (keep_setRow b _) (fun i hi => by rw [hi]; exact e9 rfl) fun _ _ h => h
        · rw [hn]
          exact .hsl n 0 _ _ _ (by unfold HslOK; rw [e2]; simp) hroom
      · exact grow (by omega)
end
end Go.Ab

/-! Slice literals; make. -/
namespace Go.Ab
open Go

/-- Parts of one size, one behind the other. -/
theorem fill_seq (z : Nat) : ∀ (vs : List Value) (k : Nat) (arr : Array Value), (∀ v ∈ vs, v.cells.size = z) → (k + vs.length) * z ≤ arr.size →
    ∃ arr', Instr.fill (fun i => some (i * z, z)) arr (vs.zipIdx k |>.map fun (v, i) => (i, v)) = some arr' ∧ arr'.size = arr.size ∧
      (∀ q, q < k * z → arr'[q]? = arr[q]?) ∧ ∀ (i j : Nat) (v : Value), vs[i]? = some v → j < z → arr'[(k + i) * z + j]? = v.cells[j]?
  | [], k, arr, _, _ => ⟨arr, rfl, rfl, fun _ _ => rfl, fun i j v h => by simp at h⟩
  | v :: vs, k, arr, hv, hl => by
    have hvz := hv v (by simp)
    have e0 : (k + (v :: vs).length) * z = k * z + z + vs.length * z := by
      simp only [List.length_cons, Nat.add_mul, Nat.one_mul]; omega
    obtain ⟨arr1, f1, f2, f3⟩ := fill_cons (fun i => some (i * z, z)) arr k v ((vs.zipIdx (k + 1)).map fun (v, i) => (i, v)) (off := k * z) (by rw [hvz]) (by rw [hvz]; omega)
    obtain ⟨arr', g1, g2, g3, g4⟩ := fill_seq z vs (k + 1) arr1 (fun u hu => hv u (by simp [hu])) (by
      rw [f2]
      have : (k + 1 + vs.length) * z = k * z + z + vs.length * z := by simp only [Nat.add_mul, Nat.one_mul]
      omega)
    refine ⟨arr', ?_, g2.trans f2, fun q hq => ?_, fun i j u hi hj => ?_⟩
    · rw [List.zipIdx_cons, List.map_cons]
      exact f1.trans g1
    · rw [g3 q (by rw [Nat.add_mul]; omega), f3 q, if_neg (by omega)]
    · cases i with
      | zero =>
        simp at hi
        subst hi
        rw [Nat.add_zero, g3 _ (by rw [Nat.add_mul]; omega), f3, if_pos (by omega), Nat.add_sub_cancel_left]
      | succ i =>
        simp only [List.getElem?_cons_succ] at hi
        have := g4 i j u hi hj
        rwa [show k + 1 + i = k + (i + 1) by omega] at this

theorem evL_length (T : Tm) : ∀ qs : List Opd, (evL T qs).length = qs.length
  | [] => rfl
  | q :: qs => by simp [evL, evL_length T qs]

theorem spartsL_zip {idm : FuncId → FuncId} : ∀ {ps : List (Nat × Operand)} {qs : List Opd} {k : Nat}, spartsL idm k ps qs = true → opdsL idm (ps.map (·.2)) qs = true ∧ ∀ (f : Operand → Value), (ps.map fun p => (p.1, f p.2)) = ((ps.map (·.2)).map f |>.zipIdx k |>.map fun (v, i) => (i, v))
  | [], [], k, _ => ⟨rfl, fun f => rfl⟩
  | (i, x) :: ps, y :: qs, k, h => by
    simp only [spartsL, Bool.and_eq_true, beq_iff_eq] at h
    obtain ⟨⟨rfl, h1⟩, h2⟩ := h
    obtain ⟨g1, g2⟩ := spartsL_zip h2
    refine ⟨by simp [opdsL, h1, g1], fun f => ?_⟩
    have := g2 f
    simp only [List.map_cons, List.zipIdx_cons, List.map_map] at this ⊢
    rw [this]
  | [], _ :: _, _, h => by simp [spartsL] at h
  | _ :: _, [], _, h => by simp [spartsL] at h

section
variable {idm : FuncId → FuncId} {m : NMap} {w : World} {W : Nat → Prop} {H : Hp}

/-- A new variable that nobody writes. -/
theorem Good.allocP (s : SimH idm m w W H) (v : AV) (o : Obj) : Good idm m w W H { v } m (w.alloc o) W where
  k := ⟨rfl, rfl, rfl, by simp, fun i hi _ => heap_alloc_old w o i hi⟩
  sub := fun _ _ h => h
  sup := fun _ _ h _ => h
  lt := fun i h => Nat.lt_of_lt_of_le (s.lt i h) (by simp)
  mm := fun _ _ _ => rfl
  up := fun x o h => by simp [hget] at h
  ups := fun x h => by simp [upNs] at h
  b1 := fun x o b h => by simp [hget] at h
  b2 := fun x y b h => by simp [upNs] at h
  pgu := fun x h => by simp at h
  ext := fun _ => rfl

/-- A slice of one's own in a new block. -/
theorem Good.row (s : SimH idm m w W H) {x0 : Nm} (hx0 : x0.isLoc = true) (hfr : hget H x0 = none) {ob : AObj} {l : Loc} {w' : World} (v : AV) (kp : Keep (fun _ => False) w w') (hn : ∀ y ∈ ob.names, (hget H y).isSome = true)
    (hb : ∀ q, l.base = some q → w.heap.size ≤ q) (hr : ORep idm (fun x => if x = x0 then l else m x) w' (fun j => W j ∨ (w.heap.size ≤ j ∧ j < w'.heap.size)) l ob) :
    Good idm m w W H { v, up := [(x0, some ob)] } (fun x => if x = x0 then l else m x) w' (fun j => W j ∨ (w.heap.size ≤ j ∧ j < w'.heap.size)) := by
  refine Good.fresh s _ kp (fun _ => Iff.rfl) (fun x hx => ?_) (fun k hk => ?_) (fun x hx => ?_) (fun x hx q hq => ?_) (fun x hx y hy q _ _ => ?_) (fun x hx => ?_) (fun x ob' ho => ?_)
  · simp [upNs] at hx; subst hx; exact hfr
  · simp [upNs] at hk; subst hk; simp [Nm.isLoc] at hx0
  · simp [upNs] at hx; simp [hx]
  · simp [upNs] at hx; subst hx; simp at hq; exact hb q hq
  · simp [upNs] at hx hy; rw [hx, hy]
  · simp [upNs] at hx; subst hx; exact ⟨ob, by simp [hget]⟩
  · simp only [hget] at ho
    split at ho
    · rename_i e
      subst e
      simp only [Option.some.injEq] at ho
      subst ho
      refine ⟨by simpa using hr, fun y hy => ?_⟩
      exact isSome_app (pg := none) (up := [(x0, some ob)]) (fun z hz => by simp [upNs] at hz; subst hz; exact ⟨ob, by simp [hget]⟩) (hn y hy)
    · cases ho
end

theorem pelems_get {H : Hp} {z : Nat} : ∀ {vs : List AV} {es : List PV}, pelems H z vs = some es → vs.length = es.length ∧ ∀ (i : Nat) (v : AV) (e : PV), vs[i]? = some v → es[i]? = some e → frz H v = some (.p e) ∧ e.cells.length = z
  | [], es, h => by simp only [pelems, Option.some.injEq] at h; subst h; exact ⟨rfl, fun i v e h => by simp at h⟩
  | v :: vs, es, h => by
    simp only [pelems] at h
    cases hv : pelem H z v with
    | none => simp [hv] at h
    | some e => cases hr : pelems H z vs with
      | none => simp [hv, hr] at h
      | some r =>
        simp only [hv, hr, Option.some.injEq] at h
        subst h
        obtain ⟨g1, g2⟩ := pelems_get hr
        refine ⟨by simp [g1], fun i u e' hi he => ?_⟩
        cases i with
        | zero =>
          simp at hi he
          subst hi; subst he
          unfold pelem at hv
          split at hv
          · rename_i q hq
            split at hv
            · simp only [Option.some.injEq] at hv; subst hv; rename_i hc; exact ⟨hq, hc⟩
            · cases hv
          · cases hv
        | succ i => simp at hi he; exact g2 i u e' hi he

theorem frzNs_one : ∀ {vs : List AV} {v : AV}, v ∈ vs → ∀ x ∈ frzNs [v], x ∈ frzNs vs
  | u :: vs, v, h, x, hx => by
    rcases List.mem_cons.1 h with rfl | h
    · cases v <;> simp [frzNs] at hx ⊢ <;> first | exact .inl hx | exact hx
    · have := frzNs_one h x hx
      cases u <;> simp only [frzNs, List.mem_append] <;> exact .inr this

section
variable {P : Program} {idm : FuncId → FuncId} {N : Nat} {m : NMap} {w : World} {W : Nat → Prop} {st : St} {a : Act} {o : Oper} (s : Sim idm N m w W st a)
include s

theorem run_bslice {t e : TypeId} {n z : Nat} {ps : Array (Nat × Operand)} {qs : List Opd} (ho : o.op = .buildSlice t n ps) (ht : P.underlying t = some (.slice e)) {zv : Value} (hz : zeroT P e = some zv) (hzv : zv.cells.size = z) (hS : sizeT P e = some z) (hz0 : 0 < z)
    (hn : n * z ≤ 16777216) (hq : n = qs.length) (hps : spartsL idm 0 ps.toList qs = true) (hsz : ∀ x ∈ ps.toList.map (·.2), (a.eval x).cells.size = z) :
    ∃ cells : Array Value, (execOp a.eval o).run P w = .ok (.value (.slice (some ⟨w.heap.size, 0, none⟩) n n)) (w.alloc (.cells cells e)) ∧ cells.size = n * z ∧
      ∀ (i j : Nat) (x : Operand), (ps.toList.map (·.2))[i]? = some x → j < z → cells[i * z + j]? = (a.eval x).cells[j]? := by
  obtain ⟨h1, h2⟩ := spartsL_zip hps
  have hlen : (ps.toList.map (·.2)).length = n := by rw [hq]; rw [(opdsL_rep (N := N) s h1).1, evL_length]
  have hr0 : ((Array.range (n * z)).map (zv.cells[· % zv.cells.size]!)).size = n * z := by simp
  obtain ⟨arr', f1, f2, f3, f4⟩ := fill_seq z ((ps.toList.map (·.2)).map a.eval) 0 ((Array.range (n * z)).map (zv.cells[· % zv.cells.size]!)) (fun v hv => by
    obtain ⟨x, hx, rfl⟩ := List.mem_map.1 hv
    exact hsz x hx) (by rw [hr0, List.length_map, hlen]; simp)
  refine ⟨arr', ?_, by rw [f2, hr0], fun i j x hi hj => ?_⟩
  · obtain ⟨ti, hti, hzz⟩ := Option.bind_eq_some_iff.1 hz
    have hn' : ¬ (16777216 < n * z) := by omega
    simp only [execOp, ho, Instr.buildSlice, Sem.run_bind, run_underlying ht, run_sizeT hS, Result.andThen_ok, Nat.reducePow, gt_iff_lt, hn', if_false, Sem.run_pure]
    simp [newRow]
    split
    · rename_i h0
      have hf : Instr.fill (fun i => some (i * z, z)) ((Array.range (n * z)).map (fun x => default)) (ps.toList.map fun x => (x.fst, a.eval x.snd)) = some arr' := by
        rw [h2 a.eval, ← f1]; congr 1; simp [h0]
      rw [hf]
      simp
    · rename_i h0
      have hf : Instr.fill (fun i => some (i * z, z)) ((Array.range (n * z)).map (fun x => zv.cells[x % zv.cells.size]!)) (ps.toList.map fun x => (x.fst, a.eval x.snd)) = some arr' := by
        rw [h2 a.eval, ← f1]
      simp [zeroValue, typeInfo, hti, hzz, hf]
  · have := f4 i j (a.eval x) (by rw [List.getElem?_map, hi]; rfl) hj
    simpa using this

theorem ok_bslice (r i : Nat) {own : Bool} {t e : TypeId} {n z : Nat} {ps : Array (Nat × Operand)} {qs : List Opd} (ho : o.op = .buildSlice t n ps) (ht : P.underlying t = some (.slice e)) {zv : Value} (hz : zeroT P e = some zv) (hzv : zv.cells.size = z) (hS : sizeT P e = some z) (hz0 : 0 < z)
    (hn : n * z ≤ 16777216) (hq : n = qs.length) (hps : spartsL idm 0 ps.toList qs = true) {es : List PV} (hes : pelems st.H z (evL st.T qs) = some es) :
    OpOK P idm m w W st.H o a { v := .p (.sl z es), up := frzUp st.H (frzNs (evL st.T qs)) } ∧
    ((hget st.H (.loc r i 0)).isNone = true → OpOK P idm m w W st.H o a { v := .hsl (.loc r i 0) 0 es.length, up := (.loc r i 0, some (.parr es z false)) :: frzUp st.H (frzNs (evL st.T qs)) }) := by
  obtain ⟨h1, h2⟩ := spartsL_zip hps
  obtain ⟨g1, g2, g3⟩ := opdsL_rep s h1
  obtain ⟨p1, p2⟩ := pelems_get hes
  have gz := Good.freeze s.toSimH (frzNs (evL st.T qs)) (.undef)
  have s1 : SimH idm m w (Wf m st.H (frzNs (evL st.T qs)) W) (frzUp st.H (frzNs (evL st.T qs)) ++ st.H) := gz.simH s.toSimH
  have hev : (evL st.T qs).length = n := by rw [hq, evL_length]
  have hes1 : es.length = n := by omega
  -- each part
  have hrep : ∀ (i : Nat) (x : Operand) (e : PV), (ps.toList.map (·.2))[i]? = some x → es[i]? = some e → PRep w (Wf m st.H (frzNs (evL st.T qs)) W) e (a.eval x) ∧ e.cells.length = z := by
    intro i x e hx he
    have hlt := (List.getElem?_eq_some_iff.1 he).1
    have hv := List.getElem?_eq_getElem (show i < (evL st.T qs).length by omega)
    obtain ⟨q1, q2⟩ := p2 i _ e hv he
    have hr := g2 i _ (a.eval x) hv (by rw [List.getElem?_map, hx]; rfl)
    have := (frz_rep s.toSimH hr q1 (ns := frzNs (evL st.T qs)) (frzNs_one (List.mem_of_getElem? hv))).1
    cases this with | p _ _ h => exact ⟨h, q2⟩
  have hsz : ∀ x ∈ ps.toList.map (·.2), (a.eval x).cells.size = z := by
    intro x hx
    obtain ⟨i, hi⟩ := List.mem_iff_getElem?.1 hx
    have hlt := (List.getElem?_eq_some_iff.1 hi).1
    have he := List.getElem?_eq_getElem (show i < es.length by omega)
    obtain ⟨q1, q2⟩ := hrep i x _ hi he
    rw [q1.cells.1, q2]
  obtain ⟨cells, hrun, c1, c2⟩ := run_bslice s ho ht hz hzv hS hz0 hn hq hps hsz
  have hfl : ∀ e ∈ es, e.cells.length = z ∧ ∀ c ∈ e.cells, c.flat = true := by
    intro e he
    obtain ⟨i, hi⟩ := List.mem_iff_getElem?.1 he
    have hlt := (List.getElem?_eq_some_iff.1 hi).1
    have hx := List.getElem?_eq_getElem (show i < (ps.toList.map (·.2)).length by omega)
    obtain ⟨q1, q2⟩ := hrep i _ e hx hi
    exact ⟨q2, q1.cells.2.1⟩
  have hcell : ∀ (i j : Nat) (e c : PV), es[i]? = some e → e.cells[j]? = some c → ∃ u, cells[i * z + j]? = some u ∧ PRep w (Wf m st.H (frzNs (evL st.T qs)) W) c u := by
    intro i j e c hi hj
    have hlt := (List.getElem?_eq_some_iff.1 hi).1
    have hx := List.getElem?_eq_getElem (show i < (ps.toList.map (·.2)).length by omega)
    obtain ⟨q1, q2⟩ := hrep i _ e hx hi
    have hjz : j < z := by have := (List.getElem?_eq_some_iff.1 hj).1; omega
    have hu := Array.getElem?_eq_getElem (show j < (a.eval ((ps.toList.map (·.2))[i])).cells.size by rw [q1.cells.1, q2]; exact hjz)
    exact ⟨_, (c2 i j _ hx hjz).trans hu, q1.cells.2.2 j c _ hj hu⟩
  have ka : Keep (fun _ => False) w (w.alloc (.cells cells e)) := keep_alloc w _
  have hone : ∀ v ∈ cells, v.oneCell' = true := by
    intro v hv
    obtain ⟨q, hq'⟩ := Array.mem_iff_getElem?.1 hv
    have hlt := (Array.getElem?_eq_some_iff.1 hq').1
    obtain ⟨i, j, hi, hj, rfl⟩ := idx_split (c1 ▸ hlt)
    have he := List.getElem?_eq_getElem (show i < es.length by omega)
    obtain ⟨l1, l2⟩ := hfl _ (List.mem_of_getElem? he)
    have hc := List.getElem?_eq_getElem (show j < (es[i]).cells.length by omega)
    obtain ⟨u, hu, hp⟩ := hcell i j _ _ he hc
    rw [hq'] at hu
    cases hu
    exact (hp.flat_one (l2 _ (List.mem_of_getElem? hc))).1
  refine ⟨⟨_, _, m, _, .inl hrun, Good.comp s.toSimH gz (u2 := []) (Good.allocP s1 (.p (.sl z es)) _), ?_, by simp [AV.names]⟩, fun hfr => ⟨_, _, _, _, .inl hrun, Good.comp s.toSimH gz (u2 := [(.loc r i 0, some (.parr es z false))])
    (Good.row s1 rfl ?_ (l := ⟨some w.heap.size, n, z⟩) _ ka (by simp [AObj.names]) (fun q h => by cases h; exact Nat.le_refl _) ⟨rfl, hfl, .inr ⟨w.heap.size, cells, e, rfl, heap_alloc_new w _, c1, (by show es.length ≤ n; omega), ?_, hone, ?_, fun _ => .inr ⟨Nat.le_refl _, by simp⟩, fun h => by cases h⟩⟩), ?_, ?_⟩⟩
  · refine .p _ _ (.sl z es _ n n ⟨w.heap.size, 0, none⟩ (fun i j => cells.getD (i * z + j) undef) hes1 (Nat.le_refl _) hfl (fun _ => ⟨rfl, fun hW => Nat.lt_irrefl _ (s.lt _ hW.1), by simp⟩) (fun i j e' c hi hj => ?_) fun i j e' c hi hj => ?_)
    · obtain ⟨u, hu, _⟩ := hcell i j e' c hi hj
      rw [add_at, cell_of_row _ _ _ cells e (0, 0) (heap_alloc_new w _)]
      simp [hu, Array.getD_eq_getD_getElem?]
    · obtain ⟨u, hu, hp⟩ := hcell i j e' c hi hj
      simp only [Array.getD_eq_getD_getElem?, hu, Option.getD_some]
      exact hp.keep ka (fun _ h => h.elim) fun _ _ h => h
  · rw [hget_append]
    split
    · rename_i hm
      obtain ⟨ob, hob⟩ := ups_frzUp hm
      obtain ⟨_, _, _, hx, _, _⟩ := hget_frzUp hob
      rw [Option.isNone_iff_eq_none.1 hfr] at hx; cases hx
    · exact Option.isNone_iff_eq_none.1 hfr
  · have : n * 1 ≤ n * z := Nat.mul_le_mul_left n hz0
    simp only [maxLen]; omega
  · intro i j e' c v hi hj hv
    obtain ⟨u, hu, hp⟩ := hcell i j e' c hi hj
    rw [hv] at hu
    cases hu
    exact hp.keep ka (fun _ h => h.elim) fun i hi h => by rcases h with h | ⟨h, _⟩ <;> first | exact h | omega
  · rw [hes1]
    exact .hsl _ 0 n _ n (by simp [HslOK]) (Nat.le_refl _)
  · intro y hy
    simp [AV.names] at hy
    subst hy
    simp [hget]

theorem ok_barr (r i : Nat) {own : Bool} {t e : TypeId} {n : Nat} {ps : Array (Nat × Operand)} {qs : List Opd} (ho : o.op = .buildSlice t n ps) (ht : P.underlying t = some (.slice e)) {zv : Value} (hz : zeroT P e = some zv) (hzv : zv.cells.size = 1) (hS : sizeT P e = some 1)
    (hn : n * 1 ≤ 16777216) (hq : n = qs.length) (hps : spartsL idm 0 ps.toList qs = true) (hok : (evL st.T qs).all okArr = true) (hfr : (hget st.H (.loc r i 0)).isNone = true) :
    OpOK P idm m w W st.H o a { v := .hsl (.loc r i 0) 0 qs.length, up := [(.loc r i 0, some (.arr (evL st.T qs)))] } := by
  obtain ⟨h1, h2⟩ := spartsL_zip hps
  obtain ⟨g1, g2, g3⟩ := opdsL_rep s h1
  have hev : (evL st.T qs).length = n := by rw [hq, evL_length]
  have hokf : ∀ v ∈ evL st.T qs, v.flat = true ∧ v ≠ .undef := by
    intro v hv
    have := List.all_eq_true.1 hok v hv
    cases v <;> simp [okArr] at this <;> exact ⟨rfl, by simp⟩
  have hrep : ∀ (i : Nat) (x : Operand) (v : AV), (ps.toList.map (·.2))[i]? = some x → (evL st.T qs)[i]? = some v → Rep idm m w W v (a.eval x) ∧ (a.eval x).cells = #[a.eval x] ∧ (a.eval x).oneCell' = true := by
    intro i x v hx hv
    have hr := g2 i _ (a.eval x) hv (by rw [List.getElem?_map, hx]; rfl)
    obtain ⟨f1, f2⟩ := hokf v (List.mem_of_getElem? hv)
    exact ⟨hr, (hr.flat_one f1 f2).2, (hr.flat_one f1 f2).1⟩
  have hsz : ∀ x ∈ ps.toList.map (·.2), (a.eval x).cells.size = 1 := by
    intro x hx
    obtain ⟨i, hi⟩ := List.mem_iff_getElem?.1 hx
    have hlt := (List.getElem?_eq_some_iff.1 hi).1
    have he := List.getElem?_eq_getElem (show i < (evL st.T qs).length by omega)
    rw [(hrep i x _ hi he).2.1]; rfl
  obtain ⟨cells, hrun, c1, c2⟩ := run_bslice s ho ht hz hzv hS (by omega) hn hq hps hsz
  have hcell : ∀ (i : Nat) (v : AV), (evL st.T qs)[i]? = some v → ∃ u, cells[i]? = some u ∧ Rep idm m w W v u ∧ u.oneCell' = true := by
    intro i v hi
    have hlt := (List.getElem?_eq_some_iff.1 hi).1
    have hx := List.getElem?_eq_getElem (show i < (ps.toList.map (·.2)).length by omega)
    obtain ⟨q1, q2, q3⟩ := hrep i _ v hx hi
    have := c2 i 0 _ hx (by omega)
    rw [q2] at this
    exact ⟨_, by simpa using this, q1, q3⟩
  have ka : Keep (fun _ => False) w (w.alloc (.cells cells e)) := keep_alloc w _
  refine ⟨_, _, _, _, .inl hrun, Good.row s.toSimH rfl (Option.isNone_iff_eq_none.1 hfr) (l := ⟨some w.heap.size, n, 1⟩) _ ka (fun y hy => g3 y (by simpa [AObj.names] using hy)) (fun q h => by cases h; exact Nat.le_refl _)
    ⟨rfl, w.heap.size, cells, e, rfl, heap_alloc_new w _, by rw [c1, hev]; omega, hev.symm, fun v hv => (hokf v hv).1, fun v hv => ?_, fun k v u hk hu => ?_, .inr ⟨Nat.le_refl _, by simp⟩⟩, ?_, ?_⟩
  · obtain ⟨k, hk⟩ := Array.mem_iff_getElem?.1 hv
    have hlt := (Array.getElem?_eq_some_iff.1 hk).1
    obtain ⟨u, hu, _, h1⟩ := hcell k _ (List.getElem?_eq_getElem (show k < (evL st.T qs).length by omega))
    rw [hk] at hu; cases hu; exact h1
  · obtain ⟨u', hu', h1, _⟩ := hcell k v hk
    rw [hu] at hu'
    cases hu'
    refine h1.keep ka (fun _ h => h.elim) (fun i hi h => by rcases h with h | ⟨h, _⟩ <;> first | exact h | omega) fun x hx => ?_
    have hne : x ≠ .loc r i 0 := fun e => by
      have := g3 x (mem_namesL.2 ⟨v, List.mem_of_getElem? hk, hx⟩)
      rw [e, Option.isNone_iff_eq_none.1 hfr] at this; cases this
    simp [hne]
  · rw [← hq]
    exact .hsl _ 0 n _ n (by simp [HslOK]) (Nat.le_refl _)
  · intro y hy
    simp [AV.names] at hy
    subst hy
    simp [hget]

theorem ok_mkslice (r i : Nat) {t e : TypeId} {l c : Operand} {n' : Opd} {zp : PV} (ho : o.op = .makeSlice t l c) (ht : P.underlying t = some (.slice e)) {ti : TypeInfo} (hi : P.info? e = some ti) (hby : ti.bytes ≤ 65536) {zv : Value} (hz : ti.zero = some zv) (hzp : valL zv zp = true)
    (hsz : ti.size = zp.cells.length) (hl : opdL idm l n' = true) (hc : opdL idm c n' = true) {n : Nat} (hn : natOf (ev st.T n') most = some n) (hfr : (hget st.H (.loc r i 0)).isNone = true) :
    OpOK P idm m w W st.H o a { v := .hsl (.loc r i 0) 0 n, up := [(.loc r i 0, some (.parr (List.replicate n zp) zp.cells.length false))] } := by
  obtain ⟨g1, _⟩ := opdL_rep hl s
  obtain ⟨g2, _⟩ := opdL_rep hc s
  unfold natOf at hn
  split at hn
  · rename_i k ii hv
    rw [hv] at g1 g2
    split at hn
    · rename_i hb
      simp only [Option.some.injEq] at hn
      obtain ⟨n2, rfl⟩ := Int.eq_ofNat_of_zero_le hb.1
      simp at hn
      subst hn
      have e1 := g1.int_inv
      have e2 := g2.int_inv
      have hnm : n2 ≤ most := by have := hb.2; omega
      have hmx := maxLen_ge
      have hby2 : ti.bytes * n2 ≤ 281474976710656 := by
        have := Nat.mul_le_mul hby (show n2 ≤ 2147483648 by simpa only [most] using hnm)
        omega
      have hb' : (ti.bytes : Int) * (n2 : Int) ≤ 281474976710656 := by
        have h : ((ti.bytes * n2 : Nat) : Int) ≤ 281474976710656 := by omega
        rwa [Int.natCast_mul] at h
      have hm : n2 ≤ maxLen := by omega
      have hr := run_make (P := P) w t e ti zv ht hi hz k k n2 n2 (by omega) (Int.le_refl _) hb' (by simp only [maxLen] at hm; omega)
      simp only [Int.toNat_natCast] at hr
      have hzr := (valL_rep hzp w (fun j => W j ∨ (w.heap.size ≤ j ∧ j < (w.alloc (.cells (madeCells zv.cells (n2 * ti.size)) e)).heap.size))).cells
      have ka : Keep (fun _ => False) w (w.alloc (.cells (madeCells zv.cells (n2 * ti.size)) e)) := keep_alloc w _
      have hcg : ∀ {q : Nat} {u : Value}, (madeCells zv.cells (n2 * ti.size))[q]? = some u → q < n2 * ti.size ∧ zv.cells[q % zv.cells.size]? = some u := by
        intro q u hq
        have hlt : q < n2 * ti.size := by have := (Array.getElem?_eq_some_iff.1 hq).1; simpa [madeCells] using this
        have hz0 : 0 < ti.size := by
          rcases Nat.eq_zero_or_pos ti.size with h0 | h0
          · rw [h0] at hlt; simp at hlt
          · exact h0
        simp [madeCells, hlt] at hq
        have hm := Nat.mod_lt q (show 0 < zv.cells.size by rw [hzr.1, ← hsz]; exact hz0)
        rw [getElem!_pos zv.cells _ hm] at hq
        exact ⟨hlt, by rw [← hq]; exact Array.getElem?_eq_getElem hm⟩
      have hzw := (valL_rep hzp w W).cells
      have := ok_row (P := P) (o := o) s (.loc r i 0) ⟨r, i, 0, rfl⟩ (Option.isNone_iff_eq_none.1 hfr) (es := List.replicate n2 zp) (z := zp.cells.length) (b := some w.heap.size) (cap := n2)
        (w' := w.alloc (.cells (madeCells zv.cells (n2 * ti.size)) e)) (v := .slice (some ⟨w.heap.size, 0, none⟩) n2 n2)
        (by simp [execOp, ho, e1, e2, hr]) ka (fun m' hm => by rw [List.length_replicate]; exact .hsl _ 0 n2 _ _ (by rw [hm]; simp [HslOK]) (Nat.le_refl _)) (fun q h => by cases h; exact Nat.le_refl _)
        ⟨rfl, fun e he => by rw [List.eq_of_mem_replicate he]; exact ⟨rfl, hzr.2.1⟩, .inr ⟨w.heap.size, _, e, rfl, heap_alloc_new w _, by rw [size_madeCells, hsz], by simp, hm, fun v hv => ?_, fun i j e' a' v hi hj hv => ?_, fun _ => .inr ⟨Nat.le_refl _, by simp⟩, fun h => by cases h⟩⟩
      · rw [List.length_replicate] at this; exact this
      · obtain ⟨q, hq⟩ := Array.mem_iff_getElem?.1 hv
        obtain ⟨_, h2⟩ := hcg hq
        have hx := List.getElem?_eq_getElem (show q % zv.cells.size < zp.cells.length by rw [← hzr.1]; exact (Array.getElem?_eq_some_iff.1 h2).1)
        exact ((hzr.2.2 _ _ _ hx h2).flat_one (hzr.2.1 _ (List.mem_of_getElem? hx))).1
      · have he : e' = zp := List.eq_of_mem_replicate (List.mem_of_getElem? hi)
        subst he
        obtain ⟨_, h2⟩ := hcg hv
        have hjz : j < e'.cells.length := (List.getElem?_eq_some_iff.1 hj).1
        rw [hzr.1, Nat.mul_comm, Nat.mul_add_mod, Nat.mod_eq_of_lt hjz] at h2
        exact ((hzr.2.2 j a' v hj h2)).keep ka (fun _ h => h.elim) fun i hi h => by rcases h with h | ⟨h, _⟩ <;> first | exact .inl h | omega
    · cases hn
  · cases hn
end
end Go.Ab
