/- A part of the proof: an executor over plain data, shown sound for the model, and what it computes of the functions. -/
import Derived.Test.YtmnjnpgmenigiaaOpApp
set_option linter.all false
/-! Slice literals; make. -/
set_option linter.unusedVariables false
set_option linter.unusedSimpArgs false
set_option linter.unusedSectionVars false
namespace Go.Ab
open Go

/-- Parts of one size, one behind the other. -/
theorem fill_seq (z : Nat) : ∀ (vs : List Value) (k : Nat) (arr : Array Value), (∀ v ∈ vs, v.cells.size = z) → (k + vs.length) * z ≤ arr.size →
    ∃ arr', Instr.fill (fun i => some (i * z, z)) arr (vs.zipIdx k |>.map fun (v, i) => (i, v)) = some arr' ∧ arr'.size = arr.size ∧
      (∀ q, q < k * z → arr'[q]? = arr[q]?) ∧ ∀ (i j : Nat) (v : Value), vs[i]? = some v → j < z → arr'[(k + i) * z + j]? = v.cells[j]?
  | [], k, arr, _, _ => ⟨arr, rfl, rfl, fun _ _ => rfl, fun i j v h => by simp at h⟩
  | v :: vs, k, arr, hv, hl => by
    have hvz := hv v (by simp)
    have e0 : (k + (v :: vs).length) * z = k * z + z + vs.length * z := by
      simp only [List.length_cons, Nat.add_mul, Nat.one_mul]; omega
    obtain ⟨arr1, f1, f2, f3⟩ := fill_cons (fun i => some (i * z, z)) arr k v ((vs.zipIdx (k + 1)).map fun (v, i) => (i, v)) (off := k * z) (by rw [hvz]) (by rw [hvz]; omega)
    obtain ⟨arr', g1, g2, g3, g4⟩ := fill_seq z vs (k + 1) arr1 (fun u hu => hv u (by simp [hu])) (by
      rw [f2]
      have : (k + 1 + vs.length) * z = k * z + z + vs.length * z := by simp only [Nat.add_mul, Nat.one_mul]
      omega)
    refine ⟨arr', ?_, g2.trans f2, fun q hq => ?_, fun i j u hi hj => ?_⟩
    · rw [List.zipIdx_cons, List.map_cons]
      exact f1.trans g1
    · rw [g3 q (by rw [Nat.add_mul]; omega), f3 q, if_neg (by omega)]
    · cases i with
      | zero =>
        simp at hi
        subst hi
        rw [Nat.add_zero, g3 _ (by rw [Nat.add_mul]; omega), f3, if_pos (by omega), Nat.add_sub_cancel_left]
      | succ i =>
        simp only [List.getElem?_cons_succ] at hi
        have := g4 i j u hi hj
        rwa [show k + 1 + i = k + (i + 1) by omega] at this

theorem evL_length (T : Tm) : ∀ qs : List Opd, (evL T qs).length = qs.length
  | [] => rfl
  | q :: qs => by simp [evL, evL_length T qs]

theorem spartsL_zip {idm : FuncId → FuncId} : ∀ {ps : List (Nat × Operand)} {qs : List Opd} {k : Nat}, spartsL idm k ps qs = true → opdsL idm (ps.map (·.2)) qs = true ∧ ∀ (f : Operand → Value), (ps.map fun p => (p.1, f p.2)) = ((ps.map (·.2)).map f |>.zipIdx k |>.map fun (v, i) => (i, v))
  | [], [], k, _ => ⟨rfl, fun f => rfl⟩
  | (i, x) :: ps, y :: qs, k, h => by
    simp only [spartsL, Bool.and_eq_true, beq_iff_eq] at h
    obtain ⟨⟨rfl, h1⟩, h2⟩ := h
    obtain ⟨g1, g2⟩ := spartsL_zip h2
    refine ⟨by simp [opdsL, h1, g1], fun f => ?_⟩
    have := g2 f
    simp only [List.map_cons, List.zipIdx_cons, List.map_map] at this ⊢
    rw [this]
  | [], _ :: _, _, h => by simp [spartsL] at h
  | _ :: _, [], _, h => by simp [spartsL] at h

section
variable {idm : FuncId → FuncId} {m : NMap} {w : World} {W : Nat → Prop} {H : Hp}

/-- A new variable that nobody writes. -/
theorem Good.allocP (s : SimH idm m w W H) (v : AV) (o : Obj) : Good idm m w W H { v } m (w.alloc o) W where
  k := ⟨rfl, rfl, rfl, by simp, fun i hi _ => heap_alloc_old w o i hi⟩
  sub := fun _ _ h => h
  sup := fun _ _ h _ => h
  lt := fun i h => Nat.lt_of_lt_of_le (s.lt i h) (by simp)
  mm := fun _ _ _ => rfl
  up := fun x o h => by simp [hget] at h
  ups := fun x h => by simp [upNs] at h
  b1 := fun x o b h => by simp [hget] at h
  b2 := fun x y b h => by simp [upNs] at h
  pgu := fun x h => by simp at h
  ext := fun _ => rfl

/-- A slice of one's own in a new block. -/
theorem Good.row (s : SimH idm m w W H) {x0 : Nm} (hx0 : x0.isLoc = true) (hfr : hget H x0 = none) {ob : AObj} {l : Loc} {w' : World} (v : AV) (kp : Keep (fun _ => False) w w') (hn : ∀ y ∈ ob.names, (hget H y).isSome = true)
    (hb : ∀ q, l.base = some q → w.heap.size ≤ q) (hr : ORep idm (fun x => if x = x0 then l else m x) w' (fun j => W j ∨ (w.heap.size ≤ j ∧ j < w'.heap.size)) l ob) :
    Good idm m w W H { v, up := [(x0, some ob)] } (fun x => if x = x0 then l else m x) w' (fun j => W j ∨ (w.heap.size ≤ j ∧ j < w'.heap.size)) := by
  refine Good.fresh s _ kp (fun _ => Iff.rfl) (fun x hx => ?_) (fun k hk => ?_) (fun x hx => ?_) (fun x hx q hq => ?_) (fun x hx y hy q _ _ => ?_) (fun x hx => ?_) (fun x ob' ho => ?_)
  · simp [upNs] at hx; subst hx; exact hfr
  · simp [upNs] at hk; subst hk; simp [Nm.isLoc] at hx0
  · simp [upNs] at hx; simp [hx]
  · simp [upNs] at hx; subst hx; simp at hq; exact hb q hq
  · simp [upNs] at hx hy; rw [hx, hy]
  · simp [upNs] at hx; subst hx; exact ⟨ob, by simp [hget]⟩
  · simp only [hget] at ho
    split at ho
    · rename_i e
      subst e
      simp only [Option.some.injEq] at ho
      subst ho
      refine ⟨by simpa using hr, fun y hy => ?_⟩
      exact isSome_app (pg := none) (up := [(x0, some ob)]) (fun z hz => by simp [upNs] at hz; subst hz; exact ⟨ob, by simp [hget]⟩) (hn y hy)
    · cases ho
end

theorem pelems_get {H : Hp} {z : Nat} : ∀ {vs : List AV} {es : List PV}, pelems H z vs = some es → vs.length = es.length ∧ ∀ (i : Nat) (v : AV) (e : PV), vs[i]? = some v → es[i]? = some e → frz H v = some (.p e) ∧ e.cells.length = z
  | [], es, h => by simp only [pelems, Option.some.injEq] at h; subst h; exact ⟨rfl, fun i v e h => by simp at h⟩
  | v :: vs, es, h => by
    simp only [pelems] at h
    cases hv : pelem H z v with
    | none => simp [hv] at h
    | some e => cases hr : pelems H z vs with
      | none => simp [hv, hr] at h
      | some r =>
        simp only [hv, hr, Option.some.injEq] at h
        subst h
        obtain ⟨g1, g2⟩ := pelems_get hr
        refine ⟨by simp [g1], fun i u e' hi he => ?_⟩
        cases i with
        | zero =>
          simp at hi he
          subst hi; subst he
          unfold pelem at hv
          split at hv
          · rename_i q hq
            split at hv
            · simp only [Option.some.injEq] at hv; subst hv; rename_i hc; exact ⟨hq, hc⟩
            · cases hv
          · cases hv
        | succ i => simp at hi he; exact g2 i u e' hi he

theorem frzNs_one : ∀ {vs : List AV} {v : AV}, v ∈ vs → ∀ x ∈ frzNs [v], x ∈ frzNs vs
  | u :: vs, v, h, x, hx => by
    rcases List.mem_cons.1 h with rfl | h
    · cases v <;> simp [frzNs] at hx ⊢ <;> first | exact .inl hx | exact hx
    · have := frzNs_one h x hx
      cases u <;> simp only [frzNs, List.mem_append] <;> exact .inr this

section
variable {P : Program} {idm : FuncId → FuncId} {N : Nat} {m : NMap} {w : World} {W : Nat → Prop} {st : St} {a : Act} {o : Oper} (s : Sim idm N m w W st a)
include s

theorem run_bslice {t e : TypeId} {n z : Nat} {ps : Array (Nat × Operand)} {qs : List Opd} (ho : o.op = .buildSlice t n ps) (ht : P.underlying t = some (.slice e)) {zv : Value} (hz : zeroT P e = some zv) (hzv : zv.cells.size = z) (hS : sizeT P e = some z) (hz0 : 0 < z)
    (hn : n * z ≤ 16777216) (hq : n = qs.length) (hps : spartsL idm 0 ps.toList qs = true) (hsz : ∀ x ∈ ps.toList.map (·.2), (a.eval x).cells.size = z) :
    ∃ cells : Array Value, (execOp a.eval o).run P w = .ok (.value (.slice (some ⟨w.heap.size, 0, none⟩) n n)) (w.alloc (.cells cells e)) ∧ cells.size = n * z ∧
      ∀ (i j : Nat) (x : Operand), (ps.toList.map (·.2))[i]? = some x → j < z → cells[i * z + j]? = (a.eval x).cells[j]? := by
  obtain ⟨h1, h2⟩ := spartsL_zip hps
  have hlen : (ps.toList.map (·.2)).length = n := by rw [hq]; rw [(opdsL_rep (N := N) s h1).1, evL_length]
  have hr0 : ((Array.range (n * z)).map (zv.cells[· % zv.cells.size]!)).size = n * z := by simp
  obtain ⟨arr', f1, f2, f3, f4⟩ := fill_seq z ((ps.toList.map (·.2)).map a.eval) 0 ((Array.range (n * z)).map (zv.cells[· % zv.cells.size]!)) (fun v hv => by
    obtain ⟨x, hx, rfl⟩ := List.mem_map.1 hv
    exact hsz x hx) (by rw [hr0, List.length_map, hlen]; simp)
  refine ⟨arr', ?_, by rw [f2, hr0], fun i j x hi hj => ?_⟩
  · obtain ⟨ti, hti, hzz⟩ := Option.bind_eq_some_iff.1 hz
    have hn' : ¬ (16777216 < n * z) := by omega
    simp only [execOp, ho, Instr.buildSlice, Sem.run_bind, run_underlying ht, run_sizeT hS, Result.andThen_ok, Nat.reducePow, gt_iff_lt, hn', if_false, Sem.run_pure]
    simp [newRow]
    split
    · rename_i h0
      have hf : Instr.fill (fun i => some (i * z, z)) ((Array.range (n * z)).map (fun x => default)) (ps.toList.map fun x => (x.fst, a.eval x.snd)) = some arr' := by
        rw [h2 a.eval, ← f1]; congr 1; simp [h0]
      rw [hf]
      simp
    · rename_i h0
      have hf : Instr.fill (fun i => some (i * z, z)) ((Array.range (n * z)).map (fun x => zv.cells[x % zv.cells.size]!)) (ps.toList.map fun x => (x.fst, a.eval x.snd)) = some arr' := by
        rw [h2 a.eval, ← f1]
      simp [zeroValue, typeInfo, hti, hzz, hf]
  · have := f4 i j (a.eval x) (by rw [List.getElem?_map, hi]; rfl) hj
    simpa using this

theorem ok_bslice (r i : Nat) {own : Bool} {t e : TypeId} {n z : Nat} {ps : Array (Nat × Operand)} {qs : List Opd} (ho : o.op = .buildSlice t n ps) (ht : P.underlying t = some (.slice e)) {zv : Value} (hz : zeroT P e = some zv) (hzv : zv.cells.size = z) (hS : sizeT P e = some z) (hz0 : 0 < z)
    (hn : n * z ≤ 16777216) (hq : n = qs.length) (hps : spartsL idm 0 ps.toList qs = true) {es : List PV} (hes : pelems st.H z (evL st.T qs) = some es) :
    OpOK P idm m w W st.H o a { v := .p (.sl z es), up := frzUp st.H (frzNs (evL st.T qs)) } ∧
    ((hget st.H (.loc r i 0)).isNone = true → OpOK P idm m w W st.H o a { v := .hsl (.loc r i 0) 0 es.length, up := (.loc r i 0, some (.parr es z false)) :: frzUp st.H (frzNs (evL st.T qs)) }) := by
  obtain ⟨h1, h2⟩ := spartsL_zip hps
  obtain ⟨g1, g2, g3⟩ := opdsL_rep s h1
  obtain ⟨p1, p2⟩ := pelems_get hes
  have gz := Good.freeze s.toSimH (frzNs (evL st.T qs)) (.undef)
  have s1 : SimH idm m w (Wf m st.H (frzNs (evL st.T qs)) W) (frzUp st.H (frzNs (evL st.T qs)) ++ st.H) := gz.simH s.toSimH
  have hev : (evL st.T qs).length = n := by rw [hq, evL_length]
  have hes1 : es.length = n := by omega
  -- each part
  have hrep : ∀ (i : Nat) (x : Operand) (e : PV), (ps.toList.map (·.2))[i]? = some x → es[i]? = some e → PRep w (Wf m st.H (frzNs (evL st.T qs)) W) e (a.eval x) ∧ e.cells.length = z := by
    intro i x e hx he
    have hlt := (List.getElem?_eq_some_iff.1 he).1
    have hv := List.getElem?_eq_getElem (show i < (evL st.T qs).length by omega)
    obtain ⟨q1, q2⟩ := p2 i _ e hv he
    have hr := g2 i _ (a.eval x) hv (by rw [List.getElem?_map, hx]; rfl)
    have := (frz_rep s.toSimH hr q1 (ns := frzNs (evL st.T qs)) (frzNs_one (List.mem_of_getElem? hv))).1
    cases this with | p _ _ h => exact ⟨h, q2⟩
  have hsz : ∀ x ∈ ps.toList.map (·.2), (a.eval x).cells.size = z := by
    intro x hx
    obtain ⟨i, hi⟩ := List.mem_iff_getElem?.1 hx
    have hlt := (List.getElem?_eq_some_iff.1 hi).1
    have he := List.getElem?_eq_getElem (show i < es.length by omega)
    obtain ⟨q1, q2⟩ := hrep i x _ hi he
    rw [q1.cells.1, q2]
  obtain ⟨cells, hrun, c1, c2⟩ := run_bslice s ho ht hz hzv hS hz0 hn hq hps hsz
  have hfl : ∀ e ∈ es, e.cells.length = z ∧ ∀ c ∈ e.cells, c.flat = true := by
    intro e he
    obtain ⟨i, hi⟩ := List.mem_iff_getElem?.1 he
    have hlt := (List.getElem?_eq_some_iff.1 hi).1
    have hx := List.getElem?_eq_getElem (show i < (ps.toList.map (·.2)).length by omega)
    obtain ⟨q1, q2⟩ := hrep i _ e hx hi
    exact ⟨q2, q1.cells.2.1⟩
  have hcell : ∀ (i j : Nat) (e c : PV), es[i]? = some e → e.cells[j]? = some c → ∃ u, cells[i * z + j]? = some u ∧ PRep w (Wf m st.H (frzNs (evL st.T qs)) W) c u := by
    intro i j e c hi hj
    have hlt := (List.getElem?_eq_some_iff.1 hi).1
    have hx := List.getElem?_eq_getElem (show i < (ps.toList.map (·.2)).length by omega)
    obtain ⟨q1, q2⟩ := hrep i _ e hx hi
    have hjz : j < z := by have := (List.getElem?_eq_some_iff.1 hj).1; omega
    have hu := Array.getElem?_eq_getElem (show j < (a.eval ((ps.toList.map (·.2))[i])).cells.size by rw [q1.cells.1, q2]; exact hjz)
    exact ⟨_, (c2 i j _ hx hjz).trans hu, q1.cells.2.2 j c _ hj hu⟩
  have ka : Keep (fun _ => False) w (w.alloc (.cells cells e)) := keep_alloc w _
  have hone : ∀ v ∈ cells, v.oneCell' = true := by
    intro v hv
    obtain ⟨q, hq'⟩ := Array.mem_iff_getElem?.1 hv
    have hlt := (Array.getElem?_eq_some_iff.1 hq').1
    obtain ⟨i, j, hi, hj, rfl⟩ := idx_split (c1 ▸ hlt)
    have he := List.getElem?_eq_getElem (show i < es.length by omega)
    obtain ⟨l1, l2⟩ := hfl _ (List.mem_of_getElem? he)
    have hc := List.getElem?_eq_getElem (show j < (es[i]).cells.length by omega)
    obtain ⟨u, hu, hp⟩ := hcell i j _ _ he hc
    rw [hq'] at hu
    cases hu
    exact (hp.flat_one (l2 _ (List.mem_of_getElem? hc))).1
  refine ⟨⟨_, _, m, _, .inl hrun, Good.comp s.toSimH gz (u2 := []) (Good.allocP s1 (.p (.sl z es)) _), ?_, by simp [AV.names]⟩, fun hfr => ⟨_, _, _, _, .inl hrun, Good.comp s.toSimH gz (u2 := [(.loc r i 0, some (.parr es z false))])
    (Good.row s1 rfl ?_ (l := ⟨some w.heap.size, n, z⟩) _ ka (by simp [AObj.names]) (fun q h => by cases h; exact Nat.le_refl _) ⟨rfl, hfl, .inr ⟨w.heap.size, cells, e, rfl, heap_alloc_new w _, c1, (by show es.length ≤ n; omega), ?_, hone, ?_, fun _ => .inr ⟨Nat.le_refl _, by simp⟩, fun h => by cases h⟩⟩), ?_, ?_⟩⟩
  · refine .p _ _ (.sl z es _ n n ⟨w.heap.size, 0, none⟩ (fun i j => cells.getD (i * z + j) undef) hes1 (Nat.le_refl _) hfl (fun _ => ⟨rfl, fun hW => Nat.lt_irrefl _ (s.lt _ hW.1), by simp⟩) (fun i j e' c hi hj => ?_) fun i j e' c hi hj => ?_)
    · obtain ⟨u, hu, _⟩ := hcell i j e' c hi hj
      rw [add_at, cell_of_row _ _ _ cells e (0, 0) (heap_alloc_new w _)]
      simp [hu, Array.getD_eq_getD_getElem?]
    · obtain ⟨u, hu, hp⟩ := hcell i j e' c hi hj
      simp only [Array.getD_eq_getD_getElem?, hu, Option.getD_some]
      exact hp.keep ka (fun _ h => h.elim) fun _ _ h => h
  · rw [hget_append]
    split
    · rename_i hm
      obtain ⟨ob, hob⟩ := ups_frzUp hm
      obtain ⟨_, _, _, hx, _, _⟩ := hget_frzUp hob
      rw [Option.isNone_iff_eq_none.1 hfr] at hx; cases hx
    · exact Option.isNone_iff_eq_none.1 hfr
  · have : n * 1 ≤ n * z := Nat.mul_le_mul_left n hz0
    simp only [maxLen]; omega
  · intro i j e' c v hi hj hv
    obtain ⟨u, hu, hp⟩ := hcell i j e' c hi hj
    rw [hv] at hu
    cases hu
    exact hp.keep ka (fun _ h => h.elim) fun i hi h => by rcases h with h | ⟨h, _⟩ <;> first | exact h | omega
  · rw [hes1]
    exact .hsl _ 0 n _ n (by simp [HslOK]) (Nat.le_refl _)
  · intro y hy
    simp [AV.names] at hy
    subst hy
    simp [hget]

theorem ok_barr (r i : Nat) {own : Bool} {t e : TypeId} {n : Nat} {ps : Array (Nat × Operand)} {qs : List Opd} (ho : o.op = .buildSlice t n ps) (ht : P.underlying t = some (.slice e)) {zv : Value} (hz : zeroT P e = some zv) (hzv : zv.cells.size = 1) (hS : sizeT P e = some 1)
    (hn : n * 1 ≤ 16777216) (hq : n = qs.length) (hps : spartsL idm 0 ps.toList qs = true) (hok : (evL st.T qs).all okArr = true) (hfr : (hget st.H (.loc r i 0)).isNone = true) :
    OpOK P idm m w W st.H o a { v := .hsl (.loc r i 0) 0 qs.length, up := [(.loc r i 0, some (.arr (evL st.T qs)))] } := by
  obtain ⟨h1, h2⟩ := spartsL_zip hps
  obtain ⟨g1, g2, g3⟩ := opdsL_rep s h1
  have hev : (evL st.T qs).length = n := by rw [hq, evL_length]
  have hokf : ∀ v ∈ evL st.T qs, v.flat = true ∧ v ≠ .undef := by
    intro v hv
    have := List.all_eq_true.1 hok v hv
    cases v <;> simp [okArr] at this <;> exact ⟨rfl, by simp⟩
  have hrep : ∀ (i : Nat) (x : Operand) (v : AV), (ps.toList.map (·.2))[i]? = some x → (evL st.T qs)[i]? = some v → Rep idm m w W v (a.eval x) ∧ (a.eval x).cells = #[a.eval x] ∧ (a.eval x).oneCell' = true := by
    intro i x v hx hv
    have hr := g2 i _ (a.eval x) hv (by rw [List.getElem?_map, hx]; rfl)
    obtain ⟨f1, f2⟩ := hokf v (List.mem_of_getElem? hv)
    exact ⟨hr, (hr.flat_one f1 f2).2, (hr.flat_one f1 f2).1⟩
  have hsz : ∀ x ∈ ps.toList.map (·.2), (a.eval x).cells.size = 1 := by
    intro x hx
    obtain ⟨i, hi⟩ := List.mem_iff_getElem?.1 hx
    have hlt := (List.getElem?_eq_some_iff.1 hi).1
    have he := List.getElem?_eq_getElem (show i < (evL st.T qs).length by omega)
    rw [(hrep i x _ hi he).2.1]; rfl
  obtain ⟨cells, hrun, c1, c2⟩ := run_bslice s ho ht hz hzv hS (by omega) hn hq hps hsz
  have hcell : ∀ (i : Nat) (v : AV), (evL st.T qs)[i]? = some v → ∃ u, cells[i]? = some u ∧ Rep idm m w W v u ∧ u.oneCell' = true := by
    intro i v hi
    have hlt := (List.getElem?_eq_some_iff.1 hi).1
    have hx := List.getElem?_eq_getElem (show i < (ps.toList.map (·.2)).length by omega)
    obtain ⟨q1, q2, q3⟩ := hrep i _ v hx hi
    have := c2 i 0 _ hx (by omega)
    rw [q2] at this
    exact ⟨_, by simpa using this, q1, q3⟩
  have ka : Keep (fun _ => False) w (w.alloc (.cells cells e)) := keep_alloc w _
  refine ⟨_, _, _, _, .inl hrun, Good.row s.toSimH rfl (Option.isNone_iff_eq_none.1 hfr) (l := ⟨some w.heap.size, n, 1⟩) _ ka (fun y hy => g3 y (by simpa [AObj.names] using hy)) (fun q h => by cases h; exact Nat.le_refl _)
    ⟨rfl, w.heap.size, cells, e, rfl, heap_alloc_new w _, by rw [c1, hev]; omega, hev.symm, fun v hv => (hokf v hv).1, fun v hv => ?_, fun k v u hk hu => ?_, .inr ⟨Nat.le_refl _, by simp⟩⟩, ?_, ?_⟩
  · obtain ⟨k, hk⟩ := Array.mem_iff_getElem?.1 hv
    have hlt := (Array.getElem?_eq_some_iff.1 hk).1
    obtain ⟨u, hu, _, h1⟩ := hcell k _ (List.getElem?_eq_getElem (show k < (evL st.T qs).length by omega))
    rw [hk] at hu; cases hu; exact h1
  · obtain ⟨u', hu', h1, _⟩ := hcell k v hk
    rw [hu] at hu'
    cases hu'
    refine h1.keep ka (fun _ h => h.elim) (fun i hi h => by rcases h with h | ⟨h, _⟩ <;> first | exact h | omega) fun x hx => ?_
    have hne : x ≠ .loc r i 0 := fun e => by
      have := g3 x (mem_namesL.2 ⟨v, List.mem_of_getElem? hk, hx⟩)
      rw [e, Option.isNone_iff_eq_none.1 hfr] at this; cases this
    simp [hne]
  · rw [← hq]
    exact .hsl _ 0 n _ n (by simp [HslOK]) (Nat.le_refl _)
  · intro y hy
    simp [AV.names] at hy
    subst hy
    simp [hget]

theorem ok_mkslice (r i : Nat) {t e : TypeId} {l c : Operand} {n' : Opd} {zp : PV} (ho : o.op = .makeSlice t l c) (ht : P.underlying t = some (.slice e)) {ti : TypeInfo} (hi : P.info? e = some ti) (hby : ti.bytes ≤ 65536) {zv : Value} (hz : ti.zero = some zv) (hzp : valL zv zp = true)
    (hsz : ti.size = zp.cells.length) (hl : opdL idm l n' = true) (hc : opdL idm c n' = true) {n : Nat} (hn : natOf (ev st.T n') most = some n) (hfr : (hget st.H (.loc r i 0)).isNone = true) :
    OpOK P idm m w W st.H o a { v := .hsl (.loc r i 0) 0 n, up := [(.loc r i 0, some (.parr (List.replicate n zp) zp.cells.length false))] } := by
  obtain ⟨g1, _⟩ := opdL_rep hl s
  obtain ⟨g2, _⟩ := opdL_rep hc s
  unfold natOf at hn
  split at hn
  · rename_i k ii hv
    rw [hv] at g1 g2
    split at hn
    · rename_i hb
      simp only [Option.some.injEq] at hn
      obtain ⟨n2, rfl⟩ := Int.eq_ofNat_of_zero_le hb.1
      simp at hn
      subst hn
      have e1 := g1.int_inv
      have e2 := g2.int_inv
      have hnm : n2 ≤ most := by have := hb.2; omega
      have hmx := maxLen_ge
      have hby2 : ti.bytes * n2 ≤ 281474976710656 := by
        have := Nat.mul_le_mul hby (show n2 ≤ 2147483648 by simpa only [most] using hnm)
        omega
      have hb' : (ti.bytes : Int) * (n2 : Int) ≤ 281474976710656 := by
        have h : ((ti.bytes * n2 : Nat) : Int) ≤ 281474976710656 := by omega
        rwa [Int.natCast_mul] at h
      have hm : n2 ≤ maxLen := by omega
      have hr := run_make (P := P) w t e ti zv ht hi hz k k n2 n2 (by omega) (Int.le_refl _) hb' (by simp only [maxLen] at hm; omega)
      simp only [Int.toNat_natCast] at hr
      have hzr := (valL_rep hzp w (fun j => W j ∨ (w.heap.size ≤ j ∧ j < (w.alloc (.cells (madeCells zv.cells (n2 * ti.size)) e)).heap.size))).cells
      have ka : Keep (fun _ => False) w (w.alloc (.cells (madeCells zv.cells (n2 * ti.size)) e)) := keep_alloc w _
      have hcg : ∀ {q : Nat} {u : Value}, (madeCells zv.cells (n2 * ti.size))[q]? = some u → q < n2 * ti.size ∧ zv.cells[q % zv.cells.size]? = some u := by
        intro q u hq
        have hlt : q < n2 * ti.size := by have := (Array.getElem?_eq_some_iff.1 hq).1; simpa [madeCells] using this
        have hz0 : 0 < ti.size := by
          rcases Nat.eq_zero_or_pos ti.size with h0 | h0
          · rw [h0] at hlt; simp at hlt
          · exact h0
        simp [madeCells, hlt] at hq
        have hm := Nat.mod_lt q (show 0 < zv.cells.size by rw [hzr.1, ← hsz]; exact hz0)
        rw [getElem!_pos zv.cells _ hm] at hq
        exact ⟨hlt, by rw [← hq]; exact Array.getElem?_eq_getElem hm⟩
      have hzw := (valL_rep hzp w W).cells
      have := ok_row (P := P) (o := o) s (.loc r i 0) ⟨r, i, 0, rfl⟩ (Option.isNone_iff_eq_none.1 hfr) (es := List.replicate n2 zp) (z := zp.cells.length) (b := some w.heap.size) (cap := n2)
        (w' := w.alloc (.cells (madeCells zv.cells (n2 * ti.size)) e)) (v := .slice (some ⟨w.heap.size, 0, none⟩) n2 n2)
        (by simp [execOp, ho, e1, e2, hr]) ka (fun m' hm => by rw [List.length_replicate]; exact .hsl _ 0 n2 _ _ (by rw [hm]; simp [HslOK]) (Nat.le_refl _)) (fun q h => by cases h; exact Nat.le_refl _)
        ⟨rfl, fun e he => by rw [List.eq_of_mem_replicate he]; exact ⟨rfl, hzr.2.1⟩, .inr ⟨w.heap.size, _, e, rfl, heap_alloc_new w _, by rw [size_madeCells, hsz], by simp, hm, fun v hv => ?_, fun i j e' a' v hi hj hv => ?_, fun _ => .inr ⟨Nat.le_refl _, by simp⟩, fun h => by cases h⟩⟩
      · rw [List.length_replicate] at this; exact this
      · obtain ⟨q, hq⟩ := Array.mem_iff_getElem?.1 hv
        obtain ⟨_, h2⟩ := hcg hq
        have hx := List.getElem?_eq_getElem (show q % zv.cells.size < zp.cells.length by rw [← hzr.1]; exact (Array.getElem?_eq_some_iff.1 h2).1)
        exact ((hzr.2.2 _ _ _ hx h2).flat_one (hzr.2.1 _ (List.mem_of_getElem? hx))).1
      · have he : e' = zp := List.eq_of_mem_replicate (List.mem_of_getElem? hi)
        subst he
        obtain ⟨_, h2⟩ := hcg hv
        have hjz : j < e'.cells.length := (List.getElem?_eq_some_iff.1 hj).1
        rw [hzr.1, Nat.mul_comm, Nat.mul_add_mod, Nat.mod_eq_of_lt hjz] at h2
        exact ((hzr.2.2 j a' v hj h2)).keep ka (fun _ h => h.elim) fun i hi h => by rcases h with h | ⟨h, _⟩ <;> first | exact .inl h | omega
    · cases hn
  · cases hn
end
end Go.Ab
