/- A part of the proof: an executor over plain data, shown sound for the model, and what it computes of the functions. -/
import Derived.Test.YtmnjnpgmenigiaaBe7c818e9c9
set_option linter.all false
/-! The end of a call; all calls. -/
set_option linter.unusedVariables false
set_option linter.unusedSimpArgs false
set_option linter.unusedSectionVars false
namespace Go.Ab
open Go

section
variable {P : Program} {idm : FuncId → FuncId} {N : Nat} {m : NMap} {w : World} {W : Nat → Prop} {st : St} {a : Act} (s : Sim idm N m w W st a)
include s

/-- A result that lies in a variable. -/
theorem run_cell {t : TypeId} {x : Nat} {agg : Bool} {size : Nat} (hA : aggT P t = some agg) (hS : sizeT P t = some size) {y : Nm} {off : Nat} {v : AV} (hx : tget st.T x = .ptr y off) (hv : loadD st.H agg size (.ptr y off) = some v) :
    ∃ u, (do loadVar t (← asAddr (a.tmps.getD x undef)) : Sem Value).run P w = .ok u w ∧ Rep idm m w W v u ∧ ∀ z ∈ v.names, (hget st.H z).isSome = true := by
  have h1 := s.t x
  rw [hx] at h1
  generalize a.tmps.getD x undef = ux at h1
  cases h1 with
  | ptr _ _ b hb =>
    simp only [loadD] at hv
    cases ho' : hget st.H y with
    | none => simp [ho'] at hv
    | some ob =>
      rw [ho'] at hv
      cases ob with
      | box cs =>
        simp only at hv
        obtain ⟨b', c, e, g1, g2, g3, g4, g5, g6, g7⟩ := s.h y _ ho'
        rw [hb] at g1; cases g1
        have hn : ∀ z ∈ namesL cs, (hget st.H z).isSome = true := fun z hz => s.ch y _ z ho' hz
        have hcell : ∀ j, off + j < c.size → w.cell? ((⟨b, off, none⟩ : Addr).add j) = some (c.getD (off + j) undef) := by
          intro j hj
          rw [add_at, cell_of_row w b (off + j) c e (0, 0) g2]
          simp [Array.getElem?_eq_getElem hj, Array.getD_eq_getD_getElem?]
        have hget : ∀ i, i < c.size → c[i]? = some (c.getD i undef) := fun i hi => by simp [Array.getElem?_eq_getElem hi, Array.getD_eq_getD_getElem?]
        have hrun : ∀ {agg : Bool}, aggT P t = some agg → (∀ j, j < (if agg then size else 1) → off + j < c.size) →
            (do loadVar t (← asAddr (.pointer (some ⟨b, off, none⟩))) : Sem Value).run P w = .ok (if agg then .agg ((List.range size).map fun j => c.getD (off + j) undef).toArray else c.getD (off + 0) undef) w := by
          intro agg hA hj
          simp only [asAddr, loadVar, Sem.run_bind, Sem.run_pure, Result.andThen_ok, run_isAgg hA]
          cases agg with
          | true => simp only [if_true, Sem.run_bind, run_sizeT hS, Result.andThen_ok, run_loadCells (P := P) w ⟨b, off, none⟩ size (fun j => c.getD (off + j) undef) (fun j hj' => hcell j (hj j (by simpa using hj'))), Sem.run_pure]
          | false =>
            have := hcell 0 (hj 0 (by simp))
            rw [show (⟨b, off, none⟩ : Addr).add 0 = ⟨b, off, none⟩ by simp [Addr.add]] at this
            simp only [Bool.false_eq_true, if_false, run_load, this]
        rcases partA_some hv with ⟨rfl, hl, rfl⟩ | ⟨rfl, hc0⟩
        · refine ⟨_, hrun hA (fun j hj => by simp at hj; omega), ?_, fun z hz => ?_⟩
          · simp only [if_true]
            refine rep_mkAgg (by simp; omega) (fun c hc => g4 c (mem_slice s hc)) ?_ fun i av u hi hu => ?_
            · intro u hu
              simp at hu
              obtain ⟨j, hj, rfl⟩ := hu
              have hlt : off + j < c.size := by omega
              simp [Array.getElem?_eq_getElem hlt]
              exact g5 _ (Array.getElem_mem hlt)
            · rw [List.getElem?_take] at hi
              split at hi
              · rename_i hlt
                rw [List.getElem?_drop] at hi
                have hlt2 : off + i < c.size := by omega
                simp [hlt, Array.getElem?_eq_getElem hlt2] at hu
                subst hu
                exact g6 (off + i) av _ hi (by simp [Array.getElem?_eq_getElem hlt2])
              · cases hi
          · have := names_mkAgg hz
            obtain ⟨q, hq, hq'⟩ := mem_namesL.1 this
            exact hn z (mem_namesL.2 ⟨q, mem_slice s hq, hq'⟩)
        · have hlt : off < c.size := by
            have := (List.getElem?_eq_some_iff.1 hc0).1
            omega
          refine ⟨_, hrun hA (fun j hj => by simp at hj; omega), ?_, fun z hz => hn z (mem_namesL.2 ⟨v, List.mem_of_getElem? hc0, hz⟩)⟩
          simp only [Bool.false_eq_true, if_false]
          exact g6 off v _ hc0 (by rw [Nat.add_zero]; exact hget off hlt)
      | _ => simp at hv

def resOf (tmps : Array Value) : ResultVar → Sem Value
  | .tmp t => pure (tmps.getD t undef)
  | .cell a t => do loadVar t (← asAddr (tmps.getD a undef))

theorem run_results : ∀ {rs : List ResultVar} {rv : List RV} {vs : List AV}, rvsL P rs rv = true → rvGets st.T st.H rv = some vs → ∃ us, (rs.mapM (resOf a.tmps) : Sem (List Value)).run P w = .ok us w ∧
    us.length = vs.length ∧ (∀ (i : Nat) (c : AV) (v : Value), vs[i]? = some c → us[i]? = some v → Rep idm m w W c v) ∧ ∀ z ∈ namesL vs, (hget st.H z).isSome = true
  | [], rv, vs, hl, h => by
    cases rv <;> simp [rvsL] at hl
    simp only [rvGets, Option.some.injEq] at h
    subst h
    exact ⟨[], by simp, rfl, fun i c v h => by simp at h, by simp [namesL]⟩
  | r0 :: rs, [], vs, hl, h => by cases r0 <;> simp [rvsL] at hl
  | r0 :: rs, rv :: rvs, vs, hl, h => by
    simp only [rvGets] at h
    cases h0 : rvGet st.T st.H rv with
    | none => simp [h0] at h
    | some v => cases h1 : rvGets st.T st.H rvs with
      | none => simp [h0, h1] at h
      | some vs' =>
        simp only [h0, h1, Option.some.injEq] at h
        subst h
        have one : rvsL P rs rvs = true ∧ ∃ u, (resOf a.tmps r0).run P w = .ok u w ∧ Rep idm m w W v u ∧ ∀ z ∈ v.names, (hget st.H z).isSome = true := by
          cases r0 with
          | tmp t => cases rv with
            | tmp t' =>
              simp only [rvsL, Bool.and_eq_true, beq_iff_eq] at hl
              obtain ⟨rfl, hl⟩ := hl
              simp only [rvGet, Option.some.injEq] at h0
              subst h0
              exact ⟨hl, _, by simp [resOf], s.t t, s.ct t⟩
            | cell => simp [rvsL] at hl
          | cell x t => cases rv with
            | tmp => simp [rvsL] at hl
            | cell x' agg size =>
              simp only [rvsL, Bool.and_eq_true, beq_iff_eq] at hl
              obtain ⟨⟨⟨rfl, hA⟩, hS⟩, hl⟩ := hl
              simp only [rvGet] at h0
              split at h0
              · rename_i y off hx
                exact ⟨hl, run_cell s hA hS hx h0⟩
              · cases h0
        obtain ⟨hl', u, hu, hr, hn⟩ := one
        obtain ⟨us, g1, g2, g3, g4⟩ := run_results hl' h1
        refine ⟨u :: us, by simp [List.mapM_cons, hu, g1], by simp [g2], fun i c x hc hx => ?_, fun z hz => ?_⟩
        · cases i with
          | zero => simp at hc hx; subst hc; subst hx; exact hr
          | succ i => simp at hc hx; exact g3 i c x hc hx
        · simp only [namesL, List.mem_append] at hz
          rcases hz with hz | hz
          · exact hn z hz
          · exact g4 z hz

theorem run_res {fn : Func} {rv : List RV} {vs : List AV} (hl : rvsL P fn.results.toList rv = true) (h : rvGets st.T st.H rv = some vs) : ∃ us : Array Value, (results fn a.tmps).run P w = .ok (if h : us.size = 1 then us[0] else .tuple us) w ∧
    Reps idm m w W vs us ∧ ∀ z ∈ namesL vs, (hget st.H z).isSome = true := by
  obtain ⟨us, g1, g2, g3, g4⟩ := run_results s hl h
  refine ⟨us.toArray, ?_, ⟨by simpa using g2, fun i c v hc hv => g3 i c v hc (by simpa using hv)⟩, g4⟩
  have e : results fn a.tmps = (do let vs ← fn.results.mapM (resOf a.tmps); pure (if h : vs.size = 1 then vs[0] else .tuple vs)) := by
    unfold results
    congr 1
  rw [e, Array.mapM_eq_mapM_toList, map_eq_pure_bind]
  simp only [Sem.run_bind, g1, Result.andThen_ok, Sem.run_pure]
end

theorem tup1_rep {idm : FuncId → FuncId} {m : NMap} {w : World} {W : Nat → Prop} {vs : List AV} {us : Array Value} (h : Reps idm m w W vs us) : Rep idm m w W (tup1 vs) (if h : us.size = 1 then us[0] else .tuple us) := by
  unfold tup1
  split
  · rename_i v
    have hs : us.size = 1 := h.hl
    rw [dif_pos hs]
    exact h.h 0 v _ rfl (by simp [hs])
  · rename_i hne
    have hs : us.size ≠ 1 := fun e => by
      have := h.hl
      rw [e] at this
      match vs, this, hne with
      | [v], _, hne => exact hne v rfl
    rw [dif_neg hs]
    exact .tup _ _ h.hl h.h
theorem tup1_names {vs : List AV} {x : Nm} (h : x ∈ (tup1 vs).names) : x ∈ namesL vs := by
  unfold tup1 at h
  split at h
  · simpa [namesL] using h
  · simpa [AV.names] using h

theorem hgets_append {H : Hp} : ∀ {a b : List Nm} {x y : List AObj}, hgets H a = some x → hgets H b = some y → hgets H (a ++ b) = some (x ++ y)
  | [], b, x, y, h1, h2 => by simp only [hgets, Option.some.injEq] at h1; subst h1; exact h2
  | n :: a, b, x, y, h1, h2 => by
    simp only [hgets] at h1
    cases hn : hget H n with
    | none => simp [hn] at h1
    | some o => cases ha : hgets H a with
      | none => simp [hn, ha] at h1
      | some os =>
        simp only [hn, ha, Option.some.injEq] at h1
        subst h1
        simp only [List.cons_append, hgets, hn, hgets_append ha h2]
theorem renOs_append {f : Nm → Option Nm} : ∀ {a b x y : List AObj}, renOs f a = some x → renOs f b = some y → renOs f (a ++ b) = some (x ++ y)
  | [], b, x, y, h1, h2 => by simp only [renOs, Option.some.injEq] at h1; subst h1; exact h2
  | n :: a, b, x, y, h1, h2 => by
    simp only [renOs] at h1
    cases hn : n.ren f with
    | none => simp [hn] at h1
    | some o => cases ha : renOs f a with
      | none => simp [hn, ha] at h1
      | some os =>
        simp only [hn, ha, Option.some.injEq] at h1
        subst h1
        simp only [List.cons_append, renOs, hn, renOs_append ha h2]

theorem extNs_get : ∀ {n k i : Nat}, i < n → (extNs k n)[i]? = some (.ext (k + i))
  | 0, k, i, h => by omega
  | n + 1, k, i, h => by
    cases i with
    | zero => simp [extNs]
    | succ i =>
      simp only [extNs, List.getElem?_cons_succ]
      rw [extNs_get (by omega)]
      congr 2
      omega
theorem extNs_length : ∀ {n k : Nat}, (extNs k n).length = n
  | 0, k => rfl
  | n + 1, k => by simp [extNs, extNs_length]

section
variable {P : Program} {idm : FuncId → FuncId} {N : Nat} {m0 : NMap} {w : World} {w0 : World} {W0 : Nat → Prop} {a : Act}

theorem finish_ok {objs : List AObj} {F : SFn} {fn : Func} (hl : rvsL P fn.results.toList F.rv = true) {st : St} {c : CR} (h : finish F objs.length st = some c) (hfi : FI idm N m0 w0 W0 (argH 0 objs) st a w) :
    ∃ v, (results fn a.tmps).run P w = .ok v w ∧ CallPost idm m0 w0 W0 objs c v w := by
  obtain ⟨h0, m, W, s, si⟩ := hfi
  unfold finish at h
  cases hrv : rvGets st.T st.H F.rv with
  | none => simp [hrv] at h
  | some vs =>
    simp only [hrv] at h
    obtain ⟨us, hrun, hreps, hnm⟩ := run_res (P := P) s hl hrv
    refine ⟨_, hrun, ?_⟩
    -- the general case
    have gen : finish.finishG F objs.length st vs = some c → CallPost idm m0 w0 W0 objs c (if h : us.size = 1 then us[0] else .tuple us) w := by
      intro h
      unfold finish.finishG at h
      -- what is frozen
      obtain ⟨vs', u, W1, s1, si1, hreps1, hv', hH1⟩ : ∃ (vs' : List AV) (u : Hp) (W1 : Nat → Prop), SimH idm m w W1 (u ++ st.H) ∧ Since m0 w0 W0 (argH 0 objs) m w W1 (u ++ st.H) ∧ Reps idm m w W1 vs' us ∧
          (if F.rawR = true then some vs else frzL st.H vs) = some vs' ∧ (if F.rawR = true then st.H else frzUp st.H (frzNs vs) ++ st.H) = u ++ st.H := by
        by_cases hraw : F.rawR = true
        · exact ⟨vs, [], W, s.toSimH, si, hreps, by simp [hraw], by simp [hraw]⟩
        · simp only [hraw, if_false] at h ⊢
          cases hf : frzL st.H vs with
          | none => simp [hf] at h
          | some vs' =>
            have gz := Good.freeze s.toSimH (frzNs vs) .undef
            exact ⟨vs', frzUp st.H (frzNs vs), _, gz.simH s.toSimH, si.trans (gz.since s.toSimH), (frzL_reps s.toSimH hreps hf).1, rfl, rfl⟩
      rw [hv', hH1] at h
      simp only at h
      cases hall : reach (u ++ st.H) 64 (extNs 0 objs.length ++ namesL vs') [] with
      | none => simp [hall] at h
      | some all =>
        simp only [hall] at h
        split at h
        · rename_i htake
          cases e1 : renL (outNm objs.length (all.drop objs.length)) vs' with
          | none => simp [e1] at h
          | some vs2 => cases e2 : hgets (u ++ st.H) (extNs 0 objs.length) with
            | none => simp [e1, e2] at h
            | some os => cases e3 : hgets (u ++ st.H) (all.drop objs.length) with
              | none => simp [e1, e2, e3] at h
              | some news => cases e4 : renOs (outNm objs.length (all.drop objs.length)) os with
                | none => simp [e1, e2, e3, e4] at h
                | some outs => cases e5 : renOs (outNm objs.length (all.drop objs.length)) news with
                  | none => simp [e1, e2, e3, e4, e5] at h
                  | some news' =>
                    simp only [e1, e2, e3, e4, e5, Option.some.injEq] at h
                    subst h
                    have hsplit : all = extNs 0 objs.length ++ all.drop objs.length := by rw [← htake]; exact (List.take_append_drop _ _).symm
                    have hnd := reach_nodup hall List.nodup_nil
                    have hfx : ∀ x y, outNm objs.length (all.drop objs.length) x = some y → ∃ i, y = .ext i ∧ all[i]? = some x := by
                      intro x y hxy
                      cases x with
                      | ext k =>
                        simp only [outNm, Option.ite_none_right_eq_some, Option.some.injEq] at hxy
                        obtain ⟨hk, rfl⟩ := hxy
                        refine ⟨k, rfl, ?_⟩
                        rw [hsplit, List.getElem?_append_left (by rw [extNs_length]; exact hk), extNs_get hk, Nat.zero_add]
                      | loc r i j =>
                        simp only [outNm] at hxy
                        obtain ⟨q, hq, rfl⟩ := Option.map_eq_some_iff.1 hxy
                        obtain ⟨p, rfl, hp⟩ := nidx_get hq
                        refine ⟨objs.length + (0 + p), rfl, ?_⟩
                        rw [hsplit, List.getElem?_append_right (by rw [extNs_length]; omega), extNs_length]
                        rw [show objs.length + (0 + p) - objs.length = p by omega]
                        exact hp
                    have hO : hgets (u ++ st.H) all = some (os ++ news) := by rw [hsplit]; exact hgets_append e2 e3
                    have hR : renOs (outNm objs.length (all.drop objs.length)) (os ++ news) = some (outs ++ news') := renOs_append e4 e5
                    have s2 := simH_args s1 hnd hO hfx hR
                    obtain ⟨l1, g1⟩ := hgets_get hO
                    obtain ⟨l2, g2⟩ := renOs_get hR
                    obtain ⟨l3, _⟩ := hgets_get e2
                    obtain ⟨l4, _⟩ := renOs_get e4
                    rw [extNs_length] at l3
                    have back : ∀ {x : Nm} {o : AObj}, hget (argH 0 (outs ++ news')) x = some o → ∃ k y o1, x = .ext k ∧ all[k]? = some y ∧ hget (u ++ st.H) y = some o1 ∧ o.frozen = o1.frozen := by
                      intro x o hx
                      obtain ⟨k, rfl, h1⟩ := hget_argH.1 hx
                      obtain ⟨o1, h2, h3⟩ := g2 k o h1
                      obtain ⟨y, h4, h5⟩ := g1 k o1 h2
                      exact ⟨k, y, o1, by rw [Nat.zero_add], h4, h5, AObj.frozen_ren h3⟩
                    have hlen : all.length = (outs ++ news').length := by omega
                    refine ⟨mcOf m all, W1, by show outs.length = objs.length; omega, s2, ⟨⟨si1.tr.toKeep, si1.tr.sub, si1.tr.sup, ?_⟩, ?_, ?_⟩, ?_, ?_⟩
                    · rintro i hi ⟨x, o, hx, hf, hb⟩
                      obtain ⟨k, y, o1, rfl, h1, h2, h3⟩ := back hx
                      rw [mcOf_ext h1] at hb
                      exact si1.tr.own i hi ⟨y, o1, h2, by rw [← h3]; exact hf, hb⟩
                    · intro x o b hx hb hlt
                      obtain ⟨k, y, o1, rfl, h1, h2, h3⟩ := back hx
                      rw [mcOf_ext h1] at hb
                      obtain ⟨o0, h4, h5⟩ := si1.born y o1 b h2 hb hlt
                      obtain ⟨j, rfl, h6⟩ := hget_argH.1 h4
                      have hj := (List.getElem?_eq_some_iff.1 h6).1
                      rw [Nat.zero_add] at h1 h4 h5
                      have : all[j]? = some (.ext j) := by rw [hsplit, List.getElem?_append_left (by rw [extNs_length]; exact hj), extNs_get hj, Nat.zero_add]
                      have := nodup_inj hnd h1 this
                      subst this
                      exact ⟨o0, h4, h5⟩
                    · intro k hk
                      have : all[k]? = some (.ext k) := by rw [hsplit, List.getElem?_append_left (by rw [extNs_length]; exact hk), extNs_get hk, Nat.zero_add]
                      rw [mcOf_ext this]
                      exact si1.ext k
                    · obtain ⟨l5, g5⟩ := renL_get e1
                      refine tup1_rep ⟨by rw [l5]; exact hreps1.hl, fun i c v hc hv => ?_⟩
                      obtain ⟨c0, h1, h2⟩ := g5 i c hc
                      exact (hreps1.h i c0 v h1 hv).ren _ c h2 fun x hx y hy => by
                        obtain ⟨j, rfl, hj⟩ := hfx x y hy
                        exact mcOf_ext hj
                    · intro y hy
                      obtain ⟨x, hx, hxy⟩ := namesL_ren _ y vs' vs2 e1 (tup1_names hy)
                      obtain ⟨j, rfl, hj⟩ := hfx x y hxy
                      exact argH_some.2 ⟨j, rfl, by rw [← hlen]; exact (List.getElem?_eq_some_iff.1 hj).1⟩
        · cases h
    split at h
    · rename_i hn
      have hobj : objs = [] := List.eq_nil_of_length_eq_zero hn
      subst hobj
      split at h
      · rename_i ps hp
        simp only [Option.some.injEq] at h
        subst h
        refine ⟨m, W, rfl, { h := fun x o h => by simp [argH, hget] at h, sep := fun x y o o' b h => by simp [argH, hget] at h, ch := fun y o x h => by simp [argH, hget] at h, lt := s.lt }, ?_, tup1_rep hreps, fun y hy => ?_⟩
        · have := si.less (H2 := []) fun x o h => by simp [hget] at h
          exact ⟨this.tr, this.born, fun k hk => this.ext k⟩
        · have := tup1_names hy
          rw [(allP_names hp).1] at this; cases this
      · exact gen h
    · exact gen h
end

/-! ### All calls -/
theorem operL_mono {P : Program} {idm : FuncId → FuncId} {N N' : Nat} (h : N ≤ N') {ops : Array Go.Oper} {o : Go.Oper} {s : SOper} (hl : operL P idm N ops o s = true) : operL P idm N' ops o s = true := by
  simp only [operL, Bool.and_eq_true] at hl ⊢
  obtain ⟨⟨⟨h1, h2⟩, h3⟩, h4⟩ := hl
  refine ⟨⟨⟨h1, ?_⟩, ?_⟩, h4⟩
  · split
    · rename_i t ht; rw [ht] at h2; simp only [decide_eq_true_eq] at h2 ⊢; exact Nat.lt_of_lt_of_le h2 h
    · rfl
  · unfold guardL at h3 ⊢
    split at h3
    · rfl
    · simp only [Bool.and_eq_true, decide_eq_true_eq] at h3 ⊢; exact ⟨h3.1, Nat.lt_of_lt_of_le h3.2 h⟩
    · cases h3
theorem opersL_mono {P : Program} {idm : FuncId → FuncId} {N N' : Nat} (h : N ≤ N') {ops : Array Go.Oper} : ∀ {l : List Go.Oper} {q : List SOper}, opersL P idm N ops l q = true → opersL P idm N' ops l q = true
  | [], [], _ => rfl
  | o :: r, s :: q, hl => by
    simp only [opersL, Bool.and_eq_true] at hl ⊢
    exact ⟨operL_mono h hl.1, opersL_mono h hl.2⟩
  | [], _ :: _, h => by simp [opersL] at h
  | _ :: _, [], h => by simp [opersL] at h
theorem codeL_mono {P : Program} {idm : FuncId → FuncId} {N N' : Nat} (h : N ≤ N') : ∀ {c : Code} {c' : SCode}, codeL P idm N c c' = true → codeL P idm N' c c' = true := by
  intro c c'
  induction c' generalizing c with
  | skip => cases c <;> simp [codeL]
  | exit => cases c <;> simp [codeL]
  | ret => cases c <;> simp [codeL]
  | cut => cases c <;> simp [codeL]
  | reg r sops => cases c with
    | region id ops d => cases d <;> simp only [codeL] <;> first | exact opersL_mono h | exact fun h => h
    | _ => simp [codeL]
  | draw r sops pairs => cases c with
    | region id ops d => cases d <;> simp only [codeL, Bool.and_eq_true] <;> first | exact fun h' => ⟨opersL_mono h h'.1, h'.2⟩ | exact fun h => h
    | _ => simp [codeL]
  | seq a b iha ihb => cases c <;> simp [codeL]; exact fun h1 h2 => ⟨iha h1, ihb h2⟩
  | cond x a b iha ihb => cases c <;> simp [codeL]; exact fun h0 h1 h2 => ⟨⟨h0, iha h1⟩, ihb h2⟩
  | blk id b ih => cases c <;> simp [codeL]; exact fun h0 h1 => ⟨h0, ih h1⟩
  | loop kt kh b ih => cases c <;> simp [codeL]; exact fun h1 => ih h1
  | trim kn kr ke kh b ih => cases c <;> simp only [codeL] <;> exact fun h1 => ih h1

/-- A function's code agrees. -/
def fnL (P : Program) (idm : FuncId → FuncId) (f : FuncId) (F : SFn) : Bool :=
  match P.funcs[idm f]? with
  | none => false
  | some fn => (match fn.body with
    | some c => codeL P idm fn.ntmps c F.body
    | none => false) && decide (fn.name ≠ "runtime.NumGoroutine") && rvsL P fn.results.toList F.rv

structure EnvOK (P : Program) (idm : FuncId → FuncId) (E : Env) : Prop where
  fn : ∀ f F, E.fn f = some F → fnL P idm f F = true
  ex : CFOK P idm E.ex

theorem tget_argT : ∀ {vs : List AV} {k i : Nat}, tget (argT k vs) i = if k ≤ i then (vs[i - k]?).getD .undef else .undef
  | [], k, i => by simp [argT, tget]
  | v :: r, k, i => by
    simp only [argT, tget]
    by_cases h : k = i
    · subst h; simp
    · rw [if_neg h, tget_argT]
      by_cases h2 : k ≤ i
      · rw [if_pos (by omega), if_pos h2]
        obtain ⟨d, hd⟩ : ∃ d, i - k = d + 1 := ⟨i - k - 1, by omega⟩
        rw [hd, show i - (k + 1) = d by omega]
        simp
      · rw [if_neg (by omega), if_neg h2]

theorem acall_ok {P : Program} {idm : FuncId → FuncId} {E : Env} (h : EnvOK P idm E) : ∀ k, CFOK P idm (acall E k)
  | 0 => fun f args objs c hc => by simp [acall] at hc
  | k + 1 => by
    intro f args objs c hc m w W vs hs hr hn
    simp only [acall] at hc
    cases hF : E.fn f with
    | none => simp only [hF] at hc; exact h.ex f args objs c hc m w W vs hs hr hn
    | some F =>
      simp only [hF] at hc
      have hfl := h.fn f F hF
      unfold fnL at hfl
      cases hP : P.funcs[idm f]? with
      | none => simp [hP] at hfl
      | some fn =>
        simp only [hP, Bool.and_eq_true, decide_eq_true_eq] at hfl
        obtain ⟨⟨h1, h2⟩, h3⟩ := hfl
        cases hb : fn.body with
        | none => simp [hb] at h1
        | some body =>
          simp only [hb] at h1
          right
          refine ⟨?_, ?_⟩
          · simp [callFunc, hP, hb, h2]
          · refine calls_of_wp hP hb ?_
            cases hx : sexec (acall E k) E.raw objs.length k F.body { T := argT 0 args, H := argH 0 objs } with
            | none => simp [hx, endX] at hc
            | some p =>
              obtain ⟨e, st'⟩ := p
              have hfi : FI idm (vs.size + (fn.ntmps - vs.size)) m w W (argH 0 objs) { T := argT 0 args, H := argH 0 objs } { tmps := vs ++ Array.replicate (fn.ntmps - vs.size) undef, defers := [] } w := by
                refine ⟨rfl, m, W, { toSimH := hs, sz := by simp, t := fun i => ?_, ct := fun i x hx => ?_ }, Since.refl ..⟩
                · rw [tget_argT]
                  simp only [Nat.zero_le, if_true, Nat.sub_zero]
                  cases hi : args[i]? with
                  | none => exact .undef _
                  | some v =>
                    have hlt := (List.getElem?_eq_some_iff.1 hi).1
                    have hlt' : i < vs.size := by rw [hr.hl]; exact hlt
                    have hv : (vs ++ Array.replicate (fn.ntmps - vs.size) undef).getD i undef = vs[i] := by
                      simp [Array.getD_eq_getD_getElem?, Array.getElem?_append, hlt']
                    simp only [Option.getD_some]
                    rw [hv]
                    exact hr.h i v _ hi (Array.getElem?_eq_getElem hlt')
                · simp only [tget_argT, Nat.zero_le, if_true, Nat.sub_zero] at hx
                  cases hi : args[i]? with
                  | none => rw [hi] at hx; simp [AV.names] at hx
                  | some v => rw [hi] at hx; exact hn x (mem_namesL.2 ⟨v, List.mem_of_getElem? hi, by simpa using hx⟩)
              refine sexec_ok (acall_ok h k) k F.body body _ st' e _ w _ (codeL_mono (by omega) h1) hx hfi fun a' w' hfi' => ?_
              rw [hx] at hc
              cases e with
              | nrm =>
                simp only [endX] at hc
                obtain ⟨v, g1, g2⟩ := finish_ok h3 hc hfi'
                exact ⟨hfi'.1, v, g1, g2⟩
              | ret =>
                simp only [endX] at hc
                obtain ⟨v, g1, g2⟩ := finish_ok h3 hc hfi'
                exact ⟨hfi'.1, v, g1, g2⟩
              | ex id => simp [endX] at hc

theorem callW_ok {P : Program} {idm : FuncId → FuncId} {E : Env} (h : EnvOK P idm E) : CFOK P idm (callW E) := by
  intro f args objs c hc
  obtain ⟨k, hk⟩ := (callW_iff E f args objs c).1 hc
  exact acall_ok h k f args objs c hk
end Go.Ab
