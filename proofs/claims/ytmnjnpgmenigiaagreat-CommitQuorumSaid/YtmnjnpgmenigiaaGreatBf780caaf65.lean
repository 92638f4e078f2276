/- A part of the proof (an executor, and what it computes). -/
import Derived.Test.YtmnjnpgmenigiaaGreatBf010c3e39f
set_option linter.all false
/-! Regions: every order. -/
namespace Go.Ab
open Go

def remain (sops : List SOper) (listed : Array Bool) : List (Nat × SOper) := (enumS 0 sops).filter fun p => !listed.getD p.1 true

def Closed (ops : Array Go.Oper) (listed : Array Bool) : Prop :=
  ∀ j o, listed.getD j false = true → ops[j]? = some o → ∀ e ∈ o.after, bothM e = true → listed.getD e.on false = true

theorem Bef.listed {ops : Array Go.Oper} {listed : Array Bool} (hc : Closed ops listed) {i j : Nat} (h : Bef ops i j) : (∀ o, ops[j]? = some o → ∀ e ∈ o.after, bothM e = true → listed.getD e.on false = true) → listed.getD i false = true := by
  induction h with
  | one j o e h he hb => exact fun ha => ha o h e he hb
  | two i j o e h he hb h2 ih => exact fun ha => ih fun o' ho' => hc e.on o' (ha o h e he hb) ho'

theorem getD_tf {listed : Array Bool} {i : Nat} (h : i < listed.size) : listed.getD i true = listed.getD i false := by simp [Array.getD_eq_getD_getElem?, h]

section
variable {P : Program} {idm : FuncId → FuncId} {N : Nat} {m0 : NMap} {w0 : World} {W0 : Nat → Prop} {H0 : Hp} {cf : CF} {raw : FuncId → Bool} {r : Nat}

theorem draw_any (cfok : CFOK P idm cf) {ops : Array Go.Oper} {sops : List SOper} {pairs : List (Nat × Nat)} (hl : opersL P idm N ops ops.toList sops = true) (hd : drawOk ops sops pairs = true) (md : Region.Mode) {Q : Exit → Act → World → Prop} {fin : St}
    (hQ : ∀ a w, FI idm N m0 w0 W0 H0 fin a w → Q .normal a w) : ∀ (fuel : Nat) (listed : Array Bool) (st : St) (a : Act) (w : World) (log : List Rec) (fin' : St), (remain sops listed).length = fuel → listed.size = ops.size → Closed ops listed →
      Run cf raw r (remain sops listed) st log fin' → Eqv fin fin' → (∀ i j a b, sops[i]? = some a → sops[j]? = some b → i < j → pairFree pairs a b i j = true → MeetR r log i j) → FI idm N m0 w0 W0 H0 st a w → wpAny P md ops Q fuel listed a w := by
  obtain ⟨len, getO⟩ := opersL_get hl
  have hlen : ops.size = sops.length := by simpa using len
  have hrem : ∀ {listed : Array Bool} {i : Nat} {s : SOper}, (i, s) ∈ remain sops listed ↔ sops[i]? = some s ∧ listed.getD i true = false := by
    intro listed i s
    unfold remain
    rw [List.mem_filter, mem_enumS]
    simp only [Bool.not_eq_true', Nat.zero_add]
    constructor
    · rintro ⟨⟨j, rfl, h⟩, h2⟩; exact ⟨h, h2⟩
    · rintro ⟨h, h2⟩; exact ⟨⟨i, rfl, h⟩, h2⟩
  have hsort : ∀ listed, (remain sops listed).Pairwise fun p q => p.1 < q.1 := fun listed => enumS_sorted.sublist List.filter_sublist
  -- whoever is ready remains
  have hready : ∀ {listed : Array Bool} {i : Nat}, i ∈ Region.ready md ops listed → ∃ s, (i, s) ∈ remain sops listed := by
    intro listed i hi
    obtain ⟨h1, o, ho, _⟩ := mem_ready.1 hi
    have hlt := (Array.getElem?_eq_some_iff.1 ho).1
    exact ⟨sops[i], hrem.2 ⟨List.getElem?_eq_getElem (by omega), h1⟩⟩
  intro fuel
  induction fuel with
  | zero =>
    intro listed st a w log fin' hf hs hc hrun he hm hfi
    have hnil : remain sops listed = [] := List.eq_nil_of_length_eq_zero hf
    rw [hnil] at hrun
    cases hrun
    refine ⟨?_, hQ a w (hfi.eqv he.symm)⟩
    rw [List.eq_nil_iff_forall_not_mem]
    intro i hi
    obtain ⟨s, h⟩ := hready hi
    rw [hnil] at h; cases h
  | succ fuel ih =>
    intro listed st a w log fin' hf hs hc hrun he hm hfi
    constructor
    · intro hnone
      exfalso
      cases hL : remain sops listed with
      | nil => rw [hL] at hf; simp at hf
      | cons p L =>
        obtain ⟨i, s⟩ := p
        obtain ⟨hsi, hli⟩ := hrem.1 (show (i, s) ∈ remain sops listed by rw [hL]; exact List.mem_cons_self)
        have hilt := (List.getElem?_eq_some_iff.1 hsi).1
        exact drawOk_ready hd md hs ⟨i, by omega, by rw [← getD_tf (by omega)]; exact hli⟩ hnone
    · intro i hi
      obtain ⟨hli, o, ho, haft⟩ := mem_ready.1 hi
      obtain ⟨s, hin⟩ := hready hi
      obtain ⟨hsi, _⟩ := hrem.1 hin
      obtain ⟨pre, post, hL⟩ := List.append_of_mem hin
      have hsorted := hsort listed
      rw [hL] at hsorted
      rw [List.pairwise_append] at hsorted
      obtain ⟨_, hpost, hcross⟩ := hsorted
      obtain ⟨hpost1, _⟩ := List.pairwise_cons.1 hpost
      have hilt : i < listed.size := by have := (Array.getElem?_eq_some_iff.1 ho).1; omega
      rw [hL] at hrun
      obtain ⟨dx, fx, log', fin2, g1, g2, g3, g4, g5⟩ := Run.front hrun (fun p hp => by
        obtain ⟨k, sk⟩ := p
        have hki : k < i := hcross _ hp (i, s) List.mem_cons_self
        obtain ⟨hsk, hlk⟩ := hrem.1 (show (k, sk) ∈ remain sops listed by rw [hL]; exact List.mem_append_left _ hp)
        rcases drawOk_spec hd ho hsi k sk hki hsk with hb | hfree
        · exfalso
          have := hb.listed hc fun o' ho' e hem hbm => by rw [ho] at ho'; cases ho'; exact haft e hem (bothM_binds hbm md)
          rw [getD_tf (by omega)] at hlk
          rw [hlk] at this; cases this
        · refine ⟨?_, hm k i sk s hsk hsi hki hfree⟩
          simp only [pairFree, Bool.and_eq_true] at hfree
          exact hfree.1)
      have hnext : remain sops (listed.setIfInBounds i true) = pre ++ post := by
        have e1 : remain sops (listed.setIfInBounds i true) = (remain sops listed).filter fun p => p.1 != i := by
          unfold remain
          rw [List.filter_filter]
          refine List.filter_congr fun p hp => ?_
          by_cases hpi : i = p.1
          · subst hpi; simp [hilt]
          · rw [getD_set_ne true hpi]
            have : (p.1 != i) = true := by simp; exact fun h => hpi h.symm
            rw [this]; simp
        rw [e1, hL, List.filter_append, List.filter_cons]
        simp only [bne_self_eq_false, Bool.false_eq_true, if_false]
        congr 1
        · refine List.filter_eq_self.2 fun p hp => ?_
          have := hcross p hp (i, s) List.mem_cons_self
          simp at this ⊢; omega
        · refine List.filter_eq_self.2 fun p hp => ?_
          have := hpost1 p hp
          simp at this ⊢; omega
      refine wpOp_step cfok ho (getO i o s (by simpa using ho) hsi) hfi g1 fun a' w' hfi' => ?_
      refine ih _ _ a' w' log' fin2 ?_ (by simpa using hs) ?_ (by rw [hnext]; exact g2) (he.trans g3) (fun i' j' sa sb h1 h2 h3 h4 => ?_) hfi'
      · rw [hnext]
        rw [hL] at hf
        simp at hf ⊢
        omega
      · intro j o' hj ho' e hem hbm
        by_cases hij : i = j
        · subst hij
          rw [ho] at ho'; cases ho'
          exact getD_set_true (haft e hem (bothM_binds hbm md))
        · rw [getD_set_ne false hij] at hj
          exact getD_set_true (hc j o' hj ho' e hem hbm)
      · exact fun x hx y hy => hm i' j' sa sb h1 h2 h3 h4 x (g4 x hx) y (g4 y hy)

/-- A region in one order. -/
theorem wp_reg (cfok : CFOK P idm cf) {ops : Array Go.Oper} {sops : List SOper} (hl : opersL P idm N ops ops.toList sops = true) {Q : Exit → Act → World → Prop} {fin : St}
    (hQ : ∀ a w, FI idm N m0 w0 W0 H0 fin a w → Q .normal a w) : ∀ (l : List SOper) (k : Nat) (st : St) (a : Act) (w : World) (log : List Rec), (∀ j, l[j]? = sops[k + j]?) → Run cf raw r (enumS k l) st log fin → FI idm N m0 w0 W0 H0 st a w →
      wpOps P ops Q (List.range' k l.length) a w
  | [], k, st, a, w, log, hk, hrun, hfi => by cases hrun; exact hQ a w hfi
  | s :: l, k, st, a, w, log, hk, hrun, hfi => by
    obtain ⟨len, getO⟩ := opersL_get hl
    simp only [enumS] at hrun
    cases hrun with
    | cons _ _ _ _ d f log fin h h2 =>
      have hs : sops[k]? = some s := by simpa using (hk 0).symm
      have hlt := (List.getElem?_eq_some_iff.1 hs).1
      have ho := Array.getElem?_eq_getElem (show k < ops.size by simpa using (by omega : k < ops.toList.length))
      rw [List.length_cons, List.range'_succ, wpOps_cons]
      exact wpOp_step cfok ho (getO k _ s (by simpa using ho) hs) hfi h fun a' w' hfi' =>
        wp_reg cfok hl hQ l (k + 1) _ a' w' log (fun j => by have := hk (j + 1); simpa [Nat.add_assoc, Nat.add_comm 1 j] using this) h2 hfi'

theorem ops_region_reg (cfok : CFOK P idm cf) {ops : Array Go.Oper} {sops : List SOper} (hl : opersL P idm N ops ops.toList sops = true) {Q : Exit → Act → World → Prop} {st fin : St} (hrun : opsX cf raw r 0 sops st = some fin)
    (hQ : ∀ a w, FI idm N m0 w0 W0 H0 fin a w → Q .normal a w) {a : Act} {w : World} (hfi : FI idm N m0 w0 W0 H0 st a w) : wpOps P ops Q (List.range ops.size) a w := by
  obtain ⟨log, h⟩ := opsX_run hrun
  have len := (opersL_get hl).1
  have := wp_reg cfok hl hQ sops 0 st a w log (fun j => by simp) h hfi
  rw [List.range_eq_range']
  rw [← len] at this
  simpa using this

theorem ops_region_drawn (cfok : CFOK P idm cf) {ops : Array Go.Oper} {sops : List SOper} {pairs : List (Nat × Nat)} (hl : opersL P idm N ops ops.toList sops = true) (hd : drawOk ops sops pairs = true) {Q : Exit → Act → World → Prop} {st fin : St}
    (hrun : drawX cf raw r sops pairs st = some fin) (hQ : ∀ a w, FI idm N m0 w0 W0 H0 fin a w → Q .normal a w) {a : Act} {w : World} (hfi : FI idm N m0 w0 W0 H0 st a w) : ∀ t, wpOps P ops Q (Region.schedule (P.follows .mixedOrders) ops t) a { w with drawn := w.drawn + 1 } := by
  have len := (opersL_get hl).1
  -- a run, and who may pass whom
  obtain ⟨log, hlog, hmeet⟩ : ∃ log, Run cf raw r (enumS 0 sops) st log fin ∧ ∀ i j a b, sops[i]? = some a → sops[j]? = some b → i < j → pairFree pairs a b i j = true → MeetR r log i j := by
    have pureMeet : ∀ {log : List Rec}, Run cf raw r (enumS 0 sops) st log fin → ∀ i j a b, sops[i]? = some a → sops[j]? = some b → ((pureS a.op && noPgS b.op) || (pureS b.op && noPgS a.op)) = true → MeetR r log i j := by
      intro log hlog i j sa sb ha hb hp x hx y hy hxi hyj
      obtain ⟨o1, st1, m1, e1, p1⟩ := hlog.recs x hx
      obtain ⟨o2, st2, m2, e2, p2⟩ := hlog.recs y hy
      obtain ⟨k1, h1, h2⟩ := mem_enumS.1 m1
      obtain ⟨k2, h3, h4⟩ := mem_enumS.1 m2
      rw [Nat.zero_add] at h1 h3
      rw [← h1, hxi, ha] at h2; cases h2
      rw [← h3, hyj, hb] at h4; cases h4
      simp only [Bool.or_eq_true, Bool.and_eq_true] at hp
      rcases hp with ⟨q1, q2⟩ | ⟨q1, q2⟩
      · obtain ⟨c1, c2, c3⟩ := pure_out q1 e1
        exact .inl ⟨c2, noPg_out q2 e2, fun z hz => by rw [c1] at hz; simp [upNs] at hz, fun z hz => ⟨by rw [c3]; simp, fun hq => by rw [p1, q1] at hq; cases hq⟩⟩
      · obtain ⟨c1, c2, c3⟩ := pure_out q1 e2
        exact .inl ⟨noPg_out q2 e1, c2, fun z hz => ⟨by rw [c3]; simp, by rw [c1]; simp [upNs], fun hq => by rw [p2, q1] at hq; cases hq⟩, fun z hz => by rw [c1] at hz; simp [upNs] at hz⟩
    cases pairs with
    | nil =>
      obtain ⟨log, hlog⟩ := opsX_run (show opsX cf raw r 0 sops st = some fin from hrun)
      refine ⟨log, hlog, fun i j sa sb ha hb hij hf => ?_⟩
      simp only [pairFree, Bool.and_eq_true, List.contains_nil, Bool.false_or] at hf
      exact pureMeet hlog i j sa sb ha hb hf.2
    | cons p ps =>
      unfold drawX at hrun
      cases hx : opsLX cf raw r 0 sops st [] with
      | none => simp [hx, obind_none] at hrun
      | some x =>
        obtain ⟨fin1, lg⟩ := x
        simp only [hx, obind_some, Option.ite_none_right_eq_some, Option.some.injEq] at hrun
        obtain ⟨hall, rfl⟩ := hrun
        obtain ⟨log, hlog, hlg⟩ := opsLX_run hx
        refine ⟨log, hlog, fun i j sa sb ha hb hij hf => ?_⟩
        simp only [pairFree, Bool.and_eq_true, Bool.or_assoc] at hf
        rw [Bool.or_eq_true] at hf
        rcases hf.2 with hc | hc
        · have h1 := List.all_eq_true.1 hall (i, j) (by simpa using hc)
          obtain ⟨_, hpos⟩ := hlog.pos
          intro x hx y hy hxi hyj
          obtain ⟨kx, hkx⟩ := List.mem_iff_getElem?.1 hx
          obtain ⟨ky, hky⟩ := List.mem_iff_getElem?.1 hy
          have e1 := hpos kx x hkx
          have e2 := hpos ky y hky
          have e3 : kx = i := by omega
          have e4 : ky = j := by omega
          subst e3; subst e4
          rw [hlg] at h1
          simp only [List.nil_append, pairOk, List.getElem?_map, hkx, hky, Option.map_some] at h1
          rw [Bool.or_eq_true, Bool.or_eq_true] at h1
          exact h1.elim (fun h => h.elim (fun h => .inl (entOk_meet h)) fun h => .inr (.inl (entPg_meet h))) fun h => .inr (.inr (entRd_meet h))
        · exact pureMeet hlog i j sa sb ha hb hc
  have hrem : remain sops (Array.replicate ops.size false) = enumS 0 sops := by
    unfold remain
    refine List.filter_eq_self.2 fun p hp => ?_
    obtain ⟨i, s⟩ := p
    obtain ⟨j, h1, h2⟩ := mem_enumS.1 hp
    have hlt := (List.getElem?_eq_some_iff.1 h2).1
    have : i < ops.size := by simp at len; omega
    simp [this]
  have hel : ∀ (l : List SOper) (k : Nat), (enumS k l).length = l.length := by
    intro l
    induction l with
    | nil => exact fun _ => rfl
    | cons s l ih => exact fun k => by simp [enumS, ih]
  have any : ∀ md, wpAny P md ops Q ops.size (Array.replicate ops.size false) a { w with drawn := w.drawn + 1 } := fun md =>
    draw_any cfok hl hd md hQ ops.size _ st a _ log fin (by rw [hrem, hel]; simpa using len.symm) (by simp) (fun j o hj => by
      exfalso
      by_cases h : j < ops.size <;> simp [h] at hj) (by rw [hrem]; exact hlog) (Eqv.refl fin) hmeet hfi.drew
  intro t
  unfold Region.schedule
  split
  · exact wpAny_sound ops.size t _ a _ (any _)
  · exact wpAny_sound ops.size _ _ a _ (any _)
end
end Go.Ab

/-! The end of a call. -/
namespace Go.Ab
open Go

section
variable (P : Program) (idm : FuncId → FuncId) (N : Nat)
def rvsL : List ResultVar → List RV → Bool
  | [], [] => true
  | .tmp t :: r, .tmp t' :: q => t == t' && rvsL r q
  | .cell a t :: r, .cell a' agg size :: q => a == a' && aggT P t == some agg && sizeT P t == some size && rvsL r q
  | _, _ => false

end

def exOf : Ex → Exit
  | .nrm => .normal
  | .ex id => .exit id
  | .ret => .ret

section
variable {P : Program} {idm : FuncId → FuncId} {N : Nat} {m : NMap} {w : World} {W : Nat → Prop} {st : St} {a : Act} (s : Sim idm N m w W st a)
include s

/-- A result that lies in a variable. -/
theorem run_cell {t : TypeId} {x : Nat} {agg : Bool} {size : Nat} (hA : aggT P t = some agg) (hS : sizeT P t = some size) {y : Nm} {off : Nat} {v : AV} (hx : tget st.T x = .ptr y off) (hv : loadD st.H agg size (.ptr y off) = some v) :
    ∃ u, (do loadVar t (← asAddr (a.tmps.getD x undef)) : Sem Value).run P w = .ok u w ∧ Rep idm m w W v u ∧ ∀ z ∈ v.names, (hget st.H z).isSome = true := by
  have h1 := s.t x
  rw [hx] at h1
  generalize a.tmps.getD x undef = ux at h1
  cases h1 with
  | ptr _ _ b hb =>
    simp only [loadD] at hv
    cases ho' : hget st.H y with
    | none => simp [ho'] at hv
    | some ob =>
      rw [ho'] at hv
      cases ob with
      | box cs =>
        simp only at hv
        obtain ⟨b', c, e, g1, g2, g3, g4, g5, g6, g7⟩ := s.h y _ ho'
        rw [hb] at g1; cases g1
        have hn : ∀ z ∈ namesL cs, (hget st.H z).isSome = true := fun z hz => s.ch y _ z ho' hz
        have hcell : ∀ j, off + j < c.size → w.cell? ((⟨b, off, none⟩ : Addr).add j) = some (c.getD (off + j) undef) := by
          intro j hj
          rw [add_at, cell_of_row w b (off + j) c e (0, 0) g2]
          simp [Array.getElem?_eq_getElem hj, Array.getD_eq_getD_getElem?]
        have hget : ∀ i, i < c.size → c[i]? = some (c.getD i undef) := fun i hi => by simp [Array.getElem?_eq_getElem hi, Array.getD_eq_getD_getElem?]
        have hrun : ∀ {agg : Bool}, aggT P t = some agg → (∀ j, j < (if agg then size else 1) → off + j < c.size) →
            (do loadVar t (← asAddr (.pointer (some ⟨b, off, none⟩))) : Sem Value).run P w = .ok (if agg then .agg ((List.range size).map fun j => c.getD (off + j) undef).toArray else c.getD (off + 0) undef) w := by
          intro agg hA hj
          simp only [asAddr, loadVar, Sem.run_bind, Sem.run_pure, Result.andThen_ok, run_isAgg hA]
          cases agg with
          | true => simp only [if_true, Sem.run_bind, run_sizeT hS, Result.andThen_ok, run_loadCells (P := P) w ⟨b, off, none⟩ size (fun j => c.getD (off + j) undef) (fun j hj' => hcell j (hj j (by simpa using hj'))), Sem.run_pure]
          | false =>
            have := hcell 0 (hj 0 (by simp))
            rw [show (⟨b, off, none⟩ : Addr).add 0 = ⟨b, off, none⟩ by simp [Addr.add]] at this
            simp only [Bool.false_eq_true, if_false, run_load, this]
        rcases partA_some hv with ⟨rfl, hl, rfl⟩ | ⟨rfl, hc0⟩
        · refine ⟨_, hrun hA (fun j hj => by simp at hj; omega), ?_, fun z hz => ?_⟩
          · simp only [if_true]
            refine rep_mkAgg (by simp; omega) (fun c hc => g4 c (mem_slice s hc)) ?_ fun i av u hi hu => ?_
            · intro u hu
              simp at hu
              obtain ⟨j, hj, rfl⟩ := hu
              have hlt : off + j < c.size := by omega
              simp [Array.getElem?_eq_getElem hlt]
              exact g5 _ (Array.getElem_mem hlt)
            · rw [List.getElem?_take] at hi
              split at hi
              · rename_i hlt
                rw [List.getElem?_drop] at hi
                have hlt2 : off + i < c.size := by omega
                simp [hlt, Array.getElem?_eq_getElem hlt2] at hu
                subst hu
                exact g6 (off + i) av _ hi (by simp [Array.getElem?_eq_getElem hlt2])
              · cases hi
          · have := names_mkAgg hz
            obtain ⟨q, hq, hq'⟩ := mem_namesL.1 this
            exact hn z (mem_namesL.2 ⟨q, mem_slice s hq, hq'⟩)
        · have hlt : off < c.size := by
            have := (List.getElem?_eq_some_iff.1 hc0).1
            omega
          refine ⟨_, hrun hA (fun j hj => by simp at hj; omega), ?_, fun z hz => hn z (mem_namesL.2 ⟨v, List.mem_of_getElem? hc0, hz⟩)⟩
          simp only [Bool.false_eq_true, if_false]
          exact g6 off v _ hc0 (by rw [Nat.add_zero]; exact hget off hlt)
      | _ => simp at hv

def resOf (tmps : Array Value) : ResultVar → Sem Value
  | .tmp t => pure (tmps.getD t undef)
  | .cell a t => do loadVar t (← asAddr (tmps.getD a undef))

theorem run_results : ∀ {rs : List ResultVar} {rv : List RV} {vs : List AV}, rvsL P rs rv = true → rvGets st.T st.H rv = some vs → ∃ us, (rs.mapM (resOf a.tmps) : Sem (List Value)).run P w = .ok us w ∧
    us.length = vs.length ∧ (∀ (i : Nat) (c : AV) (v : Value), vs[i]? = some c → us[i]? = some v → Rep idm m w W c v) ∧ ∀ z ∈ namesL vs, (hget st.H z).isSome = true
  | [], rv, vs, hl, h => by
    cases rv <;> simp [rvsL] at hl
    simp only [rvGets, Option.some.injEq] at h
    subst h
    exact ⟨[], by simp, rfl, fun i c v h => by simp at h, by simp [namesL]⟩
  | r0 :: rs, [], vs, hl, h => by cases r0 <;> simp [rvsL] at hl
  | r0 :: rs, rv :: rvs, vs, hl, h => by
    simp only [rvGets] at h
    cases h0 : rvGet st.T st.H rv with
    | none => simp [h0] at h
    | some v => cases h1 : rvGets st.T st.H rvs with
      | none => simp [h0, h1] at h
      | some vs' =>
        simp only [h0, h1, Option.some.injEq] at h
        subst h
        have one : rvsL P rs rvs = true ∧ ∃ u, (resOf a.tmps r0).run P w = .ok u w ∧ Rep idm m w W v u ∧ ∀ z ∈ v.names, (hget st.H z).isSome = true := by
          cases r0 with
          | tmp t => cases rv with
            | tmp t' =>
              simp only [rvsL, Bool.and_eq_true, beq_iff_eq] at hl
              obtain ⟨rfl, hl⟩ := hl
              simp only [rvGet, Option.some.injEq] at h0
              subst h0
              exact ⟨hl, _, by simp [resOf], s.t t, s.ct t⟩
            | cell => simp [rvsL] at hl
          | cell x t => cases rv with
            | tmp => simp [rvsL] at hl
            | cell x' agg size =>
              simp only [rvsL, Bool.and_eq_true, beq_iff_eq] at hl
              obtain ⟨⟨⟨rfl, hA⟩, hS⟩, hl⟩ := hl
              simp only [rvGet] at h0
              split at h0
              · rename_i y off hx
                exact ⟨hl, run_cell s hA hS hx h0⟩
              · cases h0
        obtain ⟨hl', u, hu, hr, hn⟩ := one
        obtain ⟨us, g1, g2, g3, g4⟩ := run_results hl' h1
        refine ⟨u :: us, by simp [List.mapM_cons, hu, g1], by simp [g2], fun i c x hc hx => ?_, fun z hz => ?_⟩
        · cases i with
          | zero => simp at hc hx; subst hc; subst hx; exact hr
          | succ i => simp at hc hx; exact g3 i c x hc hx
        · simp only [namesL, List.mem_append] at hz
          rcases hz with hz | hz
          · exact hn z hz
          · exact g4 z hz

theorem run_res {fn : Func} {rv : List RV} {vs : List AV} (hl : rvsL P fn.results.toList rv = true) (h : rvGets st.T st.H rv = some vs) : ∃ us : Array Value, (results fn a.tmps).run P w = .ok (if h : us.size = 1 then us[0] else .tuple us) w ∧
    Reps idm m w W vs us ∧ ∀ z ∈ namesL vs, (hget st.H z).isSome = true := by
  obtain ⟨us, g1, g2, g3, g4⟩ := run_results s hl h
  refine ⟨us.toArray, ?_, ⟨by simpa using g2, fun i c v hc hv => g3 i c v hc (by simpa using hv)⟩, g4⟩
  have e : results fn a.tmps = (do let vs ← fn.results.mapM (resOf a.tmps); pure (if h : vs.size = 1 then vs[0] else .tuple vs)) := by
    unfold results
    congr 1
  rw [e, Array.mapM_eq_mapM_toList, map_eq_pure_bind]
  simp only [Sem.run_bind, g1, Result.andThen_ok, Sem.run_pure]
end

theorem tup1_rep {idm : FuncId → FuncId} {m : NMap} {w : World} {W : Nat → Prop} {vs : List AV} {us : Array Value} (h : Reps idm m w W vs us) : Rep idm m w W (tup1 vs) (if h : us.size = 1 then us[0] else .tuple us) := by
  unfold tup1
  split
  · rename_i v
    have hs : us.size = 1 := h.hl
    rw [dif_pos hs]
    exact h.h 0 v _ rfl (by simp [hs])
  · rename_i hne
    have hs : us.size ≠ 1 := fun e => by
      have := h.hl
      rw [e] at this
      match vs, this, hne with
      | [v], _, hne => exact hne v rfl
    rw [dif_neg hs]
    exact .tup _ _ h.hl h.h
theorem tup1_names {vs : List AV} {x : Nm} (h : x ∈ (tup1 vs).names) : x ∈ namesL vs := by
  unfold tup1 at h
  split at h
  · simpa [namesL] using h
  · simpa [AV.names] using h

theorem hgets_append {H : Hp} : ∀ {a b : List Nm} {x y : List AObj}, hgets H a = some x → hgets H b = some y → hgets H (a ++ b) = some (x ++ y)
  | [], b, x, y, h1, h2 => by simp only [hgets, Option.some.injEq] at h1; subst h1; exact h2
  | n :: a, b, x, y, h1, h2 => by
    simp only [hgets] at h1
    cases hn : hget H n with
    | none => simp [hn] at h1
    | some o => cases ha : hgets H a with
      | none => simp [hn, ha] at h1
      | some os =>
        simp only [hn, ha, Option.some.injEq] at h1
        subst h1
        simp only [List.cons_append, hgets, hn, hgets_append ha h2]
theorem renOs_append {f : Nm → Option Nm} : ∀ {a b x y : List AObj}, renOs f a = some x → renOs f b = some y → renOs f (a ++ b) = some (x ++ y)
  | [], b, x, y, h1, h2 => by simp only [renOs, Option.some.injEq] at h1; subst h1; exact h2
  | n :: a, b, x, y, h1, h2 => by
    simp only [renOs] at h1
    cases hn : n.ren f with
    | none => simp [hn] at h1
    | some o => cases ha : renOs f a with
      | none => simp [hn, ha] at h1
      | some os =>
        simp only [hn, ha, Option.some.injEq] at h1
        subst h1
        simp only [List.cons_append, renOs, hn, renOs_append ha h2]

theorem extNs_get : ∀ {n k i : Nat}, i < n → (extNs k n)[i]? = some (.ext (k + i))
  | 0, k, i, h => by omega
  | n + 1, k, i, h => by
    cases i with
    | zero => simp [extNs]
    | succ i =>
      simp only [extNs, List.getElem?_cons_succ]
      rw [extNs_get (by omega)]
      congr 2
      omega
theorem extNs_length : ∀ {n k : Nat}, (extNs k n).length = n
  | 0, k => rfl
  | n + 1, k => by simp [extNs, extNs_length]

section
variable {P : Program} {idm : FuncId → FuncId} {N : Nat} {m0 : NMap} {w : World} {w0 : World} {W0 : Nat → Prop} {a : Act}

theorem finish_ok {objs : List AObj} {F : SFn} {fn : Func} (hl : rvsL P fn.results.toList F.rv = true) {st : St} {c : CR} (h : finish F objs.length st = some c) (hfi : FI idm N m0 w0 W0 (argH 0 objs) st a w) :
    ∃ v, (results fn a.tmps).run P w = .ok v w ∧ CallPost idm m0 w0 W0 objs c v w := by
  obtain ⟨h0, m, W, s, si⟩ := hfi
  unfold finish at h
  cases hrv : rvGets st.T st.H F.rv with
  | none => simp [hrv] at h
  | some vs =>
    simp only [hrv] at h
    obtain ⟨us, hrun, hreps, hnm⟩ := run_res (P := P) s hl hrv
    refine ⟨_, hrun, ?_⟩
    -- the general case
    have gen : finish.finishG F objs.length st vs = some c → CallPost idm m0 w0 W0 objs c (if h : us.size = 1 then us[0] else .tuple us) w := by
      intro h
      unfold finish.finishG at h
      -- what is frozen
      obtain ⟨vs', u, W1, s1, si1, hreps1, hv', hH1⟩ : ∃ (vs' : List AV) (u : Hp) (W1 : Nat → Prop), SimH idm m w W1 (u ++ st.H) ∧ Since m0 w0 W0 (argH 0 objs) m w W1 (u ++ st.H) ∧ Reps idm m w W1 vs' us ∧
          (if F.rawR = true then some vs else frzL st.H vs) = some vs' ∧ (if F.rawR = true then st.H else frzUp st.H (frzNs vs) ++ st.H) = u ++ st.H := by
        by_cases hraw : F.rawR = true
        · exact ⟨vs, [], W, s.toSimH, si, hreps, by simp [hraw], by simp [hraw]⟩
        · simp only [hraw, if_false] at h ⊢
          cases hf : frzL st.H vs with
          | none => simp [hf] at h
          | some vs' =>
            have gz := Good.freeze s.toSimH (frzNs vs) .undef
            exact ⟨vs', frzUp st.H (frzNs vs), _, gz.simH s.toSimH, si.trans (gz.since s.toSimH), (frzL_reps s.toSimH hreps hf).1, rfl, rfl⟩
      rw [hv', hH1] at h
      simp only at h
      cases hall : reach (u ++ st.H) 64 (extNs 0 objs.length ++ namesL vs') [] with
      | none => simp [hall] at h
      | some all =>
        simp only [hall] at h
        split at h
        · rename_i htake
          cases e1 : renL (outNm objs.length (all.drop objs.length)) vs' with
          | none => simp [e1] at h
          | some vs2 => cases e2 : hgets (u ++ st.H) (extNs 0 objs.length) with
            | none => simp [e1, e2] at h
            | some os => cases e3 : hgets (u ++ st.H) (all.drop objs.length) with
              | none => simp [e1, e2, e3] at h
              | some news => cases e4 : renOs (outNm objs.length (all.drop objs.length)) os with
                | none => simp [e1, e2, e3, e4] at h
                | some outs => cases e5 : renOs (outNm objs.length (all.drop objs.length)) news with
                  | none => simp [e1, e2, e3, e4, e5] at h
                  | some news' =>
                    simp only [e1, e2, e3, e4, e5, Option.some.injEq] at h
                    subst h
                    have hsplit : all = extNs 0 objs.length ++ all.drop objs.length := by rw [← htake]; exact (List.take_append_drop _ _).symm
                    have hnd := reach_nodup hall List.nodup_nil
                    have hfx : ∀ x y, outNm objs.length (all.drop objs.length) x = some y → ∃ i, y = .ext i ∧ all[i]? = some x := by
                      intro x y hxy
                      cases x with
                      | ext k =>
                        simp only [outNm, Option.ite_none_right_eq_some, Option.some.injEq] at hxy
                        obtain ⟨hk, rfl⟩ := hxy
                        refine ⟨k, rfl, ?_⟩
                        rw [hsplit, List.getElem?_append_left (by rw [extNs_length]; exact hk), extNs_get hk, Nat.zero_add]
                      | loc r i j =>
                        simp only [outNm] at hxy
                        obtain ⟨q, hq, rfl⟩ := Option.map_eq_some_iff.1 hxy
                        obtain ⟨p, rfl, hp⟩ := nidx_get hq
                        refine ⟨objs.length + (0 + p), rfl, ?_⟩
                        rw [hsplit, List.getElem?_append_right (by rw [extNs_length]; omega), extNs_length]
                        rw [show objs.length + (0 + p) - objs.length = p by omega]
                        exact hp
                    have hO : hgets (u ++ st.H) all = some (os ++ news) := by rw [hsplit]; exact hgets_append e2 e3
                    have hR : renOs (outNm objs.length (all.drop objs.length)) (os ++ news) = some (outs ++ news') := renOs_append e4 e5
                    have s2 := simH_args s1 hnd hO hfx hR
                    obtain ⟨l1, g1⟩ := hgets_get hO
                    obtain ⟨l2, g2⟩ := renOs_get hR
                    obtain ⟨l3, _⟩ := hgets_get e2
                    obtain ⟨l4, _⟩ := renOs_get e4
                    rw [extNs_length] at l3
                    have back : ∀ {x : Nm} {o : AObj}, hget (argH 0 (outs ++ news')) x = some o → ∃ k y o1, x = .ext k ∧ all[k]? = some y ∧ hget (u ++ st.H) y = some o1 ∧ o.frozen = o1.frozen := by
                      intro x o hx
                      obtain ⟨k, rfl, h1⟩ := hget_argH.1 hx
                      obtain ⟨o1, h2, h3⟩ := g2 k o h1
                      obtain ⟨y, h4, h5⟩ := g1 k o1 h2
                      exact ⟨k, y, o1, by rw [Nat.zero_add], h4, h5, AObj.frozen_ren h3⟩
                    have hlen : all.length = (outs ++ news').length := by omega
                    refine ⟨mcOf m all, W1, by show outs.length = objs.length; omega, s2, ⟨⟨si1.tr.toKeep, si1.tr.sub, si1.tr.sup, ?_⟩, ?_, ?_⟩, ?_, ?_⟩
                    · rintro i hi ⟨x, o, hx, hf, hb⟩
                      obtain ⟨k, y, o1, rfl, h1, h2, h3⟩ := back hx
                      rw [mcOf_ext h1] at hb
                      exact si1.tr.own i hi ⟨y, o1, h2, by rw [← h3]; exact hf, hb⟩
                    · intro x o b hx hb hlt
                      obtain ⟨k, y, o1, rfl, h1, h2, h3⟩ := back hx
                      rw [mcOf_ext h1] at hb
                      obtain ⟨o0, h4, h5⟩ := si1.born y o1 b h2 hb hlt
                      obtain ⟨j, rfl, h6⟩ := hget_argH.1 h4
                      have hj := (List.getElem?_eq_some_iff.1 h6).1
                      rw [Nat.zero_add] at h1 h4 h5
                      have : all[j]? = some (.ext j) := by rw [hsplit, List.getElem?_append_left (by rw [extNs_length]; exact hj), extNs_get hj, Nat.zero_add]
                      have := nodup_inj hnd h1 this
                      subst this
                      exact ⟨o0, h4, h5⟩
                    · intro k hk
                      have : all[k]? = some (.ext k) := by rw [hsplit, List.getElem?_append_left (by rw [extNs_length]; exact hk), extNs_get hk, Nat.zero_add]
                      rw [mcOf_ext this]
                      exact si1.ext k
                    · obtain ⟨l5, g5⟩ := renL_get e1
                      refine tup1_rep ⟨by rw [l5]; exact hreps1.hl, fun i c v hc hv => ?_⟩
                      obtain ⟨c0, h1, h2⟩ := g5 i c hc
                      exact (hreps1.h i c0 v h1 hv).ren _ c h2 fun x hx y hy => by
                        obtain ⟨j, rfl, hj⟩ := hfx x y hy
                        exact mcOf_ext hj
                    · intro y hy
                      obtain ⟨x, hx, hxy⟩ := namesL_ren _ y vs' vs2 e1 (tup1_names hy)
                      obtain ⟨j, rfl, hj⟩ := hfx x y hxy
                      exact argH_some.2 ⟨j, rfl, by rw [← hlen]; exact (List.getElem?_eq_some_iff.1 hj).1⟩
        · cases h
    split at h
    · rename_i hn
      have hobj : objs = [] := List.eq_nil_of_length_eq_zero hn
      subst hobj
      split at h
      · rename_i ps hp
        simp only [Option.some.injEq] at h
        subst h
        refine ⟨m, W, rfl, { h := fun x o h => by simp [argH, hget] at h, sep := fun x y o o' b h => by simp [argH, hget] at h, ch := fun y o x h => by simp [argH, hget] at h, lt := s.lt }, ?_, tup1_rep hreps, fun y hy => ?_⟩
        · have := si.less (H2 := []) fun x o h => by simp [hget] at h
          exact ⟨this.tr, this.born, fun k hk => this.ext k⟩
        · have := tup1_names hy
          rw [(allP_names hp).1] at this; cases this
      · exact gen h
    · exact gen h
end

/-! ### All calls -/

/-- The end of a frame, marks among its deferred calls. -/
theorem FI.quiet {P : Program} {idm : FuncId → FuncId} {N : Nat} {m0 : NMap} {w0 : World} {W0 : Nat → Prop} {H0 : Hp} {st : St} {a a' : Act} {w w' : World} (h : FI idm N m0 w0 W0 H0 st a w) (q : Quiet w0.heap.size w w') (ht : a'.tmps = a.tmps) (hm : Marks w0.heap.size a'.defers w') : FI idm N m0 w0 W0 H0 st a' w' := by
  obtain ⟨_, m, W, s, si⟩ := h
  have s' := s.quiet q
  exact ⟨hm, m, W, { toSimH := s'.toSimH, sz := by rw [ht]; exact s'.sz, t := fun i => by rw [ht]; exact s'.t i, ct := s'.ct }, si.quiet q (Nat.le_refl _)⟩
theorem leave_ok {P : Program} {idm : FuncId → FuncId} {N : Nat} {m0 : NMap} {w0 : World} {W0 : Nat → Prop} {objs : List AObj} {F : SFn} {fn : Func} (hl : rvsL P fn.results.toList F.rv = true) {st : St} {c : CR} (h : finish F objs.length st = some c) {a : Act} {w : World} (hfi : FI idm N m0 w0 W0 (argH 0 objs) st a w)
    {R : Ending → World → Prop} {n : Nat} (hR : ∀ v w', CallPost idm m0 w0 W0 objs c v w' → R (.returned v) w') : LeavesInM Fence.wide n P fn a.tmps R a.defers .returning w :=
  leaves_marks (B := w0.heap.size) a.defers w hfi.1 fun w' q => by
    obtain ⟨v, g1, g2⟩ := finish_ok (P := P) hl h (hfi.quiet (P := P) (a' := { tmps := a.tmps, defers := [] }) q rfl (Marks.nil _ _))
    exact ⟨v, g1, hR v w' g2⟩
end Go.Ab

/-! A range over slices.Backward of whole numbers. -/
namespace Go.Ab
open Go

/-! ### Operations in a row -/
def noDef : Op → Bool
  | .move _ | .assign _ | .load .. | .binOp .. | .unOp .. | .indexAddr .. => true
  | .call c => match c.callee with
    | .builtin .len => true
    | _ => false
  | _ => false
theorem run_val_ne {P : Program} {s : Sem Value} {w w' : World} {d : Deferred} (h : (do pure (Next.value (← s)) : Sem Next).run P w = .ok (.defer d) w') : False := by
  rw [Sem.run_bind] at h
  cases hs : s.run P w with
  | ok v w1 => simp [hs, Result.andThen] at h
  | halt x w1 => simp [hs, Result.andThen] at h
theorem noDef_run {P : Program} {o : Go.Oper} (h : noDef o.op = true) {ρ : Operand → Value} {w w' : World} {d : Deferred} (hr : (execOp ρ o).run P w = .ok (.defer d) w') : False := by
  unfold execOp at hr
  cases hop : o.op with
  | call c =>
    rw [hop] at h hr
    simp only [noDef] at h
    split at h
    · rename_i hc
      simp only [resolve, hc, invoke, builtin, Sem.run_bind, Sem.run_pure, Result.andThen_ok] at hr
      cases hs : Sem.run P (Builtin.len_ c.argTypes o.type (Array.map ρ c.args)) w with
      | ok v w1 => simp [hs, Result.andThen] at hr
      | halt x w1 => simp [hs, Result.andThen] at hr
    · cases h
  | move x => rw [hop] at hr; simp at hr
  | assign x => rw [hop] at hr; simp at hr
  | load t x => rw [hop] at hr; exact run_val_ne hr
  | binOp a b c d e => rw [hop] at hr; exact run_val_ne hr
  | unOp a b c => rw [hop] at hr; exact run_val_ne hr
  | indexAddr a b c => rw [hop] at hr; exact run_val_ne hr
  | _ => rw [hop] at h; simp [noDef] at h
theorem opsIn_bind {P : Program} {ops : Array Go.Oper} {F : Fence} {n : Nat} {Q1 Q : Exit → Act → World → Prop} (hnd : ∀ (i : Nat) (o : Go.Oper), ops[i]? = some o → ∀ c, o.op ≠ .defer c) {l2 : List Nat}
    (hn : ∀ e a w, Q1 e a w → e = .normal) : ∀ (l1 : List Nat) (a : Act) (w : World), (∀ i ∈ l1, ∀ o, ops[i]? = some o → noDef o.op = true) → wpOpsIn F n P ops Q1 l1 a w →
    (∀ a' w', Q1 .normal a' w' → a'.defers = a.defers → wpOpsIn F n P ops Q l2 a' w') → wpOpsIn F n P ops Q (l1 ++ l2) a w
  | [], a, w, _, h, hq => hq a w h rfl
  | i :: rest, a, w, hd0, h, hq => by
    have hput : ∀ d v, (a.put d v).defers = a.defers := fun d v => by cases d <;> rfl
    have ih := fun a' w' (h' : wpOpsIn F n P ops Q1 rest a' w') (hd : a'.defers = a.defers) => opsIn_bind (F := F) (n := n) (Q := Q) (l2 := l2) hnd hn rest a' w' (fun i hi => hd0 i (List.mem_cons_of_mem _ hi)) h' (fun a2 w2 h2 hd2 => hq a2 w2 h2 (hd2.trans hd))
    simp only [List.cons_append, wpOpsIn] at h ⊢
    cases ho : ops[i]? with
    | none => simp only [ho] at h; exact ih a w h rfl
    | some o =>
      simp only [ho] at h
      by_cases hw : Region.wanted o (yielded ops a.tmps) = true
      · simp only [hw, if_true] at h ⊢
        obtain ⟨h0, h⟩ := h
        refine ⟨h0, ?_⟩
        rw [Oper.semAt_eq _ _ _ (hnd i o ho)] at h ⊢
        unfold Oper.uponIn at h ⊢
        have hne : ∀ {e a w}, e ≠ .normal → ¬ Q1 e a w := fun hx hq1 => hx (hn _ _ _ hq1)
        generalize hres : (execOp a.eval o).run P w = res at h ⊢
        split at h
        · exact ih _ _ h (hput _ _)
        · exact ih _ _ h (hput _ _)
        · rename_i d w'
          exact (noDef_run (hd0 i List.mem_cons_self o ho) hres).elim
        · refine ⟨h.1, h.2.mono fun e w' he => ?_⟩
          cases e with
          | returned v => exact ih _ _ he (hput _ _)
          | panicked chain => exact absurd he (hne (by simp))
          | outgrown => obtain ⟨a0, w0, hx⟩ := he; exact absurd hx (hne (by simp))
        · exact ⟨h.1, h.2.mono fun v w' he => ih _ _ he (hput _ _)⟩
        · refine ⟨h.1, h.2.mono fun e w' he => ?_⟩
          cases e with
          | returned v => exact ih _ _ he (hput _ _)
          | panicked chain => exact absurd he (hne (by simp))
          | outgrown => obtain ⟨a0, w0, hx⟩ := he; exact absurd hx (hne (by simp))
        · exact absurd h (hne (by simp))
        · exact h.elim
      · simp only [hw, Bool.false_eq_true, if_false] at h ⊢
        exact ⟨h.1, ih _ _ h.2 (hput _ _)⟩

section
variable {P : Program} {idm : FuncId → FuncId} {N : Nat} {m0 : NMap} {w0 : World} {W0 : Nat → Prop} {H0 : Hp} {cf : CF} {raw : FuncId → Bool} {r : Nat}
/-- Some operations of a region, one after the other. -/
theorem ops_pre (cfok : CFOK P idm cf) {ops : Array Go.Oper} {Q : Exit → Act → World → Prop} {fin : St} (hQ : ∀ a w, FI idm N m0 w0 W0 H0 fin a w → Q .normal a w) :
    ∀ (l : List SOper) (k : Nat) (st : St) (a : Act) (w : World) (log : List Rec), (∀ (j : Nat) s, l[j]? = some s → ∃ o, ops[k + j]? = some o ∧ operL P idm N ops o s = true) → Run cf raw r (enumS k l) st log fin → FI idm N m0 w0 W0 H0 st a w →
      wpOps P ops Q (List.range' k l.length) a w
  | [], k, st, a, w, log, hk, hrun, hfi => by cases hrun; exact hQ a w hfi
  | s :: l, k, st, a, w, log, hk, hrun, hfi => by
    simp only [enumS] at hrun
    cases hrun with
    | cons _ _ _ _ d f log fin h h2 =>
      obtain ⟨o, ho, hl⟩ := hk 0 s rfl
      rw [List.length_cons, List.range'_succ, wpOps_cons]
      exact wpOp_step cfok ho hl hfi h fun a' w' hfi' =>
        ops_pre cfok hQ l (k + 1) _ a' w' log (fun j s' hs => by have := hk (j + 1) s' (by simpa using hs); simpa [Nat.add_assoc, Nat.add_comm 1 j] using this) h2 hfi'

theorem Sim.eqv {m : NMap} {w : World} {W : Nat → Prop} {st st' : St} {a : Act} (s : Sim idm N m w W st a) (e : Eqv st st') : Sim idm N m w W st' a :=
  { h := fun x o hx => s.h x o (by rw [e.h]; exact hx), sep := fun x y o o' b hx hy => s.sep x y o o' b (by rw [e.h]; exact hx) (by rw [e.h]; exact hy), ch := fun y o x hy hx => (e.h x) ▸ s.ch y o x (by rw [e.h]; exact hy) hx, lt := s.lt, sz := s.sz, t := fun i => (e.t i) ▸ s.t i, ct := fun i x hx => (e.h x) ▸ s.ct i x (by rw [e.t]; exact hx) }
end

/-! ### The iterator's frame -/
def boxO (zs : List Int) : AObj := .box [.p (.sl 1 (zs.map (.int .i64)))]
def itH (zs : List Int) : Hp := [(.ext 0, some (boxO zs))]
/-- What a value of the iterator's frame is. -/
def sv (b : Nat) (v : AV) (u : Value) : Prop :=
  match v with
  | .p (.int k n) => u = .int k n
  | .p (.bool c) => u = .bool c
  | .yld l => u = .func (.yield l) #[] #[]
  | .ptr (.ext 0) 0 => u = .pointer (some ⟨b, 0, none⟩)
  | .undef => True
  | _ => False
def simp1 : AV → Bool
  | .p (.int ..) => true
  | .p (.bool _) => true
  | .yld _ => true
  | .ptr (.ext 0) 0 => true
  | .undef => true
  | _ => false
theorem sv_rep {idm : FuncId → FuncId} {m : NMap} {w : World} {W : Nat → Prop} {b : Nat} {v : AV} {u : Value} (hb : (m (.ext 0)).base = some b) (h : sv b v u) : Rep idm m w W v u ∧ ∀ x ∈ v.names, x = .ext 0 := by
  unfold sv at h
  split at h
  · subst h; exact ⟨.p _ _ (.int ..), by simp [AV.names]⟩
  · subst h; exact ⟨.p _ _ (.bool _), by simp [AV.names]⟩
  · subst h; exact ⟨.yld _, by simp [AV.names]⟩
  · subst h; exact ⟨.ptr _ _ _ hb, by simp [AV.names]⟩
  · exact ⟨.undef _, by simp [AV.names]⟩
  · exact h.elim
theorem rep_sv {idm : FuncId → FuncId} {m : NMap} {w : World} {W : Nat → Prop} {b : Nat} {v : AV} {u : Value} (hb : (m (.ext 0)).base = some b) (h : Rep idm m w W v u) (hs : simp1 v = true) : sv b v u := by
  unfold simp1 at hs
  split at hs
  · cases h with | p _ _ h => cases h; rfl
  · cases h with | p _ _ h => cases h; rfl
  · cases h; rfl
  · cases h with | ptr _ _ b' hb' => rw [hb] at hb'; cases hb'; rfl
  · trivial
  · cases hs

/-- The frame of the loop's statement, seen from the iterator's. -/
structure OJ (idm : FuncId → FuncId) (N : Nat) (m0 : NMap) (w0 : World) (W0 : Nat → Prop) (H0 : Hp) (T : Tm) (H : Hp) (a : Act) (y : Nm) (b l : Nat) (rc : Loop) (w : World) : Prop where
  mrk : Marks w0.heap.size a.defers w
  sim : ∃ m W, Sim idm N m w W ⟨T, H⟩ a ∧ Since m0 w0 W0 H0 m w W H ∧ (m y).base = some b
  lp : w.heap[l]? = some (.loop rc)
  lo : w0.heap.size ≤ l
structure ItJ (idm : FuncId → FuncId) (N : Nat) (m0 : NMap) (w0 : World) (W0 : Nat → Prop) (H0 : Hp) (T : Tm) (H : Hp) (a : Act) (y : Nm) (zs : List Int) (b l : Nat) (rc : Loop) (Ti : Tm) (ai : Act) (w : World) : Prop where
  o : OJ idm N m0 w0 W0 H0 T H a y b l rc w
  d : ai.defers = []
  sz : ai.tmps.size = 19
  box : hget H y = some (boxO zs)
  v : ∀ i, sv b (tget Ti i) (ai.tmps.getD i undef)

section
variable {P : Program} {idm : FuncId → FuncId} {N : Nat} {m0 : NMap} {w0 : World} {W0 : Nat → Prop} {H0 : Hp} {T : Tm} {H : Hp} {a : Act} {y : Nm} {zs : List Int} {b l : Nat} {rc : Loop}

theorem ItJ.less {Ti T2 : Tm} {ai : Act} {w : World} (J : ItJ idm N m0 w0 W0 H0 T H a y zs b l rc Ti ai w) (h : ∀ i, tget T2 i = .undef ∨ tget T2 i = tget Ti i) : ItJ idm N m0 w0 W0 H0 T H a y zs b l rc T2 ai w :=
  { o := J.o, d := J.d, sz := J.sz, box := J.box, v := fun i => by
      rcases h i with e | e
      · rw [e]; trivial
      · rw [e]; exact J.v i }

theorem loop_not_own {m : NMap} {w : World} {W : Nat → Prop} {H : Hp} (s : SimH idm m w W H) {l : Nat} {rc : Loop} (hl : w.heap[l]? = some (.loop rc)) {x : Nm} {o : AObj} (hx : hget H x = some o) : (m x).base ≠ some l := by
  intro hb
  obtain ⟨c, e, f, hc⟩ := s.own_cells hx hb
  rw [hl] at hc; cases hc

/-- Behind what a frame with the names ns has done. -/
theorem OJ.after {w : World} (J : OJ idm N m0 w0 W0 H0 T H a y b l rc w) (hy : (hget H y).isSome = true) {m : NMap} {W : Nat → Prop} (s : Sim idm N m w W ⟨T, H⟩ a) (si : Since m0 w0 W0 H0 m w W H) (hb : (m y).base = some b)
    {ns : List Nm} (hn : ns.Nodup) {os os' : List AObj} (ho : hgets H ns = some os) (hr : renOs (toExt ns) os = some os') {c : CR} {v : Value} {w' : World} (hc : c.news = []) (hv : c.v = .tup [] ∨ c.v = .undef)
    (hp : CallPost idm (mcOf m ns) w W os' c v w') {outs : List AObj} (h1 : renOs (fromExt ns 0 0) c.outs = some outs) :
    OJ idm N m0 w0 W0 H0 T (zipUp ns outs ++ H) a y b l rc w' := by
  obtain ⟨cv, couts, cnews⟩ := c
  dsimp only at hc hv h1
  subst hc
  have hav : ∃ av, cv.ren (fromExt ns 0 0) = some av ∧ av.names = [] := by
    rcases hv with rfl | rfl
    · exact ⟨.tup [], rfl, rfl⟩
    · exact ⟨.undef, rfl, rfl⟩
  obtain ⟨av, hav, hnm⟩ := hav
  obtain ⟨m2, W2, g, hrep, _⟩ := good_after s.toSimH hn ho hr hp hav h1 (news := []) rfl rfl
  have hup : zipUp ns outs ++ newUp 0 0 0 [] = zipUp ns outs := by simp [newUp]
  obtain ⟨s2, _⟩ := g.step s none (fun t h => by cases h) v hrep (by rw [hnm]; intro y h; cases h)
  have e : putD none { v := av, up := zipUp ns outs ++ newUp 0 0 0 [] } T H = ⟨T, zipUp ns outs ++ H⟩ := by rw [hup]; rfl
  rw [e] at s2
  have si2 := si.trans (g.since s.toSimH)
  have e2 : (zipUp ns outs ++ newUp 0 0 0 []) ++ pgH none H = zipUp ns outs ++ H := by rw [hup]; rfl
  rw [show ({ v := av, up := zipUp ns outs ++ newUp 0 0 0 [] } : Dl).up ++ pgH ({ v := av, up := zipUp ns outs ++ newUp 0 0 0 [] } : Dl).pg H = zipUp ns outs ++ H from e2] at si2
  refine ⟨J.mrk.keep g.k fun b ⟨x, o, _, h2, _, h4⟩ => s.toSimH.own_cells h2 h4, ⟨m2, W2, s2, si2, ?_⟩, ?_, J.lo⟩
  · rw [g.mm y hy (by simp)]; exact hb
  · rw [g.k.block l (Array.getElem?_eq_some_iff.1 J.lp).1 fun ⟨x, o, _, h2, _, h4⟩ => loop_not_own s.toSimH J.lp h2 h4]
    exact J.lp

/-- Some operations of the iterator's. -/
theorem it_pre {ops : Array Go.Oper} {d : Nat} {Q : Exit → Act → World → Prop} {k : Nat} {sl : List SOper} {Ti T' T2 : Tm} (hl : ∀ (j : Nat) s, sl[j]? = some s → ∃ o, ops[k + j]? = some o ∧ operL P idm 19 ops o s = true ∧ noDef o.op = true)
    (hnd : ∀ (i : Nat) (o : Go.Oper), ops[i]? = some o → ∀ c, o.op ≠ .defer c)
    (hx : opsX (fun _ _ _ => none) (fun _ => false) 0 k sl ⟨Ti, itH zs⟩ = some ⟨T', itH zs⟩) (hT : ∀ i, tget T2 i = .undef ∨ tget T2 i = tget T' i) (hs : ∀ i, simp1 (tget T2 i) = true)
    {ai : Act} {w : World} (J : ItJ idm N m0 w0 W0 H0 T H a y zs b l rc Ti ai w) {rest : List Nat}
    (hK : ∀ a' w', ItJ idm N m0 w0 W0 H0 T H a y zs b l rc T2 a' w' → wpOpsIn (rdF none) d P ops Q rest a' w') : wpOpsIn (rdF none) d P ops Q (List.range' k sl.length ++ rest) ai w := by
  obtain ⟨m, W, s, si, hb⟩ := J.o.sim
  have hys : (hget H y).isSome = true := by rw [J.box]; rfl
  have ho : hgets H [y] = some [boxO zs] := by simp [hgets, J.box]
  have hr : renOs (toExt [y]) [boxO zs] = some [boxO zs] := rfl
  have s1 : SimH idm (mcOf m [y]) w W (itH zs) := simH_args s.toSimH (by simp) ho (fun x y h => toExt_get h) hr
  have hmb : (mcOf m [y] (.ext 0)).base = some b := by rw [mcOf_ext (x := y) rfl]; exact hb
  have fi : FI idm 19 (mcOf m [y]) w W (itH zs) ⟨Ti, itH zs⟩ ai w := by
    refine ⟨by rw [J.d]; exact Marks.nil _ _, mcOf m [y], W, { toSimH := s1, sz := J.sz, t := fun i => (sv_rep hmb (J.v i)).1, ct := fun i x hx => ?_ }, Since.refl ..⟩
    rw [(sv_rep (idm := idm) (w := w) (W := W) hmb (J.v i)).2 x hx]; rfl
  obtain ⟨log, hrun⟩ := opsX_run hx
  have cfok : CFOK P idm (fun _ _ _ => none) := fun f args objs c h => by cases h
  have h1 := ops_pre (N := 19) (m0 := mcOf m [y]) (w0 := w) (W0 := W) (H0 := itH zs) cfok (ops := ops) (Q := fun e a' w' => e = .normal ∧ FI idm 19 (mcOf m [y]) w W (itH zs) ⟨T', itH zs⟩ a' w') (fun a w h => ⟨rfl, h⟩) sl k _ ai w log (fun j s hs => let ⟨o, h1, h2, _⟩ := hl j s hs; ⟨o, h1, h2⟩) hrun fi
  have h2 := wpOpsIn_of_wpOps (rd := none) (n := d) (fun a w h => by cases h.1) hnd _ _ _ h1
  refine opsIn_bind hnd (fun e a w h => h.1) _ _ _ (fun i hi o ho => ?_) h2 fun a' w' hq hd => hK a' w' ?_
  · obtain ⟨j, hj1, hj2⟩ := List.mem_range'.1 hi
    obtain ⟨o', ho', _, h⟩ := hl j sl[j] (List.getElem?_eq_getElem hj1)
    rw [hj2, Nat.one_mul] at ho
    rw [ho] at ho'; cases ho'; exact h
  · obtain ⟨_, _, m', W', s', si'⟩ := hq
    have hb' : (m' (.ext 0)).base = some b := by rw [si'.ext 0]; exact hmb
    have hp : CallPost idm (mcOf m [y]) w W [boxO zs] ⟨.undef, [boxO zs], []⟩ undef w' :=
      ⟨m', W', rfl, s'.toSimH, ⟨si'.tr, si'.born, fun k _ => si'.ext k⟩, .undef _, by simp [AV.names]⟩
    have J' := J.o.after hys s si hb (by simp) ho hr rfl (.inr rfl) hp (outs := [boxO zs]) rfl
    have hev : ∀ x, hget (zipUp [y] [boxO zs] ++ H) x = hget H x := by
      intro x
      simp only [zipUp, List.cons_append, List.nil_append, hget]
      split
      · rename_i e; subst e; exact J.box.symm
      · rfl
    have J2 : OJ idm N m0 w0 W0 H0 T H a y b l rc w' := by
      obtain ⟨m2, W2, s2, si2, hb2⟩ := J'.sim
      exact ⟨J'.mrk, ⟨m2, W2, s2.eqv ⟨fun _ => rfl, hev⟩, si2.less fun x o hx => by rw [hev]; exact hx, hb2⟩, J'.lp, J'.lo⟩
    refine ⟨J2, by rw [hd]; exact J.d, s'.sz, J.box, fun i => ?_⟩
    rcases hT i with e | e
    · rw [e]; trivial
    · rw [e]; exact rep_sv hb' (s'.t i) (by rw [← e]; exact hs i)

theorem hget_updH {u : Hp} : ∀ {H : Hp} (x : Nm), (x ∈ upNs u → x ∈ upNs H) → hget (updH u H) x = hget (u ++ H) x := by
  have gen : ∀ (H : Hp) (x : Nm), hget (updH u H) x = if x ∈ upNs H then (if x ∈ upNs u then hget u x else hget H x) else none := by
    intro H x
    induction H with
    | nil => simp [updH, hget, upNs]
    | cons p r ih =>
      obtain ⟨y, o⟩ := p
      simp only [updH, hget, upNs, List.mem_cons]
      by_cases h : y = x
      · subst h
        simp only [if_true, true_or, upNames_eq]
        by_cases h2 : y ∈ upNs u <;> simp [h2]
      · have h' : ¬ x = y := fun e => h e.symm
        simp only [h, h', if_false, false_or, ih]
  intro H x hx
  rw [gen, hget_append]
  by_cases h : x ∈ upNs u
  · simp [h, hx h]
  · simp only [h, if_false]
    by_cases h2 : x ∈ upNs H
    · simp [h2]
    · simp [h2, hget_notin h2]
theorem hget_in {H : Hp} {x : Nm} {o : AObj} (h : hget H x = some o) : x ∈ upNs H := by
  by_cases h2 : x ∈ upNs H
  · exact h2
  · rw [hget_notin h2] at h; cases h
theorem OJ.upd {w : World} {u : Hp} (J : OJ idm N m0 w0 W0 H0 T (u ++ H) a y b l rc w) (hu : ∀ x ∈ upNs u, x ∈ upNs H) : OJ idm N m0 w0 W0 H0 T (updH u H) a y b l rc w := by
  obtain ⟨m2, W2, s2, si2, hb2⟩ := J.sim
  exact ⟨J.mrk, ⟨m2, W2, s2.eqv ⟨fun _ => rfl, fun x => (hget_updH x (hu x)).symm⟩, si2.less fun x o hx => by rw [← hget_updH x (hu x)]; exact hx, hb2⟩, J.lp, J.lo⟩
theorem finish_rv {n : Nat} {st : St} {c : CR} (h : finish rvF n st = some c) : c.v = .tup [] := by
  have gen : finish.finishG rvF n st [] = some c → c.v = .tup [] := by
    intro h
    unfold finish.finishG at h
    simp only [rvF, Bool.false_eq_true, if_false, frzL, frzNs, frzUp, List.nil_append, renL] at h
    split at h
    · cases h
    · split at h
      · split at h
        · rename_i h1 h2 h3
          split at h
          · simp only [Option.some.injEq] at h
            simp only [Option.some.injEq] at h1
            subst h; subst h1; rfl
          · cases h
        · cases h
      · cases h
  unfold finish at h
  simp only [rvF, rvGets] at h
  split at h
  · simp only [allP, Option.some.injEq] at h
    subst h; rfl
  · exact gen h
theorem Since.putBoth {m1 m2 : NMap} {w1 w2 : World} {W1 W2 : Nat → Prop} {H1 H2 : Hp} (h : Since m1 w1 W1 H1 m2 w2 W2 H2) {l : Nat} (hl : l < w1.heap.size) (o : Obj) : Since m1 (w1.putObj l o) W1 H1 m2 (w2.putObj l o) W2 H2 := by
  refine ⟨⟨⟨h.tr.os, h.tr.tape, h.tr.output, by simpa using h.tr.size, fun i hi hn => ?_⟩, fun i hi => h.tr.sub i (by simpa using hi), fun i hi => h.tr.sup i (by simpa using hi), fun i hi => h.tr.own i (by simpa using hi)⟩, fun x o b hx hb hlt => h.born x o b hx hb (by simpa using hlt), h.ext⟩
  by_cases e : i = l
  · subst e
    rw [World.putObj_heap_same hl, World.putObj_heap_same (Nat.lt_of_lt_of_le hl h.tr.size)]
  · rw [World.putObj_heap_other e, World.putObj_heap_other e]
    exact h.tr.block i (by simpa using hi) hn
theorem OJ.put {w : World} (J : OJ idm N m0 w0 W0 H0 T H a y b l rc w) (rc' : Loop) : OJ idm N m0 w0 W0 H0 T H a y b l rc' (w.putObj l (.loop rc')) := by
  have q : Quiet w0.heap.size w (w.putObj l (.loop rc')) := Quiet.putObj _ J.lp (fun c e f h => by cases h) J.lo
  obtain ⟨m, W, s, si, hb⟩ := J.sim
  refine ⟨J.mrk.of_heap fun D hD => ?_, ⟨m, W, s.quiet q, si.quiet q (Nat.le_refl _), hb⟩, World.putObj_heap_same (Array.getElem?_eq_some_iff.1 J.lp).1, J.lo⟩
  rw [World.putObj_heap_other (fun e => by subst e; rw [J.lp] at hD; cases hD)]
  exact hD
theorem renT_get {f : Nm → Option Nm} : ∀ {T T1 : Tm}, renT f T = some T1 → ∀ i, (tget T i).ren f = some (tget T1 i)
  | [], T1, h, i => by simp only [renT, Option.some.injEq] at h; subst h; rfl
  | (j, v) :: r, T1, h, i => by
    simp only [renT] at h
    cases hv : v.ren f with
    | none => simp [hv] at h
    | some v' => cases hr : renT f r with
      | none => simp [hv, hr] at h
      | some r' =>
        simp only [hv, hr, Option.some.injEq] at h
        subst h
        simp only [tget]
        split
        · exact hv
        · exact renT_get hr i
def cdOf : Ex → Code
  | .nrm => .skip
  | .ex id => .exit id
  | .ret => .ret
def rcR (fn : FuncId) (a : Act) (p q : Nat) (A B : Code) (D : Nat) : Loop := { state := .ready, pending := none, fn := fn, tmps := a.tmps, params := #[p, q], assign := A, body := B, defers := D }
def rcE (fn : FuncId) (a : Act) (p q : Nat) (A B : Code) (D : Nat) (e : Ex) : Loop := { state := if e = .nrm then .ready else .done, pending := if e = .nrm then none else some (cdOf e), fn := fn, tmps := a.tmps, params := #[p, q], assign := A, body := B, defers := D }
theorem rcE_nrm (fn : FuncId) (a : Act) (p q : Nat) (A B : Code) (D : Nat) : rcE fn a p q A B D .nrm = rcR fn a p q A B D := rfl

/-- One round. -/
theorem round_ok {cf : CF} {raw : FuncId → Bool} {k d p q fn D : Nat} {A B : Code} {SA SB : SCode} {ns : List Nm} {i z : Int} {H' : Hp} {e : Ex} {w : World}
    (ihA : ∀ (l d n : Nat) (m0 : NMap) (w0 : World) (W0 : Nat → Prop) (H0 : Hp) (st st' : St) (e : Ex) (a : Act) (w : World) (Q : Exit → Act → World → Prop), sexec cf raw n k SA st = some (e, st') → FI idm N m0 w0 W0 H0 st a w → (∀ a w, FI idm N m0 w0 W0 H0 st' a w → Q (exOf e) a w) → A.wpIn (rdF (some l)) d P Q a w)
    (ihB : ∀ (l d n : Nat) (m0 : NMap) (w0 : World) (W0 : Nat → Prop) (H0 : Hp) (st st' : St) (e : Ex) (a : Act) (w : World) (Q : Exit → Act → World → Prop), sexec cf raw n k SB st = some (e, st') → FI idm N m0 w0 W0 H0 st a w → (∀ a w, FI idm N m0 w0 W0 H0 st' a w → Q (exOf e) a w) → B.wpIn (rdF (some l)) d P Q a w)
    (hp : p < N) (hq : q < N) (hns : ns.Nodup) (hy : (hget H y).isSome = true) (J : OJ idm N m0 w0 W0 H0 T H a y b l (rcR fn a p q A B D) w)
    (hx : roundX (fun st => nrmX (sexec cf raw ns.length k SA st) fun st => sexec cf raw ns.length k SB st) ns T p q i z H = some (e, H')) :
    RoundIn (rdF none) d P l fn ((#[p, q].zip #[Value.int .i64 i, Value.int .i64 z]).foldl (fun t x => t.setIfInBounds x.1 x.2) a.tmps) A B w fun e1 w3 =>
      e1 = .returned (.bool (decide (e = .nrm))) ∧ OJ idm N m0 w0 W0 H0 T H' a y b l (rcE fn a p q A B D e) w3 := by
  obtain ⟨m, W, s, si, hb⟩ := J.sim
  unfold roundX at hx
  cases hin : roundIn ns T H with
  | none => simp [hin, obind_none] at hx
  | some st0 =>
    simp only [hin, obind_some] at hx
    unfold roundIn at hin
    cases hT : renT (toExt ns) T with
    | none => simp [hT] at hin
    | some T1 => cases ho : hgets H ns with
      | none => simp [hT, ho] at hin
      | some os => cases hr : renOs (toExt ns) os with
        | none => simp [hT, ho, hr] at hin
        | some os' =>
          simp only [hT, ho, hr, Option.some.injEq] at hin
          subst hin
          have hlen : os'.length = ns.length := (renOs_get hr).1.trans (hgets_get ho).1
          have s1 := simH_args s.toSimH hns ho (fun x y h => toExt_get h) hr
          have hlp : l < w.heap.size := (Array.getElem?_eq_some_iff.1 J.lp).1
          have hat : ∀ {j : Nat}, ((#[p, q].zip #[Value.int .i64 i, Value.int .i64 z]).foldl (fun t x => t.setIfInBounds x.1 x.2) a.tmps).getD j undef = if q = j then .int .i64 z else if p = j then .int .i64 i else a.tmps.getD j undef := by
            intro j
            have : (#[p, q].zip #[Value.int .i64 i, Value.int .i64 z]) = #[(p, Value.int .i64 i), (q, Value.int .i64 z)] := by simp
            rw [this]
            have hsz := s.sz
            simp only [List.foldl_toArray', List.size_toArray, List.foldl_cons, List.foldl_nil, Array.getD_eq_getD_getElem?, Array.getElem?_setIfInBounds, Array.size_setIfInBounds]
            by_cases h1 : q = j
            · subst h1; simp [hsz, hq]
            · by_cases h2 : p = j
              · subst h2; simp [h1, hsz, hp]
              · simp [h1, h2]
          have fi : FI idm N (mcOf m ns) w W (argH 0 os') ⟨(q, .p (.int .i64 z)) :: (p, .p (.int .i64 i)) :: T1, argH 0 os'⟩ { tmps := (#[p, q].zip #[Value.int .i64 i, Value.int .i64 z]).foldl (fun t x => t.setIfInBounds x.1 x.2) a.tmps, defers := [] } w := by
            refine ⟨Marks.nil _ _, mcOf m ns, W, { toSimH := s1, sz := ?_, t := fun j => ?_, ct := fun j x hx => ?_ }, Since.refl ..⟩
            · show ((#[p, q].zip #[Value.int .i64 i, Value.int .i64 z]).foldl (fun t x => t.setIfInBounds x.1 x.2) a.tmps).size = N
              have : (#[p, q].zip #[Value.int .i64 i, Value.int .i64 z]) = #[(p, Value.int .i64 i), (q, Value.int .i64 z)] := by simp
              rw [this]
              simpa using s.sz
            · rw [hat]
              simp only [tget]
              by_cases h1 : q = j
              · simp only [h1, if_true]; exact .p _ _ (.int ..)
              · by_cases h2 : p = j
                · simp only [h1, h2, if_true, if_false]; exact .p _ _ (.int ..)
                · simp only [h1, h2, if_false]
                  exact (s.t j).ren _ _ (renT_get hT j) fun x hx y hxy => by
                    obtain ⟨u, rfl, hu⟩ := toExt_get hxy
                    exact mcOf_ext hu
            · simp only [tget] at hx
              by_cases h1 : q = j
              · simp [h1, AV.names] at hx
              · by_cases h2 : p = j
                · simp [h1, h2, AV.names] at hx
                · simp only [h1, h2, if_false] at hx
                  obtain ⟨x', _, hx2⟩ := AV.names_ren _ x _ _ (renT_get hT j) hx
                  obtain ⟨u, rfl, hu⟩ := toExt_get hx2
                  exact argH_some.2 ⟨u, rfl, by have := (List.getElem?_eq_some_iff.1 hu).1; omega⟩
          cases hA : sexec cf raw ns.length k SA ⟨(q, .p (.int .i64 z)) :: (p, .p (.int .i64 i)) :: T1, argH 0 os'⟩ with
          | none => simp [hA, nrmX, obind_none] at hx
          | some rA =>
            obtain ⟨eA, stA⟩ := rA
            cases eA with
            | ex id => simp [hA, nrmX, obind_some, obind_none] at hx
            | ret => simp [hA, nrmX, obind_some, obind_none] at hx
            | nrm =>
              simp only [hA, nrmX, obind_some] at hx
              cases hB : sexec cf raw ns.length k SB stA with
              | none => simp [hB, obind_none] at hx
              | some rB =>
                obtain ⟨eB, stB⟩ := rB
                simp only [hB, obind_some] at hx
                cases hO : roundOut ns H stB with
                | none => simp [hO, obind_none] at hx
                | some HB =>
                  simp only [hO, obind_some, Option.some.injEq, Prod.mk.injEq] at hx
                  obtain ⟨rfl, rfl⟩ := hx
                  -- what the round hands back
                  unfold roundOut at hO
                  cases hf : finish rvF ns.length stB with
                  | none => simp [hf] at hO
                  | some c =>
                    simp only [hf] at hO
                    split at hO
                    · rename_i outs hnews houts
                      simp only [Option.some.injEq] at hO
                      subst hO
                      refine roundIn_of_wpIn trivial ?_
                      refine ihA l d ns.length _ _ _ _ _ stA .nrm _ w _ hA fi fun a1 w1 fi1 => ?_
                      obtain ⟨mk1, m1, W1, t1, si1⟩ := fi1
                      have hnl : ∀ {m' : NMap} {w' : World} {W' : Nat → Prop} {H1 : Hp}, SimH idm m' w' W' H1 → w'.heap[l]? = some (.loop (rcR fn a p q A B D)) → ¬ Own m' H1 l := fun s' hl ⟨x, o, h1, _, h3⟩ => loop_not_own s' hl h1 h3
                      have hl1 : w1.heap[l]? = some (.loop (rcR fn a p q A B D)) := by
                        rw [si1.tr.block l hlp (hnl s1 J.lp)]; exact J.lp
                      refine ⟨_, run_beginRound hl1 rfl, ?_⟩
                      obtain ⟨rcB, hrcB⟩ : ∃ rcB, rcB = { rcR fn a p q A B D with state := .busy } := ⟨_, rfl⟩
                      rw [← hrcB]
                      have q1 : Quiet 0 w1 (w1.putObj l (.loop rcB)) := Quiet.putObj _ hl1 (fun c e f h => by cases h) (Nat.zero_le _)
                      have fi2 : FI idm N (mcOf m ns) (w.putObj l (.loop rcB)) W (argH 0 os') stA a1 (w1.putObj l (.loop rcB)) := by
                        refine ⟨?_, m1, W1, t1.quiet q1, si1.putBoth hlp _⟩
                        have := mk1.of_heap (w' := w1.putObj l (.loop rcB)) fun D' hD => by
                          rw [World.putObj_heap_other (fun e => by subst e; rw [hl1] at hD; cases hD)]
                          exact hD
                        simpa using this
                      refine ihB l d ns.length _ _ _ _ stA stB eB a1 _ _ hB fi2 fun a3 w3 fi3 => ?_
                      have hlenB : finish rvF os'.length stB = some c := by rw [hlen]; exact hf
                      obtain ⟨v, _, hcp⟩ := finish_ok (P := P) (fn := { (default : Func) with results := #[] }) (F := rvF) (by rfl) hlenB fi3
                      have JB := J.put rcB
                      obtain ⟨m', W', s', si', hb'⟩ := JB.sim
                      have q0 : Quiet w0.heap.size w (w.putObj l (.loop rcB)) := Quiet.putObj _ J.lp (fun c e f h => by cases h) J.lo
                      have J3 := JB.after hy (s.quiet q0) (si.quiet q0 (Nat.le_refl _)) hb hns ho hr hnews (.inl (finish_rv hf)) hcp houts
                      have hol : outs.length = ns.length := by
                        obtain ⟨_, _, hl1, _⟩ := hcp
                        rw [(renOs_get houts).1, hl1, hlen]
                      have J3 := J3.upd fun x hx => by
                        rw [upNs_zipUp (by omega)] at hx
                        obtain ⟨u, hu⟩ := List.mem_iff_getElem?.1 hx
                        have hu' := (List.getElem?_eq_some_iff.1 hu).1
                        obtain ⟨x', g1, g2⟩ := (hgets_get ho).2 u _ (List.getElem?_eq_getElem (by rw [(hgets_get ho).1]; exact hu'))
                        rw [hu] at g1; cases g1
                        exact hget_in g2
                      have fin : ∀ (jump : Option Code), (Instr.endRound l jump).run P w3 = .ok (.bool jump.isNone) (w3.putObj l (.loop { rcB with state := if jump.isNone then .ready else .done, pending := jump })) := fun jump => run_endRound jump J3.lp
                      cases eB with
                      | nrm =>
                        refine ⟨_, _, fin none, by simp, ?_⟩
                        have := J3.put (rcE fn a p q A B D .nrm)
                        rw [hrcB]
                        exact this
                      | ex id =>
                        refine ⟨_, _, fin (some (.exit id)), by simp, ?_⟩
                        have := J3.put (rcE fn a p q A B D (.ex id))
                        rw [hrcB]
                        exact this
                      | ret =>
                        refine ⟨_, _, fin (some .ret), by simp, ?_⟩
                        have := J3.put (rcE fn a p q A B D .ret)
                        rw [hrcB]
                        exact this
                    · cases hO
end
end Go.Ab
