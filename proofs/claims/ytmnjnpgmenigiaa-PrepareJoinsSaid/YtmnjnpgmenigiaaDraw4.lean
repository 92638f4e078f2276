/- A part of the proof: an executor over plain data, shown sound for the model, and what it computes of the functions. -/
import Derived.Test.YtmnjnpgmenigiaaDraw3
set_option linter.all false
/-! Regions: every order. -/
set_option linter.unusedVariables false
set_option linter.unusedSimpArgs false
set_option linter.unusedSectionVars false
namespace Go.Ab
open Go

def remain (sops : List SOper) (listed : Array Bool) : List (Nat × SOper) := (enumS 0 sops).filter fun p => !listed.getD p.1 true

def Closed (ops : Array Go.Oper) (listed : Array Bool) : Prop :=
  ∀ j o, listed.getD j false = true → ops[j]? = some o → ∀ e ∈ o.after, bothM e = true → listed.getD e.on false = true

theorem Bef.listed {ops : Array Go.Oper} {listed : Array Bool} (hc : Closed ops listed) {i j : Nat} (h : Bef ops i j) : (∀ o, ops[j]? = some o → ∀ e ∈ o.after, bothM e = true → listed.getD e.on false = true) → listed.getD i false = true := by
  induction h with
  | one j o e h he hb => exact fun ha => ha o h e he hb
  | two i j o e h he hb h2 ih => exact fun ha => ih fun o' ho' => hc e.on o' (ha o h e he hb) ho'

theorem getD_tf {listed : Array Bool} {i : Nat} (h : i < listed.size) : listed.getD i true = listed.getD i false := by simp [Array.getD_eq_getD_getElem?, h]

section
variable {P : Program} {idm : FuncId → FuncId} {N : Nat} {m0 : NMap} {w0 : World} {W0 : Nat → Prop} {H0 : Hp} {cf : CF} {raw : FuncId → Bool} {r : Nat}

theorem draw_any (cfok : CFOK P idm cf) {ops : Array Go.Oper} {sops : List SOper} {pairs : List (Nat × Nat)} (hl : opersL P idm N ops ops.toList sops = true) (hd : drawOk ops sops pairs = true) (md : Region.Mode) {Q : Exit → Act → World → Prop} {fin : St}
    (hQ : ∀ a w, FI idm N m0 w0 W0 H0 fin a w → Q .normal a w) : ∀ (fuel : Nat) (listed : Array Bool) (st : St) (a : Act) (w : World) (log : List Rec) (fin' : St), (remain sops listed).length = fuel → listed.size = ops.size → Closed ops listed →
      Run cf raw r (remain sops listed) st log fin' → Eqv fin fin' → (∀ i j a b, sops[i]? = some a → sops[j]? = some b → i < j → pairFree pairs a b i j = true → MeetR r log i j) → FI idm N m0 w0 W0 H0 st a w → wpAny P md ops Q fuel listed a w := by
  obtain ⟨len, getO⟩ := opersL_get hl
  have hlen : ops.size = sops.length := by simpa using len
  have hrem : ∀ {listed : Array Bool} {i : Nat} {s : SOper}, (i, s) ∈ remain sops listed ↔ sops[i]? = some s ∧ listed.getD i true = false := by
    intro listed i s
    unfold remain
    rw [List.mem_filter, mem_enumS]
    simp only [Bool.not_eq_true', Nat.zero_add]
    constructor
    · rintro ⟨⟨j, rfl, h⟩, h2⟩; exact ⟨h, h2⟩
    · rintro ⟨h, h2⟩; exact ⟨⟨i, rfl, h⟩, h2⟩
  have hsort : ∀ listed, (remain sops listed).Pairwise fun p q => p.1 < q.1 := fun listed => enumS_sorted.sublist List.filter_sublist
  -- whoever is ready remains
  have hready : ∀ {listed : Array Bool} {i : Nat}, i ∈ Region.ready md ops listed → ∃ s, (i, s) ∈ remain sops listed := by
    intro listed i hi
    obtain ⟨h1, o, ho, _⟩ := mem_ready.1 hi
    have hlt := (Array.getElem?_eq_some_iff.1 ho).1
    exact ⟨sops[i], hrem.2 ⟨List.getElem?_eq_getElem (by omega), h1⟩⟩
  intro fuel
  induction fuel with
  | zero =>
    intro listed st a w log fin' hf hs hc hrun he hm hfi
    have hnil : remain sops listed = [] := List.eq_nil_of_length_eq_zero hf
    rw [hnil] at hrun
    cases hrun
    refine ⟨?_, hQ a w (hfi.eqv he.symm)⟩
    rw [List.eq_nil_iff_forall_not_mem]
    intro i hi
    obtain ⟨s, h⟩ := hready hi
    rw [hnil] at h; cases h
  | succ fuel ih =>
    intro listed st a w log fin' hf hs hc hrun he hm hfi
    constructor
    · intro hnone
      exfalso
      cases hL : remain sops listed with
      | nil => rw [hL] at hf; simp at hf
      | cons p L =>
        obtain ⟨i, s⟩ := p
        obtain ⟨hsi, hli⟩ := hrem.1 (show (i, s) ∈ remain sops listed by rw [hL]; exact List.mem_cons_self)
        have hilt := (List.getElem?_eq_some_iff.1 hsi).1
        exact drawOk_ready hd md hs ⟨i, by omega, by rw [← getD_tf (by omega)]; exact hli⟩ hnone
    · intro i hi
      obtain ⟨hli, o, ho, haft⟩ := mem_ready.1 hi
      obtain ⟨s, hin⟩ := hready hi
      obtain ⟨hsi, _⟩ := hrem.1 hin
      obtain ⟨pre, post, hL⟩ := List.append_of_mem hin
      have hsorted := hsort listed
      rw [hL] at hsorted
      rw [List.pairwise_append] at hsorted
      obtain ⟨_, hpost, hcross⟩ := hsorted
      obtain ⟨hpost1, _⟩ := List.pairwise_cons.1 hpost
      have hilt : i < listed.size := by have := (Array.getElem?_eq_some_iff.1 ho).1; omega
      rw [hL] at hrun
      obtain ⟨dx, fx, log', fin2, g1, g2, g3, g4, g5⟩ := Run.front hrun (fun p hp => by
        obtain ⟨k, sk⟩ := p
        have hki : k < i := hcross _ hp (i, s) List.mem_cons_self
        obtain ⟨hsk, hlk⟩ := hrem.1 (show (k, sk) ∈ remain sops listed by rw [hL]; exact List.mem_append_left _ hp)
        rcases drawOk_spec hd ho hsi k sk hki hsk with hb | hfree
        · exfalso
          have := hb.listed hc fun o' ho' e hem hbm => by rw [ho] at ho'; cases ho'; exact haft e hem (bothM_binds hbm md)
          rw [getD_tf (by omega)] at hlk
          rw [hlk] at this; cases this
        · refine ⟨?_, hm k i sk s hsk hsi hki hfree⟩
          simp only [pairFree, Bool.and_eq_true] at hfree
          exact hfree.1)
      have hnext : remain sops (listed.setIfInBounds i true) = pre ++ post := by
        have e1 : remain sops (listed.setIfInBounds i true) = (remain sops listed).filter fun p => p.1 != i := by
          unfold remain
          rw [List.filter_filter]
          refine List.filter_congr fun p hp => ?_
          by_cases hpi : i = p.1
          · subst hpi; simp [hilt]
          · rw [getD_set_ne true hpi]
            have : (p.1 != i) = true := by simp; exact fun h => hpi h.symm
            rw [this]; simp
        rw [e1, hL, List.filter_append, List.filter_cons]
        simp only [bne_self_eq_false, Bool.false_eq_true, if_false]
        congr 1
        · refine List.filter_eq_self.2 fun p hp => ?_
          have := hcross p hp (i, s) List.mem_cons_self
          simp at this ⊢; omega
        · refine List.filter_eq_self.2 fun p hp => ?_
          have := hpost1 p hp
          simp at this ⊢; omega
      refine wpOp_step cfok ho (getO i o s (by simpa using ho) hsi) hfi g1 fun a' w' hfi' => ?_
      refine ih _ _ a' w' log' fin2 ?_ (by simpa using hs) ?_ (by rw [hnext]; exact g2) (he.trans g3) (fun i' j' sa sb h1 h2 h3 h4 => ?_) hfi'
      · rw [hnext]
        rw [hL] at hf
        simp at hf ⊢
        omega
      · intro j o' hj ho' e hem hbm
        by_cases hij : i = j
        · subst hij
          rw [ho] at ho'; cases ho'
          exact getD_set_true (haft e hem (bothM_binds hbm md))
        · rw [getD_set_ne false hij] at hj
          exact getD_set_true (hc j o' hj ho' e hem hbm)
      · exact fun x hx y hy => hm i' j' sa sb h1 h2 h3 h4 x (g4 x hx) y (g4 y hy)

/-- A region in one order. -/
theorem wp_reg (cfok : CFOK P idm cf) {ops : Array Go.Oper} {sops : List SOper} (hl : opersL P idm N ops ops.toList sops = true) {Q : Exit → Act → World → Prop} {fin : St}
    (hQ : ∀ a w, FI idm N m0 w0 W0 H0 fin a w → Q .normal a w) : ∀ (l : List SOper) (k : Nat) (st : St) (a : Act) (w : World) (log : List Rec), (∀ j, l[j]? = sops[k + j]?) → Run cf raw r (enumS k l) st log fin → FI idm N m0 w0 W0 H0 st a w →
      wpOps P ops Q (List.range' k l.length) a w
  | [], k, st, a, w, log, hk, hrun, hfi => by cases hrun; exact hQ a w hfi
  | s :: l, k, st, a, w, log, hk, hrun, hfi => by
    obtain ⟨len, getO⟩ := opersL_get hl
    simp only [enumS] at hrun
    cases hrun with
    | cons _ _ _ _ d f log fin h h2 =>
      have hs : sops[k]? = some s := by simpa using (hk 0).symm
      have hlt := (List.getElem?_eq_some_iff.1 hs).1
      have ho := Array.getElem?_eq_getElem (show k < ops.size by simpa using (by omega : k < ops.toList.length))
      rw [List.length_cons, List.range'_succ, wpOps_cons]
      exact wpOp_step cfok ho (getO k _ s (by simpa using ho) hs) hfi h fun a' w' hfi' =>
        wp_reg cfok hl hQ l (k + 1) _ a' w' log (fun j => by have := hk (j + 1); simpa [Nat.add_assoc, Nat.add_comm 1 j] using this) h2 hfi'

theorem wp_region_reg (cfok : CFOK P idm cf) {id : Nat} {ops : Array Go.Oper} {sops : List SOper} (hl : opersL P idm N ops ops.toList sops = true) {Q : Exit → Act → World → Prop} {st fin : St} (hrun : opsX cf raw r 0 sops st = some fin)
    (hQ : ∀ a w, FI idm N m0 w0 W0 H0 fin a w → Q .normal a w) {a : Act} {w : World} (hfi : FI idm N m0 w0 W0 H0 st a w) : (Code.region id ops false).wp P Q a w := by
  refine wp_region ?_
  obtain ⟨log, h⟩ := opsX_run hrun
  have len := (opersL_get hl).1
  have := wp_reg cfok hl hQ sops 0 st a w log (fun j => by simp) h hfi
  rw [List.range_eq_range']
  rw [← len] at this
  simpa using this

theorem wp_region_drawn (cfok : CFOK P idm cf) {id : Nat} {ops : Array Go.Oper} {sops : List SOper} {pairs : List (Nat × Nat)} (hl : opersL P idm N ops ops.toList sops = true) (hd : drawOk ops sops pairs = true) {Q : Exit → Act → World → Prop} {st fin : St}
    (hrun : drawX cf raw r sops pairs st = some fin) (hQ : ∀ a w, FI idm N m0 w0 W0 H0 fin a w → Q .normal a w) {a : Act} {w : World} (hfi : FI idm N m0 w0 W0 H0 st a w) : (Code.region id ops true).wp P Q a w := by
  have len := (opersL_get hl).1
  -- a run, and who may pass whom
  obtain ⟨log, hlog, hmeet⟩ : ∃ log, Run cf raw r (enumS 0 sops) st log fin ∧ ∀ i j a b, sops[i]? = some a → sops[j]? = some b → i < j → pairFree pairs a b i j = true → MeetR r log i j := by
    have pureMeet : ∀ {log : List Rec}, Run cf raw r (enumS 0 sops) st log fin → ∀ i j a b, sops[i]? = some a → sops[j]? = some b → ((pureS a.op && noPgS b.op) || (pureS b.op && noPgS a.op)) = true → MeetR r log i j := by
      intro log hlog i j sa sb ha hb hp x hx y hy hxi hyj
      obtain ⟨o1, st1, m1, e1, p1⟩ := hlog.recs x hx
      obtain ⟨o2, st2, m2, e2, p2⟩ := hlog.recs y hy
      obtain ⟨k1, h1, h2⟩ := mem_enumS.1 m1
      obtain ⟨k2, h3, h4⟩ := mem_enumS.1 m2
      rw [Nat.zero_add] at h1 h3
      rw [← h1, hxi, ha] at h2; cases h2
      rw [← h3, hyj, hb] at h4; cases h4
      simp only [Bool.or_eq_true, Bool.and_eq_true] at hp
      rcases hp with ⟨q1, q2⟩ | ⟨q1, q2⟩
      · obtain ⟨c1, c2, c3⟩ := pure_out q1 e1
        exact ⟨c2, noPg_out q2 e2, fun z hz => by rw [c1] at hz; simp [upNs] at hz, fun z hz => ⟨by rw [c3]; simp, fun hq => by rw [p1, q1] at hq; cases hq⟩⟩
      · obtain ⟨c1, c2, c3⟩ := pure_out q1 e2
        exact ⟨noPg_out q2 e1, c2, fun z hz => ⟨by rw [c3]; simp, by rw [c1]; simp [upNs], fun hq => by rw [p2, q1] at hq; cases hq⟩, fun z hz => by rw [c1] at hz; simp [upNs] at hz⟩
    cases pairs with
    | nil =>
      obtain ⟨log, hlog⟩ := opsX_run (show opsX cf raw r 0 sops st = some fin from hrun)
      refine ⟨log, hlog, fun i j sa sb ha hb hij hf => ?_⟩
      simp only [pairFree, Bool.and_eq_true, List.contains_nil, Bool.false_or] at hf
      exact pureMeet hlog i j sa sb ha hb hf.2
    | cons p ps =>
      unfold drawX at hrun
      cases hx : opsLX cf raw r 0 sops st [] with
      | none => simp [hx, obind_none] at hrun
      | some x =>
        obtain ⟨fin1, lg⟩ := x
        simp only [hx, obind_some, Option.ite_none_right_eq_some, Option.some.injEq] at hrun
        obtain ⟨hall, rfl⟩ := hrun
        obtain ⟨log, hlog, hlg⟩ := opsLX_run hx
        refine ⟨log, hlog, fun i j sa sb ha hb hij hf => ?_⟩
        simp only [pairFree, Bool.and_eq_true, Bool.or_assoc] at hf
        rw [Bool.or_eq_true] at hf
        rcases hf.2 with hc | hc
        · have h1 := List.all_eq_true.1 hall (i, j) (by simpa using hc)
          obtain ⟨_, hpos⟩ := hlog.pos
          intro x hx y hy hxi hyj
          obtain ⟨kx, hkx⟩ := List.mem_iff_getElem?.1 hx
          obtain ⟨ky, hky⟩ := List.mem_iff_getElem?.1 hy
          have e1 := hpos kx x hkx
          have e2 := hpos ky y hky
          have e3 : kx = i := by omega
          have e4 : ky = j := by omega
          subst e3; subst e4
          rw [hlg] at h1
          simp only [List.nil_append, pairOk, List.getElem?_map, hkx, hky, Option.map_some] at h1
          exact entOk_meet h1
        · exact pureMeet hlog i j sa sb ha hb hc
  have hrem : remain sops (Array.replicate ops.size false) = enumS 0 sops := by
    unfold remain
    refine List.filter_eq_self.2 fun p hp => ?_
    obtain ⟨i, s⟩ := p
    obtain ⟨j, h1, h2⟩ := mem_enumS.1 hp
    have hlt := (List.getElem?_eq_some_iff.1 h2).1
    have : i < ops.size := by simp at len; omega
    simp [this]
  have hel : ∀ (l : List SOper) (k : Nat), (enumS k l).length = l.length := by
    intro l
    induction l with
    | nil => exact fun _ => rfl
    | cons s l ih => exact fun k => by simp [enumS, ih]
  have any : ∀ md, wpAny P md ops Q ops.size (Array.replicate ops.size false) a { w with drawn := w.drawn + 1 } := fun md =>
    draw_any cfok hl hd md hQ ops.size _ st a _ log fin (by rw [hrem, hel]; simpa using len.symm) (by simp) (fun j o hj => by
      exfalso
      by_cases h : j < ops.size <;> simp [h] at hj) (by rw [hrem]; exact hlog) (Eqv.refl fin) hmeet hfi.drew
  refine wp_region_draw fun t => ?_
  unfold Region.schedule
  split
  · exact wpAny_sound ops.size t _ a _ (any _)
  · exact wpAny_sound ops.size _ _ a _ (any _)
end
end Go.Ab
