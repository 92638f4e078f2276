/- A part of the proof (an executor, and what it computes). -/
import Derived.Test.YtmnjnpgmenigiaaGreatEv
import Derived.Test.YtmnjnpgmenigiaaGreatBa9d05f8bc9
set_option linter.all false
namespace Go.Ab
/-! ### Calls whose arguments hold names, step by step -/
def nmA : AV → Bool
  | .ptr .. => true
  | .fn _ a b => !(plainL a && plainL b)
  | _ => false
theorem nmA_ptr (x : Nm) (o : Nat) : nmA (.ptr x o) = true := _root_.id rfl
theorem nmA_fn (f : FuncId) (a b : List AV) : nmA (.fn f a b) = !(plainL a && plainL b) := _root_.id rfl
theorem nmA_p (v : PV) : nmA (.p v) = false := _root_.id rfl
theorem nmA_nils (z : Nat) : nmA (.nils z) = false := _root_.id rfl
theorem nmA_agg (z : List AV) : nmA (.agg z) = false := _root_.id rfl
theorem nmA_hsl (x : Nm) (a b : Nat) : nmA (.hsl x a b) = false := _root_.id rfl
def anyNm : List AV → Bool
  | [] => false
  | v :: r => nmA v || anyNm r
theorem anyNm_nil : anyNm [] = false := _root_.id rfl
theorem anyNm_cons (v : AV) (r : List AV) : anyNm (v :: r) = (nmA v || anyNm r) := _root_.id rfl
def genQ : List AV → Bool
  | .ptr .. :: r => anyNm r
  | r => anyNm r
theorem genQ_ptr (x : Nm) (o : Nat) (r : List AV) : genQ (.ptr x o :: r) = anyNm r := _root_.id rfl
theorem genQ_p (v : PV) (r : List AV) : genQ (.p v :: r) = anyNm r := _root_.id rfl
theorem genQ_agg (v : List AV) (r : List AV) : genQ (.agg v :: r) = anyNm r := _root_.id rfl
theorem genQ_nils (v : Nat) (r : List AV) : genQ (.nils v :: r) = anyNm r := _root_.id rfl
theorem genQ_hsl (x : Nm) (a b : Nat) (r : List AV) : genQ (.hsl x a b :: r) = anyNm r := _root_.id rfl
theorem genQ_fn (f : FuncId) (a b r : List AV) : genQ (.fn f a b :: r) = (!(plainL a && plainL b) || anyNm r) := _root_.id rfl
theorem anyNm_allP {l : List AV} (h : anyNm l = true) : allP l = none := by
  induction l with
  | nil => cases h
  | cons v r ih =>
    cases v with
    | p v =>
      simp only [anyNm, nmA, Bool.false_or] at h
      simp only [allP, ih h]
    | _ => rfl
theorem genQ_allP {l : List AV} (h : genQ l = true) : allP l = none := by
  cases l with
  | nil => cases h
  | cons v r =>
    cases v with
    | ptr x o => rfl
    | p v => simp only [genQ] at h; exact anyNm_allP h
    | _ => rfl
theorem anyNm_frz {H : Hp} : ∀ {l l' : List AV}, anyNm l = true → frzL H l = some l' → allP l' = none
  | [], _, h, _ => by cases h
  | v :: r, l', h, hf => by
    simp only [frzL] at hf
    cases hv : frz H v with
    | none => simp [hv] at hf
    | some v' => cases hr : frzL H r with
      | none => simp [hv, hr] at hf
      | some r' =>
        simp only [hv, hr, Option.some.injEq] at hf
        subst hf
        simp only [anyNm, Bool.or_eq_true] at h
        rcases h with h | h
        · cases v with
          | ptr x o => simp only [frz, frz1, Option.some.injEq] at hv; subst hv; rfl
          | fn f a b => simp only [frz, frz1, Option.some.injEq] at hv; subst hv; rfl
          | _ => simp [nmA] at h
        · have := anyNm_frz h hr
          cases v' <;> simp [allP, this]
theorem genQ_frz {H : Hp} {l l' : List AV} (h : genQ l = true) (hf : frzL H l = some l') : allP l' = none := by
  cases l with
  | nil => cases h
  | cons v r =>
    cases v with
    | ptr x o =>
      simp only [frzL] at hf
      cases hr : frzL H r with
      | none => simp [hr, frz, frz1] at hf
      | some r' =>
        simp only [hr, frz, frz1, Option.some.injEq] at hf
        subst hf; rfl
    | _ => exact anyNm_frz h hf
def gG (H : Hp) (r i : Nat) (ns : List Nm) (ups : Hp) (c : Option CR) : Option Dl := callEnd H r i ns ups c
def gF (cf : CF) (H : Hp) (r i : Nat) (f : FuncId) (args : List AV) (ns : List Nm) (ups : Hp) : Option (List AObj) → Option Dl
  | some os => gG H r i ns ups (cf f args os)
  | none => none
def gE (cf : CF) (H : Hp) (r i : Nat) (f : FuncId) (ns : List Nm) (ups : Hp) : Option (List AV) → Option (List AObj) → Option Dl
  | some args, some os => gF cf H r i f args ns ups (renOs (toExt ns) os)
  | _, _ => none
def gD (cf : CF) (H : Hp) (r i : Nat) (f : FuncId) (args : List AV) (ups : Hp) : Option (List Nm) → Option Dl
  | some ns => gE cf H r i f ns ups (renL (toExt ns) args) (hgets (ups ++ H) ns)
  | none => none
def gC (cf : CF) (H : Hp) (r i : Nat) (f : FuncId) (args : List AV) (u : Hp) : Option Hp → Option Dl
  | some b => gD cf H r i f args (b ++ u) (reach ((b ++ u) ++ H) 64 (namesL args) [])
  | none => none
def gB (cf : CF) (H : Hp) (r i : Nat) (f : FuncId) (args : List AV) (u : Hp) : Option (List Nm) → Option Dl
  | some ns => gC cf H r i f args u (boxUps (u ++ H) ns)
  | none => none
def gA (cf : CF) (H : Hp) (r i : Nat) (f : FuncId) (args : List AV) : Option (List AV) → Option Dl
  | some args' => gB cf H r i f args' (frzUp H (frzNs args)) (reach (frzUp H (frzNs args) ++ H) 64 (namesL args') [])
  | none => none
theorem callD_gen (cf : CF) (H : Hp) (r i : Nat) (f : FuncId) (args : List AV) (h : genQ args = true) : callD cf false H r i f args = gA cf H r i f args (frzL H args) := by
  simp only [callD, genQ_allP h, Bool.false_eq_true, if_false]
  cases hz : frzL H args with
  | none => rfl
  | some a =>
    simp only [gA, genQ_frz h hz]
    cases reach (frzUp H (frzNs args) ++ H) 64 (namesL a) [] with
    | none => rfl
    | some ns =>
      simp only [gB]
      cases boxUps (frzUp H (frzNs args) ++ H) ns with
      | none => rfl
      | some b =>
        simp only [gC, callNs]
        cases reach ((b ++ frzUp H (frzNs args)) ++ H) 64 (namesL a) [] with
        | none => rfl
        | some ns =>
          simp only [gD]
          cases renL (toExt ns) a with
          | none => rfl
          | some a' => cases hgets ((b ++ frzUp H (frzNs args)) ++ H) ns with
            | none => rfl
            | some os =>
              simp only [gE]
              cases renOs (toExt ns) os <;> rfl
theorem gA_some (cf : CF) (H : Hp) (r i : Nat) (f : FuncId) (args args' : List AV) : gA cf H r i f args (some args') = gB cf H r i f args' (frzUp H (frzNs args)) (reach (frzUp H (frzNs args) ++ H) 64 (namesL args') []) := _root_.id rfl
theorem gB_some (cf : CF) (H : Hp) (r i : Nat) (f : FuncId) (args : List AV) (u : Hp) (ns : List Nm) : gB cf H r i f args u (some ns) = gC cf H r i f args u (boxUps (u ++ H) ns) := _root_.id rfl
theorem gC_some (cf : CF) (H : Hp) (r i : Nat) (f : FuncId) (args : List AV) (u b : Hp) : gC cf H r i f args u (some b) = gD cf H r i f args (b ++ u) (reach ((b ++ u) ++ H) 64 (namesL args) []) := _root_.id rfl
theorem gD_some (cf : CF) (H : Hp) (r i : Nat) (f : FuncId) (args : List AV) (u : Hp) (ns : List Nm) : gD cf H r i f args u (some ns) = gE cf H r i f ns u (renL (toExt ns) args) (hgets (u ++ H) ns) := _root_.id rfl
theorem gE_some (cf : CF) (H : Hp) (r i : Nat) (f : FuncId) (ns : List Nm) (u : Hp) (a : List AV) (os : List AObj) : gE cf H r i f ns u (some a) (some os) = gF cf H r i f a ns u (renOs (toExt ns) os) := _root_.id rfl
theorem gF_some (cf : CF) (H : Hp) (r i : Nat) (f : FuncId) (ns : List Nm) (u : Hp) (a : List AV) (os : List AObj) : gF cf H r i f a ns u (some os) = gG H r i ns u (cf f a os) := _root_.id rfl
def gH (ns : List Nm) (ups : Hp) (v : PV) : Option (List AObj) → Option Dl
  | some outs => some { v := .p v, up := zipUp ns outs ++ ups }
  | none => none
theorem gH_some (ns : List Nm) (ups : Hp) (v : PV) (outs : List AObj) : gH ns ups v (some outs) = some { v := .p v, up := zipUp ns outs ++ ups } := _root_.id rfl
theorem gG_some (H : Hp) (r i : Nat) (ns : List Nm) (ups : Hp) (v : PV) (outs : List AObj) (h : outs.length = ns.length) : gG H r i ns ups (some ⟨.p v, outs, []⟩) = gH ns ups v (renOs (fromExt ns r i) outs) := by
  cases outs with
  | nil => cases ns with
    | nil => rfl
    | cons n ns => cases h
  | cons o os => cases ns with
    | nil => cases h
    | cons n ns =>
      simp only [gG, callEnd, h, newUp, freeH, and_self, if_true, AV.ren]
      cases renOs (fromExt (n :: ns) r i) (o :: os) <;> rfl
/-- Reaching. -/
def reachK (H : Hp) (n : Nat) (x : Nm) (todo acc : List Nm) : Option AObj → Option (List Nm)
  | some o => reach H n (todo ++ o.names) (acc ++ [x])
  | none => none
theorem reachK_some (H : Hp) (n : Nat) (x : Nm) (todo acc : List Nm) (o : AObj) : reachK H n x todo acc (some o) = reach H n (todo ++ o.names) (acc ++ [x]) := _root_.id rfl
theorem reach_nil (H : Hp) (n : Nat) (acc : List Nm) : reach H n [] acc = some acc := by cases n <;> rfl
theorem reach_in (H : Hp) (n : Nat) (x : Nm) (todo acc : List Nm) (h : x ∈ acc) : reach H (n + 1) (x :: todo) acc = reach H n todo acc := by
  rw [reach]; simp [h]
theorem reach_out (H : Hp) (n : Nat) (x : Nm) (todo acc : List Nm) (h : ¬ x ∈ acc) : reach H (n + 1) (x :: todo) acc = reachK H n x todo acc (hget H x) := by
  rw [reach]; simp only [h, if_false]
  cases hget H x <;> rfl
/-- Boxes that are handed over. -/
def boxK (H : Hp) (x : Nm) (u : Hp) (cs : List AV) : Option (List AV) → Option Hp
  | some cs' => some ((x, some (.box cs')) :: (frzUp H (cs.flatMap hslN) ++ u))
  | none => none
theorem boxK_some (H : Hp) (x : Nm) (u : Hp) (cs cs' : List AV) : boxK H x u cs (some cs') = some ((x, some (.box cs')) :: (frzUp H (cs.flatMap hslN) ++ u)) := _root_.id rfl
def boxJ (H : Hp) (x : Nm) : Option AObj → Option Hp → Option Hp
  | some (.box cs), some u => boxK H x u cs (frzL1 H cs)
  | some _, some u => some u
  | _, _ => none
theorem boxJ_box (H : Hp) (x : Nm) (cs : List AV) (u : Hp) : boxJ H x (some (.box cs)) (some u) = boxK H x u cs (frzL1 H cs) := _root_.id rfl
theorem boxJ_parr (H : Hp) (x : Nm) (cs : List PV) (z : Nat) (b : Bool) (u : Hp) : boxJ H x (some (.parr cs z b)) (some u) = some u := _root_.id rfl
theorem boxUps_nil (H : Hp) : boxUps H [] = some [] := _root_.id rfl
theorem boxUps_cons (H : Hp) (x : Nm) (r : List Nm) : boxUps H (x :: r) = boxJ H x (hget H x) (boxUps H r) := by
  rw [boxUps]
  cases hget H x with
  | none => cases boxUps H r <;> rfl
  | some o => cases boxUps H r with
    | none => cases o <;> rfl
    | some u => cases o with
      | box cs => simp only [boxJ]; cases frzL1 H cs <;> rfl
      | parr => rfl
      | arr => rfl
/-- The end of a call, names in it. -/
def hE (n : Nat) (ns : List Nm) (vs : List AV) : Option (List AObj) → Option (List AObj) → Option CR
  | some outs, some news => some { v := tup1 vs, outs, news }
  | _, _ => none
theorem hE_some (n : Nat) (ns : List Nm) (vs : List AV) (a b : List AObj) : hE n ns vs (some a) (some b) = some { v := tup1 vs, outs := a, news := b } := _root_.id rfl
def hD (n : Nat) (ns : List Nm) : Option (List AV) → Option (List AObj) → Option (List AObj) → Option CR
  | some vs, some os, some news => hE n ns vs (renOs (outNm n ns) os) (renOs (outNm n ns) news)
  | _, _, _ => none
theorem hD_some (n : Nat) (ns : List Nm) (vs : List AV) (a b : List AObj) : hD n ns (some vs) (some a) (some b) = hE n ns vs (renOs (outNm n ns) a) (renOs (outNm n ns) b) := _root_.id rfl
def hB (n : Nat) (H1 : Hp) (vs' : List AV) : Option (List Nm) → Option CR
  | some all => if all.take n = extNs 0 n then hD n (all.drop n) (renL (outNm n (all.drop n)) vs') (hgets H1 (extNs 0 n)) (hgets H1 (all.drop n)) else none
  | none => none
theorem hB_some (n : Nat) (H1 : Hp) (vs' : List AV) (all : List Nm) (h : all.take n = extNs 0 n) : hB n H1 vs' (some all) = hD n (all.drop n) (renL (outNm n (all.drop n)) vs') (hgets H1 (extNs 0 n)) (hgets H1 (all.drop n)) := by
  simp only [hB, h, if_true]
theorem hB_zero (H1 : Hp) (vs' : List AV) (all : List Nm) : hB 0 H1 vs' (some all) = hD 0 all (renL (outNm 0 all) vs') (some []) (hgets H1 all) := _root_.id rfl
def hA (n : Nat) (H : Hp) (vs : List AV) : Option (List AV) → Option CR
  | some vs' => hB n (frzUp H (frzNs vs) ++ H) vs' (reach (frzUp H (frzNs vs) ++ H) 64 (extNs 0 n ++ namesL vs') [])
  | none => none
theorem hA_some (n : Nat) (H : Hp) (vs vs' : List AV) : hA n H vs (some vs') = hB n (frzUp H (frzNs vs) ++ H) vs' (reach (frzUp H (frzNs vs) ++ H) 64 (extNs 0 n ++ namesL vs') []) := _root_.id rfl
theorem finishG_eq (F : SFn) (n : Nat) (st : St) (vs : List AV) (hF : F.rawR = false) : finish.finishG F n st vs = hA n st.H vs (frzL st.H vs) := by
  unfold finish.finishG
  simp only [hF, Bool.false_eq_true, if_false]
  cases frzL st.H vs with
  | none => rfl
  | some vs' =>
    simp only [hA]
    cases reach (frzUp st.H (frzNs vs) ++ st.H) 64 (extNs 0 n ++ namesL vs') [] with
    | none => rfl
    | some all =>
      simp only [hB]
      split
      · cases renL (outNm n (all.drop n)) vs' with
        | none => rfl
        | some a => cases hgets (frzUp st.H (frzNs vs) ++ st.H) (extNs 0 n) with
          | none => rfl
          | some b => cases hgets (frzUp st.H (frzNs vs) ++ st.H) (all.drop n) with
            | none => rfl
            | some c =>
              simp only [hD]
              cases renOs (outNm n (all.drop n)) b with
              | none => rfl
              | some x => cases renOs (outNm n (all.drop n)) c <;> rfl
      · rfl
theorem finX_many (F : SFn) (n : Nat) (st : St) (vs : List AV) (hF : F.rawR = false) : finX F (n + 2) st (some vs) = hA (n + 2) st.H vs (frzL st.H vs) := by
  rw [finX_succ, finishG_eq _ _ _ _ hF]
theorem fin0_names (F : SFn) (st : St) (f : FuncId) (a b : List AV) (x : List AV) (hF : F.rawR = false) (h : (plainL a && plainL b) = false) :
    fin0 F st [.fn f a b] (some (.fn f a b :: x)) = hB 0 st.H [.fn f a b] (reach st.H 64 (namesL [.fn f a b]) []) := by
  have hp : plainL (AV.fn f a b :: x) = false := rfl
  simp only [fin0, hp, Bool.false_eq_true, if_false]
  simp only [finX, if_true, show allP [AV.fn f a b] = none from rfl]
  rw [finishG_eq _ _ _ _ hF]
  rfl
theorem plainEnd_newF (H : Hp) (r i : Nat) (f : FuncId) (cs : List AV) (hc : plainL cs = true) (h : hget H (.loc r i 0) = none) : plainEnd H r i (some ⟨.fn f [] [.ptr (.ext 0) 0], [], [.box cs]⟩) = some { v := .fn f [] [.ptr (.loc r i 0) 0], up := [(.loc r i 0, some (.box cs))] } := by
  obtain ⟨_, h2⟩ := plainL_facts hc
  simp [plainEnd, callEnd, newUp, freeH, h, AV.ren, renL, renOs, AObj.ren, h2, zipUp, fromExt]
theorem plainL_ptr (x : Nm) (o : Nat) (r : List AV) : plainL (.ptr x o :: r) = false := _root_.id rfl
theorem plainL_fn (f : FuncId) (a b r : List AV) : plainL (.fn f a b :: r) = false := _root_.id rfl
theorem plainL_hsl (x : Nm) (a b : Nat) (r : List AV) : plainL (.hsl x a b :: r) = false := _root_.id rfl
theorem exts_three (H : Hp) : exts H 0 3 = [(.ext 0, hget H (.ext 0)), (.ext 1, hget H (.ext 1)), (.ext 2, hget H (.ext 2))] := _root_.id rfl
theorem exts_four (H : Hp) : exts H 0 4 = [(.ext 0, hget H (.ext 0)), (.ext 1, hget H (.ext 1)), (.ext 2, hget H (.ext 2)), (.ext 3, hget H (.ext 3))] := _root_.id rfl
attribute [go_sem] exts_three exts_four plainL_ptr plainL_fn plainL_hsl nmA_ptr nmA_fn nmA_p nmA_nils nmA_agg nmA_hsl anyNm_nil anyNm_cons genQ_ptr genQ_p genQ_agg genQ_nils genQ_hsl genQ_fn callD_gen gA_some gB_some gC_some gD_some gE_some gF_some gG_some gH_some
attribute [go_sem high] reachK_some reach_nil reach_in reach_out boxK_some boxJ_box boxJ_parr boxUps_nil boxUps_cons
attribute [go_sem] hE_some hD_some hB_zero hB_some hA_some finX_many fin0_names plainEnd_newF
end Go.Ab

namespace Go.Ab
/-! ### Functions that write in slices of others -/
theorem callD_raw (cf : CF) (H : Hp) (r i : Nat) (f : FuncId) (x : Nm) (o n : Nat) (rest : List AV) : callD cf true H r i f (.hsl x o n :: rest) = gD cf H r i f (.hsl x o n :: rest) [] (reach H 64 (namesL (.hsl x o n :: rest)) []) := by
  simp only [callD, allP, if_true, callNs, List.nil_append]
  cases reach H 64 (namesL (.hsl x o n :: rest)) [] with
  | none => rfl
  | some ns =>
    simp only [gD, List.nil_append]
    cases renL (toExt ns) (.hsl x o n :: rest) with
    | none => rfl
    | some a' => cases hgets H ns with
      | none => rfl
      | some os =>
        simp only [gE]
        cases renOs (toExt ns) os <;> rfl
def gT (ns : List Nm) (ups : Hp) (v : List AV) : Option (List AObj) → Option Dl
  | some outs => some { v := .tup v, up := zipUp ns outs ++ ups }
  | none => none
theorem gT_some (ns : List Nm) (ups : Hp) (v : List AV) (outs : List AObj) : gT ns ups v (some outs) = some { v := .tup v, up := zipUp ns outs ++ ups } := _root_.id rfl
theorem gG_tup (H : Hp) (r i : Nat) (ns : List Nm) (ups : Hp) (vs : List AV) (outs : List AObj) (h : outs.length = ns.length) (hv : plainL vs = true) : gG H r i ns ups (some ⟨.tup vs, outs, []⟩) = gT ns ups vs (renOs (fromExt ns r i) outs) := by
  obtain ⟨_, h2⟩ := plainL_facts hv
  cases outs with
  | nil => cases ns with
    | nil => simp [gG, callEnd, newUp, freeH, AV.ren, h2, renOs, zipUp, gT]
    | cons n ns => cases h
  | cons o os => cases ns with
    | nil => cases h
    | cons n ns =>
      simp only [gG, callEnd, h, newUp, freeH, and_self, if_true, AV.ren, h2, Option.map_some]
      cases renOs (fromExt (n :: ns) r i) (o :: os) <;> rfl
theorem plainL_frzNs : ∀ {vs : List AV}, plainL vs = true → frzNs vs = []
  | [], _ => rfl
  | .p _ :: r, h => by simp only [plainL] at h; simp only [frzNs, hslN, plainL_frzNs h, List.nil_append]
theorem fin1_parr (F : SFn) (st : St) (vs vs' : List AV) (es : List PV) (z : Nat) (b : Bool) (hF : F.rawR = false) (hx : hget st.H (.ext 0) = some (.parr es z b)) (h : plainL vs = true) : fin1 F st vs (some vs') (some (.parr es z b)) = some ⟨tup1 vs, [.parr es z b], []⟩ := by
  simp only [fin1]
  rw [finX_succ, finishG_eq _ _ _ _ hF, allP_frz h, hA_some, plainL_frzNs h]
  obtain ⟨h1, h2⟩ := plainL_facts h
  have hre : reach ([] ++ st.H) 64 (extNs 0 1 ++ namesL vs) [] = some [.ext 0] := by simp [reach, extNs, hx, AObj.names, h1]
  rw [show frzUp st.H [] = [] from rfl, hre]
  simp [hB, hD, extNs, h2, hgets, hx, renOs, AObj.ren, hE]
theorem opD_clear (cf : CF) (raw : FuncId → Bool) (r i : Nat) (T : Tm) (H : Hp) (zp : PV) (x : Opd) : opD cf raw r i T H (.clear zp x) = (match ev T x with
    | .hsl y off n => match hget H y with
      | some (.parr es z false) =>
        if n ≠ 0 ∧ off + n ≤ es.length ∧ zp.cells.length = z ∧ 0 < z then
          some { v := .tup [], up := [(y, some (.parr (es.take off ++ List.replicate n zp ++ es.drop (off + n)) z false))] } else none
      | _ => none
    | _ => none) := _root_.id rfl
theorem opD_shrink (cf : CF) (raw : FuncId → Bool) (r i : Nat) (T : Tm) (H : Hp) (z : Nat) (x hi : Opd) : opD cf raw r i T H (.shrink z x hi) = (match sliceA H z (ev T x) none (some (ev T hi)) none with
    | some (.hsl y 0 k) => match hget H y with
      | some (.parr es z' false) => some { v := .hsl y 0 k, up := [(y, some (.parr (es.take k) z' false))] }
      | _ => none
    | _ => none) := _root_.id rfl
attribute [go_sem] opD_shrink opD_clear callD_raw gT_some gG_tup fin1_parr
end Go.Ab

namespace Go.Ab
/-! ### Rounds over a slice from its end -/
def renTK (i : Nat) : Option AV → Option Tm → Option Tm
  | some v, some r => some ((i, v) :: r)
  | _, _ => none
theorem renTK_some (i : Nat) (v : AV) (r : Tm) : renTK i (some v) (some r) = some ((i, v) :: r) := _root_.id rfl
theorem renT_nil (f : Nm → Option Nm) : renT f [] = some [] := _root_.id rfl
theorem renT_cons (f : Nm → Option Nm) (i : Nat) (v : AV) (r : Tm) : renT f ((i, v) :: r) = renTK i (v.ren f) (renT f r) := by
  rw [renT]; cases v.ren f <;> cases renT f r <;> rfl
def inJ (T : Tm) : Option (List AObj) → Option St
  | some os => some { T := T, H := argH 0 os }
  | none => none
theorem inJ_some (T : Tm) (os : List AObj) : inJ T (some os) = some { T := T, H := argH 0 os } := _root_.id rfl
def inK (ns : List Nm) : Option Tm → Option (List AObj) → Option St
  | some T, some os => inJ T (renOs (toExt ns) os)
  | _, _ => none
theorem inK_some (ns : List Nm) (T : Tm) (os : List AObj) : inK ns (some T) (some os) = inJ T (renOs (toExt ns) os) := _root_.id rfl
theorem roundIn_eq (ns : List Nm) (T : Tm) (H : Hp) : roundIn ns T H = inK ns (renT (toExt ns) T) (hgets H ns) := by
  unfold roundIn inK
  cases renT (toExt ns) T with
  | none => rfl
  | some T => cases hgets H ns with
    | none => rfl
    | some os => simp only [inJ]; cases renOs (toExt ns) os <;> rfl
def pickU : Hp → Nm → Option AObj → Option AObj
  | [], _, o => o
  | (y, w) :: u, x, o => if y = x then w else pickU u x o
theorem pickU_nil (x : Nm) (o : Option AObj) : pickU [] x o = o := _root_.id rfl
theorem pickU_cons (y : Nm) (w : Option AObj) (u : Hp) (x : Nm) (o : Option AObj) : pickU ((y, w) :: u) x o = if y = x then w else pickU u x o := _root_.id rfl
theorem pickU_eq (x : Nm) (o : Option AObj) : ∀ u : Hp, (if (upNames u).contains x = true then hget u x else o) = pickU u x o
  | [] => by simp [upNames, pickU]
  | (y, w) :: u => by
    rw [pickU, hget, ← pickU_eq x o u]
    by_cases h : y = x
    · subst h; simp [upNames]
    · have h2 : ¬ x = y := fun e => h e.symm
      simp [upNames, h, h2]
theorem updH_nil (u : Hp) : updH u [] = [] := _root_.id rfl
theorem updH_cons (u : Hp) (x : Nm) (o : Option AObj) (r : Hp) : updH u ((x, o) :: r) = (x, pickU u x o) :: updH u r := by
  rw [updH, pickU_eq]
def rdD (ns : List Nm) (H : Hp) (e : Ex) : Option (List AObj) → Option (Ex × Hp)
  | some outs => some (e, updH (zipUp ns outs) H)
  | none => none
theorem rdD_some (ns : List Nm) (H : Hp) (e : Ex) (outs : List AObj) : rdD ns H e (some outs) = some (e, updH (zipUp ns outs) H) := _root_.id rfl
def rdC (ns : List Nm) (H : Hp) (e : Ex) : Option CR → Option (Ex × Hp)
  | some ⟨_, outs, []⟩ => rdD ns H e (renOs (fromExt ns 0 0) outs)
  | _ => none
theorem rdC_some (ns : List Nm) (H : Hp) (e : Ex) (v : AV) (outs : List AObj) : rdC ns H e (some ⟨v, outs, []⟩) = rdD ns H e (renOs (fromExt ns 0 0) outs) := _root_.id rfl
def rdB (ns : List Nm) (H : Hp) : Option (Ex × St) → Option (Ex × Hp)
  | some (e, st) => rdC ns H e (finX rvF ns.length st (some []))
  | none => none
theorem rdB_some (ns : List Nm) (H : Hp) (e : Ex) (st : St) : rdB ns H (some (e, st)) = rdC ns H e (finX rvF ns.length st (some [])) := _root_.id rfl
def rdA (f : St → Option (Ex × St)) (ns : List Nm) (p q : Nat) (i z : Int) (H : Hp) : Option St → Option (Ex × Hp)
  | some st => rdB ns H (f { T := (q, .p (.int .i64 z)) :: (p, .p (.int .i64 i)) :: st.T, H := st.H })
  | none => none
theorem rdA_some (f : St → Option (Ex × St)) (ns : List Nm) (p q : Nat) (i z : Int) (H : Hp) (st : St) : rdA f ns p q i z H (some st) = rdB ns H (f { T := (q, .p (.int .i64 z)) :: (p, .p (.int .i64 i)) :: st.T, H := st.H }) := _root_.id rfl
theorem finish_rvF (n : Nat) (st : St) : finish rvF n st = finX rvF n st (some []) := by
  rw [finish_eq]; rfl
theorem roundX_eq (f : St → Option (Ex × St)) (ns : List Nm) (T : Tm) (p q : Nat) (i z : Int) (H : Hp) : roundX f ns T p q i z H = rdA f ns p q i z H (roundIn ns T H) := by
  unfold roundX rdA
  cases roundIn ns T H with
  | none => rfl
  | some st =>
    simp only [obind_some, rdB]
    cases f { T := (q, .p (.int .i64 z)) :: (p, .p (.int .i64 i)) :: st.T, H := st.H } with
    | none => rfl
    | some r =>
      obtain ⟨e, s⟩ := r
      simp only [obind_some, roundOut, finish_rvF]
      cases finX rvF ns.length s (some []) with
      | none => rfl
      | some c =>
        obtain ⟨v, outs, news⟩ := c
        cases news with
        | nil =>
          simp only [rdC, rdD]
          cases renOs (fromExt ns 0 0) outs <;> rfl
        | cons a b => rfl
theorem nrmX_nrm (st : St) (k : St → Option (Ex × St)) : nrmX (some (.nrm, st)) k = k st := _root_.id rfl
noncomputable def roundY (E : Env) (ns : List Nm) (T : Tm) (p q : Nat) (a b : SCode) : Int → Int → Hp → Option (Ex × Hp) :=
  roundX (fun st => nrmX (sexW E ns.length a st) fun st => sexW E ns.length b st) ns T p q
theorem roundY_eq (E : Env) (ns : List Nm) (T : Tm) (p q : Nat) (a b : SCode) (i z : Int) (H : Hp) : roundY E ns T p q a b i z H = rdA (fun st => nrmX (sexW E ns.length a st) fun st => sexW E ns.length b st) ns p q i z H (roundIn ns T H) := by
  rw [roundY, roundX_eq]
def bkC (T : Tm) : Option (Ex × Hp) → Option (Ex × St)
  | some (e, H) => some (e, { T := T, H := H })
  | none => none
theorem bkC_some (T : Tm) (e : Ex) (H : Hp) : bkC T (some (e, H)) = some (e, { T := T, H := H }) := _root_.id rfl
noncomputable def bkB (E : Env) (p q : Nat) (a b : SCode) (T : Tm) (H : Hp) : Option (Nm × List Int) → Option (List Nm) → Option (Ex × St)
  | some c, some ns => bkC T (roundsX (roundY E ns T p q a b) c.1 c.2 c.2.length H)
  | _, _ => none
theorem bkB_some (E : Env) (p q : Nat) (a b : SCode) (T : Tm) (H : Hp) (y : Nm) (zs : List Int) (ns : List Nm) : bkB E p q a b T H (some (y, zs)) (some ns) = bkC T (roundsX (roundY E ns T p q a b) y zs zs.length H) := _root_.id rfl
noncomputable def bkA (E : Env) (g : FuncId) (x : Opd) (p q : Nat) (a b : SCode) : Option St → Option (Ex × St)
  | some st => bkB E p q a b st.T st.H (capOf g st.H (ev st.T x)) (reach st.H 64 (namesT st.T) [])
  | none => none
theorem bkA_some (E : Env) (g : FuncId) (x : Opd) (p q : Nat) (a b : SCode) (st : St) : bkA E g x p q a b (some st) = bkB E p q a b st.T st.H (capOf g st.H (ev st.T x)) (reach st.H 64 (namesT st.T) []) := _root_.id rfl
theorem sexW_bk (E : Env) (n : Nat) (st : St) (g : FuncId) (x : Opd) (p q : Nat) (kt : List Nat) (kh : List Nm) (a b : SCode) : sexW E n (.rback g x p q kt kh a b) st = bkA E g x p q a b (cutX n kt kh st) := by
  rw [sexW_rback]
  cases cutX n kt kh st with
  | none => rfl
  | some st =>
    simp only [obind_some, bkA, backX]
    cases capOf g st.H (ev st.T x) with
    | none => rfl
    | some c => cases reach st.H 64 (namesT st.T) [] with
      | none => rfl
      | some ns =>
        simp only [obind_some, bkB]
        unfold roundY
        cases roundsX _ c.1 c.2 c.2.length st.H with
        | none => rfl
        | some r => rfl
theorem intsOf_map : ∀ l : List Int, intsOf (l.map (.int .i64)) = some l
  | [] => rfl
  | x :: r => by rw [List.map_cons, intsOf, intsOf_map r]
where capL (y : Nm) : Option (List Int) → Option (Nm × List Int)
  | some zs => if zs.length ≤ most then some (y, zs) else none
  | none => none
theorem capOf_eq (g : FuncId) (H : Hp) (y : Nm) (zs : List Int) (hz : zs.length ≤ most) (h : hget H y = some (.box [.p (.sl 1 (zs.map (.int .i64)))])) : capOf g H (.fn g [] [.ptr y 0]) = some (y, zs) := by
  simp only [capOf, if_true, capAt, h, intsOf_map, hz]
theorem capAt_eq (H : Hp) (y : Nm) (zs : List Int) (h : hget H y = some (.box [.p (.sl 1 (zs.map (.int .i64)))])) : capAt H y = some zs := by
  simp only [capAt, h, intsOf_map]
theorem roundsX_step {f : Int → Int → Hp → Option (Ex × Hp)} {y : Nm} {zs : List Int} {k : Nat} {z : Int} {H H' : Hp} (hz : zs[k]? = some z) (h : f k z H = some (.nrm, H')) (hc : capAt H' y = some zs) : roundsX f y zs (k + 1) H = roundsX f y zs k H' := by
  rw [roundsX, hz, obind_some, h, obind_some, nextX, if_pos hc]
theorem roundsX_ex {f : Int → Int → Hp → Option (Ex × Hp)} {y : Nm} {zs : List Int} {k : Nat} {z : Int} {H H' : Hp} {id : Nat} (hz : zs[k]? = some z) (h : f k z H = some (.ex id, H')) (hc : capAt H' y = some zs) : roundsX f y zs (k + 1) H = some (.ex id, H') := by
  rw [roundsX, hz, obind_some, h, obind_some, nextX, if_pos hc] <;> (intro h; cases h)
theorem roundsX_ret {f : Int → Int → Hp → Option (Ex × Hp)} {y : Nm} {zs : List Int} {k : Nat} {z : Int} {H H' : Hp} (hz : zs[k]? = some z) (h : f k z H = some (.ret, H')) (hc : capAt H' y = some zs) : roundsX f y zs (k + 1) H = some (.ret, H') := by
  rw [roundsX, hz, obind_some, h, obind_some, nextX, if_pos hc] <;> (intro h; cases h)
theorem rvF_rawR : rvF.rawR = false := _root_.id rfl
attribute [go_sem] renTK_some renT_nil renT_cons inJ_some inK_some roundIn_eq pickU_nil pickU_cons updH_nil updH_cons rdD_some rdC_some rdB_some rdA_some nrmX_nrm bkC_some bkB_some bkA_some sexW_bk rvF_rawR
/-! ### What a call may look at -/
def fpD (H : Hp) (u : Hp) (ns0 ns : List Nm) : Option (List Nm) → List Nm
  | some ns2 => ns0 ++ (ns ++ (objNs (u ++ H) ns ++ ns2))
  | none => []
theorem fpD_some (H : Hp) (u : Hp) (ns0 ns ns2 : List Nm) : fpD H u ns0 ns (some ns2) = ns0 ++ (ns ++ (objNs (u ++ H) ns ++ ns2)) := _root_.id rfl
def fpC (H : Hp) (u : Hp) (ns0 ns1 ns : List Nm) : Option Hp → List Nm
  | some b => fpD H u ns0 ns (reach ((b ++ u) ++ H) 64 ns1 [])
  | none => []
theorem fpC_some (H : Hp) (u : Hp) (ns0 ns1 ns : List Nm) (b : Hp) : fpC H u ns0 ns1 ns (some b) = fpD H u ns0 ns (reach ((b ++ u) ++ H) 64 ns1 []) := _root_.id rfl
def fpB (H : Hp) (u : Hp) (ns0 ns1 : List Nm) : Option (List Nm) → List Nm
  | some ns => fpC H u ns0 ns1 ns (boxUps (u ++ H) ns)
  | none => []
theorem fpB_some (H : Hp) (u : Hp) (ns0 ns1 ns : List Nm) : fpB H u ns0 ns1 (some ns) = fpC H u ns0 ns1 ns (boxUps (u ++ H) ns) := _root_.id rfl
def fpA (H : Hp) (args : List AV) : Option (List AV) → List Nm
  | some args' => fpB H (frzUp H (frzNs args)) (namesL args) (namesL args') (reach (frzUp H (frzNs args) ++ H) 64 (namesL args') [])
  | none => []
theorem fpA_some (H : Hp) (args args' : List AV) : fpA H args (some args') = fpB H (frzUp H (frzNs args)) (namesL args) (namesL args') (reach (frzUp H (frzNs args) ++ H) 64 (namesL args') []) := _root_.id rfl
theorem callFp_gen (H : Hp) (args : List AV) (h : genQ args = true) : callFp false H args = fpA H args (frzL H args) := by
  simp only [callFp, genQ_allP h, Bool.false_eq_true, if_false]
  cases frzL H args with
  | none => rfl
  | some a =>
    simp only [fpA]
    cases reach (frzUp H (frzNs args) ++ H) 64 (namesL a) [] with
    | none => rfl
    | some ns =>
      simp only [fpB]
      cases boxUps (frzUp H (frzNs args) ++ H) ns with
      | none => rfl
      | some b =>
        simp only [fpC]
        cases reach ((b ++ frzUp H (frzNs args)) ++ H) 64 (namesL a) [] <;> rfl
theorem ifPg (r j : Nat) (a b : Ent) (h : entRd r j a b = true) : (if entPg r j a b = true then true else entRd r j a b) = true := by
  rw [h]; split <;> rfl
theorem footO_nil (H : Hp) : footO H [] = [] := _root_.id rfl
theorem footO_cons (H : Hp) (x : Nm) (r : List Nm) : footO H (x :: r) = hget H x :: footO H r := _root_.id rfl
theorem ifSelf (c : Prop) [Decidable c] (b : Bool) : (if c then b else b) = b := by split <;> rfl
theorem nmEmpty_nil : ([] : List Nm).isEmpty = true := _root_.id rfl
theorem nmEmpty_cons (x : Nm) (r : List Nm) : (x :: r).isEmpty = false := _root_.id rfl
attribute [go_sem] nmEmpty_nil nmEmpty_cons ifSelf fpD_some fpC_some fpB_some fpA_some callFp_gen ifPg footO_nil footO_cons
end Go.Ab

namespace Go.Ab.S
open Go Go.Ab
variable {E : Env} [EnvS E]

/-- A trust of one level, and one of two. -/
structure In where
  th : Int
  ns : List Int
structure Tr where
  th : Int
  ns : List Int
  is : List In
def In.pv (t : In) : PV := .agg [.int .i64 t.th, .sl 1 (t.ns.map (.int .i64)), .sl 3 []]
def Tr.pv (t : Tr) : PV := .agg [.int .i64 t.th, .sl 1 (t.ns.map (.int .i64)), .sl 3 (t.is.map In.pv)]

/-- 0, 1, .. -/
def upto : Nat → Nat → List Int
  | 0, _ => []
  | k + 1, i => (i : Int) :: upto k (i + 1)
theorem upto_len : ∀ k i, (upto k i).length = k
  | 0, _ => rfl
  | k + 1, i => by simp [upto, upto_len k]
/-- A slice of one's own that begins as nil. -/
def ownA (z : Nat) (x : Nm) (n : Nat) : AV := if n = 0 then .nils z else .hsl x 0 n
def ownO (z : Nat) (es : List PV) : Option AObj := if es.length = 0 then none else some (.parr es z false)
theorem ownA_nil (z : Nat) (x : Nm) : ownA z x 0 = .nils z := rfl
theorem ownA_succ (z : Nat) (x : Nm) (n : Nat) : ownA z x (n + 1) = .hsl x 0 (n + 1) := rfl
theorem ownO_nil (z : Nat) : ownO z [] = none := rfl
theorem ownO_cons (z : Nat) (e : PV) (es : List PV) : ownO z (e :: es) = some (.parr (e :: es) z false) := rfl
theorem loop36 (n : Nat) (th : Int) (hn : n ≤ 1000) : ∀ (k i : Nat) (ns : List Int), k + i = n → ns.length = i →
    loopW E 0 [0, 4, 5, 6] [.loc 0 0 0, .loc 1 2 0, .loc 5 4 0] (.trim [0, 4, 5, 6] [4] [(0, [4, 5])] [.loc 0 0 0, .loc 1 2 0, .loc 5 4 0] s36_2)
      (some ⟨[(0, .p (.int .i64 n)), (4, .ptr (.loc 0 0 0) 0), (5, .ptr (.loc 1 2 0) 0), (6, .p (.int .i64 i))],
        [(.loc 0 0 0, some (.box [.p (.int .i64 0), .nils 1, .nils 3])), (.loc 1 2 0, some (.box [.p (.int .i64 th), ownA 1 (.loc 5 4 0) ns.length, .nils 3])), (.loc 5 4 0, ownO 1 (ns.map (.int .i64)))]⟩) =
    some (.ex 0, ⟨[(4, .ptr (.loc 0 0 0) 0), (5, .ptr (.loc 1 2 0) 0)],
        [(.loc 0 0 0, some (.box [.p (.int .i64 0), .nils 1, .nils 3])), (.loc 1 2 0, some (.box [.p (.int .i64 th), ownA 1 (.loc 5 4 0) (ns ++ upto k i).length, .nils 3])), (.loc 5 4 0, ownO 1 ((ns ++ upto k i).map (.int .i64)))]⟩) := by
  generalize hK : loopW E 0 _ _ _ = K
  intro k
  induction k with
  | zero =>
    intro i ns hk hns
    have hlt : ¬ (i : Int) < n := by omega
    rw [← hK, loopW_some, hK, upto, List.append_nil]
    cases ns with
    | nil =>
      simp -implicitDefEqProofs only [go_sem, s36_2, s36_1, hlt, ownA_nil, ownO_nil]
    | cons n1 ns =>
      simp -implicitDefEqProofs only [go_sem, s36_2, s36_1, hlt, ownA_succ, ownO_cons]
  | succ k ih =>
    intro i ns hk hns
    have hlt : (i : Int) < n := by omega
    have hw : IntKind.i64.wrap ((i : Int) + 1) = ((i + 1 : Nat) : Int) := by rw [wrap64 (by omega) (by omega)]; omega
    have ih' := ih (i + 1) (ns ++ [(i : Int)]) (by omega) (by simp; omega)
    rw [← hK, loopW_some, hK]
    cases ns with
    | nil =>
      have hm : 1 ≤ most := by unfold most; omega
      simp only [List.map_cons, List.map_nil, List.length_append, List.length_cons, List.length_nil, Nat.zero_add, List.nil_append, List.singleton_append, ownA_succ, ownO_cons, List.cons_append] at ih'
      simp -implicitDefEqProofs only [go_sem, s36_2, s36_1, hlt, hw, hm, upto, ih', ownA_nil, ownO_nil, ownA_succ, ownO_cons]
    | cons n1 ns =>
      have hm : ns.length + 1 + 1 ≤ most := by simp at hns; unfold most; omega
      simp only [List.map_append, List.map_cons, List.map_nil, List.length_append, List.length_cons, List.length_nil, Nat.zero_add, List.append_assoc, List.singleton_append, ownA_succ, ownO_cons, List.cons_append] at ih'
      simp -implicitDefEqProofs only [go_sem, s36_2, s36_1, hlt, hw, hm, upto, ih', List.map_append, List.append_assoc, List.singleton_append, List.length_append, ownA_succ, ownO_cons]
theorem e36 (n : Nat) (th : Int) (hn : n ≤ 1000) : callW E 36 [.p (.int .i64 n), .p (.int .i64 th)] [] = some ⟨.p (Tr.pv ⟨th, upto n 0, []⟩), [], []⟩ := by
  rw [callW_eq, EnvS.h 36 F36 rfl]
  have lp := loop36 (E := E) n th hn n 0 [] (by omega) rfl
  simp only [List.nil_append, List.map_nil, List.length_nil, Int.natCast_zero, ownA_nil, ownO_nil] at lp
  unfold Tr.pv
  cases n with
  | zero =>
    simp only [Int.natCast_zero] at lp
    simp -implicitDefEqProofs only [go_sem, F36, s36, s36_3, lp, upto, List.length_nil, List.map_nil, ownA_nil, ownO_nil]
  | succ n => simp -implicitDefEqProofs only [go_sem, F36, s36, s36_3, lp, upto, List.length_cons, List.map_cons, ownA_succ, ownO_cons]
theorem e17 (zs : List Int) : callW E 17 [.p (.sl 1 (zs.map (.int .i64)))] [] = some ⟨.ptr (.ext 0) 0, [], [.box [.p (.sl 1 ((zs.take 800).map (.int .i64))), .p (.int .i64 0)]]⟩ := by
  rw [callW_eq, EnvS.h 17 F17 rfl]
  have h1 : (if (800 : Int) < (zs.length : Int) then (800 : Int) else zs.length) = ((min zs.length 800 : Nat) : Int) := by split <;> omega
  have h2 : (0 : Int) ≤ ((min zs.length 800 : Nat) : Int) := by omega
  have h3 : ((min zs.length 800 : Nat) : Int) ≤ (zs.length : Int) := by omega
  have h4 : List.take (min zs.length 800) (List.map (PV.int .i64) zs) = (zs.take 800).map (.int .i64) := by
    rw [← List.map_take, Nat.min_comm, ← List.take_take, List.take_length]
  simp -implicitDefEqProofs only [go_sem, F17, s17, h1, h2, h3, h4, Nat.sub_zero, Option.isSome, finX, finish.finishG]
end Go.Ab.S

namespace Go.Ab.S
open Go Go.Ab
variable {E : Env} [EnvS E]

/-- A ballot. -/
structure Bal where
  c : Int
  v : ByteArray
  deriving DecidableEq
def lessV (a b : ByteArray) : Bool := if a.size = b.size then Op.bytesLess a.toList b.toList else decide (a.size < b.size)
def cmpS (a b : ByteArray) : Int := if Op.bytesLess a.toList b.toList = true then -1 else if a = b then 0 else 1
def cmpI (a b : Int) : Int := if a < b then -1 else if b < a then 1 else 0
def or2 (a b : Int) : Int := if a = 0 then b else a
def cmpV (a b : ByteArray) : Int := or2 (cmpI a.size b.size) (cmpS a b)
def cmpB (a b : Bal) : Int := or2 (cmpI a.c b.c) (cmpV a.v b.v)
def less (a b : Bal) : Bool := decide (cmpB a b < 0)
def zeroB (b : Bal) : Bool := decide (b.c = 0) && decide (b.v = ByteArray.empty)
def covers (p b : Bal) : Bool := !zeroB p && decide (p.v = b.v) && decide (b.c ≤ p.c)
def aborts (p b : Bal) : Bool := !zeroB p && !decide (p.v = b.v) && less b p
def prepares (p q b : Bal) : Bool := covers p b || covers q b || (!zeroB q && less b q)

theorem e197 (x : Int) : callW E 197 [.p (.int .i64 x)] [] = some ⟨.p (.bool false), [], []⟩ := by
  rw [callW_eq, EnvS.h 197 F197 rfl]
  simp -implicitDefEqProofs only [go_sem, F197, s197, ]
  repeat' ((first | rw [condW_q] | rw [opsG_q] | rw [opsLG_q]); unfold ifq; split <;> rename_i hq <;> simp -implicitDefEqProofs only [go_sem, hq, ])
theorem e230 (x : ByteArray) : callW E 230 [.p (.str x)] [] = some ⟨.p (.bool false), [], []⟩ := by
  rw [callW_eq, EnvS.h 230 F230 rfl]
  simp -implicitDefEqProofs only [go_sem, F230, s230, ]
  repeat' ((first | rw [condW_q] | rw [opsG_q] | rw [opsLG_q]); unfold ifq; split <;> rename_i hq <;> simp -implicitDefEqProofs only [go_sem, hq, ])
theorem e115 (x y : Int) : callW E 115 [.p (.int .i64 x), .p (.int .i64 y)] [] = some ⟨.p (.int .i64 (cmpI x y)), [], []⟩ := by
  rw [callW_eq, EnvS.h 115 F115 rfl]
  unfold cmpI
  by_cases h1 : x < y <;> by_cases h2 : y < x <;> simp -implicitDefEqProofs only [go_sem, F115, s115, s115_2, s115_1, s115_3, s115_4, s115_5, e197, h1, h2]
theorem e193 (x y : ByteArray) : callW E 193 [.p (.str x), .p (.str y)] [] = some ⟨.p (.int .i64 (cmpS x y)), [], []⟩ := by
  rw [callW_eq, EnvS.h 193 F193 rfl]
  simp -implicitDefEqProofs only [go_sem, F193, s193, s193_2, s193_1, s193_3, s193_4, s193_5, e230]
  repeat' ((first | rw [condW_q] | rw [opsG_q] | rw [opsLG_q]); unfold ifq; split <;> rename_i hq <;> simp -implicitDefEqProofs only [go_sem, hq, e230])
  all_goals simp_all [cmpS]
theorem e190 (x y : Int) : callW E 190 [.p (.sl 1 [.int .i64 x, .int .i64 y])] [] = some ⟨.p (.int .i64 (or2 x y)), [], []⟩ := by
  rw [callW_eq, EnvS.h 190 F190 rfl]
  have w1 : IntKind.i64.wrap (0 + 1) = 1 := by decide
  have w2 : IntKind.i64.wrap (1 + 1) = 2 := by decide
  unfold or2
  by_cases h1 : x = 0
  · by_cases h2 : y = 0 <;> simp -implicitDefEqProofs only [go_sem, F190, s190, s190_4, s190_3, s190_2, s190_1, loopW_some, h1, h2, w1, w2]
  · simp -implicitDefEqProofs only [go_sem, F190, s190, s190_4, s190_3, s190_2, s190_1, loopW_some, h1, w1, w2]
attribute [go_sem] e197 e230 e115 e193 e190
theorem e111 (x y : ByteArray) : callW E 111 [.p (.str x), .p (.str y)] [] = some ⟨.p (.int .i64 (cmpV x y)), [], []⟩ := by
  rw [callW_eq, EnvS.h 111 F111 rfl]
  unfold cmpV
  simp -implicitDefEqProofs only [go_sem, F111, s111]
attribute [go_sem] e111
theorem e109 (a b : Bal) : callW E 109 [.p (.agg [.int .i64 a.c, .str a.v]), .p (.agg [.int .i64 b.c, .str b.v])] [] = some ⟨.p (.int .i64 (cmpB a b)), [], []⟩ := by
  rw [callW_eq, EnvS.h 109 F109 rfl]
  unfold cmpB
  simp -implicitDefEqProofs only [go_sem, F109, s109]
attribute [go_sem] e109
theorem e123 (a b : Bal) : callW E 123 [.p (.agg [.int .i64 a.c, .str a.v]), .p (.agg [.int .i64 b.c, .str b.v])] [] = some ⟨.p (.bool (less a b)), [], []⟩ := by
  rw [callW_eq, EnvS.h 123 F123 rfl]
  simp -implicitDefEqProofs only [go_sem, F123, s123]
  rfl
theorem e107 (a : Bal) : callW E 107 [.p (.agg [.int .i64 a.c, .str a.v])] [] = some ⟨.p (.bool (zeroB a)), [], []⟩ := by
  rw [callW_eq, EnvS.h 107 F107 rfl]
  simp -implicitDefEqProofs only [go_sem, F107, s107]
  rfl
theorem e45 (a : Bal) : callW E 45 [.p (.agg [.int .i64 a.c, .str a.v])] [] = some ⟨.p (.bool (zeroB a)), [], []⟩ := by
  rw [callW_eq, EnvS.h 45 F45 rfl]
  simp -implicitDefEqProofs only [go_sem, F45, s45]
  rfl
theorem e136 (a b : Bal) : callW E 136 [.p (.agg [.int .i64 a.c, .str a.v]), .p (.agg [.int .i64 b.c, .str b.v])] [] = some ⟨.p (.bool (decide (a.v = b.v))), [], []⟩ := by
  rw [callW_eq, EnvS.h 136 F136 rfl]
  simp -implicitDefEqProofs only [go_sem, F136, s136]
theorem e128 (a b : Bal) : callW E 128 [.p (.agg [.int .i64 a.c, .str a.v]), .p (.agg [.int .i64 b.c, .str b.v])] [] = some ⟨.p (.bool (decide (a.v = b.v))), [], []⟩ := by
  rw [callW_eq, EnvS.h 128 F128 rfl]
  simp -implicitDefEqProofs only [go_sem, F128, s128]
attribute [go_sem] e123 e107 e45 e136 e128
theorem e24 (x y : ByteArray) : callW E 24 [.p (.str x), .p (.str y)] [] = some ⟨.p (.bool (lessV x y)), [], []⟩ := by
  rw [callW_eq, EnvS.h 24 F24 rfl]
  unfold lessV
  by_cases h : x.size = y.size
  · have h' : (x.size : Int) = y.size := by omega
    simp -implicitDefEqProofs only [go_sem, F24, s24, s24_1, h, h']
  · have h' : ¬ (x.size : Int) = y.size := by omega
    simp -implicitDefEqProofs only [go_sem, F24, s24, s24_1, h, h', not_false_eq_true, Int.ofNat_lt]
attribute [go_sem] e24
theorem less_eq (a b : Bal) : less a b = if a.c = b.c then lessV a.v b.v else decide (a.c < b.c) := by
  unfold less cmpB cmpV cmpI cmpS or2 lessV
  by_cases h1 : a.c < b.c
  · have : ¬ a.c = b.c := by omega
    simp [h1, this]
  · by_cases h2 : b.c < a.c
    · have : ¬ a.c = b.c := by omega
      simp [h1, h2, this]
    · have : a.c = b.c := by omega
      simp [this]
      by_cases h3 : a.v.size < b.v.size
      · have : ¬ a.v.size = b.v.size := by omega
        simp [h3, this]
      · by_cases h4 : b.v.size < a.v.size
        · have : ¬ a.v.size = b.v.size := by omega
          simp [h3, h4, this]
        · have : a.v.size = b.v.size := by omega
          simp [this]
          split
          · simp_all
          · split <;> simp_all
theorem e21 (a b : Bal) : callW E 21 [.p (.agg [.int .i64 a.c, .str a.v]), .p (.agg [.int .i64 b.c, .str b.v])] [] = some ⟨.p (.bool (less a b)), [], []⟩ := by
  rw [callW_eq, EnvS.h 21 F21 rfl]
  rw [less_eq]
  simp -implicitDefEqProofs only [go_sem, F21, s21, s21_1, ]
  repeat' ((first | rw [condW_q] | rw [opsG_q] | rw [opsLG_q]); unfold ifq; split <;> rename_i hq <;> simp -implicitDefEqProofs only [go_sem, hq, ])
  all_goals simp_all
theorem e194 (a b : Bal) : callW E 194 [.p (.agg [.int .i64 a.c, .str a.v]), .p (.agg [.int .i64 b.c, .str b.v])] [] = some ⟨.p (.bool (covers a b)), [], []⟩ := by
  rw [callW_eq, EnvS.h 194 F194 rfl]
  unfold covers
  simp -implicitDefEqProofs only [go_sem, F194, s194, ]
  repeat' ((first | rw [condW_q] | rw [opsG_q] | rw [opsLG_q]); unfold ifq; split <;> rename_i hq <;> simp -implicitDefEqProofs only [go_sem, hq, ])
theorem e134 (a b : Bal) : callW E 134 [.p (.agg [.int .i64 a.c, .str a.v]), .p (.agg [.int .i64 b.c, .str b.v])] [] = some ⟨.p (.bool (covers a b)), [], []⟩ := by
  rw [callW_eq, EnvS.h 134 F134 rfl]
  unfold covers
  simp -implicitDefEqProofs only [go_sem, F134, s134, ]
  repeat' ((first | rw [condW_q] | rw [opsG_q] | rw [opsLG_q]); unfold ifq; split <;> rename_i hq <;> simp -implicitDefEqProofs only [go_sem, hq, ])
attribute [go_sem] e21 e194 e134
theorem e122 (a b : Bal) : callW E 122 [.p (.agg [.int .i64 a.c, .str a.v]), .p (.agg [.int .i64 b.c, .str b.v])] [] = some ⟨.p (.bool (aborts a b)), [], []⟩ := by
  rw [callW_eq, EnvS.h 122 F122 rfl]
  unfold aborts
  simp -implicitDefEqProofs only [go_sem, F122, s122, ]
  repeat' ((first | rw [condW_q] | rw [opsG_q] | rw [opsLG_q]); unfold ifq; split <;> rename_i hq <;> simp -implicitDefEqProofs only [go_sem, hq, ])
theorem e90 (a b : Bal) : callW E 90 [.p (.agg [.int .i64 a.c, .str a.v]), .p (.agg [.int .i64 b.c, .str b.v])] [] = some ⟨.p (.bool (aborts a b)), [], []⟩ := by
  rw [callW_eq, EnvS.h 90 F90 rfl]
  unfold aborts
  simp -implicitDefEqProofs only [go_sem, F90, s90, ]
  repeat' ((first | rw [condW_q] | rw [opsG_q] | rw [opsLG_q]); unfold ifq; split <;> rename_i hq <;> simp -implicitDefEqProofs only [go_sem, hq, ])
theorem e132 (a b c : Bal) : callW E 132 [.p (.agg [.int .i64 a.c, .str a.v]), .p (.agg [.int .i64 b.c, .str b.v]), .p (.agg [.int .i64 c.c, .str c.v])] [] = some ⟨.p (.bool (prepares a b c)), [], []⟩ := by
  rw [callW_eq, EnvS.h 132 F132 rfl]
  unfold prepares
  simp -implicitDefEqProofs only [go_sem, F132, s132, ]
  repeat' ((first | rw [condW_q] | rw [opsG_q] | rw [opsLG_q]); unfold ifq; split <;> rename_i hq <;> simp -implicitDefEqProofs only [go_sem, hq, ])
theorem e46 (a b c : Bal) : callW E 46 [.p (.agg [.int .i64 a.c, .str a.v]), .p (.agg [.int .i64 b.c, .str b.v]), .p (.agg [.int .i64 c.c, .str c.v])] [] = some ⟨.p (.bool (prepares a b c)), [], []⟩ := by
  rw [callW_eq, EnvS.h 46 F46 rfl]
  unfold prepares
  simp -implicitDefEqProofs only [go_sem, F46, s46, ]
  repeat' ((first | rw [condW_q] | rw [opsG_q] | rw [opsLG_q]); unfold ifq; split <;> rename_i hq <;> simp -implicitDefEqProofs only [go_sem, hq, ])
attribute [go_sem] e122 e90 e132 e46
end Go.Ab.S

namespace Go.Ab.S
open Go Go.Ab

/-- A loop over a list. -/
theorem range_loopI {α σ : Type} (K : Option St → Option (Ex × St)) (xs : List α) (st : Nat → σ → St) (g : σ → List α → Option (Ex × St)) (Inv : Nat → σ → Prop)
    (hend : ∀ s, Inv xs.length s → K (some (st xs.length s)) = g s [])
    (hstep : ∀ i s x r, xs[i]? = some x → i + (r.length + 1) = xs.length → Inv i s → (∀ s', Inv (i + 1) s' → K (some (st (i + 1) s')) = g s' r) → K (some (st i s)) = g s (x :: r)) (s : σ) (h0 : Inv 0 s) :
    K (some (st 0 s)) = g s xs := by
  have key : ∀ (suf : List α) (i : Nat) (s : σ), xs.drop i = suf → i ≤ xs.length → Inv i s → K (some (st i s)) = g s suf := by
    intro suf
    induction suf with
    | nil =>
      intro i s h hi hI
      have : i = xs.length := by
        have := congrArg List.length h
        simp at this; omega
      subst this
      exact hend s hI
    | cons x r ih =>
      intro i s h hi hI
      have hlen : i + (r.length + 1) = xs.length := by
        have := congrArg List.length h
        simp at this; omega
      have hx : xs[i]? = some x := by
        have := congrArg (fun l => l[0]?) h
        simpa using this
      have hr : xs.drop (i + 1) = r := by
        have := congrArg List.tail h
        simpa using this
      exact hstep i s x r hx hlen hI (fun s' h' => ih (i + 1) s' hr (by omega) h')
  exact key xs 0 s (by simp) (by omega) h0
theorem range_loop {α σ : Type} (K : Option St → Option (Ex × St)) (xs : List α) (st : Nat → σ → St) (g : σ → List α → Option (Ex × St))
    (hend : ∀ s, K (some (st xs.length s)) = g s [])
    (hstep : ∀ i s x r, xs[i]? = some x → i < xs.length → (∀ s', K (some (st (i + 1) s')) = g s' r) → K (some (st i s)) = g s (x :: r)) (s : σ) :
    K (some (st 0 s)) = g s xs :=
  range_loopI K xs st g (fun _ _ => True) (fun s _ => hend s) (fun i s x r hx hl _ ih => hstep i s x r hx (by omega) fun s' => ih s' trivial) s trivial
theorem rangeFacts (i n : Nat) (h : i < n) (hn : n < 4611686018427387904) : ((i : Int) < n) ∧ (0 ≤ (i : Int)) ∧ IntKind.i64.wrap ((i : Int) + 1) = ((i + 1 : Nat) : Int) :=
  ⟨by omega, by omega, by rw [wrap64 (by omega) (by omega)]; omega⟩

/-! ### Sets of nodes -/
theorem wrapN (n : Nat) (h : n < 9223372036854775808) : IntKind.i64.wrap (n : Int) = n := wrap64 (by omega) (by omega)
theorem andI_nat (a b : Nat) (ha : a < 9223372036854775808) (hb : b < 9223372036854775808) : andI .i64 a b = ((a &&& b : Nat) : Int) := by
  unfold andI
  have h1 : (BitVec.ofInt 64 (a : Int) &&& BitVec.ofInt 64 (b : Int)).toNat = a &&& b := by
    rw [BitVec.toNat_and, BitVec.ofInt_natCast, BitVec.ofInt_natCast, BitVec.toNat_ofNat, BitVec.toNat_ofNat, Nat.mod_eq_of_lt (by omega), Nat.mod_eq_of_lt (by omega)]
  show IntKind.i64.wrap ((BitVec.ofInt 64 (a : Int) &&& BitVec.ofInt 64 (b : Int)).toNat : Int) = _
  rw [h1]
  exact wrapN _ (Nat.lt_of_le_of_lt Nat.and_le_left ha)
theorem orI_nat (a b : Nat) (ha : a < 9223372036854775808) (hb : b < 9223372036854775808) : orI .i64 a b = ((a ||| b : Nat) : Int) := by
  unfold orI
  have h1 : (BitVec.ofInt 64 (a : Int) ||| BitVec.ofInt 64 (b : Int)).toNat = a ||| b := by
    rw [BitVec.toNat_or, BitVec.ofInt_natCast, BitVec.ofInt_natCast, BitVec.toNat_ofNat, BitVec.toNat_ofNat, Nat.mod_eq_of_lt (by omega), Nat.mod_eq_of_lt (by omega)]
  show IntKind.i64.wrap ((BitVec.ofInt 64 (a : Int) ||| BitVec.ofInt 64 (b : Int)).toNat : Int) = _
  rw [h1]
  exact wrapN _ (Nat.or_lt_two_pow (n := 63) ha hb)
theorem shl1 (k : Nat) (h : k < 63) : shlI .i64 1 (k : Int) = ((2 ^ k : Nat) : Int) := by
  unfold shlI
  have : min (k : Int).toNat IntKind.i64.bits = k := by simp [IntKind.bits]; omega
  rw [this, Int.one_mul, show ((2 : Int) ^ k) = ((2 ^ k : Nat) : Int) by simp]
  exact wrapN _ (Nat.lt_of_lt_of_le (Nat.pow_lt_pow_right (by decide) h) (by decide))
theorem pow_lt (k : Nat) (h : k < 10) : 2 ^ k < 1024 := Nat.pow_lt_pow_right (n := 10) (by decide) h

def hasN (s : Nat) (k : Int) : Bool := decide (0 ≤ k) && decide (k < 10) && s.testBit k.toNat
theorem and_pow_ne (s k : Nat) : (s &&& 2 ^ k ≠ 0) ↔ s.testBit k = true := by
  constructor
  · intro h
    cases hb : s.testBit k with
    | true => rfl
    | false =>
      exfalso
      apply h
      apply Nat.eq_of_testBit_eq
      intro j
      rw [Nat.testBit_and, Nat.testBit_two_pow, Nat.zero_testBit]
      by_cases hj : k = j
      · subst hj; simp [hb]
      · simp [hj]
  · intro h h0
    have : (s &&& 2 ^ k).testBit k = true := by rw [Nat.testBit_and, Nat.testBit_two_pow]; simp [h]
    rw [h0, Nat.zero_testBit] at this
    cases this
variable {E : Env} [EnvS E]
theorem e308 (s : Nat) (h : s < 1024) : callW E 308 [.p (.int .i64 s), .p (.int .i64 10)] [] = some ⟨.p (.bool true), [], []⟩ := by
  rw [callW_eq, EnvS.h 308 F308 rfl]
  have hw : shlI .i64 1 10 = 1024 := by decide
  have h1 : (0 : Int) ≤ s := by omega
  have h2 : (s : Int) < 1024 := by omega
  simp -implicitDefEqProofs only [go_sem, F308, s308, h1, h2, hw]
theorem e280 (s : Nat) (h : s < 1024) : callW E 280 [.p (.int .i64 s)] [] = some ⟨.p (.bool true), [], []⟩ := by
  rw [callW_eq, EnvS.h 280 F280 rfl]
  simp -implicitDefEqProofs only [go_sem, F280, s280, e308 (E := E) s h]
theorem e235 (s : Nat) (k : Int) (h : s < 1024) : callW E 235 [.p (.int .i64 s), .p (.int .i64 k)] [] = some ⟨.p (.bool (hasN s k)), [], []⟩ := by
  rw [callW_eq, EnvS.h 235 F235 rfl]
  unfold hasN
  by_cases h1 : 0 ≤ k
  · have h1' : ¬ k < 0 := by omega
    by_cases h2 : k < 10
    · obtain ⟨m, rfl⟩ : ∃ m : Nat, k = m := ⟨k.toNat, by omega⟩
      have e : andI .i64 (s : Int) (shlI .i64 1 (m : Int)) = ((s &&& 2 ^ m : Nat) : Int) := by
        rw [shl1 m (by omega), andI_nat _ _ (by omega) (Nat.lt_trans (pow_lt m (by omega)) (by decide))]
      have e2 : decide (¬ ((s &&& 2 ^ m : Nat) : Int) = 0) = s.testBit m := by
        rw [Bool.eq_iff_iff, decide_eq_true_eq, ← and_pow_ne]
        omega
      simp -implicitDefEqProofs only [go_sem, F235, s235, e280 (E := E) s h, h1, h1', h2, e, e2, Int.toNat_natCast]
    · simp -implicitDefEqProofs only [go_sem, F235, s235, e280 (E := E) s h, h1, h1', h2]
  · have h1' : k < 0 := by omega
    simp -implicitDefEqProofs only [go_sem, F235, s235, e280 (E := E) s h, h1, h1']
attribute [go_sem] List.getElem?_map Int.lt_irrefl

/-- The set of some nodes (242, 243). -/
def ofL : Nat → List Int → Nat × Int
  | acc, [] => (acc, 0)
  | acc, x :: r => if x < 0 ∨ 10 ≤ x then (0, 5) else if acc.testBit x.toNat = true then (0, 6) else ofL (acc ||| 2 ^ x.toNat) r
def ofR (p : Nat × Int) : Option (Ex × St) := if p.2 = 0 then some (.ex 0, ⟨[(4, .p (.int .i64 p.1))], []⟩) else some (.ret, ⟨[(2, .p (.int .i64 p.1)), (3, .p (.int .i64 p.2))], []⟩)
theorem ofL_cons_bad (acc : Nat) (x : Int) (r : List Int) (h : x < 0 ∨ 10 ≤ x) : ofL acc (x :: r) = (0, 5) := by simp [ofL, h]
theorem ofL_cons_twice (acc : Nat) (x : Int) (r : List Int) (h : ¬ (x < 0 ∨ 10 ≤ x)) (h2 : acc.testBit x.toNat = true) : ofL acc (x :: r) = (0, 6) := by simp [ofL, h, h2]
theorem ofL_cons (acc : Nat) (x : Int) (r : List Int) (h : ¬ (x < 0 ∨ 10 ≤ x)) (h2 : acc.testBit x.toNat = false) : ofL acc (x :: r) = ofL (acc ||| 2 ^ x.toNat) r := by simp [ofL, h, h2]
theorem or_lt (a k : Nat) (ha : a < 1024) (hk : k < 10) : a ||| 2 ^ k < 1024 := Nat.or_lt_two_pow (n := 10) ha (pow_lt k hk)
theorem loop242 (es : List Int) (hl : es.length < 4611686018427387904) (acc : Nat) (hacc : acc < 1024) :
    loopW E 0 [4, 7, 8, 9] [] (.trim [4, 7, 8, 9] [2, 3] [(0, [4])] [] s242_4) (some ⟨[(4, .p (.int .i64 acc)), (7, .p (.sl 1 (es.map (.int .i64)))), (8, .p (.int .i64 es.length)), (9, .p (.int .i64 0))], []⟩) = ofR (ofL acc es) := by
  generalize hK : loopW E 0 _ _ _ = K
  refine range_loop K es (fun i (a : {n : Nat // n < 1024}) => ⟨[(4, .p (.int .i64 a.1)), (7, .p (.sl 1 (es.map (.int .i64)))), (8, .p (.int .i64 es.length)), (9, .p (.int .i64 i))], []⟩) (fun a l => ofR (ofL a.1 l)) ?_ ?_ ⟨acc, hacc⟩
  · intro a
    rw [← hK, loopW_some, hK]
    simp -implicitDefEqProofs only [go_sem, s242_4, s242_3, s242_1, s242_2]
    rfl
  · intro i a x r hx hi ih
    obtain ⟨f1, f2, f3⟩ := rangeFacts i _ hi hl
    try dsimp only at ih ⊢
    rw [← hK, loopW_some, hK]
    by_cases c1 : x < 0
    · rw [ofL_cons_bad _ _ _ (.inl c1)]
      simp -implicitDefEqProofs only [go_sem, s242_4, s242_3, s242_1, s242_2, hx, f1, f2, f3, c1]
      rfl
    · by_cases c2 : 10 ≤ x
      · rw [ofL_cons_bad _ _ _ (.inr c2)]
        simp -implicitDefEqProofs only [go_sem, s242_4, s242_3, s242_1, s242_2, hx, f1, f2, f3, c1, c2]
        rfl
      · obtain ⟨m, rfl⟩ : ∃ m : Nat, x = m := ⟨x.toNat, by omega⟩
        have hm : m < 10 := by omega
        have c3 : hasN a.1 (m : Int) = a.1.testBit m := by
          have h1 : (0 : Int) ≤ m := by omega
          have h2 : (m : Int) < 10 := by omega
          simp [hasN, h1, h2]
        cases c4 : a.1.testBit m with
        | true =>
          rw [ofL_cons_twice _ _ _ (by omega) (by simpa using c4)]
          simp -implicitDefEqProofs only [go_sem, s242_4, s242_3, s242_1, s242_2, hx, f1, f2, f3, c1, c2, e235 (E := E) a.1 (m : Int) a.2, c3, c4]
          rfl
        | false =>
          rw [ofL_cons _ _ _ (by omega) (by simpa using c4)]
          have ih' := ih ⟨a.1 ||| 2 ^ m, or_lt _ _ a.2 hm⟩
          have w1 := orI_nat a.1 (2 ^ m) (by have := a.2; omega) (Nat.lt_trans (pow_lt m hm) (by decide))
          simp -implicitDefEqProofs only [go_sem, s242_4, s242_3, s242_1, s242_2, hx, f1, f2, f3, c1, c2, e235 (E := E) a.1 (m : Int) a.2, c3, c4, shl1 m (by omega), w1, ih', Int.natCast_nonneg, Int.not_lt]
theorem e242 (es : List Int) (hl : es.length < 4611686018427387904) : callW E 242 [.p (.sl 1 (es.map (.int .i64)))] [] = some ⟨.tup [.p (.int .i64 (ofL 0 es).1), .p (.int .i64 (ofL 0 es).2)], [], []⟩ := by
  rw [callW_eq, EnvS.h 242 F242 rfl]
  have lp := loop242 (E := E) es hl 0 (by decide)
  simp only [Int.natCast_zero] at lp
  unfold ofR at lp
  by_cases h : (ofL 0 es).2 = 0
  · rw [if_pos h] at lp
    simp -implicitDefEqProofs only [go_sem, F242, s242, s242_5, lp, h]
  · rw [if_neg h] at lp
    simp -implicitDefEqProofs only [go_sem, F242, s242, s242_5, lp, h]
/-! as before -/
end Go.Ab.S

namespace Go.Ab.S
open Go Go.Ab
variable {E : Env} [EnvS E]

def badN (x : Int) : Bool := !(decide (0 ≤ x) && decide (x < 10))
theorem e241 (x : Int) : callW E 241 [.p (.int .i64 x)] [] = some ⟨.p (.bool (decide (0 ≤ x) && decide (x < 10))), [], []⟩ := by
  rw [callW_eq, EnvS.h 241 F241 rfl]
  simp -implicitDefEqProofs only [go_sem, F241, s241, ]
  repeat' ((first | rw [condW_q] | rw [opsG_q] | rw [opsLG_q]); unfold ifq; split <;> rename_i hq <;> simp -implicitDefEqProofs only [go_sem, hq, ])
theorem e240 (x : Int) : callW E 240 [.p (.int .i64 x)] [] = some ⟨.p (.bool (badN x)), [], []⟩ := by
  rw [callW_eq, EnvS.h 240 F240 rfl]
  unfold badN
  simp -implicitDefEqProofs only [go_sem, F240, s240, e241]
attribute [go_sem] e240 e241
def fdR (n : Nat) (l : List Int) : Option (Ex × St) := if l.any badN = true then some (.ret, ⟨[(4, .p (.int .i64 ((n - l.length + l.findIdx badN : Nat) : Int)))], []⟩) else some (.ex 0, ⟨[], []⟩)
theorem loop285 (es : List Int) (hl : es.length < 4611686018427387904) :
    loopW E 0 [0, 1, 7, 8] [] (.trim [0, 1, 7, 8] [4] [(0, [])] [] s285_3) (some ⟨[(0, .p (.sl 1 (es.map (.int .i64)))), (1, .fn 240 [] []), (7, .p (.int .i64 es.length)), (8, .p (.int .i64 0))], []⟩) = fdR es.length es := by
  generalize hK : loopW E 0 _ _ _ = K
  refine range_loopI K es (fun i (_ : Unit) => ⟨[(0, .p (.sl 1 (es.map (.int .i64)))), (1, .fn 240 [] []), (7, .p (.int .i64 es.length)), (8, .p (.int .i64 i))], []⟩) (fun _ l => fdR es.length l) (fun _ _ => True) ?_ ?_ () trivial
  · intro _ _
    rw [← hK, loopW_some, hK]
    simp -implicitDefEqProofs only [go_sem, s285_3, s285_2, s285_1]
    rfl
  · intro i _ x r hx hn _ ih
    have hi : i < es.length := by omega
    obtain ⟨f1, f2, f3⟩ := rangeFacts i _ hi hl
    have ih' := ih () trivial
    try dsimp only at ih' ⊢
    rw [← hK, loopW_some, hK]
    cases hb : badN x with
    | true =>
      simp -implicitDefEqProofs only [go_sem, s285_3, s285_2, s285_1, hx, f1, f2, f3, hb, fdR, List.any_cons, List.findIdx_cons, cond_true]
      simp; omega
    | false =>
      simp -implicitDefEqProofs only [go_sem, s285_3, s285_2, s285_1, hx, f1, f2, f3, hb, ih', fdR, List.any_cons, List.findIdx_cons, cond_false]
      simp only [show es.length - (r.length + 1) + (r.findIdx badN + 1) = es.length - r.length + r.findIdx badN by omega]
theorem e239 (es : List Int) (hl : es.length < 4611686018427387904) : callW E 239 [.p (.sl 1 (es.map (.int .i64))), .fn 240 [] []] [] = some ⟨.p (.bool (es.any badN)), [], []⟩ := by
  have e : callW E 285 [.p (.sl 1 (es.map (.int .i64))), .fn 240 [] []] [] = some ⟨.p (.int .i64 (if es.any badN = true then ((es.findIdx badN : Nat) : Int) else -1)), [], []⟩ := by
    rw [callW_eq, EnvS.h 285 F285 rfl]
    have lp := loop285 (E := E) es hl
    unfold fdR at lp
    cases h : es.any badN with
    | true => simp -implicitDefEqProofs only [go_sem, F285, s285, s285_4, lp, h, Nat.sub_self]
    | false => simp -implicitDefEqProofs only [go_sem, F285, s285, s285_4, lp, h]
  rw [callW_eq, EnvS.h 239 F239 rfl]
  cases h : es.any badN with
  | true =>
    have h2 : (0 : Int) ≤ (es.findIdx badN : Nat) := by omega
    simp -implicitDefEqProofs only [go_sem, F239, s239, e, h, h2]
  | false => simp -implicitDefEqProofs only [go_sem, F239, s239, e, h]

/-- Trusts that are small. -/
def In.thin (t : In) : Prop := t.ns.length ≤ 12
structure Tr.thin (t : Tr) : Prop where
  ns : t.ns.length ≤ 12
  is : t.is.length ≤ 4
  all : ∀ x ∈ t.is, x.thin

theorem e212I (th : Int) (ns : List PV) : callW E 212 [.p (.agg [.int .i64 th, .sl 1 ns, .sl 3 []])] [] = some ⟨.p (.int .i64 1), [], []⟩ := by
  rw [callW_eq, EnvS.h 212 F212 rfl]
  have w : IntKind.i64.wrap (0 + 1) = 1 := by decide
  simp -implicitDefEqProofs only [go_sem, F212, s212, s212_3, s212_2, s212_1, loopW_some, w]
theorem e212 (t : Tr) (h : t.thin) : callW E 212 [.p t.pv] [] = some ⟨.p (.int .i64 (if t.is.length = 0 then 1 else 2)), [], []⟩ := by
  have lp : ∀ n : Int, loopW E 0 [3, 7, 8, 9] [] (.trim [3, 7, 8, 9] [2] [(0, [3])] [] s212_2) (some ⟨[(3, .p (.int .i64 n)), (7, .p (.sl 3 (t.is.map In.pv))), (8, .p (.int .i64 t.is.length)), (9, .p (.int .i64 0))], []⟩) = some (.ex 0, ⟨[(3, .p (.int .i64 (if t.is.length = 0 then n else if n < 1 then 1 else n)))], []⟩) := by
    generalize hK : loopW E 0 _ _ _ = K
    intro n
    refine range_loop K t.is (fun i (n : Int) => ⟨[(3, .p (.int .i64 n)), (7, .p (.sl 3 (t.is.map In.pv))), (8, .p (.int .i64 t.is.length)), (9, .p (.int .i64 i))], []⟩) (fun n l => some (.ex 0, ⟨[(3, .p (.int .i64 (if l.length = 0 then n else if n < 1 then 1 else n)))], []⟩)) ?_ ?_ n
    · intro n
      rw [← hK, loopW_some, hK]
      simp -implicitDefEqProofs only [go_sem, s212_2, s212_1]
    · intro i n x r hx hi ih
      have := h.is
      obtain ⟨f1, f2, f3⟩ := rangeFacts i _ hi (by omega)
      try dsimp only at ih ⊢
      rw [← hK, loopW_some, hK]
      by_cases c : n < 1
      · have ih' := ih 1
        simp -implicitDefEqProofs only [go_sem, s212_2, s212_1, hx, f1, f2, f3, In.pv, e212I, c, ih', Nat.succ_ne_zero, Int.lt_irrefl, ite_self]
      · have ih' := ih n
        simp -implicitDefEqProofs only [go_sem, s212_2, s212_1, hx, f1, f2, f3, In.pv, e212I, c, ih', Nat.succ_ne_zero, ite_self]
  rw [callW_eq, EnvS.h 212 F212 rfl]
  unfold Tr.pv
  have lp0 := lp 0
  have w : IntKind.i64.wrap (0 + 1) = 1 := by decide
  have w2 : IntKind.i64.wrap (1 + 1) = 2 := by decide
  by_cases h0 : t.is.length = 0
  · simp only [h0, if_true, Int.natCast_zero] at lp0
    simp -implicitDefEqProofs only [go_sem, F212, s212, s212_3, lp0, h0, w]
  · simp only [h0, if_false, Int.reduceLT, if_true] at lp0
    simp -implicitDefEqProofs only [go_sem, F212, s212, s212_3, lp0, h0, w2]
theorem e213I (th : Int) (ns : List PV) (h : ns.length ≤ 100) : callW E 213 [.p (.agg [.int .i64 th, .sl 1 ns, .sl 3 []])] [] = some ⟨.p (.int .i64 ns.length), [], []⟩ := by
  rw [callW_eq, EnvS.h 213 F213 rfl]
  have w : IntKind.i64.wrap ((ns.length : Int) + 0) = ns.length := by rw [wrap64 (by omega) (by omega)]; omega
  simp -implicitDefEqProofs only [go_sem, F213, s213, s213_3, s213_2, s213_1, loopW_some, w]
theorem e213 (t : Tr) (h : t.thin) : ∃ n : Int, n ≤ 200 ∧ callW E 213 [.p t.pv] [] = some ⟨.p (.int .i64 n), [], []⟩ := by
  have lp : ∀ n : {n : Int // 0 ≤ n ∧ n ≤ 16}, ∃ m : Int, m ≤ 200 ∧ loopW E 0 [3, 14, 15, 16] [] (.trim [3, 14, 15, 16] [2] [(0, [3])] [] s213_2) (some ⟨[(3, .p (.int .i64 n.1)), (14, .p (.sl 3 (t.is.map In.pv))), (15, .p (.int .i64 t.is.length)), (16, .p (.int .i64 0))], []⟩) = some (.ex 0, ⟨[(3, .p (.int .i64 m))], []⟩) := by
    generalize hK : loopW E 0 _ _ _ = K
    intro n
    refine ⟨t.is.foldl (fun n x => n + x.ns.length) n.1, ?_, ?_⟩
    · have key : ∀ (l : List In) (n : Int), (∀ x ∈ l, x.thin) → l.foldl (fun n x => n + (x.ns.length : Int)) n ≤ n + 12 * l.length := by
        intro l
        induction l with
        | nil => intro n _; simp
        | cons x r ih =>
          intro n hx
          have h1 := ih (n + x.ns.length) fun y hy => hx y (List.mem_cons_of_mem _ hy)
          have h2 := hx x List.mem_cons_self
          unfold In.thin at h2
          simp only [List.foldl_cons, List.length_cons]
          omega
      have := key t.is n.1 h.all
      have h4 := h.is
      have := n.2
      omega
    · refine range_loopI K t.is (fun i (n : Int) => ⟨[(3, .p (.int .i64 n)), (14, .p (.sl 3 (t.is.map In.pv))), (15, .p (.int .i64 t.is.length)), (16, .p (.int .i64 i))], []⟩) (fun n l => some (.ex 0, ⟨[(3, .p (.int .i64 (l.foldl (fun n x => n + (x.ns.length : Int)) n)))], []⟩)) (fun i n => 0 ≤ n ∧ n ≤ 16 + 12 * i) ?_ ?_ n.1 (by have := n.2; omega)
      · intro n _
        rw [← hK, loopW_some, hK]
        simp -implicitDefEqProofs only [go_sem, s213_2, s213_1, List.foldl_nil]
      · intro i n x r hx hn hI ih
        have h4 := h.is
        have hth : x.ns.length ≤ 12 := h.all x (List.mem_of_getElem? hx)
        obtain ⟨f1, f2, f3⟩ := rangeFacts i t.is.length (by omega) (by omega)
        have e := e213I (E := E) x.th (x.ns.map (.int .i64)) (by simp; omega)
        simp only [List.length_map] at e
        have w : IntKind.i64.wrap (n + (x.ns.length : Int)) = n + x.ns.length := wrap64 (by omega) (by omega)
        have ih' := ih (n + x.ns.length) (by omega)
        try dsimp only at ih' ⊢
        rw [← hK, loopW_some, hK]
        simp -implicitDefEqProofs only [go_sem, s213_2, s213_1, hx, f1, f2, f3, In.pv, e, w, ih', List.foldl_cons]
  have h1 := h.ns
  have h2 := h.is
  obtain ⟨m, hm, lp0⟩ := lp ⟨(t.ns.length : Int) + t.is.length, by omega⟩
  refine ⟨m, hm, ?_⟩
  rw [callW_eq, EnvS.h 213 F213 rfl]
  unfold Tr.pv
  have w : IntKind.i64.wrap ((t.ns.length : Int) + (t.is.length : Int)) = (t.ns.length : Int) + t.is.length := wrap64 (by omega) (by omega)
  simp -implicitDefEqProofs only [go_sem, F213, s213, s213_3, lp0, w]
/-! as before -/
end Go.Ab.S

namespace Go.Ab.S
open Go Go.Ab
variable {E : Env} [EnvS E]

/-- How many of some nodes are in a set; whom a set satisfies. -/
def cnt (s : Nat) : List Int → Nat
  | [] => 0
  | k :: r => (if hasN s k = true then 1 else 0) + cnt s r
theorem cnt_le (s : Nat) : ∀ l : List Int, cnt s l ≤ l.length
  | [] => Nat.le_refl _
  | k :: r => by
    have := cnt_le s r
    simp only [cnt, List.length_cons]
    split <;> omega
def satI (s : Nat) (t : In) : Bool := decide (t.th ≤ cnt s t.ns)
def cntI (s : Nat) : List In → Nat
  | [] => 0
  | x :: r => (if satI s x = true then 1 else 0) + cntI s r
def satT (s : Nat) (t : Tr) : Bool := decide (t.th ≤ (cnt s t.ns + cntI s t.is : Nat))

theorem loop310a (s : Nat) (hs : s < 1024) (es : List Int) (hl : es.length ≤ 1000) (bx : List AV) (hbx : namesL bx = []) :
    loopW E 0 [1, 2, 5, 14, 15, 16] [.loc 0 0 0] (.trim [1, 2, 5, 14, 15, 16] [4] [(0, [1, 2, 5])] [.loc 0 0 0] s310_4) (some ⟨[(1, .p (.int .i64 s)), (2, .ptr (.loc 0 0 0) 0), (5, .p (.int .i64 0)), (14, .p (.sl 1 (es.map (.int .i64)))), (15, .p (.int .i64 es.length)), (16, .p (.int .i64 0))], [(.loc 0 0 0, some (.box bx))]⟩) =
    some (.ex 0, ⟨[(1, .p (.int .i64 s)), (2, .ptr (.loc 0 0 0) 0), (5, .p (.int .i64 (cnt s es : Nat)))], [(.loc 0 0 0, some (.box bx))]⟩) := by
  have key := range_loopI (loopW E 0 [1, 2, 5, 14, 15, 16] [.loc 0 0 0] (.trim [1, 2, 5, 14, 15, 16] [4] [(0, [1, 2, 5])] [.loc 0 0 0] s310_4)) es
    (fun i (n : Nat) => ⟨[(1, .p (.int .i64 s)), (2, .ptr (.loc 0 0 0) 0), (5, .p (.int .i64 n)), (14, .p (.sl 1 (es.map (.int .i64)))), (15, .p (.int .i64 es.length)), (16, .p (.int .i64 i))], [(.loc 0 0 0, some (.box bx))]⟩)
    (fun n r => some (.ex 0, ⟨[(1, .p (.int .i64 s)), (2, .ptr (.loc 0 0 0) 0), (5, .p (.int .i64 ((n + cnt s r : Nat) : Int)))], [(.loc 0 0 0, some (.box bx))]⟩)) (fun i n => n ≤ i)
  refine (key ?_ ?_ 0 (Nat.le_refl 0)).trans (by simp only [Nat.zero_add])
  · intro n _
    rw [loopW_some]
    generalize hK : loopW E 0 _ _ _ = K
    simp -implicitDefEqProofs only [go_sem, s310_4, s310_3, s310_2, hbx, cnt]
  · intro i n x r hx hn hI ih
    obtain ⟨f1, f2, f3⟩ := rangeFacts i es.length (by omega) (by omega)
    have e := e235 (E := E) s x hs
    have w : IntKind.i64.wrap ((n : Int) + 1) = ((n + 1 : Nat) : Int) := by rw [wrap64 (by omega) (by omega)]; omega
    rw [loopW_some]
    generalize hK : loopW E 0 _ _ _ = K at ih ⊢
    cases hh : hasN s x with
    | true =>
      have ih' := ih (n + 1) (by omega)
      rw [hh] at e
      try dsimp only at ih' ⊢
      simp -implicitDefEqProofs only [go_sem, s310_4, s310_3, s310_2, hx, f1, f2, f3, hbx, e, w, ih', cnt, hh, Nat.add_assoc]
    | false =>
      have ih' := ih n (by omega)
      rw [hh] at e
      try dsimp only at ih' ⊢
      simp -implicitDefEqProofs only [go_sem, s310_4, s310_3, s310_2, hx, f1, f2, f3, hbx, e, ih', cnt, hh]
theorem e310I (s : Nat) (hs : s < 1024) (t : In) (h : t.ns.length ≤ 1000) : callW E 310 [.p (.agg [.int .i64 t.th, .sl 1 (t.ns.map (.int .i64)), .sl 3 []]), .p (.int .i64 s)] [] = some ⟨.p (.bool (satI s t)), [], []⟩ := by
  have lp := loop310a (E := E) s hs t.ns h [.p (.int .i64 t.th), .p (.sl 1 (t.ns.map (.int .i64))), .p (.sl 3 [])] rfl
  rw [callW_eq, EnvS.h 310 F310 rfl]
  unfold satI
  simp -implicitDefEqProofs only [go_sem, F310, s310, s310_1, s310_5, s310_9, s310_8, s310_7, s310_6, loopW_some, e280 (E := E) s hs, lp]
theorem loop310b (s : Nat) (hs : s < 1024) (t : Tr) (h : t.thin) (n : Nat) (hn : n ≤ 100) :
    loopW E 0 [1, 2, 5, 27, 28, 29] [.loc 0 0 0] (.trim [1, 2, 5, 27, 28, 29] [4] [(2, [2, 5])] [.loc 0 0 0] s310_8) (some ⟨[(1, .p (.int .i64 s)), (2, .ptr (.loc 0 0 0) 0), (5, .p (.int .i64 n)), (27, .p (.sl 3 (t.is.map In.pv))), (28, .p (.int .i64 t.is.length)), (29, .p (.int .i64 0))], [(.loc 0 0 0, some (.box [.p (.int .i64 t.th), .p (.sl 1 (t.ns.map (.int .i64))), .p (.sl 3 (t.is.map In.pv))]))]⟩) =
    some (.ex 2, ⟨[(2, .ptr (.loc 0 0 0) 0), (5, .p (.int .i64 ((n + cntI s t.is : Nat) : Int)))], [(.loc 0 0 0, some (.box [.p (.int .i64 t.th), .p (.sl 1 (t.ns.map (.int .i64))), .p (.sl 3 (t.is.map In.pv))]))]⟩) := by
  have key := range_loopI (loopW E 0 [1, 2, 5, 27, 28, 29] [.loc 0 0 0] (.trim [1, 2, 5, 27, 28, 29] [4] [(2, [2, 5])] [.loc 0 0 0] s310_8)) t.is
    (fun i (n : Nat) => ⟨[(1, .p (.int .i64 s)), (2, .ptr (.loc 0 0 0) 0), (5, .p (.int .i64 n)), (27, .p (.sl 3 (t.is.map In.pv))), (28, .p (.int .i64 t.is.length)), (29, .p (.int .i64 i))], [(.loc 0 0 0, some (.box [.p (.int .i64 t.th), .p (.sl 1 (t.ns.map (.int .i64))), .p (.sl 3 (t.is.map In.pv))]))]⟩)
    (fun n r => some (.ex 2, ⟨[(2, .ptr (.loc 0 0 0) 0), (5, .p (.int .i64 ((n + cntI s r : Nat) : Int)))], [(.loc 0 0 0, some (.box [.p (.int .i64 t.th), .p (.sl 1 (t.ns.map (.int .i64))), .p (.sl 3 (t.is.map In.pv))]))]⟩)) (fun i n => n ≤ i + 100)
  have h4 := h.is
  refine key ?_ ?_ n (by omega)
  · intro n _
    rw [loopW_some]
    generalize hK : loopW E 0 _ _ _ = K
    simp -implicitDefEqProofs only [go_sem, s310_8, s310_7, s310_6, cntI]
  · intro i n x r hx hn hI ih
    have hth : x.ns.length ≤ 12 := h.all x (List.mem_of_getElem? hx)
    obtain ⟨f1, f2, f3⟩ := rangeFacts i t.is.length (by omega) (by omega)
    have e := e310I (E := E) s hs x (by omega)
    have w : IntKind.i64.wrap ((n : Int) + 1) = ((n + 1 : Nat) : Int) := by rw [wrap64 (by omega) (by omega)]; omega
    rw [loopW_some]
    generalize hK : loopW E 0 _ _ _ = K at ih ⊢
    cases hh : satI s x with
    | true =>
      have ih' := ih (n + 1) (by omega)
      rw [hh] at e
      try dsimp only at ih' ⊢
      simp -implicitDefEqProofs only [go_sem, s310_8, s310_7, s310_6, hx, f1, f2, f3, In.pv, e, w, ih', cntI, hh, Nat.add_assoc]
    | false =>
      have ih' := ih n (by omega)
      rw [hh] at e
      try dsimp only at ih' ⊢
      simp -implicitDefEqProofs only [go_sem, s310_8, s310_7, s310_6, hx, f1, f2, f3, In.pv, e, ih', cntI, hh]
theorem e310 (s : Nat) (hs : s < 1024) (t : Tr) (h : t.thin) : callW E 310 [.p t.pv, .p (.int .i64 s)] [] = some ⟨.p (.bool (satT s t)), [], []⟩ := by
  have h1 := h.ns
  have h2 := cnt_le s t.ns
  have lp := loop310a (E := E) s hs t.ns (by omega) [.p (.int .i64 t.th), .p (.sl 1 (t.ns.map (.int .i64))), .p (.sl 3 (t.is.map In.pv))] rfl
  have lq := loop310b (E := E) s hs t h (cnt s t.ns) (by omega)
  rw [callW_eq, EnvS.h 310 F310 rfl]
  unfold satT Tr.pv
  simp -implicitDefEqProofs only [go_sem, F310, s310, s310_1, s310_5, s310_9, e280 (E := E) s hs, lp, lq]
/-! as before -/
end Go.Ab.S

namespace Go.Ab.S
open Go Go.Ab
variable {E : Env} [EnvS E]

/-- The first error of a trust (214, 218). -/
def errI (t : In) : Int := if t.th < 1 ∨ (t.ns.length : Int) < t.th then 4 else if t.ns.any badN = true then 5 else (ofL 0 t.ns).2
def errIs : List In → Int
  | [] => 0
  | x :: r => if errI x = 0 then errIs r else errI x
def errT (t : Tr) : Int := if t.th < 1 ∨ (t.ns.length : Int) + t.is.length < t.th then 4 else if t.ns.any badN = true then 5 else if (ofL 0 t.ns).2 = 0 then errIs t.is else (ofL 0 t.ns).2

theorem e214I (t : In) (h : t.thin) : callW E 214 [.p (.agg [.int .i64 t.th, .sl 1 (t.ns.map (.int .i64)), .sl 3 []])] [] = some ⟨.p (.int .i64 (errI t)), [], []⟩ := by
  rw [callW_eq, EnvS.h 214 F214 rfl]
  unfold In.thin at h
  have e1 := e239 (E := E) t.ns (by omega)
  have e2 := e242 (E := E) t.ns (by omega)
  have w : IntKind.i64.wrap ((t.ns.length : Int) + 0) = t.ns.length := by rw [wrap64 (by omega) (by omega)]; omega
  unfold errI
  by_cases c1 : t.th < 1
  · simp -implicitDefEqProofs only [go_sem, F214, s214, s214_1, s214_2, s214_3, s214_7, c1]
  · by_cases c2 : (t.ns.length : Int) < t.th
    · simp -implicitDefEqProofs only [go_sem, F214, s214, s214_1, s214_2, s214_3, s214_7, c1, w, c2]
    · cases c3 : t.ns.any badN with
      | true => simp -implicitDefEqProofs only [go_sem, F214, s214, s214_1, s214_2, s214_3, s214_7, c1, w, c2, e1, c3]
      | false =>
        by_cases c4 : (ofL 0 t.ns).2 = 0
        · simp -implicitDefEqProofs only [go_sem, F214, s214, s214_1, s214_2, s214_3, s214_7, s214_6, s214_5, s214_4, loopW_some, c1, w, c2, e1, c3, e2, c4]
        · simp -implicitDefEqProofs only [go_sem, F214, s214, s214_1, s214_2, s214_3, s214_7, s214_6, s214_5, s214_4, loopW_some, c1, w, c2, e1, c3, e2, c4]
def errR (e : Int) : Option (Ex × St) := if e = 0 then some (.ex 0, ⟨[], []⟩) else some (.ret, ⟨[(2, .p (.int .i64 e))], []⟩)
theorem loop214 (t : Tr) (h : t.thin) : loopW E 0 [36, 37, 38] [] (.trim [36, 37, 38] [2] [(0, [])] [] s214_6) (some ⟨[(36, .p (.sl 3 (t.is.map In.pv))), (37, .p (.int .i64 t.is.length)), (38, .p (.int .i64 0))], []⟩) = errR (errIs t.is) := by
  generalize hK : loopW E 0 _ _ _ = K
  refine range_loopI K t.is (fun i (_ : Unit) => ⟨[(36, .p (.sl 3 (t.is.map In.pv))), (37, .p (.int .i64 t.is.length)), (38, .p (.int .i64 i))], []⟩) (fun _ l => errR (errIs l)) (fun _ _ => True) ?_ ?_ () trivial
  · intro _ _
    rw [← hK, loopW_some, hK]
    simp -implicitDefEqProofs only [go_sem, s214_6, s214_5, s214_4]
    rfl
  · intro i _ x r hx hn _ ih
    have h4 := h.is
    obtain ⟨f1, f2, f3⟩ := rangeFacts i t.is.length (by omega) (by omega)
    have ih' := ih () trivial
    have e := e214I (E := E) x (h.all x (List.mem_of_getElem? hx))
    try dsimp only at ih' ⊢
    rw [← hK, loopW_some, hK]
    by_cases c : errI x = 0
    · simp -implicitDefEqProofs only [go_sem, s214_6, s214_5, s214_4, hx, f1, f2, f3, In.pv, e, c, ih', errIs]
    · simp -implicitDefEqProofs only [go_sem, s214_6, s214_5, s214_4, hx, f1, f2, f3, In.pv, e, c, errIs, errR]
theorem e214 (t : Tr) (h : t.thin) : callW E 214 [.p t.pv] [] = some ⟨.p (.int .i64 (errT t)), [], []⟩ := by
  rw [callW_eq, EnvS.h 214 F214 rfl]
  have h1 := h.ns
  have h2 := h.is
  have e1 := e239 (E := E) t.ns (by omega)
  have e2 := e242 (E := E) t.ns (by omega)
  have w : IntKind.i64.wrap ((t.ns.length : Int) + (t.is.length : Int)) = (t.ns.length : Int) + t.is.length := wrap64 (by omega) (by omega)
  have lp := loop214 (E := E) t h
  unfold errT
  by_cases c1 : t.th < 1
  · simp -implicitDefEqProofs only [go_sem, F214, s214, s214_1, s214_2, s214_3, s214_7, Tr.pv, c1]
  · by_cases c2 : (t.ns.length : Int) + (t.is.length : Int) < t.th
    · simp -implicitDefEqProofs only [go_sem, F214, s214, s214_1, s214_2, s214_3, s214_7, Tr.pv, c1, w, c2]
    · cases c3 : t.ns.any badN with
      | true => simp -implicitDefEqProofs only [go_sem, F214, s214, s214_1, s214_2, s214_3, s214_7, Tr.pv, c1, w, c2, e1, c3]
      | false =>
        by_cases c4 : (ofL 0 t.ns).2 = 0
        · by_cases c5 : errIs t.is = 0
          · simp only [errR, c5, if_true] at lp
            simp -implicitDefEqProofs only [go_sem, F214, s214, s214_1, s214_2, s214_3, s214_7, Tr.pv, lp, c1, w, c2, e1, c3, e2, c4, c5]
          · simp only [errR, c5, if_false] at lp
            simp -implicitDefEqProofs only [go_sem, F214, s214, s214_1, s214_2, s214_3, s214_7, Tr.pv, lp, c1, w, c2, e1, c3, e2, c4, c5]
        · simp -implicitDefEqProofs only [go_sem, F214, s214, s214_1, s214_2, s214_3, s214_7, Tr.pv, c1, w, c2, e1, c3, e2, c4]
/-! ### The reference's -/
theorem e156 (t : Tr) (h : t.thin) : callW E 156 [.p t.pv] [] = some ⟨.p (.int .i64 (errT t)), [], []⟩ := by
  rw [callW_eq, EnvS.h 156 F156 rfl]
  have e1 := e212 (E := E) t h
  obtain ⟨n, hn, e2⟩ := e213 (E := E) t h
  have e3 := e214 (E := E) t h
  have c1 : ¬ (4 : Int) < (if t.is.length = 0 then 1 else 2) := by split <;> omega
  have c2 : ¬ (200 : Int) < n := by omega
  unfold Tr.pv at e1 e2 e3 ⊢
  simp -implicitDefEqProofs only [go_sem, F156, s156, s156_1, e1, e2, e3, c1, c2]
/-! as before -/
end Go.Ab.S

namespace Go.Ab.S
open Go Go.Ab
variable {E : Env} [EnvS E]

/-- An envelope. -/
structure Evl where
  node : Int
  slot : Int
  seq : Int
  t : Tr
  k : Int
  b : Bal
  p : Bal
  q : Bal
  lo : Int
  hi : Int
def Evl.pv (e : Evl) : PV := .agg [.int .i64 e.node, .int .i64 e.slot, .int .i64 e.seq, .int .i64 e.t.th, .sl 1 (e.t.ns.map (.int .i64)), .sl 3 (e.t.is.map In.pv), .int .i64 e.k, .int .i64 e.b.c, .str e.b.v, .int .i64 e.p.c, .str e.p.v, .int .i64 e.q.c, .str e.q.v, .int .i64 e.lo, .int .i64 e.hi]
def validB (b : Bal) : Bool := (decide (1 ≤ b.c) && decide (b.c ≤ 1000) || decide (b.c = 1000000)) && (decide (1 ≤ (b.v.size : Int)) && decide ((b.v.size : Int) ≤ 200))
def finite (b : Bal) : Bool := validB b && decide (b.c ≤ 1000)
def optional (b : Bal) : Bool := zeroB b || validB b
def primeE (e : Evl) : Bool := zeroB e.q || (!zeroB e.p && less e.q e.p && !decide (e.q.v = e.p.v))
def ranged (e : Evl) : Bool := decide (1 ≤ e.lo) && decide (e.lo ≤ e.hi) && decide (e.hi ≤ 1000)
def prepE (e : Evl) : Bool := finite e.b && optional e.p && optional e.q && primeE e && decide (0 ≤ e.lo) && decide (e.lo ≤ e.hi) && decide (e.hi ≤ e.b.c) && ((decide (e.hi = 0) || prepares e.p e.q ⟨e.hi, e.b.v⟩) && (decide (e.lo = 0) || (!aborts e.p ⟨e.lo, e.b.v⟩ && !aborts e.q ⟨e.lo, e.b.v⟩)))
def headE (e : Evl) : Bool := decide (0 ≤ e.node) && decide (e.node < 10) && decide (1 ≤ e.slot) && decide (e.slot ≤ 1000000) && decide (1 ≤ e.seq) && decide (e.seq ≤ 1000000) && decide (errT e.t = 0)
def validE (e : Evl) : Bool := headE e && (if e.k = 1 then prepE e else if e.k = 2 then finite e.b && validB e.p && decide (e.p.v = e.b.v) && zeroB e.q && ranged e && decide (e.hi ≤ e.p.c) else if e.k = 3 then validB e.b && zeroB e.p && zeroB e.q && ranged e else false)

theorem e159 (a : Bal) : callW E 159 [.p (.agg [.int .i64 a.c, .str a.v])] [] = some ⟨.p (.bool (validB a)), [], []⟩ := by
  rw [callW_eq, EnvS.h 159 F159 rfl]
  simp -implicitDefEqProofs only [go_sem, F159, s159, ]
  repeat' ((first | rw [condW_q] | rw [opsG_q] | rw [opsLG_q]); unfold ifq; split <;> rename_i hq <;> simp -implicitDefEqProofs only [go_sem, hq, ])
  all_goals simp_all [validB]
  all_goals (intros; first | omega | (exfalso; omega))
attribute [go_sem] e159
/-! as before -/
theorem e161 (a : Bal) : callW E 161 [.p (.agg [.int .i64 a.c, .str a.v])] [] = some ⟨.p (.bool (validB a)), [], []⟩ := by
  rw [callW_eq, EnvS.h 161 F161 rfl]
  simp -implicitDefEqProofs only [go_sem, F161, s161, ]
  repeat' ((first | rw [condW_q] | rw [opsG_q] | rw [opsLG_q]); unfold ifq; split <;> rename_i hq <;> simp -implicitDefEqProofs only [go_sem, hq, ])
  all_goals simp_all [validB]
  all_goals (intros; first | omega | (exfalso; omega))
attribute [go_sem] e161
theorem e158 (a : Bal) : callW E 158 [.p (.agg [.int .i64 a.c, .str a.v])] [] = some ⟨.p (.bool (finite a)), [], []⟩ := by
  rw [callW_eq, EnvS.h 158 F158 rfl]
  simp -implicitDefEqProofs only [go_sem, F158, s158, ]
  repeat' ((first | rw [condW_q] | rw [opsG_q] | rw [opsLG_q]); unfold ifq; split <;> rename_i hq <;> simp -implicitDefEqProofs only [go_sem, hq, ])
  all_goals simp_all [finite]
theorem e215 (a : Bal) : callW E 215 [.p (.agg [.int .i64 a.c, .str a.v])] [] = some ⟨.p (.bool (optional a)), [], []⟩ := by
  rw [callW_eq, EnvS.h 215 F215 rfl]
  simp -implicitDefEqProofs only [go_sem, F215, s215, ]
  repeat' ((first | rw [condW_q] | rw [opsG_q] | rw [opsLG_q]); unfold ifq; split <;> rename_i hq <;> simp -implicitDefEqProofs only [go_sem, hq, ])
  all_goals simp_all [optional]
attribute [go_sem] e158 e215
theorem e104 (e : Evl) (n : Int) : callW E 104 [.p e.pv, .p (.int .i64 n)] [] = some ⟨.p (.agg [.int .i64 n, .str e.b.v]), [], []⟩ := by
  rw [callW_eq, EnvS.h 104 F104 rfl]
  unfold Evl.pv
  simp -implicitDefEqProofs only [go_sem, F104, s104]
theorem e157 (e : Evl) : callW E 157 [.p e.pv] [] = some ⟨.p (.bool (prepE e)), [], []⟩ := by
  rw [callW_eq, EnvS.h 157 F157 rfl]
  have h1 := e104 (E := E) e e.lo
  have h2 := e104 (E := E) e e.hi
  have p1 := e132 (E := E) e.p e.q ⟨e.hi, e.b.v⟩
  have p2 := e122 (E := E) e.p ⟨e.lo, e.b.v⟩
  have p3 := e122 (E := E) e.q ⟨e.lo, e.b.v⟩
  unfold Evl.pv at *
  dsimp only at p1 p2 p3
  simp -implicitDefEqProofs only [go_sem, F157, s157, s157_1, h1, h2, p1, p2, p3]
  repeat' ((first | rw [condW_q] | rw [opsG_q] | rw [opsLG_q]); unfold ifq; split <;> rename_i hq <;> simp -implicitDefEqProofs only [go_sem, hq, h1, h2, p1, p2, p3])
  all_goals (clear p1 p2 p3 h1 h2; unfold prepE primeE; simp_all)
  all_goals (intros; first | omega | (exfalso; omega))
attribute [go_sem] e157
theorem e81 (e : Evl) (h : e.t.thin) : callW E 81 [.p e.pv] [] = some ⟨.p (.bool (validE e)), [], []⟩ := by
  rw [callW_eq, EnvS.h 81 F81 rfl]
  have h1 := e156 (E := E) e.t h
  have h2 := e157 (E := E) e
  unfold Evl.pv at *
  unfold Tr.pv at h1
  unfold validE
  cases c1 : headE e with
  | false =>
    simp -implicitDefEqProofs only [go_sem, F81, s81, s81_1, s81_7, s81_2, s81_6, s81_3, s81_5, s81_4, h1, h2]
    repeat' ((first | rw [condW_q] | rw [opsG_q] | rw [opsLG_q]); unfold ifq; split <;> rename_i hq <;> simp -implicitDefEqProofs only [go_sem, hq, h1, h2])
    all_goals (clear h1 h2; simp_all [headE])
  | true =>
    have c2 := c1
    unfold headE at c2
    simp only [Bool.and_eq_true, decide_eq_true_eq] at c2
    obtain ⟨⟨⟨⟨⟨⟨d1, d2⟩, d3⟩, d4⟩, d5⟩, d6⟩, d7⟩ := c2
    have f1 : ¬ e.node < 0 := by omega
    have f2 : ¬ 10 ≤ e.node := by omega
    have f3 : ¬ e.slot < 1 := by omega
    have f4 : ¬ 1000000 < e.slot := by omega
    have f5 : ¬ e.seq < 1 := by omega
    have f6 : ¬ 1000000 < e.seq := by omega
    simp -implicitDefEqProofs only [go_sem, F81, s81, s81_1, s81_7, s81_2, s81_6, s81_3, s81_5, s81_4, h1, h2, f1, f2, f3, f4, f5, f6, d7]
    repeat' ((first | rw [condW_q] | rw [opsG_q] | rw [opsLG_q]); unfold ifq; split <;> rename_i hq <;> simp -implicitDefEqProofs only [go_sem, hq, h1, h2, f1, f2, f3, f4, f5, f6, d7])
    all_goals (clear h1 h2; simp_all [ranged])
    all_goals (intros; first | omega | (exfalso; omega))
end Go.Ab.S

namespace Go.Ab.S
open Go Go.Ab
variable {E : Env} [EnvS E]

def fromE (e : Evl) (v : ByteArray) (lo hi : Int) : Bool := decide (1 ≤ lo) && decide (lo ≤ hi) && decide (e.b.v = v) && decide (e.lo ≤ lo)
def accC (e : Evl) (v : ByteArray) (lo hi : Int) : Bool := fromE e v lo hi && (decide (e.k = 3) || (decide (e.k = 2) && decide (hi ≤ e.hi)))
def votC (e : Evl) (v : ByteArray) (lo hi : Int) : Bool := fromE e v lo hi && (!decide (e.k = 1) || (!decide (e.lo = 0) && decide (hi ≤ e.hi)))
def accP (e : Evl) (b : Bal) : Bool := if zeroB b = true then false else if e.k = 1 then prepares e.p e.q b else if e.k = 2 then covers e.p b else decide (e.b.v = b.v)
theorem e198 (e : Evl) (v : ByteArray) (lo hi : Int) : callW E 198 [.p e.pv, .p (.str v), .p (.int .i64 lo), .p (.int .i64 hi)] [] = some ⟨.p (.bool (fromE e v lo hi)), [], []⟩ := by
  rw [callW_eq, EnvS.h 198 F198 rfl]
  unfold Evl.pv
  simp -implicitDefEqProofs only [go_sem, F198, s198, ]
  repeat' ((first | rw [condW_q] | rw [opsG_q] | rw [opsLG_q]); unfold ifq; split <;> rename_i hq <;> simp -implicitDefEqProofs only [go_sem, hq, ])
  all_goals simp_all [fromE]
  all_goals (intros; first | omega | (exfalso; omega))
theorem e163 (e : Evl) (v : ByteArray) (lo hi : Int) : callW E 163 [.p e.pv, .p (.str v), .p (.int .i64 lo), .p (.int .i64 hi)] [] = some ⟨.p (.bool (accC e v lo hi)), [], []⟩ := by
  rw [callW_eq, EnvS.h 163 F163 rfl]
  have h1 := e198 (E := E) e v lo hi
  unfold Evl.pv at *
  simp -implicitDefEqProofs only [go_sem, F163, s163, h1]
  repeat' ((first | rw [condW_q] | rw [opsG_q] | rw [opsLG_q]); unfold ifq; split <;> rename_i hq <;> simp -implicitDefEqProofs only [go_sem, hq, h1])
  all_goals (clear h1; simp_all [accC])
  all_goals (intros; first | omega | (exfalso; omega))
theorem e116 (e : Evl) (v : ByteArray) (lo hi : Int) : callW E 116 [.p e.pv, .p (.str v), .p (.int .i64 lo), .p (.int .i64 hi)] [] = some ⟨.p (.bool (votC e v lo hi)), [], []⟩ := by
  rw [callW_eq, EnvS.h 116 F116 rfl]
  have h1 := e198 (E := E) e v lo hi
  unfold Evl.pv at *
  simp -implicitDefEqProofs only [go_sem, F116, s116, h1]
  repeat' ((first | rw [condW_q] | rw [opsG_q] | rw [opsLG_q]); unfold ifq; split <;> rename_i hq <;> simp -implicitDefEqProofs only [go_sem, hq, h1])
  all_goals (clear h1; simp_all [votC])
  all_goals (intros; first | omega | (exfalso; omega))
def Bal.pv (b : Bal) : PV := .agg [.int .i64 b.c, .str b.v]
end Go.Ab.S

namespace Go.Ab.S
open Go Go.Ab
variable {E : Env} [EnvS E]

theorem e138I (th : Int) (ns : List PV) (h : ns.length ≤ 100) : callW E 138 [.p (.agg [.int .i64 th, .sl 1 ns, .sl 3 []])] [] = some ⟨.p (.agg [.int .i64 th, .sl 1 ns, .sl 3 []]), [], []⟩ := by
  rw [callW_eq, EnvS.h 138 F138 rfl]
  have e := e208 (E := E) ns (by unfold most; omega)
  simp -implicitDefEqProofs only [go_sem, F138, s138, s138_3, s138_2, s138_1, loopW_some, e]
theorem loop138 (t : Tr) (h : t.thin) (th : Int) (ns : List PV) : ∀ (suf pre : List In), t.is = pre ++ suf →
    loopW E 0 [2, 3, 13, 14, 15] [.loc 0 1 0, .loc 1 6 0, .loc 5 5 0] (.trim [2, 3, 13, 14, 15] [2] [(0, [2, 3])] [.loc 0 1 0, .loc 1 6 0, .loc 5 5 0] s138_2) (some ⟨[(2, .ptr (.loc 0 1 0) 0), (3, .ptr (.loc 1 6 0) 0), (13, .p (.sl 3 (t.is.map In.pv))), (14, .p (.int .i64 t.is.length)), (15, .p (.int .i64 pre.length))],
       [(.loc 0 1 0, some (.box [.p (.int .i64 0), .nils 1, .nils 3])), (.loc 1 6 0, some (.box [.p (.int .i64 th), .p (.sl 1 ns), ownA 3 (.loc 5 5 0) pre.length])), (.loc 5 5 0, ownO 3 (pre.map In.pv))]⟩) =
    some (.ex 0, ⟨[(2, .ptr (.loc 0 1 0) 0), (3, .ptr (.loc 1 6 0) 0)],
       [(.loc 0 1 0, some (.box [.p (.int .i64 0), .nils 1, .nils 3])), (.loc 1 6 0, some (.box [.p (.int .i64 th), .p (.sl 1 ns), ownA 3 (.loc 5 5 0) t.is.length])), (.loc 5 5 0, ownO 3 (t.is.map In.pv))]⟩) := by
  generalize hK : loopW E 0 _ _ _ = K
  intro suf
  induction suf with
  | nil =>
    intro pre hp
    have hp' : t.is = pre := by simpa using hp
    rw [← hK, loopW_some, hK, hp']
    cases pre with
    | nil => simp -implicitDefEqProofs only [go_sem, s138_2, s138_1, ownA_nil, ownO_nil, List.map_nil]
    | cons p pre => simp -implicitDefEqProofs only [go_sem, s138_2, s138_1, ownA_succ, ownO_cons, List.map_cons]
  | cons x suf ih =>
    intro pre hp
    have h4 := h.is
    have hlen : t.is.length = pre.length + (suf.length + 1) := by rw [hp]; simp
    have hx : t.is[pre.length]? = some x := by rw [hp]; simp
    have hth : x.ns.length ≤ 12 := h.all x (List.mem_of_getElem? hx)
    obtain ⟨f1, f2, f3⟩ := rangeFacts pre.length t.is.length (by omega) (by omega)
    have e := e138I (E := E) x.th (x.ns.map (.int .i64)) (by simp; omega)
    have ih' := ih (pre ++ [x]) (by simp [hp])
    rw [← hK, loopW_some, hK]
    cases pre with
    | nil =>
      have hm : 1 ≤ most := by unfold most; omega
      simp only [List.map_cons, List.map_nil, List.length_cons, List.length_nil, Nat.zero_add, List.nil_append, ownA_succ, ownO_cons, Int.natCast_zero, cast_lit] at ih' f1 f2 f3 hx
      simp -implicitDefEqProofs only [go_sem, s138_2, s138_1, hx, f1, f2, f3, In.pv, e, hm, ownA_nil, ownO_nil, ownA_succ, ownO_cons]
      exact ih'
    | cons p pre =>
      have hm : pre.length + 1 + 1 ≤ most := by simp at hlen; unfold most; omega
      simp only [List.map_append, List.map_cons, List.map_nil, List.length_append, List.length_cons, List.length_nil, Nat.zero_add, List.cons_append, ownA_succ, ownO_cons] at ih' f1 f2 f3 hx
      simp -implicitDefEqProofs only [go_sem, s138_2, s138_1, hx, f1, f2, f3, In.pv, e, hm, ownA_succ, ownO_cons]
      exact ih'
theorem e138 (t : Tr) (h : t.thin) : callW E 138 [.p t.pv] [] = some ⟨.p t.pv, [], []⟩ := by
  rw [callW_eq, EnvS.h 138 F138 rfl]
  have h1 := h.ns
  have e := e208 (E := E) (t.ns.map (.int .i64)) (by simp; unfold most; omega)
  have lp := loop138 (E := E) t h t.th (t.ns.map (.int .i64)) t.is [] rfl
  simp only [List.length_nil, Int.natCast_zero, ownA_nil, List.map_nil, ownO_nil] at lp
  unfold Tr.pv
  cases hi : t.is with
  | nil =>
    rw [hi] at lp
    simp only [List.length_nil, Int.natCast_zero, ownA_nil, List.map_nil, ownO_nil] at lp
    simp -implicitDefEqProofs only [go_sem, F138, s138, s138_3, e, lp]
  | cons x r =>
    rw [hi] at lp
    simp only [List.length_cons, ownA_succ, List.map_cons, ownO_cons] at lp
    simp -implicitDefEqProofs only [go_sem, F138, s138, s138_3, e, lp, List.length_cons, List.map_cons]
end Go.Ab.S
