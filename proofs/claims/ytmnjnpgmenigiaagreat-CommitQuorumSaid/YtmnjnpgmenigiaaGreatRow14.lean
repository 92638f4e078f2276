/- The law CommitQuorum of the program answers true for every list of ints. -/
import Derived.Test.YtmnjnpgmenigiaaGreatRows
import Derived.Test.YtmnjnpgmenigiaaGreatW14
import Derived.WalkKit
import Derived.ProofKit
import Derived.OpenShut
import Derived.Carry
set_option linter.all false
namespace Go.Proofs.YtmnjnpgmenigiaaGreat.commitQuorum
open Go.ChangeShapes Go.WideShapes Go.ChangeAt Go.RowKit Go.Ab Go.Ab.S
theorem own : ownKnob Tryz.prog.godebug = none := by kernel_rfl
theorem laidOut : laidOutB Tryz.prog = true := by kernel_rfl
set_option maxRecDepth 100000 in
theorem lifted (os : Os) (started : os.Started) (H : Type) (enc : TypeId × Value → H) :
    ReturnsInHanded {} Tryz.checked os 5 .any (Rows.commitQuorumSpec.pre6 enc Tryz.prog Tryz.f5 Rows.commitQuorumRow.domain false) (Rows.commitQuorumSpec.post enc Tryz.prog Tryz.f5 false true false false) := by
  refine returnsInHanded_of_change (C := Tryz.checked) own started (by kernel_rfl) Tryz.func5
    (ChangeSpec.witness6 (enc := enc) (C := Tryz.checked) false ⟨#[], #[.slice none 0 0], []⟩ 8 (by kernel_rfl) (by kernel_rfl) (by kernel_rfl) (by kernel_rfl)) ?_
  intro W base args ds gs before hval0 hW hcnd _
  have hval : ∀ (j : Nat) t v, Tryz.f5.params[j]? = some t → args[j]? = some v → Value.okWide Tryz.prog W .any base t v := hval0
  have hW' := hW
  obtain ⟨p, q, hA0, hV, rfl, hfz, hnd⟩ := hW
  have hA : DataW.TrodAll enc Tryz.prog W 0 (fun _ => true) true Tryz.f5.params.toList args.toList ds p := hA0
  rw [Tryz.params5] at hA hval
  obtain ⟨v0, vs0, d0, ds0, p0, q0, hargs, rfl, rfl, h0, r0⟩ := trodAll_cons hA
  obtain ⟨rfl, rfl, rfl⟩ := trodAll_nil r0
  obtain rfl : args = #[v0] := by cases args; simp_all
  obtain ⟨rfl, rfl⟩ := trodVars_none hV
  obtain ⟨a0, len0, cap0, rfl⟩ := okWide_slice Tryz.underlying22 (hval 0 22 v0 rfl rfl)
  have k0 := h0
  have lt0 : ∀ x ∈ p0, x.block < W.heap.size := by obtain ⟨m, hm⟩ := k0; exact DataW.trod_lt m _ _ _ hm
  obtain ⟨z0, w0⟩ : ∃ zs : List Int, Rep idTry (fun _ => ⟨none, 0, 0⟩) W (fun _ => False) (.p (.sl 1 (zs.map (.int .i64)))) (.slice a0 len0 cap0) ∧ ∀ n ∈ zs, (Lit.int .i64 n).wf = true := by
    obtain ⟨fuel, hf⟩ := h0
    rcases open_ints Tryz.underlying22 Tryz.underlying3 (by kernel_rfl) hf with ⟨hcs, _⟩ | ⟨x, l, c, zs, hcs, _, hl, hm, hz, _, hcell, hwz⟩
    · simp [Value.cells] at hcs
      obtain ⟨rfl, rfl, rfl⟩ := hcs
      exact ⟨[], rep_nil_ints, by simp⟩
    · simp [Value.cells] at hcs
      obtain ⟨rfl, rfl, rfl⟩ := hcs
      exact ⟨zs.take len0, rep_ints hl (by rw [hz]; split <;> omega) hcell, fun n hn => hwz n (List.mem_of_mem_take hn)⟩
  clear hA0 hval0
  refine (calls_true envOK (F := F5) rfl (rowlaw5 z0 w0.2) (reps1 w0.1) (by simp [namesL, AV.names])).mono fun e W' ⟨he, bel⟩ => ?_
  subst he
  exact ⟨_, rfl, _, _, _, [], _, [], hW', trodAll_mk1 (shut_bool Tryz.underlying4 _), (trodAll_cons_mk (Below.trod laidOut (by kernel_rfl) (of_decide_eq_true (by kernel_rfl)) k0 bel lt0) trodAll_mk0), rfl, bel.frame _, fun h => by cases h⟩
noncomputable abbrev PP := Tryz.pinned.checked.prog
abbrev RR := Rows.commitQuorumRow
abbrev SS := Rows.commitQuorumSpec
theorem andT {a b : Bool} (x : a = true) (y : b = true) : (a && b) = true := by rw [x, y]; rfl
theorem kk0 : (RR.wf (OpenSpec.ofChange SS)) = true := by kernel_rfl
theorem kk1 : (laidOutB PP) = true := by kernel_rfl
theorem kk2 : (mapsRowed PP) = true := by kernel_rfl
theorem kk3 : (Tryz.f5.params.all (PP.readableRec ·)) = true := by kernel_rfl
theorem kk4 : (namedTie PP RR.named SS.vars) = true := by kernel_rfl
theorem kk5 : ((RR.stops == [])) = true := by kernel_rfl
theorem kk6 : ((PP.stops == [])) = true := by kernel_rfl
theorem kk7 : ((RR.knobs == [])) = true := by kernel_rfl
theorem kk8 : ((PP.stopKnobs == [])) = true := by kernel_rfl
theorem kk9 : ((RR.inPlace == PP.inPlace 5)) = true := by kernel_rfl
theorem kk10 : ((RR.unfollowed == PP.unfollowed 5)) = true := by kernel_rfl
theorem kk11 : ((RR.recurses == PP.recurses 5)) = true := by kernel_rfl
theorem kk12 : ((RR.named == PP.varsNamed 5)) = true := by kernel_rfl
theorem kk13 : ((RR.maps == (Tryz.f5.params.toList ++ SS.plain.varTypes PP).any (PP.mapsRec ·))) = true := by kernel_rfl
theorem kk14 : ((RR.ifaces == (Tryz.f5.params.toList ++ SS.plain.varTypes PP).any (PP.ifacesRec ·))) = true := by kernel_rfl
theorem kk15 : ((RR.mapsOut == PP.mapsAmong Tryz.f5.resultTypes.toList)) = true := by kernel_rfl
theorem kk16 : ((RR.loops == (Tryz.f5.params.toList ++ SS.plain.varTypes PP).any (PP.loopsFrom ·))) = true := by kernel_rfl
theorem kk17 : ((RR.wideKeys == (Tryz.f5.params.toList ++ SS.plain.varTypes PP ++ Tryz.f5.resultTypes.toList).any (PP.wideKeysFrom ·))) = true := by kernel_rfl
theorem kk18 : (SS.vars.all (PP.varReadable ·)) = true := by kernel_rfl
theorem kk19 : (Tryz.f5.resultTypes.all (fun t => PP.readableRec t && decide (t < PP.types.size))) = true := by kernel_rfl
theorem kk20 : ((RR.ifacesOut == Tryz.f5.resultTypes.toList.any (PP.ifacesRec ·))) = true := by kernel_rfl
theorem kk21 : ((RR.loopsOut == Tryz.f5.resultTypes.toList.any (PP.loopsFrom ·))) = true := by kernel_rfl
theorem kk22 : ((RR.plainKeys == PP.plainKeys)) = true := by kernel_rfl
theorem kk23 : (RR.shortTexts.isNone) = true := by kernel_rfl
theorem kk24 : (PP.stopsHeard) = true := by kernel_rfl
theorem kk25 : (PP.mayEnter) = true := by kernel_rfl
theorem kk26 : ((RR.lifted == PP.liftsFinal)) = true := by kernel_rfl
theorem kk27 : ((PP.make == some RR.make)) = true := by kernel_rfl
theorem kk28 : ((RR.kinds == (if RR.domain.isEmpty then [] else Tryz.f5.params.toList.map fun t => match PP.underlying t with | some (.int k) => some k | _ => none))) = true := by kernel_rfl
theorem kk29 : ((RR.pinned == RR.pinnedBy)) = true := by kernel_rfl
theorem kk30 : ((RR.veiled == (Tryz.f5.params.toList ++ SS.plain.varTypes PP ++ Tryz.f5.resultTypes.toList).any (PP.veiledRec ·))) = true := by kernel_rfl
theorem kk31 : (RR.veiledFits PP Tryz.f5.params.toList (Tryz.f5.params.toList ++ SS.plain.varTypes PP ++ Tryz.f5.resultTypes.toList)) = true := by kernel_rfl
set_option maxRecDepth 100000 in
theorem closed : joinedFacts Tryz.pinned.checked.prog 5 Tryz.f5 Rows.commitQuorumSpec Rows.commitQuorumRow = true := by
  unfold joinedFacts
  exact (andT (andT (andT (andT (andT (andT (andT (andT (andT (andT (andT (andT (andT (andT (andT (andT (andT (andT (andT (andT (andT (andT (andT (andT (andT (andT (andT (andT (andT (andT (andT kk0 kk1) kk2) kk3) kk4) kk5) kk6) kk7) kk8) kk9) kk10) kk11) kk12) kk13) kk14) kk15) kk16) kk17) kk18) kk19) kk20) kk21) kk22) kk23) kk24) kk25) kk26) kk27) kk28) kk29) kk30) kk31)
theorem over : Rows.commitQuorumRow.holds Tryz.pinned (OpenSpec.ofChange Rows.commitQuorumSpec) :=
  OpenClaim.holds_of_wide 5 Tryz.f5 rfl rfl rfl rfl rfl rfl rfl ⟨rfl, rfl, rfl, rfl, rfl⟩ rfl rfl rfl rfl rfl (by as_aux_lemma => kernel_rfl) Tryz.func5 closed
    (by as_aux_lemma => exact of_decide_eq_true (by kernel_rfl)) (by as_aux_lemma => unfold Func.isWrapper; first | (rw [if_pos (by decide +kernel)]; kernel_rfl) | (rw [if_neg (by decide +kernel)]; exact ⟨rfl, rfl⟩))
    (fun os started H enc _ => lifted os started H enc)
theorem proved : Rows.CommitQuorumSaid := over
end Go.Proofs.YtmnjnpgmenigiaaGreat.commitQuorum
