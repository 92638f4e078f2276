/- The law CommitParts of the program answers true for every list of ints. -/
import Derived.Test.YtmnjnpgmenigiaaGreatRows
import Derived.Test.YtmnjnpgmenigiaaGreatW11
import Derived.WalkKit
import Derived.ProofKit
import Derived.OpenShut
import Derived.Carry
set_option linter.all false
namespace Go.Proofs.YtmnjnpgmenigiaaGreat.commitParts
open Go.ChangeShapes Go.WideShapes Go.ChangeAt Go.RowKit Go.Ab Go.Ab.S
theorem own : ownKnob Tryz.prog.godebug = none := by kernel_rfl
theorem laidOut : laidOutB Tryz.prog = true := by kernel_rfl
set_option maxRecDepth 100000 in
theorem lifted (os : Os) (started : os.Started) (H : Type) (enc : TypeId × Value → H) :
    ReturnsInHanded {} Tryz.checked os 4 .any (Rows.commitPartsSpec.pre6 enc Tryz.prog Tryz.f4 Rows.commitPartsRow.domain false) (Rows.commitPartsSpec.post enc Tryz.prog Tryz.f4 false true false false) := by
  refine returnsInHanded_of_change (C := Tryz.checked) own started (by kernel_rfl) Tryz.func4
    (ChangeSpec.witness6 (enc := enc) (C := Tryz.checked) false ⟨#[], #[.slice none 0 0], []⟩ 8 (by kernel_rfl) (by kernel_rfl) (by kernel_rfl) (by kernel_rfl)) ?_
  intro W base args ds gs before hval0 hW hcnd _
  have hval : ∀ (j : Nat) t v, Tryz.f4.params[j]? = some t → args[j]? = some v → Value.okWide Tryz.prog W .any base t v := hval0
  have hW' := hW
  obtain ⟨p, q, hA0, hV, rfl, hfz, hnd⟩ := hW
  have hA : DataW.TrodAll enc Tryz.prog W 0 (fun _ => true) true Tryz.f4.params.toList args.toList ds p := hA0
  rw [Tryz.params4] at hA hval
  obtain ⟨v0, vs0, d0, ds0, p0, q0, hargs, rfl, rfl, h0, r0⟩ := trodAll_cons hA
  obtain ⟨rfl, rfl, rfl⟩ := trodAll_nil r0
  obtain rfl : args = #[v0] := by cases args; simp_all
  obtain ⟨rfl, rfl⟩ := trodVars_none hV
  obtain ⟨a0, len0, cap0, rfl⟩ := okWide_slice Tryz.underlying22 (hval 0 22 v0 rfl rfl)
  have k0 := h0
  have lt0 : ∀ x ∈ p0, x.block < W.heap.size := by obtain ⟨m, hm⟩ := k0; exact DataW.trod_lt m _ _ _ hm
  obtain ⟨z0, w0⟩ : ∃ zs : List Int, Rep idTry (fun _ => ⟨none, 0, 0⟩) W (fun _ => False) (.p (.sl 1 (zs.map (.int .i64)))) (.slice a0 len0 cap0) ∧ ∀ n ∈ zs, (Lit.int .i64 n).wf = true := by
    obtain ⟨fuel, hf⟩ := h0
    rcases open_ints Tryz.underlying22 Tryz.underlying3 (by kernel_rfl) hf with ⟨hcs, _⟩ | ⟨x, l, c, zs, hcs, _, hl, hm, hz, _, hcell, hwz⟩
    · simp [Value.cells] at hcs
      obtain ⟨rfl, rfl, rfl⟩ := hcs
      exact ⟨[], rep_nil_ints, by simp⟩
    · simp [Value.cells] at hcs
      obtain ⟨rfl, rfl, rfl⟩ := hcs
      exact ⟨zs.take len0, rep_ints hl (by rw [hz]; split <;> omega) hcell, fun n hn => hwz n (List.mem_of_mem_take hn)⟩
  clear hA0 hval0
  refine (calls_true envOK (F := F4) rfl (rowlaw4 z0 w0.2) (reps1 w0.1) (by simp [namesL, AV.names])).mono fun e W' ⟨he, bel⟩ => ?_
  subst he
  exact ⟨_, rfl, _, _, _, [], _, [], hW', trodAll_mk1 (shut_bool Tryz.underlying4 _), (trodAll_cons_mk (Below.trod laidOut (by kernel_rfl) (of_decide_eq_true (by kernel_rfl)) k0 bel lt0) trodAll_mk0), rfl, bel.frame _, fun h => by cases h⟩
theorem andT {a b : Bool} (x : a = true) (y : b = true) : (a && b) = true := by rw [x, y]; rfl
theorem kk0 : (Rows.commitPartsRow.wf (OpenSpec.ofChange Rows.commitPartsSpec)) = true := by kernel_rfl
theorem kk1 : (laidOutB Tryz.pinned.checked.prog) = true := by kernel_rfl
theorem kk2 : (mapsRowed Tryz.pinned.checked.prog) = true := by kernel_rfl
theorem kk3 : (Tryz.f4.params.all (Tryz.pinned.checked.prog.readableRec ·)) = true := by kernel_rfl
theorem kk4 : (namedTie Tryz.pinned.checked.prog Rows.commitPartsRow.named Rows.commitPartsSpec.vars) = true := by kernel_rfl
theorem kk5 : ((Rows.commitPartsRow.stops == [])) = true := by kernel_rfl
theorem kk6 : ((Tryz.pinned.checked.prog.stops == [])) = true := by kernel_rfl
theorem kk7 : ((Rows.commitPartsRow.knobs == [])) = true := by kernel_rfl
theorem kk8 : ((Tryz.pinned.checked.prog.stopKnobs == [])) = true := by kernel_rfl
theorem kk9 : ((Rows.commitPartsRow.inPlace == Tryz.pinned.checked.prog.inPlace 4)) = true := by kernel_rfl
theorem kk10 : ((Rows.commitPartsRow.unfollowed == Tryz.pinned.checked.prog.unfollowed 4)) = true := by kernel_rfl
theorem kk11 : ((Rows.commitPartsRow.recurses == Tryz.pinned.checked.prog.recurses 4)) = true := by kernel_rfl
theorem kk12 : ((Rows.commitPartsRow.named == Tryz.pinned.checked.prog.varsNamed 4)) = true := by kernel_rfl
theorem kk13 : ((Rows.commitPartsRow.maps == (Tryz.f4.params.toList ++ Rows.commitPartsSpec.plain.varTypes Tryz.pinned.checked.prog).any (Tryz.pinned.checked.prog.mapsRec ·))) = true := by kernel_rfl
theorem kk14 : ((Rows.commitPartsRow.ifaces == (Tryz.f4.params.toList ++ Rows.commitPartsSpec.plain.varTypes Tryz.pinned.checked.prog).any (Tryz.pinned.checked.prog.ifacesRec ·))) = true := by kernel_rfl
theorem kk15 : ((Rows.commitPartsRow.mapsOut == Tryz.pinned.checked.prog.mapsAmong Tryz.f4.resultTypes.toList)) = true := by kernel_rfl
theorem kk16 : ((Rows.commitPartsRow.loops == (Tryz.f4.params.toList ++ Rows.commitPartsSpec.plain.varTypes Tryz.pinned.checked.prog).any (Tryz.pinned.checked.prog.loopsFrom ·))) = true := by kernel_rfl
theorem kk17 : ((Rows.commitPartsRow.wideKeys == (Tryz.f4.params.toList ++ Rows.commitPartsSpec.plain.varTypes Tryz.pinned.checked.prog ++ Tryz.f4.resultTypes.toList).any (Tryz.pinned.checked.prog.wideKeysFrom ·))) = true := by kernel_rfl
theorem kk18 : (Rows.commitPartsSpec.vars.all (Tryz.pinned.checked.prog.varReadable ·)) = true := by kernel_rfl
theorem kk19 : (Tryz.f4.resultTypes.all (fun t => Tryz.pinned.checked.prog.readableRec t && decide (t < Tryz.pinned.checked.prog.types.size))) = true := by kernel_rfl
theorem kk20 : ((Rows.commitPartsRow.ifacesOut == Tryz.f4.resultTypes.toList.any (Tryz.pinned.checked.prog.ifacesRec ·))) = true := by kernel_rfl
theorem kk21 : ((Rows.commitPartsRow.loopsOut == Tryz.f4.resultTypes.toList.any (Tryz.pinned.checked.prog.loopsFrom ·))) = true := by kernel_rfl
theorem kk22 : ((Rows.commitPartsRow.plainKeys == Tryz.pinned.checked.prog.plainKeys)) = true := by kernel_rfl
theorem kk23 : (Rows.commitPartsRow.shortTexts.isNone) = true := by kernel_rfl
theorem kk24 : (Tryz.pinned.checked.prog.stopsHeard) = true := by kernel_rfl
theorem kk25 : (Tryz.pinned.checked.prog.mayEnter) = true := by kernel_rfl
theorem kk26 : ((Rows.commitPartsRow.lifted == Tryz.pinned.checked.prog.liftsFinal)) = true := by kernel_rfl
theorem kk27 : ((Tryz.pinned.checked.prog.make == some Rows.commitPartsRow.make)) = true := by kernel_rfl
theorem kk28 : ((Rows.commitPartsRow.kinds == (if Rows.commitPartsRow.domain.isEmpty then [] else Tryz.f4.params.toList.map fun t => match Tryz.pinned.checked.prog.underlying t with | some (.int k) => some k | _ => none))) = true := by kernel_rfl
theorem kk29 : ((Rows.commitPartsRow.pinned == Rows.commitPartsRow.pinnedBy)) = true := by kernel_rfl
theorem kk30 : ((Rows.commitPartsRow.veiled == (Tryz.f4.params.toList ++ Rows.commitPartsSpec.plain.varTypes Tryz.pinned.checked.prog ++ Tryz.f4.resultTypes.toList).any (Tryz.pinned.checked.prog.veiledRec ·))) = true := by kernel_rfl
theorem kk31 : (Rows.commitPartsRow.veiledFits Tryz.pinned.checked.prog Tryz.f4.params.toList (Tryz.f4.params.toList ++ Rows.commitPartsSpec.plain.varTypes Tryz.pinned.checked.prog ++ Tryz.f4.resultTypes.toList)) = true := by kernel_rfl
set_option maxRecDepth 100000 in
theorem closed : joinedFacts Tryz.pinned.checked.prog 4 Tryz.f4 Rows.commitPartsSpec Rows.commitPartsRow = true := by
  unfold joinedFacts
  exact (andT (andT (andT (andT (andT (andT (andT (andT (andT (andT (andT (andT (andT (andT (andT (andT (andT (andT (andT (andT (andT (andT (andT (andT (andT (andT (andT (andT (andT (andT (andT kk0 kk1) kk2) kk3) kk4) kk5) kk6) kk7) kk8) kk9) kk10) kk11) kk12) kk13) kk14) kk15) kk16) kk17) kk18) kk19) kk20) kk21) kk22) kk23) kk24) kk25) kk26) kk27) kk28) kk29) kk30) kk31)
theorem over : Rows.commitPartsRow.holds Tryz.pinned (OpenSpec.ofChange Rows.commitPartsSpec) :=
  OpenClaim.holds_of_wide 4 Tryz.f4 rfl rfl rfl rfl rfl rfl rfl ⟨rfl, rfl, rfl, rfl, rfl⟩ rfl rfl rfl rfl rfl (by as_aux_lemma => kernel_rfl) Tryz.func4 closed
    (by as_aux_lemma => exact of_decide_eq_true (by kernel_rfl)) (by as_aux_lemma => unfold Func.isWrapper; first | (rw [if_pos (by decide +kernel)]; kernel_rfl) | (rw [if_neg (by decide +kernel)]; exact ⟨rfl, rfl⟩))
    (fun os started H enc _ => lifted os started H enc)
theorem proved : Rows.CommitPartsSaid := over
end Go.Proofs.YtmnjnpgmenigiaaGreat.commitParts
