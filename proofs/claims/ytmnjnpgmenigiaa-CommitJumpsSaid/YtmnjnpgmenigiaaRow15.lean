/- The law CommitJumps of the program answers true for every list of ints and every two bytes. -/
import Derived.Test.YtmnjnpgmenigiaaRows
import Derived.Test.YtmnjnpgmenigiaaW15
import Derived.WalkKit
import Derived.ProofKit
import Derived.OpenShut
import Derived.Carry
set_option linter.all false
namespace Go.Proofs.Ytmnjnpgmenigiaa.commitJumps
open Go.ChangeShapes Go.WideShapes Go.ChangeAt Go.RowKit Go.Ab Go.Ab.S
theorem own : ownKnob Try.prog.godebug = none := by kernel_rfl
theorem laidOut : laidOutB Try.prog = true := by kernel_rfl
set_option maxRecDepth 100000 in
theorem lifted (os : Os) (started : os.Started) (H : Type) (enc : TypeId × Value → H) :
    ReturnsInHanded {} Try.checked os 10 .any (Rows.commitJumpsSpec.pre6 enc Try.prog Try.f10 Rows.commitJumpsRow.domain false) (Rows.commitJumpsSpec.post enc Try.prog Try.f10 false true false false) := by
  refine returnsInHanded_of_change (C := Try.checked) own started (by kernel_rfl) Try.func10
    (ChangeSpec.witness6 (enc := enc) (C := Try.checked) false ⟨#[], #[.slice none 0 0, .int .u8 0, .int .u8 0], []⟩ 8 (by kernel_rfl) (by kernel_rfl) (by kernel_rfl) (by kernel_rfl)) ?_
  intro W base args ds gs before hval0 hW hcnd _
  have hval : ∀ (j : Nat) t v, Try.f10.params[j]? = some t → args[j]? = some v → Value.okWide Try.prog W .any base t v := hval0
  have hW' := hW
  obtain ⟨p, q, hA0, hV, rfl, hfz, hnd⟩ := hW
  have hA : DataW.TrodAll enc Try.prog W 0 (fun _ => true) true Try.f10.params.toList args.toList ds p := hA0
  rw [Try.params10] at hA hval
  obtain ⟨v0, vs0, d0, ds0, p0, q0, hargs, rfl, rfl, h0, r0⟩ := trodAll_cons hA
  obtain ⟨v1, vs1, d1, ds1, p1, q1, rfl, rfl, rfl, h1, r1⟩ := trodAll_cons r0
  obtain ⟨v2, vs2, d2, ds2, p2, q2, rfl, rfl, rfl, h2, r2⟩ := trodAll_cons r1
  obtain ⟨rfl, rfl, rfl⟩ := trodAll_nil r2
  obtain rfl : args = #[v0, v1, v2] := by cases args; simp_all
  obtain ⟨rfl, rfl⟩ := trodVars_none hV
  obtain ⟨a0, len0, cap0, rfl⟩ := okWide_slice Try.underlying22 (hval 0 22 v0 rfl rfl)
  have k0 := h0
  have lt0 : ∀ x ∈ p0, x.block < W.heap.size := by obtain ⟨m, hm⟩ := k0; exact DataW.trod_lt m _ _ _ hm
  obtain ⟨z0, w0⟩ : ∃ zs : List Int, Rep idTry (fun _ => ⟨none, 0, 0⟩) W (fun _ => False) (.p (.sl 1 (zs.map (.int .i64)))) (.slice a0 len0 cap0) ∧ ∀ n ∈ zs, (Lit.int .i64 n).wf = true := by
    obtain ⟨fuel, hf⟩ := h0
    rcases open_ints Try.underlying22 Try.underlying3 (by kernel_rfl) hf with ⟨hcs, _⟩ | ⟨x, l, c, zs, hcs, _, hl, hm, hz, _, hcell, hwz⟩
    · simp [Value.cells] at hcs
      obtain ⟨rfl, rfl, rfl⟩ := hcs
      exact ⟨[], rep_nil_ints, by simp⟩
    · simp [Value.cells] at hcs
      obtain ⟨rfl, rfl, rfl⟩ := hcs
      exact ⟨zs.take len0, rep_ints hl (by rw [hz]; split <;> omega) hcell, fun n hn => hwz n (List.mem_of_mem_take hn)⟩
  obtain ⟨a1, rfl, rfl, rfl, w1⟩ := open_int Try.underlying5 (hval 1 5 v1 rfl rfl) h1
  obtain ⟨a2, rfl, rfl, rfl, w2⟩ := open_int Try.underlying5 (hval 2 5 v2 rfl rfl) h2
  clear hA0 hval0
  refine (calls_true envOK (F := F1010) rfl (rowlaw1010 z0 w0.2 a1 w1 a2 w2) (reps3 w0.1 (rep_int _ _) (rep_int _ _)) (by simp [namesL, AV.names])).mono fun e W' ⟨he, bel⟩ => ?_
  subst he
  exact ⟨_, rfl, _, _, _, [], _, [], hW', trodAll_mk1 (shut_bool Try.underlying4 _), (trodAll_cons_mk (Below.trod laidOut (by kernel_rfl) (of_decide_eq_true (by kernel_rfl)) k0 bel lt0) (trodAll_cons_mk (shut_int Try.underlying5 w1) (trodAll_cons_mk (shut_int Try.underlying5 w2) trodAll_mk0))), rfl, bel.frame _, fun h => by cases h⟩
theorem andT {a b : Bool} (x : a = true) (y : b = true) : (a && b) = true := by rw [x, y]; rfl
theorem kk0 : (Rows.commitJumpsRow.wf (OpenSpec.ofChange Rows.commitJumpsSpec)) = true := by kernel_rfl
theorem kk1 : (laidOutB Try.pinned.checked.prog) = true := by kernel_rfl
theorem kk2 : (mapsRowed Try.pinned.checked.prog) = true := by kernel_rfl
theorem kk3 : (Try.f10.params.all (Try.pinned.checked.prog.readableRec ·)) = true := by kernel_rfl
theorem kk4 : (namedTie Try.pinned.checked.prog Rows.commitJumpsRow.named Rows.commitJumpsSpec.vars) = true := by kernel_rfl
theorem kk5 : ((Rows.commitJumpsRow.stops == [])) = true := by kernel_rfl
theorem kk6 : ((Try.pinned.checked.prog.stops == [])) = true := by kernel_rfl
theorem kk7 : ((Rows.commitJumpsRow.knobs == [])) = true := by kernel_rfl
theorem kk8 : ((Try.pinned.checked.prog.stopKnobs == [])) = true := by kernel_rfl
theorem kk9 : ((Rows.commitJumpsRow.inPlace == Try.pinned.checked.prog.inPlace 10)) = true := by kernel_rfl
theorem kk10 : ((Rows.commitJumpsRow.unfollowed == Try.pinned.checked.prog.unfollowed 10)) = true := by kernel_rfl
theorem kk11 : ((Rows.commitJumpsRow.recurses == Try.pinned.checked.prog.recurses 10)) = true := by kernel_rfl
theorem kk12 : ((Rows.commitJumpsRow.named == Try.pinned.checked.prog.varsNamed 10)) = true := by kernel_rfl
theorem kk13 : ((Rows.commitJumpsRow.maps == (Try.f10.params.toList ++ Rows.commitJumpsSpec.plain.varTypes Try.pinned.checked.prog).any (Try.pinned.checked.prog.mapsRec ·))) = true := by kernel_rfl
theorem kk14 : ((Rows.commitJumpsRow.ifaces == (Try.f10.params.toList ++ Rows.commitJumpsSpec.plain.varTypes Try.pinned.checked.prog).any (Try.pinned.checked.prog.ifacesRec ·))) = true := by kernel_rfl
theorem kk15 : ((Rows.commitJumpsRow.mapsOut == Try.pinned.checked.prog.mapsAmong Try.f10.resultTypes.toList)) = true := by kernel_rfl
theorem kk16 : ((Rows.commitJumpsRow.loops == (Try.f10.params.toList ++ Rows.commitJumpsSpec.plain.varTypes Try.pinned.checked.prog).any (Try.pinned.checked.prog.loopsFrom ·))) = true := by kernel_rfl
theorem kk17 : ((Rows.commitJumpsRow.wideKeys == (Try.f10.params.toList ++ Rows.commitJumpsSpec.plain.varTypes Try.pinned.checked.prog ++ Try.f10.resultTypes.toList).any (Try.pinned.checked.prog.wideKeysFrom ·))) = true := by kernel_rfl
theorem kk18 : (Rows.commitJumpsSpec.vars.all (Try.pinned.checked.prog.varReadable ·)) = true := by kernel_rfl
theorem kk19 : (Try.f10.resultTypes.all (fun t => Try.pinned.checked.prog.readableRec t && decide (t < Try.pinned.checked.prog.types.size))) = true := by kernel_rfl
theorem kk20 : ((Rows.commitJumpsRow.ifacesOut == Try.f10.resultTypes.toList.any (Try.pinned.checked.prog.ifacesRec ·))) = true := by kernel_rfl
theorem kk21 : ((Rows.commitJumpsRow.loopsOut == Try.f10.resultTypes.toList.any (Try.pinned.checked.prog.loopsFrom ·))) = true := by kernel_rfl
theorem kk22 : ((Rows.commitJumpsRow.plainKeys == Try.pinned.checked.prog.plainKeys)) = true := by kernel_rfl
theorem kk23 : (Rows.commitJumpsRow.shortTexts.isNone) = true := by kernel_rfl
theorem kk24 : (Try.pinned.checked.prog.stopsHeard) = true := by kernel_rfl
theorem kk25 : (Try.pinned.checked.prog.mayEnter) = true := by kernel_rfl
theorem kk26 : ((Rows.commitJumpsRow.lifted == Try.pinned.checked.prog.liftsFinal)) = true := by kernel_rfl
theorem kk27 : ((Try.pinned.checked.prog.make == some Rows.commitJumpsRow.make)) = true := by kernel_rfl
theorem kk28 : ((Rows.commitJumpsRow.kinds == (if Rows.commitJumpsRow.domain.isEmpty then [] else Try.f10.params.toList.map fun t => match Try.pinned.checked.prog.underlying t with | some (.int k) => some k | _ => none))) = true := by kernel_rfl
theorem kk29 : ((Rows.commitJumpsRow.pinned == Rows.commitJumpsRow.pinnedBy)) = true := by kernel_rfl
theorem kk30 : ((Rows.commitJumpsRow.veiled == (Try.f10.params.toList ++ Rows.commitJumpsSpec.plain.varTypes Try.pinned.checked.prog ++ Try.f10.resultTypes.toList).any (Try.pinned.checked.prog.veiledRec ·))) = true := by kernel_rfl
theorem kk31 : (Rows.commitJumpsRow.veiledFits Try.pinned.checked.prog Try.f10.params.toList (Try.f10.params.toList ++ Rows.commitJumpsSpec.plain.varTypes Try.pinned.checked.prog ++ Try.f10.resultTypes.toList)) = true := by kernel_rfl
set_option maxRecDepth 100000 in
theorem closed : joinedFacts Try.pinned.checked.prog 10 Try.f10 Rows.commitJumpsSpec Rows.commitJumpsRow = true := by
  unfold joinedFacts
  exact (andT (andT (andT (andT (andT (andT (andT (andT (andT (andT (andT (andT (andT (andT (andT (andT (andT (andT (andT (andT (andT (andT (andT (andT (andT (andT (andT (andT (andT (andT (andT kk0 kk1) kk2) kk3) kk4) kk5) kk6) kk7) kk8) kk9) kk10) kk11) kk12) kk13) kk14) kk15) kk16) kk17) kk18) kk19) kk20) kk21) kk22) kk23) kk24) kk25) kk26) kk27) kk28) kk29) kk30) kk31)
theorem over : Rows.commitJumpsRow.holds Try.pinned (OpenSpec.ofChange Rows.commitJumpsSpec) :=
  OpenClaim.holds_of_wide 10 Try.f10 rfl rfl rfl rfl rfl rfl rfl ⟨rfl, rfl, rfl, rfl, rfl⟩ rfl rfl rfl rfl rfl (by as_aux_lemma => kernel_rfl) Try.func10 closed
    (by as_aux_lemma => exact of_decide_eq_true (by kernel_rfl)) (by as_aux_lemma => unfold Func.isWrapper; first | (rw [if_pos (by decide +kernel)]; kernel_rfl) | (rw [if_neg (by decide +kernel)]; exact ⟨rfl, rfl⟩))
    (fun os started H enc _ => lifted os started H enc)
theorem proved : Rows.CommitJumpsSaid := over
end Go.Proofs.Ytmnjnpgmenigiaa.commitJumps
