/- A part of the proof: an executor over plain data, shown sound for the model, and what it computes of the functions. -/
import Derived.Test.YtmnjnpgmenigiaaDisp
import Derived.Test.YtmnjnpgmenigiaaLim
set_option linter.all false
/-! Operations that do not meet each other: any order will do. -/
set_option linter.unusedVariables false
set_option linter.unusedSimpArgs false
set_option linter.unusedSectionVars false
namespace Go.Ab
open Go

section
variable {H H' : Hp}

theorem hslN_names {v : AV} {x : Nm} (h : x ∈ hslN v) : x ∈ v.names := by cases v <;> simp [hslN, AV.names] at h ⊢; exact h

theorem elems_loc {v : AV} (h : ∀ x ∈ v.names, hget H' x = hget H x) : elems H' v = elems H v := by
  cases v
  case hsl x off len => simp only [elems]; rw [h x (by simp [AV.names])]
  case p c => cases c <;> rfl
  all_goals rfl
theorem frz1_loc {v : AV} (h : ∀ x ∈ hslN v, hget H' x = hget H x) : frz1 H' v = frz1 H v := by
  cases v <;> simp only [frz1]
  rename_i x off len
  rw [elems_loc (H := H) (H' := H') (v := .hsl x off len) (by simpa [AV.names, hslN] using h)]
theorem frzL1_loc : ∀ {cs : List AV}, (∀ x ∈ cs.flatMap hslN, hget H' x = hget H x) → frzL1 H' cs = frzL1 H cs
  | [], _ => rfl
  | v :: r, h => by
    simp only [frzL1]
    rw [frz1_loc fun x hx => h x (by simp only [List.flatMap_cons, List.mem_append]; exact .inl hx), frzL1_loc fun x hx => h x (by simp only [List.flatMap_cons, List.mem_append]; exact .inr hx)]
theorem frz_loc {v : AV} (h : ∀ x ∈ frzNs [v], hget H' x = hget H x) : frz H' v = frz H v := by
  cases v <;> simp only [frz]
  case agg cs => rw [frzL1_loc fun x hx => h x (by simpa [frzNs] using hx)]
  case tup cs => rw [frzL1_loc fun x hx => h x (by simpa [frzNs] using hx)]
  all_goals exact frz1_loc fun x hx => h x (by simpa [frzNs] using hx)
theorem frzNs_cons (v : AV) (r : List AV) : frzNs (v :: r) = frzNs [v] ++ frzNs r := by cases v <;> simp [frzNs]
theorem frzL_loc : ∀ {cs : List AV}, (∀ x ∈ frzNs cs, hget H' x = hget H x) → frzL H' cs = frzL H cs
  | [], _ => rfl
  | v :: r, h => by
    rw [frzNs_cons] at h
    simp only [frzL]
    rw [frz_loc fun x hx => h x (List.mem_append_left _ hx), frzL_loc fun x hx => h x (List.mem_append_right _ hx)]
theorem pelems_loc {z : Nat} : ∀ {cs : List AV}, (∀ x ∈ frzNs cs, hget H' x = hget H x) → pelems H' z cs = pelems H z cs
  | [], _ => rfl
  | v :: r, h => by
    rw [frzNs_cons] at h
    simp only [pelems, pelem]
    rw [frz_loc fun x hx => h x (List.mem_append_left _ hx), pelems_loc fun x hx => h x (List.mem_append_right _ hx)]
theorem frzUp_loc : ∀ {ns : List Nm}, (∀ x ∈ ns, hget H' x = hget H x) → frzUp H' ns = frzUp H ns
  | [], _ => rfl
  | x :: r, h => by
    simp only [frzUp]
    rw [h x (by simp), frzUp_loc fun y hy => h y (by simp [hy])]
theorem hgets_loc : ∀ {ns : List Nm}, (∀ x ∈ ns, hget H' x = hget H x) → hgets H' ns = hgets H ns
  | [], _ => rfl
  | x :: r, h => by
    simp only [hgets]
    rw [h x (by simp), hgets_loc fun y hy => h y (by simp [hy])]
theorem objNs_loc : ∀ {ns : List Nm}, (∀ x ∈ ns, hget H' x = hget H x) → objNs H' ns = objNs H ns
  | [], _ => rfl
  | x :: r, h => by
    simp only [objNs]
    rw [h x (by simp), objNs_loc fun y hy => h y (by simp [hy])]
theorem mem_objNs : ∀ {ns : List Nm} {x y : Nm} {o : AObj}, x ∈ ns → hget H x = some o → y ∈ o.names → y ∈ objNs H ns
  | z :: r, x, y, o, h, ho, hy => by
    simp only [objNs]
    rcases List.mem_cons.1 h with rfl | h
    · rw [ho]; exact List.mem_append_left _ hy
    · have := mem_objNs h ho hy
      split
      · exact List.mem_append_right _ this
      · exact this
theorem flat_hslN {cs : List AV} {x : Nm} (h : x ∈ cs.flatMap hslN) : x ∈ namesL cs := by
  obtain ⟨v, hv, hx⟩ := List.mem_flatMap.1 h
  exact mem_namesL.2 ⟨v, hv, hslN_names hx⟩
theorem frzNs_names : ∀ {cs : List AV} {x : Nm}, x ∈ frzNs cs → x ∈ namesL cs
  | [], x, h => by simp [frzNs] at h
  | v :: r, x, h => by
    rw [frzNs_cons] at h
    simp only [namesL, List.mem_append]
    rcases List.mem_append.1 h with h | h
    · left
      cases v <;> simp only [frzNs, List.append_nil] at h <;> first | exact hslN_names h | (simp only [AV.names]; exact flat_hslN h)
    · exact .inr (frzNs_names h)
theorem boxUps_loc : ∀ {ns : List Nm}, (∀ x ∈ ns, hget H' x = hget H x) → (∀ x ∈ objNs H ns, hget H' x = hget H x) → boxUps H' ns = boxUps H ns
  | [], _, _ => rfl
  | x :: r, h, g => by
    have hx := h x (by simp)
    have ih := boxUps_loc (ns := r) (fun y hy => h y (by simp [hy])) fun y hy => g y (by
      simp only [objNs]
      split
      · exact List.mem_append_right _ hy
      · exact hy)
    simp only [boxUps]
    rw [hx, ih]
    cases ho : hget H x with
    | none => rfl
    | some o =>
      cases o with
      | box cs =>
        have hg : ∀ y ∈ cs.flatMap hslN, hget H' y = hget H y := fun y hy => g y (by
          simp only [objNs, ho]
          exact List.mem_append_left _ (flat_hslN hy))
        cases boxUps H r with
        | none => rfl
        | some u => simp only; rw [frzL1_loc hg, frzUp_loc hg]
      | _ => cases boxUps H r <;> rfl

theorem reach_mono : ∀ {n : Nat} {todo acc ns : List Nm}, reach H n todo acc = some ns → (∀ x ∈ acc, x ∈ ns) ∧ ∀ x ∈ todo, x ∈ ns
  | n, [], acc, ns, h => by cases n <;> simp only [reach, Option.some.injEq] at h <;> (subst h; exact ⟨fun _ h => h, fun _ h => by cases h⟩)
  | 0, x :: todo, acc, ns, h => by simp [reach] at h
  | n + 1, x :: todo, acc, ns, h => by
    simp only [reach] at h
    split at h
    · rename_i hx
      obtain ⟨h1, h2⟩ := reach_mono h
      exact ⟨h1, fun y hy => by rcases List.mem_cons.1 hy with rfl | hy <;> first | exact h1 _ hx | exact h2 _ hy⟩
    · split at h
      · obtain ⟨h1, h2⟩ := reach_mono h
        exact ⟨fun y hy => h1 y (List.mem_append_left _ hy), fun y hy => by
          rcases List.mem_cons.1 hy with rfl | hy
          · exact h1 _ (by simp)
          · exact h2 _ (List.mem_append_left _ hy)⟩
      · cases h
theorem reach_loc : ∀ {n : Nat} {todo acc ns : List Nm}, reach H n todo acc = some ns → (∀ x ∈ ns, hget H' x = hget H x) → reach H' n todo acc = some ns
  | n, [], acc, ns, h, _ => by cases n <;> simp only [reach] at h ⊢ <;> exact h
  | 0, x :: todo, acc, ns, h, _ => by simp [reach] at h
  | n + 1, x :: todo, acc, ns, h, hh => by
    have hx := (reach_mono h).2 x (by simp)
    simp only [reach] at h ⊢
    split at h
    · rename_i hm; rw [if_pos hm]; exact reach_loc h hh
    · rename_i hm
      rw [if_neg hm, hh x hx]
      split at h
      · exact reach_loc h hh
      · cases h

theorem app_loc {u : Hp} {x : Nm} (h : hget H' x = hget H x) : hget (u ++ H') x = hget (u ++ H) x := by
  rw [hget_append, hget_append]; split <;> first | rfl | exact h
theorem app_free {u : Hp} {x : Nm} (h : hget H x = none → hget H' x = none) : hget (u ++ H) x = none → hget (u ++ H') x = none := by
  rw [hget_append, hget_append]; split <;> first | exact fun h => h | exact h
theorem freeH_loc : ∀ {n : Hp}, (∀ x ∈ upNs n, hget H x = none → hget H' x = none) → freeH H n = true → freeH H' n = true
  | [], _, _ => rfl
  | (x, o) :: r, h, hf => by
    simp only [freeH, Bool.and_eq_true] at hf ⊢
    exact ⟨Option.isNone_iff_eq_none.2 (h x (by simp [upNs]) (Option.isNone_iff_eq_none.1 hf.1)), freeH_loc (fun y hy => h y (by simp [upNs, hy])) hf.2⟩

theorem callEnd_loc {r i : Nat} {ns : List Nm} {ups : Hp} {x : Option CR} {d : Dl} (hf : ∀ j, hget H (.loc r i j) = none → hget H' (.loc r i j) = none) (h : callEnd H r i ns ups x = some d) : callEnd H' r i ns ups x = some d := by
  cases x with
  | none => exact h
  | some c =>
    simp only [callEnd] at h ⊢
    split at h
    · exact h
    · split at h
      · rename_i hc
        rw [if_pos ⟨hc.1, freeH_loc (fun x hx => by obtain ⟨j, rfl, _⟩ := mem_newUp.1 hx; exact app_free (hf _)) hc.2⟩]
        exact h
      · cases h

theorem callNs_loc {cf : CF} {r i : Nat} {f : FuncId} {args : List AV} {ups : Hp} {d : Dl} {ns : List Nm} (hns : reach (ups ++ H) 64 (namesL args) [] = some ns) (hH : ∀ x ∈ ns, hget H' x = hget H x)
    (hf : ∀ j, hget H (.loc r i j) = none → hget H' (.loc r i j) = none) (h : callNs cf H r i f args ups = some d) : callNs cf H' r i f args ups = some d := by
  unfold callNs at h ⊢
  rw [reach_loc hns fun x hx => app_loc (hH x hx)]
  rw [hns] at h
  simp only at h ⊢
  rw [hgets_loc (H := ups ++ H) (H' := ups ++ H') fun x hx => app_loc (hH x hx)]
  split at h
  · split at h
    · exact callEnd_loc hf h
    · cases h
  · cases h

theorem names_frz {v v' : AV} (h : frz H v = some v') : ∀ x ∈ v'.names, x ∈ v.names := by
  have h1 : ∀ {v v' : AV}, frz1 H v = some v' → ∀ x ∈ v'.names, x ∈ v.names := by
    intro v v' h x hx
    cases v <;> simp only [frz1, Option.some.injEq] at h
    case hsl y o l =>
      split at h
      · simp only [Option.some.injEq] at h; subst h; simp [AV.names] at hx
      · cases h
    all_goals (subst h; first | exact hx | (simp [AV.names] at hx))
  have hL : ∀ {cs cs' : List AV}, frzL1 H cs = some cs' → ∀ x ∈ namesL cs', x ∈ namesL cs := by
    intro cs cs' h x hx
    obtain ⟨c, hc, hx⟩ := mem_namesL.1 hx
    obtain ⟨i, hi⟩ := List.mem_iff_getElem?.1 hc
    obtain ⟨c0, hc0, e⟩ := (frzL1_get h).2 i c hi
    exact mem_namesL.2 ⟨c0, List.mem_of_getElem? hc0, h1 e x hx⟩
  intro x hx
  cases v <;> simp only [frz] at h
  case agg cs =>
    split at h
    · rename_i cs' e
      simp only [Option.some.injEq] at h; subst h
      simp only [AV.names]
      exact hL e x (names_mkAgg hx)
    · cases h
  case tup cs =>
    split at h
    · rename_i cs' e
      simp only [Option.some.injEq] at h; subst h
      simp only [AV.names] at hx ⊢
      exact hL e x hx
    · cases h
  all_goals exact h1 h x hx

theorem callD_loc {cf : CF} {raw : Bool} {r i : Nat} {f : FuncId} {args : List AV} {d : Dl} (hH : ∀ x ∈ callFp raw H args, hget H' x = hget H x)
    (hf : ∀ j, hget H (.loc r i j) = none → hget H' (.loc r i j) = none) (h : callD cf raw H r i f args = some d) : callD cf raw H' r i f args = some d ∧ callFp raw H' args = callFp raw H args := by
  unfold callD at h ⊢
  unfold callFp at hH ⊢
  cases hp : allP args with
  | some ps =>
    simp only [hp] at h ⊢
    exact ⟨callEnd_loc hf h, trivial⟩
  | none =>
    simp only [hp] at h hH ⊢
    cases raw with
    | true =>
      simp only [if_true] at h hH ⊢
      cases hns : reach H 64 (namesL args) [] with
      | none => simp [callNs, hns] at h
      | some ns =>
        simp only [hns] at hH
        rw [reach_loc hns hH]
        exact ⟨callNs_loc (ups := []) hns hH hf h, rfl⟩
    | false =>
      simp only [Bool.false_eq_true, if_false] at h hH ⊢
      cases hz : frzL H args with
      | none => simp [hz] at h
      | some args' =>
        simp only [hz] at h hH
        cases hns : reach (frzUp H (frzNs args) ++ H) 64 (namesL args') [] with
        | none => simp [hns] at h
        | some ns =>
          simp only [hns] at h hH
          cases hb : boxUps (frzUp H (frzNs args) ++ H) ns with
          | none => simp [hb] at h
          | some b =>
            simp only [hb] at h hH
            cases hns2 : reach ((b ++ frzUp H (frzNs args)) ++ H) 64 (namesL args') [] with
            | none => simp only [callNs, hns2] at h; cases h
            | some ns2 =>
              simp only [hns2] at hH
              have hA : ∀ x ∈ frzNs args, hget H' x = hget H x := fun x hx => hH x (List.mem_append_left _ (frzNs_names hx))
              have hN : ∀ x ∈ ns, hget H' x = hget H x := fun x hx => hH x (List.mem_append_right _ (List.mem_append_left _ hx))
              have hO : ∀ x ∈ objNs (frzUp H (frzNs args) ++ H) ns, hget H' x = hget H x := fun x hx => hH x (List.mem_append_right _ (List.mem_append_right _ (List.mem_append_left _ hx)))
              have hN2 : ∀ x ∈ ns2, hget H' x = hget H x := fun x hx => hH x (List.mem_append_right _ (List.mem_append_right _ (List.mem_append_right _ hx)))
              have e1 : frzL H' args = some args' := by rw [frzL_loc hA]; exact hz
              have e2 : frzUp H' (frzNs args) = frzUp H (frzNs args) := frzUp_loc hA
              have e3 : reach (frzUp H (frzNs args) ++ H') 64 (namesL args') [] = some ns := reach_loc hns fun x hx => app_loc (hN x hx)
              have e4 : boxUps (frzUp H (frzNs args) ++ H') ns = some b := by rw [boxUps_loc (H := frzUp H (frzNs args) ++ H) (fun x hx => app_loc (hN x hx)) fun x hx => app_loc (hO x hx)]; exact hb
              have e5 : objNs (frzUp H (frzNs args) ++ H') ns = objNs (frzUp H (frzNs args) ++ H) ns := objNs_loc fun x hx => app_loc (hN x hx)
              have e6 : reach ((b ++ frzUp H (frzNs args)) ++ H') 64 (namesL args') [] = some ns2 := reach_loc hns2 fun x hx => app_loc (hN2 x hx)
              simp only [e1, e2, e3, e4, e5, e6, hns, hb, hns2]
              exact ⟨callNs_loc hns2 hN2 hf h, trivial⟩

theorem evL_loc {T T' : Tm} : ∀ {ps : List Opd}, (∀ x ∈ ps, ev T' x = ev T x) → evL T' ps = evL T ps
  | [], _ => rfl
  | x :: r, h => by simp only [evL]; rw [h x (by simp), evL_loc fun y hy => h y (by simp [hy])]
theorem evParts_loc {T T' : Tm} : ∀ {ps : List (Nat × Nat × Opd)}, (∀ x ∈ ps.map (·.2.2), ev T' x = ev T x) → evParts T' ps = evParts T ps
  | [], _ => rfl
  | (o, s, x) :: r, h => by simp only [evParts]; rw [h x (by simp), evParts_loc fun y hy => h y (by simp at hy ⊢; exact .inr hy)]
theorem evO_loc {T T' : Tm} {x : Option Opd} (h : ∀ y ∈ x.toList, ev T' y = ev T y) : x.map (ev T') = x.map (ev T) := by
  cases x with
  | none => rfl
  | some y => simp [h y (by simp)]

theorem opD_locT {cf : CF} {raw : FuncId → Bool} {r i : Nat} {T T' : Tm} {op : SOp} (h : ∀ x ∈ opds op, ev T' x = ev T x) : opD cf raw r i T' H op = opD cf raw r i T H op ∧ fp raw T' H op = fp raw T H op := by
  cases op <;> simp only [opds] at h
  case build zs ps => simp only [opD, fp, evParts_loc h, and_self]
  case bslice own z ps => simp only [opD, fp, evL_loc h, and_self]
  case mkfn f a b => simp only [opD, fp, evL_loc (fun x hx => h x (List.mem_append_left _ hx)), evL_loc (fun x hx => h x (List.mem_append_right _ hx)), and_self]
  case slice z x lo hi mx =>
    have h1 := h x (by simp)
    have h2 := evO_loc (x := lo) fun y hy => h y (by simp at hy ⊢; simp [hy])
    have h3 := evO_loc (x := hi) fun y hy => h y (by simp at hy ⊢; simp [hy])
    have h4 := evO_loc (x := mx) fun y hy => h y (by simp at hy ⊢; simp [hy])
    simp only [opD, fp, h1, h2, h3, h4, and_self]
  case substr x lo hi =>
    have h1 := h x (by simp)
    have h2 := evO_loc (x := lo) fun y hy => h y (by simp at hy ⊢; simp [hy])
    have h3 := evO_loc (x := hi) fun y hy => h y (by simp at hy ⊢; simp [hy])
    simp only [opD, fp, h1, h2, h3, and_self]
  case call f args =>
    have h1 := h f (by simp)
    have h2 := evL_loc (ps := args) fun x hx => h x (by simp [hx])
    simp only [opD, fp, h1, h2, and_self]
  case len s x =>
    have h1 := h x (by simp)
    cases s <;> simp only [opD, fp, h1, and_self]
  case nnew => simp only [opD, fp, and_self]
  case alloc => simp only [opD, fp, and_self]
  case pick c a b => simp only [opD, fp, h c (by simp), h a (by simp), h b (by simp), and_self]
  case mv x => simp only [opD, fp, h x (by simp), and_self]
  case box x => simp only [opD, fp, h x (by simp), and_self]
  case load a s x => simp only [opD, fp, h x (by simp), and_self]
  case store s x v => simp only [opD, fp, h x (by simp), h v (by simp), and_self]
  case nilck x => simp only [opD, fp, h x (by simp), and_self]
  case bin o x y => simp only [opD, fp, h x (by simp), h y (by simp), and_self]
  case isnil x => simp only [opD, fp, h x (by simp), and_self]
  case bbin o x y => simp only [opD, fp, h x (by simp), h y (by simp), and_self]
  case eqs o k x y => simp only [opD, fp, h x (by simp), h y (by simp), and_self]
  case un o x => simp only [opD, fp, h x (by simp), and_self]
  case conv o x => simp only [opD, fp, h x (by simp), and_self]
  case mkslice o x => simp only [opD, fp, h x (by simp), and_self]
  case faddr o x => simp only [opD, fp, h x (by simp), and_self]
  case fld a b o x => simp only [opD, fp, h x (by simp), and_self]
  case iaddr z x j => simp only [opD, fp, h x (by simp), h j (by simp), and_self]
  case sidx x j => simp only [opD, fp, h x (by simp), h j (by simp), and_self]
  case aidx a n z x j => simp only [opD, fp, h x (by simp), h j (by simp), and_self]
  case ext x j => simp only [opD, fp, h x (by simp), and_self]
  case append z x y => simp only [opD, fp, h x (by simp), h y (by simp), and_self]
  case mx x y => simp only [opD, fp, h x (by simp), h y (by simp), and_self]
  case mn x y => simp only [opD, fp, h x (by simp), h y (by simp), and_self]

theorem free_one {r i : Nat} {b : Bool} (hf : ∀ j, hget H (.loc r i j) = none → hget H' (.loc r i j) = none) (j : Nat) (h : (hget H (.loc r i j)).isNone = true) : (hget H' (.loc r i j)).isNone = true :=
  Option.isNone_iff_eq_none.2 (hf j (Option.isNone_iff_eq_none.1 h))

theorem opD_locH {cf : CF} {raw : FuncId → Bool} {r i : Nat} {T : Tm} {op : SOp} (hH : ∀ x ∈ fp raw T H op, hget H' x = hget H x) (hf : ∀ j, hget H (.loc r i j) = none → hget H' (.loc r i j) = none) {d : Dl}
    (h : opD cf raw r i T H op = some d) : opD cf raw r i T H' op = some d ∧ fp raw T H' op = fp raw T H op := by
  have f1 : ∀ j, (hget H (.loc r i j)).isNone = true → (hget H' (.loc r i j)).isNone = true := fun j h => Option.isNone_iff_eq_none.2 (hf j (Option.isNone_iff_eq_none.1 h))
  cases op <;> simp only [fp] at hH
  case nnew z =>
    simp only [opD, Option.ite_none_right_eq_some] at h ⊢
    exact ⟨⟨f1 0 h.1, h.2⟩, rfl⟩
  case alloc zs =>
    simp only [opD, Option.ite_none_right_eq_some] at h ⊢
    refine ⟨⟨freeH_loc (fun x hx => ?_) h.1, h.2⟩, rfl⟩
    rcases List.mem_cons.1 hx with rfl | hx
    · exact hf 0
    · obtain ⟨k, z, rfl, _, _⟩ := znews_mem hx; exact hf _
  case box x =>
    simp only [opD, Option.ite_none_right_eq_some] at h ⊢
    exact ⟨⟨⟨f1 0 h.1.1, h.1.2⟩, h.2⟩, rfl⟩
  case mkslice z n =>
    simp only [opD] at h ⊢
    split at h
    · simp only [Option.ite_none_right_eq_some] at h ⊢
      exact ⟨⟨f1 0 h.1, h.2⟩, rfl⟩
    · cases h
  case bslice own z ps =>
    have hN : ∀ x ∈ frzNs (evL T ps), hget H' x = hget H x := fun x hx => hH x (frzNs_names hx)
    refine ⟨?_, rfl⟩
    simp only [opD] at h ⊢
    rw [pelems_loc hN, frzUp_loc hN]
    split at h
    · split at h
      · rename_i hw
        simp only [Option.ite_none_right_eq_some, hw, if_true] at h ⊢
        exact ⟨f1 0 h.1, h.2⟩
      · rename_i hw; rw [if_neg hw]; exact h
    · simp only [Option.ite_none_right_eq_some] at h ⊢
      exact ⟨⟨h.1.1, f1 0 h.1.2.1, h.1.2.2⟩, h.2⟩
  case load agg size x =>
    refine ⟨?_, rfl⟩
    have : loadD H' agg size (ev T x) = loadD H agg size (ev T x) := by
      cases hv : ev T x <;> simp only [loadD]
      case ptr y o => rw [hH y (by simp [hv, AV.names])]
      case eptr y i o => rw [hH y (by simp [hv, AV.names])]
    simp only [opD, this] at h ⊢
    exact h
  case store size x v =>
    refine ⟨?_, rfl⟩
    have hv : ∀ y ∈ (ev T v).cells.flatMap hslN, hget H' y = hget H y := fun y hy => hH y (List.mem_append_right _ (by
      obtain ⟨c, hc, hy⟩ := List.mem_flatMap.1 hy
      have := hslN_names hy
      cases hvv : ev T v <;> rw [hvv] at hc <;> simp only [AV.cells] at hc
      case agg cs => simp only [AV.names]; exact mem_namesL.2 ⟨c, hc, this⟩
      case p pv =>
        cases pv <;> simp only [AV.cells, List.mem_map, List.mem_singleton] at hc
        case agg cs => obtain ⟨q, _, rfl⟩ := hc; simp [AV.names] at this
        all_goals (subst hc; simp [AV.names] at this)
      all_goals (simp only [List.mem_singleton] at hc; subst hc; exact this)))
    have e1 : pcells H' (ev T v) = pcells H (ev T v) := by simp only [pcells]; rw [frzL1_loc hv]
    have : storeD H' size (ev T x) (ev T v) = storeD H size (ev T x) (ev T v) := by
      cases hx : ev T x <;> simp only [storeD]
      case ptr y o => rw [hH y (by simp [hx, AV.names])]
      case eptr y i o => rw [hH y (by simp [hx, AV.names]), e1, frzUp_loc hv]
    simp only [opD, this] at h ⊢
    exact h
  case slice z x lo hi mx =>
    refine ⟨?_, rfl⟩
    have : ∀ lo hi mx, sliceA H' z (ev T x) lo hi mx = sliceA H z (ev T x) lo hi mx := by
      intro lo hi mx
      cases hv : ev T x <;> simp only [sliceA]
      case hsl y o l => have e : eszOf H' y = eszOf H y := by simp only [eszOf]; rw [hH y (by simp [hv, AV.names])]
                        rw [e]
      case p c => cases c <;> rfl
    simp only [opD, this] at h ⊢
    exact h
  case iaddr z x j =>
    refine ⟨?_, rfl⟩
    have : ∀ n, iaddrD H' z (ev T x) n = iaddrD H z (ev T x) n := by
      intro n
      cases hv : ev T x <;> simp only [iaddrD]
      case hsl y o l => rw [hH y (by simp [hv, AV.names])]
      case p c => cases c <;> rfl
    simp only [opD, this] at h ⊢
    exact h
  case call f args =>
    simp only [opD] at h ⊢
    split at h
    · rename_i g a b hg
      simp only [hg, fp] at hH ⊢
      exact callD_loc hH hf h
    · cases h
  case append z x y =>
    refine ⟨?_, rfl⟩
    have e1 : elems H' (ev T y) = elems H (ev T y) := elems_loc fun q hq => hH q (List.mem_append_right _ hq)
    simp only [opD] at h ⊢
    rw [e1]
    split at h
    · simp only [Option.ite_none_right_eq_some] at h ⊢
      refine ⟨h.1, ?_⟩
      have h2 := h.2
      split at h2
      · simp only [Option.ite_none_right_eq_some] at h2 ⊢
        exact ⟨⟨f1 0 h2.1.1, h2.1.2⟩, h2.2⟩
      · rename_i n o l hn
        rw [hH n (by simp [hn, AV.names])]
        exact h2
      · cases h2
    · cases h
  case len s x => cases s <;> exact ⟨h, rfl⟩
  all_goals exact ⟨h, rfl⟩

theorem opD_pure {cf : CF} {raw : FuncId → Bool} {r i : Nat} {T : Tm} {op : SOp} (hp : pureS op = true) : opD cf raw r i T H' op = opD cf raw r i T H op ∧ fp raw T H' op = fp raw T H op := by
  cases op
  case substr x lo hi =>
    refine ⟨?_, rfl⟩
    simp only [opD]
    split <;> first | rfl | (split <;> simp_all [sliceA])
  case len s x => cases s <;> exact ⟨rfl, rfl⟩
  all_goals first
    | (simp [pureS] at hp; done)
    | exact ⟨rfl, rfl⟩
end
end Go.Ab
