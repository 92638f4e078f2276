/- A part of the proof (an executor, and what it computes). -/
import Derived.Test.YtmnjnpgmenigiaaGreatB89fe899057
import Derived.Test.YtmnjnpgmenigiaaGreatB1e00147b9d
import Derived.Orders
import Derived.RangeFuncLeaves
import Derived.RangeFuncRecord
set_option linter.all false
/-! Operations that do not meet each other: any order will do. -/
namespace Go.Ab
open Go

section
variable {H H' : Hp}

theorem hslN_names {v : AV} {x : Nm} (h : x ∈ hslN v) : x ∈ v.names := by cases v <;> simp [hslN, AV.names] at h ⊢; exact h

theorem elems_loc {v : AV} (h : ∀ x ∈ v.names, hget H' x = hget H x) : elems H' v = elems H v := by
  cases v
  case hsl x off len => simp only [elems]; rw [h x (by simp [AV.names])]
  case p c => cases c <;> rfl
  all_goals rfl
theorem frz1_loc {v : AV} (h : ∀ x ∈ hslN v, hget H' x = hget H x) : frz1 H' v = frz1 H v := by
  cases v <;> simp only [frz1]
  rename_i x off len
  rw [elems_loc (H := H) (H' := H') (v := .hsl x off len) (by simpa [AV.names, hslN] using h)]
theorem frzL1_loc : ∀ {cs : List AV}, (∀ x ∈ cs.flatMap hslN, hget H' x = hget H x) → frzL1 H' cs = frzL1 H cs
  | [], _ => rfl
  | v :: r, h => by
    simp only [frzL1]
    rw [frz1_loc fun x hx => h x (by simp only [List.flatMap_cons, List.mem_append]; exact .inl hx), frzL1_loc fun x hx => h x (by simp only [List.flatMap_cons, List.mem_append]; exact .inr hx)]
theorem frz_loc {v : AV} (h : ∀ x ∈ frzNs [v], hget H' x = hget H x) : frz H' v = frz H v := by
  cases v <;> simp only [frz]
  case agg cs => rw [frzL1_loc fun x hx => h x (by simpa [frzNs] using hx)]
  case tup cs => rw [frzL1_loc fun x hx => h x (by simpa [frzNs] using hx)]
  all_goals exact frz1_loc fun x hx => h x (by simpa [frzNs] using hx)
theorem frzNs_cons (v : AV) (r : List AV) : frzNs (v :: r) = frzNs [v] ++ frzNs r := by cases v <;> simp [frzNs]
theorem frzL_loc : ∀ {cs : List AV}, (∀ x ∈ frzNs cs, hget H' x = hget H x) → frzL H' cs = frzL H cs
  | [], _ => rfl
  | v :: r, h => by
    rw [frzNs_cons] at h
    simp only [frzL]
    rw [frz_loc fun x hx => h x (List.mem_append_left _ hx), frzL_loc fun x hx => h x (List.mem_append_right _ hx)]
theorem pelems_loc {z : Nat} : ∀ {cs : List AV}, (∀ x ∈ frzNs cs, hget H' x = hget H x) → pelems H' z cs = pelems H z cs
  | [], _ => rfl
  | v :: r, h => by
    rw [frzNs_cons] at h
    simp only [pelems, pelem]
    rw [frz_loc fun x hx => h x (List.mem_append_left _ hx), pelems_loc fun x hx => h x (List.mem_append_right _ hx)]
theorem frzUp_loc : ∀ {ns : List Nm}, (∀ x ∈ ns, hget H' x = hget H x) → frzUp H' ns = frzUp H ns
  | [], _ => rfl
  | x :: r, h => by
    simp only [frzUp]
    rw [h x (by simp), frzUp_loc fun y hy => h y (by simp [hy])]
theorem hgets_loc : ∀ {ns : List Nm}, (∀ x ∈ ns, hget H' x = hget H x) → hgets H' ns = hgets H ns
  | [], _ => rfl
  | x :: r, h => by
    simp only [hgets]
    rw [h x (by simp), hgets_loc fun y hy => h y (by simp [hy])]
theorem objNs_loc : ∀ {ns : List Nm}, (∀ x ∈ ns, hget H' x = hget H x) → objNs H' ns = objNs H ns
  | [], _ => rfl
  | x :: r, h => by
    simp only [objNs]
    rw [h x (by simp), objNs_loc fun y hy => h y (by simp [hy])]
theorem flat_hslN {cs : List AV} {x : Nm} (h : x ∈ cs.flatMap hslN) : x ∈ namesL cs := by
  obtain ⟨v, hv, hx⟩ := List.mem_flatMap.1 h
  exact mem_namesL.2 ⟨v, hv, hslN_names hx⟩
theorem frzNs_names : ∀ {cs : List AV} {x : Nm}, x ∈ frzNs cs → x ∈ namesL cs
  | [], x, h => by simp [frzNs] at h
  | v :: r, x, h => by
    rw [frzNs_cons] at h
    simp only [namesL, List.mem_append]
    rcases List.mem_append.1 h with h | h
    · left
      cases v <;> simp only [frzNs, List.append_nil] at h <;> first | exact hslN_names h | (simp only [AV.names]; exact flat_hslN h)
    · exact .inr (frzNs_names h)
theorem boxUps_loc : ∀ {ns : List Nm}, (∀ x ∈ ns, hget H' x = hget H x) → (∀ x ∈ objNs H ns, hget H' x = hget H x) → boxUps H' ns = boxUps H ns
  | [], _, _ => rfl
  | x :: r, h, g => by
    have hx := h x (by simp)
    have ih := boxUps_loc (ns := r) (fun y hy => h y (by simp [hy])) fun y hy => g y (by
      simp only [objNs]
      split
      · exact List.mem_append_right _ hy
      · exact hy)
    simp only [boxUps]
    rw [hx, ih]
    cases ho : hget H x with
    | none => rfl
    | some o =>
      cases o with
      | box cs =>
        have hg : ∀ y ∈ cs.flatMap hslN, hget H' y = hget H y := fun y hy => g y (by
          simp only [objNs, ho]
          exact List.mem_append_left _ (flat_hslN hy))
        cases boxUps H r with
        | none => rfl
        | some u => simp only; rw [frzL1_loc hg, frzUp_loc hg]
      | _ => cases boxUps H r <;> rfl

theorem reach_mono : ∀ {n : Nat} {todo acc ns : List Nm}, reach H n todo acc = some ns → (∀ x ∈ acc, x ∈ ns) ∧ ∀ x ∈ todo, x ∈ ns
  | n, [], acc, ns, h => by cases n <;> simp only [reach, Option.some.injEq] at h <;> (subst h; exact ⟨fun _ h => h, fun _ h => by cases h⟩)
  | 0, x :: todo, acc, ns, h => by simp [reach] at h
  | n + 1, x :: todo, acc, ns, h => by
    simp only [reach] at h
    split at h
    · rename_i hx
      obtain ⟨h1, h2⟩ := reach_mono h
      exact ⟨h1, fun y hy => by rcases List.mem_cons.1 hy with rfl | hy <;> first | exact h1 _ hx | exact h2 _ hy⟩
    · split at h
      · obtain ⟨h1, h2⟩ := reach_mono h
        exact ⟨fun y hy => h1 y (List.mem_append_left _ hy), fun y hy => by
          rcases List.mem_cons.1 hy with rfl | hy
          · exact h1 _ (by simp)
          · exact h2 _ (List.mem_append_left _ hy)⟩
      · cases h
theorem reach_loc : ∀ {n : Nat} {todo acc ns : List Nm}, reach H n todo acc = some ns → (∀ x ∈ ns, hget H' x = hget H x) → reach H' n todo acc = some ns
  | n, [], acc, ns, h, _ => by cases n <;> simp only [reach] at h ⊢ <;> exact h
  | 0, x :: todo, acc, ns, h, _ => by simp [reach] at h
  | n + 1, x :: todo, acc, ns, h, hh => by
    have hx := (reach_mono h).2 x (by simp)
    simp only [reach] at h ⊢
    split at h
    · rename_i hm; rw [if_pos hm]; exact reach_loc h hh
    · rename_i hm
      rw [if_neg hm, hh x hx]
      split at h
      · exact reach_loc h hh
      · cases h

theorem app_loc {u : Hp} {x : Nm} (h : hget H' x = hget H x) : hget (u ++ H') x = hget (u ++ H) x := by
  rw [hget_append, hget_append]; split <;> first | rfl | exact h
theorem app_free {u : Hp} {x : Nm} (h : hget H x = none → hget H' x = none) : hget (u ++ H) x = none → hget (u ++ H') x = none := by
  rw [hget_append, hget_append]; split <;> first | exact fun h => h | exact h
theorem freeH_loc : ∀ {n : Hp}, (∀ x ∈ upNs n, hget H x = none → hget H' x = none) → freeH H n = true → freeH H' n = true
  | [], _, _ => rfl
  | (x, o) :: r, h, hf => by
    simp only [freeH, Bool.and_eq_true] at hf ⊢
    exact ⟨Option.isNone_iff_eq_none.2 (h x (by simp [upNs]) (Option.isNone_iff_eq_none.1 hf.1)), freeH_loc (fun y hy => h y (by simp [upNs, hy])) hf.2⟩

theorem callEnd_loc {r i : Nat} {ns : List Nm} {ups : Hp} {x : Option CR} {d : Dl} (hf : ∀ j, hget H (.loc r i j) = none → hget H' (.loc r i j) = none) (h : callEnd H r i ns ups x = some d) : callEnd H' r i ns ups x = some d := by
  cases x with
  | none => exact h
  | some c =>
    simp only [callEnd] at h ⊢
    split at h
    · exact h
    · split at h
      · rename_i hc
        rw [if_pos ⟨hc.1, freeH_loc (fun x hx => by obtain ⟨j, rfl, _⟩ := mem_newUp.1 hx; exact app_free (hf _)) hc.2⟩]
        exact h
      · cases h

theorem callNs_loc {cf : CF} {r i : Nat} {f : FuncId} {args : List AV} {ups : Hp} {d : Dl} {ns : List Nm} (hns : reach (ups ++ H) 64 (namesL args) [] = some ns) (hH : ∀ x ∈ ns, hget H' x = hget H x)
    (hf : ∀ j, hget H (.loc r i j) = none → hget H' (.loc r i j) = none) (h : callNs cf H r i f args ups = some d) : callNs cf H' r i f args ups = some d := by
  unfold callNs at h ⊢
  rw [reach_loc hns fun x hx => app_loc (hH x hx)]
  rw [hns] at h
  simp only at h ⊢
  rw [hgets_loc (H := ups ++ H) (H' := ups ++ H') fun x hx => app_loc (hH x hx)]
  split at h
  · split at h
    · exact callEnd_loc hf h
    · cases h
  · cases h

theorem allP_noNames : ∀ {cs : List AV} {ps : List PV}, allP cs = some ps → namesL cs = [] ∧ ∀ c ∈ cs, ∃ p, c = .p p
  | [], _, _ => ⟨rfl, by simp⟩
  | v :: r, ps, h => by
    cases v with
    | p v =>
      simp only [allP] at h
      cases hq : allP r with
      | none => simp [hq] at h
      | some x =>
        obtain ⟨h1, h2⟩ := allP_noNames hq
        refine ⟨by simp [namesL, AV.names, h1], fun c hc => ?_⟩
        rcases List.mem_cons.1 hc with rfl | hc
        · exact ⟨v, rfl⟩
        · exact h2 c hc
    | _ => simp [allP] at h
theorem lendEnd_loc {r i : Nat} {u : Hp} {x : Option CR} {d : Dl} (hf : ∀ j, hget H (.loc r i j) = none → hget H' (.loc r i j) = none) (h : lendEnd H r i u x = some d) : lendEnd H' r i u x = some d := by
  unfold lendEnd at h ⊢
  split at h
  · split at h
    · rename_i hs
      simp only [hs, if_true]; exact h
    · rename_i hs
      simp only [hs, if_false]; exact callEnd_loc hf h
  · exact callEnd_loc hf h
theorem callD_loc {cf : CF} {raw : Bool} {r i : Nat} {f : FuncId} {args : List AV} {d : Dl} (hH : ∀ x ∈ callFp raw H args, hget H' x = hget H x)
    (hf : ∀ j, hget H (.loc r i j) = none → hget H' (.loc r i j) = none) (h : callD cf raw H r i f args = some d) : callD cf raw H' r i f args = some d ∧ callFp raw H' args = callFp raw H args := by
  unfold callD at h ⊢
  unfold callFp at hH ⊢
  cases hp : allP args with
  | some ps =>
    simp only [hp] at h ⊢
    exact ⟨callEnd_loc hf h, trivial⟩
  | none =>
    simp only [hp] at h hH ⊢
    cases raw with
    | true =>
      simp only [if_true] at h hH ⊢
      cases hns : reach H 64 (namesL args) [] with
      | none => simp [callNs, hns] at h
      | some ns =>
        simp only [hns] at hH
        rw [reach_loc hns hH]
        exact ⟨callNs_loc (ups := []) hns hH hf h, rfl⟩
    | false =>
      simp only [Bool.false_eq_true, if_false] at h hH ⊢
      cases hz : frzL H args with
      | none => simp [hz] at h
      | some args' =>
        simp only [hz] at h hH
        cases hpp : allP args' with
        | some ps =>
          simp only [hpp] at h
          obtain ⟨hn0, _⟩ := allP_noNames hpp
          have hr0 : ∀ H : Hp, reach H 64 [] [] = some [] := fun H => rfl
          simp only [hn0, hr0, boxUps] at hH
          have hA : ∀ x ∈ frzNs args, hget H' x = hget H x := fun x hx => hH x (List.mem_append_left _ (frzNs_names hx))
          have e1 : frzL H' args = some args' := by rw [frzL_loc hA]; exact hz
          have e2 : frzUp H' (frzNs args) = frzUp H (frzNs args) := frzUp_loc hA
          simp only [e1, e2, hpp, hn0, hr0, boxUps, objNs]
          exact ⟨lendEnd_loc hf h, trivial⟩
        | none =>
        simp only [hpp] at h
        cases hns : reach (frzUp H (frzNs args) ++ H) 64 (namesL args') [] with
        | none => simp [hns] at h
        | some ns =>
          simp only [hns] at h hH
          cases hb : boxUps (frzUp H (frzNs args) ++ H) ns with
          | none => simp [hb] at h
          | some b =>
            simp only [hb] at h hH
            cases hns2 : reach ((b ++ frzUp H (frzNs args)) ++ H) 64 (namesL args') [] with
            | none => simp only [callNs, hns2] at h; cases h
            | some ns2 =>
              simp only [hns2] at hH
              have hA : ∀ x ∈ frzNs args, hget H' x = hget H x := fun x hx => hH x (List.mem_append_left _ (frzNs_names hx))
              have hN : ∀ x ∈ ns, hget H' x = hget H x := fun x hx => hH x (List.mem_append_right _ (List.mem_append_left _ hx))
              have hO : ∀ x ∈ objNs (frzUp H (frzNs args) ++ H) ns, hget H' x = hget H x := fun x hx => hH x (List.mem_append_right _ (List.mem_append_right _ (List.mem_append_left _ hx)))
              have hN2 : ∀ x ∈ ns2, hget H' x = hget H x := fun x hx => hH x (List.mem_append_right _ (List.mem_append_right _ (List.mem_append_right _ hx)))
              have e1 : frzL H' args = some args' := by rw [frzL_loc hA]; exact hz
              have e2 : frzUp H' (frzNs args) = frzUp H (frzNs args) := frzUp_loc hA
              have e3 : reach (frzUp H (frzNs args) ++ H') 64 (namesL args') [] = some ns := reach_loc hns fun x hx => app_loc (hN x hx)
              have e4 : boxUps (frzUp H (frzNs args) ++ H') ns = some b := by rw [boxUps_loc (H := frzUp H (frzNs args) ++ H) (fun x hx => app_loc (hN x hx)) fun x hx => app_loc (hO x hx)]; exact hb
              have e5 : objNs (frzUp H (frzNs args) ++ H') ns = objNs (frzUp H (frzNs args) ++ H) ns := objNs_loc fun x hx => app_loc (hN x hx)
              have e6 : reach ((b ++ frzUp H (frzNs args)) ++ H') 64 (namesL args') [] = some ns2 := reach_loc hns2 fun x hx => app_loc (hN2 x hx)
              simp only [e1, e2, hpp, e3, e4, e5, e6, hns, hb, hns2]
              exact ⟨callNs_loc hns2 hN2 hf h, trivial⟩

theorem evL_loc {T T' : Tm} : ∀ {ps : List Opd}, (∀ x ∈ ps, ev T' x = ev T x) → evL T' ps = evL T ps
  | [], _ => rfl
  | x :: r, h => by simp only [evL]; rw [h x (by simp), evL_loc fun y hy => h y (by simp [hy])]
theorem evParts_loc {T T' : Tm} : ∀ {ps : List (Nat × Nat × Opd)}, (∀ x ∈ ps.map (·.2.2), ev T' x = ev T x) → evParts T' ps = evParts T ps
  | [], _ => rfl
  | (o, s, x) :: r, h => by simp only [evParts]; rw [h x (by simp), evParts_loc fun y hy => h y (by simp at hy ⊢; exact .inr hy)]
theorem evO_loc {T T' : Tm} {x : Option Opd} (h : ∀ y ∈ x.toList, ev T' y = ev T y) : x.map (ev T') = x.map (ev T) := by
  cases x with
  | none => rfl
  | some y => simp [h y (by simp)]

theorem opD_locT {cf : CF} {raw : FuncId → Bool} {r i : Nat} {T T' : Tm} {op : SOp} (h : ∀ x ∈ opds op, ev T' x = ev T x) : opD cf raw r i T' H op = opD cf raw r i T H op ∧ fp raw T' H op = fp raw T H op := by
  cases op <;> simp only [opds] at h
  case build zs ps => simp only [opD, fp, evParts_loc h, and_self]
  case bslice own z ps => simp only [opD, fp, evL_loc h, and_self]
  case mkfn f a b => simp only [opD, fp, evL_loc (fun x hx => h x (List.mem_append_left _ hx)), evL_loc (fun x hx => h x (List.mem_append_right _ hx)), and_self]
  case slice z x lo hi mx =>
    have h1 := h x (by simp)
    have h2 := evO_loc (x := lo) fun y hy => h y (by simp at hy ⊢; simp [hy])
    have h3 := evO_loc (x := hi) fun y hy => h y (by simp at hy ⊢; simp [hy])
    have h4 := evO_loc (x := mx) fun y hy => h y (by simp at hy ⊢; simp [hy])
    simp only [opD, fp, h1, h2, h3, h4, and_self]
  case substr x lo hi =>
    have h1 := h x (by simp)
    have h2 := evO_loc (x := lo) fun y hy => h y (by simp at hy ⊢; simp [hy])
    have h3 := evO_loc (x := hi) fun y hy => h y (by simp at hy ⊢; simp [hy])
    simp only [opD, fp, h1, h2, h3, and_self]
  case call f args =>
    have h1 := h f (by simp)
    have h2 := evL_loc (ps := args) fun x hx => h x (by simp [hx])
    simp only [opD, fp, h1, h2, and_self]
  case len s x =>
    have h1 := h x (by simp)
    cases s <;> simp only [opD, fp, h1, and_self]
  case nnew => simp only [opD, fp, and_self]
  case alloc => simp only [opD, fp, and_self]
  case pick c a b => simp only [opD, fp, h c (by simp), h a (by simp), h b (by simp), and_self]
  case mv x => simp only [opD, fp, h x (by simp), and_self]
  case box x => simp only [opD, fp, h x (by simp), and_self]
  case load a s x => simp only [opD, fp, h x (by simp), and_self]
  case store s x v => simp only [opD, fp, h x (by simp), h v (by simp), and_self]
  case nilck x => simp only [opD, fp, h x (by simp), and_self]
  case bin o x y => simp only [opD, fp, h x (by simp), h y (by simp), and_self]
  case isnil x => simp only [opD, fp, h x (by simp), and_self]
  case bbin o x y => simp only [opD, fp, h x (by simp), h y (by simp), and_self]
  case eqs o k x y => simp only [opD, fp, h x (by simp), h y (by simp), and_self]
  case un o x => simp only [opD, fp, h x (by simp), and_self]
  case conv o x => simp only [opD, fp, h x (by simp), and_self]
  case mkslice o x => simp only [opD, fp, h x (by simp), and_self]
  case faddr o x => simp only [opD, fp, h x (by simp), and_self]
  case fld a b o x => simp only [opD, fp, h x (by simp), and_self]
  case iaddr z x j => simp only [opD, fp, h x (by simp), h j (by simp), and_self]
  case sidx x j => simp only [opD, fp, h x (by simp), h j (by simp), and_self]
  case aidx a n z x j => simp only [opD, fp, h x (by simp), h j (by simp), and_self]
  case ext x j => simp only [opD, fp, h x (by simp), and_self]
  case append z x y => simp only [opD, fp, h x (by simp), h y (by simp), and_self]
  case mx x y => simp only [opD, fp, h x (by simp), h y (by simp), and_self]
  case mn x y => simp only [opD, fp, h x (by simp), h y (by simp), and_self]
  case clear zp x => simp only [opD, fp, h x (by simp), and_self]
  case shrink z x hi => simp only [opD, fp, h x (by simp), h hi (by simp), and_self]

theorem opD_locH {cf : CF} {raw : FuncId → Bool} {r i : Nat} {T : Tm} {op : SOp} (hH : ∀ x ∈ fp raw T H op, hget H' x = hget H x) (hf : ∀ j, hget H (.loc r i j) = none → hget H' (.loc r i j) = none) {d : Dl}
    (h : opD cf raw r i T H op = some d) : opD cf raw r i T H' op = some d ∧ fp raw T H' op = fp raw T H op := by
  have f1 : ∀ j, (hget H (.loc r i j)).isNone = true → (hget H' (.loc r i j)).isNone = true := fun j h => Option.isNone_iff_eq_none.2 (hf j (Option.isNone_iff_eq_none.1 h))
  cases op <;> simp only [fp] at hH
  case nnew z =>
    simp only [opD, Option.ite_none_right_eq_some] at h ⊢
    exact ⟨⟨f1 0 h.1, h.2⟩, rfl⟩
  case alloc zs =>
    simp only [opD, Option.ite_none_right_eq_some] at h ⊢
    refine ⟨⟨freeH_loc (fun x hx => ?_) h.1, h.2⟩, rfl⟩
    rcases List.mem_cons.1 hx with rfl | hx
    · exact hf 0
    · obtain ⟨k, z, rfl, _, _⟩ := znews_mem hx; exact hf _
  case box x =>
    simp only [opD, Option.ite_none_right_eq_some] at h ⊢
    exact ⟨⟨⟨f1 0 h.1.1, h.1.2⟩, h.2⟩, rfl⟩
  case mkslice z n =>
    simp only [opD] at h ⊢
    split at h
    · simp only [Option.ite_none_right_eq_some] at h ⊢
      exact ⟨⟨f1 0 h.1, h.2⟩, rfl⟩
    · cases h
  case bslice own z ps =>
    have hN : ∀ x ∈ frzNs (evL T ps), hget H' x = hget H x := fun x hx => hH x (frzNs_names hx)
    refine ⟨?_, rfl⟩
    simp only [opD] at h ⊢
    rw [pelems_loc hN, frzUp_loc hN]
    split at h
    · split at h
      · rename_i hw
        simp only [Option.ite_none_right_eq_some, hw, if_true] at h ⊢
        exact ⟨f1 0 h.1, h.2⟩
      · rename_i hw; rw [if_neg hw]; exact h
    · simp only [Option.ite_none_right_eq_some] at h ⊢
      exact ⟨⟨h.1.1, f1 0 h.1.2.1, h.1.2.2⟩, h.2⟩
  case load agg size x =>
    refine ⟨?_, rfl⟩
    have : loadD H' agg size (ev T x) = loadD H agg size (ev T x) := by
      cases hv : ev T x <;> simp only [loadD]
      case ptr y o => rw [hH y (by simp [hv, AV.names])]
      case eptr y i o => rw [hH y (by simp [hv, AV.names])]
    simp only [opD, this] at h ⊢
    exact h
  case store size x v =>
    refine ⟨?_, rfl⟩
    have hv : ∀ y ∈ (ev T v).cells.flatMap hslN, hget H' y = hget H y := fun y hy => hH y (List.mem_append_right _ (by
      obtain ⟨c, hc, hy⟩ := List.mem_flatMap.1 hy
      have := hslN_names hy
      cases hvv : ev T v <;> rw [hvv] at hc <;> simp only [AV.cells] at hc
      case agg cs => simp only [AV.names]; exact mem_namesL.2 ⟨c, hc, this⟩
      case p pv =>
        cases pv <;> simp only [AV.cells, List.mem_map, List.mem_singleton] at hc
        case agg cs => obtain ⟨q, _, rfl⟩ := hc; simp [AV.names] at this
        all_goals (subst hc; simp [AV.names] at this)
      all_goals (simp only [List.mem_singleton] at hc; subst hc; exact this)))
    have e1 : pcells H' (ev T v) = pcells H (ev T v) := by simp only [pcells]; rw [frzL1_loc hv]
    have : storeD H' size (ev T x) (ev T v) = storeD H size (ev T x) (ev T v) := by
      cases hx : ev T x <;> simp only [storeD]
      case ptr y o => rw [hH y (by simp [hx, AV.names])]
      case eptr y i o => rw [hH y (by simp [hx, AV.names]), e1, frzUp_loc hv]
    simp only [opD, this] at h ⊢
    exact h
  case slice z x lo hi mx =>
    refine ⟨?_, rfl⟩
    have : ∀ lo hi mx, sliceA H' z (ev T x) lo hi mx = sliceA H z (ev T x) lo hi mx := by
      intro lo hi mx
      cases hv : ev T x <;> simp only [sliceA]
      case hsl y o l => have e : eszOf H' y = eszOf H y := by simp only [eszOf]; rw [hH y (by simp [hv, AV.names])]
                        rw [e]
      case p c => cases c <;> rfl
    simp only [opD, this] at h ⊢
    exact h
  case iaddr z x j =>
    refine ⟨?_, rfl⟩
    have : ∀ n, iaddrD H' z (ev T x) n = iaddrD H z (ev T x) n := by
      intro n
      cases hv : ev T x <;> simp only [iaddrD]
      case hsl y o l => rw [hH y (by simp [hv, AV.names])]
      case p c => cases c <;> rfl
    simp only [opD, this] at h ⊢
    exact h
  case call f args =>
    simp only [opD] at h ⊢
    split at h
    · rename_i g a b hg
      simp only [hg, fp] at hH ⊢
      exact callD_loc hH hf h
    · cases h
  case append z x y =>
    refine ⟨?_, rfl⟩
    have e1 : elems H' (ev T y) = elems H (ev T y) := elems_loc fun q hq => hH q (List.mem_append_right _ hq)
    simp only [opD] at h ⊢
    rw [e1]
    split at h
    · simp only [Option.ite_none_right_eq_some] at h ⊢
      refine ⟨h.1, ?_⟩
      have h2 := h.2
      split at h2
      · simp only [Option.ite_none_right_eq_some] at h2 ⊢
        exact ⟨⟨f1 0 h2.1.1, h2.1.2⟩, h2.2⟩
      · rename_i n o l hn
        rw [hH n (by simp [hn, AV.names])]
        exact h2
      · cases h2
    · cases h
  case shrink z x hi =>
    refine ⟨?_, rfl⟩
    have e : sliceA H' z (ev T x) none (some (ev T hi)) none = sliceA H z (ev T x) none (some (ev T hi)) none := by
      cases hv : ev T x <;> simp only [sliceA]
      case hsl y o l => have e : eszOf H' y = eszOf H y := by simp only [eszOf]; rw [hH y (by simp [hv, AV.names])]
                        rw [e]
      case p c => cases c <;> rfl
    have names : ∀ {y : Nm} {k : Nat}, sliceA H z (ev T x) none (some (ev T hi)) none = some (.hsl y 0 k) → y ∈ (ev T x).names := by
      intro y k hs
      cases hv : ev T x <;> rw [hv] at hs <;> simp only [sliceA] at hs
      case hsl y2 o l =>
        (repeat' split at hs) <;> first | (simp only [Option.some.injEq, AV.hsl.injEq] at hs; obtain ⟨rfl, _, _⟩ := hs; simp [AV.names]) | cases hs
      case p c => (cases c <;> simp only [] at hs) <;> (repeat' split at hs) <;> first | (cases hs; done) | (simp at hs)
      all_goals ((repeat' split at hs) <;> first | (cases hs; done) | (simp at hs))
    simp only [opD] at h ⊢
    rw [e]
    split at h
    · rename_i y k hs
      rw [hH y (names hs)]
      exact h
    · cases h
  case clear zp x =>
    refine ⟨?_, rfl⟩
    simp only [opD] at h ⊢
    split at h
    · rename_i y o n hv
      rw [hH y (by simp [hv, AV.names])]
      exact h
    · cases h
  case len s x => cases s <;> exact ⟨h, rfl⟩
  all_goals exact ⟨h, rfl⟩

theorem opD_pure {cf : CF} {raw : FuncId → Bool} {r i : Nat} {T : Tm} {op : SOp} (hp : pureS op = true) : opD cf raw r i T H' op = opD cf raw r i T H op ∧ fp raw T H' op = fp raw T H op := by
  cases op
  case substr x lo hi =>
    refine ⟨?_, rfl⟩
    simp only [opD]
    split <;> first | rfl | (split <;> simp_all [sliceA])
  case len s x => cases s <;> exact ⟨rfl, rfl⟩
  all_goals first
    | (simp [pureS] at hp; done)
    | exact ⟨rfl, rfl⟩
end
end Go.Ab

/-! Any order will do: runs of operations. -/
namespace Go.Ab
open Go

def apartS (a b : SOper) : Bool :=
  (match a.dst with
   | some d => !(readsT b).contains d && b.dst != some d
   | none => true) &&
  (match b.dst with
   | some d => !(readsT a).contains d
   | none => true)

theorem apartS_spec {a b : SOper} (h : apartS a b = true) : (∀ d, a.dst = some d → d ∉ readsT b) ∧ (∀ d, a.dst = some d → b.dst ≠ some d) ∧ ∀ d, b.dst = some d → d ∉ readsT a := by
  refine ⟨fun d hd => ?_, fun d hd => ?_, fun d hd => ?_⟩ <;> simp [apartS, hd] at h
  · exact h.1.1
  · exact h.1.2
  · exact h.2

theorem upNames_eq : ∀ H : Hp, upNames H = upNs H
  | [] => rfl
  | (x, _) :: r => by simp [upNames, upNs, upNames_eq r]

structure Eqv (a b : St) : Prop where
  t : ∀ i, tget a.T i = tget b.T i
  h : ∀ x, hget a.H x = hget b.H x
theorem Eqv.refl (a : St) : Eqv a a := ⟨fun _ => rfl, fun _ => rfl⟩
theorem Eqv.symm {a b : St} (h : Eqv a b) : Eqv b a := ⟨fun i => (h.t i).symm, fun x => (h.h x).symm⟩
theorem Eqv.trans {a b c : St} (h : Eqv a b) (g : Eqv b c) : Eqv a c := ⟨fun i => (h.t i).trans (g.t i), fun x => (h.h x).trans (g.h x)⟩

theorem ev_tget {T T' : Tm} {x : Opd} (h : ∀ t ∈ opdT x, tget T' t = tget T t) : ev T' x = ev T x := by
  cases x <;> first | rfl | exact h _ (by simp [opdT])

section
variable {cf : CF} {raw : FuncId → Bool} {r : Nat}

theorem callEnd_pg {H : Hp} {i : Nat} {ns : List Nm} {ups : Hp} {x : Option CR} {d : Dl} (h : callEnd H r i ns ups x = some d) : d.pg = none := by
  obtain ⟨c, _, _, _, av, outs, news, _, _, _, rfl⟩ := callEnd_inv h; rfl

theorem callD_pg {H : Hp} {i : Nat} {b : Bool} {f : FuncId} {args : List AV} {d : Dl} (h : callD cf b H r i f args = some d) : d.pg = none := by
  have hN : ∀ {args : List AV} {ups : Hp}, callNs cf H r i f args ups = some d → d.pg = none := by
    intro args ups h
    unfold callNs at h
    split at h
    · cases h
    · split at h
      · split at h
        · exact callEnd_pg h
        · cases h
      · cases h
  unfold callD at h
  split at h
  · exact callEnd_pg h
  · split at h
    · exact hN h
    · split at h
      · cases h
      · simp only at h
        split at h
        · unfold lendEnd at h
          split at h
          · split at h
            · simp only [Option.some.injEq] at h; subst h; rfl
            · exact callEnd_pg h
          · exact callEnd_pg h
        · split at h
          · cases h
          · split at h
            · cases h
            · exact hN h

theorem footV_loc {o : SOper} {T T' : Tm} (hT : ∀ t ∈ readsT o, tget T' t = tget T t) : footV T' o = footV T o := List.map_congr_left hT
theorem footO_loc {ns : List Nm} {H H' : Hp} (h : ∀ x ∈ ns, hget H' x = hget H x) : footO H' ns = footO H ns := List.map_congr_left h
theorem outX_loc {i : Nat} {o : SOper} {st st' : St} {d : Dl} {f : Foot} (h : outX cf raw r i o st = some (d, f)) (hT : ∀ t ∈ readsT o, tget st'.T t = tget st.T t) (hH : ∀ x ∈ f.ns, hget st'.H x = hget st.H x)
    (hf : pureS o.op = false → ∀ j, hget st.H (.loc r i j) = none → hget st'.H (.loc r i j) = none) : outX cf raw r i o st' = some (d, f) := by
  have hg : wantedG st'.T o.guard = wantedG st.T o.guard := by
    cases hg : o.guard with
    | none => rfl
    | some p => obtain ⟨t, b⟩ := p; simp only [wantedG]; rw [hT t (by simp [readsT, guardT, hg])]
  have he : ∀ x ∈ opds o.op, ev st'.T x = ev st.T x := fun x hx => ev_tget fun t ht => hT t (List.mem_append_left _ (List.mem_flatMap.2 ⟨x, hx, ht⟩))
  have hv := footV_loc hT
  unfold outX at h ⊢
  rw [hg]
  cases hw : wantedG st.T o.guard with
  | none => simp [hw] at h
  | some b =>
    cases b with
    | false => simp only [hw, hv] at h ⊢; exact h
    | true =>
      simp only [hw] at h ⊢
      cases hd : opD cf raw r i st.T st.H o.op with
      | none => simp [hd, obind_none] at h
      | some d' =>
        simp only [hd, obind_some, Option.some.injEq, Prod.mk.injEq] at h
        obtain ⟨rfl, rfl⟩ := h
        obtain ⟨h1, h2⟩ := opD_locT (H := st'.H) (cf := cf) (raw := raw) (r := r) (i := i) he
        have ho := footO_loc hH
        cases hp : pureS o.op with
        | true =>
          obtain ⟨h3, h4⟩ := opD_pure (H := st.H) (H' := st'.H) (cf := cf) (raw := raw) (r := r) (i := i) (T := st.T) hp
          rw [h1, h2, h3, h4, hd, hv, ho]
          rfl
        | false =>
          obtain ⟨h3, h4⟩ := opD_locH (H' := st'.H) hH (hf hp) hd
          rw [h1, h2, h3, h4, hv, ho]
          rfl
theorem outX_foot {i : Nat} {o : SOper} {st : St} {d : Dl} {f : Foot} (h : outX cf raw r i o st = some (d, f)) : f.vs = footV st.T o ∧ f.os = footO st.H f.ns := by
  unfold outX at h
  split at h
  · cases hd : opD cf raw r i st.T st.H o.op with
    | none => simp [hd, obind_none] at h
    | some d' =>
      simp only [hd, obind_some, Option.some.injEq, Prod.mk.injEq] at h
      obtain ⟨_, rfl⟩ := h
      exact ⟨rfl, rfl⟩
  · simp only [Option.some.injEq, Prod.mk.injEq] at h
    obtain ⟨_, rfl⟩ := h
    exact ⟨rfl, rfl⟩
  · cases h
/-- Whoever moves a slice writes it. -/
theorem outX_pg {i : Nat} {o : SOper} {st : St} {d : Dl} {f : Foot} {x : Nm} (h : outX cf raw r i o st = some (d, f)) (hp : d.pg = some x) : x ∈ upNs d.up := by
  have hc : ∀ {H : Hp} {b : Bool} {f : FuncId} {args : List AV} {d : Dl}, callD cf b H r i f args = some d → d.pg = none := fun h => callD_pg h
  unfold outX at h
  split at h
  · cases hd : opD cf raw r i st.T st.H o.op with
    | none => simp [hd, obind_none] at h
    | some d' =>
      simp only [hd, obind_some, Option.some.injEq, Prod.mk.injEq] at h
      obtain ⟨rfl, _⟩ := h
      generalize o.op = op at hd
      cases op
      case call => simp only [opD] at hd; split at hd <;> first | (rw [hc hd] at hp; cases hp) | cases hd
      case len s x => cases s <;> simp only [opD] at hd <;> (split at hd <;> first | (simp only [Option.some.injEq] at hd; subst hd; cases hp) | cases hd)
      case append z y ys =>
        simp only [opD] at hd
        (repeat' split at hd) <;> first | (simp only [Option.some.injEq] at hd; subst hd; simp only [Option.some.injEq] at hp; subst hp; simp [upNs]) | (simp only [Option.some.injEq] at hd; subst hd; cases hp) | cases hd
      all_goals (simp only [opD, storeD] at hd; (repeat' split at hd) <;> first | (simp only [Option.some.injEq] at hd; subst hd; cases hp) | cases hd)
  · simp only [Option.some.injEq, Prod.mk.injEq] at h; obtain ⟨rfl, _⟩ := h; cases hp
  · cases h
mutual
theorem AV.purge_whole (x : Nm) : ∀ v : AV, (v.purge x).whole = true → v.purge x = v
  | .undef, h => rfl
  | .ub, h => rfl
  | .yld _, h => rfl
  | .p _, h => rfl
  | .agg cs, h => by simp only [AV.purge, AV.whole] at h ⊢; rw [purgeL_whole x cs h]
  | .tup cs, h => by simp only [AV.purge, AV.whole] at h ⊢; rw [purgeL_whole x cs h]
  | .nils _, h => rfl
  | .hsl y o l, h => by simp only [AV.purge] at h ⊢; split <;> simp_all [AV.whole]
  | .ptr y o, h => by simp only [AV.purge] at h ⊢; split <;> simp_all [AV.whole]
  | .eptr y i o, h => by simp only [AV.purge] at h ⊢; split <;> simp_all [AV.whole]
  | .rptr _, h => rfl
  | .fn g a b, h => by simp only [AV.purge, AV.whole, Bool.and_eq_true] at h ⊢; rw [purgeL_whole x a h.1, purgeL_whole x b h.2]
theorem purgeL_whole (x : Nm) : ∀ cs : List AV, wholeL (purgeL x cs) = true → purgeL x cs = cs
  | [], h => rfl
  | v :: r, h => by simp only [purgeL, wholeL, Bool.and_eq_true] at h ⊢; rw [AV.purge_whole x v h.1, purgeL_whole x r h.2]
end
mutual
theorem AV.purge_off (x : Nm) : ∀ v : AV, x ∉ v.names → v.purge x = v
  | .undef, h => rfl
  | .ub, h => rfl
  | .yld _, h => rfl
  | .p _, h => rfl
  | .agg cs, h => by simp only [AV.purge]; rw [purgeL_off x cs h]
  | .tup cs, h => by simp only [AV.purge]; rw [purgeL_off x cs h]
  | .nils _, h => rfl
  | .hsl y o l, h => by simp only [AV.purge]; rw [if_neg]; rintro rfl; exact h (by simp [AV.names])
  | .ptr y o, h => by simp only [AV.purge]; rw [if_neg]; rintro rfl; exact h (by simp [AV.names])
  | .eptr y i o, h => by simp only [AV.purge]; rw [if_neg]; rintro rfl; exact h (by simp [AV.names])
  | .rptr _, h => rfl
  | .fn g a b, h => by
    simp only [AV.purge]
    rw [purgeL_off x a fun h' => h (by simp [AV.names, h']), purgeL_off x b fun h' => h (by simp [AV.names, h'])]
theorem purgeL_off (x : Nm) : ∀ cs : List AV, x ∉ namesL cs → purgeL x cs = cs
  | [], h => rfl
  | v :: r, h => by
    simp only [purgeL]
    rw [AV.purge_off x v fun h' => h (by simp [namesL, h']), purgeL_off x r fun h' => h (by simp [namesL, h'])]
end
theorem obj_whole (x : Nm) (o : Option AObj) (h : objWhole (o.map (AObj.purge x)) = true) : o.map (AObj.purge x) = o := by
  cases o with
  | none => rfl
  | some o => cases o with
    | box cs => simp only [Option.map_some, AObj.purge, objWhole] at h ⊢; rw [purgeL_whole x cs h]
    | parr => rfl
    | arr cs => simp only [Option.map_some, AObj.purge, objWhole] at h ⊢; rw [purgeL_whole x cs h]

structure Meet (r i j : Nat) (qa qb : Bool) (da db : Dl) (fa fb : Foot) : Prop where
  pa : da.pg = none
  pb : db.pg = none
  ab : ∀ x ∈ upNs da.up, x ∉ fb.ns ∧ x ∉ upNs db.up ∧ (qb = false → ∀ k, x ≠ .loc r j k)
  ba : ∀ x ∈ upNs db.up, x ∉ fa.ns ∧ (qa = false → ∀ k, x ≠ .loc r i k)

/-- The first moves slices; the second writes nothing, and meets nothing of them. -/
structure MeetP (r j : Nat) (da db : Dl) (fb : Foot) : Prop where
  pb : db.pg = none
  ub : upNs db.up = []
  ab : ∀ x ∈ upNs da.up, x ∉ fb.ns ∧ x ∉ db.v.names ∧ ∀ k, x ≠ .loc r j k
  vs : ∀ v ∈ fb.vs, v.whole = true
  os : ∀ o ∈ fb.os, objWhole o = true

theorem putD_none (dst : Option Nat) {d : Dl} (h : d.pg = none) (T : Tm) (H : Hp) : (putD dst d T H).H = d.up ++ H ∧ ∀ t, tget (putD dst d T H).T t = if dst = some t then d.v else tget T t := by
  rw [putD_eq]
  simp only [h, pgT, pgH]
  refine ⟨trivial, fun t => ?_⟩
  cases dst with
  | none => simp
  | some s => simp only [tget, Option.some.injEq]

theorem put_eqv {dst : Option Nat} {d : Dl} {a b : St} (h : Eqv a b) : Eqv (putD dst d a.T a.H) (putD dst d b.T b.H) := by
  have hH : ∀ x, hget (pgH d.pg a.H) x = hget (pgH d.pg b.H) x := fun x => by
    cases d.pg with
    | none => exact h.h x
    | some y => simp only [pgH, hget_purgeH, h.h x]
  have hT : ∀ t, tget (pgT d.pg a.T) t = tget (pgT d.pg b.T) t := fun t => by
    cases d.pg with
    | none => exact h.t t
    | some y => simp only [pgT, tget_purgeT, h.t t]
  rw [putD_eq, putD_eq]
  refine ⟨fun i => ?_, fun x => ?_⟩
  · cases dst with
    | none => exact hT i
    | some t => simp only [tget, hT]
  · simp only [hget_append, hH]

theorem swap {i j : Nat} {a b : SOper} {st : St} {da db : Dl} {fa fb : Foot} (hap : apartS a b = true) (hm : Meet r i j (pureS a.op) (pureS b.op) da db fa fb) (h1 : outX cf raw r i a st = some (da, fa))
    (h2 : outX cf raw r j b (putD a.dst da st.T st.H) = some (db, fb)) :
    outX cf raw r j b st = some (db, fb) ∧ outX cf raw r i a (putD b.dst db st.T st.H) = some (da, fa) ∧
      Eqv (putD b.dst db (putD a.dst da st.T st.H).T (putD a.dst da st.T st.H).H) (putD a.dst da (putD b.dst db st.T st.H).T (putD b.dst db st.T st.H).H) := by
  obtain ⟨s1, s2, s3⟩ := apartS_spec hap
  obtain ⟨a1, a2⟩ := putD_none a.dst hm.pa st.T st.H
  obtain ⟨b1, b2⟩ := putD_none b.dst hm.pb st.T st.H
  have hget_not : ∀ {u H : Hp} {x : Nm}, x ∉ upNs u → hget (u ++ H) x = hget H x := fun h => by rw [hget_append, if_neg h]
  refine ⟨outX_loc h2 (fun t ht => ?_) (fun x hx => ?_) (fun hq k hk => ?_), outX_loc h1 (fun t ht => ?_) (fun x hx => ?_) (fun hq k hk => ?_), ?_⟩
  · rw [a2, if_neg fun e => s1 t e ht]
  · rw [a1, hget_not fun h => (hm.ab x h).1 hx]
  · rw [a1, hget_not fun h => (hm.ab _ h).2.2 hq k rfl] at hk; exact hk
  · rw [b2, if_neg fun e => s3 t e ht]
  · rw [b1, hget_not fun h => (hm.ba x h).1 hx]
  · rw [b1, hget_not fun h => (hm.ba _ h).2 hq k rfl]; exact hk
  · obtain ⟨c1, c2⟩ := putD_none b.dst hm.pb (putD a.dst da st.T st.H).T (putD a.dst da st.T st.H).H
    obtain ⟨d1, d2⟩ := putD_none a.dst hm.pa (putD b.dst db st.T st.H).T (putD b.dst db st.T st.H).H
    refine ⟨fun t => ?_, fun x => ?_⟩
    · rw [c2, d2, a2, b2]
      by_cases hb : b.dst = some t
      · rw [if_pos hb, if_neg fun e => s2 t e hb, if_pos hb]
      · rw [if_neg hb, if_neg hb]
    · rw [c1, d1, a1, b1]
      simp only [hget_append]
      by_cases ha : x ∈ upNs da.up
      · rw [if_pos ha, if_neg (hm.ab x ha).2.1, if_pos ha]
      · simp only [ha, if_false]

theorem swapP {i j : Nat} {a b : SOper} {st : St} {da db : Dl} {fa fb : Foot} (hap : apartS a b = true) (hm : MeetP r j da db fb) (h1 : outX cf raw r i a st = some (da, fa))
    (h2 : outX cf raw r j b (putD a.dst da st.T st.H) = some (db, fb)) :
    outX cf raw r j b st = some (db, fb) ∧ outX cf raw r i a (putD b.dst db st.T st.H) = some (da, fa) ∧
      Eqv (putD b.dst db (putD a.dst da st.T st.H).T (putD a.dst da st.T st.H).H) (putD a.dst da (putD b.dst db st.T st.H).T (putD b.dst db st.T st.H).H) := by
  obtain ⟨s1, s2, s3⟩ := apartS_spec hap
  obtain ⟨b1, b2⟩ := putD_none b.dst hm.pb st.T st.H
  have hub : db.up = [] := by
    have := hm.ub
    cases hu : db.up with
    | nil => rfl
    | cons p q => rw [hu] at this; simp [upNs] at this
  have hget_not : ∀ {u H : Hp} {x : Nm}, x ∉ upNs u → hget (u ++ H) x = hget H x := fun h => by rw [hget_append, if_neg h]
  obtain ⟨hvs, hos⟩ := outX_foot h2
  -- behind the first one
  have aT : ∀ (T : Tm) (H : Hp) (t : Nat), tget (putD a.dst da T H).T t = if a.dst = some t then da.v else tget (pgT da.pg T) t := fun T H t => by
    rw [putD_eq]
    cases a.dst with
    | none => simp
    | some s => simp only [tget, Option.some.injEq]
  have aH : (putD a.dst da st.T st.H).H = da.up ++ pgH da.pg st.H := rfl
  have pT : ∀ t, t ∈ readsT b → tget (pgT da.pg st.T) t = tget st.T t := fun t ht => by
    have hne : ¬ a.dst = some t := fun e => s1 t e ht
    cases hp : da.pg with
    | none => rfl
    | some x =>
      simp only [pgT, tget_purgeT]
      refine AV.purge_whole x _ ?_
      have := hm.vs (tget (putD a.dst da st.T st.H).T t) (by rw [hvs]; exact List.mem_map_of_mem ht)
      rw [aT, if_neg hne, hp] at this
      simpa only [pgT, tget_purgeT] using this
  refine ⟨outX_loc h2 (fun t ht => ?_) (fun x hx => ?_) (fun hq k hk => ?_), outX_loc h1 (fun t ht => ?_) (fun x hx => ?_) (fun hq k hk => ?_), ?_⟩
  · rw [aT, if_neg fun e => s1 t e ht, pT t ht]
  · have hnx : x ∉ upNs da.up := fun h => (hm.ab x h).1 hx
    rw [aH, hget_not hnx]
    cases hp : da.pg with
    | none => rfl
    | some y =>
      simp only [pgH, hget_purgeH]
      refine (obj_whole y _ ?_).symm
      have := hm.os (hget (putD a.dst da st.T st.H).H x) (by rw [hos]; exact List.mem_map_of_mem hx)
      rw [aH, hget_not hnx, hp] at this
      simpa only [pgH, hget_purgeH] using this
  · rw [aH, hget_not fun h => (hm.ab _ h).2.2 k rfl] at hk
    cases hp : da.pg with
    | none => rw [hp] at hk; exact hk
    | some y =>
      rw [hp] at hk
      simp only [pgH, hget_purgeH, Option.map_eq_none_iff] at hk
      exact hk
  · rw [b2, if_neg fun e => s3 t e ht]
  · rw [b1, hub]; rfl
  · rw [b1, hub]; exact hk
  · obtain ⟨c1, c2⟩ := putD_none b.dst hm.pb (putD a.dst da st.T st.H).T (putD a.dst da st.T st.H).H
    refine ⟨fun t => ?_, fun x => ?_⟩
    · rw [c2, aT]
      rw [aT]
      by_cases hb : b.dst = some t
      · rw [if_pos hb, if_neg fun e => s2 t e hb]
        cases hp : da.pg with
        | none => simp only [pgT]; rw [b2, if_pos hb]
        | some y =>
          simp only [pgT, tget_purgeT]
          rw [b2, if_pos hb]
          exact (AV.purge_off y _ (hm.ab y (outX_pg h1 hp)).2.1).symm
      · rw [if_neg hb]
        split
        · rfl
        · cases hp : da.pg with
          | none => simp only [pgT]; rw [b2, if_neg hb]
          | some y => simp only [pgT, tget_purgeT]; rw [b2, if_neg hb]
    · rw [c1, hub, aH, putD_eq]
      show hget (da.up ++ pgH da.pg st.H) x = hget (da.up ++ pgH da.pg (putD b.dst db st.T st.H).H) x
      rw [b1, hub]; rfl

/-- The second writes nothing, and of what it meets the first leaves all as it was. -/
structure MeetC (r j : Nat) (da db : Dl) (fa fb : Foot) : Prop where
  pa : da.pg = none
  pb : db.pg = none
  ub : upNs db.up = []
  ab : ∀ x ∈ fb.ns, x ∈ upNs da.up → ∃ o, look fa.ns fa.os x = some o ∧ hget da.up x = some o
  off : ∀ x ∈ upNs da.up, ∀ k, x ≠ .loc r j k
theorem look_foot {H : Hp} {x : Nm} {o : AObj} : ∀ {ns : List Nm}, look ns (footO H ns) x = some o → hget H x = some o
  | [], h => by simp [look, footO] at h
  | y :: ns, h => by
    simp only [footO, List.map_cons, look] at h
    by_cases e : y = x
    · rw [if_pos e] at h; rw [← e]; exact h
    · rw [if_neg e] at h; exact look_foot h
theorem swapC {i j : Nat} {a b : SOper} {st : St} {da db : Dl} {fa fb : Foot} (hap : apartS a b = true) (hm : MeetC r j da db fa fb) (h1 : outX cf raw r i a st = some (da, fa))
    (h2 : outX cf raw r j b (putD a.dst da st.T st.H) = some (db, fb)) :
    outX cf raw r j b st = some (db, fb) ∧ outX cf raw r i a (putD b.dst db st.T st.H) = some (da, fa) ∧
      Eqv (putD b.dst db (putD a.dst da st.T st.H).T (putD a.dst da st.T st.H).H) (putD a.dst da (putD b.dst db st.T st.H).T (putD b.dst db st.T st.H).H) := by
  obtain ⟨s1, s2, s3⟩ := apartS_spec hap
  obtain ⟨a1, a2⟩ := putD_none a.dst hm.pa st.T st.H
  obtain ⟨b1, b2⟩ := putD_none b.dst hm.pb st.T st.H
  have hub : db.up = [] := by
    have := hm.ub
    cases hu : db.up with
    | nil => rfl
    | cons y ys => rw [hu] at this; simp [upNs] at this
  have hget_not : ∀ {u H : Hp} {x : Nm}, x ∉ upNs u → hget (u ++ H) x = hget H x := fun h => by rw [hget_append, if_neg h]
  obtain ⟨_, hfa⟩ := outX_foot h1
  refine ⟨outX_loc h2 (fun t ht => ?_) (fun x hx => ?_) (fun hq k hk => ?_), outX_loc h1 (fun t ht => ?_) (fun x hx => ?_) (fun hq k hk => ?_), ?_⟩
  · rw [a2, if_neg fun e => s1 t e ht]
  · rw [a1]
    by_cases hu : x ∈ upNs da.up
    · obtain ⟨o, g1, g2⟩ := hm.ab x hx hu
      rw [hfa] at g1
      rw [hget_append, if_pos hu, g2, look_foot g1]
    · rw [hget_not hu]
  · rw [a1, hget_not fun h => hm.off _ h k rfl] at hk; exact hk
  · rw [b2, if_neg fun e => s3 t e ht]
  · rw [b1, hub]; rfl
  · rw [b1, hub]; exact hk
  · obtain ⟨c1, c2⟩ := putD_none b.dst hm.pb (putD a.dst da st.T st.H).T (putD a.dst da st.T st.H).H
    obtain ⟨d1, d2⟩ := putD_none a.dst hm.pa (putD b.dst db st.T st.H).T (putD b.dst db st.T st.H).H
    refine ⟨fun t => ?_, fun x => ?_⟩
    · rw [c2, d2, a2, b2]
      by_cases hb : b.dst = some t
      · rw [if_pos hb, if_neg fun e => s2 t e hb, if_pos hb]
      · rw [if_neg hb, if_neg hb]
    · rw [c1, d1, a1, b1, hub]; rfl

/-! ### Runs -/
structure Rec where
  i : Nat
  d : Dl
  f : Foot
  q : Bool

inductive Run (cf : CF) (raw : FuncId → Bool) (r : Nat) : List (Nat × SOper) → St → List Rec → St → Prop
  | nil (st : St) : Run cf raw r [] st [] st
  | cons (i : Nat) (o : SOper) (rest : List (Nat × SOper)) (st : St) (d : Dl) (f : Foot) (log : List Rec) (fin : St) (h : outX cf raw r i o st = some (d, f))
      (h2 : Run cf raw r rest (putD o.dst d st.T st.H) log fin) : Run cf raw r ((i, o) :: rest) st (⟨i, d, f, pureS o.op⟩ :: log) fin

theorem Run.eqv {L : List (Nat × SOper)} {st st' fin : St} {log : List Rec} (h : Run cf raw r L st log fin) : Eqv st st' → ∃ fin', Run cf raw r L st' log fin' ∧ Eqv fin fin' := by
  induction h generalizing st' with
  | nil st => exact fun e => ⟨st', .nil st', e⟩
  | cons i o rest st d f log fin h h2 ih =>
    intro e
    obtain ⟨fin', g1, g2⟩ := ih (put_eqv (dst := o.dst) (d := d) e)
    exact ⟨fin', .cons i o rest st' d f log fin' (outX_loc h (fun t _ => (e.t t).symm) (fun x _ => (e.h x).symm) fun _ k hk => by rw [← e.h]; exact hk) g1, g2⟩

/-- Two of the operations may be done in either order. -/
def MeetR (r : Nat) (log : List Rec) (i j : Nat) : Prop := ∀ a ∈ log, ∀ b ∈ log, a.i = i → b.i = j → Meet r i j a.q b.q a.d b.d a.f b.f ∨ MeetP r j a.d b.d b.f ∨ MeetC r j a.d b.d a.f b.f

theorem Run.front {x : Nat} {ox : SOper} {post : List (Nat × SOper)} : ∀ {pre : List (Nat × SOper)} {st fin : St} {log : List Rec}, Run cf raw r (pre ++ (x, ox) :: post) st log fin →
    (∀ p ∈ pre, apartS p.2 ox = true ∧ MeetR r log p.1 x) → ∃ dx fx log' fin', outX cf raw r x ox st = some (dx, fx) ∧ Run cf raw r (pre ++ post) (putD ox.dst dx st.T st.H) log' fin' ∧ Eqv fin fin' ∧ (∀ q ∈ log', q ∈ log) ∧ (⟨x, dx, fx, pureS ox.op⟩ : Rec) ∈ log
  | [], st, fin, log, h, hp => by
    cases h with
    | cons _ _ _ _ d f log fin h h2 => exact ⟨d, f, log, fin, h, h2, Eqv.refl _, fun q hq => List.mem_cons_of_mem _ hq, List.mem_cons_self⟩
  | (i, o) :: pre, st, fin, log, h, hp => by
    cases h with
    | cons _ _ _ _ d f log fin h h2 =>
      obtain ⟨dx, fx, log', fin', g1, g2, g3, g4, g5⟩ := Run.front h2 fun p hpp => ⟨(hp p (List.mem_cons_of_mem _ hpp)).1, fun a ha b hb => (hp p (List.mem_cons_of_mem _ hpp)).2 a (List.mem_cons_of_mem _ ha) b (List.mem_cons_of_mem _ hb)⟩
      obtain ⟨hap, hm⟩ := hp (i, o) List.mem_cons_self
      obtain ⟨k1, k2, k3⟩ := (hm ⟨i, d, f, pureS o.op⟩ List.mem_cons_self ⟨x, dx, fx, pureS ox.op⟩ (List.mem_cons_of_mem _ g5) rfl rfl).elim (fun hm => swap hap hm h g1) fun hm => hm.elim (fun hm => swapP hap hm h g1) fun hm => swapC hap hm h g1
      obtain ⟨fin2, m1, m2⟩ := g2.eqv k3
      exact ⟨dx, fx, ⟨i, d, f, pureS o.op⟩ :: log', fin2, k1, .cons i o _ _ d f log' fin2 k2 m1, g3.trans m2, fun q hq => by
        rcases List.mem_cons.1 hq with rfl | hq
        · exact List.mem_cons_self
        · exact List.mem_cons_of_mem _ (g4 q hq), List.mem_cons_of_mem _ g5⟩
end
end Go.Ab

/-! What changes beside cells: records of loops, blocks of deferred calls. -/
namespace Go.Ab
open Go

/-- Nothing that is cells, and nothing below B, has changed. -/
structure Quiet (B : Nat) (w w' : World) : Prop where
  os : w'.os = w.os
  tape : w'.tape = w.tape
  output : w'.output = w.output
  size : w.heap.size ≤ w'.heap.size
  cells : ∀ (i : Nat) c e f, w.heap[i]? = some (Obj.cells c e f) → w'.heap[i]? = some (Obj.cells c e f)
  low : ∀ (i : Nat), i < B → i < w.heap.size → w'.heap[i]? = w.heap[i]?

theorem Quiet.refl (B : Nat) (w : World) : Quiet B w w := ⟨rfl, rfl, rfl, Nat.le_refl _, fun _ _ _ _ h => h, fun _ _ _ => rfl⟩
theorem Quiet.trans {B : Nat} {w w1 w2 : World} (h : Quiet B w w1) (g : Quiet B w1 w2) : Quiet B w w2 :=
  ⟨g.os.trans h.os, g.tape.trans h.tape, g.output.trans h.output, Nat.le_trans h.size g.size, fun i c e f hi => g.cells i c e f (h.cells i c e f hi),
    fun i hi hs => (g.low i hi (Nat.lt_of_lt_of_le hs h.size)).trans (h.low i hi hs)⟩
theorem Quiet.mono {B C : Nat} {w w' : World} (h : Quiet B w w') (hc : C ≤ B) : Quiet C w w' :=
  ⟨h.os, h.tape, h.output, h.size, h.cells, fun i hi => h.low i (Nat.lt_of_lt_of_le hi hc)⟩
theorem heap_alloc (w : World) (o : Obj) : (w.alloc o).heap = w.heap.push o := rfl
theorem Quiet.alloc (B : Nat) (w : World) (o : Obj) : Quiet B w (w.alloc o) := by
  refine ⟨rfl, rfl, rfl, by simp [heap_alloc], fun i c e f hi => ?_, fun i _ hi => ?_⟩
  · have hlt := (Array.getElem?_eq_some_iff.1 hi).1
    rw [heap_alloc, Array.getElem?_push_lt hlt, ← hi, Array.getElem?_eq_getElem hlt]
  · rw [heap_alloc, Array.getElem?_push_lt hi, Array.getElem?_eq_getElem hi]
theorem Quiet.putObj {B : Nat} {w : World} {l : Nat} {o : Obj} (o' : Obj) (hl : w.heap[l]? = some o) (ho : ∀ c e f, o ≠ Obj.cells c e f) (hB : B ≤ l) : Quiet B w (w.putObj l o') := by
  refine ⟨rfl, rfl, rfl, by simp [World.putObj], fun i c e f hi => ?_, fun i hi hs => ?_⟩
  · by_cases h : l = i
    · subst h; rw [hl] at hi; cases hi; exact absurd rfl (ho c e f)
    · rw [World.putObj_heap_other (by omega)]; exact hi
  · rw [World.putObj_heap_other (by omega)]

theorem Quiet.cell {B : Nat} {w w' : World} (q : Quiet B w w') {a : Addr} {v : Value} (h : w.cell? a = some v) : w'.cell? a = some v := by
  unfold World.cell? at h ⊢
  cases ho : w.heap[a.block]? with
  | none => simp [ho] at h
  | some o => cases o with
    | cells c e f => rw [q.cells _ _ _ _ ho]; rw [ho] at h; exact h
    | _ => simp [ho] at h

theorem PRep.quiet {B : Nat} {w w' : World} {W : Nat → Prop} (q : Quiet B w w') {c : PV} {v : Value} (h : PRep w W c v) : PRep w' W c v := by
  induction h with
  | int => exact .int ..
  | bool => exact .bool ..
  | str => exact .str ..
  | nilp => exact .nilp
  | nilf => exact .nilf
  | agg cs vs hl hf h ih => exact .agg cs vs hl hf ih
  | sl z es a n cap ad f hn hcap hz ha hc h ih =>
    exact .sl z es a n cap ad f hn hcap hz (fun he => ⟨(ha he).1, (ha he).2.1, Nat.lt_of_lt_of_le (ha he).2.2 q.size⟩) (fun i j e c h1 h2 => q.cell (hc i j e c h1 h2)) ih
theorem Rep.quiet {B : Nat} {idm : FuncId → FuncId} {m : NMap} {w w' : World} {W : Nat → Prop} (q : Quiet B w w') {c : AV} {v : Value} (h : Rep idm m w W c v) : Rep idm m w' W c v := by
  induction h with
  | undef v => exact .undef v
  | ub b => exact .ub b
  | yld l => exact .yld l
  | p c v h => exact .p c v (h.quiet q)
  | agg cs vs hl hf h1 h ih => exact .agg cs vs hl hf h1 ih
  | tup cs vs hl h ih => exact .tup cs vs hl ih
  | nils z a => exact .nils z a
  | hsl x off len a c h hc => exact .hsl x off len a c h hc
  | ptr x off b hb => exact .ptr x off b hb
  | eptr x i off b hb => exact .eptr x i off b hb
  | rptr cs ad f hW hlt hf hc h => exact .rptr cs ad f hW (Nat.lt_of_lt_of_le hlt q.size) hf (fun j c hj => q.cell (hc j c hj)) fun j c hj => (h j c hj).quiet q
  | fn f a b va vb ha hb h h' ih ih' => exact .fn f a b va vb ha hb ih ih'
theorem ORep.quiet {B : Nat} {idm : FuncId → FuncId} {m : NMap} {w w' : World} {W : Nat → Prop} (q : Quiet B w w') {l : Loc} {o : AObj} (h : ORep idm m w W l o) : ORep idm m w' W l o := by
  cases o with
  | box cs =>
    obtain ⟨b, c, e, h1, h2, h3, h4, h5, h6, h7⟩ := h
    exact ⟨b, c, e, h1, q.cells _ _ _ _ h2, h3, h4, h5, fun i a v ha hv => (h6 i a v ha hv).quiet q, h7⟩
  | parr es z fz =>
    obtain ⟨h0, h1, h2⟩ := h
    refine ⟨h0, h1, ?_⟩
    rcases h2 with h2 | ⟨b, c, e, h2, h3, h4, h5, h6, h7, h8, h9, h10⟩
    · exact .inl h2
    · exact .inr ⟨b, c, e, h2, q.cells _ _ _ _ h3, h4, h5, h6, h7, fun i j e a v he ha hv => (h8 i j e a v he ha hv).quiet q, h9, h10⟩
  | arr es =>
    obtain ⟨h0, b, c, e, h1, h2, h3, hc, h4, h5, h6, h7⟩ := h
    exact ⟨h0, b, c, e, h1, q.cells _ _ _ _ h2, h3, hc, h4, h5, fun i a v ha hv => (h6 i a v ha hv).quiet q, h7⟩
theorem SimH.quiet {B : Nat} {idm : FuncId → FuncId} {m : NMap} {w w' : World} {W : Nat → Prop} {H : Hp} (q : Quiet B w w') (s : SimH idm m w W H) : SimH idm m w' W H :=
  { h := fun x o hx => (s.h x o hx).quiet q, sep := s.sep, ch := s.ch, lt := fun b hb => Nat.lt_of_lt_of_le (s.lt b hb) q.size }
theorem Sim.quiet {B N : Nat} {idm : FuncId → FuncId} {m : NMap} {w w' : World} {W : Nat → Prop} {st : St} {a : Act} (q : Quiet B w w') (s : Sim idm N m w W st a) : Sim idm N m w' W st a :=
  { toSimH := s.toSimH.quiet q, sz := s.sz, t := fun i => (s.t i).quiet q, ct := s.ct }
theorem Tr.quiet {B : Nat} {O O' : Nat → Prop} {w0 w w' : World} {W0 W : Nat → Prop} (q : Quiet B w w') (hB : w0.heap.size ≤ B) (h : Tr O w0 W0 w W O') : Tr O w0 W0 w' W O' :=
  ⟨⟨q.os.trans h.os, q.tape.trans h.tape, q.output.trans h.output, Nat.le_trans h.size q.size, fun i hi hn => (q.low i (Nat.lt_of_lt_of_le hi hB) (Nat.lt_of_lt_of_le hi h.size)).trans (h.block i hi hn)⟩, h.sub, h.sup, h.own⟩
theorem Since.quiet {B : Nat} {m0 m : NMap} {w0 w w' : World} {W0 W : Nat → Prop} {H0 H : Hp} (q : Quiet B w w') (hB : w0.heap.size ≤ B) (h : Since m0 w0 W0 H0 m w W H) : Since m0 w0 W0 H0 m w' W H :=
  ⟨h.tr.quiet q hB, h.born, h.ext⟩

/-- What a frame may write is cells. -/
theorem SimH.own_cells {idm : FuncId → FuncId} {m : NMap} {w : World} {W : Nat → Prop} {H : Hp} (s : SimH idm m w W H) {x : Nm} {o : AObj} {b : Nat} (hx : hget H x = some o) (hb : (m x).base = some b) : ∃ c e f, w.heap[b]? = some (Obj.cells c e f) := by
  have := s.h x o hx
  cases o with
  | box cs => obtain ⟨b', c, e, g1, g2, _⟩ := this; rw [hb] at g1; cases g1; exact ⟨_, _, _, g2⟩
  | parr es z fz =>
    obtain ⟨g0, g1, g2⟩ := this
    rcases g2 with ⟨g2, _⟩ | ⟨b', c, e, g2, g3, _⟩
    · rw [hb] at g2; cases g2
    · rw [hb] at g2; cases g2; exact ⟨_, _, _, g3⟩
  | arr es => obtain ⟨g0, b', c, e, g1, g2, _⟩ := this; rw [hb] at g1; cases g1; exact ⟨_, _, _, g2⟩

/-! ### Marks among the deferred calls -/
def MarkOK (B : Nat) (w : World) (d : Deferred) : Prop := ∃ D : Nat, d = { target := .collected D, args := #[] } ∧ B ≤ D ∧ w.heap[D]? = some (Obj.deferred (some []))
structure Marks (B : Nat) (ds : List Deferred) (w : World) : Prop where
  all : ∀ d ∈ ds, MarkOK B w d
  nodup : ds.Nodup
theorem Marks.nil (B : Nat) (w : World) : Marks B [] w := ⟨(fun _ h => by cases h), List.nodup_nil⟩
theorem Marks.of_heap {B : Nat} {ds : List Deferred} {w w' : World} (h : Marks B ds w) (hk : ∀ (D : Nat), w.heap[D]? = some (Obj.deferred (some [])) → w'.heap[D]? = some (Obj.deferred (some []))) : Marks B ds w' :=
  ⟨fun d hd => by obtain ⟨D, h1, h2, h3⟩ := h.all d hd; exact ⟨D, h1, h2, hk D h3⟩, h.nodup⟩
theorem Marks.keep {B : Nat} {ds : List Deferred} {w w' : World} {O : Nat → Prop} (h : Marks B ds w) (k : Keep O w w') (hO : ∀ (i : Nat), O i → ∃ c e f, w.heap[i]? = some (Obj.cells c e f)) : Marks B ds w' :=
  h.of_heap fun D hD => by
    rw [k.block D (Array.getElem?_eq_some_iff.1 hD).1 fun ho => ?_]
    · exact hD
    · obtain ⟨c, e, f, hc⟩ := hO D ho
      rw [hD] at hc; cases hc

/-- The deferred calls' blocks are taken over, one after the other. -/
theorem leaves_marks {B : Nat} {P : Program} {fn : Func} {tmps : Array Value} {R : Ending → World → Prop} {n : Nat} : ∀ (ds : List Deferred) (w : World), Marks B ds w →
    (∀ w', Quiet B w w' → ∃ v, (results fn tmps).run P w' = .ok v w' ∧ R (.returned v) w') → LeavesInM Fence.wide n P fn tmps R ds .returning w
  | [], w, _, h => h w (Quiet.refl B w)
  | d :: ds, w, hm, h => by
    obtain ⟨D, rfl, hB, hD⟩ := hm.all d List.mem_cons_self
    refine ⟨by simp, .inl ⟨D, _, rfl, run_takeDeferred hD, ?_⟩⟩
    have q : Quiet B w (w.putObj D (.deferred none)) := Quiet.putObj _ hD (fun c e f h => by cases h) hB
    refine leaves_marks ds _ ⟨fun d' hd' => ?_, (List.nodup_cons.1 hm.nodup).2⟩ fun w' hw' => h w' (q.trans hw')
    obtain ⟨D', rfl, hB', hD'⟩ := hm.all d' (List.mem_cons_of_mem _ hd')
    refine ⟨D', rfl, hB', ?_⟩
    rw [World.putObj_heap_other (fun e => (List.nodup_cons.1 hm.nodup).1 (by subst e; exact hd'))]
    exact hD'

theorem calls_of_wpM {P : Program} {f : FuncId} {fn : Func} {c : Code} {args : Array Value} {w : World} {R : Ending → World → Prop}
    (hf : P.funcs[f]? = some fn) (hb : fn.body = some c)
    (h : c.wpIn Fence.wide 0 P (bodyPostM Fence.wide 0 P fn R) { tmps := args ++ Array.replicate (fn.ntmps - args.size) undef, defers := [] } w) : Calls P f args w R :=
  callsIn_wide.1 (callsIn_of_wp_marks hf hb trivial h)

/-! ### In a round's frame -/
abbrev rdF (rd : Option Nat) : Fence := { fn := fun _ => True, depth := none, alive := false, round := rd }
theorem wpOpsIn_of_wpOps {P : Program} {ops : Array Go.Oper} {Q : Exit → Act → World → Prop} {rd : Option Nat} {n : Nat} (hQ : ∀ a w, ¬ Q .outgrown a w) (hnd : ∀ (i : Nat) (o : Go.Oper), ops[i]? = some o → ∀ c, o.op ≠ .defer c) : ∀ (l : List Nat) (a : Act) (w : World),
    wpOps P ops Q l a w → wpOpsIn (rdF rd) n P ops Q l a w
  | [], a, w, h => h
  | i :: rest, a, w, h => by
    simp only [wpOps] at h
    simp only [wpOpsIn]
    cases ho : ops[i]? with
    | none => simp only [ho] at h; exact wpOpsIn_of_wpOps hQ hnd rest a w h
    | some o =>
      simp only [ho] at h
      by_cases hw : Region.wanted o (yielded ops a.tmps) = true
      · simp only [hw, if_true] at h ⊢
        rcases h with h | ⟨_, a0, w0, hq⟩
        · refine ⟨fun _ _ => trivial, ?_⟩
          rw [Oper.semAt_eq _ _ _ (hnd i o ho)]
          have ih := wpOpsIn_of_wpOps (P := P) (n := n) (rd := rd) hQ hnd rest
          unfold Oper.wp at h
          unfold Oper.upon at h
          unfold Oper.uponIn
          generalize (execOp a.eval o).run P w = res at h ⊢
          split at h
          · exact ih _ _ h
          · exact ih _ _ h
          · exact ih _ _ h
          · refine ⟨fun h => by simp at h, ?_⟩
            have := callsIn_wide (n := n - 1).2 h
            refine (show CallsIn (rdF rd) (n - 1) P _ _ _ _ from this).mono fun e w' he => ?_
            cases e with
            | returned v => exact ih _ _ he
            | panicked chain => exact he
            | outgrown => exact he
          · refine ⟨fun h => by simp at h, fun c cs _ => ?_⟩
            obtain ⟨v, w', hR, hs⟩ := h c cs
            exact ⟨v, w', ih _ _ hR, (StepsIn.of_steps hs).mono fun m _ => fenced_wide P m⟩
          · exact h
          · exact h.elim
        · exact absurd hq (hQ _ _)
      · simp only [hw, Bool.false_eq_true, if_false] at h ⊢
        exact ⟨fun _ _ => trivial, wpOpsIn_of_wpOps hQ hnd rest _ w h⟩
end Go.Ab

/-! Regions. -/
namespace Go.Ab
open Go

/-! ### What must agree -/
def guardL (ops : Array Go.Oper) (N : Nat) (g g' : Option (Nat × Bool)) : Bool :=
  match g, g' with
  | none, none => true
  | some (j, b), some (t, b') => b == b' && ((ops[j]?).bind (·.dst)) == some t && decide (t < N)
  | _, _ => false

def operL (P : Program) (idm : FuncId → FuncId) (N : Nat) (ops : Array Go.Oper) (o : Go.Oper) (s : SOper) : Bool :=
  o.dst == s.dst && (match o.dst with
    | some t => decide (t < N)
    | none => true) && guardL ops N o.guard s.guard && opL P idm o.op s.op

def opersL (P : Program) (idm : FuncId → FuncId) (N : Nat) (ops : Array Go.Oper) : List Go.Oper → List SOper → Bool
  | [], [] => true
  | o :: r, s :: q => operL P idm N ops o s && opersL P idm N ops r q
  | _, _ => false

theorem opersL_get {P : Program} {idm : FuncId → FuncId} {N : Nat} {ops : Array Go.Oper} : ∀ {l : List Go.Oper} {q : List SOper}, opersL P idm N ops l q = true → l.length = q.length ∧ ∀ (i : Nat) (o : Go.Oper) (s : SOper), l[i]? = some o → q[i]? = some s → operL P idm N ops o s = true
  | [], [], _ => ⟨rfl, fun i o s h => by simp at h⟩
  | o :: r, s :: q, h => by
    simp only [opersL, Bool.and_eq_true] at h
    obtain ⟨h1, h2⟩ := opersL_get h.2
    refine ⟨by simp [h1], fun i o' s' ho hs => ?_⟩
    cases i with
    | zero => simp at ho hs; subst ho; subst hs; exact h.1
    | succ i => simp at ho hs; exact h2 i o' s' ho hs
  | [], _ :: _, h => by simp [opersL] at h
  | _ :: _, [], h => by simp [opersL] at h

def bothM (e : Edge) : Bool :=
  match e.ground with
  | .textOnly _ => false
  | .gcOnly _ => false
  | _ => true
theorem bothM_binds {e : Edge} (h : bothM e = true) (md : Region.Mode) : Region.binds md e = true := by
  unfold bothM at h; unfold Region.binds; split at h <;> simp_all

inductive Bef (ops : Array Go.Oper) : Nat → Nat → Prop
  | one (j : Nat) (o : Go.Oper) (e : Edge) (h : ops[j]? = some o) (he : e ∈ o.after) (hb : bothM e = true) : Bef ops e.on j
  | two (i j : Nat) (o : Go.Oper) (e : Edge) (h : ops[j]? = some o) (he : e ∈ o.after) (hb : bothM e = true) (h2 : Bef ops i e.on) : Bef ops i j

def befOf (acc : List (List Nat)) (o : Go.Oper) : List Nat := o.after.toList.flatMap fun e => if bothM e then e.on :: acc.getD e.on [] else []
def befL : List Go.Oper → List (List Nat) → List (List Nat)
  | [], acc => acc
  | o :: r, acc => befL r (acc ++ [befOf acc o])

theorem befL_spec {ops : Array Go.Oper} : ∀ (l : List Go.Oper) (acc : List (List Nat)), (∀ k o, l[k]? = some o → ops[acc.length + k]? = some o) → (∀ j i, i ∈ acc.getD j [] → Bef ops i j) → ∀ j i, i ∈ (befL l acc).getD j [] → Bef ops i j
  | [], acc, _, h => h
  | o :: r, acc, hl, h => by
    refine befL_spec r (acc ++ [befOf acc o]) (fun k o' hk => ?_) fun j i hi => ?_
    · have := hl (k + 1) o' (by simpa using hk)
      simpa [Nat.add_assoc, Nat.add_comm 1 k] using this
    · by_cases hj : j < acc.length
      · have e : (acc ++ [befOf acc o]).getD j [] = acc.getD j [] := by simp [List.getD_eq_getElem?_getD, List.getElem?_append_left hj]
        rw [e] at hi
        exact h j i hi
      · by_cases hj2 : j = acc.length
        · subst hj2
          have e : (acc ++ [befOf acc o]).getD acc.length [] = befOf acc o := by simp [List.getD_eq_getElem?_getD]
          rw [e] at hi
          obtain ⟨ed, h1, h2⟩ := List.mem_flatMap.1 hi
          have ho : ops[acc.length]? = some o := by simpa using hl 0 o rfl
          split at h2
          · rename_i hb
            rcases List.mem_cons.1 h2 with rfl | h2
            · exact .one _ o ed ho (by simpa using h1) hb
            · exact .two _ _ o ed ho (by simpa using h1) hb (h _ _ h2)
          · cases h2
        · have e : (acc ++ [befOf acc o]).getD j [] = [] := by
            rw [List.getD_eq_getElem?_getD, List.getElem?_eq_none (by simp; omega)]; rfl
          rw [e] at hi; cases hi

def pairFree (pairs : List (Nat × Nat)) (a b : SOper) (i j : Nat) : Bool :=
  apartS a b && (pairs.contains (i, j) || (pureS a.op && noPgS b.op) || (pureS b.op && noPgS a.op))

/-- An order that holds all operations, each behind what it waits for. -/
def topo (md : Region.Mode) (ops : Array Go.Oper) : List Nat → List Nat → Bool
  | _, [] => true
  | seen, i :: r => (match ops[i]? with
    | some o => o.after.all fun e => !Region.binds md e || seen.contains e.on
    | none => false) && topo md ops (i :: seen) r
def topoOk (md : Region.Mode) (ops : Array Go.Oper) : Bool :=
  let l := Region.linearise md ops 0
  topo md ops [] l && (List.range ops.size).all fun j => l.contains j

theorem topo_ready {md : Region.Mode} {ops : Array Go.Oper} {listed : Array Bool} (hs : listed.size = ops.size) : ∀ (l seen : List Nat), topo md ops seen l = true → (∀ k ∈ seen, listed.getD k false = true) → (∃ j ∈ l, listed.getD j false = false) → Region.ready md ops listed ≠ []
  | [], seen, _, _, ⟨j, hj, _⟩ => by cases hj
  | i :: r, seen, ht, hseen, ⟨j, hj, hlj⟩ => by
    simp only [topo, Bool.and_eq_true] at ht
    cases hi : listed.getD i false with
    | true => exact topo_ready hs r (i :: seen) ht.2 (fun k hk => by rcases List.mem_cons.1 hk with rfl | hk <;> first | exact hi | exact hseen k hk) (by
        rcases List.mem_cons.1 hj with rfl | hj
        · rw [hi] at hlj; cases hlj
        · exact ⟨j, hj, hlj⟩)
    | false =>
      have h1 := ht.1
      split at h1
      · rename_i o ho
        have hlt := (Array.getElem?_eq_some_iff.1 ho).1
        have : i ∈ Region.ready md ops listed := mem_ready.2 ⟨by rw [← hi]; simp [Array.getD_eq_getD_getElem?, hs, hlt], o, ho, fun e he hb => by
          have := Array.all_eq_true_iff_forall_mem.1 h1 e he
          simp only [hb, Bool.not_true, Bool.false_or, List.contains_iff_mem] at this
          exact hseen _ this⟩
        intro hn
        rw [hn] at this; cases this
      · cases h1

def drawOk (ops : Array Go.Oper) (sops : List SOper) (pairs : List (Nat × Nat)) : Bool :=
  let b := befL ops.toList []
  ((List.range ops.size).all fun j => match ops[j]?, sops[j]? with
    | some o, some s => (List.range j).all fun i => (b.getD j []).contains i || match sops[i]? with
        | some s' => pairFree pairs s' s i j
        | none => false
    | _, _ => false) &&
  (((List.range ops.size).all fun j => match ops[j]? with
    | some o => o.after.all fun e => decide (e.on < j)
    | none => false) || (topoOk .text ops && topoOk .gc ops && topoOk .any ops))

theorem drawOk_spec {ops : Array Go.Oper} {sops : List SOper} {pairs : List (Nat × Nat)} (h : drawOk ops sops pairs = true) {j : Nat} {o : Go.Oper} {s : SOper} (ho : ops[j]? = some o) (hs : sops[j]? = some s) :
    ∀ i s', i < j → sops[i]? = some s' → Bef ops i j ∨ pairFree pairs s' s i j = true := by
  unfold drawOk at h
  rw [Bool.and_eq_true] at h
  have hj := (Array.getElem?_eq_some_iff.1 ho).1
  have h1 := List.all_eq_true.1 h.1 j (List.mem_range.2 hj)
  simp only [ho, hs] at h1
  intro i s' hi hs'
  have h2 := List.all_eq_true.1 h1 i (List.mem_range.2 hi)
  simp only [hs', Bool.or_eq_true] at h2
  rcases h2 with h2 | h2
  · exact .inl (befL_spec ops.toList [] (fun k o h => by simpa using h) (fun j i h => by simp at h) j i (by simpa using h2))
  · exact .inr h2

/-- Who is left finds somebody ready. -/
theorem drawOk_ready {ops : Array Go.Oper} {sops : List SOper} {pairs : List (Nat × Nat)} (h : drawOk ops sops pairs = true) (md : Region.Mode) {listed : Array Bool} (hs : listed.size = ops.size) (hj : ∃ j, j < ops.size ∧ listed.getD j false = false) :
    Region.ready md ops listed ≠ [] := by
  unfold drawOk at h
  simp only [Bool.and_eq_true, Bool.or_eq_true] at h
  obtain ⟨j, hjl, hj⟩ := hj
  have viaTopo : ∀ md, topoOk md ops = true → Region.ready md ops listed ≠ [] := by
    intro md ht
    simp only [topoOk, Bool.and_eq_true] at ht
    exact topo_ready hs _ [] ht.1 (fun k hk => by cases hk) ⟨j, by simpa using List.all_eq_true.1 ht.2 j (List.mem_range.2 hjl), hj⟩
  rcases h.2 with h2 | h2
  · refine topo_ready hs (List.range ops.size) [] ?_ (fun k hk => by cases hk) ⟨j, List.mem_range.2 hjl, hj⟩
    have gen : ∀ (n k : Nat) (seen : List Nat), k + n = ops.size → (∀ i, i < k → i ∈ seen) → topo md ops seen (List.range' k n) = true := by
      intro n
      induction n with
      | zero => exact fun _ _ _ _ => rfl
      | succ n ih =>
        intro k seen hk hseen
        rw [List.range'_succ]
        have hkl : k < ops.size := by omega
        have hok := Array.getElem?_eq_getElem hkl
        have h3 := List.all_eq_true.1 h2 k (List.mem_range.2 hkl)
        simp only [hok] at h3
        simp only [topo, hok, Bool.and_eq_true]
        refine ⟨Array.all_eq_true_iff_forall_mem.2 fun e he => ?_, ih (k + 1) (k :: seen) (by omega) fun i hi => ?_⟩
        · have := Array.all_eq_true_iff_forall_mem.1 h3 e he
          simp only [decide_eq_true_eq] at this
          simp [hseen _ this]
        · rcases Nat.lt_or_ge i k with h | h
          · exact List.mem_cons_of_mem _ (hseen i h)
          · have : i = k := by omega
            subst this; exact List.mem_cons_self
    rw [List.range_eq_range']
    exact gen ops.size 0 [] (by omega) fun i hi => by omega
  · cases md with
    | text => exact viaTopo _ h2.1.1
    | gc => exact viaTopo _ h2.1.2
    | any => exact viaTopo _ h2.2

/-! ### A frame -/
section
variable {P : Program} {idm : FuncId → FuncId} {N : Nat} {m0 : NMap} {w0 : World} {W0 : Nat → Prop} {H0 : Hp}

def FI (idm : FuncId → FuncId) (N : Nat) (m0 : NMap) (w0 : World) (W0 : Nat → Prop) (H0 : Hp) (st : St) (a : Act) (w : World) : Prop :=
  Marks w0.heap.size a.defers w ∧ ∃ m W, Sim idm N m w W st a ∧ Since m0 w0 W0 H0 m w W st.H

theorem FI.eqv {st st' : St} {a : Act} {w : World} (h : FI idm N m0 w0 W0 H0 st a w) (e : Eqv st st') : FI idm N m0 w0 W0 H0 st' a w := by
  obtain ⟨h0, m, W, s, si⟩ := h
  refine ⟨h0, m, W, { h := fun x o hx => s.h x o (by rw [e.h]; exact hx), sep := fun x y o o' b hx hy => s.sep x y o o' b (by rw [e.h]; exact hx) (by rw [e.h]; exact hy), ch := fun y o x hy hx => (e.h x) ▸ s.ch y o x (by rw [e.h]; exact hy) hx, lt := s.lt, sz := s.sz, t := fun i => (e.t i) ▸ s.t i, ct := fun i x hx => (e.h x) ▸ s.ct i x (by rw [e.t]; exact hx) }, ?_⟩
  exact si.less fun x o hx => by rw [e.h]; exact hx

theorem FI.drew {st : St} {a : Act} {w : World} (h : FI idm N m0 w0 W0 H0 st a w) : FI idm N m0 w0 W0 H0 st a { w with drawn := w.drawn + 1 } := by
  obtain ⟨h0, m, W, s, si⟩ := h
  have h0 : Marks w0.heap.size a.defers { w with drawn := w.drawn + 1 } := h0.of_heap fun _ h => h
  have k : Keep (fun _ => False) w { w with drawn := w.drawn + 1 } := ⟨rfl, rfl, rfl, Nat.le_refl _, fun _ _ _ => rfl⟩
  have hk : ∀ {x : Nm} {o : AObj}, hget st.H x = some o → ORep idm m { w with drawn := w.drawn + 1 } W (m x) o := fun hx => (s.h _ _ hx).keep k (fun _ h => h.elim) (fun _ _ h => h) (fun _ _ => rfl) fun b hb => ⟨fun h => h, fun h => h⟩
  refine ⟨h0, m, W, { h := fun x o hx => hk hx, sep := s.sep, ch := s.ch, lt := s.lt, sz := s.sz, t := fun i => (s.t i).keep k (fun _ h => h.elim) (fun _ _ h => h) fun _ _ => rfl, ct := s.ct }, ?_⟩
  exact ⟨⟨⟨si.tr.os, si.tr.tape, si.tr.output, si.tr.size, si.tr.block⟩, si.tr.sub, si.tr.sup, si.tr.own⟩, si.born, si.ext⟩

/-- One operation. -/
theorem wpOp_step {cf : CF} (cfok : CFOK P idm cf) {raw : FuncId → Bool} {r i : Nat} {ops : Array Go.Oper} {o : Go.Oper} {so : SOper} (ho : ops[i]? = some o) (hl : operL P idm N ops o so = true) {st : St} {a : Act} {w : World}
    (hfi : FI idm N m0 w0 W0 H0 st a w) {d : Dl} {f : Foot} (h : outX cf raw r i so st = some (d, f)) {K : Act → World → Prop} {Q : Exit → Act → World → Prop}
    (hK : ∀ a' w', FI idm N m0 w0 W0 H0 (putD so.dst d st.T st.H) a' w' → K a' w') : wpOp P ops Q i K a w := by
  obtain ⟨h0, m, W, s, si⟩ := hfi
  simp only [operL, Bool.and_eq_true, beq_iff_eq] at hl
  obtain ⟨⟨⟨l1, l2⟩, l3⟩, l4⟩ := hl
  have hdst : ∀ t, so.dst = some t → t < N := fun t ht => by rw [l1, ht] at l2; simpa using l2
  have hdef : ∀ v, (a.put o.dst v).defers = a.defers := fun v => by cases o.dst <;> simp [Act.put]
  have hwant : ∀ b, wantedG st.T so.guard = some b → Region.wanted o (yielded ops a.tmps) = b := by
    intro b hb
    unfold Region.wanted
    unfold guardL at l3
    split at l3
    · rename_i e1 e2
      rw [e2] at hb
      simp only [wantedG, Option.some.injEq] at hb
      rw [e1, ← hb]
    · rename_i j want t want' e1 e2
      simp only [Bool.and_eq_true, beq_iff_eq, decide_eq_true_eq] at l3
      obtain ⟨⟨rfl, h3⟩, h4⟩ := l3
      rw [e2] at hb
      rw [e1]
      simp only [wantedG] at hb
      have ht := s.t t
      have hlt : t < a.tmps.size := by rw [s.sz]; exact h4
      have hg : a.tmps[t]? = some (a.tmps.getD t undef) := by simp [hlt]
      simp only [yielded, h3, Option.bind_some, hg]
      split at hb
      · rename_i c hc
        rw [hc] at ht
        simp only [Option.some.injEq] at hb
        rw [ht.bool_inv]
        simpa using hb
      · rename_i hc
        simp only [Option.some.injEq] at hb
        subst hb
        rw [hc] at ht
        generalize a.tmps.getD t undef = u at ht
        cases ht with
        | tup _ vs hl hh =>
          have : vs = #[] := Array.eq_empty_of_size_eq_zero (by simpa using hl)
          subst this
          rfl
      · cases hb
    · cases l3
  unfold wpOp
  simp only [ho]
  unfold outX at h
  split at h
  · rename_i hw
    rw [hwant true hw]
    simp only [if_true]
    left
    cases hd : opD cf raw r i st.T st.H so.op with
    | none => simp [hd, obind_none] at h
    | some d' =>
      simp only [hd, obind_some, Option.some.injEq, Prod.mk.injEq] at h
      obtain ⟨rfl, _⟩ := h
      refine opD_ok s cfok r i l4 hd K Q fun v m' w' W' g1 g2 g3 => ?_
      obtain ⟨s', _⟩ := g1.step s so.dst hdst v g2 g3
      have hM : Marks w0.heap.size (a.put o.dst v).defers w' := by
        rw [hdef]
        exact h0.keep g1.k fun b ⟨x, o, _, h2, _, h4⟩ => s.toSimH.own_cells h2 h4
      refine hK _ _ ⟨hM, m', W', by rw [l1]; exact s', si.trans ?_⟩
      rw [putD_eq]
      exact g1.since s.toSimH
  · rename_i hw
    rw [hwant false hw]
    simp only [Option.some.injEq, Prod.mk.injEq] at h
    obtain ⟨rfl, _⟩ := h
    simp only [Bool.false_eq_true, if_false]
    have g1 : Good idm m w W st.H { v := .tup [] } m w W := Good.id s.lt _
    obtain ⟨s', _⟩ := g1.step s so.dst hdst undef (.tup [] #[] rfl fun i c v h => by simp at h) (by simp [AV.names, namesL])
    refine hK _ _ ⟨by rw [hdef]; exact h0, m, W, by rw [l1]; exact s', si.trans ?_⟩
    rw [putD_eq]
    exact g1.since s.toSimH
  · cases h

/-! ### Runs -/
def enumS : Nat → List SOper → List (Nat × SOper)
  | _, [] => []
  | i, o :: r => (i, o) :: enumS (i + 1) r

theorem mem_enumS : ∀ {l : List SOper} {k i : Nat} {s : SOper}, (i, s) ∈ enumS k l ↔ ∃ j, i = k + j ∧ l[j]? = some s
  | [], k, i, s => by simp [enumS]
  | o :: r, k, i, s => by
    simp only [enumS, List.mem_cons, Prod.mk.injEq]
    rw [mem_enumS]
    constructor
    · rintro (⟨rfl, rfl⟩ | ⟨j, rfl, h⟩)
      · exact ⟨0, rfl, rfl⟩
      · exact ⟨j + 1, by omega, by simpa using h⟩
    · rintro ⟨j, rfl, h⟩
      cases j with
      | zero => simp at h; exact .inl ⟨rfl, h.symm⟩
      | succ j => exact .inr ⟨j, by omega, by simpa using h⟩

theorem enumS_sorted : ∀ {l : List SOper} {k : Nat}, (enumS k l).Pairwise fun p q => p.1 < q.1
  | [], k => List.Pairwise.nil
  | o :: r, k => by
    simp only [enumS]
    refine List.pairwise_cons.2 ⟨fun p hp => ?_, enumS_sorted⟩
    obtain ⟨i, s⟩ := p
    obtain ⟨j, rfl, _⟩ := mem_enumS.1 hp
    show k < _
    omega

section
variable {cf : CF} {raw : FuncId → Bool} {r : Nat}

theorem operX_out {i : Nat} {o : SOper} {st st' : St} (h : operX cf raw r i o st = some st') : ∃ d f, outX cf raw r i o st = some (d, f) ∧ st' = putD o.dst d st.T st.H := by
  unfold operX at h
  unfold outX
  split at h
  · rename_i hw
    cases hd : opD cf raw r i st.T st.H o.op with
    | none => simp [hd, obind_none] at h
    | some d =>
      simp only [hd, obind_some, Option.some.injEq] at h
      exact ⟨d, ⟨fp raw st.T st.H o.op, footV st.T o, footO st.H (fp raw st.T st.H o.op)⟩, by simp only [hw, hd, obind_some], h.symm⟩
  · rename_i hw
    simp only [Option.some.injEq] at h
    exact ⟨{ v := .tup [] }, ⟨[], footV st.T o, []⟩, by simp only [hw], h.symm⟩
  · cases h

theorem opsX_run : ∀ {l : List SOper} {i : Nat} {st fin : St}, opsX cf raw r i l st = some fin → ∃ log, Run cf raw r (enumS i l) st log fin
  | [], i, st, fin, h => by simp only [opsX, Option.some.injEq] at h; subst h; exact ⟨[], .nil st⟩
  | o :: rest, i, st, fin, h => by
    simp only [opsX] at h
    cases ho : operX cf raw r i o st with
    | none => simp [ho, obind_none] at h
    | some st1 =>
      simp only [ho, obind_some] at h
      obtain ⟨d, f, h1, rfl⟩ := operX_out ho
      obtain ⟨log, h2⟩ := opsX_run h
      exact ⟨_, .cons i o _ st d f log fin h1 h2⟩

def entOf (q : Rec) : Ent := ⟨q.f, upNames q.d.up, q.d.pg.isNone, q.d.v, q.d.up⟩

theorem opsLX_run : ∀ {l : List SOper} {i : Nat} {st fin : St} {lg lg' : Log}, opsLX cf raw r i l st lg = some (fin, lg') → ∃ log, Run cf raw r (enumS i l) st log fin ∧ lg' = lg ++ log.map entOf
  | [], i, st, fin, lg, lg', h => by
    simp only [opsLX, Option.some.injEq, Prod.mk.injEq] at h
    obtain ⟨rfl, rfl⟩ := h
    exact ⟨[], .nil st, by simp⟩
  | o :: rest, i, st, fin, lg, lg', h => by
    simp only [opsLX] at h
    cases ho : outX cf raw r i o st with
    | none => simp [ho, obind_none] at h
    | some x =>
      obtain ⟨d, f⟩ := x
      simp only [ho, obind_some] at h
      obtain ⟨log, h2, h3⟩ := opsLX_run h
      exact ⟨⟨i, d, f, pureS o.op⟩ :: log, .cons i o _ st d f log fin ho h2, by rw [h3]; simp [entOf]⟩

theorem Run.pos : ∀ {l : List SOper} {k : Nat} {st fin : St} {log : List Rec}, Run cf raw r (enumS k l) st log fin → log.length = l.length ∧ ∀ (j : Nat) (q : Rec), log[j]? = some q → q.i = k + j
  | [], k, st, fin, log, h => by cases h; exact ⟨rfl, fun j q h => by simp at h⟩
  | o :: l, k, st, fin, log, h => by
    simp only [enumS] at h
    cases h with
    | cons _ _ _ _ d f log fin h h2 =>
      obtain ⟨h3, h4⟩ := Run.pos h2
      refine ⟨by simp [h3], fun j q hq => ?_⟩
      cases j with
      | zero => simp at hq; subst hq; rfl
      | succ j => simp at hq; have := h4 j q hq; omega

theorem Run.recs {L : List (Nat × SOper)} {st fin : St} {log : List Rec} (h : Run cf raw r L st log fin) : ∀ q ∈ log, ∃ o st', (q.i, o) ∈ L ∧ outX cf raw r q.i o st' = some (q.d, q.f) ∧ q.q = pureS o.op := by
  induction h with
  | nil st => exact fun q h => by cases h
  | cons i o rest st d f log fin h h2 ih =>
    intro q hq
    rcases List.mem_cons.1 hq with rfl | hq
    · exact ⟨o, st, List.mem_cons_self, h, rfl⟩
    · obtain ⟨o', st', h3, h4⟩ := ih q hq
      exact ⟨o', st', List.mem_cons_of_mem _ h3, h4⟩

theorem noPg_out {i : Nat} {o : SOper} {st : St} {d : Dl} {f : Foot} (hp : noPgS o.op = true) (h : outX cf raw r i o st = some (d, f)) : d.pg = none := by
  unfold outX at h
  split at h
  · cases hd : opD cf raw r i st.T st.H o.op with
    | none => simp [hd, obind_none] at h
    | some d' =>
      simp only [hd, obind_some, Option.some.injEq, Prod.mk.injEq] at h
      obtain ⟨rfl, _⟩ := h
      generalize o.op = op at hd hp
      cases op
      case append => simp [noPgS] at hp
      case call => simp only [opD] at hd; split at hd <;> first | exact callD_pg hd | cases hd
      case len s x => cases s <;> simp only [opD] at hd <;> (split at hd <;> first | (simp only [Option.some.injEq] at hd; subst hd; rfl) | cases hd)
      all_goals (simp only [opD, storeD] at hd; (repeat' split at hd) <;> first | (simp only [Option.some.injEq] at hd; subst hd; rfl) | cases hd)
  · simp only [Option.some.injEq, Prod.mk.injEq] at h; obtain ⟨rfl, _⟩ := h; rfl
  · cases h

theorem pure_out {i : Nat} {o : SOper} {st : St} {d : Dl} {f : Foot} (hp : pureS o.op = true) (h : outX cf raw r i o st = some (d, f)) : d.up = [] ∧ d.pg = none ∧ f.ns = [] := by
  have h0 := noPg_out (by revert hp; cases o.op <;> simp [pureS, noPgS]) h
  unfold outX at h
  split at h
  · cases hd : opD cf raw r i st.T st.H o.op with
    | none => simp [hd, obind_none] at h
    | some d' =>
      simp only [hd, obind_some, Option.some.injEq, Prod.mk.injEq] at h
      obtain ⟨rfl, rfl⟩ := h
      generalize o.op = op at hd hp
      refine ⟨?_, h0, by revert hp; cases op <;> simp [pureS, fp]⟩
      cases op
      case len s x => cases s <;> simp only [opD] at hd <;> (split at hd <;> first | (simp only [Option.some.injEq] at hd; subst hd; rfl) | cases hd)
      all_goals first
        | (simp [pureS] at hp; done)
        | (simp only [opD] at hd; (repeat' split at hd) <;> first | (simp only [Option.some.injEq] at hd; subst hd; rfl) | cases hd)
  · simp only [Option.some.injEq, Prod.mk.injEq] at h; obtain ⟨rfl, rfl⟩ := h; exact ⟨rfl, rfl, rfl⟩
  · cases h

theorem disj_spec {a b : List Nm} (h : disj a b = true) : ∀ x ∈ a, x ∉ b := fun x hx hb => by
  have := List.all_eq_true.1 h x hx
  simp [hb] at this
theorem offNm_spec {i : Nat} {x : Nm} (h : offNm r i x = true) : ∀ k, x ≠ .loc r i k := by
  rintro k rfl; simp [offNm] at h

theorem entOk_meet {i j : Nat} {a b : Rec} (h : entOk r i j (entOf a) (entOf b) = true) : Meet r i j a.q b.q a.d b.d a.f b.f := by
  simp only [entOk, entOf, Bool.and_eq_true, upNames_eq] at h
  obtain ⟨⟨⟨⟨⟨h1, h2⟩, h3⟩, h4⟩, h5⟩, h6⟩ := h
  refine ⟨Option.isNone_iff_eq_none.1 h1, Option.isNone_iff_eq_none.1 h2, fun x hx => ?_, fun x hx => ⟨disj_spec h4 x hx, fun _ => offNm_spec (List.all_eq_true.1 h6 x hx)⟩⟩
  have := disj_spec h3 x hx
  simp only [List.mem_append, not_or] at this
  exact ⟨this.1, this.2, fun _ => offNm_spec (List.all_eq_true.1 h5 x hx)⟩
theorem entPg_meet {j : Nat} {a b : Rec} (h : entPg r j (entOf a) (entOf b) = true) : MeetP r j a.d b.d b.f := by
  simp only [entPg, entOf, Bool.and_eq_true, upNames_eq] at h
  obtain ⟨⟨⟨⟨⟨⟨h1, h2⟩, h3⟩, h4⟩, h5⟩, h6⟩, h7⟩ := h
  refine ⟨Option.isNone_iff_eq_none.1 h1, List.isEmpty_iff.1 h2, fun x hx => ⟨disj_spec h3 x hx, disj_spec h4 x hx, offNm_spec (List.all_eq_true.1 h5 x hx)⟩, List.all_eq_true.1 h6, List.all_eq_true.1 h7⟩
theorem sameV_eq {a b : AV} (h : sameV a b = true) : a = b := by
  unfold sameV at h
  split at h <;> (repeat' split at h) <;> simp_all
theorem sameVL_eq : ∀ {a b : List AV}, sameVL a b = true → a = b
  | [], [], _ => rfl
  | [], _ :: _, h => by simp [sameVL] at h
  | _ :: _, [], h => by simp [sameVL] at h
  | a :: x, b :: y, h => by
    simp only [sameVL, Bool.and_eq_true] at h
    rw [sameV_eq h.1, sameVL_eq h.2]
theorem sameO_eq {a b : Option AObj} (h : sameO a b = true) : ∃ o, a = some o ∧ b = some o := by
  unfold sameO at h
  split at h
  · rw [sameVL_eq h]; exact ⟨_, rfl, rfl⟩
  · cases h
theorem entRd_meet {j : Nat} {a b : Rec} (h : entRd r j (entOf a) (entOf b) = true) : MeetC r j a.d b.d a.f b.f := by
  simp only [entRd, entOf, Bool.and_eq_true, upNames_eq] at h
  obtain ⟨⟨⟨⟨h1, h2⟩, h3⟩, h4⟩, h5⟩ := h
  refine ⟨Option.isNone_iff_eq_none.1 h1, Option.isNone_iff_eq_none.1 h2, List.isEmpty_iff.1 h3, fun x hx hu => ?_, fun x hx => offNm_spec (List.all_eq_true.1 h4 x hx)⟩
  have := List.all_eq_true.1 h5 x hx
  simp only [Bool.or_eq_true, Bool.not_eq_true'] at this
  rcases this with h | h
  · simp [hu] at h
  · exact sameO_eq h
end
end
end Go.Ab
