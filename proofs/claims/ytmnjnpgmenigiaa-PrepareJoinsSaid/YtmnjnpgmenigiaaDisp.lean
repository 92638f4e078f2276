/- A part of the proof: an executor over plain data, shown sound for the model, and what it computes of the functions. -/
import Derived.Test.YtmnjnpgmenigiaaCall2
set_option linter.all false
/-! All operations. -/
set_option linter.unusedVariables false
set_option linter.unusedSimpArgs false
set_option linter.unusedSectionVars false
namespace Go.Ab
open Go

section
variable {P : Program} {idm : FuncId → FuncId} {N : Nat} {m : NMap} {w : World} {W : Nat → Prop} {st : St} {a : Act} {o : Go.Oper} (s : Sim idm N m w W st a)
include s

set_option maxHeartbeats 4000000 in
theorem opD_ok {cf : CF} (cfok : CFOK P idm cf) {raw : FuncId → Bool} (r i : Nat) {so : SOp} (hl : opL P idm o.op so = true) {d : Dl} (hd : opD cf raw r i st.T st.H so = some d) : OpStep P idm m w W st.H o a d := by
  generalize ho : o.op = op at hl
  unfold opL at hl
  split at hl
  · simp only [opD, Option.some.injEq] at hd; subst hd
    exact (ok_mv s (.inl ho) hl).step
  · simp only [opD, Option.some.injEq] at hd; subst hd
    exact (ok_mv s (.inr ho) hl).step
  · simp only [opD, Option.ite_none_right_eq_some, Option.some.injEq] at hd
    obtain ⟨h1, rfl⟩ := hd
    exact (ok_nnew s r i ho h1).step
  · simp only [Bool.and_eq_true] at hl
    simp only [opD] at hd
    split at hd
    · rename_i b hb
      simp only [Option.some.injEq] at hd; subst hd
      exact (ok_pick s ho hl.1.1 hl.1.2 hl.2 hb).step
    · cases hd
  · split at hl
    · rename_i z hz
      simp only [opD, Option.ite_none_right_eq_some, Option.some.injEq] at hd
      obtain ⟨h1, rfl⟩ := hd
      exact (ok_alloc s r i ho hz hl h1).step
    · cases hl
  · simp only [opD, Option.ite_none_right_eq_some, Option.some.injEq] at hd
    obtain ⟨⟨h1, h2⟩, rfl⟩ := hd
    exact (ok_box s r i ho hl h1 h2).step
  · rename_i t ps zs qs
    rw [Bool.and_eq_true] at hl
    obtain ⟨hl1, hl2⟩ := hl
    split at hl1
    · rename_i z hz
      simp only [opD] at hd
      split at hd
      · rename_i hn
        split at hd
        · rename_i cs hf
          simp only [Option.some.injEq] at hd; subst hd
          refine (ok_build s r i ho hz hl1 ?_ hn hf).step
          split at hl2
          · rename_i fs hu
            simp only [Bool.and_eq_true, Array.all_eq_true', decide_eq_true_eq] at hl2
            exact .inl ⟨fs, hu, fun f hf => hl2.1 f hf, hl2.2⟩
          · rename_i n e hu
            simp only [Bool.and_eq_true] at hl2
            exact .inr ⟨n, e, hu, hl2.1, hl2.2⟩
          · cases hl2
        · cases hd
      · cases hd
    · cases hl1
  · rename_i t n ps own z qs
    simp only [Bool.and_eq_true] at hl
    obtain ⟨⟨hl1, hl2⟩, hl3⟩ := hl
    split at hl1
    · rename_i e hu
      simp only [Bool.and_eq_true, decide_eq_true_eq, beq_iff_eq] at hl1 hl2
      obtain ⟨⟨⟨q1, q2⟩, q3⟩, q4⟩ := hl1
      split at q1
      · rename_i v hz
        simp only [beq_iff_eq] at q1
        simp only [opD] at hd
        split at hd
        · rename_i es hes
          obtain ⟨g1, g2⟩ := ok_bslice s r i (own := own) ho hu hz q1 q2 q3 q4 hl2 hl3 hes
          split at hd
          · simp only [Option.ite_none_right_eq_some, Option.some.injEq] at hd
            obtain ⟨h1, rfl⟩ := hd
            exact (g2 h1).step
          · simp only [Option.some.injEq] at hd; subst hd
            exact g1.step
        · simp only [Option.ite_none_right_eq_some, Option.some.injEq] at hd
          obtain ⟨⟨rfl, h2, h3⟩, rfl⟩ := hd
          exact (ok_barr s r i (own := own) ho hu hz q1 q2 q4 hl2 hl3 h3 h2).step
      · cases q1
    · cases hl1
  · simp only [Bool.and_eq_true, beq_iff_eq] at hl
    simp only [opD] at hd
    split at hd
    · rename_i v hv
      simp only [Option.some.injEq] at hd; subst hd
      exact (ok_load s ho hl.1.1.1 hl.1.1.2 hl.2 hv).step
    · cases hd
  · simp only [Bool.and_eq_true, beq_iff_eq] at hl
    simp only [opD, storeD] at hd
    split at hd
    · rename_i x off hx
      split at hd
      · rename_i cs hcs
        simp only [Option.ite_none_right_eq_some, Option.some.injEq] at hd
        obtain ⟨⟨h1, h2, h3⟩, rfl⟩ := hd
        exact (ok_store_box s ho hl.1.1 hl.1.2 hl.2 hx hcs h1 h2 h3).step
      · cases hd
    · rename_i x ii off hx
      split at hd
      · rename_i es z vs hes hvs
        split at hd
        · rename_i el hel
          simp only [Option.ite_none_right_eq_some, Option.some.injEq] at hd
          obtain ⟨⟨h1, h2, h3, h4⟩, rfl⟩ := hd
          exact (ok_store_row s ho hl.1.1 hl.1.2 hl.2 hx hes hvs hel h1 h2 h3 h4).step
        · cases hd
      · cases hd
    · cases hd
  · simp only [opD, Option.ite_none_right_eq_some, Option.some.injEq] at hd
    obtain ⟨h1, rfl⟩ := hd
    exact (ok_nilck s ho hl h1).step
  · simp only [Bool.and_eq_true, beq_iff_eq] at hl
    obtain ⟨⟨⟨rfl, h2⟩, h3⟩, h4⟩ := hl
    simp only [opD] at hd
    split at hd
    · rename_i c1 c2 e1 e2
      split at hd
      · rename_i v hv
        simp only [Option.some.injEq] at hd; subst hd
        exact (ok_bin s ho h2 h3 h4 e1 e2 hv).step
      · cases hd
    · cases hd
  · simp only [Bool.and_eq_true] at hl
    obtain ⟨⟨⟨h1, h2⟩, h3⟩, h4⟩ := hl
    simp only [opD] at hd
    split at hd
    · rename_i c1 c2 e1 e2
      simp only [Option.some.injEq] at hd; subst hd
      refine (ok_bbin s ho ?_ ?_ h3 h4 e1 e2).step
      · split at h1
        · exact .inl ⟨rfl, by simpa using h1⟩
        · exact .inr ⟨rfl, h1⟩
        · cases h1
      · split at h2
        · assumption
        · cases h2
    · cases hd
  · simp only [Bool.and_eq_true, beq_iff_eq] at hl
    obtain ⟨⟨⟨h1, h2⟩, h3⟩, h4⟩ := hl
    subst h1
    split at h2
    · rename_i e hu
      split at h3
      · exact (ok_isnil s ho hu h4 hd).step
      · cases h3
    · cases h2
  · simp only [Bool.and_eq_true, beq_iff_eq, Bool.not_eq_true'] at hl
    obtain ⟨⟨⟨⟨⟨h1, h2⟩, h3⟩, h4⟩, h5⟩, h6⟩ := hl
    simp only [opD] at hd
    split at hd
    · rename_i c1 c2 e1 e2
      split at hd
      · rename_i b hb
        simp only [Option.some.injEq] at hd; subst hd
        refine (ok_eqs s ho ?_ h2 h3 ?_ h5 h6 e1 e2 hb).step
        · split at h1
          · exact .inl ⟨rfl, by simpa using h1⟩
          · exact .inr ⟨rfl, h1⟩
          · cases h1
        · split at h4
          · rename_i fs hu; exact ⟨fs, hu⟩
          · cases h4
      · cases hd
    · cases hd
  · simp only [Bool.and_eq_true, beq_iff_eq] at hl
    obtain ⟨rfl, h2⟩ := hl
    simp only [opD] at hd
    split at hd
    · rename_i c1 e1
      split at hd
      · rename_i v hv
        simp only [Option.some.injEq] at hd; subst hd
        exact (ok_un s ho h2 e1 hv).step
      · cases hd
    · cases hd
  · simp only [Bool.and_eq_true] at hl
    obtain ⟨h1, h2⟩ := hl
    simp only [opD] at hd
    split at hd
    · rename_i e1
      simp only [Option.some.injEq] at hd; subst hd
      split at h1
      · rename_i hs hdd
        have := eq_of_beq h1
        subst this
        exact (ok_conv s ho hs hdd h2 e1).step
      · cases h1
    · cases hd
  · simp only [Bool.and_eq_true, beq_iff_eq] at hl
    simp only [opD, Option.some.injEq] at hd; subst hd
    exact (ok_mkfn s ho hl.1.1 hl.1.2 hl.2).step
  · simp only [Bool.and_eq_true] at hl
    obtain ⟨⟨h1, h2⟩, h3⟩ := hl
    simp only [opD] at hd
    split at hd
    · rename_i n hn
      simp only [Option.ite_none_right_eq_some, Option.some.injEq] at hd
      obtain ⟨h4, rfl⟩ := hd
      split at h1
      · rename_i e hu
        split at h1
        · rename_i ti hti
          simp only [Bool.and_eq_true, decide_eq_true_eq] at h1
          obtain ⟨h5, h6⟩ := h1
          split at h6
          · rename_i v hv
            simp only [Bool.and_eq_true, beq_iff_eq] at h6
            exact (ok_mkslice s r i ho hu hti h5 hv h6.1 h6.2 h2 h3 hn h4).step
          · cases h6
        · cases h1
      · cases h1
    · cases hd
  · simp only [Bool.and_eq_true, Bool.or_eq_true] at hl
    obtain ⟨⟨⟨⟨⟨h1, h2⟩, h3⟩, h4⟩, h5⟩, h6⟩ := hl
    split at h1
    · rename_i e hu
      simp only [opD] at hd
      split at hd
      · cases hd
      · rename_i hns
        split at hd
        · rename_i v hv
          simp only [Option.some.injEq] at hd; subst hd
          refine (ok_slice s ho ?_ h2 h3 h4 h5 ?_ ?_ hv).step
          · rw [hu]; exact h1
          · intro hm
            rcases h6 with h6 | h6
            · exact absurd (Option.isNone_iff_eq_none.1 h6) hm
            · intro e; rw [e] at h6; cases h6
          · split
            · rename_i str hs; exact absurd hs (hns str)
            · exact ⟨e, hu⟩
        · cases hd
    · cases h1
  · simp only [Bool.and_eq_true] at hl
    obtain ⟨⟨⟨h1, h2⟩, h3⟩, h4⟩ := hl
    split at h1
    · rename_i hu
      simp only [opD] at hd
      split at hd
      · rename_i str hs
        split at hd
        · rename_i v hv
          simp only [Option.some.injEq] at hd; subst hd
          refine (ok_slice s (z := 0) (mx' := none) ho ?_ h2 h3 h4 rfl (by simp) ?_ (by rw [hs]; exact hv)).step
          · rw [hu]
          · rw [hs]; exact hu
        · cases hd
      · cases hd
    · cases h1
  · rename_i t x f off y
    simp only [Bool.and_eq_true] at hl
    obtain ⟨h1, h2⟩ := hl
    split at h1
    · rename_i fs hu
      split at h1
      · rename_i g hg
        simp only [Bool.and_eq_true, beq_iff_eq] at h1
        obtain ⟨h3, h4⟩ := h1
        split at h4
        · rename_i n hn
          simp only [bne_iff_ne, ne_eq] at h4
          simp only [opD] at hd
          obtain ⟨v, hv, rfl⟩ : ∃ v, (match ev st.T y with
              | .ptr x o => some (AV.ptr x (o + off))
              | .eptr x i o => some (.eptr x i (o + off))
              | .rptr cs => some (.rptr (cs.drop off))
              | _ => none) = some v ∧ d = { v } := by
            generalize ev st.T y = u at hd
            cases u <;> simp only [Option.some.injEq, reduceCtorEq] at hd <;> subst hd <;> exact ⟨_, rfl, rfl⟩
          exact (ok_faddr s ho hu hg h3 hn h4 h2 hv).step
        · cases h4
      · cases h1
    · cases h1
  · simp only [Bool.and_eq_true] at hl
    obtain ⟨h1, h2⟩ := hl
    split at h1
    · rename_i fs hu
      split at h1
      · rename_i g hg
        simp only [Bool.and_eq_true, beq_iff_eq] at h1
        simp only [opD] at hd
        split at hd
        · rename_i v hv
          simp only [Option.some.injEq] at hd; subst hd
          exact (ok_fld s ho hu hg h1.1.1 h1.2 h1.1.2 h2 hv).step
        · cases hd
      · cases h1
    · cases h1
  · simp only [Bool.and_eq_true] at hl
    obtain ⟨⟨h1, h2⟩, h3⟩ := hl
    split at h1
    · rename_i e hu
      simp only [opD] at hd
      split at hd
      · rename_i k n hn
        split at hd
        · rename_i h0
          split at hd
          · rename_i v hv
            simp only [Option.some.injEq] at hd; subst hd
            exact (ok_iaddr s ho hu (eq_of_beq h1) h2 h3 hn h0 hv).step
          · cases hd
        · cases hd
      · cases hd
    · cases h1
  · simp only [Bool.and_eq_true] at hl
    obtain ⟨⟨h1, h2⟩, h3⟩ := hl
    split at h1
    · rename_i hu
      simp only [opD] at hd
      split at hd
      · rename_i str k n hs hn
        split at hd
        · rename_i h0
          split at hd
          · rename_i v hv
            simp only [Option.some.injEq] at hd; subst hd
            exact (ok_sidx s ho hu h2 h3 hs hn h0 hv).step
          · cases hd
        · cases hd
      · cases hd
    · cases h1
  · simp only [Bool.and_eq_true] at hl
    obtain ⟨⟨h1, h2⟩, h3⟩ := hl
    split at h1
    · rename_i n' e hu
      simp only [Bool.and_eq_true, beq_iff_eq] at h1
      obtain ⟨⟨rfl, h5⟩, h6⟩ := h1
      simp only [opD] at hd
      split at hd
      · rename_i k n hn
        split at hd
        · rename_i h0
          split at hd
          · rename_i v hv
            simp only [Option.some.injEq] at hd; subst hd
            exact (ok_aidx s ho hu h6 h5 h2 h3 hn h0.1 h0.2 hv).step
          · cases hd
        · cases hd
      · cases hd
    · cases h1
  · simp only [Bool.and_eq_true, beq_iff_eq] at hl
    obtain ⟨rfl, h2⟩ := hl
    simp only [opD] at hd
    split at hd
    · rename_i vs hs
      split at hd
      · rename_i v hv
        simp only [Option.some.injEq] at hd; subst hd
        exact (ok_ext s ho h2 hs hv).step
      · cases hd
    · cases hd
  · simp only [Bool.and_eq_true] at hl
    simp only [opD] at hd
    split at hd
    · rename_i f fa fb hf
      exact ok_call s cfok r i ho hl.1 hl.2 hf hd
    · cases hd
  · split at hl
    · rename_i x t hargs htys
      simp only [Bool.and_eq_true] at hl
      obtain ⟨h1, h2⟩ := hl
      split at h2
      · rename_i hu
        subst h2
        simp only [opD] at hd
        split at hd
        · rename_i str hs
          simp only [Option.some.injEq] at hd; subst hd
          exact (ok_len s hargs htys ho (.inl hu) h1 (n := str.size) (by rw [hs]) (by rw [hs]; exact hu)).step
        · cases hd
      · rename_i e hu
        simp only [Bool.not_eq_true'] at h2
        subst h2
        simp only [opD] at hd
        split at hd
        · rename_i z es hs
          simp only [Option.some.injEq] at hd; subst hd
          exact (ok_len s hargs htys ho (.inr ⟨e, hu⟩) h1 (n := es.length) (by rw [hs]) (by rw [hs]; exact ⟨e, hu⟩)).step
        · rename_i z hs
          simp only [Option.some.injEq] at hd; subst hd
          exact (ok_len s hargs htys ho (.inr ⟨e, hu⟩) h1 (n := 0) (by rw [hs]) (by rw [hs]; exact ⟨e, hu⟩)).step
        · rename_i x off n hs
          simp only [Option.some.injEq] at hd; subst hd
          exact (ok_len s hargs htys ho (.inr ⟨e, hu⟩) h1 (n := n) (by rw [hs]) (by rw [hs]; exact ⟨e, hu⟩)).step
        · cases hd
      · cases h2
    · cases hl
  · split at hl
    · rename_i x y t u hargs htys
      simp only [Bool.and_eq_true] at hl
      obtain ⟨⟨h1, h2⟩, h3⟩ := hl
      split at h3
      · rename_i e e' hu hu'
        split at h3
        · rename_i ti hti
          simp only [Bool.and_eq_true, beq_iff_eq, decide_eq_true_eq] at h3
          obtain ⟨⟨⟨q1, q2⟩, q3⟩, q4⟩ := h3
          split at q4
          · rename_i zv hzv
            simp only [Bool.and_eq_true, beq_iff_eq, Array.all_eq_true'] at q4
            simp only [opD] at hd
            split at hd
            · rename_i z' ys hel
              simp only [Option.ite_none_right_eq_some] at hd
              obtain ⟨rfl, hd⟩ := hd
              split at hd
              · rename_i z2 hx
                simp only [Option.ite_none_right_eq_some, Option.some.injEq] at hd
                obtain ⟨⟨g1, g2⟩, rfl⟩ := hd
                exact (ok_append_nils s r i hargs htys ho h1 h2 hu hu' hti hzv q1 q2 q3 q4.1 q4.2 hel hx g1 g2).step
              · rename_i n off len hx
                split at hd
                · rename_i es z2 hes
                  simp only [Option.ite_none_right_eq_some, Option.some.injEq] at hd
                  obtain ⟨⟨rfl, rfl, rfl, g1, g2, g3⟩, rfl⟩ := hd
                  exact (ok_append_hsl s hargs htys ho h1 h2 hu hu' hti hzv q1 q2 q3 q4.1 q4.2 hel hx hes g2 g1).step
                · cases hd
              · cases hd
            · cases hd
          · cases q4
        · cases h3
      · cases h3
    · cases hl
  · split at hl
    · rename_i x y hargs
      simp only [Bool.and_eq_true] at hl
      simp only [opD] at hd
      split at hd
      · rename_i e1 e2
        simp only [Option.ite_none_right_eq_some, Option.some.injEq] at hd
        obtain ⟨rfl, rfl⟩ := hd
        exact (ok_mx s hargs ho hl.1 hl.2 e1 e2).step
      · cases hd
    · cases hl
  · split at hl
    · rename_i x y hargs
      simp only [Bool.and_eq_true] at hl
      simp only [opD] at hd
      split at hd
      · rename_i e1 e2
        simp only [Option.ite_none_right_eq_some, Option.some.injEq] at hd
        obtain ⟨rfl, rfl⟩ := hd
        exact (ok_mn s hargs ho hl.1 hl.2 e1 e2).step
      · cases hd
    · cases hl
  · cases hl
end
end Go.Ab
