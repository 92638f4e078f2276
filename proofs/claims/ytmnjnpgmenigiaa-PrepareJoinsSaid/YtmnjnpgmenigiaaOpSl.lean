/- A part of the proof: an executor over plain data, shown sound for the model, and what it computes of the functions. -/
import Derived.Test.YtmnjnpgmenigiaaOpMem2
set_option linter.all false
/-! Slice expressions. -/
set_option linter.unusedVariables false
set_option linter.unusedSimpArgs false
set_option linter.unusedSectionVars false
namespace Go.Ab
open Go

section
variable {P : Program} {idm : FuncId → FuncId} {N : Nat} {m : NMap} {w : World} {W : Nat → Prop} {st : St} {a : Act} {o : Oper} (s : Sim idm N m w W st a)
include s

theorem natOr_le {v : Option AV} {d n k : Nat} (h : natOr v d n = some k) : k ≤ max d n := by
  cases v with
  | none => simp [natOr] at h; omega
  | some v => obtain ⟨_, i, _, h0, h1, h2⟩ := natOf_some (by simpa [natOr] using h); omega
theorem natOr_le' {v : Option AV} {d n k : Nat} (h : natOr v d n = some k) (hd : d ≤ n) : k ≤ n := by have := natOr_le s h; omega

theorem run_slice_of {t e : TypeId} {x : Operand} {lo hi mx : Option Operand} (ho : o.op = .slice t x lo hi mx) {size : Nat} (hu : P.underlying t = some (.slice e)) (hS : sizeT P e = some size) {aa : Option Addr} {len cap l h mm : Nat} (he : a.eval x = .slice aa len cap)
    (hb : (Instr.sliceBounds true len cap (lo.map a.eval) (hi.map a.eval) (mx.map a.eval)).run P w = .ok (l, h, mm) w) :
    (execOp a.eval o).run P w = .ok (.value (.slice (if mm = l then aa else aa.map (·.add (l * size))) (h - l) (mm - l))) w := by
  simp [execOp, ho, he, Instr.sliceAt, Instr.slice, run_underlying hu, hb, run_sizeT hS]

theorem ok_slice {t : TypeId} {x : Operand} {lo hi mx : Option Operand} {z : Nat} {y : Opd} {lo' hi' mx' : Option Opd} (ho : o.op = .slice t x lo hi mx)
    (ht : (match P.underlying t with | some .string => true | some (.slice e) => sizeT P e == some z | _ => false) = true)
    (h : opdL idm x y = true) (hlo : oopdL idm lo lo' = true) (hhi : oopdL idm hi hi' = true) (hmx : oopdL idm mx mx' = true) (hm : mx' ≠ none → hi' ≠ none)
    (hk : (match ev st.T y with | .p (.str _) => P.underlying t = some .string | _ => ∃ e, P.underlying t = some (.slice e))) {v : AV}
    (hv : sliceA st.H z (ev st.T y) (lo'.map (ev st.T)) (hi'.map (ev st.T)) (mx'.map (ev st.T)) = some v) : OpOK P idm m w W st.H o a { v } := by
  obtain ⟨h1, h2⟩ := opdL_rep h s
  generalize hy : ev st.T y = u at *
  generalize he : a.eval x = ux at *
  have hnone : mx' = none → mx = none := by
    rintro rfl
    cases mx with
    | none => rfl
    | some x => simp [oopdL] at hmx
  cases h1 with
  | p c ux' hc =>
    cases hc with
    | str b =>
      simp only [sliceA] at hv
      cases hmx' : mx' with
      | some q => subst hmx'; simp at hv
      | none =>
        subst hmx'
        have := hnone rfl
        subst this
        simp only [Option.map_none] at hv
        cases hh : natOr (hi'.map (ev st.T)) b.size b.size with
        | none => simp [hh] at hv
        | some hhv =>
          simp only [hh] at hv
          cases hl : natOr (lo'.map (ev st.T)) 0 hhv with
          | none => simp [hl] at hv
          | some lv =>
            simp only [hl, Option.some.injEq] at hv
            subst hv
            have hb := run_bounds (P := P) s hlo hhi hmx false (len := b.size) (cap := b.size) (n := b.size) (Nat.le_refl _) (by simp [natOr]) hh hl hm
            simp only [Option.map_none, if_true] at hb
            exact OpOK.pure s (v := .string (b.extract lv hhv)) (by simp [execOp, ho, he, Instr.sliceAt, Instr.slice, run_underlying hk, hb]) (.p _ _ (.str _)) (by simp [AV.names])
    | sl z' es aa nn cap ad f hn hcap hz ha hcc hp =>
      obtain ⟨e, hu⟩ := hk
      rw [hu] at ht
      have hS := eq_of_beq ht
      simp only [sliceA] at hv
      split at hv
      · rename_i hzz
        subst hzz
        cases hm1 : natOr (mx'.map (ev st.T)) es.length es.length with
        | none => simp [hm1] at hv
        | some mv =>
          simp only [hm1] at hv
          cases hh : natOr (hi'.map (ev st.T)) es.length mv with
          | none => simp [hh] at hv
          | some hhv =>
            simp only [hh] at hv
            cases hl : natOr (lo'.map (ev st.T)) 0 hhv with
            | none => simp [hl] at hv
            | some lv =>
              simp only [hl] at hv
              have hmv : mv ≤ es.length := natOr_le' s hm1 (Nat.le_refl _)
              have hb := run_bounds (P := P) s hlo hhi hmx true (len := nn) (cap := cap) (n := es.length) (by omega) hm1 (by rw [← hn]; exact hh) hl hm
              have hrun := run_slice_of (P := P) s ho hu hS he hb
              have hll : lv ≤ hhv := natOr_le' s hl (Nat.zero_le _)
              have hhl : hhv ≤ es.length := by
                have := natOr_le s hh
                omega
              split at hv
              · rename_i hc
                simp only [Option.some.injEq] at hv
                subst hv
                simp only [Bool.and_eq_true, decide_eq_true_eq] at hc
                obtain ⟨hc1, rfl⟩ := hc
                have hmn : mx' ≠ none := by rintro rfl; simp at hc1
                simp only [hmn, if_false] at hrun
                have hhm : hhv ≤ lv := by
                  cases hq : hi' with
                  | none => exact absurd hq (hm hmn)
                  | some q =>
                    subst hq
                    obtain ⟨_, i, _, i0, i1, i2⟩ := natOf_some (by simpa [natOr] using hh)
                    omega
                have : hhv - lv = 0 := by omega
                rw [this, Nat.sub_self] at hrun
                exact OpOK.pure s hrun (.nils _ _) (by simp [AV.names])
              · simp only [Option.some.injEq] at hv
                subst hv
                refine OpOK.pure s hrun (.p _ _ (.sl _ _ _ _ _ (ad.add (lv * z')) (fun i j => f (lv + i) j) ?_ ?_ ?_ ?_ ?_ ?_)) (by simp [AV.names])
                · simp; omega
                · by_cases hq : mx' = none
                  · simp [hq]; omega
                  · simp only [hq, if_false]
                    have : hhv ≤ mv := by
                      cases hq2 : hi' with
                      | none => exact absurd hq2 (hm hq)
                      | some q =>
                        subst hq2
                        obtain ⟨_, i, _, i0, i1, i2⟩ := natOf_some (by simpa [natOr] using hh)
                        omega
                    omega
                · exact fun e he => hz e (mem_slice s he)
                · intro hne
                  have hlt : lv < hhv := by
                    rcases Nat.lt_or_ge lv hhv with h | h
                    · exact h
                    · exact absurd (by simp; omega) hne
                  have hes : es ≠ [] := by rintro rfl; simp at hhl; omega
                  obtain ⟨g1, g2, g3⟩ := ha hes
                  have hml : (if mx' = none then cap else mv) ≠ lv := by
                    by_cases hq : mx' = none
                    · simp only [hq, if_true]; omega
                    · simp only [hq, if_false]
                      have : hhv ≤ mv := by
                        cases hq2 : hi' with
                        | none => exact absurd hq2 (hm hq)
                        | some q =>
                          subst hq2
                          obtain ⟨_, i, _, i0, i1, i2⟩ := natOf_some (by simpa [natOr] using hh)
                          omega
                      omega
                  rw [if_neg hml, g1]
                  exact ⟨rfl, by rw [add_block]; exact g2, by rw [add_block]; exact g3⟩
                · intro i j e c hi hj
                  rw [List.getElem?_take] at hi
                  split at hi
                  · rw [List.getElem?_drop] at hi
                    have := hcc _ j e c hi hj
                    rwa [add_add, ← Nat.add_assoc, ← Nat.add_mul]
                  · cases hi
                · intro i j e c hi hj
                  rw [List.getElem?_take] at hi
                  split at hi
                  · rw [List.getElem?_drop] at hi
                    exact hp _ j e c hi hj
                  · cases hi
      · cases hv
    | _ => simp [sliceA] at hv
  | nils z' aa =>
    obtain ⟨e, hu⟩ := hk
    rw [hu] at ht
    have hS := eq_of_beq ht
    simp only [sliceA] at hv
    cases hm1 : natOr (mx'.map (ev st.T)) 0 0 with
    | none => simp [hm1] at hv
    | some mv =>
      cases hh : natOr (hi'.map (ev st.T)) 0 0 with
      | none => simp [hm1, hh] at hv
      | some hhv =>
        cases hl : natOr (lo'.map (ev st.T)) 0 0 with
        | none => simp [hm1, hh, hl] at hv
        | some lv =>
          simp only [hm1, hh, hl, Option.some.injEq] at hv
          subst hv
          have e1 : mv = 0 := by have := natOr_le s hm1; omega
          have e2 : hhv = 0 := by have := natOr_le s hh; omega
          have e3 : lv = 0 := by have := natOr_le s hl; omega
          subst e1; subst e2; subst e3
          have hb := run_bounds (P := P) s hlo hhi hmx true (len := 0) (cap := 0) (n := 0) (Nat.le_refl _) hm1 hh hl hm
          have hrun := run_slice_of (P := P) s ho hu hS he hb
          have : (if mx' = none then 0 else 0) = 0 := by split <;> rfl
          rw [this] at hrun
          simp only [if_true, Nat.sub_self] at hrun
          exact OpOK.pure s hrun (.nils _ _) (by simp [AV.names])
  | hsl x0 off len aa c hh hlc =>
    obtain ⟨e, hu⟩ := hk
    rw [hu] at ht
    have hS := eq_of_beq ht
    simp only [sliceA] at hv
    split at hv
    · rename_i hes
      cases hmx' : mx' with
      | some q => subst hmx'; simp at hv
      | none =>
        subst hmx'
        have := hnone rfl
        subst this
        simp only [Option.map_none] at hv
        cases hh2 : natOr (hi'.map (ev st.T)) len len with
        | none => simp [hh2] at hv
        | some hhv =>
          simp only [hh2] at hv
          cases hl : natOr (lo'.map (ev st.T)) 0 hhv with
          | none => simp [hl] at hv
          | some lv =>
            simp only [hl, Option.some.injEq] at hv
            subst hv
            have hhl : hhv ≤ len := natOr_le' s hh2 (Nat.le_refl _)
            have hll : lv ≤ hhv := natOr_le' s hl (Nat.zero_le _)
            have hh3 : natOr (hi'.map (ev st.T)) len len = some hhv := hh2
            -- within the capacity
            have hb : (Instr.sliceBounds true len c (lo.map a.eval) (hi.map a.eval) ((none : Option Operand).map a.eval)).run P w = .ok (lv, hhv, c) w := by
              rcases bound_of s hhi hh2 with ⟨rfl, rfl, rfl⟩ | ⟨xh, kh, ih, rfl, eh, h0', h1', rfl⟩
              · rcases bound_of s hlo hl with ⟨rfl, rfl, rfl⟩ | ⟨xl, kl, il, rfl, el, l0, l1, rfl⟩
                · simp [Instr.sliceBounds]
                · simp [Instr.sliceBounds, run_sliceBound s el l0 l1]
              · rcases bound_of s hlo hl with ⟨rfl, rfl, rfl⟩ | ⟨xl, kl, il, rfl, el, l0, l1, rfl⟩
                · simp [Instr.sliceBounds, run_sliceBound s eh h0' (show ih ≤ (c : Int) by omega)]
                · simp [Instr.sliceBounds, run_sliceBound s eh h0' (show ih ≤ (c : Int) by omega), run_sliceBound s el l0 l1]
            have hrun := run_slice_of (P := P) s ho hu hS he hb
            have hesz : (m x0).esz = z := by
              unfold eszOf at hes
              cases ho' : hget st.H x0 with
              | none => simp [ho'] at hes
              | some ob =>
                rw [ho'] at hes
                have hrep := s.h x0 _ ho'
                cases ob with
                | box => simp at hes
                | parr es z' fz => simp at hes; exact hrep.1.trans hes
                | arr es => simp at hes; exact hrep.1.trans hes
            refine OpOK.pure s hrun (.hsl x0 _ _ _ _ ?_ (by omega)) (by simpa [AV.names] using h2)
            unfold HslOK at hh ⊢
            cases hb0 : (m x0).base with
            | none =>
              rw [hb0] at hh
              simp only at hh ⊢
              obtain ⟨rfl, rfl, rfl, rfl⟩ := hh
              have e1 : hhv = 0 := by omega
              have e2 : lv = 0 := by omega
              subst e1; subst e2
              simp
            | some b =>
              rw [hb0] at hh
              simp only at hh ⊢
              refine ⟨fun h0 => ?_, fun hlt => ?_⟩
              · have e1 : off = 0 := by omega
                have e2 : lv = 0 := by omega
                subst e1; subst e2
                obtain ⟨g1, g2⟩ := hh.1 rfl
                subst g1; subst g2
                by_cases hc0 : (m x0).cap = 0 <;> simp [hc0, Addr.add]
              · have haa := hh.2 (by omega)
                subst haa
                have : c ≠ lv := by omega
                simp only [this, if_false, Option.map_some, add_at]
                rw [hesz, Nat.add_mul]
    · cases hv
  | _ => simp [sliceA] at hv
end
end Go.Ab
