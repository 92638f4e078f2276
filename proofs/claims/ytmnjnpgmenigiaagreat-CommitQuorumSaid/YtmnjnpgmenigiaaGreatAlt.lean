/- A part of the proof (an executor, and what it computes). -/
import Derived.Test.YtmnjnpgmenigiaaGreatB12b445f167
set_option linter.all false
/-! A function that begins with a test that may go either way. -/
namespace Go.Ab
open Go

theorem alt_ok {P : Program} {idm : FuncId → FuncId} {E0 : Env} (hE : EnvOK P idm E0) {f : FuncId} {fn : Func} {c0 c1 c2 c3 : Code} {t : Nat} (hP : P.funcs[idm f]? = some fn)
    (hb : fn.body = some (.seq c0 (.seq (.seq c1 (.cond (.tmp t) c2 .skip)) c3))) (hn : fn.name ≠ "runtime.NumGoroutine") {k0 k1 k2 k3 : SCode}
    (l0 : codeL P idm fn.ntmps c0 k0 = true) (l1 : codeL P idm fn.ntmps c1 k1 = true) (l2 : codeL P idm fn.ntmps c2 k2 = true) (l3 : codeL P idm fn.ntmps c3 k3 = true)
    {F : SFn} (hrv : rvsL P fn.results.toList F.rv = true) {args : List AV} {objs : List AObj} {sta st1 : St} {c : CR}
    (x0 : sexW E0 objs.length k0 { T := argT 0 args, H := argH 0 objs } = some (.nrm, sta)) (x1 : sexW E0 objs.length k1 sta = some (.nrm, st1))
    (ht : tget st1.T t = .ub ∨ tget st1.T t = .p (.bool true) ∨ tget st1.T t = .p (.bool false))
    (x2 : tget st1.T t ≠ .p (.bool false) → ∃ st2, sexW E0 objs.length k2 st1 = some (.ret, st2) ∧ finish F objs.length st2 = some c)
    (x3 : tget st1.T t ≠ .p (.bool true) → ∃ st2, sexW E0 objs.length k3 st1 = some (.ret, st2) ∧ finish F objs.length st2 = some c)
    {m : NMap} {w : World} {W : Nat → Prop} {vs : Array Value} (hs : SimH idm m w W (argH 0 objs)) (hr : Reps idm m w W args vs) (hnm : ∀ x ∈ namesL args, (hget (argH 0 objs) x).isSome = true) :
    CallF P (idm f) vs w (CallPost idm m w W objs c) := by
  right
  refine ⟨by simp [callFunc, hP, hb, hn], calls_of_wpM hP hb (wpIn_wide.2 ?_)⟩
  have hfi : FI idm (vs.size + (fn.ntmps - vs.size)) m w W (argH 0 objs) { T := argT 0 args, H := argH 0 objs } { tmps := vs ++ Array.replicate (fn.ntmps - vs.size) undef, defers := [] } w := by
    refine ⟨Marks.nil _ _, m, W, { toSimH := hs, sz := by simp, t := fun i => ?_, ct := fun i x hx => ?_ }, Since.refl ..⟩
    · rw [tget_argT]
      simp only [Nat.zero_le, if_true, Nat.sub_zero]
      cases hi : args[i]? with
      | none => exact .undef _
      | some v =>
        have hlt := (List.getElem?_eq_some_iff.1 hi).1
        have hlt' : i < vs.size := by rw [hr.hl]; exact hlt
        have hv : (vs ++ Array.replicate (fn.ntmps - vs.size) undef).getD i undef = vs[i] := by
          simp [Array.getD_eq_getD_getElem?, Array.getElem?_append, hlt']
        simp only [Option.getD_some]
        rw [hv]
        exact hr.h i v _ hi (Array.getElem?_eq_getElem hlt')
    · simp only [tget_argT, Nat.zero_le, if_true, Nat.sub_zero] at hx
      cases hi : args[i]? with
      | none => rw [hi] at hx; simp [AV.names] at hx
      | some v => rw [hi] at hx; exact hnm x (mem_namesL.2 ⟨v, List.mem_of_getElem? hi, by simpa using hx⟩)
  obtain ⟨q0, hq0⟩ := (sexW_iff E0 _ _ _ _).1 x0
  obtain ⟨q1, hq1⟩ := (sexW_iff E0 _ _ _ _).1 x1
  refine wp_seq (sexec_ok (acall_ok hE q0) q0 k0 c0 _ sta .nrm _ w _ (codeL_mono (by omega) l0) hq0 hfi fun a' w' hfa => ?_)
  refine wp_seq (wp_seq (sexec_ok (acall_ok hE q1) q1 k1 c1 _ st1 .nrm _ w' _ (codeL_mono (by omega) l1) hq1 hfa fun a1 w1 hf1 => ?_))
  obtain ⟨d0, m1, W1, s1, si1⟩ := hf1
  have hrep : Rep idm m1 w1 W1 (tget st1.T t) (a1.eval (.tmp t)) := s1.t t
  obtain ⟨b, hbv, hbb⟩ : ∃ b, a1.eval (.tmp t) = .bool b ∧ (b = true → tget st1.T t ≠ .p (.bool false)) ∧ (b = false → tget st1.T t ≠ .p (.bool true)) := by
    rcases ht with h | h | h
    · rw [h] at hrep ⊢
      generalize a1.eval (.tmp t) = v at hrep
      cases hrep with
      | ub b => exact ⟨b, rfl, fun _ => by simp, fun _ => by simp⟩
    · rw [h] at hrep ⊢
      exact ⟨true, hrep.bool_inv, fun _ => by simp, fun h => by cases h⟩
    · rw [h] at hrep ⊢
      exact ⟨false, hrep.bool_inv, (fun h => by cases h), (fun _ => by simp)⟩
  refine wp_cond hbv ?_
  cases b with
  | true =>
    obtain ⟨st2, g1, g2⟩ := x2 (hbb.1 rfl)
    obtain ⟨q2, hq2⟩ := (sexW_iff E0 _ _ _ _).1 g1
    refine sexec_ok (acall_ok hE q2) q2 k2 c2 st1 st2 .ret _ w1 _ (codeL_mono (by omega) l2) hq2 ⟨d0, m1, W1, s1, si1⟩ fun a2 w2 hf2 => ?_
    exact leave_ok hrv g2 hf2 fun _ _ h => h
  | false =>
    refine wp_skip ?_
    obtain ⟨st2, g1, g2⟩ := x3 (hbb.2 rfl)
    obtain ⟨q2, hq2⟩ := (sexW_iff E0 _ _ _ _).1 g1
    refine sexec_ok (acall_ok hE q2) q2 k3 c3 st1 st2 .ret _ w1 _ (codeL_mono (by omega) l3) hq2 ⟨d0, m1, W1, s1, si1⟩ fun a2 w2 hf2 => ?_
    exact leave_ok hrv g2 hf2 fun _ _ h => h
end Go.Ab
