/- A part of the proof (an executor, and what it computes). -/
import Derived.Test.YtmnjnpgmenigiaaGreatKB
import Derived.Test.YtmnjnpgmenigiaaGreatBa9d05f8bc9
set_option linter.all false
namespace Go.Ab.S
open Go Go.Ab
/-- What is known by hand: slices.Clone. -/
def exTry : CF := fun f args objs =>
  if f = 208 then match args, objs with
    | [.p (.sl 1 es)], [] => if es.length ≤ most then some ⟨.p (.sl 1 es), [], []⟩ else none
    | _, _ => none
  else none
theorem clone208 : cloneL Go.Proofs.Tryz.prog idTry 208 1 = true := by decide +kernel
theorem exTry_ok : CFOK Go.Proofs.Tryz.prog idTry exTry := by
  intro f args objs c hc m w W vs hs hr hn
  unfold exTry at hc
  split at hc
  · rename_i hf
    subst hf
    split at hc
    · rename_i es
      split at hc
      · rename_i hm
        simp only [Option.some.injEq] at hc
        subst hc
        exact clone_ok clone208 hm hs hr
      · cases hc
    · cases hc
  · cases hc
def ETry : Env := { fn := fnSA, ex := exTry }
theorem envOK : EnvOK Go.Proofs.Tryz.prog idTry ETry := ⟨fn_ok, exTry_ok⟩
theorem raw_ok (f : Nat) (hb : rawB f = false) : ETry.raw f = false := by
  show (match fnSA f with | some F => F.rawA | none => false) = false
  split
  · rename_i F h
    unfold fnSA at h
    split at h <;> first | (cases h; rfl) | (cases h; exact absurd hb (by decide)) | cases h
  · rfl
instance : EnvS ETry := ⟨fun _ _ h => h, raw_ok, rfl, fun es h => by simp [ETry, exTry, h]⟩
end Go.Ab.S
