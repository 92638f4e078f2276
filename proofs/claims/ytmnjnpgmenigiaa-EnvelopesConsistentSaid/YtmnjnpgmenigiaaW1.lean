/- A part of the proof: an executor over plain data, shown sound for the model, and what it computes of the functions. -/
import Derived.Test.YtmnjnpgmenigiaaKB
import Derived.Test.YtmnjnpgmenigiaaLaw1
import Derived.Test.YtmnjnpgmenigiaaRow
set_option linter.all false
namespace Go.Ab.S
open Go Go.Ab
instance : EnvS ETry := ⟨fun _ _ h => h⟩
theorem rowlaw1003 (zs : List Int) (_ : ∀ n ∈ zs, (Lit.int .i64 n).wf = true) (n : Int) (hn : (Lit.int .u8 n).wf = true) : callW ETry 1003 [.p (.sl 1 (zs.map (.int .i64))), .p (.int .u8 n)] [] = some ⟨.p (.bool true), [], []⟩ := by
  have h : 0 ≤ n ∧ n ≤ 255 := by
    simp [Lit.wf, IntKind.min, IntKind.max, IntKind.bits, IntKind.signed] at hn
    omega
  exact law1003 zs n h.1 h.2
end Go.Ab.S
