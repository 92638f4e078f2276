/- A part of the proof (an executor, and what it computes). -/
import Derived.Test.YtmnjnpgmenigiaaWb
import Derived.Test.YtmnjnpgmenigiaaBab78ede05e
set_option linter.all false
namespace Go.Ab.S
open Go Go.Ab
theorem rowlaw1010 (z0 : List Int) (_ : ∀ n ∈ z0, (Lit.int .i64 n).wf = true) (n1 : Int) (hn1 : (Lit.int .u8 n1).wf = true) (n2 : Int) (hn2 : (Lit.int .u8 n2).wf = true) : callW ETry 1010 [.p (.sl 1 (z0.map (.int .i64))), .p (.int .u8 n1), .p (.int .u8 n2)] [] = some ⟨.p (.bool true), [], []⟩ := by
  have h1 : 0 ≤ n1 ∧ n1 ≤ 255 := by
    simp [Lit.wf, IntKind.min, IntKind.max, IntKind.bits, IntKind.signed] at hn1
    omega
  have h2 : 0 ≤ n2 ∧ n2 ≤ 255 := by
    simp [Lit.wf, IntKind.min, IntKind.max, IntKind.bits, IntKind.signed] at hn2
    omega
  exact law1010 z0 n1 n2 h1.1 h1.2 h2.1 h2.2
end Go.Ab.S
