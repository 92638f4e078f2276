/- A part of the proof (an executor, and what it computes). -/
import Derived.Test.YtmnjnpgmenigiaaGreatWb
import Derived.Test.YtmnjnpgmenigiaaGreatBb8d2b722b6
set_option linter.all false
namespace Go.Ab.S
open Go Go.Ab
theorem rowlaw5 (z0 : List Int) (_ : ∀ n ∈ z0, (Lit.int .i64 n).wf = true) : callW ETry 5 [.p (.sl 1 (z0.map (.int .i64)))] [] = some ⟨.p (.bool true), [], []⟩ := by
  exact law5 z0
end Go.Ab.S
