/- A part of the proof: an executor over plain data, shown sound for the model, and what it computes of the functions. -/
import Derived.Test.YtmnjnpgmenigiaaGreatWb
import Derived.Test.YtmnjnpgmenigiaaGreatB08702f71a4
set_option linter.all false
namespace Go.Ab.S
open Go Go.Ab
theorem rowlaw4 (z0 : List Int) (_ : ∀ n ∈ z0, (Lit.int .i64 n).wf = true) : callW ETry 4 [.p (.sl 1 (z0.map (.int .i64)))] [] = some ⟨.p (.bool true), [], []⟩ := by
  exact law4 z0
end Go.Ab.S
