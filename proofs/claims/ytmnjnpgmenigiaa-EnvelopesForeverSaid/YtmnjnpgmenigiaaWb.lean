/- A part of the proof: an executor over plain data, shown sound for the model, and what it computes of the functions. -/
import Derived.Test.YtmnjnpgmenigiaaKB
import Derived.Test.YtmnjnpgmenigiaaEv
import Derived.Test.YtmnjnpgmenigiaaSp0
import Derived.Test.YtmnjnpgmenigiaaRow
set_option linter.all false
namespace Go.Ab.S
open Go Go.Ab
instance : EnvS ETry := ⟨fun _ _ h => h⟩
end Go.Ab.S
