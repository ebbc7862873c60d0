/- The examples: alive() answers true, in every world. -/
import Derived.Test.YtpphdocfglmffaaGreatDoorAbFt
import Derived.Test.YtpphdocfglmffaaGreatDoorAbEk
set_option linter.unusedVariables false
set_option linter.unusedSimpArgs false
open Go Go.Ab
namespace Go.Ab.Fs
theorem alive_k : ansK (look tabL) N_stoalaw24_alive = some (.bool true) := by kernel_rfl
theorem alive_ev : (evCall (look tabL) 1000 N_stoalaw24_alive [] ⟨.nil, 0⟩).map (·.1) = some (.bool true) := ansK_ev alive_k
end Go.Ab.Fs
