/- The kernel runs the interpreter at given data (printed by wip/tools/cuts.py). -/
import Derived.Test.YtckjoghpknalcaaGreatDoorAwD
set_option linter.unusedVariables false
set_option linter.unusedSimpArgs false
set_option linter.unnecessarySimpa false
namespace Go.Ab
set_option maxRecDepth 100000
set_option maxHeartbeats 0
theorem Awc4 : fcall Go.Proofs.Tryz.prog GT0 kn0 isCl 60 Awe4.f Awe4.args Awe4.H = some (Awe4.v, Awe4.H2) := by kernel_rfl
end Go.Ab
