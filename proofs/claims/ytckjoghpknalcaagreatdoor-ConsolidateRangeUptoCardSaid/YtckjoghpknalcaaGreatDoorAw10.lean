/- The kernel runs the interpreter at given data (printed by wip/tools/cuts.py). -/
import Derived.Test.YtckjoghpknalcaaGreatDoorAwD
set_option linter.unusedVariables false
set_option linter.unusedSimpArgs false
set_option linter.unnecessarySimpa false
namespace Go.Ab
set_option maxRecDepth 100000
set_option maxHeartbeats 0
theorem Awc9 : fcall Go.Proofs.Tryz.prog GT0 kn0 isCl 60 Awe9.f Awe9.args Awe9.H = some (Awe9.v, Awe9.H2) := by kernel_rfl
end Go.Ab
