/- All of them as a table (printed by wip/tools/cuts.py). The law's examples hold: awake gives true. The law ConsolidateRange at the abstract heap. -/
import Derived.Test.YtckjoghpknalcaaGreatDoorAw1
import Derived.Test.YtckjoghpknalcaaGreatDoorAw2
import Derived.Test.YtckjoghpknalcaaGreatDoorAw3
import Derived.Test.YtckjoghpknalcaaGreatDoorAw4
import Derived.Test.YtckjoghpknalcaaGreatDoorAw5
import Derived.Test.YtckjoghpknalcaaGreatDoorAw6
import Derived.Test.YtckjoghpknalcaaGreatDoorAw7
import Derived.Test.YtckjoghpknalcaaGreatDoorAw8
import Derived.Test.YtckjoghpknalcaaGreatDoorAw9
import Derived.Test.YtckjoghpknalcaaGreatDoorAw10
import Derived.Test.YtckjoghpknalcaaGreatDoorAw11
import Derived.Test.YtckjoghpknalcaaGreatDoorAw12
import Derived.Test.YtckjoghpknalcaaGreatDoorAw13
set_option linter.unusedVariables false
set_option linter.unusedSimpArgs false
set_option linter.unnecessarySimpa false
namespace Go.Ab
noncomputable def AwT : List Ent := [Awe0, Awe1, Awe2, Awe3, Awe4, Awe5, Awe6, Awe7, Awe8, Awe9, Awe10, Awe11, Awe12]
theorem AwT_sound : ∀ e ∈ AwT, ACalls Go.Proofs.Tryz.prog GT0 e.f e.args e.H fun a K => a = e.v ∧ K = e.H2 := by
  intro e he
  simp only [AwT, List.mem_cons, List.not_mem_nil, or_false] at he
  rcases he with rfl | rfl | rfl | rfl | rfl | rfl | rfl | rfl | rfl | rfl | rfl | rfl | rfl
  · exact fcall_sound kn0_sound 60 _ _ _ _ _ Awc0
  · exact fcall_sound kn0_sound 60 _ _ _ _ _ Awc1
  · exact fcall_sound kn0_sound 60 _ _ _ _ _ Awc2
  · exact fcall_sound kn0_sound 60 _ _ _ _ _ Awc3
  · exact fcall_sound kn0_sound 60 _ _ _ _ _ Awc4
  · exact fcall_sound kn0_sound 60 _ _ _ _ _ Awc5
  · exact fcall_sound kn0_sound 60 _ _ _ _ _ Awc6
  · exact fcall_sound kn0_sound 60 _ _ _ _ _ Awc7
  · exact fcall_sound kn0_sound 60 _ _ _ _ _ Awc8
  · exact fcall_sound kn0_sound 60 _ _ _ _ _ Awc9
  · exact fcall_sound kn0_sound 60 _ _ _ _ _ Awc10
  · exact fcall_sound kn0_sound 60 _ _ _ _ _ Awc11
  · exact fcall_sound kn0_sound 60 _ _ _ _ _ Awc12
end Go.Ab

namespace Go.Ab
set_option maxRecDepth 100000
set_option maxHeartbeats 0
theorem awake_run : fcall Go.Proofs.Tryz.prog GT0 (orC kn0 (tabs AwT)) isCl 60 4 [] [] = some (.d (.bool true), []) := by kernel_rfl
theorem c_awake : ACalls Go.Proofs.Tryz.prog GT0 4 [] [] fun v H' => v = .d (.bool true) ∧ H' = [] :=
  fcall_sound (orC_sound kn0_sound (tabs_sound AwT_sound)) 60 _ _ _ _ _ awake_run
theorem c_range0 (day : Int) (purpose : ByteArray) (l : List GGaz) (h1 : (l.flatMap (·.acts)).length ≤ 1073741823) (h2 : itemsN (l.flatMap (·.acts)) ≤ 1073741823) :
    ACalls Go.Proofs.Tryz.prog GT0 3 [.d (.int .i64 day), .d (.str purpose), .d (.list (l.map encGaz))] [] fun v H' => v = .d (.bool true) ∧ H' = [] :=
  c_range (c_awake.mono fun v H' h => h.1) day purpose l h1 h2
end Go.Ab
