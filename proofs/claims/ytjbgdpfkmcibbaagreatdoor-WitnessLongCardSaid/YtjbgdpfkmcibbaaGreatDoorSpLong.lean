/- Seat 29: the law WitnessLong, its run. No condition. -/
import Derived.Test.YtjbgdpfkmcibbaaGreatDoorB29L
namespace Go.Proofs.YtjbgdpfkmcibbaaGreatDoor.Sim
set_option linter.unusedVariables false
set_option linter.unusedVariables false in
theorem lawWitnessLong (a0 : _) (w0 : (shInt .u8).wf a0) (a1 : _) (w1 : (shInt .i64).wf a1) : ∃ k s', rn k 4 ([] ++ ((shInt .u8).put a0 ((Store.table .u8 tab))).1 ++ ((shInt .i64).put a1 (((shInt .u8).put a0 (Store.table .u8 tab)).2)).1) ((shInt .i64).put a1 ((shInt .u8).put a0 (Store.table .u8 tab)).2).2 = some (.bool true, s') := by
  obtain ⟨h0, h1⟩ := u8_of w0
  refine ⟨102, ?_⟩
  show ∃ s', rn (100 + 2) 4 [.int .u8 a0, .int .i64 a1] _ = some (.bool true, s')
  exact law_long 100 h0 h1 _
end Go.Proofs.YtjbgdpfkmcibbaaGreatDoor.Sim
