/- Seat 13 (door): the law GatherNil, its run, by kernel computation. No condition. -/
import Derived.Test.YtmkdpenpfkmfpaaDoorSimQ
import Derived.Test.YtmkdpenpfkmfpaaDoorSpTab
import Derived.Test.YtmkdpenpfkmfpaaDoorProg
import Derived.KernelRfl
namespace Go.Proofs.YtmkdpenpfkmfpaaDoor.Sim

theorem nil_run (a b c : Int) : (run Tryd.prog 60 4 [.agg [.int .u8 a, .int .u64 b], .int .u8 c] (Store.table .u8 tab)).map (·.1) = some (.bool true) := by kernel_rfl
set_option linter.unusedVariables false in
theorem lawGatherNil (a0 : _) (w0 : (Sh.agg (shPair (shInt .u8) (shInt .u64))).wf a0) (a1 : _) (w1 : (shInt .u8).wf a1) : ∃ k s', run Tryd.prog k 4 ([] ++ ((Sh.agg (shPair (shInt .u8) (shInt .u64))).put a0 ((Store.table .u8 tab))).1 ++ ((shInt .u8).put a1 (((Sh.agg (shPair (shInt .u8) (shInt .u64))).put a0 (Store.table .u8 tab)).2)).1) ((shInt .u8).put a1 ((Sh.agg (shPair (shInt .u8) (shInt .u64))).put a0 (Store.table .u8 tab)).2).2 = some (.bool true, s') := by
  have h : (run Tryd.prog 60 4 [.agg [.int .u8 a0.1, .int .u64 a0.2], .int .u8 a1] (Store.table .u8 tab)).map (·.1) = some (.bool true) := nil_run a0.1 a0.2 a1
  obtain ⟨⟨v, s'⟩, h1, h2⟩ := Option.map_eq_some_iff.1 h
  simp only at h2
  subst h2
  exact ⟨60, s', h1⟩
end Go.Proofs.YtmkdpenpfkmfpaaDoor.Sim
