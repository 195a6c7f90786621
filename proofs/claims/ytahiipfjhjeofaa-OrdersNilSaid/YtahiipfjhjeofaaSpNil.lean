/- Seat 23: the law OrdersNil, its run, by kernel computation. No condition. -/
import Derived.Test.YtahiipfjhjeofaaSimQ
import Derived.Test.YtahiipfjhjeofaaProg
import Derived.KernelRfl
namespace Go.Proofs.Ytahiipfjhjeofaa.Sim

theorem nil_run (a : Int) : (run Try.prog 60 7 [.int .u64 a] Store.empty).map (·.1) = some (.bool true) := by kernel_rfl
set_option linter.unusedVariables false in
theorem lawOrdersNil (a0 : _) (w0 : (shInt .u64).wf a0) : ∃ k s', run Try.prog k 7 ([] ++ ((shInt .u64).put a0 (Store.empty)).1) ((shInt .u64).put a0 Store.empty).2 = some (.bool true, s') := by
  have h : (run Try.prog 60 7 [.int .u64 a0] Store.empty).map (·.1) = some (.bool true) := nil_run a0
  obtain ⟨⟨v, s'⟩, h1, h2⟩ := Option.map_eq_some_iff.1 h
  simp only at h2
  subst h2
  exact ⟨60, s', h1⟩
end Go.Proofs.Ytahiipfjhjeofaa.Sim
