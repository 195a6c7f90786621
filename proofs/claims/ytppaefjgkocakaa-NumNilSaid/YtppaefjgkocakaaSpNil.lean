/- Seat 01: the law NumNil, its run, by kernel computation. No condition. -/
import Derived.Test.YtppaefjgkocakaaSimQ
import Derived.Test.YtppaefjgkocakaaProg
import Derived.KernelRfl
namespace Go.Proofs.Ytppaefjgkocakaa.Sim

theorem nil_run (a b : Int) : (run Try.prog 60 6 [.int .u64 a, .int .i64 b] Store.empty).map (·.1) = some (.bool true) := by kernel_rfl
set_option linter.unusedVariables false in
theorem lawNumNil (a0 : _) (w0 : (shInt .u64).wf a0) (a1 : _) (w1 : (shInt .i64).wf a1) : ∃ k s', run Try.prog k 6 ([] ++ ((shInt .u64).put a0 (Store.empty)).1 ++ ((shInt .i64).put a1 (((shInt .u64).put a0 Store.empty).2)).1) ((shInt .i64).put a1 ((shInt .u64).put a0 Store.empty).2).2 = some (.bool true, s') := by
  have h : (run Try.prog 60 6 [.int .u64 a0, .int .i64 a1] Store.empty).map (·.1) = some (.bool true) := nil_run a0 a1
  obtain ⟨⟨v, s'⟩, h1, h2⟩ := Option.map_eq_some_iff.1 h
  simp only at h2
  subst h2
  exact ⟨60, s', h1⟩
end Go.Proofs.Ytppaefjgkocakaa.Sim
