/- Seat 23: the law OrdersFront, its run. No condition. -/
import Derived.Test.YtahiipfjhjeofaaB23Front
namespace Go.Proofs.Ytahiipfjhjeofaa.Sim
set_option linter.unusedVariables false in
theorem lawOrdersFront (a0 : _) (w0 : (shInt .i64).wf a0) (a1 : _) (w1 : (shSlice (shPair (shInt .i64) (shPair (shSlice (shPair (shInt .u8) (shPair (shInt .u64) (shInt .u64)))) (shInt .u64)))).wf a1) : ∃ k s', rn k 5 ([] ++ ((shInt .i64).put a0 (Store.empty)).1 ++ ((shSlice (shPair (shInt .i64) (shPair (shSlice (shPair (shInt .u8) (shPair (shInt .u64) (shInt .u64)))) (shInt .u64)))).put a1 (((shInt .i64).put a0 Store.empty).2)).1) ((shSlice (shPair (shInt .i64) (shPair (shSlice (shPair (shInt .u8) (shPair (shInt .u64) (shInt .u64)))) (shInt .u64)))).put a1 ((shInt .i64).put a0 Store.empty).2).2 = some (.bool true, s') := by
  obtain ⟨v, A, h1, h2, _⟩ := put_acts a1 Store.empty w1
  refine ⟨1000008, ?_⟩
  show ∃ s', rn 1000008 5 ([.int .i64 a0] ++ ((shSlice (shPair (shInt .i64) (shPair (shSlice (shPair (shInt .u8) (shPair (shInt .u64) (shInt .u64)))) (shInt .u64)))).put a1 Store.empty).1) ((shSlice (shPair (shInt .i64) (shPair (shSlice (shPair (shInt .u8) (shPair (shInt .u64) (shInt .u64)))) (shInt .u64)))).put a1 Store.empty).2 = some (.bool true, s')
  rw [h1]
  exact front_run h2 a0
end Go.Proofs.Ytahiipfjhjeofaa.Sim
