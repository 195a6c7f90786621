/- Seat 23: the law OrdersKeeps, its run. No condition. -/
import Derived.Test.YtahiipfjhjeofaaB23Keeps
namespace Go.Proofs.Ytahiipfjhjeofaa.Sim
set_option linter.unusedVariables false in
theorem lawOrdersKeeps (a0 : _) (w0 : (shInt .i64).wf a0) (a1 : _) (w1 : (shSlice (shSlice (shPair (shInt .u8) (shPair (shInt .u64) (shInt .u64))))).wf a1) (a2 : _) (w2 : (shInt .u8).wf a2) : ∃ k s', rn k 3 ([] ++ ((shInt .i64).put a0 (Store.empty)).1 ++ ((shSlice (shSlice (shPair (shInt .u8) (shPair (shInt .u64) (shInt .u64))))).put a1 (((shInt .i64).put a0 Store.empty).2)).1 ++ ((shInt .u8).put a2 (((shSlice (shSlice (shPair (shInt .u8) (shPair (shInt .u64) (shInt .u64))))).put a1 ((shInt .i64).put a0 Store.empty).2).2)).1) ((shInt .u8).put a2 ((shSlice (shSlice (shPair (shInt .u8) (shPair (shInt .u64) (shInt .u64))))).put a1 ((shInt .i64).put a0 Store.empty).2).2).2 = some (.bool true, s') := by
  obtain ⟨v, A, h1, h2, h3, _⟩ := put_ll a1 Store.empty w1
  refine ⟨1000008, ?_⟩
  show ∃ s', rn 1000008 3 ([.int .i64 a0] ++ ((shSlice (shSlice (shPair (shInt .u8) (shPair (shInt .u64) (shInt .u64))))).put a1 Store.empty).1 ++ [.int .u8 a2]) ((shSlice (shSlice (shPair (shInt .u8) (shPair (shInt .u64) (shInt .u64))))).put a1 Store.empty).2 = some (.bool true, s')
  rw [h1]
  exact keeps_run h2 h3 a0 a2 (u8_of w2)
end Go.Proofs.Ytahiipfjhjeofaa.Sim
