/- Seat 22: the law InstEnds, its run. No condition. -/
import Derived.Test.YtmaidlndikcgkaaB22EndsI
namespace Go.Proofs.Ytmaidlndikcgkaa.Sim
set_option linter.unusedVariables false
set_option linter.unusedVariables false in
theorem lawInstEnds (a0 : _) (w0 : (shInt .i64).wf a0) (a1 : _) (w1 : (shSlice (shInt .u8)).wf a1) (a2 : _) (w2 : (shSlice (shPair (shInt .i64) (shPair (shInt .i64) (shPair (shInt .i64) (shInt .u8))))).wf a2) : ∃ k s', rn k 5 ([] ++ ((shInt .i64).put a0 (Store.empty)).1 ++ ((shSlice (shInt .u8)).put a1 (((shInt .i64).put a0 Store.empty).2)).1 ++ ((shSlice (shPair (shInt .i64) (shPair (shInt .i64) (shPair (shInt .i64) (shInt .u8))))).put a2 (((shSlice (shInt .u8)).put a1 ((shInt .i64).put a0 Store.empty).2).2)).1) ((shSlice (shPair (shInt .i64) (shPair (shInt .i64) (shPair (shInt .i64) (shInt .u8))))).put a2 ((shSlice (shInt .u8)).put a1 ((shInt .i64).put a0 Store.empty).2).2).2 = some (.bool true, s') := by
  obtain ⟨v1, cs, p1, p2, p3, p4, p5⟩ := put_cnt a1 Store.empty w1
  obtain ⟨v2, P, q1, q2, q3, q4⟩ := put_pks a2 ((shSlice (shInt .u8)).put a1 Store.empty).2 w2
  refine ⟨10012, ?_⟩
  show ∃ s', rn 10012 5 ([.int .i64 a0] ++ ((shSlice (shInt .u8)).put a1 Store.empty).1 ++ ((shSlice (shPair (shInt .i64) (shPair (shInt .i64) (shPair (shInt .i64) (shInt .u8))))).put a2 ((shSlice (shInt .u8)).put a1 Store.empty).2).1) _ = some (.bool true, s')
  rw [p1, q1]
  exact law_ends (p2.ext q4) p3 p4 q2 q3
end Go.Proofs.Ytmaidlndikcgkaa.Sim
