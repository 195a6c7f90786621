/- Seat 22: the law InstNone, its run. No condition. -/
import Derived.Test.YtmaidlndikcgkaaB22None
namespace Go.Proofs.Ytmaidlndikcgkaa.Sim
set_option linter.unusedVariables false
theorem to_law {n : Nat} {args : List AV} {s : Store} (h : ∃ s', rn n 7 args s = some (.bool true, s')) {args2 : List AV} (e : args2 = args) : ∃ s', rn n 7 args2 s = some (.bool true, s') := e ▸ h
set_option linter.unusedVariables false in
theorem lawInstNone (a0 : _) (w0 : (Sh.agg (shPair (shInt .i64) (shPair (shInt .i64) (shPair (shInt .u64) (shPair (shSlice (shInt .u64)) (shPair (shInt .i64) (shPair (shSlice (shInt .u64)) (shSlice (shPair (shInt .u8) (shPair (shInt .u64) (shInt .u64))))))))))).wf a0) : ∃ k s', rn k 7 ([] ++ ((Sh.agg (shPair (shInt .i64) (shPair (shInt .i64) (shPair (shInt .u64) (shPair (shSlice (shInt .u64)) (shPair (shInt .i64) (shPair (shSlice (shInt .u64)) (shSlice (shPair (shInt .u8) (shPair (shInt .u64) (shInt .u64))))))))))).put a0 (Store.empty)).1) ((Sh.agg (shPair (shInt .i64) (shPair (shInt .i64) (shPair (shInt .u64) (shPair (shSlice (shInt .u64)) (shPair (shInt .i64) (shPair (shSlice (shInt .u64)) (shSlice (shPair (shInt .u8) (shPair (shInt .u64) (shInt .u64))))))))))).put a0 Store.empty).2 = some (.bool true, s') := by
  obtain ⟨a, b, c, d, e, f, g⟩ := a0
  obtain ⟨wa, wb, wc, wd, we, wf, wg⟩ := w0
  obtain ⟨v1, x1, p1, p2, p3, p4, p5⟩ := put_u64 d Store.empty wd
  obtain ⟨v2, x2, q1, q2, q3, q4, q5⟩ := put_u64 f ((shSlice (shInt .u64)).put d Store.empty).2 wf
  obtain ⟨v3, l, r1, r2, r3, r4⟩ := put_runs g ((shSlice (shInt .u64)).put f ((shSlice (shInt .u64)).put d Store.empty).2).2 wg
  refine ⟨10001, ?_⟩
  refine to_law (args := [.agg ([.int .i64 a] ++ ([.int .i64 b] ++ ([.int .u64 c] ++ ([v1] ++ ([.int .i64 e] ++ ([v2] ++ [v3]))))))]) ?_ ?_
  · exact law_none ((p2.ext q5).ext r4) (q2.ext r4) r2 p3 r3 (i64_of we).2
  · rw [← p1, ← q1, ← r1]; rfl
end Go.Proofs.Ytmaidlndikcgkaa.Sim
