/- Seat 13: the law GatherWhole, its run. No condition. -/
import Derived.Test.YtmkdpenpfkmfpaaB13Whole
namespace Go.Proofs.Ytmkdpenpfkmfpaa.Sim
theorem u16_of {x : Int} (h : (Lit.int IntKind.u16 x).wf = true) : 0 ≤ x ∧ x < 65536 := by
  simp [Lit.wf, IntKind.min, IntKind.max, IntKind.bits, IntKind.signed] at h
  omega
set_option linter.unusedVariables false in
theorem lawGatherWhole (a0 : _) (w0 : (Sh.agg (shPair (shInt .u8) (shInt .u64))).wf a0) (a1 : _) (w1 : (shSlice (shInt .u8)).wf a1) (a2 : _) (w2 : (shInt .u8).wf a2) (a3 : _) (w3 : (shSlice (shInt .u16)).wf a3) : ∃ k s', rn k 4 ([] ++ ((Sh.agg (shPair (shInt .u8) (shInt .u64))).put a0 (Store.empty)).1 ++ ((shSlice (shInt .u8)).put a1 (((Sh.agg (shPair (shInt .u8) (shInt .u64))).put a0 Store.empty).2)).1 ++ ((shInt .u8).put a2 (((shSlice (shInt .u8)).put a1 ((Sh.agg (shPair (shInt .u8) (shInt .u64))).put a0 Store.empty).2).2)).1 ++ ((shSlice (shInt .u16)).put a3 (((shInt .u8).put a2 ((shSlice (shInt .u8)).put a1 ((Sh.agg (shPair (shInt .u8) (shInt .u64))).put a0 Store.empty).2).2).2)).1) ((shSlice (shInt .u16)).put a3 ((shInt .u8).put a2 ((shSlice (shInt .u8)).put a1 ((Sh.agg (shPair (shInt .u8) (shInt .u64))).put a0 Store.empty).2).2).2).2 = some (.bool true, s') := by
  obtain ⟨v1, p, p1, p2, _, _, p5⟩ := put_num .u8 a1 Store.empty w1
  obtain ⟨v3, os, o1, o2, o3, _, o5⟩ := put_num .u16 a3 ((shSlice (shInt .u8)).put a1 Store.empty).2 w3
  obtain ⟨i0, i1⟩ := a0
  refine ⟨1000007, ?_⟩
  show ∃ s', rn 1000007 4 ([.agg [.int .u8 i0, .int .u64 i1]] ++ ((shSlice (shInt .u8)).put a1 Store.empty).1 ++ [.int .u8 a2] ++ ((shSlice (shInt .u16)).put a3 ((shSlice (shInt .u8)).put a1 Store.empty).2).1) ((shSlice (shInt .u16)).put a3 ((shSlice (shInt .u8)).put a1 Store.empty).2).2 = some (.bool true, s')
  rw [p1, o1]
  exact whole_run (id := (i0, i1)) (p2.ext o5) o2 (fun x hx => u16_of (o3 x hx)) (u8_of w0.1) (u8_of w2) 1000000 (by decide)
end Go.Proofs.Ytmkdpenpfkmfpaa.Sim
