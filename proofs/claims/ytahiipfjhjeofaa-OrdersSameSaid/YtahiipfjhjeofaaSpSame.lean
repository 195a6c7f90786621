/- Seat 23: the law OrdersSame, its run. No condition. -/
import Derived.Test.YtahiipfjhjeofaaB23Same
namespace Go.Proofs.Ytahiipfjhjeofaa.Sim
theorem u16_of {x : Int} (h : (Lit.int IntKind.u16 x).wf = true) : 0 ≤ x ∧ x < 65536 := by
  simp [Lit.wf, IntKind.min, IntKind.max, IntKind.bits, IntKind.signed] at h; omega
set_option linter.unusedVariables false in
theorem lawOrdersSame (a0 : _) (w0 : (shInt .i64).wf a0) (a1 : _) (w1 : (shSlice (shSlice (shPair (shInt .u8) (shPair (shInt .u64) (shInt .u64))))).wf a1) (a2 : _) (w2 : (shInt .u16).wf a2) (a3 : _) (w3 : (shInt .u16).wf a3) (a4 : _) (w4 : (shInt .u64).wf a4) : ∃ k s', rn k 4 ([] ++ ((shInt .i64).put a0 (Store.empty)).1 ++ ((shSlice (shSlice (shPair (shInt .u8) (shPair (shInt .u64) (shInt .u64))))).put a1 (((shInt .i64).put a0 Store.empty).2)).1 ++ ((shInt .u16).put a2 (((shSlice (shSlice (shPair (shInt .u8) (shPair (shInt .u64) (shInt .u64))))).put a1 ((shInt .i64).put a0 Store.empty).2).2)).1 ++ ((shInt .u16).put a3 (((shInt .u16).put a2 ((shSlice (shSlice (shPair (shInt .u8) (shPair (shInt .u64) (shInt .u64))))).put a1 ((shInt .i64).put a0 Store.empty).2).2).2)).1 ++ ((shInt .u64).put a4 (((shInt .u16).put a3 ((shInt .u16).put a2 ((shSlice (shSlice (shPair (shInt .u8) (shPair (shInt .u64) (shInt .u64))))).put a1 ((shInt .i64).put a0 Store.empty).2).2).2).2)).1) ((shInt .u64).put a4 ((shInt .u16).put a3 ((shInt .u16).put a2 ((shSlice (shSlice (shPair (shInt .u8) (shPair (shInt .u64) (shInt .u64))))).put a1 ((shInt .i64).put a0 Store.empty).2).2).2).2).2 = some (.bool true, s') := by
  obtain ⟨v, A, h1, h2, h3, _⟩ := put_ll a1 Store.empty w1
  refine ⟨1000008, ?_⟩
  show ∃ s', rn 1000008 4 ([.int .i64 a0] ++ ((shSlice (shSlice (shPair (shInt .u8) (shPair (shInt .u64) (shInt .u64))))).put a1 Store.empty).1 ++ [.int .u16 a2] ++ [.int .u16 a3] ++ [.int .u64 a4]) ((shSlice (shSlice (shPair (shInt .u8) (shPair (shInt .u64) (shInt .u64))))).put a1 Store.empty).2 = some (.bool true, s')
  rw [h1]
  exact same_run3 h2 h3 a0 a2 a3 a4 (u16_of w2) (u16_of w3) (u64_of w4)
end Go.Proofs.Ytahiipfjhjeofaa.Sim
