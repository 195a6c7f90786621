/- Seat 24: the law ProcNil, its run. No condition. -/
import Derived.Test.YtlacppoamekaiaaGreatDoorB24Nil
namespace Go.Proofs.YtlacppoamekaiaaGreatDoor.Sim
set_option linter.unusedVariables false
theorem put_len (o : _) (s : Store) : ∃ (v : AV) (n : Nat), ((shSlice (shInt .u8)).put o s).1 = [v] ∧ ∀ {α : Type} (f : AV → Option α), aLen v f = f (.int .i64 (n : Int)) := by
  cases o with
  | none => exact ⟨.nilsl, 0, rfl, fun f => rfl⟩
  | some l => exact ⟨_, l.length, rfl, fun f => rfl⟩
set_option linter.unusedVariables false in
theorem lawProcNil (a0 : _) (w0 : (shSlice (shInt .u8)).wf a0) (a1 : _) (w1 : (shInt .i64).wf a1) : ∃ k s', rn k 8 ([] ++ ((shSlice (shInt .u8)).put a0 ((Store.table .u8 tab))).1 ++ ((shInt .i64).put a1 (((shSlice (shInt .u8)).put a0 (Store.table .u8 tab)).2)).1) ((shInt .i64).put a1 ((shSlice (shInt .u8)).put a0 (Store.table .u8 tab)).2).2 = some (.bool true, s') := by
  obtain ⟨v, n, h1, h2⟩ := put_len a0 (Store.table .u8 tab)
  refine ⟨101, ?_⟩
  rw [List.nil_append, h1]
  exact law_nil h2
end Go.Proofs.YtlacppoamekaiaaGreatDoor.Sim
