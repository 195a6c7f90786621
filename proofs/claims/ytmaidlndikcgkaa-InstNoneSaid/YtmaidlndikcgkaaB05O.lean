/- Seat 05: the law BatchIs, its run. No condition. -/
import Derived.Test.YtmaidlndikcgkaaB05N
namespace Go.Proofs.Ytmaidlndikcgkaa.Sim
set_option linter.unusedSimpArgs false
set_option linter.unusedVariables false

/-- Runs that come as an argument. -/
theorem put_runs (o : Option (List Rn)) (s : Store) (hw : (shSlice (shPair (shInt .u8) (shPair (shInt .u64) (shInt .u64)))).wf o) : ∃ v xs, ((shSlice (shPair (shInt .u8) (shPair (shInt .u64) (shInt .u64)))).put o s).1 = [v] ∧ IsRuns ((shSlice (shPair (shInt .u8) (shPair (shInt .u64) (shInt .u64)))).put o s).2 v xs ∧ (∀ r ∈ xs, WfR r) ∧ Ext s ((shSlice (shPair (shInt .u8) (shPair (shInt .u64) (shInt .u64)))).put o s).2 := by
  cases o with
  | none => exact ⟨.nilsl, [], rfl, .inl ⟨rfl, rfl⟩, fun x hx => by simp at hx, Ext.refl _⟩
  | some l =>
    have hp : ∀ l : List Rn, (shPair (shInt .u8) (shPair (shInt .u64) (shInt .u64))).putL l s = ((l.map rcells).flatten, s) := fun l => by
      induction l with
      | nil => rfl
      | cons x l ih =>
        show (rcells x ++ ((shPair (shInt .u8) (shPair (shInt .u64) (shInt .u64))).putL l s).1, ((shPair (shInt .u8) (shPair (shInt .u64) (shInt .u64))).putL l s).2) = _
        rw [ih]
        rfl
    obtain ⟨h1, h2⟩ := hw l rfl
    have hput : (shSlice (shPair (shInt .u8) (shPair (shInt .u64) (shInt .u64)))).put (some l) s = ([.sl s.next 0 l.length 3 (l.length * 3)], s.push (.cells (l.map rcells).flatten true)) := by
      show ([AV.sl ((shPair (shInt .u8) (shPair (shInt .u64) (shInt .u64))).putL l s).2.next 0 l.length 3 (l.length * 3)], ((shPair (shInt .u8) (shPair (shInt .u64) (shInt .u64))).putL l s).2.push (.cells ((shPair (shInt .u8) (shPair (shInt .u64) (shInt .u64))).putL l s).1 true)) = _
      rw [hp]
    rw [hput]
    refine ⟨_, l, rfl, .inr ⟨s.next, true, rfl, Nat.lt_succ_self _, by rw [get_push, if_pos rfl]⟩, fun x hx => ?_, Ext.push _ _⟩
    obtain ⟨w1, w2, w3⟩ := h2 x hx
    have k1 : (Lit.int IntKind.u8 x.1).wf = true := w1
    have k2 : (Lit.int IntKind.u64 x.2.1).wf = true := w2
    have k3 : (Lit.int IntKind.u64 x.2.2).wf = true := w3
    simp [Lit.wf, IntKind.min, IntKind.max, IntKind.bits, IntKind.signed] at k1 k2 k3
    unfold WfR; omega

theorem orderR_len {l : List Rn} : (orderR l).length ≤ 4096 := by
  unfold orderR
  split
  · simp
  · rename_i h
    have h1 : ¬ l.any (fun r => !runOk r) = true := fun q => h (.inl q)
    have h2 : ¬ 4096 < countR 0 l := fun q => h (.inr q)
    have h1' : l.any (fun r => !runOk r) = false := by simpa using h1
    have hok : ∀ r ∈ l, runOk r = true := by
      intro r hr
      have := List.any_eq_false.1 h1' r hr
      simpa using this
    have hsum := countR_sum l 0 hok (by omega) (by omega)
    rw [ordPre_len]
    have := sumMin_le 4096 l
    omega

end Go.Proofs.Ytmaidlndikcgkaa.Sim
