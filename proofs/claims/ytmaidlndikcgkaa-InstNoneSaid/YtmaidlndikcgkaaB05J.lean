/- Seat 05: the document's example; the law BatchNext's run. No condition. -/
import Derived.Test.YtmaidlndikcgkaaB05I
namespace Go.Proofs.Ytmaidlndikcgkaa.Sim
set_option linter.unusedSimpArgs false

theorem outR_add (base now : List Int) : ∀ (a i b : Nat), outR base now i (a + b) = outR base now i a ++ outR base now (i + a) b
  | 0, i, b => by simp [outR]
  | a + 1, i, b => by
    rw [show a + 1 + b = (a + b) + 1 by omega, outR, outR, outR_add base now a (i + 1) b, show i + 1 + a = i + (a + 1) by omega]
    split <;> simp
theorem outR_same (base now : List Int) : ∀ (m i : Nat), (∀ j, i ≤ j → now.getD j 0 = base.getD j 0) → outR base now i m = []
  | 0, _, _ => rfl
  | m + 1, i, h => by
    rw [outR, if_neg (by have := h i (Nat.le_refl _); omega)]
    exact outR_same base now m (i + 1) fun j hj => h j (by omega)
theorem stepR_far (held : List Int) (st : List Int × Int × Bool) {i j : Nat} (h : i ≠ j) : (stepR held st i).1.getD j 0 = st.1.getD j 0 := by
  unfold stepR
  split
  · simp only [List.getD_eq_getElem?_getD, List.getElem?_set, if_neg h]
  · rfl
theorem turnsR_far (held : List Int) : ∀ (m i : Nat) (st : List Int × Int × Bool) {j : Nat}, i + m ≤ j → (turnsR held i m st).1.getD j 0 = st.1.getD j 0
  | 0, _, _, _, _ => rfl
  | m + 1, i, st, j, h => by rw [turnsR, turnsR_far held m (i + 1) _ (by omega), stepR_far _ _ (by omega)]
theorem fillR_far (held : List Int) (m : Nat) : ∀ (f : Nat) (now : List Int) (left : Int) {j : Nat}, m ≤ j → (fillR held m f now left).getD j 0 = now.getD j 0
  | 0, _, _, _, _ => rfl
  | f + 1, now, left, j, h => by
    unfold fillR
    split
    · split
      · rw [fillR_far held m f _ _ h, turnsR_far _ _ _ _ (by omega)]
      · rw [turnsR_far _ _ _ _ (by omega)]
    · rfl
theorem next_same (base held : List Int) (left : Int) : outR base (fillR held (min base.length 64) 4096 base left) 0 base.length = outR base (fillR held (min base.length 64) 4096 base left) 0 (min base.length 64) := by
  by_cases h : base.length ≤ 64
  · rw [Nat.min_eq_left h]
  · have e : base.length = min base.length 64 + (base.length - min base.length 64) := by omega
    generalize hm : min base.length 64 = m at *
    rw [e, outR_add, outR_same base _ _ (0 + m) fun j hj => fillR_far _ _ _ _ _ (by omega), List.append_nil]

theorem eq_ids (a b : Idn) {α : Type} (f : Bool → Option α) : aEq (.struct [.int, .int]) (.agg (icells a)) (.agg (icells b)) f = f (decide (a = b)) := by
  obtain ⟨a1, a2⟩ := a
  obtain ⟨b1, b2⟩ := b
  simp only [aEq, icells, eqCells, if_true, Option.map_some]
  congr 1
  by_cases h1 : a1 = b1 <;> by_cases h2 : a2 = b2 <;> simp [h1, h2]

/-- Slices of numbers that come as arguments. -/
theorem put_u64 (o : Option (List Int)) (s : Store) (hw : (shSlice (shInt .u64)).wf o) : ∃ v xs, ((shSlice (shInt .u64)).put o s).1 = [v] ∧ IsSl ((shSlice (shInt .u64)).put o s).2 v .u64 xs ∧ U xs ∧ xs.length ≤ maxLen ∧ Ext s ((shSlice (shInt .u64)).put o s).2 := by
  cases o with
  | none => exact ⟨.nilsl, [], rfl, .inl ⟨rfl, rfl⟩, fun x hx => by simp at hx, by simp, Ext.refl _⟩
  | some l =>
    have hp : ∀ l : List Int, (shInt .u64).putL l s = (l.map (.int .u64), s) := fun l => by
      induction l with
      | nil => rfl
      | cons x l ih => simp only [Sh.putL, shInt, List.map_cons]; simp only [shInt] at ih; rw [ih]; rfl
    obtain ⟨h1, h2⟩ := hw l rfl
    have hput : (shSlice (shInt .u64)).put (some l) s = ([.sl s.next 0 l.length 1 l.length], s.push (.cells (l.map (.int .u64)) true)) := by
      show ([AV.sl ((shInt .u64).putL l s).2.next 0 l.length 1 (l.length * 1)], ((shInt .u64).putL l s).2.push (.cells ((shInt .u64).putL l s).1 true)) = _
      rw [hp, Nat.mul_one]
    rw [hput]
    refine ⟨.sl s.next 0 l.length 1 l.length, l, rfl, .inr ⟨s.next, true, rfl, Nat.lt_succ_self _, by rw [get_push, if_pos rfl]⟩, fun x hx => ?_, h1, Ext.push _ _⟩
    have k : (Lit.int IntKind.u64 x).wf = true := h2 x hx
    simp [Lit.wf, IntKind.min, IntKind.max, IntKind.bits, IntKind.signed] at k
    omega
end Go.Proofs.Ytmaidlndikcgkaa.Sim
