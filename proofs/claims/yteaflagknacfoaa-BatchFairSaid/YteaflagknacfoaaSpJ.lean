/- Seat 05: the document's example; the law BatchNext's run. No condition. -/
import Derived.Test.YteaflagknacfoaaSpI
import Derived.Test.YteaflagknacfoaaSimQ
namespace Go.Proofs.Yteaflagknacfoaa.Sim
set_option linter.unusedSimpArgs false

theorem outR_add (base now : List Int) : ∀ (a i b : Nat), outR base now i (a + b) = outR base now i a ++ outR base now (i + a) b
  | 0, i, b => by simp [outR]
  | a + 1, i, b => by
    rw [show a + 1 + b = (a + b) + 1 by omega, outR, outR, outR_add base now a (i + 1) b, show i + 1 + a = i + (a + 1) by omega]
    split <;> simp
theorem outR_same (base now : List Int) : ∀ (m i : Nat), (∀ j, i ≤ j → now.getD j 0 = base.getD j 0) → outR base now i m = []
  | 0, _, _ => rfl
  | m + 1, i, h => by
    rw [outR, if_neg (by have := h i (Nat.le_refl _); omega)]
    exact outR_same base now m (i + 1) fun j hj => h j (by omega)
theorem stepR_far (held : List Int) (st : List Int × Int × Bool) {i j : Nat} (h : i ≠ j) : (stepR held st i).1.getD j 0 = st.1.getD j 0 := by
  unfold stepR
  split
  · simp only [List.getD_eq_getElem?_getD, List.getElem?_set, if_neg h]
  · rfl
theorem turnsR_far (held : List Int) : ∀ (m i : Nat) (st : List Int × Int × Bool) {j : Nat}, i + m ≤ j → (turnsR held i m st).1.getD j 0 = st.1.getD j 0
  | 0, _, _, _, _ => rfl
  | m + 1, i, st, j, h => by rw [turnsR, turnsR_far held m (i + 1) _ (by omega), stepR_far _ _ (by omega)]
theorem fillR_far (held : List Int) (m : Nat) : ∀ (f : Nat) (now : List Int) (left : Int) {j : Nat}, m ≤ j → (fillR held m f now left).getD j 0 = now.getD j 0
  | 0, _, _, _, _ => rfl
  | f + 1, now, left, j, h => by
    unfold fillR
    split
    · split
      · rw [fillR_far held m f _ _ h, turnsR_far _ _ _ _ (by omega)]
      · rw [turnsR_far _ _ _ _ (by omega)]
    · rfl
theorem next_same (base held : List Int) (left : Int) : outR base (fillR held (min base.length 64) 4096 base left) 0 base.length = outR base (fillR held (min base.length 64) 4096 base left) 0 (min base.length 64) := by
  by_cases h : base.length ≤ 64
  · rw [Nat.min_eq_left h]
  · have e : base.length = min base.length 64 + (base.length - min base.length 64) := by omega
    generalize hm : min base.length 64 = m at *
    rw [e, outR_add, outR_same base _ _ (0 + m) fun j hj => fillR_far _ _ _ _ _ (by omega), List.append_nil]

theorem eq_ids (a b : Idn) {α : Type} (f : Bool → Option α) : aEq (.struct [.int, .int]) (.agg (icells a)) (.agg (icells b)) f = f (decide (a = b)) := by
  obtain ⟨a1, a2⟩ := a
  obtain ⟨b1, b2⟩ := b
  simp only [aEq, icells, eqCells, if_true, Option.map_some]
  congr 1
  by_cases h1 : a1 = b1 <;> by_cases h2 : a2 = b2 <;> simp [h1, h2]

theorem awake05 {s : Store} : ∃ s', run Try.prog 10000 7 [] s = some (.bool true, s') ∧ Ext s s' := by
  rw [show 10000 = 9999 + 1 from rfl, unisonlaw05_awake.eq]
  unfold unisonlaw05_awake.f unisonlaw05_awake.p0
  have b1 : ∀ (a b : Int) (f : List AV → Option (AV × Store)), aBuild [(0, 1, .int .u64 a), (1, 1, .int .u64 b)] [AV.int .u64 0, AV.int .u64 0] f = f (([a, b] : List Int).map (.int .u64)) := fun a b f => by simp [aBuild, aCells, putAll]
  rw [b1, b1]
  have e1 := Ext.push s (.cells (([0, 0] : List Int).map (.int .u64)) false)
  have g1 : (s.push (.cells (([0, 0] : List Int).map (.int .u64)) false)).get s.next = .cells (([0, 0] : List Int).map (.int .u64)) false := by rw [get_push, if_pos rfl]
  have n1 : (s.push (.cells (([0, 0] : List Int).map (.int .u64)) false)).next = s.next + 1 := rfl
  generalize s.push (.cells (([0, 0] : List Int).map (.int .u64)) false) = s1 at *
  have e2 := Ext.push s1 (.cells (([3, 1] : List Int).map (.int .u64)) false)
  have g2 : (s1.push (.cells (([3, 1] : List Int).map (.int .u64)) false)).get s1.next = .cells (([3, 1] : List Int).map (.int .u64)) false := by rw [get_push, if_pos rfl]
  have n2 : (s1.push (.cells (([3, 1] : List Int).map (.int .u64)) false)).next = s1.next + 1 := rfl
  generalize s1.push (.cells (([3, 1] : List Int).map (.int .u64)) false) = s2 at *
  obtain ⟨v3, s3, k3, r3, e3⟩ := bat_next (s := s2) (x0 := .sl s.next 0 2 1 2) (x1 := .sl s1.next 0 2 1 2) (base := [0, 0]) (held := [3, 1]) (most := 3) 9997 (by omega) (.inr ⟨s.next, false, rfl, by omega, by rw [e2.get _ (by omega)]; exact g1⟩) (.inr ⟨s1.next, false, rfl, by omega, g2⟩) (by intro x hx; simp at hx; omega) (by simp) (by simp) (by omega) (by omega)
  simp only [Nat.reduceAdd] at k3
  have l3 : outR [0, 0] (fillR [3, 1] (min ([0, 0] : List Int).length 64) 4096 [0, 0] (min 3 4096)) 0 (min ([0, 0] : List Int).length 64) = [(0, 1, 2), (1, 1, 1)] := by decide +kernel
  rw [l3] at r3
  rw [k3, bnd]
  obtain ⟨v4, s4, k4, r4, e4⟩ := bat_order r3 (by intro r hr; simp at hr; rcases hr with rfl | rfl <;> simp [WfR]) 9994 (by omega) (by omega) (by simp)
  have l4 : orderR [(0, 1, 2), (1, 1, 1)] = [(0, 1), (1, 1), (0, 2)] := by
    unfold orderR
    rw [if_neg (by decide), show (4096 : Nat) = 2 + 4094 from rfl, ordPre_stay 2 (by intro r hr; simp at hr; rcases hr with rfl | rfl <;> simp)]
    decide
  rw [l4] at r4
  simp only [Nat.reduceAdd] at k4 ⊢
  rw [k4, bnd]
  have b5 : ∀ (f : List AV → Option (AV × Store)), aBuild [(1, 1, .int .u64 1), (2, 1, .int .u64 2)] [AV.int .u8 0, AV.int .u64 0, AV.int .u64 0] f = f (rcells (0, 1, 2)) := fun f => by simp [aBuild, aCells, putAll, rcells]
  have b7 : ∀ (f : List AV → Option (AV × Store)), aBuild [(0, 3, .agg (rcells (0, 1, 2))), (3, 3, .agg (rcells (1, 1, 1)))] [AV.int .u8 0, AV.int .u64 0, AV.int .u64 0, AV.int .u8 0, AV.int .u64 0, AV.int .u64 0] f = f (([(0, 1, 2), (1, 1, 1)] : List Rn).map rcells).flatten := fun f => by simp [aBuild, aCells, putAll, rcells]
  rw [b5, build_run, b7]
  have e5 := Ext.push s4 (.cells (([(0, 1, 2), (1, 1, 1)] : List Rn).map rcells).flatten false)
  have r5 : IsRuns (s4.push (.cells (([(0, 1, 2), (1, 1, 1)] : List Rn).map rcells).flatten false)) (.sl s4.next 0 2 3 6) [(0, 1, 2), (1, 1, 1)] := .inr ⟨s4.next, false, rfl, Nat.lt_succ_self _, by rw [get_push, if_pos rfl]⟩
  simp only
  generalize s4.push (.cells (([(0, 1, 2), (1, 1, 1)] : List Rn).map rcells).flatten false) = s5 at *
  have k5 := same_run (r3.ext (e4.trans e5)) r5 (by simp) 9998 (by simp)
  simp only [Nat.reduceAdd, decide_true] at k5
  have r45 := r4.ext e5
  obtain ⟨p, p1, p2⟩ := elemL (i := 1) ic_len r45 (by simp)
  have p1' : ∀ (f : AV → Option (AV × Store)), aIndexSl 2 v4 (.int .i64 1) f = f p := fun f => p1 .i64 f
  rw [k5, bnd]
  simp only [bnd, guard_tt, guard_ff, guard_tf, guard_ft, pick_t, pick_f, if_t, if_f, add_i, sub_i, lss_i, leq_i, gtr_i, geq_i, eql_i, neq_i, min_i, max_i, conv_i, len_sl, len_nil, not_b, cells_agg, new_s, fld_p, nil_p, lenL r45, p1', p2, build_id, List.length_cons, List.length_nil]
  refine ⟨s5, ?_, (((e1.trans e2).trans e3).trans e4).trans e5⟩
  have b6 : ∀ {α : Type} (f : List AV → Option α), aBuild [(0, 1, .int .u8 1), (1, 1, .int .u64 1)] [AV.int .u8 0, AV.int .u64 0] f = f (icells (1, 1)) := fun f => build_id 1 1 f
  have p1'' : ∀ {α : Type} (f : AV → Option α), aIndexSl 2 v4 (.int .i64 1) f = f p := fun f => p1 .i64 f
  simp [bnd, guard_tt, guard_ff, guard_tf, guard_ft, pick_t, pick_f, if_t, if_f, add_i, sub_i, lss_i, leq_i, gtr_i, geq_i, eql_i, neq_i, min_i, max_i, conv_i, len_sl, len_nil, not_b, cells_agg, new_s, fld_p, nil_p, lenL r45, p1'', p2, eq_ids]

/-- Slices of numbers that come as arguments. -/
theorem put_u64 (o : Option (List Int)) (s : Store) (hw : (shSlice (shInt .u64)).wf o) : ∃ v xs, ((shSlice (shInt .u64)).put o s).1 = [v] ∧ IsSl ((shSlice (shInt .u64)).put o s).2 v .u64 xs ∧ U xs ∧ xs.length ≤ maxLen ∧ Ext s ((shSlice (shInt .u64)).put o s).2 := by
  cases o with
  | none => exact ⟨.nilsl, [], rfl, .inl ⟨rfl, rfl⟩, fun x hx => by simp at hx, by simp, Ext.refl _⟩
  | some l =>
    have hp : ∀ l : List Int, (shInt .u64).putL l s = (l.map (.int .u64), s) := fun l => by
      induction l with
      | nil => rfl
      | cons x l ih => simp only [Sh.putL, shInt, List.map_cons]; simp only [shInt] at ih; rw [ih]; rfl
    obtain ⟨h1, h2⟩ := hw l rfl
    have hput : (shSlice (shInt .u64)).put (some l) s = ([.sl s.next 0 l.length 1 l.length], s.push (.cells (l.map (.int .u64)) true)) := by
      show ([AV.sl ((shInt .u64).putL l s).2.next 0 l.length 1 (l.length * 1)], ((shInt .u64).putL l s).2.push (.cells ((shInt .u64).putL l s).1 true)) = _
      rw [hp, Nat.mul_one]
    rw [hput]
    refine ⟨.sl s.next 0 l.length 1 l.length, l, rfl, .inr ⟨s.next, true, rfl, Nat.lt_succ_self _, by rw [get_push, if_pos rfl]⟩, fun x hx => ?_, h1, Ext.push _ _⟩
    have k : (Lit.int IntKind.u64 x).wf = true := h2 x hx
    simp [Lit.wf, IntKind.min, IntKind.max, IntKind.bits, IntKind.signed] at k
    omega
end Go.Proofs.Yteaflagknacfoaa.Sim
