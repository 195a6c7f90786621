/- Seat 06: the law WireOne, its run. No condition. -/
import Derived.Test.YtkfdgegmahbkiaaB06V
import Derived.Test.YtkfdgegmahbkiaaFunOne
namespace Go.Proofs.Ytkfdgegmahbkiaa.Sim
set_option linter.unusedSimpArgs false
set_option linter.unusedVariables false
theorem law_one6 {s : Store} {x0 : AV} {b : List Int} (h0 : IsV s x0 .u8 b) (hu : ∀ x ∈ b, 0 ≤ x ∧ x < 256) (hml : (b.length : Int) ≤ maxLen) : ∃ s', rn 40013 5 [x0] s = some (.bool true, s') := by
  rw [F5.eq]
  unfold F5.f F5.p0
  rw [lenV h0, gtr_i]
  by_cases h : b.length > 3000
  · rw [decide_eq_true (show (b.length : Int) > 3000 by omega), if_t, awake_rn 40011]
    exact ⟨s, rfl⟩
  · rw [decide_eq_false (show ¬ (b.length : Int) > 3000 by omega), if_f]
    obtain ⟨c1, s1, k1, f1, w1, e1⟩ := get_run6 h0 hu 40000 (by omega) (by omega) (by omega)
    have k1 : rn 40012 8 [x0] s = some (.tuple [.agg (fcs (getI b).1 c1), .int .i64 (getI b).2], s1) := k1
    rw [k1, bnd]
    simp only [x2_0, x2_1]
    rw [new_all (n := 16) (s := s1) rfl rfl]
    have e2 := Ext.push s1 (.cells (fcs (getI b).1 c1) false)
    have g2 : (s1.push (.cells (fcs (getI b).1 c1) false)).get s1.next = .cells (fcs (getI b).1 c1) false := by rw [get_push, if_pos rfl]
    have l2 : s1.next < (s1.push (.cells (fcs (getI b).1 c1) false)).next := Nat.lt_succ_self _
    have f2 := f1.ext e2
    generalize s1.push (.cells (fcs (getI b).1 c1) false) = t at *
    have aw : ∀ st : Store, rn 40012 7 [] st = some (.bool true, st) := fun st => awake_rn 40011 st
    rw [neq_i]
    have ld : ∀ {u : Store}, Ext t u → ∀ f : AV → Rz, aLoadN 16 (.ptr s1.next 0 16) u f = f (.agg (fcs (getI b).1 c1)) := fun e f => rld_all (n := 16) ((e.get _ l2).trans g2) rfl f
    by_cases c : (getI b).2 = 0
    · rw [show ((getI b).2 != 0) = false from by simp [c], if_f, ld (Ext.refl t)]
      obtain ⟨o1, o2, o3⟩ := one_law hu c
      obtain ⟨v, s3, k3, p3, e3⟩ := put_run6 f2 w1 (by omega) 40000 (by omega) (by omega)
      have k3 : rn 40012 13 [.agg (fcs (getI b).1 c1)] t = some (.tuple [v, .int .i64 (if mayC (getI b).1 = true then 0 else 1)], s3) := k3
      rw [if_pos o1] at k3
      obtain ⟨v3, _⟩ := p3 o1
      rw [o2] at v3
      obtain ⟨s4, k4, e4⟩ := may_run6 (f2.ext e3) w1 40002 (by omega) (by omega)
      have k4 : rn 40012 14 [.agg (fcs (getI b).1 c1)] s3 = some (.bool (mayC (getI b).1), s4) := k4
      rw [o1] at k4
      have v4 := v3.ext e4
      have h4 := h0.ext (((e1.trans e2).trans e3).trans e4)
      refine ⟨s4, ?_⟩
      rw [k3, bnd]
      simp only [x2_0, x2_1]
      rw [ld e3, k4, bnd]
      simp only [bnd, guard_tt, guard_ff, guard_tf, guard_ft, pick_t, pick_f, if_t, if_f, add_i, sub_i, lss_i, leq_i, gtr_i, geq_i, eql_i, neq_i, min_i, max_i, conv_i, len_sl, len_nil, not_b, cells_agg, new_s, fld_p, nil_p, beq_self_eq_true, strV v4, strV h4, eq_str_same, aw]
    · rw [show ((getI b).2 != 0) = true from by simpa using c, if_t, ld (Ext.refl t)]
      have hz : (getI b).1 = FI.zero := by
        unfold getI at c ⊢
        repeat' split
        all_goals first | rfl | skip
        rename_i q1 q2 q3 q4 q5
        rw [if_neg q1, if_neg q2, if_neg q3, if_neg q4, if_neg q5] at c
        exact absurd rfl c
      have hbz : ∀ f : List AV → Rz, aBuild [] [AV.int .u8 0, AV.int .u8 0, AV.int .u8 0, AV.int .u8 0, AV.int .u64 0, AV.int .u64 0, AV.int .u32 0, AV.int .u32 0, AV.int .u32 0, AV.int .u64 0, AV.int .u64 0, AV.nilsl, AV.nilsl, AV.nilsl, AV.nilsl, AV.nilsl] f = f (fcs FI.zero cN) := fun f => rfl
      rw [hz] at f2 w1 ⊢
      obtain ⟨s5, k5, e5⟩ := same_run6 f2 (c' := cN) (isfc_nil rfl rfl rfl rfl rfl) w1 40002 (by omega) (by omega)
      have k5 : rn 40012 10 [.agg (fcs FI.zero c1), .agg (fcs FI.zero cN)] t = some (.bool true, s5) := k5
      refine ⟨s5, ?_⟩
      rw [hbz, k5, bnd]
      simp only [bnd, guard_tt, guard_ff, guard_tf, guard_ft, pick_t, pick_f, if_t, if_f, add_i, sub_i, lss_i, leq_i, gtr_i, geq_i, eql_i, neq_i, min_i, max_i, conv_i, len_sl, len_nil, not_b, cells_agg, new_s, fld_p, nil_p, aw]
set_option linter.unusedVariables false in
theorem lawWireOne (a0 : _) (w0 : (shSlice (shInt .u8)).wf a0) : ∃ k s', rn k 5 ([] ++ ((shSlice (shInt .u8)).put a0 (Store.empty)).1) ((shSlice (shInt .u8)).put a0 Store.empty).2 = some (.bool true, s') := by
  obtain ⟨v0, b, p0, h0, u0, m0, _⟩ := put_num .u8 a0 Store.empty w0
  obtain ⟨s', k⟩ := law_one6 h0 (fun x hx => u8_of (u0 x hx)) (by exact_mod_cast m0)
  rw [p0]
  exact ⟨40013, s', k⟩
end Go.Proofs.Ytkfdgegmahbkiaa.Sim
