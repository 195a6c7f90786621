/- Seat 06: the law WireGets, its run. No condition. -/
import Derived.Test.YtkfdgegmahbkiaaB06R
import Derived.Test.YtkfdgegmahbkiaaFunGets
namespace Go.Proofs.Ytkfdgegmahbkiaa.Sim
set_option linter.unusedSimpArgs false
set_option linter.unusedVariables false
theorem law_gets {s : Store} {x0 : AV} {b : List Int} (h0 : IsV s x0 .u8 b) (hu : ∀ x ∈ b, 0 ≤ x ∧ x < 256) (hml : (b.length : Int) ≤ maxLen) : ∃ s', rn 5013 3 [x0] s = some (.bool true, s') := by
  rw [F3.eq]
  unfold F3.f F3.p0
  rw [lenV h0, gtr_i]
  by_cases h : b.length > 3000
  · rw [decide_eq_true (show (b.length : Int) > 3000 by omega), if_t, awake_rn 5011]
    exact ⟨s, rfl⟩
  · rw [decide_eq_false (show ¬ (b.length : Int) > 3000 by omega), if_f]
    obtain ⟨c1, s1, k1, f1, w1, e1⟩ := get_run6 h0 hu 5000 (by omega) (by omega) (by omega)
    have k1 : rn 5012 8 [x0] s = some (.tuple [.agg (fcs (getI b).1 c1), .int .i64 (getI b).2], s1) := k1
    rw [k1, bnd]
    simp only [x2_0, x2_1]
    rw [new_all (n := 16) (s := s1) rfl rfl]
    have e2 := Ext.push s1 (.cells (fcs (getI b).1 c1) false)
    have g2 : (s1.push (.cells (fcs (getI b).1 c1) false)).get s1.next = .cells (fcs (getI b).1 c1) false := by rw [get_push, if_pos rfl]
    have l2 : s1.next < (s1.push (.cells (fcs (getI b).1 c1) false)).next := Nat.lt_succ_self _
    have f2 := f1.ext e2
    generalize s1.push (.cells (fcs (getI b).1 c1) false) = t at *
    obtain ⟨c2, s3, k3, f3, e3⟩ := rget_run (h0.ext (e1.trans e2)) hu 5000 (by omega) (by omega) (by omega)
    have k3 : rn 5012 9 [x0] t = some (.tuple [.agg (fcs (getI b).1 c2), .int .i64 (getI b).2], s3) := k3
    rw [k3, bnd]
    simp only [x2_0, x2_1]
    rw [new_all (n := 16) (s := s3) rfl rfl]
    have e4 := Ext.push s3 (.cells (fcs (getI b).1 c2) false)
    have g4 : (s3.push (.cells (fcs (getI b).1 c2) false)).get s3.next = .cells (fcs (getI b).1 c2) false := by rw [get_push, if_pos rfl]
    have g24 : (s3.push (.cells (fcs (getI b).1 c2) false)).get s1.next = .cells (fcs (getI b).1 c1) false := by rw [e4.get _ (Nat.lt_of_lt_of_le l2 e3.next), e3.get _ l2]; exact g2
    have f24 := f2.ext (e3.trans e4)
    have f34 := f3.ext e4
    generalize s3.push (.cells (fcs (getI b).1 c2) false) = u at *
    obtain ⟨s5, k5, e5⟩ := same_run6 f24 f34 w1 5002 (by omega) (by omega)
    have k5 : rn 5012 10 [.agg (fcs (getI b).1 c1), .agg (fcs (getI b).1 c2)] u = some (.bool true, s5) := k5
    have aw : ∀ st : Store, rn 5012 7 [] st = some (.bool true, st) := fun st => awake_rn 5011 st
    have ld1 : ∀ f : AV → Rz, aLoadN 16 (.ptr s1.next 0 16) u f = f (.agg (fcs (getI b).1 c1)) := fun f => rld_all (n := 16) g24 rfl f
    have ld2 : ∀ f : AV → Rz, aLoadN 16 (.ptr s3.next 0 16) u f = f (.agg (fcs (getI b).1 c2)) := fun f => rld_all (n := 16) g4 rfl f
    refine ⟨s5, ?_⟩
    simp only [bnd, guard_tt, guard_ff, guard_tf, guard_ft, pick_t, pick_f, if_t, if_f, add_i, sub_i, lss_i, leq_i, gtr_i, geq_i, eql_i, neq_i, min_i, max_i, conv_i, len_sl, len_nil, not_b, cells_agg, new_s, fld_p, nil_p, beq_self_eq_true, ld1, ld2, k5, aw]
set_option linter.unusedVariables false in
theorem lawWireGets (a0 : _) (w0 : (shSlice (shInt .u8)).wf a0) : ∃ k s', rn k 3 ([] ++ ((shSlice (shInt .u8)).put a0 (Store.empty)).1) ((shSlice (shInt .u8)).put a0 Store.empty).2 = some (.bool true, s') := by
  obtain ⟨v0, b, p0, h0, u0, m0, _⟩ := put_num .u8 a0 Store.empty w0
  obtain ⟨s', k⟩ := law_gets h0 (fun x hx => u8_of (u0 x hx)) (by exact_mod_cast m0)
  rw [p0]
  exact ⟨5013, s', k⟩
end Go.Proofs.Ytkfdgegmahbkiaa.Sim
