/- Seat 06: the law WireMarked, its run. No condition. -/
import Derived.Test.YtkfdgegmahbkiaaB06S
import Derived.Test.YtkfdgegmahbkiaaFunMarked
namespace Go.Proofs.Ytkfdgegmahbkiaa.Sim
set_option linter.unusedSimpArgs false
set_option linter.unusedVariables false
theorem law_marked {s : Store} {x0 : AV} {b : List Int} (h0 : IsV s x0 .u8 b) (hu : ∀ x ∈ b, 0 ≤ x ∧ x < 256) (hml : (b.length : Int) ≤ maxLen) : ∃ s', rn 5013 4 [x0] s = some (.bool true, s') := by
  rw [F4.eq]
  unfold F4.f F4.p0
  rw [lenV h0, gtr_i]
  by_cases h : b.length > 3000
  · rw [decide_eq_true (show (b.length : Int) > 3000 by omega), if_t, awake_rn 5011]
    exact ⟨s, rfl⟩
  · rw [decide_eq_false (show ¬ (b.length : Int) > 3000 by omega), if_f]
    obtain ⟨m, sa, ka, om, ea⟩ := rmark_run h0 hu 5010 (by omega) (by omega) (by omega)
    have ka : rn 5012 11 [x0] s = some (m, sa) := ka
    obtain ⟨w, sb, kb, vw, eb⟩ := whole_run (h0.ext ea) hu 5009 (by omega) (by omega) (by omega)
    have kb : rn 5012 12 [x0] sa = some (w, sb) := kb
    have vm := om.is.ext eb
    have um := markB_u8 hu
    have uw := wholeB_u8 hu
    have lm : (markB b).length ≤ 3004 := by unfold markB; simp only [List.length_append, footB_len]; omega
    have lw := wholeB_len b
    rw [ka, bnd]
    simp only
    rw [kb, bnd]
    simp only
    -- one frame: read, and put in a row of its own
    have get : ∀ {st : Store} {v : AV} {xs : List Int}, IsV st v .u8 xs → (∀ x ∈ xs, 0 ≤ x ∧ x < 256) → xs.length ≤ 3013 → ∃ c s1, rn 5012 8 [v] st = some (.tuple [.agg (fcs (getI xs).1 c), .int .i64 (getI xs).2], s1) ∧ IsFc s1 c (getI xs).1 ∧ WfF (getI xs).1 ∧ Ext st s1 := fun h1 h2 h3 => by
      obtain ⟨c1, s1, k1, f1, w1, e1⟩ := get_run6 h1 h2 5000 (by omega) (by omega) (by omega)
      exact ⟨c1, s1, k1, f1, w1, e1⟩
    have rget : ∀ {st : Store} {v : AV} {xs : List Int}, IsV st v .u8 xs → (∀ x ∈ xs, 0 ≤ x ∧ x < 256) → xs.length ≤ 3013 → ∃ c s1, rn 5012 9 [v] st = some (.tuple [.agg (fcs (getI xs).1 c), .int .i64 (getI xs).2], s1) ∧ IsFc s1 c (getI xs).1 ∧ Ext st s1 := fun h1 h2 h3 => by
      obtain ⟨c1, s1, k1, f1, e1⟩ := rget_run h1 h2 5000 (by omega) (by omega) (by omega)
      exact ⟨c1, s1, k1, f1, e1⟩
    have row : ∀ {st : Store} (cs : List AV), cs.length = 16 → (st.push (.cells cs false)).get st.next = .cells cs false ∧ st.next < (st.push (.cells cs false)).next ∧ Ext st (st.push (.cells cs false)) := fun {st} cs _ => ⟨by rw [get_push, if_pos rfl], Nat.lt_succ_self _, Ext.push _ _⟩
    obtain ⟨c1, s1, k1, f1, w1, e1⟩ := get vm um (by omega)
    rw [k1, bnd]
    simp only [x2_0, x2_1]
    rw [new_all (n := 16) (s := s1) rfl rfl]
    obtain ⟨g1, l1, p1⟩ := row (st := s1) (fcs (getI (markB b)).1 c1) rfl
    generalize s1.push (.cells (fcs (getI (markB b)).1 c1) false) = t1 at *
    have vw1 := vw.ext (e1.trans p1)
    have vm1 := vm.ext (e1.trans p1)
    obtain ⟨c2, s2, k2, f2, w2, e2⟩ := get vw1 uw (by omega)
    rw [k2, bnd]
    simp only [x2_0, x2_1]
    rw [new_all (n := 16) (s := s2) rfl rfl]
    obtain ⟨g2, l2, p2⟩ := row (st := s2) (fcs (getI (wholeB b)).1 c2) rfl
    generalize s2.push (.cells (fcs (getI (wholeB b)).1 c2) false) = t2 at *
    have e12 := e2.trans p2
    have g12 := (e12.get _ l1).trans g1
    have l12 := Nat.lt_of_lt_of_le l1 e12.next
    obtain ⟨c3, s3, k3, f3, e3⟩ := rget (vm1.ext e12) um (by omega)
    rw [k3, bnd]
    simp only [x2_0, x2_1]
    rw [new_all (n := 16) (s := s3) rfl rfl]
    obtain ⟨g3, l3, p3⟩ := row (st := s3) (fcs (getI (markB b)).1 c3) rfl
    generalize s3.push (.cells (fcs (getI (markB b)).1 c3) false) = t3 at *
    have e23 := e3.trans p3
    have g13 := (e23.get _ l12).trans g12
    have l13 := Nat.lt_of_lt_of_le l12 e23.next
    have g23 := (e23.get _ l2).trans g2
    have l23 := Nat.lt_of_lt_of_le l2 e23.next
    obtain ⟨c4, s4, k4, f4, e4⟩ := rget (vw1.ext (e12.trans e23)) uw (by omega)
    rw [k4, bnd]
    simp only [x2_0, x2_1]
    rw [new_all (n := 16) (s := s4) rfl rfl]
    obtain ⟨g4, l4, p4⟩ := row (st := s4) (fcs (getI (wholeB b)).1 c4) rfl
    generalize s4.push (.cells (fcs (getI (wholeB b)).1 c4) false) = t4 at *
    have e34 := e4.trans p4
    have g14 := (e34.get _ l13).trans g13
    have g24 := (e34.get _ l23).trans g23
    have g34 := (e34.get _ l3).trans g3
    have l24 := Nat.lt_of_lt_of_le l23 e34.next
    have F1 := f1.ext ((p1.trans e12).trans (e23.trans e34))
    have F2 := f2.ext (p2.trans (e23.trans e34))
    have F3' := f3.ext (p3.trans e34)
    have F4' := f4.ext p4
    obtain ⟨s5, k5, e5⟩ := same_run6 F1 F3' w1 5002 (by omega) (by omega)
    have k5 : rn 5012 10 [.agg (fcs (getI (markB b)).1 c1), .agg (fcs (getI (markB b)).1 c3)] t4 = some (.bool true, s5) := k5
    obtain ⟨s6, k6, e6⟩ := same_run6 (F2.ext e5) (F4'.ext e5) w2 5002 (by omega) (by omega)
    have k6 : rn 5012 10 [.agg (fcs (getI (wholeB b)).1 c2), .agg (fcs (getI (wholeB b)).1 c4)] s5 = some (.bool true, s6) := k6
    have aw : ∀ st : Store, rn 5012 7 [] st = some (.bool true, st) := fun st => awake_rn 5011 st
    have ld1 : ∀ f : AV → Rz, aLoadN 16 (.ptr s1.next 0 16) t4 f = f (.agg (fcs (getI (markB b)).1 c1)) := fun f => rld_all (n := 16) g14 rfl f
    have ld3 : ∀ f : AV → Rz, aLoadN 16 (.ptr s3.next 0 16) t4 f = f (.agg (fcs (getI (markB b)).1 c3)) := fun f => rld_all (n := 16) g34 rfl f
    have ld2 : ∀ f : AV → Rz, aLoadN 16 (.ptr s2.next 0 16) s5 f = f (.agg (fcs (getI (wholeB b)).1 c2)) := fun f => rld_all (n := 16) ((e5.get _ l24).trans g24) rfl f
    have ld4 : ∀ f : AV → Rz, aLoadN 16 (.ptr s4.next 0 16) s5 f = f (.agg (fcs (getI (wholeB b)).1 c4)) := fun f => rld_all (n := 16) ((e5.get _ l4).trans g4) rfl f
    refine ⟨s6, ?_⟩
    simp only [bnd, guard_tt, guard_ff, guard_tf, guard_ft, pick_t, pick_f, if_t, if_f, add_i, sub_i, lss_i, leq_i, gtr_i, geq_i, eql_i, neq_i, min_i, max_i, conv_i, len_sl, len_nil, not_b, cells_agg, new_s, fld_p, nil_p, beq_self_eq_true, ld1, ld3, k5, ld2, ld4, k6, aw]
set_option linter.unusedVariables false in
theorem lawWireMarked (a0 : _) (w0 : (shSlice (shInt .u8)).wf a0) : ∃ k s', rn k 4 ([] ++ ((shSlice (shInt .u8)).put a0 (Store.empty)).1) ((shSlice (shInt .u8)).put a0 Store.empty).2 = some (.bool true, s') := by
  obtain ⟨v0, b, p0, h0, u0, m0, _⟩ := put_num .u8 a0 Store.empty w0
  obtain ⟨s', k⟩ := law_marked h0 (fun x hx => u8_of (u0 x hx)) (by exact_mod_cast m0)
  rw [p0]
  exact ⟨5013, s', k⟩
end Go.Proofs.Ytkfdgegmahbkiaa.Sim
