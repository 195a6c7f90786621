/- Layer 29: WitnessBounds. No condition. -/
import Derived.Test.YtjbgdpfkmcibbaaGreatDoorB29C
namespace Go.Proofs.YtjbgdpfkmcibbaaGreatDoor.Sim
set_option linter.unusedSimpArgs false
set_option linter.unusedVariables false
set_option maxRecDepth 100000

theorem eq_cfg (c : Cfg) {α : Type} (f : Bool → Option α) : aEq (.struct [.int, .int, .int, .int, .int, .int, .int, .int, .int, .int, .int, .int, .int, .int, .int, .int]) (.agg c.cells) (.agg c.cells) f = f true := by
  simp only [aEq, Cfg.cells, eqCells, if_true, Option.map_some, beq_self_eq_true, Bool.and_true, Bool.and_self, and_self]
theorem law_bounds (c : Cfg) (n size : Int) (s : Store) : ∃ s', rn 6011 5 [.agg c.cells, .int .i64 n, .int .i64 size] s = some (.bool true, s') := by
  rw [show 6011 = 6010 + 1 from rfl, F5.eq]
  unfold F5.f F5.p4
  have aw : ∀ t, rn 6010 7 [] t = some (.bool true, t) := fun t => awake_rn 6009 t
  have g0 : (s.push (.cells c.cells false)).get s.next = .cells c.cells false := by rw [get_push, if_pos rfl]
  have hx : s.next < (s.push (.cells c.cells false)).next := Nat.lt_succ_self _
  simp only [cells_agg, new_s]
  rw [show c.cells.length = 16 from rfl]
  generalize s.push (.cells c.cells false) = s1 at g0 hx ⊢
  generalize s.next = x at g0 hx ⊢
  unfold F5.p3
  have l := fun {α : Type} (f : AV → Option α) => cfg_ld (j := 2) g0 rfl f
  have hcase : (c.payload > 5000 ∧ c.payload ≤ 1048576) ∨ (c.payload ≤ 5000 ∨ 1048576 < c.payload) := by omega
  rcases hcase with ⟨c1, c2⟩ | hl
  · simp only [fld_p, l, bnd, guard_tt, guard_ff, guard_tf, guard_ft, pick_t, pick_f, if_t, if_f, add_i, sub_i, lss_i, leq_i, gtr_i, geq_i, eql_i, neq_i, min_i, max_i, conv_i, len_sl, len_nil, not_b, cells_agg, new_s, fld_p, nil_p, decide_eq_true c1, decide_eq_true c2, aw]
    exact ⟨_, rfl⟩
  have hgo : (aFieldAddr 2 (.ptr x 0 16) fun v1 => aLoad1 v1 s1 fun v2 => aBin .gtr v2 (AV.int .i64 5000) fun v3 => (aGuard v3 true (aFieldAddr 2 (.ptr x 0 16) fun v5 => some (v5, s1)) (some (AV.tuple [], s1))).bind fun g4 => (aGuard v3 true (aLoad1 g4.1 g4.2 fun v7 => some (v7, g4.2)) (some (AV.tuple [], g4.2))).bind fun g6 => (aGuard v3 true (aBin .leq g6.1 (AV.int .i64 1048576) fun v9 => some (v9, g6.2)) (some (AV.tuple [], g6.2))).bind fun g8 => aPick v3 g8.1 (AV.bool false) fun v10 => aIf v10 ((rn 6010 7 [] g8.2).bind fun q11 => some (q11.1, q11.2)) (F5.p2 6010 (.int .i64 n) (.int .i64 size) (.ptr x 0 16) g8.2)) = F5.p2 6010 (.int .i64 n) (.int .i64 size) (.ptr x 0 16) s1 := by
    by_cases c1 : c.payload > 5000
    · have c2 : ¬ c.payload ≤ 1048576 := by omega
      simp only [fld_p, l, bnd, guard_tt, guard_ff, guard_tf, guard_ft, pick_t, pick_f, if_t, if_f, add_i, sub_i, lss_i, leq_i, gtr_i, geq_i, eql_i, neq_i, min_i, max_i, conv_i, len_sl, len_nil, not_b, cells_agg, new_s, fld_p, nil_p, decide_eq_true c1, decide_eq_false c2]
    · simp only [fld_p, l, bnd, guard_tt, guard_ff, guard_tf, guard_ft, pick_t, pick_f, if_t, if_f, add_i, sub_i, lss_i, leq_i, gtr_i, geq_i, eql_i, neq_i, min_i, max_i, conv_i, len_sl, len_nil, not_b, cells_agg, new_s, fld_p, nil_p, decide_eq_false c1]
  rw [hgo]
  clear hgo
  unfold F5.p2
  obtain ⟨s2, r2, e2⟩ := group_run 6009 n size s1
  rw [r2, bnd]
  simp only [new_s]
  rw [show z16.length = 16 from rfl]
  have g2 := (e2.get x hx).trans g0
  have hx2 := Nat.lt_of_lt_of_le hx e2.next
  rw [rst_all (n := 16) (s := s2.push (.cells z16 false)) (cs := z16) (by rw [get_push, if_pos rfl]) (by rfl) (by rfl)]
  have g3 : ((s2.push (.cells z16 false)).set s2.next (.cells (grpX n size).cells false)).get s2.next = .cells (grpX n size).cells false := by rw [get_set, if_pos rfl]
  have g3x : ((s2.push (.cells z16 false)).set s2.next (.cells (grpX n size).cells false)).get x = .cells c.cells false := by
    rw [get_set, if_neg (by omega), get_push, if_neg (by omega)]; exact g2
  have hy : s2.next < ((s2.push (.cells z16 false)).set s2.next (.cells (grpX n size).cells false)).next := Nat.lt_succ_self _
  have hx3 : x < ((s2.push (.cells z16 false)).set s2.next (.cells (grpX n size).cells false)).next := Nat.lt_succ_of_lt hx2
  generalize (s2.push (.cells z16 false)).set s2.next (.cells (grpX n size).cells false) = s3 at g3 g3x hy hx3 ⊢
  generalize s2.next = y at g3 hy ⊢
  unfold F5.p1
  rw [rld_all (n := 16) g3x (by rfl)]
  simp only [bnd]
  obtain ⟨s4, r4, e4⟩ := bound_run 6004 c s3
  have r4' : rn 6010 15 [.agg c.cells] s3 = some (.int .i64 (bndB c), s4) := r4
  simp only [r4', bnd]
  have g4 := (e4.get x hx3).trans g3x
  rw [rld_all (n := 16) g4 (by rfl)]
  simp only [bnd]
  rw [rld_all (n := 16) g3x (by rfl)]
  simp only [bnd, aSame_self]
  obtain ⟨s5, r5, e5⟩ := rbound_run (k := 6007) (by omega) c hl s4
  have r5' : rn 6010 16 [.agg c.cells] s4 = some (.int .i64 (bndB c), s5) := r5
  have hbe : (bndB c == bndB c) = true := beq_self_eq_true _
  simp only [r5', bnd, guard_tt, guard_ff, guard_tf, guard_ft, pick_t, pick_f, if_t, if_f, add_i, sub_i, lss_i, leq_i, gtr_i, geq_i, eql_i, neq_i, min_i, max_i, conv_i, len_sl, len_nil, not_b, cells_agg, new_s, fld_p, nil_p, hbe]
  have e45 := e4.trans e5
  have g5 := (e45.get y hy).trans g3
  have hy5 := Nat.lt_of_lt_of_le hy e45.next
  rw [rld_all (n := 16) g5 (by rfl)]
  simp only [bnd]
  obtain ⟨s6, r6, e6⟩ := rgroup_run 6008 n size s5
  have r6' : rn 6010 11 [.int .i64 n, .int .i64 size] s5 = some (.agg (grpX n size).cells, s6) := r6
  simp only [r6', bnd]
  have g6 := (e6.get y hy5).trans g5
  have hy6 := Nat.lt_of_lt_of_le hy5 e6.next
  rw [rld_all (n := 16) g6 (by rfl)]
  simp only [bnd, aSame_self, eq_cfg, bnd, guard_tt, guard_ff, guard_tf, guard_ft, pick_t, pick_f, if_t, if_f, add_i, sub_i, lss_i, leq_i, gtr_i, geq_i, eql_i, neq_i, min_i, max_i, conv_i, len_sl, len_nil, not_b, cells_agg, new_s, fld_p, nil_p]
  rw [rld_all (n := 16) g6 (by rfl)]
  have r7 := refMay_run 6008 (grpX n size) s6
  rw [grp_may] at r7
  have r7' : rn 6010 17 [.agg (grpX n size).cells] s6 = some (.bool true, s6.push (.cells (grpX n size).cells false)) := r7
  simp only [r7', bnd, guard_tt, guard_ff, guard_tf, guard_ft, pick_t, pick_f, if_t, if_f, add_i, sub_i, lss_i, leq_i, gtr_i, geq_i, eql_i, neq_i, min_i, max_i, conv_i, len_sl, len_nil, not_b, cells_agg, new_s, fld_p, nil_p]
  have e7 := Ext.push s6 (.cells (grpX n size).cells false)
  generalize s6.push (.cells (grpX n size).cells false) = s7 at e7 ⊢
  have g7 := (e7.get y hy6).trans g6
  rw [rld_all (n := 16) g7 (by rfl)]
  simp only [bnd]
  obtain ⟨s8, r8, e8⟩ := bound_run 6004 (grpX n size) s7
  have r8' : rn 6010 15 [.agg (grpX n size).cells] s7 = some (.int .i64 (bndB (grpX n size)), s8) := r8
  have hp : bndB (grpX n size) > 0 := grp_pos n size
  simp only [r8', bnd, guard_tt, guard_ff, guard_tf, guard_ft, pick_t, pick_f, if_t, if_f, add_i, sub_i, lss_i, leq_i, gtr_i, geq_i, eql_i, neq_i, min_i, max_i, conv_i, len_sl, len_nil, not_b, cells_agg, new_s, fld_p, nil_p, decide_eq_true hp, aw, F5.p0]
  exact ⟨_, rfl⟩
end Go.Proofs.YtjbgdpfkmcibbaaGreatDoor.Sim
