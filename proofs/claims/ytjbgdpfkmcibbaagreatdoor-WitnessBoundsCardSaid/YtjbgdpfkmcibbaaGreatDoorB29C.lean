/- Layer 29: groups; WitnessBounds. No condition. -/
import Derived.Test.YtjbgdpfkmcibbaaGreatDoorB29B
import Derived.KernelRfl
namespace Go.Proofs.YtjbgdpfkmcibbaaGreatDoor.Sim
set_option linter.unusedSimpArgs false
set_option linter.unusedVariables false
set_option maxRecDepth 100000

/-- A group. -/
def grpX (n size : Int) : Cfg := ⟨max 1 (min n 64), 65536, max 0 (min size 1048576), 2, 8, 64, 16, 4, 8, 2 * max 0 (min size 1048576), 64, 1, 1, 3, 1, 8⟩
theorem grp_may (n size : Int) : (grpX n size).mayB = true := by
  have a1 : 1 ≤ max 1 (min n 64) ∧ max 1 (min n 64) ≤ 64 := by omega
  have a2 : 0 ≤ max 0 (min size 1048576) ∧ max 0 (min size 1048576) ≤ 1048576 := by omega
  unfold Cfg.mayB grpX bagLeast
  simp only
  generalize max 1 (min n 64) = x at a1 ⊢
  generalize max 0 (min size 1048576) = y at a2 ⊢
  rw [inB_iff.2 a1, inB_iff.2 a2, inB_iff.2 (show y ≤ 2 * y ∧ 2 * y ≤ 1073741824 by omega)]
  rfl
theorem grp_pos (n size : Int) : 0 < bndB (grpX n size) := by
  unfold bndB
  rw [grp_may]
  have a1 : 1 ≤ max 1 (min n 64) ∧ max 1 (min n 64) ≤ 64 := by omega
  have a2 : 0 ≤ max 0 (min size 1048576) ∧ max 0 (min size 1048576) ≤ 1048576 := by omega
  unfold bndX asksX grpX
  simp only
  generalize max 1 (min n 64) = x at a1 ⊢
  generalize max 0 (min size 1048576) = y at a2 ⊢
  have h1 := cnt_le (size := y) (chunk := 65536) a2.1 (by omega)
  have h2 := parts_le (n := cnt y 65536) (each := 8) (by omega) (by omega)
  have h3 : parts (cnt y 65536) 8 ≤ 1048577 := by omega
  generalize parts (cnt y 65536) 8 = a at h2 h3 ⊢
  have ha : 0 ≤ a := h2.1
  rw [if_pos (by rfl)]
  have e : (8 : Int) + 1 + 4 + (x * 2 * 2 * (a + 2) * (1 + 4) + 1 + 4) + x * 2 * (8 * x + 4 * 1 + 42) + 16 = 34 + 20 * (x * (a + 2)) + 16 * (x * x) + 92 * x := by grind
  rw [e]
  have m1 : 0 ≤ x * (a + 2) := Int.mul_nonneg (by omega) (by omega)
  have m2 : x * (a + 2) ≤ 64 * (a + 2) := Int.mul_le_mul_of_nonneg_right a1.2 (by omega)
  have m3 : 0 ≤ x * x := Int.mul_nonneg (by omega) (by omega)
  have m4 : x * x ≤ 64 * x := Int.mul_le_mul_of_nonneg_right a1.2 (by omega)
  rw [w_i64 (by omega) (by omega)]
  omega
/-- Rows of zeros. -/
abbrev z16 : List AV := [AV.int .i64 0, AV.int .i64 0, AV.int .i64 0, AV.int .i64 0, AV.int .i64 0, AV.int .i64 0, AV.int .i64 0, AV.int .i64 0, AV.int .i64 0, AV.int .i64 0, AV.int .i64 0, AV.int .i64 0, AV.int .i64 0, AV.int .i64 0, AV.int .i64 0, AV.int .i64 0]
theorem bld_grp (a b c : Int) {α : Type} (f : List AV → Option α) : aBuild [(0, 1, (AV.int .i64 a)), (1, 1, (AV.int .i64 65536)), (2, 1, (AV.int .i64 b)), (3, 1, (AV.int .i64 2)), (4, 1, (AV.int .i64 8)), (5, 1, (AV.int .i64 64)), (6, 1, (AV.int .i64 16)), (7, 1, (AV.int .i64 4)), (8, 1, (AV.int .i64 8)), (9, 1, (AV.int .i64 c)), (10, 1, (AV.int .i64 64)), (11, 1, (AV.int .i64 1)), (12, 1, (AV.int .i64 1)), (13, 1, (AV.int .i64 3)), (14, 1, (AV.int .i64 1)), (15, 1, (AV.int .i64 8))] z16 f = f (Cfg.cells ⟨a, 65536, b, 2, 8, 64, 16, 4, 8, c, 64, 1, 1, 3, 1, 8⟩) := by kernel_rfl
theorem bld_ref {α : Type} (f : List AV → Option α) : aBuild [(1, 1, (AV.int .i64 65536)), (3, 1, (AV.int .i64 2)), (4, 1, (AV.int .i64 8)), (5, 1, (AV.int .i64 64)), (6, 1, (AV.int .i64 16)), (7, 1, (AV.int .i64 4)), (8, 1, (AV.int .i64 8)), (10, 1, (AV.int .i64 64)), (11, 1, (AV.int .i64 1)), (12, 1, (AV.int .i64 1)), (13, 1, (AV.int .i64 3)), (14, 1, (AV.int .i64 1)), (15, 1, (AV.int .i64 8))] z16 f = f (Cfg.cells ⟨0, 65536, 0, 2, 8, 64, 16, 4, 8, 0, 64, 1, 1, 3, 1, 8⟩) := by kernel_rfl
theorem group_run (k : Nat) (n size : Int) (s : Store) : ∃ s', rn (k + 1) 14 [.int .i64 n, .int .i64 size] s = some (.agg (grpX n size).cells, s') ∧ Ext s s' := by
  rw [F14.eq]
  unfold F14.f F14.p0
  have w : IntKind.i64.wrap (2 * max 0 (min size 1048576)) = 2 * max 0 (min size 1048576) := w_i64 (by omega) (by omega)
  simp only [bnd, guard_tt, guard_ff, guard_tf, guard_ft, pick_t, pick_f, if_t, if_f, add_i, sub_i, lss_i, leq_i, gtr_i, geq_i, eql_i, neq_i, min_i, max_i, conv_i, len_sl, len_nil, not_b, cells_agg, new_s, fld_p, nil_p, mul_i, w]
  refine ⟨_, (?_ : _ = some ((AV.agg (grpX n size).cells), (s.push (.cells (grpX n size).cells false)))), Ext.push _ _⟩
  rw [show z16.length = 16 from rfl, bld_grp]
  rw [rst_all (n := 16) (s := s.push (.cells z16 false)) (cs := z16) (by rw [get_push, if_pos rfl]) (by rfl) (by rfl), rld_all (n := 16) (cs := (grpX n size).cells) (by rw [get_set]; exact if_pos rfl) (by rfl)]
  congr 2
  unfold Store.set Store.push
  simp only
  congr 1
  funext j
  split <;> rfl
theorem rin_run (k : Nat) {n a b : Int} (h : a ≤ b) (t : Store) : rn (k + 1) 34 [.int .i64 n, .int .i64 a, .int .i64 b] t = some (.int .i64 (max a (min n b)), t) := by
  rw [F34.eq]
  unfold F34.f F34.p0
  by_cases c1 : n < a
  · simp only [bnd, guard_tt, guard_ff, guard_tf, guard_ft, pick_t, pick_f, if_t, if_f, add_i, sub_i, lss_i, leq_i, gtr_i, geq_i, eql_i, neq_i, min_i, max_i, conv_i, len_sl, len_nil, not_b, cells_agg, new_s, fld_p, nil_p, decide_eq_true c1]
    rw [show max a (min n b) = a by omega]
  · by_cases c2 : n > b
    · simp only [bnd, guard_tt, guard_ff, guard_tf, guard_ft, pick_t, pick_f, if_t, if_f, add_i, sub_i, lss_i, leq_i, gtr_i, geq_i, eql_i, neq_i, min_i, max_i, conv_i, len_sl, len_nil, not_b, cells_agg, new_s, fld_p, nil_p, decide_eq_false c1, decide_eq_true c2]
      rw [show max a (min n b) = b by omega]
    · simp only [bnd, guard_tt, guard_ff, guard_tf, guard_ft, pick_t, pick_f, if_t, if_f, add_i, sub_i, lss_i, leq_i, gtr_i, geq_i, eql_i, neq_i, min_i, max_i, conv_i, len_sl, len_nil, not_b, cells_agg, new_s, fld_p, nil_p, decide_eq_false c1, decide_eq_false c2]
      rw [show max a (min n b) = n by omega]
/-- One cell of a row is written. -/
theorem st1 {s : Store} {id j ep : Nat} {cs : List AV} (h : s.get id = .cells cs false) (hc : cs.length = ep) (hj : j < ep) (k : IntKind) (a : Int) {α : Type} (f : Store → Option α) : aStore 1 (.ptr id (0 + j) ep) (.int k a) s f = f (s.set id (.cells (cs.set j (.int k a)) false)) := by
  have : j + 1 ≤ ep := hj
  simp [aStore, aCells, aOwn, h, hc, putAll, this]
theorem rgroup_run (k : Nat) (n size : Int) (s : Store) : ∃ s', rn (k + 2) 11 [.int .i64 n, .int .i64 size] s = some (.agg (grpX n size).cells, s') ∧ Ext s s' := by
  rw [F11.eq]
  unfold F11.f F11.p0
  have w : IntKind.i64.wrap (max 0 (min size 1048576) + max 0 (min size 1048576)) = 2 * max 0 (min size 1048576) := by rw [w_i64 (by omega) (by omega)]; omega
  simp only [new_s, bld_ref]
  rw [show z16.length = 16 from rfl]
  have g1 : ((s.push (.cells z16 false)).push (.cells z16 false)).get (s.push (.cells z16 false)).next = .cells z16 false := by rw [get_push, if_pos rfl]
  have g0 : ((s.push (.cells z16 false)).push (.cells z16 false)).get s.next = .cells z16 false := by rw [get_push, if_neg (by simp [Store.push]), get_push, if_pos rfl]
  have hn : (s.push (.cells z16 false)).next = s.next + 1 := rfl
  have e : Ext s ((s.push (.cells z16 false)).push (.cells z16 false)) := (Ext.push _ _).trans (Ext.push _ _)
  have ht : ((s.push (.cells z16 false)).push (.cells z16 false)).next = s.next + 2 := rfl
  generalize (s.push (.cells z16 false)).push (.cells z16 false) = t at g1 g0 e ht ⊢
  rw [hn] at g1 ⊢
  have h1 : s.next ≠ s.next + 1 := by omega
  rw [rst_all (n := 16) g1 (by rfl) (by rfl)]
  simp only [rin_run k (show (1 : Int) ≤ 64 by omega), rin_run k (show (0 : Int) ≤ 1048576 by omega), bnd, fld_p]
  rw [st1 (ep := 16) (cs := Cfg.cells ⟨0, 65536, 0, 2, 8, 64, 16, 4, 8, 0, 64, 1, 1, 3, 1, 8⟩) (by rw [get_set, if_pos rfl]) (by rfl) (by omega), set_set]
  rw [show (Cfg.cells ⟨0, 65536, 0, 2, 8, 64, 16, 4, 8, 0, 64, 1, 1, 3, 1, 8⟩).set 0 (.int .i64 (max 1 (min n 64))) = Cfg.cells ⟨max 1 (min n 64), 65536, 0, 2, 8, 64, 16, 4, 8, 0, 64, 1, 1, 3, 1, 8⟩ from rfl]
  rw [st1 (ep := 16) (cs := Cfg.cells ⟨max 1 (min n 64), 65536, 0, 2, 8, 64, 16, 4, 8, 0, 64, 1, 1, 3, 1, 8⟩) (by rw [get_set, if_pos rfl]) (by rfl) (by omega), set_set]
  rw [show (Cfg.cells ⟨max 1 (min n 64), 65536, 0, 2, 8, 64, 16, 4, 8, 0, 64, 1, 1, 3, 1, 8⟩).set 2 (.int .i64 (max 0 (min size 1048576))) = Cfg.cells ⟨max 1 (min n 64), 65536, max 0 (min size 1048576), 2, 8, 64, 16, 4, 8, 0, 64, 1, 1, 3, 1, 8⟩ from rfl]
  have g2 : (t.set (s.next + 1) (.cells (Cfg.cells ⟨max 1 (min n 64), 65536, max 0 (min size 1048576), 2, 8, 64, 16, 4, 8, 0, 64, 1, 1, 3, 1, 8⟩) false)).get (s.next + 1) = .cells (Cfg.cells ⟨max 1 (min n 64), 65536, max 0 (min size 1048576), 2, 8, 64, 16, 4, 8, 0, 64, 1, 1, 3, 1, 8⟩) false := by rw [get_set, if_pos rfl]
  rw [cfg_ld g2 (j := 2) rfl]
  simp only [cfg_ld g2 (j := 2) rfl, add_i, w]
  rw [st1 (ep := 16) g2 (by rfl) (by omega), set_set]
  rw [show (Cfg.cells ⟨max 1 (min n 64), 65536, max 0 (min size 1048576), 2, 8, 64, 16, 4, 8, 0, 64, 1, 1, 3, 1, 8⟩).set 9 (.int .i64 (2 * max 0 (min size 1048576))) = (grpX n size).cells from rfl]
  rw [rld_all (n := 16) (cs := (grpX n size).cells) (by rw [get_set, if_pos rfl]) rfl]
  rw [rst_all (n := 16) (cs := z16) (by rw [get_set, if_neg h1]; exact g0) (by rfl) (by rfl)]
  rw [rld_all (n := 16) (cs := (grpX n size).cells) (by rw [get_set, if_pos rfl]) rfl]
  refine ⟨_, rfl, ⟨by simp only [next_set]; omega, fun l hl => ?_⟩⟩
  rw [get_set, if_neg (by omega), get_set, if_neg (by omega)]
  exact e.get l hl
end Go.Proofs.YtjbgdpfkmcibbaaGreatDoor.Sim
