/- Layer 29: WitnessLong. No condition. -/
import Derived.Test.YtjbgdpfkmcibbaaGreatDoorBRow
namespace Go.Proofs.YtjbgdpfkmcibbaaGreatDoor.Sim
set_option linter.unusedSimpArgs false
set_option linter.unusedVariables false
set_option maxRecDepth 100000

/-- A script of nothing. -/
abbrev z17 : List AV := [AV.int .i64 0, AV.int .i64 0, AV.int .i64 0, AV.int .i64 0, AV.int .i64 0, AV.int .i64 0, AV.int .i64 0, AV.int .i64 0, AV.int .i64 0, AV.int .i64 0, AV.int .i64 0, AV.int .i64 0, AV.int .i64 0, AV.int .i64 0, AV.int .i64 0, AV.int .i64 0, AV.nilsl]
theorem make_refuses (k : Nat) {n m : Int} {v : AV} (hv : ∀ {α : Type} (f : AV → Option α), aLen v f = f (.int .i64 m)) (h : n < 1 ∨ 64 < n ∨ 1048576 < m) (s : Store) : rn (k + 1) 9 [.int .i64 n, v] s = some (.tuple [.agg z17, .int .i64 1], s.push (.cells z17 false)) := by
  rw [F9.eq]
  unfold F9.f F9.p18
  simp only [new_s]
  have hr : ∀ s1 : Store, s1.get s.next = .cells z17 false → ∀ s2, s2 = s1 → (aBuild [] z17 fun c12 => aStore 17 (.ptr s.next 0 17) (AV.agg c12) s1 fun s13 => aLoadN 17 (.ptr s.next 0 17) s13 fun v14 => some (AV.tuple [v14, (AV.int .i64 1)], s13)) = some (.tuple [.agg z17, .int .i64 1], s1) := by
    intro s1 g s2 _
    have hb : ∀ {α : Type} (f : List AV → Option α), aBuild [] z17 f = f z17 := fun f => rfl
    rw [hb, rst_all (n := 17) g (by rfl) (by rfl), set_same g, rld_all (n := 17) g (by rfl)]
  have g1 : (s.push (.cells z17 false)).get s.next = .cells z17 false := by rw [get_push, if_pos rfl]
  have hr1 := hr _ g1 _ rfl
  clear hr
  unfold F9.p17
  by_cases c1 : n < 1
  · simp only [bnd, guard_tt, guard_ff, guard_tf, guard_ft, pick_t, pick_f, if_t, if_f, add_i, sub_i, lss_i, leq_i, gtr_i, geq_i, eql_i, neq_i, min_i, max_i, conv_i, len_sl, len_nil, not_b, cells_agg, new_s, fld_p, nil_p, decide_eq_true c1, guard_skip, hr1]
    exact hr1
  · by_cases c2 : n > 64
    · simp only [bnd, guard_tt, guard_ff, guard_tf, guard_ft, pick_t, pick_f, if_t, if_f, add_i, sub_i, lss_i, leq_i, gtr_i, geq_i, eql_i, neq_i, min_i, max_i, conv_i, len_sl, len_nil, not_b, cells_agg, new_s, fld_p, nil_p, decide_eq_false c1, decide_eq_true c2, guard_skip, hr1]
      exact hr1
    · have c3 : m > 1048576 := by omega
      simp only [bnd, guard_tt, guard_ff, guard_tf, guard_ft, pick_t, pick_f, if_t, if_f, add_i, sub_i, lss_i, leq_i, gtr_i, geq_i, eql_i, neq_i, min_i, max_i, conv_i, len_sl, len_nil, not_b, cells_agg, new_s, fld_p, nil_p, decide_eq_false c1, decide_eq_false c2, hv, decide_eq_true c3, guard_skip, hr1]
      exact hr1
theorem law_long (k : Nat) {more n : Int} (h0 : 0 ≤ more) (h1 : more < 256) (s : Store) : ∃ s', rn (k + 2) 4 [.int .u8 more, .int .i64 n] s = some (.bool true, s') := by
  rw [F4.eq]
  unfold F4.f F4.p0
  have aw : ∀ t, rn (k + 1) 7 [] t = some (.bool true, t) := fun t => awake_rn k t
  have w1 : IntKind.i64.wrap more = more := w_i64 (by omega) (by omega)
  have w2 : IntKind.i64.wrap (1048577 + more) = 1048577 + more := w_i64 (by omega) (by omega)
  have hms : ∀ {α : Type} (f : AV → Store → Option α), aMakeSlice [AV.int .u8 0] 1 1 (.int .i64 (1048577 + more)) (.int .i64 (1048577 + more)) s f = f (.sl s.next 0 (1048577 + more).toNat 1 ((1048577 + more).toNat * 1)) (s.push (.cells (List.replicate (1048577 + more).toNat [AV.int .u8 0]).flatten false)) := by
    intro α f
    simp only [aMakeSlice]
    rw [if_pos (by omega)]
  simp only [conv_i, add_i, w1, w2, hms]
  generalize s.push (.cells (List.replicate (1048577 + more).toNat [AV.int .u8 0]).flatten false) = s1
  have hl : ∀ {α : Type} (f : AV → Option α), aLen (.sl s.next 0 (1048577 + more).toNat 1 ((1048577 + more).toNat * 1)) f = f (.int .i64 (1048577 + more)) := by
    intro α f
    rw [len_sl, Int.toNat_of_nonneg (by omega)]
  have r1 := make_refuses k (n := 2) hl (.inr (.inr (by omega))) s1
  simp only [r1]
  generalize s1.push (.cells z17 false) = s2
  have e0 : ∀ (a b : AV) {α : Type} (f : AV → Option α), aExtract 0 (.tuple [a, b]) f = f a := fun _ _ _ _ => rfl
  have e1 : ∀ (a b : AV) {α : Type} (f : AV → Option α), aExtract 1 (.tuple [a, b]) f = f b := fun _ _ _ _ => rfl
  simp only [bnd, e0, e1, new_s]
  have g3 : (s2.push (.cells z17 false)).get s2.next = .cells z17 false := by rw [get_push, if_pos rfl]
  have hx : s2.next < (s2.push (.cells z17 false)).next := Nat.lt_succ_self _
  rw [show z17.length = 17 from rfl]
  generalize s2.push (.cells z17 false) = s3 at g3 hx ⊢
  generalize s2.next = x at g3 hx ⊢
  rw [rst_all (n := 17) g3 (by rfl) (by rfl), set_same g3]
  have l3 : ∀ {α : Type} (c : AV → Option α), aLoad1 (.ptr x (0 + 16) 17) s3 c = c .nilsl := fun c => rld g3 rfl rfl c
  have h1ne : ((1 : Int) != 1) = false := rfl
  have h0ne : ((0 : Int) != 0) = false := rfl
  have h1eq : ((1 : Int) == 1) = true := rfl
  have h0eq : ((0 : Int) == 0) = true := rfl
  simp only [bnd, guard_tt, guard_ff, guard_tf, guard_ft, pick_t, pick_f, if_t, if_f, add_i, sub_i, lss_i, leq_i, gtr_i, geq_i, eql_i, neq_i, min_i, max_i, conv_i, len_sl, len_nil, not_b, cells_agg, new_s, fld_p, nil_p, h1ne, h0ne, l3]
  by_cases c : n ≥ 1
  · by_cases d : n ≤ 64
    · simp only [bnd, guard_tt, guard_ff, guard_tf, guard_ft, pick_t, pick_f, if_t, if_f, add_i, sub_i, lss_i, leq_i, gtr_i, geq_i, eql_i, neq_i, min_i, max_i, conv_i, len_sl, len_nil, not_b, cells_agg, new_s, fld_p, nil_p, decide_eq_true c, decide_eq_true d, aw]
      exact ⟨_, rfl⟩
    · have r2 := make_refuses k (n := n) (v := .nilsl) (m := 0) (fun f => len_nil) (.inr (.inl (by omega))) s3
      have g4 := ((Ext.push s3 (.cells z17 false)).get x hx).trans g3
      simp only [bnd, guard_tt, guard_ff, guard_tf, guard_ft, pick_t, pick_f, if_t, if_f, add_i, sub_i, lss_i, leq_i, gtr_i, geq_i, eql_i, neq_i, min_i, max_i, conv_i, len_sl, len_nil, not_b, cells_agg, new_s, fld_p, nil_p, decide_eq_true c, decide_eq_false d, r2, e0, e1]
      rw [rst_all (n := 17) g4 (by rfl) (by rfl), set_same g4]
      have l4 : ∀ {α : Type} (c : AV → Option α), aLoad1 (.ptr x (0 + 16) 17) (s3.push (.cells z17 false)) c = c .nilsl := fun c => rld g4 rfl rfl c
      simp only [bnd, guard_tt, guard_ff, guard_tf, guard_ft, pick_t, pick_f, if_t, if_f, add_i, sub_i, lss_i, leq_i, gtr_i, geq_i, eql_i, neq_i, min_i, max_i, conv_i, len_sl, len_nil, not_b, cells_agg, new_s, fld_p, nil_p, h1eq, h0eq, l4, aw]
      exact ⟨_, rfl⟩
  · have r2 := make_refuses k (n := n) (v := .nilsl) (m := 0) (fun f => len_nil) (.inl (by omega)) s3
    have g4 := ((Ext.push s3 (.cells z17 false)).get x hx).trans g3
    simp only [bnd, guard_tt, guard_ff, guard_tf, guard_ft, pick_t, pick_f, if_t, if_f, add_i, sub_i, lss_i, leq_i, gtr_i, geq_i, eql_i, neq_i, min_i, max_i, conv_i, len_sl, len_nil, not_b, cells_agg, new_s, fld_p, nil_p, decide_eq_false c, guard_skip, r2, e0, e1]
    rw [rst_all (n := 17) g4 (by rfl) (by rfl), set_same g4]
    have l4 : ∀ {α : Type} (c : AV → Option α), aLoad1 (.ptr x (0 + 16) 17) (s3.push (.cells z17 false)) c = c .nilsl := fun c => rld g4 rfl rfl c
    simp only [bnd, guard_tt, guard_ff, guard_tf, guard_ft, pick_t, pick_f, if_t, if_f, add_i, sub_i, lss_i, leq_i, gtr_i, geq_i, eql_i, neq_i, min_i, max_i, conv_i, len_sl, len_nil, not_b, cells_agg, new_s, fld_p, nil_p, h1eq, h0eq, l4, aw]
    exact ⟨_, rfl⟩
end Go.Proofs.YtjbgdpfkmcibbaaGreatDoor.Sim
