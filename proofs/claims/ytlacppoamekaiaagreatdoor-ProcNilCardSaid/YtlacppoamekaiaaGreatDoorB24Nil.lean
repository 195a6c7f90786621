/- Layer 24: nil processes. No condition. -/
import Derived.Test.YtlacppoamekaiaaGreatDoorBRow
namespace Go.Proofs.YtlacppoamekaiaaGreatDoor.Sim
set_option linter.unusedSimpArgs false
set_option linter.unusedVariables false

/-- A status of nothing. -/
abbrev st0 : List AV := [AV.int .i64 0, AV.int .u64 0, AV.int .u64 0, AV.int .u64 0, AV.int .u64 0, AV.int .u64 0, AV.int .i64 0, AV.int .i64 0, AV.int .i64 0, AV.int .i64 0, AV.int .i64 0, AV.int .i64 0, AV.int .i64 0, AV.nilsl, AV.nilsl, AV.nilsl, AV.nilsl]
theorem nil_broadcast (k : Nat) (x : AV) (s : Store) : rn (k + 1) 15 [.nilptr, x] s = some (.tuple [.int .u64 0, .int .i64 1], s) :=
  (rn_eq Tryz.func15 (by kernel_rfl) (by kernel_rfl) (by kernel_rfl) k s (by kernel_rfl)).trans (by kernel_rfl)
theorem nil_poll (k : Nat) (x : AV) (s : Store) : rn (k + 2) 14 [.nilptr, x] s = some (.nilsl, s) :=
  (rn_eq Tryz.func14 (by kernel_rfl) (by kernel_rfl) (by kernel_rfl) (k + 1) s (by kernel_rfl)).trans (by kernel_rfl)
theorem nil_handle (k : Nat) (x : AV) (s : Store) : rn (k + 1) 25 [.nilptr, x] s = some (.int .i64 1, s) :=
  (rn_eq Tryz.func25 (by kernel_rfl) (by kernel_rfl) (by kernel_rfl) k s (by kernel_rfl)).trans (by kernel_rfl)
theorem nil_tick (k : Nat) (s : Store) : rn (k + 1) 13 [.nilptr] s = some (.nilsl, s) :=
  (rn_eq Tryz.func13 (by kernel_rfl) (by kernel_rfl) (by kernel_rfl) k s (by kernel_rfl)).trans (by kernel_rfl)
theorem nil_gone (k : Nat) (x : AV) (s : Store) : rn (k + 1) 26 [.nilptr, x] s = some (.int .i64 0, s) :=
  (rn_eq Tryz.func26 (by kernel_rfl) (by kernel_rfl) (by kernel_rfl) k s (by kernel_rfl)).trans (by kernel_rfl)
theorem nil_status (k : Nat) (s : Store) : ∃ s', rn (k + 1) 19 [.nilptr] s = some (.agg st0, s') := by
  have h : rn (k + 1) 19 [.nilptr] s = aNew st0 s fun v2 s3 => aBuild [] st0 fun c => aStore 17 v2 (.agg c) s3 fun s4 => aLoadN 17 v2 s4 fun v => some (v, s4) :=
    (rn_eq Tryz.func19 (by kernel_rfl) (by kernel_rfl) (by kernel_rfl) k s (by kernel_rfl)).trans (by kernel_rfl)
  have hb : ∀ {α : Type} (f : List AV → Option α), aBuild [] st0 f = f st0 := fun f => rfl
  rw [h]
  simp only [hb]
  rw [new_all (n := 17) rfl rfl]
  rw [rld_all (n := 17) (cs := st0) (by rw [get_push, if_pos rfl]) rfl]
  exact ⟨_, rfl⟩
theorem suspects_nil (k : Nat) (s : Store) : rn (k + 2) 62 [.nilsl, .nilsl] s = some (.bool true, s) := by
  rw [F62.eq]
  rfl
theorem covers_nil (k : Nat) (s : Store) : rn (k + 2) 233 [.nilsl, .nilsl] s = some (.bool true, s) := by
  rw [F233.eq]
  rfl
theorem equal_nil (k : Nat) (s : Store) : rn (k + 4) 63 [.nilsl, .nilsl] s = some (.bool true, s) := by
  have h : rn (k + 3) 154 [.nilsl, .nilsl] s = some (.bool true, s) := by
    rw [show k + 3 = (k + 2) + 1 from rfl, F154.eq]
    unfold F154.f F154.p0
    simp only [covers_nil, bnd, guard_tt, guard_ff, guard_tf, guard_ft, pick_t, pick_f, if_t, if_f, add_i, sub_i, lss_i, leq_i, gtr_i, geq_i, eql_i, neq_i, min_i, max_i, conv_i, len_sl, len_nil, not_b, cells_agg, new_s, fld_p, nil_p]
  rw [show k + 4 = (k + 3) + 1 from rfl, F63.eq]
  unfold F63.f F63.p0
  have h0 : ((0 : Int) == 0) = true := rfl
  simp only [bnd, guard_tt, guard_ff, guard_tf, guard_ft, pick_t, pick_f, if_t, if_f, add_i, sub_i, lss_i, leq_i, gtr_i, geq_i, eql_i, neq_i, min_i, max_i, conv_i, len_sl, len_nil, not_b, cells_agg, new_s, fld_p, nil_p, h0, h]
theorem same_st0 (k : Nat) (s : Store) : ∃ s', rn (k + 5) 18 [.agg st0, .agg st0] s = some (.bool true, s') := by
  rw [show k + 5 = (k + 4) + 1 from rfl, F18.eq]
  unfold F18.f F18.p0
  simp only [cells_agg, new_s]
  have g1 : ((s.push (.cells st0 false)).push (.cells st0 false)).get s.next = .cells st0 false := by rw [get_push, if_neg (by simp [Store.push]), get_push, if_pos rfl]
  have g2 : ((s.push (.cells st0 false)).push (.cells st0 false)).get (s.push (.cells st0 false)).next = .cells st0 false := by rw [get_push, if_pos rfl]
  have hl : ([AV.int .i64 0, AV.int .u64 0, AV.int .u64 0, AV.int .u64 0, AV.int .u64 0, AV.int .u64 0, AV.int .i64 0, AV.int .i64 0, AV.int .i64 0, AV.int .i64 0, AV.int .i64 0, AV.int .i64 0, AV.int .i64 0, AV.nilsl, AV.nilsl, AV.nilsl, AV.nilsl] : List AV).length = 17 := rfl
  generalize (s.push (.cells st0 false)).push (.cells st0 false) = t at g1 g2 ⊢
  generalize (s.push (.cells st0 false)).next = y at g2 ⊢
  generalize s.next = x at g1 ⊢
  have l1 : ∀ {j : Nat} {v : AV}, st0[j]? = some v → ∀ {α : Type} (c : AV → Option α), aLoad1 (.ptr x (0 + j) 17) t c = c v := fun {j v} hv {α} c => rld g1 rfl hv c
  have l2 : ∀ {j : Nat} {v : AV}, st0[j]? = some v → ∀ {α : Type} (c : AV → Option α), aLoad1 (.ptr y (0 + j) 17) t c = c v := fun {j v} hv {α} c => rld g2 rfl hv c
  have h0 : ((0 : Int) != 0) = false := rfl
  simp only [hl, fld_p, l1 (j := 0) rfl, l1 (j := 1) rfl, l1 (j := 2) rfl, l1 (j := 3) rfl, l1 (j := 4) rfl, l1 (j := 5) rfl, l1 (j := 6) rfl, l1 (j := 7) rfl, l1 (j := 8) rfl, l1 (j := 9) rfl, l1 (j := 10) rfl, l1 (j := 11) rfl, l1 (j := 12) rfl, l1 (j := 13) rfl, l1 (j := 14) rfl, l1 (j := 15) rfl, l1 (j := 16) rfl,
    l2 (j := 0) rfl, l2 (j := 1) rfl, l2 (j := 2) rfl, l2 (j := 3) rfl, l2 (j := 4) rfl, l2 (j := 5) rfl, l2 (j := 6) rfl, l2 (j := 7) rfl, l2 (j := 8) rfl, l2 (j := 9) rfl, l2 (j := 10) rfl, l2 (j := 11) rfl, l2 (j := 12) rfl, l2 (j := 13) rfl, l2 (j := 14) rfl, l2 (j := 15) rfl, l2 (j := 16) rfl,
    bnd, guard_tt, guard_ff, guard_tf, guard_ft, pick_t, pick_f, if_t, if_f, add_i, sub_i, lss_i, leq_i, gtr_i, geq_i, eql_i, neq_i, min_i, max_i, conv_i, len_sl, len_nil, not_b, cells_agg, new_s, fld_p, nil_p, h0, suspects_nil, equal_nil, Bool.not_true, Bool.not_false]
  exact ⟨_, rfl⟩
theorem law_nil {s : Store} {v : AV} {n : Nat} {x : Int} (hv : ∀ {α : Type} (f : AV → Option α), aLen v f = f (.int .i64 (n : Int))) : ∃ s', rn 101 8 [v, .int .i64 x] s = some (.bool true, s') := by
  rw [show 101 = 100 + 1 from rfl, F8.eq]
  unfold F8.f F8.p0
  have aw : ∀ t, rn 100 11 [] t = some (.bool true, t) := fun t => awake_rn 99 t
  simp only [hv, bnd, guard_tt, guard_ff, guard_tf, guard_ft, pick_t, pick_f, if_t, if_f, add_i, sub_i, lss_i, leq_i, gtr_i, geq_i, eql_i, neq_i, min_i, max_i, conv_i, len_sl, len_nil, not_b, cells_agg, new_s, fld_p, nil_p]
  by_cases c1 : (n : Int) > 600
  · simp only [decide_eq_true c1, bnd, guard_tt, guard_ff, guard_tf, guard_ft, pick_t, pick_f, if_t, if_f, add_i, sub_i, lss_i, leq_i, gtr_i, geq_i, eql_i, neq_i, min_i, max_i, conv_i, len_sl, len_nil, not_b, cells_agg, new_s, fld_p, nil_p, aw]
    exact ⟨s, rfl⟩
  simp only [decide_eq_false c1, bnd, guard_tt, guard_ff, guard_tf, guard_ft, pick_t, pick_f, if_t, if_f, add_i, sub_i, lss_i, leq_i, gtr_i, geq_i, eql_i, neq_i, min_i, max_i, conv_i, len_sl, len_nil, not_b, cells_agg, new_s, fld_p, nil_p]
  have h0 : ((0 : Int) == 0) = true := rfl
  have h1 : ((1 : Int) == 1) = true := rfl
  have e0 : ∀ (a b : AV) {α : Type} (f : AV → Option α), aExtract 0 (.tuple [a, b]) f = f a := fun _ _ _ _ => rfl
  have e1 : ∀ (a b : AV) {α : Type} (f : AV → Option α), aExtract 1 (.tuple [a, b]) f = f b := fun _ _ _ _ => rfl
  have hb1 : ∀ {α : Type} (f : List AV → Option α), aBuild [(0, 1, AV.int .i64 x)] [AV.int .i64 0] f = f [.int .i64 x] := fun f => rfl
  have hb0 : ∀ {α : Type} (f : List AV → Option α), aBuild [] st0 f = f st0 := fun f => rfl
  have b1 := nil_broadcast 99 v s
  have b2 := fun x s => nil_poll 98 x s
  have b3 := fun x s => nil_handle 99 x s
  have b4 := fun s => nil_tick 99 s
  have b5 := fun x s => nil_gone 99 x s
  obtain ⟨s1, b6⟩ := nil_status 99 (s.push (.cells [.int .i64 x] false))
  obtain ⟨s2, b7⟩ := same_st0 95 s1
  simp only [b1, b2, b3, b4, b5, bnd, e0, e1, bnd, guard_tt, guard_ff, guard_tf, guard_ft, pick_t, pick_f, if_t, if_f, add_i, sub_i, lss_i, leq_i, gtr_i, geq_i, eql_i, neq_i, min_i, max_i, conv_i, len_sl, len_nil, not_b, cells_agg, new_s, fld_p, nil_p, h0, h1, hb1, hb0, b6, b7, aw]
  exact ⟨s2, rfl⟩
end Go.Proofs.YtlacppoamekaiaaGreatDoor.Sim
