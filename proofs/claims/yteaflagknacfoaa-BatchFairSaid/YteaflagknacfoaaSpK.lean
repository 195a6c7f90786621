/- Seat 05: the law BatchNext, its run. No condition. -/
import Derived.Test.YteaflagknacfoaaSpJ
namespace Go.Proofs.Yteaflagknacfoaa.Sim
set_option linter.unusedSimpArgs false

theorem law_next {s : Store} {x0 x1 : AV} {base held : List Int} {most : Int} (h0 : IsSl s x0 .u64 base) (h1 : IsSl s x1 .u64 held) (hu : U base) (hm : most < 9223372036854775808) (hm2 : -9223372036854775808 ≤ most) : ∃ s', run Try.prog 10001 3 [x0, x1, .int .i64 most] s = some (.bool true, s') := by
  rw [show 10001 = 10000 + 1 from rfl, unisonlaw05_BatchNext.eq]
  unfold unisonlaw05_BatchNext.f unisonlaw05_BatchNext.p0
  simp only [len_is h0, len_is h1, bnd, guard_tt, guard_ff, guard_tf, guard_ft, pick_t, pick_f, if_t, if_f, add_i, sub_i, lss_i, leq_i, gtr_i, geq_i, eql_i, neq_i, min_i, max_i, conv_i, len_sl, len_nil, not_b, cells_agg, new_s, fld_p, nil_p]
  by_cases hb : (base.length : Int) > 100
  · obtain ⟨s', k1, _⟩ := awake05 (s := s)
    simp only [decide_eq_true hb, bnd, guard_tt, guard_ff, guard_tf, guard_ft, pick_t, pick_f, if_t, if_f, add_i, sub_i, lss_i, leq_i, gtr_i, geq_i, eql_i, neq_i, min_i, max_i, conv_i, len_sl, len_nil, not_b, cells_agg, new_s, fld_p, nil_p]
    rw [k1]
    exact ⟨s', rfl⟩
  · simp only [decide_eq_false hb, bnd, guard_tt, guard_ff, guard_tf, guard_ft, pick_t, pick_f, if_t, if_f, add_i, sub_i, lss_i, leq_i, gtr_i, geq_i, eql_i, neq_i, min_i, max_i, conv_i, len_sl, len_nil, not_b, cells_agg, new_s, fld_p, nil_p, len_is h1]
    by_cases hh : (held.length : Int) > 100
    · obtain ⟨s', k1, _⟩ := awake05 (s := s)
      simp only [decide_eq_true hh, bnd, guard_tt, guard_ff, guard_tf, guard_ft, pick_t, pick_f, if_t, if_f, add_i, sub_i, lss_i, leq_i, gtr_i, geq_i, eql_i, neq_i, min_i, max_i, conv_i, len_sl, len_nil, not_b, cells_agg, new_s, fld_p, nil_p]
      rw [k1]
      exact ⟨s', rfl⟩
    · simp only [decide_eq_false hh, bnd, guard_tt, guard_ff, guard_tf, guard_ft, pick_t, pick_f, if_t, if_f, add_i, sub_i, lss_i, leq_i, gtr_i, geq_i, eql_i, neq_i, min_i, max_i, conv_i, len_sl, len_nil, not_b, cells_agg, new_s, fld_p, nil_p]
      obtain ⟨v1, s1, k1, r1, e1⟩ := bat_next (most := most) 9998 (by omega) h0 h1 hu (by omega) (by omega) hm hm2
      obtain ⟨v2, s2, k2, r2, e2⟩ := ref_next (most := most) 9998 (by omega) (h0.ext e1) (h1.ext e1) hu (by omega) hm
      rw [next_same] at r2
      have hlen := outR_len base (fillR held (min base.length 64) 4096 base (min most 4096)) (min base.length 64) 0
      have k3 := same_run (r1.ext e2) r2 (by omega) 9999 (by omega)
      obtain ⟨s3, k4, _⟩ := awake05 (s := s2)
      simp only [Nat.reduceAdd, decide_true] at k1 k2 k3
      simp only [k1, k2, k3, k4, bnd, guard_tt, guard_ff, guard_tf, guard_ft, pick_t, pick_f, if_t, if_f, add_i, sub_i, lss_i, leq_i, gtr_i, geq_i, eql_i, neq_i, min_i, max_i, conv_i, len_sl, len_nil, not_b, cells_agg, new_s, fld_p, nil_p]
      exact ⟨s3, rfl⟩

theorem i64_of {x : Int} (h : (shInt .i64).wf x) : -9223372036854775808 ≤ x ∧ x < 9223372036854775808 := by
  have k : (Lit.int IntKind.i64 x).wf = true := h
  simp [Lit.wf, IntKind.min, IntKind.max, IntKind.bits, IntKind.signed] at k
  omega

theorem lawBatchNext (a0 : _) (w0 : (shSlice (shInt .u64)).wf a0) (a1 : _) (w1 : (shSlice (shInt .u64)).wf a1) (a2 : _) (w2 : (shInt .i64).wf a2) : ∃ k s', run Try.prog k 3 ([] ++ ((shSlice (shInt .u64)).put a0 (Store.empty)).1 ++ ((shSlice (shInt .u64)).put a1 (((shSlice (shInt .u64)).put a0 Store.empty).2)).1 ++ ((shInt .i64).put a2 (((shSlice (shInt .u64)).put a1 ((shSlice (shInt .u64)).put a0 Store.empty).2).2)).1) ((shInt .i64).put a2 ((shSlice (shInt .u64)).put a1 ((shSlice (shInt .u64)).put a0 Store.empty).2).2).2 = some (.bool true, s') := by
  obtain ⟨v0, xs0, p0, h0, u0, _, _⟩ := put_u64 a0 Store.empty w0
  obtain ⟨v1, xs1, p1, h1, _, _, e1⟩ := put_u64 a1 ((shSlice (shInt .u64)).put a0 Store.empty).2 w1
  obtain ⟨b1, b2⟩ := i64_of w2
  obtain ⟨s', k⟩ := law_next (h0.ext e1) h1 u0 b2 b1
  rw [p0, p1]
  exact ⟨10001, s', k⟩
end Go.Proofs.Yteaflagknacfoaa.Sim
