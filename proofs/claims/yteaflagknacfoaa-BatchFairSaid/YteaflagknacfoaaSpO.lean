/- Seat 05: the law BatchIs, its run. No condition. -/
import Derived.Test.YteaflagknacfoaaSpN
import Derived.Test.YteaflagknacfoaaSpK
namespace Go.Proofs.Yteaflagknacfoaa.Sim
set_option linter.unusedSimpArgs false
set_option linter.unusedVariables false

/-- Runs that come as an argument. -/
theorem put_runs (o : Option (List Rn)) (s : Store) (hw : (shSlice (shPair (shInt .u8) (shPair (shInt .u64) (shInt .u64)))).wf o) : ∃ v xs, ((shSlice (shPair (shInt .u8) (shPair (shInt .u64) (shInt .u64)))).put o s).1 = [v] ∧ IsRuns ((shSlice (shPair (shInt .u8) (shPair (shInt .u64) (shInt .u64)))).put o s).2 v xs ∧ (∀ r ∈ xs, WfR r) ∧ Ext s ((shSlice (shPair (shInt .u8) (shPair (shInt .u64) (shInt .u64)))).put o s).2 := by
  cases o with
  | none => exact ⟨.nilsl, [], rfl, .inl ⟨rfl, rfl⟩, fun x hx => by simp at hx, Ext.refl _⟩
  | some l =>
    have hp : ∀ l : List Rn, (shPair (shInt .u8) (shPair (shInt .u64) (shInt .u64))).putL l s = ((l.map rcells).flatten, s) := fun l => by
      induction l with
      | nil => rfl
      | cons x l ih =>
        show (rcells x ++ ((shPair (shInt .u8) (shPair (shInt .u64) (shInt .u64))).putL l s).1, ((shPair (shInt .u8) (shPair (shInt .u64) (shInt .u64))).putL l s).2) = _
        rw [ih]
        rfl
    obtain ⟨h1, h2⟩ := hw l rfl
    have hput : (shSlice (shPair (shInt .u8) (shPair (shInt .u64) (shInt .u64)))).put (some l) s = ([.sl s.next 0 l.length 3 (l.length * 3)], s.push (.cells (l.map rcells).flatten true)) := by
      show ([AV.sl ((shPair (shInt .u8) (shPair (shInt .u64) (shInt .u64))).putL l s).2.next 0 l.length 3 (l.length * 3)], ((shPair (shInt .u8) (shPair (shInt .u64) (shInt .u64))).putL l s).2.push (.cells ((shPair (shInt .u8) (shPair (shInt .u64) (shInt .u64))).putL l s).1 true)) = _
      rw [hp]
    rw [hput]
    refine ⟨_, l, rfl, .inr ⟨s.next, true, rfl, Nat.lt_succ_self _, by rw [get_push, if_pos rfl]⟩, fun x hx => ?_, Ext.push _ _⟩
    obtain ⟨w1, w2, w3⟩ := h2 x hx
    have k1 : (Lit.int IntKind.u8 x.1).wf = true := w1
    have k2 : (Lit.int IntKind.u64 x.2.1).wf = true := w2
    have k3 : (Lit.int IntKind.u64 x.2.2).wf = true := w3
    simp [Lit.wf, IntKind.min, IntKind.max, IntKind.bits, IntKind.signed] at k1 k2 k3
    unfold WfR; omega

theorem orderR_len {l : List Rn} : (orderR l).length ≤ 4096 := by
  unfold orderR
  split
  · simp
  · rename_i h
    have h1 : ¬ l.any (fun r => !runOk r) = true := fun q => h (.inl q)
    have h2 : ¬ 4096 < countR 0 l := fun q => h (.inr q)
    have h1' : l.any (fun r => !runOk r) = false := by simpa using h1
    have hok : ∀ r ∈ l, runOk r = true := by
      intro r hr
      have := List.any_eq_false.1 h1' r hr
      simpa using this
    have hsum := countR_sum l 0 hok (by omega) (by omega)
    rw [ordPre_len]
    have := sumMin_le 4096 l
    omega

theorem law_is {s : Store} {x0 x1 x3 : AV} {base held : List Int} {most : Int} {l : List Rn} (h0 : IsSl s x0 .u64 base) (h1 : IsSl s x1 .u64 held) (h3 : IsRuns s x3 l) (hu : U base) (hw : ∀ r ∈ l, WfR r) (hm : most < 9223372036854775808) : ∃ s', run Try.prog 10001 5 [x0, x1, .int .i64 most, x3] s = some (.bool true, s') := by
  rw [show 10001 = 10000 + 1 from rfl, unisonlaw05_BatchIs.eq]
  unfold unisonlaw05_BatchIs.f unisonlaw05_BatchIs.p0
  simp only [len_is h0, bnd, guard_tt, guard_ff, guard_tf, guard_ft, pick_t, pick_f, if_t, if_f, add_i, sub_i, lss_i, leq_i, gtr_i, geq_i, eql_i, neq_i, min_i, max_i, conv_i, len_sl, len_nil, not_b, cells_agg, new_s, fld_p, nil_p]
  by_cases hb : (base.length : Int) > 100
  · obtain ⟨s', k1, _⟩ := awake05 (s := s)
    simp only [decide_eq_true hb, bnd, guard_tt, guard_ff, guard_tf, guard_ft, pick_t, pick_f, if_t, if_f, add_i, sub_i, lss_i, leq_i, gtr_i, geq_i, eql_i, neq_i, min_i, max_i, conv_i, len_sl, len_nil, not_b, cells_agg, new_s, fld_p, nil_p, k1]
    exact ⟨s', rfl⟩
  · simp only [decide_eq_false hb, bnd, guard_tt, guard_ff, guard_tf, guard_ft, pick_t, pick_f, if_t, if_f, add_i, sub_i, lss_i, leq_i, gtr_i, geq_i, eql_i, neq_i, min_i, max_i, conv_i, len_sl, len_nil, not_b, cells_agg, new_s, fld_p, nil_p, len_is h1]
    by_cases hh : (held.length : Int) > 100
    · obtain ⟨s', k1, _⟩ := awake05 (s := s)
      simp only [decide_eq_true hh, bnd, guard_tt, guard_ff, guard_tf, guard_ft, pick_t, pick_f, if_t, if_f, add_i, sub_i, lss_i, leq_i, gtr_i, geq_i, eql_i, neq_i, min_i, max_i, conv_i, len_sl, len_nil, not_b, cells_agg, new_s, fld_p, nil_p, k1]
      exact ⟨s', rfl⟩
    · simp only [decide_eq_false hh, bnd, guard_tt, guard_ff, guard_tf, guard_ft, pick_t, pick_f, if_t, if_f, add_i, sub_i, lss_i, leq_i, gtr_i, geq_i, eql_i, neq_i, min_i, max_i, conv_i, len_sl, len_nil, not_b, cells_agg, new_s, fld_p, nil_p, len_runs h3]
      by_cases hl : (l.length : Int) > 100
      · obtain ⟨s', k1, _⟩ := awake05 (s := s)
        simp only [decide_eq_true hl, bnd, guard_tt, guard_ff, guard_tf, guard_ft, pick_t, pick_f, if_t, if_f, add_i, sub_i, lss_i, leq_i, gtr_i, geq_i, eql_i, neq_i, min_i, max_i, conv_i, len_sl, len_nil, not_b, cells_agg, new_s, fld_p, nil_p, k1]
        exact ⟨s', rfl⟩
      · simp only [decide_eq_false hl, bnd, guard_tt, guard_ff, guard_tf, guard_ft, pick_t, pick_f, if_t, if_f, add_i, sub_i, lss_i, leq_i, gtr_i, geq_i, eql_i, neq_i, min_i, max_i, conv_i, len_sl, len_nil, not_b, cells_agg, new_s, fld_p, nil_p]
        have e : ∀ f : List AV → Option (AV × Store), aBuild [] [] f = f [] := fun _ => rfl
        obtain ⟨s1, k1, g1, n1, e1⟩ := own_copy h0 (by omega)
        have own1 : IsSl s1 (.sl s.next 0 base.length 1 base.length) .u64 base := .inr ⟨s.next, false, rfl, n1, g1⟩
        rw [e, k1]
        obtain ⟨v2, s2, k2, r2, e2⟩ := bat_after own1 (h3.ext e1) hu hw 9995 (by omega) (by omega) (by omega)
        have e02 := e1.trans e2
        have k3 := equal_same (own1.ext e2) (h0.ext e02) 9996 (by omega) (by omega)
        obtain ⟨v4, s4, k4, r4, e4⟩ := ref_after (h0.ext e02) (h3.ext e02) hu hw 9995 (by omega) (by omega) (by omega)
        have e04 := e02.trans e4
        have k5 := equal_same (r2.ext e4) r4 9996 (by rw [afterR_len]; omega) (by omega)
        obtain ⟨s6, k6, e6⟩ := bat_may (most := most) (h0.ext e04) (h3.ext e04) hu hw hm 9996 (by omega) (by omega)
        have e06 := e04.trans e6
        obtain ⟨s7, k7, e7⟩ := ref_may (most := most) (h0.ext e06) (h3.ext e06) hu hw hm 9996 (by omega) (by omega)
        have e07 := e06.trans e7
        obtain ⟨s8, k8, e8⟩ := bat_held (h1.ext e07) (h3.ext e07) hw (by omega) 9995 (by omega) (by omega)
        have e08 := e07.trans e8
        obtain ⟨s9, k9, e9⟩ := ref_held (h1.ext e08) (h3.ext e08) hw 9998 (by omega) (by omega)
        have e09 := e08.trans e9
        obtain ⟨v10, s10, k10, r10, e10⟩ := bat_order (h3.ext e09) hw 9995 (by omega) (by omega) (by omega)
        have e010 := e09.trans e10
        obtain ⟨v11, s11, k11, r11, e11⟩ := ref_order (h3.ext e010) hw 9995 (by omega) (by omega) (by omega)
        have hol := orderR_len (l := l)
        have k12 := ids_same (r10.ext e11) r11 9999 (by omega) (by omega)
        obtain ⟨s13, k13, _⟩ := awake05 (s := s11)
        have eqb : ∀ (a : Bool) {α : Type} (f : Bool → Option α), aEq .bool (.bool a) (.bool a) f = f true := fun a α f => by simp [aEq]
        simp only [Nat.reduceAdd] at k2 k3 k4 k5 k6 k7 k8 k9 k10 k11 k12
        simp only [k2, k3, k4, k5, k6, k7, k8, k9, k10, k11, k12, k13, eqb, Bool.not_true, bnd, guard_tt, guard_ff, guard_tf, guard_ft, pick_t, pick_f, if_t, if_f, add_i, sub_i, lss_i, leq_i, gtr_i, geq_i, eql_i, neq_i, min_i, max_i, conv_i, len_sl, len_nil, not_b, cells_agg, new_s, fld_p, nil_p]
        exact ⟨s13, rfl⟩

set_option linter.unusedVariables false in
theorem lawBatchIs (a0 : _) (w0 : (shSlice (shInt .u64)).wf a0) (a1 : _) (w1 : (shSlice (shInt .u64)).wf a1) (a2 : _) (w2 : (shInt .i64).wf a2) (a3 : _) (w3 : (shSlice (shPair (shInt .u8) (shPair (shInt .u64) (shInt .u64)))).wf a3) : ∃ k s', run Try.prog k 5 ([] ++ ((shSlice (shInt .u64)).put a0 (Store.empty)).1 ++ ((shSlice (shInt .u64)).put a1 (((shSlice (shInt .u64)).put a0 Store.empty).2)).1 ++ ((shInt .i64).put a2 (((shSlice (shInt .u64)).put a1 ((shSlice (shInt .u64)).put a0 Store.empty).2).2)).1 ++ ((shSlice (shPair (shInt .u8) (shPair (shInt .u64) (shInt .u64)))).put a3 (((shInt .i64).put a2 ((shSlice (shInt .u64)).put a1 ((shSlice (shInt .u64)).put a0 Store.empty).2).2).2)).1) ((shSlice (shPair (shInt .u8) (shPair (shInt .u64) (shInt .u64)))).put a3 ((shInt .i64).put a2 ((shSlice (shInt .u64)).put a1 ((shSlice (shInt .u64)).put a0 Store.empty).2).2).2).2 = some (.bool true, s') := by
  obtain ⟨v0, xs0, p0, h0, u0, _, _⟩ := put_u64 a0 Store.empty w0
  obtain ⟨v1, xs1, p1, h1, _, _, e1⟩ := put_u64 a1 ((shSlice (shInt .u64)).put a0 Store.empty).2 w1
  obtain ⟨b1, b2⟩ := i64_of w2
  obtain ⟨v3, l, p3, h3, hw, e3⟩ := put_runs a3 ((shInt .i64).put a2 ((shSlice (shInt .u64)).put a1 ((shSlice (shInt .u64)).put a0 Store.empty).2).2).2 w3
  obtain ⟨s', k⟩ := law_is (most := a2) ((h0.ext e1).ext e3) (h1.ext e3) h3 u0 hw b2
  rw [p0, p1, p3]
  exact ⟨10001, s', k⟩
end Go.Proofs.Yteaflagknacfoaa.Sim
