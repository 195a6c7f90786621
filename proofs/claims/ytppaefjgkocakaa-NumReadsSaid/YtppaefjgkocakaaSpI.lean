/- Seat 01: the document's reader reads a row, and ends. No condition. -/
import Derived.Test.YtppaefjgkocakaaSpH
namespace Go.Proofs.Ytppaefjgkocakaa.Sim
set_option linter.unusedSimpArgs false
set_option linter.unusedVariables false

theorem rr_end {s : Store} {bv : AV} {b : List Int} {e : Int} (hv : IsV s bv .u8 b) (k : Nat) : ∃ s', rn (k + 1) 23 [.agg [bv, .int .i64 e]] s = some (.int .i64 (endR b e), s') ∧ Ext s s' := by
  rw [unisonref01_R_End.eq]
  unfold unisonref01_R_End.f unisonref01_R_End.p0 endR
  rw [cells_agg, new_s]
  have e1 := Ext.push s (.cells [bv, .int .i64 e] false)
  have g : (s.push (.cells [bv, .int .i64 e] false)).get s.next = .cells [bv, .int .i64 e] false := by rw [get_push, if_pos rfl]
  simp only [List.length_cons, List.length_nil, Nat.zero_add, Nat.reduceAdd]
  generalize s.push (.cells [bv, .int .i64 e] false) = s1 at *
  rw [fld_p, ld_f1 g, eql_i]
  by_cases he : e = 0
  · subst he
    simp only [beq_self_eq_true, bnd, guard_tt, guard_ff, guard_tf, guard_ft, pick_t, pick_f, if_t, if_f, add_i, sub_i, lss_i, leq_i, gtr_i, geq_i, eql_i, neq_i, min_i, max_i, conv_i, len_sl, len_nil, not_b, cells_agg, new_s, fld_p, nil_p, ld_f0 g, lenV (hv.ext e1)]
    by_cases hb : 0 < b.length
    · rw [decide_eq_true (show (b.length : Int) > 0 by omega), if_t]
      exact ⟨s1, by simp [hb], e1⟩
    · rw [decide_eq_false (show ¬ (b.length : Int) > 0 by omega), if_f, ld_f1 g]
      exact ⟨s1, by simp [hb], e1⟩
  · have he' : (e == 0) = false := by simpa using he
    simp only [he', bnd, guard_tt, guard_ff, guard_tf, guard_ft, pick_t, pick_f, if_t, if_f, add_i, sub_i, lss_i, leq_i, gtr_i, geq_i, eql_i, neq_i, min_i, max_i, conv_i, len_sl, len_nil, not_b, cells_agg, new_s, fld_p, nil_p, ld_f1 g]
    exact ⟨s1, by rw [if_neg (fun q => he q.1)], e1⟩

section
variable {s t : Store} {a d : Nat} {bv lv : AV} {b left : List Int} {e y : Int}

/-- The end, where there is an error. -/
theorem rr_bad (k : Nat) {x6 : AV} (hy : y ≠ 0) (ga : t.get a = .cells [bv, .int .i64 e] false) (gc : t.get (a + 1) = .cells [.nilsl, .int .i64 0] false) (gd : t.get d = .cells [lv, .int .i64 y] false) (had : a + 1 < d) (hdn : d < t.next) (hlt : ∀ i x c z f, bv = .sl i x c z f → i < a) (hv : IsV t bv .u8 b) :
    ∃ rv t', unisonref01_R_Row.p9 k (.ptr a 0 2) (.ptr (a + 1) 0 2) x6 (.ptr d 0 2) t = some (.tuple [rv, .agg [bv, .int .i64 y]], t') ∧ IsV t' rv .u8 [] ∧ IsV t' bv .u8 b ∧ t.next ≤ t'.next ∧ (∀ l, l < a → t'.get l = t.get l) ∧ ∀ i x c z f, rv = .sl i x c z f → t.next ≤ i := by
  unfold unisonref01_R_Row.p9 unisonref01_R_Row.p8 unisonref01_R_Row.p6 unisonref01_R_Row.p5 unisonref01_R_Row.p4
  have hy' : (y != 0) = true := by simpa using hy
  rw [fld_p, ld_f1 gd, neq_i, hy', if_t, fld_p, ld_f1 gd, fld_p, st_f1 ga]
  have g1 : (t.set a (.cells [bv, .int .i64 y] false)).get a = .cells [bv, .int .i64 y] false := by rw [get_set, if_pos rfl]
  have n1 : (t.set a (.cells [bv, .int .i64 y] false)).next = t.next := rfl
  have gc1 : (t.set a (.cells [bv, .int .i64 y] false)).get (a + 1) = .cells [.nilsl, .int .i64 0] false := by rw [get_set, if_neg (by omega)]; exact gc
  have fr1 : ∀ l, l ≠ a → (t.set a (.cells [bv, .int .i64 y] false)).get l = t.get l := fun l hl => by rw [get_set, if_neg hl]
  generalize t.set a (.cells [bv, .int .i64 y] false) = t1 at *
  have e2 := Ext.push t1 (.cells [] false)
  have g2 := (e2.get a (by omega)).trans g1
  have gc2 := (e2.get (a + 1) (by omega)).trans gc1
  have n2 : (t1.push (.cells [] false)).next = t1.next + 1 := rfl
  have g0 : (t1.push (.cells [] false)).get t1.next = .cells [] false := by rw [get_push, if_pos rfl]
  rw [build_0]
  simp only [bnd, guard_tt, guard_ff, guard_tf, guard_ft, pick_t, pick_f, if_t, if_f, add_i, sub_i, lss_i, leq_i, gtr_i, geq_i, eql_i, neq_i, min_i, max_i, conv_i, len_sl, len_nil, not_b, cells_agg, new_s, fld_p, nil_p]
  generalize t1.push (.cells [] false) = t2 at *
  have g3 : (t2.set (a + 1) (.cells [bv, .int .i64 y] false)).get (a + 1) = .cells [bv, .int .i64 y] false := by rw [get_set, if_pos rfl]
  simp only [bnd, guard_tt, guard_ff, guard_tf, guard_ft, pick_t, pick_f, if_t, if_f, add_i, sub_i, lss_i, leq_i, gtr_i, geq_i, eql_i, neq_i, min_i, max_i, conv_i, len_sl, len_nil, not_b, cells_agg, new_s, fld_p, nil_p, ldN g2, ldN g1, aSame_self, stN _ _ gc2 rfl, ldN g3]
  have fr : ∀ l, l < t.next → l ≠ a → l ≠ a + 1 → (t2.set (a + 1) (.cells [bv, .int .i64 y] false)).get l = t.get l := fun l h0 h1 h2 => by rw [get_set, if_neg h2, e2.get l (by omega)]; exact fr1 l h1
  refine ⟨_, _, rfl, .inr ⟨t1.next, 0, [], false, rfl, by rw [next_set, n2]; omega, by rw [get_set, if_neg (by omega)]; exact g0, by simp, rfl⟩, ?_, by rw [next_set]; omega, fun l hl => fr l (by omega) (by omega) (by omega), fun i x c z f q => by cases q; omega⟩
  rcases hv with q | ⟨l, off, ys, ro, q1, q2, q3, q4⟩
  · exact .inl q
  · have := hlt _ _ _ _ _ q1
    exact .inr ⟨l, off, ys, ro, q1, by rw [next_set]; omega, by rw [fr l q2 (by omega) (by omega)]; exact q3, q4⟩
end

theorem rr_row {s : Store} {bv : AV} {b : List Int} {e most : Int} (hv : IsV s bv .u8 b) (hu : ∀ x ∈ b, 0 ≤ x ∧ x < 256) (hb : b.length ≤ 1000000) (hm : most < 9223372036854775808) (k : Nat) (hk : 50 ≤ k) (hk2 : k ≤ 90000) : ∃ rv lv s', rn (k + 3) 20 [.agg [bv, .int .i64 e], .int .i64 most] s = some (.tuple [rv, .agg [lv, .int .i64 (rdRow b e most).2.2]], s') ∧ IsV s' rv .u8 (rdRow b e most).1 ∧ IsV s' lv .u8 (rdRow b e most).2.1 ∧ (∀ a b c d f, lv = .sl a b c d f → ∃ b c d f, bv = .sl a b c d f) ∧ Ext s s' ∧ ∀ i b c d f, rv = .sl i b c d f → (∃ b c d f, bv = .sl i b c d f) ∨ s.next ≤ i := by
  rw [unisonref01_R_Row.eq]
  unfold unisonref01_R_Row.f unisonref01_R_Row.p14
  rw [cells_agg, new_s, new_s]
  simp only [List.length_cons, List.length_nil, Nat.zero_add, Nat.reduceAdd]
  obtain ⟨a, ha⟩ : ∃ a, a = s.next := ⟨_, rfl⟩
  have e0 : Ext s ((s.push (.cells [bv, .int .i64 e] false)).push (.cells [.nilsl, .int .i64 0] false)) := (Ext.push _ _).trans (Ext.push _ _)
  have ga : ((s.push (.cells [bv, .int .i64 e] false)).push (.cells [.nilsl, .int .i64 0] false)).get a = .cells [bv, .int .i64 e] false := by grind [get_push, next_push]
  have gc : ((s.push (.cells [bv, .int .i64 e] false)).push (.cells [.nilsl, .int .i64 0] false)).get (a + 1) = .cells [.nilsl, .int .i64 0] false := by grind [get_push, next_push]
  have nx : ((s.push (.cells [bv, .int .i64 e] false)).push (.cells [.nilsl, .int .i64 0] false)).next = a + 2 := by rw [ha]; rfl
  rw [show (s.push (.cells [bv, .int .i64 e] false)).next = s.next + 1 from rfl, ← ha]
  generalize (s.push (.cells [bv, .int .i64 e] false)).push (.cells [.nilsl, .int .i64 0] false) = s5 at *
  have hv5 := hv.ext e0
  have hvlt : ∀ i x c z f, bv = .sl i x c z f → i < a := fun i x c z f q => by have := hv.lt i x c z f q; omega
  have h13 : unisonref01_R_Row.p13 (k + 2) (.int .i64 most) (.ptr a 0 2) (.ptr (a + 1) 0 2) s5 = unisonref01_R_Row.p12 (k + 2) (.int .i64 (max most 0)) (.ptr a 0 2) (.ptr (a + 1) 0 2) s5 := by
    unfold unisonref01_R_Row.p13
    rw [lss_i]
    by_cases h : most < 0
    · rw [decide_eq_true h, if_t, show max most 0 = 0 by omega]
    · rw [decide_eq_false h, if_f, show max most 0 = most by omega]
  rw [h13]
  unfold unisonref01_R_Row.p12
  obtain ⟨lv, s6, k6, v6, l6, e6⟩ := rr_num (e := e) (most := 18446744073709551615) hv5 hu hb k hk hk2
  have ga6 := (e6.get a (by omega)).trans ga
  have gc6 := (e6.get (a + 1) (by omega)).trans gc
  have ex : ∀ (x y : AV) {α : Type} (f : AV → Option α), aExtract 0 (.tuple [x, y]) f = f x ∧ aExtract 1 (.tuple [x, y]) f = f y := fun x y α f => ⟨rfl, rfl⟩
  simp only [ldN ga, k6, bnd, guard_tt, guard_ff, guard_tf, guard_ft, pick_t, pick_f, if_t, if_f, add_i, sub_i, lss_i, leq_i, gtr_i, geq_i, eql_i, neq_i, min_i, max_i, conv_i, len_sl, len_nil, not_b, cells_agg, new_s, fld_p, nil_p, (ex _ _ _).1, (ex _ _ _).2, List.length_cons, List.length_nil, Nat.zero_add, Nat.reduceAdd]
  have hmx : IntKind.u64.wrap (max most 0) = max most 0 := w_u64 (by omega) (by omega)
  -- the row of the next reader
  obtain ⟨d, hd⟩ : ∃ d, d = s6.next := ⟨_, rfl⟩
  have hn6 := e6.next
  have e7 : Ext s6 ((s6.push (.cells [.nilsl, .int .i64 0] false)).set d (.cells [lv, .int .i64 (rdNum b e 18446744073709551615).2.2] false)) := ⟨by simp only [next_set, next_push]; omega, fun l hl => by rw [get_set, if_neg (by omega), get_push, if_neg (by omega)]⟩
  have gd0 : (s6.push (.cells [.nilsl, .int .i64 0] false)).get d = .cells [.nilsl, .int .i64 0] false := by rw [get_push, if_pos hd]
  have gd : ((s6.push (.cells [.nilsl, .int .i64 0] false)).set d (.cells [lv, .int .i64 (rdNum b e 18446744073709551615).2.2] false)).get d = .cells [lv, .int .i64 (rdNum b e 18446744073709551615).2.2] false := by rw [get_set, if_pos rfl]
  have n7 : ((s6.push (.cells [.nilsl, .int .i64 0] false)).set d (.cells [lv, .int .i64 (rdNum b e 18446744073709551615).2.2] false)).next = d + 1 := by rw [hd]; rfl
  rw [← hd, stN _ _ gd0 rfl]
  generalize (s6.push (.cells [.nilsl, .int .i64 0] false)).set d (.cells [lv, .int .i64 (rdNum b e 18446744073709551615).2.2] false) = s7 at *
  have ga7 := (e7.get a (by omega)).trans ga6
  have gc7 := (e7.get (a + 1) (by omega)).trans gc6
  have e07 := (e0.trans e6).trans e7
  have v7 := (v6.ext e6).ext e7
  have hnn := numR_nn hu 18446744073709551615
  have hln := numR_len b 18446744073709551615
  -- an error
  have bad : ∀ (y : Int) (t : Store) (x6 : AV), y ≠ 0 → t.get a = .cells [bv, .int .i64 e] false → t.get (a + 1) = .cells [.nilsl, .int .i64 0] false → t.get d = .cells [lv, .int .i64 y] false → d < t.next → IsV t bv .u8 b → (∀ l, l < a → t.get l = s7.get l) → ∃ rv t', unisonref01_R_Row.p9 (k + 2) (.ptr a 0 2) (.ptr (a + 1) 0 2) x6 (.ptr d 0 2) t = some (.tuple [rv, .agg [bv, .int .i64 y]], t') ∧ IsV t' rv .u8 [] ∧ IsV t' bv .u8 b ∧ Ext s t' ∧ ∀ i x c z f, rv = .sl i x c z f → s.next ≤ i := by
    intro y t x6 h1 h2 h3 h4 h5 h6 h7
    obtain ⟨rv, t', r1, r2, r3, r4, r5, r6⟩ := rr_bad (k + 2) (x6 := x6) h1 h2 h3 h4 (by omega) h5 hvlt h6
    exact ⟨rv, t', r1, r2, r3, ⟨by omega, fun l hl => by rw [r5 l (by omega), h7 l (by omega)]; exact e07.get l hl⟩, fun i x c z f q => by have := r6 i x c z f q; omega⟩
  have hbv7 := hv.ext e07
  unfold unisonref01_R_Row.p11 unisonref01_R_Row.p10
  rw [fld_p, ld_f1 gd, eql_i]
  by_cases hx : (rdNum b e 18446744073709551615).2.2 = 0
  · have he : e = 0 := by
      by_cases q : e = 0
      · exact q
      · unfold rdNum at hx; rw [if_pos q] at hx; exact absurd hx q
    subst he
    have hx2 : (numR b 18446744073709551615).2.2 = 0 := by
      by_cases q : (numR b 18446744073709551615).2.2 = 0
      · exact q
      · unfold rdNum at hx; rw [if_neg (by simp), if_pos q] at hx; exact absurd hx q
    have hrd : rdNum b 0 18446744073709551615 = numR b 18446744073709551615 := by unfold rdNum; rw [if_neg (by simp), if_neg (by simp [hx2])]
    have hrow : rdRow b 0 most = if (numR b 18446744073709551615).1 > max most 0 then ([], b, 4) else if (numR b 18446744073709551615).1 > (numR b 18446744073709551615).2.1.length then ([], b, 2) else ((numR b 18446744073709551615).2.1.take (numR b 18446744073709551615).1.toNat, (numR b 18446744073709551615).2.1.drop (numR b 18446744073709551615).1.toNat, 0) := by
      unfold rdRow; rw [if_neg (by simp), if_neg (by simp [hx2])]
    rw [hrow]
    rw [hrd] at gd v7 v6 hx ⊢
    generalize numR b 18446744073709551615 = R at *
    obtain ⟨n, left, er⟩ := R
    simp only at *
    subst hx2
    simp only [beq_self_eq_true, bnd, guard_tt, guard_ff, guard_tf, guard_ft, pick_t, pick_f, if_t, if_f, add_i, sub_i, lss_i, leq_i, gtr_i, geq_i, eql_i, neq_i, min_i, max_i, conv_i, len_sl, len_nil, not_b, cells_agg, new_s, fld_p, nil_p, hmx]
    have sets : ∀ y : Int, (s7.set d (.cells [lv, .int .i64 y] false)).get a = .cells [bv, .int .i64 0] false ∧ (s7.set d (.cells [lv, .int .i64 y] false)).get (a + 1) = .cells [.nilsl, .int .i64 0] false ∧ (s7.set d (.cells [lv, .int .i64 y] false)).get d = .cells [lv, .int .i64 y] false ∧ (∀ l, l < a → (s7.set d (.cells [lv, .int .i64 y] false)).get l = s7.get l) ∧ IsV (s7.set d (.cells [lv, .int .i64 y] false)) bv .u8 b := by
      intro y
      refine ⟨by rw [get_set, if_neg (by omega)]; exact ga7, by rw [get_set, if_neg (by omega)]; exact gc7, by rw [get_set, if_pos rfl], fun l hl => by rw [get_set, if_neg (by omega)], hbv7.fr1 (Fr1.set d s7 _) fun i x c z f q => by have := hvlt i x c z f q; omega⟩
    by_cases h1 : n > max most 0
    · rw [decide_eq_true h1, if_t, if_pos h1, st_f1 gd]
      obtain ⟨q1, q2, q3, q4, q5⟩ := sets 4
      simp only [ld_f1 q3, bnd, guard_tt, guard_ff, guard_tf, guard_ft, pick_t, pick_f, if_t, if_f, add_i, sub_i, lss_i, leq_i, gtr_i, geq_i, eql_i, neq_i, min_i, max_i, conv_i, len_sl, len_nil, not_b, cells_agg, new_s, fld_p, nil_p, show ((4 : Int) == 0) = false from rfl]
      obtain ⟨rv, t', r1, r2, r3, r4, r5⟩ := bad 4 _ (.int .u64 n) (by omega) q1 q2 q3 (by rw [next_set]; omega) q5 q4
      exact ⟨rv, bv, t', r1, r2, r3, fun i x c z f q => ⟨_, _, _, _, q⟩, r4, fun i x c z f q => .inr (by have := r5 i x c z f q; omega)⟩
    · rw [decide_eq_false h1, if_f, if_neg h1, ld_f1 gd]
      simp only [beq_self_eq_true, bnd, guard_tt, guard_ff, guard_tf, guard_ft, pick_t, pick_f, if_t, if_f, add_i, sub_i, lss_i, leq_i, gtr_i, geq_i, eql_i, neq_i, min_i, max_i, conv_i, len_sl, len_nil, not_b, cells_agg, new_s, fld_p, nil_p, ld_f0 gd, lenV v7, w_u64 (show (0 : Int) ≤ left.length by omega) (show (left.length : Int) < 18446744073709551616 by omega)]
      by_cases h2 : n > (left.length : Int)
      · rw [decide_eq_true h2, if_t, if_pos h2, st_f1 gd]
        obtain ⟨q1, q2, q3, q4, q5⟩ := sets 2
        obtain ⟨rv, t', r1, r2, r3, r4, r5⟩ := bad 2 _ (.int .u64 n) (by omega) q1 q2 q3 (by rw [next_set]; omega) q5 q4
        exact ⟨rv, bv, t', r1, r2, r3, fun i x c z f q => ⟨_, _, _, _, q⟩, r4, fun i x c z f q => .inr (by have := r5 i x c z f q; omega)⟩
      · rw [decide_eq_false h2, if_f, if_neg h2]
        unfold unisonref01_R_Row.p9 unisonref01_R_Row.p8 unisonref01_R_Row.p7 unisonref01_R_Row.p3 unisonref01_R_Row.p2 unisonref01_R_Row.p1 unisonref01_R_Row.p0
        obtain ⟨nn, hnn2⟩ : ∃ nn : Nat, n = nn := ⟨n.toNat, by omega⟩
        subst hnn2
        obtain ⟨dv, d1, _, d3, _, d2⟩ := sliceV v7 (a := nn) (b := left.length) (by omega) (Nat.le_refl _)
        have d2' : ∀ {α : Type} (f : AV → Option α), aSliceSl 1 lv (some (.int .u64 (nn : Int))) none f = f dv := fun f => d2 rfl .u64 f
        have d1' : IsV s7 dv .u8 (left.drop nn) := by
          have e : ((left.drop nn).take (left.length - nn)) = left.drop nn := List.take_of_length_le (by simp)
          rw [e] at d1; exact d1
        obtain ⟨tv, t1, _, t3, t2, _⟩ := sliceV v7 (a := 0) (b := nn) (Nat.zero_le _) (by omega)
        have t2' : ∀ {α : Type} (f : AV → Option α), aSliceSl 1 lv none (some (.int .u64 (nn : Int))) f = f tv := fun f => t2 rfl .u64 f
        have t1' : IsV s7 tv .u8 (left.take nn) := by simpa using t1
        have g8 : (s7.set d (.cells [dv, .int .i64 0] false)).get d = .cells [dv, .int .i64 0] false := by rw [get_set, if_pos rfl]
        have gc8 : (s7.set d (.cells [dv, .int .i64 0] false)).get (a + 1) = .cells [.nilsl, .int .i64 0] false := by rw [get_set, if_neg (by omega)]; exact gc7
        have g9 : ((s7.set d (.cells [dv, .int .i64 0] false)).set (a + 1) (.cells [dv, .int .i64 0] false)).get (a + 1) = .cells [dv, .int .i64 0] false := by rw [get_set, if_pos rfl]
        have hne : ((0 : Int) != 0) = false := rfl
        simp only [bnd, guard_tt, guard_ff, guard_tf, guard_ft, pick_t, pick_f, if_t, if_f, add_i, sub_i, lss_i, leq_i, gtr_i, geq_i, eql_i, neq_i, min_i, max_i, conv_i, len_sl, len_nil, not_b, cells_agg, new_s, fld_p, nil_p, ld_f1 gd, hne, ld_f0 gd, t2', d2', st_f0 gd d1', ldN g8, stN _ _ gc8 rfl, ldN g9, Int.toNat_natCast]
        have lva : ∀ i x c z f, lv = .sl i x c z f → i < a := fun i x c z f q => by obtain ⟨_, _, _, _, q'⟩ := l6 i x c z f q; exact hvlt _ _ _ _ _ q'
        have keep : ∀ {v : AV} {xs : List Int}, IsV s7 v .u8 xs → (∀ i x c z f, v = .sl i x c z f → i < a) → IsV ((s7.set d (.cells [dv, .int .i64 0] false)).set (a + 1) (.cells [dv, .int .i64 0] false)) v .u8 xs := fun h hl =>
          (h.fr1 (Fr1.set d s7 _) fun i x c z f q => by have := hl i x c z f q; omega).fr1 (Fr1.set (a + 1) _ _) fun i x c z f q => by have := hl i x c z f q; omega
        refine ⟨tv, dv, _, rfl, keep t1' fun i x c z f q => ?_, keep d1' fun i x c z f q => ?_, fun i x c z f q => ?_, ⟨by simp only [next_set]; exact e07.next, fun l hl => by rw [get_set, if_neg (by omega), get_set, if_neg (by omega)]; exact e07.get l hl⟩, fun i x c z f q => .inl ?_⟩
        · obtain ⟨_, _, _, _, q'⟩ := t3 i x c z f q; exact lva _ _ _ _ _ q'
        · obtain ⟨_, _, _, _, q'⟩ := d3 i x c z f q; exact lva _ _ _ _ _ q'
        · obtain ⟨_, _, _, _, q'⟩ := d3 i x c z f q; exact l6 _ _ _ _ _ q'
        · obtain ⟨_, _, _, _, q'⟩ := t3 i x c z f q; exact l6 _ _ _ _ _ q'
  · have hx' : ((rdNum b e 18446744073709551615).2.2 == 0) = false := by simpa using hx
    have hb0 : (rdNum b e 18446744073709551615).2.1 = b ∧ rdRow b e most = ([], b, (rdNum b e 18446744073709551615).2.2) := by
      unfold rdRow
      unfold rdNum at hx ⊢
      by_cases he : e ≠ 0
      · rw [if_pos he, if_pos he]; exact ⟨rfl, rfl⟩
      · rw [if_neg he, if_neg he] at *
        by_cases h2 : (numR b 18446744073709551615).2.2 ≠ 0
        · rw [if_pos h2, if_pos h2]; exact ⟨rfl, rfl⟩
        · rw [if_neg h2] at hx; exact absurd hx h2
    simp only [hx', bnd, guard_tt, guard_ff, guard_tf, guard_ft, pick_t, pick_f, if_t, if_f, add_i, sub_i, lss_i, leq_i, gtr_i, geq_i, eql_i, neq_i, min_i, max_i, conv_i, len_sl, len_nil, not_b, cells_agg, new_s, fld_p, nil_p, ld_f1 gd]
    rw [hb0.2]
    obtain ⟨rv, t', r1, r2, r3, r4, r5⟩ := bad _ s7 (.int .u64 (rdNum b e 18446744073709551615).1) hx ga7 gc7 gd (by omega) hbv7 (fun _ _ => rfl)
    exact ⟨rv, bv, t', r1, r2, r3, fun i x c z f q => ⟨_, _, _, _, q⟩, r4, fun i x c z f q => .inr (by have := r5 i x c z f q; omega)⟩
end Go.Proofs.Ytppaefjgkocakaa.Sim
