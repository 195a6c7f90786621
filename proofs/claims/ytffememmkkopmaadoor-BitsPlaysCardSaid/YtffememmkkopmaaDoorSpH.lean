/- Seat 11: the law BitsPlays, its run. No condition. -/
import Derived.Test.YtffememmkkopmaaDoorSpG
namespace Go.Proofs.YtffememmkkopmaaDoor.Sim
set_option linter.unusedSimpArgs false
set_option linter.unusedVariables false

theorem eq_b (a b : Bool) {α : Type} (f : Bool → Option α) : aEq .bool (.bool a) (.bool b) f = f (a == b) := rfl
theorem ext_0 (vs : AV) (a b : AV) {α : Type} (f : AV → Option α) : aExtract 0 (.tuple [a, b]) f = f a := rfl
theorem ext_1 (vs : AV) (a b : AV) {α : Type} (f : AV → Option α) : aExtract 1 (.tuple [a, b]) f = f b := rfl
theorem marks_put {m : List Bool} {n : Nat} {W : List Nat} (h : Marks m n W) (hl : W.length = (n + 63) / 64) (x : Int) : Marks (mput m x).1 n (put1 n (W, 0) x).1 ∧ (put1 n (W, 0) x).2 = (mput m x).2 := by
  obtain ⟨h1, h2⟩ := h
  by_cases q : 0 ≤ x ∧ x < n ∧ bitW W x.toNat = false
  · have hx : x.toNat < m.length := by omega
    have e1 : put1 n (W, 0) x = (orB W x.toNat, 0 + 1) := by unfold put1; exact if_pos q
    have e2 : mput m x = (m.set x.toNat true, 1) := by
      unfold mput
      refine if_pos ⟨q.1, by omega, ?_⟩
      have := h2 x.toNat hx
      simp [hx, this, q.2.2]
    rw [e1, e2]
    refine ⟨⟨by simp [h1], fun j hj => ?_⟩, rfl⟩
    simp only [List.length_set] at hj
    rw [bitW_orB (by omega)]
    simp only [List.getElem_set]
    by_cases z : x.toNat = j
    · rw [if_pos z, decide_eq_true z.symm, Bool.or_true]
    · rw [if_neg z, decide_eq_false (fun y => z y.symm), Bool.or_false, h2 j hj]
  · have e1 : put1 n (W, 0) x = (W, 0) := by unfold put1; exact if_neg q
    have e2 : mput m x = (m, 0) := by
      unfold mput
      refine if_neg fun z => q ⟨z.1, by omega, ?_⟩
      have hx : x.toNat < m.length := by omega
      have := h2 x.toNat hx
      have z3 := z.2.2
      simp [hx, this] at z3
      exact z3
    rw [e1, e2]
    exact ⟨⟨h1, h2⟩, rfl⟩

section
variable {id wid n : Nat} {lv x2 x3 x4 : AV} {l : List Int}
theorem plays_loop (k : Nat) (hl : l.length ≤ 1000000) (hn : n ≤ 1000) (hoff : ∀ i b c d f, lv = .sl i b c d f → i ≠ wid) : ∀ (g i : Nat) (s : Store) (W : List Nat) (mid : Nat) (m : List Bool), IsSet s id wid W n → IsV s lv .i64 l → IsB s mid m → mid ≠ wid → Marks m n W → (∀ j, n ≤ j → bitW W j = false) → i ≤ l.length → l.length - i < g →
    ∃ s' W' mid' m', unisonlaw11_BitsPlays.l0 (k + 6) g lv x2 x3 x4 (.ptr id 0 2) (bv mid m) (.int .i64 (i : Nat)) s = unisonlaw11_BitsPlays.p0 (k + 6) x2 x3 x4 (.ptr id 0 2) (bv mid' m') s' ∧ IsSet s' id wid W' n ∧ IsB s' mid' m' ∧ Marks m' n W' ∧ Fr1 wid s s' ∧ ∀ j, n ≤ j → bitW W' j = false
  | 0, i, _, _, _, _, _, _, _, _, _, _, _, hg => by omega
  | g + 1, i, s, W, mid, m, h, hv, hm, hne, hM, ht, hi, hg => by
    have hs : unisonlaw11_BitsPlays.l0 (k + 6) (g + 1) = fun x1 x2 x3 x4 x11 x12 x13 s => unisonlaw11_BitsPlays.p6 (k + 6) (unisonlaw11_BitsPlays.l0 (k + 6) g) x1 x2 x3 x4 x11 x12 x13 s := rfl
    rw [hs]
    clear hs
    simp only
    unfold unisonlaw11_BitsPlays.p6
    rw [lenV hv, lss_i]
    by_cases hil : i < l.length
    · rw [decide_eq_true (by omega), if_t]
      unfold unisonlaw11_BitsPlays.p5
      obtain ⟨p, p1, p2⟩ := atV hv (show (0 : Int) ≤ (i : Int) by omega) (by omega)
      have eg : l.getD (i : Int).toNat 0 = l[i] := by simp [hil]
      rw [eg] at p2
      have hx := l[i]
      generalize hxx : l[i] = x at *
      obtain ⟨mid2, s1, k1, m1, e1, o1⟩ := refput_run hm (by rw [hM.1]; omega) x (k + 5)
      simp only [Nat.add_assoc, Nat.reduceAdd] at k1
      have hv1 := hv.ext e1
      obtain ⟨p', p1', p2'⟩ := atV hv1 (show (0 : Int) ≤ (i : Int) by omega) (by omega)
      rw [eg] at p2'
      have h1 := h.ext e1
      have e2 := Ext.push s1 (.cells [.int .i64 x] false)
      have h2 := h1.ext e2
      obtain ⟨s3, k3, r3, f3, n3⟩ := put_run h2 (isV_push s1 .i64 [x] false) (by simp) (fun i b c d f q => by cases q; exact fun z => by have := h1.wid_lt; omega) (k + 3) (by simp)
      simp only [List.map_cons, List.map_nil, List.length_cons, List.length_nil, Nat.zero_add, Nat.reduceAdd, Nat.add_assoc, List.foldl_cons, List.foldl_nil] at k3 r3
      obtain ⟨hM', hcnt⟩ := marks_put hM h.len x
      have f1 : Fr1 wid s s3 := (e1.fr1 wid).trans ((e2.fr1 wid).trans f3)
      have hv3 := hv.fr1 f1 hoff
      obtain ⟨p3, p31, p32⟩ := atV hv3 (show (0 : Int) ≤ (i : Int) by omega) (by omega)
      rw [eg] at p32
      have q1 : some p' = some p := (p1' .i64 some).symm.trans (p1 .i64 some)
      have q3 : some p3 = some p := (p31 .i64 some).symm.trans (p1 .i64 some)
      rw [Option.some.inj q1] at p2'
      rw [Option.some.inj q3] at p32
      clear q1 q3 p1' p31
      have hid2 : mid2 ≠ wid := by
        rcases o1 with o | o
        · rw [o]; exact hne
        · have := h.wid_lt; omega
      have m3 : IsB s3 mid2 (mput m x).1 := (m1.ext e2).fr1 f3 hid2
      have hbx : (decide (0 ≤ x) && decide (x < (n : Int)) && bitW (put1 n (W, 0) x).1 x.toNat) = (decide (0 ≤ x) && decide (x < (n : Int))) := by
        by_cases q : 0 ≤ x ∧ x < n
        · rw [put1_bit h.len 0 x x.toNat, decide_eq_true (show x.toNat < n by omega), decide_eq_true (show (x.toNat : Int) = x by omega)]; simp
        · have : (decide (0 ≤ x) && decide (x < (n : Int))) = false := by
            rw [Bool.and_eq_false_iff]
            by_cases z : 0 ≤ x
            · exact .inr (decide_eq_false fun y => q ⟨z, y⟩)
            · exact .inl (decide_eq_false z)
          rw [this, Bool.false_and]
      have k4 := has_run r3 x (k + 4)
      rw [hbx] at k4
      simp only [Nat.add_assoc, Nat.reduceAdd] at k4
      have hml : (mput m x).1.length = n := hM'.1
      have hw : IntKind.i64.wrap ((i : Int) + 1) = ((i + 1 : Nat) : Int) := by rw [w_i64 (by omega) (by omega)]; omega
      have ht' : ∀ j, n ≤ j → bitW (put1 n (W, 0) x).1 j = false := fun j hj => by rw [put1_bit h.len, ht j hj, decide_eq_false (by omega)]; rfl
      obtain ⟨s', W', mid', m', a1, a2, a3, a4, a5, a6⟩ := plays_loop k hl hn hoff g (i + 1) s3 _ mid2 (mput m x).1 r3 hv3 m3 hid2 hM' ht' (by omega) (by omega)
      refine ⟨s', W', mid', m', ?_, a2, a3, a4, f1.trans a5, a6⟩
      rw [← a1]
      simp only [p1, p2, k1, bnd]
      have x0 : ∀ (a b : AV) {α : Type} (f : AV → Option α), aExtract 0 (.tuple [a, b]) f = f a := fun _ _ _ _ => rfl
      have x1 : ∀ (a b : AV) {α : Type} (f : AV → Option α), aExtract 1 (.tuple [a, b]) f = f b := fun _ _ _ _ => rfl
      rw [x0, x1]
      unfold unisonlaw11_BitsPlays.p4 unisonlaw11_BitsPlays.p3 unisonlaw11_BitsPlays.p2 unisonlaw11_BitsPlays.p1
      simp only [p1, p2', build_1, k3, hcnt, bne_self_eq_false, bnd, guard_tt, guard_ff, guard_tf, guard_ft, pick_t, pick_f, if_t, if_f, add_i, sub_i, lss_i, leq_i, gtr_i, geq_i, eql_i, neq_i, min_i, max_i, conv_i, len_sl, len_nil, not_b, cells_agg, new_s, fld_p, nil_p, p32, k4, aSame_self]
      by_cases q0 : x < 0
      · simp only [decide_eq_true q0, decide_eq_false (show ¬ 0 ≤ x by omega), Bool.false_and, Bool.not_false, bnd, guard_tt, guard_ff, guard_tf, guard_ft, pick_t, pick_f, if_t, if_f, add_i, sub_i, lss_i, leq_i, gtr_i, geq_i, eql_i, neq_i, min_i, max_i, conv_i, len_sl, len_nil, not_b, cells_agg, new_s, fld_p, nil_p, guard_tf, eq_b, beq_self_eq_true, Bool.not_true, hw]
      · simp only [decide_eq_false q0, decide_eq_true (show 0 ≤ x by omega), Bool.true_and, bnd, guard_tt, guard_ff, guard_tf, guard_ft, pick_t, pick_f, if_t, if_f, add_i, sub_i, lss_i, leq_i, gtr_i, geq_i, eql_i, neq_i, min_i, max_i, conv_i, len_sl, len_nil, not_b, cells_agg, new_s, fld_p, nil_p, len_bv, hml]
        by_cases q1 : x ≥ (n : Int)
        · simp only [p1, p32, decide_eq_true q1, decide_eq_false (show ¬ x < (n : Int) by omega), Bool.not_false, eq_b, beq_self_eq_true, Bool.not_true, bnd, guard_tt, guard_ff, guard_tf, guard_ft, pick_t, pick_f, if_t, if_f, add_i, sub_i, lss_i, leq_i, gtr_i, geq_i, eql_i, neq_i, min_i, max_i, conv_i, len_sl, len_nil, not_b, cells_agg, new_s, fld_p, nil_p, hw]
        · simp only [p1, p32, decide_eq_false q1, decide_eq_true (show x < (n : Int) by omega), Bool.not_true, eq_b, beq_self_eq_true, bnd, guard_tt, guard_ff, guard_tf, guard_ft, pick_t, pick_f, if_t, if_f, add_i, sub_i, lss_i, leq_i, gtr_i, geq_i, eql_i, neq_i, min_i, max_i, conv_i, len_sl, len_nil, not_b, cells_agg, new_s, fld_p, nil_p, hw]
    · rw [decide_eq_false (by omega), if_f]
      exact ⟨s, W, mid, m, rfl, h, hm, hM, Fr1.refl _ _, ht⟩
end
theorem law_plays {s : Store} {lv : AV} {l : List Int} (ht : HasTab s) (hv : IsV s lv .i64 l) (x : Int) (hx : -9223372036854775808 ≤ x ∧ x < 9223372036854775808) (i a lim : Int) (ha : a < 9223372036854775808) : ∃ s', rn 5001 4 [.int .i64 x, lv, .int .i64 i, .int .i64 a, .int .i64 lim] s = some (.bool true, s') := by
  rw [show 5001 = 5000 + 1 from rfl, unisonlaw11_BitsPlays.eq]
  unfold unisonlaw11_BitsPlays.f unisonlaw11_BitsPlays.p10 unisonlaw11_BitsPlays.p9
  have haw : ∀ s, rn 5000 7 [] s = some (.bool true, s) := fun s => awake_rn 4999 s
  simp only [lenV hv, bnd, guard_tt, guard_ff, guard_tf, guard_ft, pick_t, pick_f, if_t, if_f, add_i, sub_i, lss_i, leq_i, gtr_i, geq_i, eql_i, neq_i, min_i, max_i, conv_i, len_sl, len_nil, not_b, cells_agg, new_s, fld_p, nil_p]
  by_cases hb : (l.length : Int) > 200
  · simp only [decide_eq_true hb, bnd, guard_tt, guard_ff, guard_tf, guard_ft, pick_t, pick_f, if_t, if_f, add_i, sub_i, lss_i, leq_i, gtr_i, geq_i, eql_i, neq_i, min_i, max_i, conv_i, len_sl, len_nil, not_b, cells_agg, new_s, fld_p, nil_p, haw]
    exact ⟨s, rfl⟩
  · simp only [decide_eq_false hb, bnd, guard_tt, guard_ff, guard_tf, guard_ft, pick_t, pick_f, if_t, if_f, add_i, sub_i, lss_i, leq_i, gtr_i, geq_i, eql_i, neq_i, min_i, max_i, conv_i, len_sl, len_nil, not_b, cells_agg, new_s, fld_p, nil_p]
    by_cases hx2 : x > 300
    · simp only [decide_eq_true hx2, bnd, guard_tt, guard_ff, guard_tf, guard_ft, pick_t, pick_f, if_t, if_f, add_i, sub_i, lss_i, leq_i, gtr_i, geq_i, eql_i, neq_i, min_i, max_i, conv_i, len_sl, len_nil, not_b, cells_agg, new_s, fld_p, nil_p, haw]
      exact ⟨s, rfl⟩
    · simp only [decide_eq_false hx2, bnd, guard_tt, guard_ff, guard_tf, guard_ft, pick_t, pick_f, if_t, if_f, add_i, sub_i, lss_i, leq_i, gtr_i, geq_i, eql_i, neq_i, min_i, max_i, conv_i, len_sl, len_nil, not_b, cells_agg, new_s, fld_p, nil_p]
      unfold unisonlaw11_BitsPlays.p8 unisonlaw11_BitsPlays.p7
      obtain ⟨s1, k1, r1, e1, n1⟩ := new_run x hx 4999 s
      obtain ⟨s2, k2, b2, e2⟩ := refnew_run x (by omega) 4999 (by omega) s1
      simp only [Nat.reduceAdd] at k1 k2
      have hn : (max 0 (min x 1048576)).toNat ≤ 300 := by omega
      generalize (max 0 (min x 1048576)).toNat = n at *
      have hid := hv.lt
      have hv2 := hv.ext (e1.trans e2)
      have r2 := r1.ext e2
      have hz : ∀ j, bitW (List.replicate ((n + 63) / 64) 0) j = false := zero_bit _
      rw [k1, bnd]
      simp only
      rw [k2, bnd]
      simp only
      obtain ⟨s3, W, mid, m, k3, r3, b3, M3, f3, t3⟩ := plays_loop (x2 := .int .i64 i) (x3 := .int .i64 a) (x4 := .int .i64 lim) 4994 (by omega) (by omega) (fun i b c d f q => by have := hid _ _ _ _ _ q; omega) 5000 0 s2 _ s1.next _ r2 hv2 b2 (by omega) ⟨by simp, fun j hj => by rw [hz]; simp⟩ (fun j _ => hz j) (by omega) (by omega)
      simp only [Nat.reduceAdd, Int.natCast_zero] at k3
      rw [k3]
      have ht0 := ht.2
      have t3' : HasTab s3 := (ht.ext (e1.trans e2)).fr1 f3 (by omega)
      unfold unisonlaw11_BitsPlays.p0
      have hml : m.length = n := M3.1
      have c1 := refcount_run b3 M3 (by omega) 4999 (by omega)
      have c2 := has_run r3 i 4998
      have c3 := size_run r3 4999
      have c4 := count_run r3 4998 (by have := r3.len; omega)
      have c5 := full_run r3 4997 (by have := r3.len; omega)
      obtain ⟨v6, s6, c6, o6, e6⟩ := miss_run r3 t3' a lim ha 4998 (by omega)
      obtain ⟨v7, s7, c7, o7, e7⟩ := refmiss_run (b3.ext e6) M3 (by omega) a lim 4999 (by omega)
      have hlr := rest_len W n (max a 0).toNat
      have c8 := same_run (o7.is) (o6.is.ext e7) (by rw [ci_len, List.length_take]; omega) 4999 (by rw [ci_len, List.length_take]; omega)
      have c8' := same_run (o6.is.ext e7) (o7.is) (by rw [ci_len, List.length_take]; omega) 4999 (by rw [ci_len, List.length_take]; omega)
      simp only [Nat.reduceAdd] at c1 c2 c3 c4 c5 c6 c7 c8 c8'
      have hc : cntW W = (List.range n).countP (bitW W) := cntW_tight r3.len t3
      rw [hc] at c4 c5
      have fin : ∀ b : Bool, b = (decide (0 ≤ i) && decide (i < (n : Int)) && bitW W i.toNat) → ∃ s', (rn 5000 12 [.ptr (s.next + 1) 0 2, .int .i64 i] s3).bind (fun q17 => aEq .bool q17.1 (.bool b) fun b18 => some ((AV.bool b18), q17.2)) = some (.bool true, s') := by
        intro b hb
        rw [c2, bnd]
        simp only
        rw [eq_b, hb, beq_self_eq_true]
        exact ⟨s3, rfl⟩
      by_cases q0 : i ≥ 0
      · by_cases q1 : i < (n : Int)
        · have hi2 : i.toNat < m.length := by omega
          obtain ⟨p1, p2⟩ := b3.at hi2
          rw [show ((i.toNat : Nat) : Int) = i by omega] at p1
          have hbit := M3.2 i.toNat hi2
          simp only [c1, bnd, guard_tt, guard_ff, guard_tf, guard_ft, pick_t, pick_f, if_t, if_f, add_i, sub_i, lss_i, leq_i, gtr_i, geq_i, eql_i, neq_i, min_i, max_i, conv_i, len_sl, len_nil, not_b, cells_agg, new_s, fld_p, nil_p, decide_eq_true q0, len_bv, hml, decide_eq_true q1, p1, p2, hbit, c2, decide_eq_true (show 0 ≤ i from q0), Bool.true_and, eq_b, beq_self_eq_true, c3, c4, c5, c6, c7, c8, c8', haw]
          rw [hml] at p2
          simp only [p2, hbit, c2, decide_eq_true (show 0 ≤ i from q0), decide_eq_true q1, Bool.true_and, bnd, guard_tt, guard_ff, guard_tf, guard_ft, pick_t, pick_f, if_t, if_f, add_i, sub_i, lss_i, leq_i, gtr_i, geq_i, eql_i, neq_i, min_i, max_i, conv_i, len_sl, len_nil, not_b, cells_agg, new_s, fld_p, nil_p, len_bv, hml, eq_b, beq_self_eq_true, c3, c4, c5, c6, c7, c8, c8', haw]
          exact ⟨s7, rfl⟩
        · simp only [c1, bnd, guard_tt, guard_ff, guard_tf, guard_ft, pick_t, pick_f, if_t, if_f, add_i, sub_i, lss_i, leq_i, gtr_i, geq_i, eql_i, neq_i, min_i, max_i, conv_i, len_sl, len_nil, not_b, cells_agg, new_s, fld_p, nil_p, decide_eq_true q0, len_bv, hml, decide_eq_false q1, guard_ft, c2, Bool.and_false, Bool.false_and, eq_b, beq_self_eq_true, c3, c4, c5, c6, c7, c8, c8', haw]
          exact ⟨s7, rfl⟩
      · simp only [c1, bnd, guard_tt, guard_ff, guard_tf, guard_ft, pick_t, pick_f, if_t, if_f, add_i, sub_i, lss_i, leq_i, gtr_i, geq_i, eql_i, neq_i, min_i, max_i, conv_i, len_sl, len_nil, not_b, cells_agg, new_s, fld_p, nil_p, decide_eq_false q0, guard_ft, c2, decide_eq_false (show ¬ 0 ≤ i from q0), Bool.false_and, eq_b, beq_self_eq_true, len_bv, hml, c3, c4, c5, c6, c7, c8, c8', haw]
        exact ⟨s7, rfl⟩
set_option linter.unusedVariables false in
theorem lawBitsPlays (a0 : _) (w0 : (shInt .i64).wf a0) (a1 : _) (w1 : (shSlice (shInt .i64)).wf a1) (a2 : _) (w2 : (shInt .i64).wf a2) (a3 : _) (w3 : (shInt .i64).wf a3) (a4 : _) (w4 : (shInt .i64).wf a4) : ∃ k s', rn k 4 ([] ++ ((shInt .i64).put a0 ((Store.table .u8 tab))).1 ++ ((shSlice (shInt .i64)).put a1 (((shInt .i64).put a0 (Store.table .u8 tab)).2)).1 ++ ((shInt .i64).put a2 (((shSlice (shInt .i64)).put a1 ((shInt .i64).put a0 (Store.table .u8 tab)).2).2)).1 ++ ((shInt .i64).put a3 (((shInt .i64).put a2 ((shSlice (shInt .i64)).put a1 ((shInt .i64).put a0 (Store.table .u8 tab)).2).2).2)).1 ++ ((shInt .i64).put a4 (((shInt .i64).put a3 ((shInt .i64).put a2 ((shSlice (shInt .i64)).put a1 ((shInt .i64).put a0 (Store.table .u8 tab)).2).2).2).2)).1) ((shInt .i64).put a4 ((shInt .i64).put a3 ((shInt .i64).put a2 ((shSlice (shInt .i64)).put a1 ((shInt .i64).put a0 (Store.table .u8 tab)).2).2).2).2).2 = some (.bool true, s') := by
  obtain ⟨v1, l, p1, h1, _, _, e1⟩ := put_num .i64 a1 ((shInt .i64).put a0 (Store.table .u8 tab)).2 w1
  obtain ⟨s', k⟩ := law_plays (HasTab.ext (s := ((shInt .i64).put a0 (Store.table .u8 tab)).2) ⟨rfl, Nat.lt_succ_self 0⟩ e1) h1 a0 (i64_of w0) a2 a3 a4 (i64_of w3).2
  rw [p1]
  exact ⟨5001, s', k⟩
end Go.Proofs.YtffememmkkopmaaDoor.Sim
