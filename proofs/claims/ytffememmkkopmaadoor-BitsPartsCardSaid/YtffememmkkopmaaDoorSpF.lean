/- Seat 11: the law BitsParts, its run. No condition. -/
import Derived.Test.YtffememmkkopmaaDoorSpD
namespace Go.Proofs.YtffememmkkopmaaDoor.Sim
set_option linter.unusedSimpArgs false
set_option linter.unusedVariables false

section
variable {id wid n : Nat} {lv aP : AV} {l : List Int}
/-- One by one. -/
theorem parts_put (k : Nat) {x0 x7 : AV} (hl : l.length ≤ 1000000) (hoff : ∀ i b c d f, lv = .sl i b c d f → i ≠ wid) : ∀ (m i : Nat) (s : Store) (W : List Nat), IsSet s id wid W n → IsV s lv .i64 l → i ≤ l.length → l.length - i < m →
    (∀ j, bitW W j = (decide (j < n) && decide ((j : Int) ∈ l.take i))) →
    ∃ s' W', unisonlaw11_BitsParts.l1 (k + 6) m x0 lv aP (.ptr id 0 2) x7 (.int .i64 (i : Nat)) s = unisonlaw11_BitsParts.p6 (k + 6) x0 aP (.ptr id 0 2) x7 s' ∧ IsSet s' id wid W' n ∧ Fr1 wid s s' ∧ ∀ j, bitW W' j = (decide (j < n) && decide ((j : Int) ∈ l))
  | 0, c, _, _, _, _, _, hm, _ => by omega
  | m + 1, i, s, W, h, hv, hi, hm, hb => by
    have hs : unisonlaw11_BitsParts.l1 (k + 6) (m + 1) = fun x0 x1 x5 x6 x7 x8 s => unisonlaw11_BitsParts.p9 (k + 6) (unisonlaw11_BitsParts.l1 (k + 6) m) x0 x1 x5 x6 x7 x8 s := rfl
    rw [hs]
    clear hs
    simp only
    unfold unisonlaw11_BitsParts.p9
    rw [lenV hv, lss_i]
    by_cases hil : i < l.length
    · rw [decide_eq_true (by omega), if_t]
      unfold unisonlaw11_BitsParts.p8 unisonlaw11_BitsParts.p7
      obtain ⟨p, p1, p2⟩ := atV hv (show (0 : Int) ≤ (i : Int) by omega) (by omega)
      have eg : l.getD (i : Int).toNat 0 = l[i] := by simp [hil]
      rw [eg] at p2
      have e1 := Ext.push s (.cells [.int .i64 l[i]] false)
      have h1 := h.ext e1
      obtain ⟨s2, k2, r2, f2, n2⟩ := put_run h1 (isV_push s .i64 [l[i]] false) (by simp) (fun i b c d f q => by cases q; exact fun z => by have := h.wid_lt; omega) (k + 3) (by simp)
      have hw : IntKind.i64.wrap ((i : Int) + 1) = ((i + 1 : Nat) : Int) := by rw [w_i64 (by omega) (by omega)]; omega
      simp only [List.map_cons, List.map_nil, List.length_cons, List.length_nil, Nat.zero_add, Nat.reduceAdd] at k2
      simp only [p1, p2, build_1, k2, bnd, guard_tt, guard_ff, guard_tf, guard_ft, pick_t, pick_f, if_t, if_f, add_i, sub_i, lss_i, leq_i, gtr_i, geq_i, eql_i, neq_i, min_i, max_i, conv_i, len_sl, len_nil, not_b, cells_agg, new_s, fld_p, nil_p, hw]
      have f1 : Fr1 wid s s2 := (e1.fr1 wid).trans f2
      obtain ⟨s3, W3, k3, r3, f3, b3⟩ := parts_put k hl hoff m (i + 1) s2 _ r2 (hv.fr1 f1 hoff) (by omega) (by omega) (fun j => by
        rw [fold_bit j _ _ _ h.len, hb j, ← Bool.and_or_distrib_left]
        congr 1
        rw [← Bool.decide_or]
        apply decide_eq_decide.2
        rw [List.take_succ_eq_append_getElem hil, List.mem_append])
      exact ⟨s3, W3, k3, r3, f1.trans f3, b3⟩
    · rw [decide_eq_false (by omega), if_f]
      refine ⟨s, W, rfl, h, Fr1.refl _ _, fun j => ?_⟩
      rw [hb, List.take_of_length_le (by omega)]

/-- What is there, and what is missing. -/
theorem parts_loop (k : Nat) {s : Store} {aid awid : Nat} {A W : List Nat} {x0 x7 mv : AV} {M : List Nat} (hA : IsSet s aid awid A n) (hW : IsSet s id wid W n) (hb : ∀ j, bitW A j = bitW W j) (hM : IsV s mv .i64 (ci M)) (hMl : M.length ≤ n) :
    ∀ (m i at_ : Nat), i ≤ n → n - i < m → at_ ≤ M.length → M.drop at_ = rest A n i →
    unisonlaw11_BitsParts.l0 (k + 2) m x0 (.ptr aid 0 2) (.ptr id 0 2) x7 mv (.int .i64 (at_ : Nat)) (.int .i64 (i : Nat)) s = unisonlaw11_BitsParts.p0 (k + 2) x0 (.ptr aid 0 2) x7 mv (.int .i64 (M.length : Nat)) s
  | 0, i, at_, hi, hm, _, _ => by omega
  | m + 1, i, at_, hi, hm, hat, hd => by
    have hs : unisonlaw11_BitsParts.l0 (k + 2) (m + 1) = fun x0 x5 x6 x7 x9 x10 x11 s => unisonlaw11_BitsParts.p3 (k + 2) (unisonlaw11_BitsParts.l0 (k + 2) m) x0 x5 x6 x7 x9 x10 x11 s := rfl
    rw [hs]
    clear hs
    simp only
    unfold unisonlaw11_BitsParts.p3
    have htop := hA.top
    rw [size_run hA, bnd]
    simp only
    rw [lss_i]
    by_cases hin : i < n
    · rw [decide_eq_true (show (i : Int) < n by omega), if_t]
      unfold unisonlaw11_BitsParts.p2 unisonlaw11_BitsParts.p1
      have ha := has_run hA (i : Nat) k
      have hw := has_run hW (i : Nat) k
      rw [decide_eq_true (show (0 : Int) ≤ (i : Nat) by omega), decide_eq_true (show ((i : Nat) : Int) < n by omega), Bool.true_and, Bool.true_and, Int.toNat_natCast] at ha hw
      rw [← hb] at hw
      have hw1 : IntKind.i64.wrap ((i : Int) + 1) = ((i + 1 : Nat) : Int) := by rw [w_i64 (by omega) (by omega)]; omega
      have be : ∀ (b : Bool) {α : Type} (f : Bool → Option α), aEq .bool (.bool b) (.bool b) f = f true := fun b _ f => by simp [aEq]
      rw [rest_cons hin] at hd
      cases hbit : bitW A i with
      | true =>
        rw [hbit, if_pos rfl] at hd
        simp only [ha, hw, be, hbit, Bool.not_true, bnd, guard_tt, guard_ff, guard_tf, guard_ft, pick_t, pick_f, if_t, if_f, add_i, sub_i, lss_i, leq_i, gtr_i, geq_i, eql_i, neq_i, min_i, max_i, conv_i, len_sl, len_nil, not_b, cells_agg, new_s, fld_p, nil_p, hw1]
        exact parts_loop k hA hW hb hM hMl m (i + 1) at_ (by omega) (by omega) hat hd
      | false =>
        rw [hbit, if_neg (by decide)] at hd
        have hlt : at_ < M.length := by
          have := congrArg List.length hd
          simp only [List.length_drop, List.length_cons] at this
          omega
        have hgt : M[at_] = i := by
          rw [List.drop_eq_getElem_cons hlt] at hd
          exact (List.cons.inj hd).1
        obtain ⟨p, p1, p2⟩ := atV hM (show (0 : Int) ≤ (at_ : Int) by omega) (by rw [ci_len]; omega)
        have eg : (ci M).getD (at_ : Int).toNat 0 = (i : Int) := by rw [Int.toNat_natCast, ci_get]; simp [hlt, hgt]
        rw [eg] at p2
        have hw2 : IntKind.i64.wrap ((at_ : Int) + 1) = ((at_ + 1 : Nat) : Int) := by rw [w_i64 (by omega) (by omega)]; omega
        have hge : ¬ ((at_ : Int) ≥ ((ci M).length : Nat)) := by rw [ci_len]; omega
        simp only [ha, hw, be, hbit, Bool.not_true, bnd, guard_tt, guard_ff, guard_tf, guard_ft, pick_t, pick_f, if_t, if_f, add_i, sub_i, lss_i, leq_i, gtr_i, geq_i, eql_i, neq_i, min_i, max_i, conv_i, len_sl, len_nil, not_b, cells_agg, new_s, fld_p, nil_p, lenV hM, decide_eq_false hge, p1, p2, bne_self_eq_false, hw1, hw2]
        exact parts_loop k hA hW hb hM hMl m (i + 1) (at_ + 1) (by omega) (by omega) (by omega) (by rw [List.drop_eq_getElem_cons hlt] at hd; exact (List.cons.inj hd).2)
    · rw [decide_eq_false (show ¬ (i : Int) < n by omega), if_f]
      rw [rest_nil (by omega)] at hd
      have : at_ = M.length := by
        have := congrArg List.length hd
        simp only [List.length_drop, List.length_nil] at this
        omega
      subst this
      rfl
end
theorem law_parts {s : Store} {lv : AV} {l : List Int} (ht : HasTab s) (hv : IsV s lv .i64 l) (x : Int) (hx : -9223372036854775808 ≤ x ∧ x < 9223372036854775808) : ∃ s', rn 5001 3 [.int .i64 x, lv] s = some (.bool true, s') := by
  rw [show 5001 = 5000 + 1 from rfl, unisonlaw11_BitsParts.eq]
  unfold unisonlaw11_BitsParts.f unisonlaw11_BitsParts.p14 unisonlaw11_BitsParts.p13
  have haw : ∀ s, rn 5000 7 [] s = some (.bool true, s) := fun s => awake_rn 4999 s
  simp only [lenV hv, bnd, guard_tt, guard_ff, guard_tf, guard_ft, pick_t, pick_f, if_t, if_f, add_i, sub_i, lss_i, leq_i, gtr_i, geq_i, eql_i, neq_i, min_i, max_i, conv_i, len_sl, len_nil, not_b, cells_agg, new_s, fld_p, nil_p]
  by_cases hb : (l.length : Int) > 300
  · simp only [decide_eq_true hb, bnd, guard_tt, guard_ff, guard_tf, guard_ft, pick_t, pick_f, if_t, if_f, add_i, sub_i, lss_i, leq_i, gtr_i, geq_i, eql_i, neq_i, min_i, max_i, conv_i, len_sl, len_nil, not_b, cells_agg, new_s, fld_p, nil_p, haw]
    exact ⟨s, rfl⟩
  · simp only [decide_eq_false hb, bnd, guard_tt, guard_ff, guard_tf, guard_ft, pick_t, pick_f, if_t, if_f, add_i, sub_i, lss_i, leq_i, gtr_i, geq_i, eql_i, neq_i, min_i, max_i, conv_i, len_sl, len_nil, not_b, cells_agg, new_s, fld_p, nil_p]
    by_cases hx2 : x > 2000
    · simp only [decide_eq_true hx2, bnd, guard_tt, guard_ff, guard_tf, guard_ft, pick_t, pick_f, if_t, if_f, add_i, sub_i, lss_i, leq_i, gtr_i, geq_i, eql_i, neq_i, min_i, max_i, conv_i, len_sl, len_nil, not_b, cells_agg, new_s, fld_p, nil_p, haw]
      exact ⟨s, rfl⟩
    · simp only [decide_eq_false hx2, bnd, guard_tt, guard_ff, guard_tf, guard_ft, pick_t, pick_f, if_t, if_f, add_i, sub_i, lss_i, leq_i, gtr_i, geq_i, eql_i, neq_i, min_i, max_i, conv_i, len_sl, len_nil, not_b, cells_agg, new_s, fld_p, nil_p]
      unfold unisonlaw11_BitsParts.p12 unisonlaw11_BitsParts.p11 unisonlaw11_BitsParts.p10
      obtain ⟨s1, k1, r1, e1, n1⟩ := new_run x hx 4999 s
      obtain ⟨s2, k2, r2, e2, n2⟩ := new_run x hx 4999 s1
      simp only [Nat.reduceAdd] at k1 k2
      have hn : (max 0 (min x 1048576)).toNat ≤ 2000 := by omega
      have hnx : (((max 0 (min x 1048576)).toNat : Nat) : Int) = max x 0 := by omega
      generalize (max 0 (min x 1048576)).toNat = n at *
      have hid := hv.lt
      have hv2 := hv.ext (e1.trans e2)
      have ra := r1.ext e2
      obtain ⟨s3, k3, r3, f3, n3⟩ := put_run ra hv2 (by omega) (fun i b c d f q => by have := hid _ _ _ _ _ q; omega) 4997 (by omega)
      simp only [Nat.reduceAdd] at k3
      have rb := r2.fr1 f3 (by omega) (by omega)
      have hv3 := hv2.fr1 f3 (fun i b c d f q => by have := hid _ _ _ _ _ q; omega)
      rw [k1, bnd]
      simp only
      rw [k2, bnd]
      simp only
      rw [k3, bnd]
      simp only
      obtain ⟨s4, W4, k4, r4, f4, b4⟩ := parts_put (x0 := .int .i64 x) (aP := .ptr (s.next + 1) 0 2) (x7 := .int .i64 (l.foldl (put1 n) (List.replicate ((n + 63) / 64) 0, 0)).2) 4994 (by omega) (fun i b c d f q => by have := hid _ _ _ _ _ q; omega) 5000 0 s3 _ rb hv3 (by omega) (by omega) (fun j => by rw [zero_bit]; simp)
      simp only [Nat.reduceAdd, Int.natCast_zero] at k4
      rw [k4]
      have r3' := r3.fr1 f4 (by omega) (by omega)
      have ht0 := ht.2
      have t4 : HasTab s4 := ((ht.ext (e1.trans e2)).fr1 f3 (by omega)).fr1 f4 (by omega)
      have b3 : ∀ j, bitW (List.foldl (put1 n) (List.replicate ((n + 63) / 64) 0, 0) l).1 j = bitW W4 j := fun j => by
        rw [b4, fold_bit j l _ _ (by simp), zero_bit, Bool.false_or]
      have hk := fold_cnt (n := n) l (List.replicate ((n + 63) / 64) 0) 0 (by simp)
      rw [countP_false (p := bitW (List.replicate ((n + 63) / 64) 0)) _ (fun j _ => zero_bit _ j)] at hk
      have hlen3 := r3.len
      generalize List.foldl (put1 n) (List.replicate ((n + 63) / 64) 0, 0) l = st at *
      obtain ⟨W3, K⟩ := st
      simp only at hk hlen3 b3 r3' r3 ⊢
      have hc : cntW W3 = (List.range n).countP (bitW W3) := cntW_tight hlen3 fun j hj => by rw [b3, b4, decide_eq_false (by omega), Bool.false_and]
      have hr := rest_cnt W3 n
      unfold unisonlaw11_BitsParts.p6 unisonlaw11_BitsParts.p5 unisonlaw11_BitsParts.p4
      obtain ⟨v5, s5, k5, o5, e5⟩ := miss_run r3' t4 0 2000 (by omega) 4998 (by omega)
      simp only [Nat.reduceAdd] at k5
      have hmr : (rest W3 n (max 0 0 : Int).toNat).take (2000 : Int).toNat = rest W3 n 0 := List.take_of_length_le (by have := rest_len W3 n 0; simp; omega)
      rw [hmr] at o5
      rw [k5, bnd]
      simp only
      have r5 := r3'.ext e5
      have k6 := parts_loop (x0 := .int .i64 x) (x7 := .int .i64 K) 4998 r5 (r4.ext e5) b3 o5.is (rest_len W3 n 0) 5000 0 0 (by omega) (by omega) (by omega) (by simp)
      simp only [Nat.reduceAdd, Int.natCast_zero] at k6
      rw [k6]
      unfold unisonlaw11_BitsParts.p0
      have c5 := count_run r5 4998 (by omega)
      have u5 := size_run r5 4999
      simp only [Nat.reduceAdd] at c5 u5
      have q1 : ((cntW W3 : Int) == K) = true := beq_iff_eq.2 (by omega)
      have q2 : (((cntW W3 : Nat) : Int) + ((rest W3 n 0).length : Nat) == (n : Int)) = true := beq_iff_eq.2 (by omega)
      have q3 : ((n : Int) == max x 0) = true := beq_iff_eq.2 hnx
      have hw : IntKind.i64.wrap (((cntW W3 : Nat) : Int) + ((rest W3 n 0).length : Nat)) = ((cntW W3 : Nat) : Int) + ((rest W3 n 0).length : Nat) := w_i64 (by omega) (by omega)
      simp only [lenV o5.is, ci_len, beq_self_eq_true, bnd, guard_tt, guard_ff, guard_tf, guard_ft, pick_t, pick_f, if_t, if_f, add_i, sub_i, lss_i, leq_i, gtr_i, geq_i, eql_i, neq_i, min_i, max_i, conv_i, len_sl, len_nil, not_b, cells_agg, new_s, fld_p, nil_p, c5, u5, q1, q2, q3, hw, haw]
      exact ⟨s5, rfl⟩
set_option linter.unusedVariables false in
theorem lawBitsParts (a0 : _) (w0 : (shInt .i64).wf a0) (a1 : _) (w1 : (shSlice (shInt .i64)).wf a1) : ∃ k s', rn k 3 ([] ++ ((shInt .i64).put a0 ((Store.table .u8 tab))).1 ++ ((shSlice (shInt .i64)).put a1 (((shInt .i64).put a0 (Store.table .u8 tab)).2)).1) ((shSlice (shInt .i64)).put a1 ((shInt .i64).put a0 (Store.table .u8 tab)).2).2 = some (.bool true, s') := by
  obtain ⟨v1, l, p1, h1, _, _, e1⟩ := put_num .i64 a1 ((shInt .i64).put a0 (Store.table .u8 tab)).2 w1
  obtain ⟨s', k⟩ := law_parts (HasTab.ext (s := ((shInt .i64).put a0 (Store.table .u8 tab)).2) ⟨rfl, Nat.lt_succ_self 0⟩ e1) h1 a0 (i64_of w0)
  rw [p1]
  exact ⟨5001, s', k⟩
end Go.Proofs.YtffememmkkopmaaDoor.Sim
