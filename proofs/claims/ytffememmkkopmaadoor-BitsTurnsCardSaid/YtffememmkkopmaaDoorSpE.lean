/- Seat 11: the law BitsTurns, its run. No condition. -/
import Derived.Test.YtffememmkkopmaaDoorSpD
namespace Go.Proofs.YtffememmkkopmaaDoor.Sim
set_option linter.unusedSimpArgs false
set_option linter.unusedVariables false

theorem build_2 {α : Type} (k : IntKind) (a b y z : Int) (f : List AV → Option α) : aBuild [(0, 1, .int k a), (1, 1, .int k b)] [.int k y, .int k z] f = f [.int k a, .int k b] := rfl
section
variable {id wid n : Nat} {lv aP : AV} {l : List Int}
theorem turns_loop (k : Nat) (hl : l.length ≤ 1000000) (hoff : ∀ i b c d f, lv = .sl i b c d f → i ≠ wid) (hW : ∀ s W, IsSet s id wid W n → W.length = (n + 63) / 64) : ∀ (m c : Nat) (s : Store) (W : List Nat), IsSet s id wid W n → IsV s lv .i64 l → c ≤ l.length → c < m →
    (∀ j, bitW W j = (decide (j < n) && decide ((j : Int) ∈ l.drop c))) →
    ∃ s' W', unisonlaw11_BitsTurns.l0 (k + 6) m lv aP (.ptr id 0 2) (.int .i64 ((c : Int) - 1)) s = unisonlaw11_BitsTurns.p0 (k + 6) aP (.ptr id 0 2) s' ∧ IsSet s' id wid W' n ∧ Fr1 wid s s' ∧ ∀ j, bitW W' j = (decide (j < n) && decide ((j : Int) ∈ l))
  | 0, c, _, _, _, _, _, hm, _ => by omega
  | m + 1, c, s, W, h, hv, hc, hm, hb => by
    have hs : unisonlaw11_BitsTurns.l0 (k + 6) (m + 1) = fun x1 x5 x6 x7 s => unisonlaw11_BitsTurns.p3 (k + 6) (unisonlaw11_BitsTurns.l0 (k + 6) m) x1 x5 x6 x7 s := rfl
    rw [hs]
    clear hs
    simp only
    unfold unisonlaw11_BitsTurns.p3
    rw [geq_i]
    cases c with
    | zero =>
      rw [decide_eq_false (by omega), if_f]
      exact ⟨s, W, rfl, h, Fr1.refl _ _, by simpa using hb⟩
    | succ c =>
      rw [decide_eq_true (by omega), if_t, show ((c + 1 : Nat) : Int) - 1 = (c : Int) by omega]
      unfold unisonlaw11_BitsTurns.p2 unisonlaw11_BitsTurns.p1
      obtain ⟨p, p1, p2⟩ := atV hv (show (0 : Int) ≤ (c : Int) by omega) (by omega)
      have eg : l.getD (c : Int).toNat 0 = l[c] := by simp [show c < l.length by omega]
      rw [eg] at p2
      have e1 := Ext.push s (.cells [.int .i64 l[c], .int .i64 l[c]] false)
      have h1 := h.ext e1
      have hn1 : (s.push (.cells [.int .i64 l[c], .int .i64 l[c]] false)).next = s.next + 1 := rfl
      obtain ⟨s2, k2, r2, f2, n2⟩ := put_run h1 (isV_push s .i64 [l[c], l[c]] false) (by simp) (fun i b c d f q => by cases q; exact fun z => by have := h.wid_lt; omega) (k + 3) (by simp)
      have hw : IntKind.i64.wrap ((c : Int) - 1) = (c : Int) - 1 := w_i64 (by omega) (by omega)
      simp only [List.map_cons, List.map_nil, List.length_cons, List.length_nil, Nat.zero_add, Nat.reduceAdd] at k2
      simp only [p1, p2, build_2, k2, bnd, guard_tt, guard_ff, guard_tf, guard_ft, pick_t, pick_f, if_t, if_f, add_i, sub_i, lss_i, leq_i, gtr_i, geq_i, eql_i, neq_i, min_i, max_i, conv_i, len_sl, len_nil, not_b, cells_agg, new_s, fld_p, nil_p, hw]
      have f1 : Fr1 wid s s2 := (e1.fr1 wid).trans f2
      obtain ⟨s3, W3, k3, r3, f3, b3⟩ := turns_loop k hl hoff hW m c s2 _ r2 (hv.fr1 f1 hoff) (by omega) (by omega) (fun j => by
        rw [fold_bit j _ _ _ (hW s W h), hb j, ← Bool.and_or_distrib_left]
        congr 1
        rw [← Bool.decide_or]
        apply decide_eq_decide.2
        rw [List.drop_eq_getElem_cons (show c < l.length by omega)]
        simp only [List.mem_cons, List.not_mem_nil, or_false, or_self]
        exact or_comm)
      exact ⟨s3, W3, k3, r3, f1.trans f3, b3⟩
end
theorem law_turns {s : Store} {lv : AV} {l : List Int} (ht : HasTab s) (hv : IsV s lv .i64 l) (x : Int) (hx : -9223372036854775808 ≤ x ∧ x < 9223372036854775808) : ∃ s', rn 5001 6 [.int .i64 x, lv] s = some (.bool true, s') := by
  rw [show 5001 = 5000 + 1 from rfl, unisonlaw11_BitsTurns.eq]
  unfold unisonlaw11_BitsTurns.f unisonlaw11_BitsTurns.p8 unisonlaw11_BitsTurns.p7
  have haw : ∀ s, rn 5000 7 [] s = some (.bool true, s) := fun s => awake_rn 4999 s
  simp only [lenV hv, bnd, guard_tt, guard_ff, guard_tf, guard_ft, pick_t, pick_f, if_t, if_f, add_i, sub_i, lss_i, leq_i, gtr_i, geq_i, eql_i, neq_i, min_i, max_i, conv_i, len_sl, len_nil, not_b, cells_agg, new_s, fld_p, nil_p]
  by_cases hb : (l.length : Int) > 300
  · simp only [decide_eq_true hb, bnd, guard_tt, guard_ff, guard_tf, guard_ft, pick_t, pick_f, if_t, if_f, add_i, sub_i, lss_i, leq_i, gtr_i, geq_i, eql_i, neq_i, min_i, max_i, conv_i, len_sl, len_nil, not_b, cells_agg, new_s, fld_p, nil_p, haw]
    exact ⟨s, rfl⟩
  · simp only [decide_eq_false hb, bnd, guard_tt, guard_ff, guard_tf, guard_ft, pick_t, pick_f, if_t, if_f, add_i, sub_i, lss_i, leq_i, gtr_i, geq_i, eql_i, neq_i, min_i, max_i, conv_i, len_sl, len_nil, not_b, cells_agg, new_s, fld_p, nil_p]
    by_cases hx2 : x > 2000
    · simp only [decide_eq_true hx2, bnd, guard_tt, guard_ff, guard_tf, guard_ft, pick_t, pick_f, if_t, if_f, add_i, sub_i, lss_i, leq_i, gtr_i, geq_i, eql_i, neq_i, min_i, max_i, conv_i, len_sl, len_nil, not_b, cells_agg, new_s, fld_p, nil_p, haw]
      exact ⟨s, rfl⟩
    · simp only [decide_eq_false hx2, bnd, guard_tt, guard_ff, guard_tf, guard_ft, pick_t, pick_f, if_t, if_f, add_i, sub_i, lss_i, leq_i, gtr_i, geq_i, eql_i, neq_i, min_i, max_i, conv_i, len_sl, len_nil, not_b, cells_agg, new_s, fld_p, nil_p]
      unfold unisonlaw11_BitsTurns.p6 unisonlaw11_BitsTurns.p5 unisonlaw11_BitsTurns.p4
      obtain ⟨s1, k1, r1, e1, n1⟩ := new_run x hx 4999 s
      obtain ⟨s2, k2, r2, e2, n2⟩ := new_run x hx 4999 s1
      simp only [Nat.reduceAdd] at k1 k2
      have hn : (max 0 (min x 1048576)).toNat ≤ 2000 := by omega
      generalize (max 0 (min x 1048576)).toNat = n at *
      have lz : ∀ z q : Nat, z ≠ q → z ≠ q := fun _ _ h => h
      have hid := hv.lt
      have hv2 := hv.ext (e1.trans e2)
      have ra := r1.ext e2
      obtain ⟨s3, k3, r3, f3, n3⟩ := put_run ra hv2 (by omega) (fun i b c d f q => by have := hid _ _ _ _ _ q; omega) 4997 (by omega)
      simp only [Nat.reduceAdd] at k3
      have rb := r2.fr1 f3 (by omega) (by omega)
      have hv3 := hv2.fr1 f3 (fun i b c d f q => by have := hid _ _ _ _ _ q; omega)
      have hw : IntKind.i64.wrap ((l.length : Int) - 1) = (l.length : Int) - 1 := w_i64 (by omega) (by omega)
      rw [k1, bnd]
      simp only
      rw [k2, bnd]
      simp only
      rw [k3, bnd]
      simp only
      rw [lenV hv3, sub_i, hw]
      obtain ⟨s4, W4, k4, r4, f4, b4⟩ := turns_loop (aP := .ptr (s.next + 1) 0 2) 4994 (by omega) (fun i b c d f q => by have := hid _ _ _ _ _ q; omega) (fun s W h => h.len) 5000 l.length s3 _ rb hv3 (Nat.le_refl _) (by omega) (fun j => by rw [zero_bit, List.drop_length]; simp)
      simp only [Nat.reduceAdd] at k4
      rw [k4]
      have r3' := r3.fr1 f4 (by omega) (by omega)
      have ht0 := ht.2
      have t4 : HasTab s4 := ((ht.ext (e1.trans e2)).fr1 f3 (by omega)).fr1 f4 (by omega)
      have b3 : ∀ j, bitW (List.foldl (put1 n) (List.replicate ((n + 63) / 64) 0, 0) l).1 j = bitW W4 j := fun j => by
        rw [b4, fold_bit j l _ _ (by simp), zero_bit, Bool.false_or]
      have hlen3 := r3.len
      have hlen4 := r4.len
      generalize (List.foldl (put1 n) (List.replicate ((n + 63) / 64) 0, 0) l).1 = W3 at *
      have hc : cntW W3 = cntW W4 := by
        unfold cntW
        rw [hlen3, hlen4]
        exact cntr_congr b3 _
      have hr : ∀ i, rest W3 n i = rest W4 n i := fun i => by
        unfold rest
        rw [show bitW W3 = bitW W4 from funext b3]
      unfold unisonlaw11_BitsTurns.p0
      have c3 := count_run r3' 4998 (by omega)
      have c4 := count_run r4 4998 (by omega)
      have u3 := full_run r3' 4997 (by omega)
      have u4 := full_run r4 4997 (by omega)
      obtain ⟨v5, s5, k5, o5, e5⟩ := miss_run r3' t4 0 2000 (by omega) 4998 (by omega)
      obtain ⟨v6, s6, k6, o6, e6⟩ := miss_run (r4.ext e5) (t4.ext e5) 0 2000 (by omega) 4998 (by omega)
      rw [← hr] at o6
      have k7 := same_run (o5.is.ext e6) o6.is (by rw [ci_len, List.length_take]; omega) 4999 (by rw [ci_len, List.length_take]; omega)
      simp only [Nat.reduceAdd] at c3 c4 u3 u4 k5 k6 k7
      have be : ∀ (b : Bool) {α : Type} (f : Bool → Option α), aEq .bool (.bool b) (.bool b) f = f true := fun b _ f => by simp [aEq]
      simp only [c3, c4, hc, beq_self_eq_true, bnd, guard_tt, guard_ff, guard_tf, guard_ft, pick_t, pick_f, if_t, if_f, add_i, sub_i, lss_i, leq_i, gtr_i, geq_i, eql_i, neq_i, min_i, max_i, conv_i, len_sl, len_nil, not_b, cells_agg, new_s, fld_p, nil_p, u3, u4, be, k5, k6, k7, haw]
      exact ⟨s6, rfl⟩
set_option linter.unusedVariables false in
theorem lawBitsTurns (a0 : _) (w0 : (shInt .i64).wf a0) (a1 : _) (w1 : (shSlice (shInt .i64)).wf a1) : ∃ k s', rn k 6 ([] ++ ((shInt .i64).put a0 ((Store.table .u8 tab))).1 ++ ((shSlice (shInt .i64)).put a1 (((shInt .i64).put a0 (Store.table .u8 tab)).2)).1) ((shSlice (shInt .i64)).put a1 ((shInt .i64).put a0 (Store.table .u8 tab)).2).2 = some (.bool true, s') := by
  obtain ⟨v1, l, p1, h1, _, _, e1⟩ := put_num .i64 a1 ((shInt .i64).put a0 (Store.table .u8 tab)).2 w1
  obtain ⟨s', k⟩ := law_turns (HasTab.ext (s := ((shInt .i64).put a0 (Store.table .u8 tab)).2) ⟨rfl, Nat.lt_succ_self 0⟩ e1) h1 a0 (i64_of w0)
  refine ⟨5001, s', ?_⟩
  rw [p1]
  exact (congrArg (fun l => rn 5001 6 l _) (show _ = [AV.int .i64 a0, v1] from rfl)).trans k
end Go.Proofs.YtffememmkkopmaaDoor.Sim
