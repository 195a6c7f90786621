/- Seat 11: what is asked of a set. No condition. -/
import Derived.Test.YtffememmkkopmaaDoorSpB
namespace Go.Proofs.YtffememmkkopmaaDoor.Sim
set_option linter.unusedSimpArgs false
set_option linter.unusedVariables false
open Go.Lib (ctz lowest_bit ctzFrom_spec)

/-- How many places are in. -/
def cntW (W : List Nat) : Nat := (List.range (64 * W.length)).countP (bitW W)
theorem cntW_le (W : List Nat) (m : Nat) : (List.range m).countP (bitW W) ≤ m := by
  have := List.countP_le_length (p := bitW W) (l := List.range m)
  simpa using this
theorem cnt_word (W : List Nat) (i : Nat) : (List.range (64 * (i + 1))).countP (bitW W) = (List.range (64 * i)).countP (bitW W) + cnt 64 (W.getD i 0) := by
  rw [show 64 * (i + 1) = 64 * i + 64 from rfl, List.range_add, List.countP_append, List.countP_map]
  congr 1
  unfold cnt
  apply List.countP_congr
  intro r hr
  have hr := List.mem_range.1 hr
  simp only [Function.comp, bitW]
  rw [show (64 * i + r) / 64 = i by omega, show (64 * i + r) % 64 = r by omega]

section
variable {s : Store} {id wid n : Nat} {W : List Nat}
theorem IsSet.sl (h : IsSet s id wid W n) : IsV s (.sl wid 0 W.length 1 W.length) .u64 (ci W) :=
  .inr ⟨wid, 0, ci W, false, by rw [ci_len], h.wid_lt, h.row, by omega, by simp⟩

theorem count_loop (h : IsSet s id wid W n) (k : Nat) : ∀ (m i : Nat), i ≤ W.length → W.length - i < m →
    bits_Set_Count.l0 (k + 1) m (.int .i64 (((List.range (64 * i)).countP (bitW W) : Nat) : Int)) (.sl wid 0 W.length 1 W.length) (.int .i64 (W.length : Nat)) (.int .i64 (i : Nat)) s = some (.int .i64 (cntW W : Nat), s)
  | 0, i, hi, hm => by omega
  | m + 1, i, hi, hm => by
    have hs : bits_Set_Count.l0 (k + 1) (m + 1) = fun x3 x11 x12 x13 s => bits_Set_Count.p4 (k + 1) (bits_Set_Count.l0 (k + 1) m) x3 x11 x12 x13 s := rfl
    rw [hs]
    clear hs
    simp only
    unfold bits_Set_Count.p4 bits_Set_Count.p3
    rw [lss_i]
    have hle := cntW_le W (64 * (i + 1))
    have hcw := cnt_word W i
    have hL := h.len
    have htop := h.top
    by_cases hil : i < W.length
    · rw [decide_eq_true (by omega), if_t]
      unfold bits_Set_Count.p2 bits_Set_Count.p1
      obtain ⟨p, p1, p2⟩ := atV h.sl (show (0 : Int) ≤ (i : Int) by omega) (by rw [ci_len]; omega)
      have hw := getD_lt h.lt i
      rw [p1, p2, Int.toNat_natCast, ci_get, ones_run _ hw, bnd, add_i, add_i, w_i64 (by omega) (by omega), w_i64 (by omega) (by omega)]
      have e1 : ((i : Int) + 1) = ((i + 1 : Nat) : Int) := by omega
      have e2 : (((List.range (64 * i)).countP (bitW W) : Nat) : Int) + ((cnt 64 (W.getD i 0) : Nat) : Int) = (((List.range (64 * (i + 1))).countP (bitW W) : Nat) : Int) := by omega
      simp only
      rw [e1, e2]
      exact count_loop h k m (i + 1) (by omega) (by omega)
    · rw [decide_eq_false (by omega), if_f]
      unfold bits_Set_Count.p0
      have : i = W.length := by omega
      subst this
      rfl
theorem size_run (h : IsSet s id wid W n) (k : Nat) : rn (k + 1) 11 [.ptr id 0 2] s = some (.int .i64 (n : Nat), s) := by
  rw [bits_Set_Size.eq]
  unfold bits_Set_Size.f bits_Set_Size.p0
  simp only [eq_pn, bnd, guard_tt, guard_ff, guard_tf, guard_ft, pick_t, pick_f, if_t, if_f, add_i, sub_i, lss_i, leq_i, gtr_i, geq_i, eql_i, neq_i, min_i, max_i, conv_i, len_sl, len_nil, not_b, cells_agg, new_s, fld_p, nil_p, h.f1]
theorem count_run (h : IsSet s id wid W n) (k : Nat) (hk : W.length ≤ k) : rn (k + 2) 13 [.ptr id 0 2] s = some (.int .i64 (cntW W : Nat), s) := by
  rw [bits_Set_Count.eq]
  unfold bits_Set_Count.f bits_Set_Count.p10 bits_Set_Count.p9 bits_Set_Count.p8 bits_Set_Count.p7 bits_Set_Count.p5
  simp only [eq_pn, Bool.not_false, bnd, guard_tt, guard_ff, guard_tf, guard_ft, pick_t, pick_f, if_t, if_f, add_i, sub_i, lss_i, leq_i, gtr_i, geq_i, eql_i, neq_i, min_i, max_i, conv_i, len_sl, len_nil, not_b, cells_agg, new_s, fld_p, nil_p, h.f0]
  have := count_loop h k (k + 1) 0 (by omega) (by omega)
  simpa using this
theorem full_run (h : IsSet s id wid W n) (k : Nat) (hk : W.length ≤ k) : rn (k + 3) 17 [.ptr id 0 2] s = some (.bool ((cntW W : Int) == (n : Int)), s) := by
  rw [bits_Set_Full.eq]
  unfold bits_Set_Full.f bits_Set_Full.p0
  simp only [count_run h k hk, size_run h, bnd, guard_tt, guard_ff, guard_tf, guard_ft, pick_t, pick_f, if_t, if_f, add_i, sub_i, lss_i, leq_i, gtr_i, geq_i, eql_i, neq_i, min_i, max_i, conv_i, len_sl, len_nil, not_b, cells_agg, new_s, fld_p, nil_p]

/-! ### what is missing -/
/-- The places from i on that are not in. -/
def rest (W : List Nat) (n i : Nat) : List Nat := (List.range' i (n - i)).filter fun j => !bitW W j
theorem rest_nil {W : List Nat} {n i : Nat} (h : n ≤ i) : rest W n i = [] := by simp [rest, show n - i = 0 by omega]
theorem rest_cons {W : List Nat} {n i : Nat} (h : i < n) : rest W n i = if bitW W i then rest W n (i + 1) else i :: rest W n (i + 1) := by
  unfold rest
  rw [show n - i = (n - (i + 1)) + 1 by omega, List.range'_succ, List.filter_cons]
  cases bitW W i <;> simp
theorem rest_skip {W : List Nat} {n : Nat} : ∀ (m i : Nat), (∀ j, j < m → bitW W (i + j) = true) → rest W n i = rest W n (i + m)
  | 0, i, _ => rfl
  | m + 1, i, h => by
    have e : rest W n i = rest W n (i + 1) := by
      by_cases hi : i < n
      · rw [rest_cons hi, if_pos (show bitW W i = true from h 0 (by omega))]
      · rw [rest_nil (by omega), rest_nil (by omega)]
    rw [e, rest_skip m (i + 1) fun j hj => by rw [show i + 1 + j = i + (j + 1) by omega]; exact h (j + 1) (by omega)]
    congr 1; omega
theorem rest_len (W : List Nat) (n i : Nat) : (rest W n i).length ≤ n := by
  have := List.length_filter_le (fun j => !bitW W j) (List.range' i (n - i))
  unfold rest
  simp only [List.length_range'] at this
  omega

/-- The word's turned bits from a place on. -/
def turn (w r : Nat) : Nat := (18446744073709551615 - w) / 2 ^ r
theorem turn_bit {w : Nat} (hw : w < 18446744073709551616) (r j : Nat) : (turn w r).testBit j = (decide (r + j < 64) && !w.testBit (r + j)) := by
  have := Nat.testBit_two_pow_sub_succ (show w < 2 ^ 64 from hw) (r + j)
  rw [show 2 ^ 64 - (w + 1) = 18446744073709551615 - w by omega] at this
  unfold turn
  rw [Nat.testBit_div_two_pow, Nat.add_comm j r, this]
theorem turn_lt (w r : Nat) : turn w r < 18446744073709551616 := by
  have : turn w r ≤ 18446744073709551615 - w := Nat.div_le_self _ _
  omega
theorem bit_at (W : List Nat) (i j : Nat) (h : i % 64 + j < 64) : bitW W (i + j) = (W.getD (i / 64) 0).testBit (i % 64 + j) := by
  unfold bitW
  rw [show (i + j) / 64 = i / 64 by omega, show (i + j) % 64 = i % 64 + j by omega]
theorem turn_zero {W : List Nat} {i : Nat} (hw : W.getD (i / 64) 0 < 18446744073709551616) (h : turn (W.getD (i / 64) 0) (i % 64) = 0) : rest W n i = rest W n (i + (64 - i % 64)) := by
  apply rest_skip
  intro j hj
  rw [bit_at W i j (by omega)]
  have := turn_bit hw (i % 64) j
  rw [h, Nat.zero_testBit, decide_eq_true (by omega), Bool.true_and] at this
  simpa using this.symm
theorem turn_some {W : List Nat} {i : Nat} (hw : W.getD (i / 64) 0 < 18446744073709551616) (h : turn (W.getD (i / 64) 0) (i % 64) ≠ 0) :
    i % 64 + ctz 64 (turn (W.getD (i / 64) 0) (i % 64)) < 64 ∧ rest W n i = rest W n (i + ctz 64 (turn (W.getD (i / 64) 0) (i % 64))) ∧ bitW W (i + ctz 64 (turn (W.getD (i / 64) 0) (i % 64))) = false := by
  have hb := turn_bit hw (i % 64)
  have hlt := turn_lt (W.getD (i / 64) 0) (i % 64)
  generalize turn (W.getD (i / 64) 0) (i % 64) = y at *
  obtain ⟨m, h1, h2⟩ := ctzFrom_spec 64 y (by omega) hlt
  rw [show ctz 64 y = Go.Lib.ctzFrom 64 y by simp [ctz, h]]
  generalize Go.Lib.ctzFrom 64 y = t at *
  have ht : y.testBit t = true := by
    rw [h1, Nat.testBit_two_pow_mul]; simp
  have hj : ∀ j, j < t → y.testBit j = false := fun j hj => by
    rw [h1, Nat.testBit_two_pow_mul]; simp; omega
  have hbt := hb t
  rw [ht] at hbt
  have hbt := hbt.symm
  simp only [Bool.and_eq_true, decide_eq_true_eq, Bool.not_eq_true'] at hbt
  refine ⟨hbt.1, ?_, by rw [bit_at W i t hbt.1]; exact hbt.2⟩
  apply rest_skip
  intro j hjt
  have := hb j
  rw [hj j hjt, decide_eq_true (by omega), Bool.true_and] at this
  rw [bit_at W i j (by omega)]
  simpa using this.symm

theorem IsSet.lo {s' : Store} {lo : Nat} (h : IsSet s id wid W n) (e : ExtLo lo s s') (h1 : id < lo) (h2 : wid < lo) : IsSet s' id wid W n := h.keep (e.get _ h1) (e.get _ h2) e.next
theorem HasTab.lo {s' : Store} {lo : Nat} (h : HasTab s) (e : ExtLo lo s s') (h0 : 0 < lo) : HasTab s' := ⟨(e.get 0 h0).trans h.1, Nat.lt_of_lt_of_le h.2 e.next⟩
theorem not_u {w : Nat} (hw : w < 18446744073709551616) {α : Type} (f : AV → Option α) : aUn .xor (.int .u64 (w : Int)) f = f (.int .u64 ((18446744073709551615 - w : Nat) : Int)) := by
  have e2 : (BitVec.ofInt 64 (w : Int)).toNat = w := by rw [BitVec.ofInt_natCast, BitVec.toNat_ofNat]; exact Nat.mod_eq_of_lt (by omega)
  have e : (BitVec.ofInt 64 IntKind.u64.max ^^^ BitVec.ofInt 64 (w : Int)).toNat = 18446744073709551615 - w := by
    rw [show BitVec.ofInt 64 IntKind.u64.max = BitVec.allOnes 64 by decide, BitVec.allOnes_xor, BitVec.toNat_not, e2]
  simp only [aUn]
  congr 2
  show IntKind.u64.wrap ((BitVec.ofInt 64 IntKind.u64.max ^^^ BitVec.ofInt 64 (w : Int)).toNat : Int) = _
  rw [e, w_u64 (by omega) (by omega)]
theorem ci_app (a b : List Nat) : ci (a ++ b) = ci a ++ ci b := by simp [ci]

theorem miss_loop (k lo : Nat) (lim : Int) (hid : id < lo) (hwid : wid < lo) : ∀ (m i : Nat) (s : Store) (v : AV) (acc : List Nat), IsSet s id wid W n → HasTab s → OwnV s v .i64 (ci acc) lo → lo ≤ s.next → acc.length ≤ i → n - i < m →
    ∃ v' s', bits_Set_Missing.l0 (k + 1) m (.ptr id 0 2) (.int .i64 lim) v (.int .i64 (i : Nat)) s = some (v', s') ∧ OwnV s' v' .i64 (ci (acc ++ (rest W n i).take (lim - acc.length).toNat)) lo ∧ ExtLo lo s s'
  | 0, i, _, _, _, _, _, _, _, _, hm => by omega
  | m + 1, i, s, v, acc, h, ht, hv, hlo, hai, hm => by
    have hs : bits_Set_Missing.l0 (k + 1) (m + 1) = fun x0 x2 x7 x8 s => bits_Set_Missing.p3 (k + 1) (bits_Set_Missing.l0 (k + 1) m) x0 x2 x7 x8 s := rfl
    rw [hs]
    clear hs
    simp only
    unfold bits_Set_Missing.p3
    have htop := h.top
    have hlen : ∀ {α : Type} (f : AV → Option α), aLen v f = f (.int .i64 acc.length) := fun f => by rw [lenV hv.is, ci_len]
    rw [size_run h, bnd, lss_i]
    by_cases hi : i < n
    · simp only [decide_eq_true (show (i : Int) < n by omega), bnd, guard_tt, guard_ff, guard_tf, guard_ft, pick_t, pick_f, if_t, if_f, add_i, sub_i, lss_i, leq_i, gtr_i, geq_i, eql_i, neq_i, min_i, max_i, conv_i, len_sl, len_nil, not_b, cells_agg, new_s, fld_p, nil_p, hlen]
      by_cases hl : (acc.length : Int) < lim
      · simp only [decide_eq_true hl, bnd, guard_tt, guard_ff, guard_tf, guard_ft, pick_t, pick_f, if_t, if_f, add_i, sub_i, lss_i, leq_i, gtr_i, geq_i, eql_i, neq_i, min_i, max_i, conv_i, len_sl, len_nil, not_b, cells_agg, new_s, fld_p, nil_p]
        unfold bits_Set_Missing.p2 bits_Set_Missing.p1
        obtain ⟨w1, w2, w3⟩ := h.word hi
        have e1 : IntKind.i64.wrap ((i : Int) / 64) = ((i / 64 : Nat) : Int) := by rw [w_i64 (by omega) (by omega)]; omega
        have e2 : (i : Int) % 64 = ((i % 64 : Nat) : Int) := by omega
        have hw := getD_lt h.lt (i / 64)
        have hq : ∀ {α : Type} (f : AV → Option α), aBin .quo (.int .i64 (i : Int)) (.int .i64 64) f = f (.int .i64 ((i / 64 : Nat) : Int)) := fun f => by rw [quo_i (by omega) (by omega), e1]
        have hr : ∀ {α : Type} (f : AV → Option α), aBin .rem (.int .i64 (i : Int)) (.int .i64 64) f = f (.int .i64 ((i % 64 : Nat) : Int)) := fun f => by rw [rem_i (by omega) (by omega), e2]
        have hsh : ∀ {α : Type} (f : AV → Option α), aShift .shr (.int .u64 ((18446744073709551615 - W.getD (i / 64) 0 : Nat) : Int)) (.int .i64 ((i % 64 : Nat) : Int)) f = f (.int .u64 ((turn (W.getD (i / 64) 0) (i % 64) : Nat) : Int)) := fun f => shr_b (by omega) f
        rw [nil_p, fld_p, h.f0, hq, w1, w2, not_u hw, hr, hsh, eql_i]
        by_cases hz : turn (W.getD (i / 64) 0) (i % 64) = 0
        · rw [hz, show (((0 : Nat) : Int) == 0) = true from rfl, if_t, hr, sub_i, w_i64 (by omega) (by omega), add_i, w_i64 (by omega) (by omega), add_i, w_i64 (by omega) (by omega)]
          have e3 : (i : Int) + (63 - ((i % 64 : Nat) : Int)) + 1 = ((i + (64 - i % 64) : Nat) : Int) := by omega
          rw [e3, turn_zero hw hz]
          exact miss_loop k lo lim hid hwid m _ s v acc h ht hv hlo (by omega) (by omega)
        · obtain ⟨t1, t2, t3⟩ := turn_some (n := n) hw hz
          have hc := ctz_run ht _ hz (turn_lt _ _) k
          have hz2 : (((turn (W.getD (i / 64) 0) (i % 64) : Nat) : Int) == 0) = false := beq_eq_false_iff_ne.2 (by omega)
          generalize ctz 64 (turn (W.getD (i / 64) 0) (i % 64)) = t at *
          rw [hz2, if_f, hc, bnd, add_i, w_i64 (by omega) (by omega), nil_p, fld_p]
          simp only
          have e3 : (i : Int) + (t : Nat) = ((i + t : Nat) : Int) := by omega
          have e4 : ((i + t : Nat) : Int) + 1 = ((i + t + 1 : Nat) : Int) := by omega
          have hw4 : IntKind.i64.wrap (((i + t : Nat) : Int) + 1) = ((i + t + 1 : Nat) : Int) := by rw [w_i64 (by omega) (by omega), e4]
          rw [h.f1, e3, lss_i, t2]
          by_cases hin : i + t < n
          · rw [decide_eq_true (show ((i + t : Nat) : Int) < n by omega), if_t, build_1]
            obtain ⟨v', s', a1, a2, a3, _⟩ := app1V (bytes := 8) hv hlo ((i + t : Nat) : Int) (by rw [ci_len]; omega) (by omega)
            rw [a1, add_i, hw4]
            have a2' : OwnV s' v' .i64 (ci (acc ++ [i + t])) lo := by rw [ci_app]; exact a2
            obtain ⟨v2, s2, b1, b2, b3⟩ := miss_loop k lo lim hid hwid m (i + t + 1) s' v' (acc ++ [i + t]) (h.lo a3 hid hwid) (ht.lo a3 (by omega)) a2' (Nat.le_trans hlo a3.next) (by simp; omega) (by omega)
            refine ⟨v2, s2, b1, ?_, a3.trans b3⟩
            rw [rest_cons hin, t3, if_neg (by decide), show (lim - (acc.length : Int)).toNat = (lim - ((acc ++ [i + t]).length : Int)).toNat + 1 by simp; omega, List.take_succ_cons]
            rw [List.append_assoc] at b2
            exact b2
          · rw [decide_eq_false (show ¬ ((i + t : Nat) : Int) < n by omega), if_f, add_i, hw4, rest_nil (show n ≤ i + t by omega)]
            obtain ⟨v2, s2, b1, b2, b3⟩ := miss_loop k lo lim hid hwid m (i + t + 1) s v acc h ht hv hlo (by omega) (by omega)
            rw [rest_nil (show n ≤ i + t + 1 by omega)] at b2
            exact ⟨v2, s2, b1, b2, b3⟩
      · simp only [decide_eq_false hl, bnd, guard_tt, guard_ff, guard_tf, guard_ft, pick_t, pick_f, if_t, if_f, add_i, sub_i, lss_i, leq_i, gtr_i, geq_i, eql_i, neq_i, min_i, max_i, conv_i, len_sl, len_nil, not_b, cells_agg, new_s, fld_p, nil_p]
        unfold bits_Set_Missing.p0
        exact ⟨v, s, rfl, by rw [show (lim - (acc.length : Int)).toNat = 0 by omega, List.take_zero, List.append_nil]; exact hv, ExtLo.refl _ _⟩
    · simp only [decide_eq_false (show ¬ (i : Int) < n by omega), guard_ft, bnd, guard_tt, guard_ff, guard_tf, guard_ft, pick_t, pick_f, if_t, if_f, add_i, sub_i, lss_i, leq_i, gtr_i, geq_i, eql_i, neq_i, min_i, max_i, conv_i, len_sl, len_nil, not_b, cells_agg, new_s, fld_p, nil_p]
      unfold bits_Set_Missing.p0
      exact ⟨v, s, rfl, by rw [rest_nil (by omega), List.take_nil, List.append_nil]; exact hv, ExtLo.refl _ _⟩
theorem miss_run (h : IsSet s id wid W n) (ht : HasTab s) (a lim : Int) (ha : a < 9223372036854775808) (k : Nat) (hk : n ≤ k) : ∃ v' s', rn (k + 2) 10 [.ptr id 0 2, .int .i64 a, .int .i64 lim] s = some (v', s') ∧ OwnV s' v' .i64 (ci ((rest W n (max a 0).toNat).take lim.toNat)) s.next ∧ Ext s s' := by
  rw [bits_Set_Missing.eq]
  unfold bits_Set_Missing.f bits_Set_Missing.p6 bits_Set_Missing.p5 bits_Set_Missing.p4
  rw [max_i]
  obtain ⟨i, hi⟩ : ∃ i : Nat, max a 0 = i := ⟨(max a 0).toNat, by omega⟩
  rw [hi, Int.toNat_natCast]
  obtain ⟨v', s', b1, b2, b3⟩ := miss_loop (W := W) (n := n) k s.next lim h.id_lt h.wid_lt (k + 1) i s .nilsl [] h ht (.inl ⟨rfl, rfl⟩) (Nat.le_refl _) (by simp) (by omega)
  exact ⟨v', s', b1, by simpa using b2, b3.ext (Nat.le_refl _)⟩

/-! ### two rows of places that are the same -/
theorem same_loop (k : Nat) {s : Store} {v1 v2 : AV} {l : List Int} (h1 : IsV s v1 .i64 l) (h2 : IsV s v2 .i64 l) (hl : l.length ≤ 1000000000) : ∀ (m i : Nat), i ≤ l.length → l.length - i < m → unisonref11_Same.l0 k m v1 v2 (.int .i64 (l.length : Nat)) (.int .i64 (i : Nat)) s = some (.bool true, s)
  | 0, i, hi, hm => by omega
  | m + 1, i, hi, hm => by
    have hs : unisonref11_Same.l0 k (m + 1) = fun x0 x1 x12 x13 s => unisonref11_Same.p6 k (unisonref11_Same.l0 k m) x0 x1 x12 x13 s := rfl
    rw [hs]
    clear hs
    simp only
    unfold unisonref11_Same.p6 unisonref11_Same.p5
    rw [lss_i]
    by_cases hil : i < l.length
    · rw [decide_eq_true (by omega), if_t]
      unfold unisonref11_Same.p4 unisonref11_Same.p3 unisonref11_Same.p2 unisonref11_Same.p1
      obtain ⟨p, p1, p2⟩ := atV h1 (show (0 : Int) ≤ (i : Int) by omega) (by omega)
      obtain ⟨q, q1, q2⟩ := atV h2 (show (0 : Int) ≤ (i : Int) by omega) (by omega)
      have hw : IntKind.i64.wrap ((i : Int) + 1) = ((i + 1 : Nat) : Int) := by rw [w_i64 (by omega) (by omega)]; omega
      simp only [p1, p2, q1, q2, bne_self_eq_false, bnd, guard_tt, guard_ff, guard_tf, guard_ft, pick_t, pick_f, if_t, if_f, add_i, sub_i, lss_i, leq_i, gtr_i, geq_i, eql_i, neq_i, min_i, max_i, conv_i, len_sl, len_nil, not_b, cells_agg, new_s, fld_p, nil_p, hw]
      exact same_loop k h1 h2 hl m (i + 1) (by omega) (by omega)
    · rw [decide_eq_false (by omega), if_f]
      rfl
theorem same_run {s : Store} {v1 v2 : AV} {l : List Int} (h1 : IsV s v1 .i64 l) (h2 : IsV s v2 .i64 l) (hl : l.length ≤ 1000000000) (k : Nat) (hk : l.length < k) : rn (k + 1) 18 [v1, v2] s = some (.bool true, s) := by
  rw [unisonref11_Same.eq]
  unfold unisonref11_Same.f unisonref11_Same.p9 unisonref11_Same.p8 unisonref11_Same.p7
  simp only [lenV h1, lenV h2, bne_self_eq_false, bnd, guard_tt, guard_ff, guard_tf, guard_ft, pick_t, pick_f, if_t, if_f, add_i, sub_i, lss_i, leq_i, gtr_i, geq_i, eql_i, neq_i, min_i, max_i, conv_i, len_sl, len_nil, not_b, cells_agg, new_s, fld_p, nil_p]
  have := same_loop k h1 h2 hl k 0 (by omega) (by omega)
  simpa using this
end
end Go.Proofs.YtffememmkkopmaaDoor.Sim
