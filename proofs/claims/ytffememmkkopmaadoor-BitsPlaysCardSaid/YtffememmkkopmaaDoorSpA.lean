/- Seat 11: a set of places: how it is made, asked, and put into. No condition. -/
import Derived.Test.YtffememmkkopmaaDoorFuns
import Derived.Test.YtffememmkkopmaaDoorSimW
namespace Go.Proofs.YtffememmkkopmaaDoor.Sim
set_option linter.unusedSimpArgs false
set_option linter.unusedVariables false

def ci (W : List Nat) : List Int := W.map fun w : Nat => (w : Int)
theorem ci_len (W : List Nat) : (ci W).length = W.length := by simp [ci]
theorem ci_get (W : List Nat) (i : Nat) : (ci W).getD i 0 = ((W.getD i 0 : Nat) : Int) := by
  simp only [ci, List.getD_eq_getElem?_getD, List.getElem?_map]
  cases W[i]? <;> rfl
theorem ci_set (W : List Nat) (i : Nat) (w : Nat) : (ci W).set i (w : Int) = ci (W.set i w) := by simp [ci, List.map_set]

/-- Is a place in? -/
def bitW (W : List Nat) (i : Nat) : Bool := (W.getD (i / 64) 0).testBit (i % 64)
/-- With a place in it. -/
def orB (W : List Nat) (i : Nat) : List Nat := W.set (i / 64) (W.getD (i / 64) 0 ||| 2 ^ (i % 64))
theorem orB_len (W : List Nat) (i : Nat) : (orB W i).length = W.length := by simp [orB]
theorem two_lt {r : Nat} (h : r < 64) : 2 ^ r < 18446744073709551616 := by
  have : 2 ^ r ≤ 2 ^ 63 := Nat.pow_le_pow_right (by omega) (by omega)
  have e : (2 : Nat) ^ 63 = 9223372036854775808 := rfl
  omega
theorem or_lt {a b : Nat} (ha : a < 18446744073709551616) (hb : b < 18446744073709551616) : a ||| b < 18446744073709551616 := by
  have e : (18446744073709551616 : Nat) = 2 ^ 64 := rfl
  rw [e] at *
  exact Nat.or_lt_two_pow ha hb
theorem getD_lt {W : List Nat} (h : ∀ w ∈ W, w < 18446744073709551616) (i : Nat) : W.getD i 0 < 18446744073709551616 := by
  by_cases hi : i < W.length
  · have e : W.getD i 0 = W[i] := by simp [hi]
    rw [e]; exact h _ (List.getElem_mem hi)
  · have e : W.getD i 0 = 0 := by simp [show W.length ≤ i by omega]
    rw [e]; omega
theorem orB_lt {W : List Nat} (h : ∀ w ∈ W, w < 18446744073709551616) (i : Nat) : ∀ w ∈ orB W i, w < 18446744073709551616 := by
  intro w hw
  rcases List.mem_or_eq_of_mem_set hw with q | q
  · exact h w q
  · rw [q]; exact or_lt (getD_lt h _) (two_lt (by omega))

/-- A set that lies in the store. -/
structure IsSet (s : Store) (id wid : Nat) (W : List Nat) (n : Nat) : Prop where
  st : s.get id = .cells [.sl wid 0 W.length 1 W.length, .int .i64 (n : Int)] false
  row : s.get wid = .cells ((ci W).map (.int .u64)) false
  id_lt : id < s.next
  wid_lt : wid < s.next
  ne : wid ≠ id
  len : W.length = (n + 63) / 64
  lt : ∀ w ∈ W, w < 18446744073709551616
  top : n ≤ 1048576
theorem IsSet.keep {s s' : Store} {id wid n : Nat} {W : List Nat} (h : IsSet s id wid W n) (h1 : s'.get id = s.get id) (h2 : s'.get wid = s.get wid) (hn : s.next ≤ s'.next) : IsSet s' id wid W n :=
  ⟨h1.trans h.st, h2.trans h.row, Nat.lt_of_lt_of_le h.id_lt hn, Nat.lt_of_lt_of_le h.wid_lt hn, h.ne, h.len, h.lt, h.top⟩
theorem IsSet.ext {s s' : Store} {id wid n : Nat} {W : List Nat} (h : IsSet s id wid W n) (e : Ext s s') : IsSet s' id wid W n := h.keep (e.get _ h.id_lt) (e.get _ h.wid_lt) e.next

section
variable {s : Store} {id wid n : Nat} {W : List Nat}
theorem IsSet.f0 (h : IsSet s id wid W n) {α : Type} (f : AV → Option α) : aLoad1 (.ptr id (0 + 0) 2) s f = f (.sl wid 0 W.length 1 W.length) := load_1 h.st rfl rfl
theorem IsSet.f1 (h : IsSet s id wid W n) {α : Type} (f : AV → Option α) : aLoad1 (.ptr id (0 + 1) 2) s f = f (.int .i64 (n : Int)) := load_1 h.st rfl rfl
theorem eq_pn (l o ep : Nat) {α : Type} (f : Bool → Option α) : aEq .ptr (.ptr l o ep) .nilptr f = f false := rfl
theorem quo_i {k : IntKind} {a b : Int} (ha : 0 ≤ a) (hb : b ≠ 0) {α : Type} (f : AV → Option α) : aBin .quo (.int k a) (.int k b) f = f (.int k (k.wrap (a / b))) := by
  simp only [aBin, intBin, if_true, if_neg hb, Int.tdiv_eq_ediv_of_nonneg ha]
theorem rem_i {k : IntKind} {a b : Int} (ha : 0 ≤ a) (hb : b ≠ 0) {α : Type} (f : AV → Option α) : aBin .rem (.int k a) (.int k b) f = f (.int k (a % b)) := by
  simp only [aBin, intBin, if_true, if_neg hb, Int.tmod_eq_emod_of_nonneg ha]

theorem there_run (h : IsSet s id wid W n) (i : Int) (k : Nat) : rn (k + 1) 20 [.ptr id 0 2, .int .i64 i] s = some (.bool (decide (0 ≤ i) && decide (i < n)), s) := by
  rw [bits_Set_there.eq]
  unfold bits_Set_there.f bits_Set_there.p0
  simp only [eq_pn, Bool.not_false, bnd, guard_tt, guard_ff, guard_tf, guard_ft, pick_t, pick_f, if_t, if_f, add_i, sub_i, lss_i, leq_i, gtr_i, geq_i, eql_i, neq_i, min_i, max_i, conv_i, len_sl, len_nil, not_b, cells_agg, new_s, fld_p, nil_p]
  by_cases h0 : i ≥ 0
  · have h0' : (0 : Int) ≤ i := h0
    simp only [decide_eq_true h0, bnd, guard_tt, guard_ff, guard_tf, guard_ft, pick_t, pick_f, if_t, if_f, add_i, sub_i, lss_i, leq_i, gtr_i, geq_i, eql_i, neq_i, min_i, max_i, conv_i, len_sl, len_nil, not_b, cells_agg, new_s, fld_p, nil_p, h.f1, decide_eq_true h0', Bool.true_and]
  · have h0' : ¬ (0 : Int) ≤ i := h0
    simp only [decide_eq_false h0, bnd, guard_tt, guard_ff, guard_tf, guard_ft, pick_t, pick_f, if_t, if_f, add_i, sub_i, lss_i, leq_i, gtr_i, geq_i, eql_i, neq_i, min_i, max_i, conv_i, len_sl, len_nil, not_b, cells_agg, new_s, fld_p, nil_p, decide_eq_false h0', Bool.false_and]

theorem and_1 {X : Nat} (h1 : X < 18446744073709551616) {α : Type} (f : AV → Option α) : aBin .and (.int .u64 (X : Int)) (.int .u64 1) f = f (.int .u64 ((X % 2 : Nat) : Int)) := by
  have e1 : (BitVec.ofInt 64 (X : Int)).toNat = X := by rw [BitVec.ofInt_natCast, BitVec.toNat_ofNat]; exact Nat.mod_eq_of_lt (by omega)
  have e2 : (BitVec.ofInt 64 (1 : Int)).toNat = 1 := rfl
  simp only [aBin, intBin, if_true]
  rw [show IntKind.u64.bits = 64 from rfl, BitVec.toNat_and, e1, e2, Nat.and_one_is_mod, w_u64 (by omega) (by omega)]
theorem shr_b {x : Nat} {r : Nat} (hr : r < 64) {α : Type} (f : AV → Option α) : aShift .shr (.int .u64 (x : Int)) (.int .i64 (r : Int)) f = f (.int .u64 ((x / 2 ^ r : Nat) : Int)) := by
  have h : min (r : Int).toNat IntKind.u64.bits = r := by simp [IntKind.bits]; omega
  simp only [aShift, if_neg (show ¬ (r : Int) < 0 by omega), h]
  rw [Int.fdiv_eq_ediv_of_nonneg _ (Int.pow_nonneg (by omega)), Int.natCast_ediv, Int.natCast_pow]
  rfl
theorem p2_cast (r : Nat) : ((2 ^ r : Nat) : Int) = (2 : Int) ^ r := Int.natCast_pow 2 r
theorem shl_1 {r : Nat} (hr : r < 64) {α : Type} (f : AV → Option α) : aShift .shl (.int .u64 1) (.int .i64 (r : Int)) f = f (.int .u64 ((2 ^ r : Nat) : Int)) := by
  have h : min (r : Int).toNat IntKind.u64.bits = r := by simp [IntKind.bits]; omega
  have := two_lt hr
  simp only [aShift, if_neg (show ¬ (r : Int) < 0 by omega), h]
  rw [Int.one_mul, ← p2_cast, w_u64 (Int.natCast_nonneg _) (Int.ofNat_lt.2 (two_lt hr))]
theorem or_u {a b : Nat} (ha : a < 18446744073709551616) (hb : b < 18446744073709551616) {α : Type} (f : AV → Option α) : aBin .or (.int .u64 (a : Int)) (.int .u64 (b : Int)) f = f (.int .u64 ((a ||| b : Nat) : Int)) := by
  have e1 : (BitVec.ofInt 64 (a : Int)).toNat = a := by rw [BitVec.ofInt_natCast, BitVec.toNat_ofNat]; exact Nat.mod_eq_of_lt (by omega)
  have e2 : (BitVec.ofInt 64 (b : Int)).toNat = b := by rw [BitVec.ofInt_natCast, BitVec.toNat_ofNat]; exact Nat.mod_eq_of_lt (by omega)
  have := or_lt ha hb
  simp only [aBin, intBin, if_true]
  rw [show IntKind.u64.bits = 64 from rfl, BitVec.toNat_or, e1, e2, w_u64 (by omega) (by omega)]
theorem bit_eq (w r : Nat) : (((w / 2 ^ r % 2 : Nat) : Int) == 1) = w.testBit r := by
  rw [Nat.testBit_eq_decide_div_mod_eq]
  by_cases h : w / 2 ^ r % 2 = 1
  · rw [h]; rfl
  · rw [decide_eq_false h]
    exact beq_eq_false_iff_ne.2 (by omega)

/-- A place's word. -/
theorem IsSet.word (h : IsSet s id wid W n) {i : Nat} (hi : i < n) : (∀ {α : Type} (kk : IntKind) (f : AV → Option α), aIndexSl 1 (.sl wid 0 W.length 1 W.length) (.int kk ((i / 64 : Nat) : Int)) f = f (.ptr wid (0 + i / 64) W.length)) ∧ (∀ {α : Type} (f : AV → Option α), aLoad1 (.ptr wid (0 + i / 64) W.length) s f = f (.int .u64 ((W.getD (i / 64) 0 : Nat) : Int))) ∧ i / 64 < W.length := by
  have hl := h.len
  have hlt : i / 64 < W.length := by omega
  have hrow := h.row
  refine ⟨fun kk f => ?_, fun f => ?_, hlt⟩
  · have := idxV (id := wid) (off := 0) (n := W.length) (ep := W.length) (kk := kk) (i := ((i / 64 : Nat) : Int)) (by omega) (by omega) f
    rw [Int.toNat_natCast] at this; exact this
  · have := loadV (i := 0 + i / 64) hrow (by rw [ci_len]; omega) f
    rw [ci_len, ci_get, Nat.zero_add] at this
    rw [Nat.zero_add]; exact this

theorem has_run (h : IsSet s id wid W n) (i : Int) (k : Nat) : rn (k + 2) 12 [.ptr id 0 2, .int .i64 i] s = some (.bool (decide (0 ≤ i) && decide (i < n) && bitW W i.toNat), s) := by
  rw [bits_Set_Has.eq]
  unfold bits_Set_Has.f bits_Set_Has.p0
  rw [there_run h, bnd]
  by_cases hc : 0 ≤ i ∧ i < n
  · obtain ⟨ii, rfl⟩ : ∃ ii : Nat, i = ii := ⟨i.toNat, by omega⟩
    have hii : ii < n := by omega
    have htop := h.top
    obtain ⟨w1, w2, w3⟩ := h.word hii
    have e1 : IntKind.i64.wrap ((ii : Int) / 64) = ((ii / 64 : Nat) : Int) := by rw [w_i64 (by omega) (by omega)]; omega
    have e2 : (ii : Int) % 64 = ((ii % 64 : Nat) : Int) := by omega
    have hw := getD_lt h.lt (ii / 64)
    have hd2 : W.getD (ii / 64) 0 / 2 ^ (ii % 64) < 18446744073709551616 := Nat.lt_of_le_of_lt (Nat.div_le_self _ _) hw
    simp only [decide_eq_true hc.1, decide_eq_true hc.2, Bool.true_and, bnd, guard_tt, guard_ff, guard_tf, guard_ft, pick_t, pick_f, if_t, if_f, add_i, sub_i, lss_i, leq_i, gtr_i, geq_i, eql_i, neq_i, min_i, max_i, conv_i, len_sl, len_nil, not_b, cells_agg, new_s, fld_p, nil_p, h.f0, quo_i (show (0 : Int) ≤ ii by omega) (show (64 : Int) ≠ 0 by omega), e1, w1, w2, rem_i (show (0 : Int) ≤ ii by omega) (show (64 : Int) ≠ 0 by omega), e2, shr_b (show ii % 64 < 64 by omega), and_1 hd2, bit_eq, Int.toNat_natCast]
    rfl
  · have hf : (decide (0 ≤ i) && decide (i < (n : Int))) = false := by
      rw [Bool.and_eq_false_iff]
      by_cases q : 0 ≤ i
      · exact .inr (decide_eq_false fun z => hc ⟨q, z⟩)
      · exact .inl (decide_eq_false q)
    simp only [hf, Bool.false_and, bnd, guard_tt, guard_ff, guard_tf, guard_ft, pick_t, pick_f, if_t, if_f, add_i, sub_i, lss_i, leq_i, gtr_i, geq_i, eql_i, neq_i, min_i, max_i, conv_i, len_sl, len_nil, not_b, cells_agg, new_s, fld_p, nil_p]

/-- One place more: the words, how many are new. -/
def put1 (n : Nat) (st : List Nat × Int) (i : Int) : List Nat × Int := if 0 ≤ i ∧ i < n ∧ bitW st.1 i.toNat = false then (orB st.1 i.toNat, st.2 + 1) else st
theorem put1_len (n : Nat) (st : List Nat × Int) (i : Int) : (put1 n st i).1.length = st.1.length := by unfold put1; split <;> simp [orB_len]
theorem put1_cnt (n : Nat) (st : List Nat × Int) (i : Int) : st.2 ≤ (put1 n st i).2 ∧ (put1 n st i).2 ≤ st.2 + 1 := by 
  by_cases q : (0 ≤ i ∧ i < n ∧ bitW st.1 i.toNat = false)
  · simp only [put1, if_pos q]; omega
  · simp only [put1, if_neg q]; omega

theorem put_loop (k : Nat) {lv : AV} {l : List Int} (hl : l.length ≤ 1000000) (hoff : ∀ i b c d f, lv = .sl i b c d f → i ≠ wid) : ∀ (m i : Nat) (s : Store) (W : List Nat) (c : Int), IsSet s id wid W n → IsV s lv .i64 l → 0 ≤ c → c ≤ i → i ≤ l.length → l.length - i < m →
    ∃ s', bits_Set_Put.l0 (k + 2) m (.ptr id 0 2) (.int .i64 c) lv (.int .i64 l.length) (.int .i64 i) s = some (.int .i64 ((l.drop i).foldl (put1 n) (W, c)).2, s') ∧ IsSet s' id wid ((l.drop i).foldl (put1 n) (W, c)).1 n ∧ Fr1 wid s s' ∧ s'.next = s.next
  | 0, i, _, _, _, _, _, _, _, hi, hm => by omega
  | m + 1, i, s, W, c, h, hv, hc0, hci, hi, hm => by
    have hs : bits_Set_Put.l0 (k + 2) (m + 1) = fun x0 x5 x8 x9 x10 s => bits_Set_Put.p9 (k + 2) (bits_Set_Put.l0 (k + 2) m) x0 x5 x8 x9 x10 s := rfl
    rw [hs]
    clear hs
    simp only
    unfold bits_Set_Put.p9 bits_Set_Put.p8
    rw [lss_i]
    by_cases hil : i < l.length
    · rw [decide_eq_true (by omega), if_t]
      unfold bits_Set_Put.p7 bits_Set_Put.p6 bits_Set_Put.p5
      have hw1 : IntKind.i64.wrap ((i : Int) + 1) = ((i + 1 : Nat) : Int) := by rw [w_i64 (by omega) (by omega)]; omega
      obtain ⟨p, p1, p2⟩ := atV hv (show (0 : Int) ≤ i by omega) (by omega)
      have eg : l.getD (i : Int).toNat 0 = l[i] := by simp [hil]
      rw [p1, p2, eg, there_run h, bnd, List.drop_eq_getElem_cons hil, List.foldl_cons]
      have skip : put1 n (W, c) l[i] = (W, c) → ∃ s', bits_Set_Put.p1 (k + 2) (bits_Set_Put.l0 (k + 2) m) (.ptr id 0 2) (.int .i64 c) lv (.int .i64 l.length) (.int .i64 i) s = some (.int .i64 ((l.drop (i + 1)).foldl (put1 n) (put1 n (W, c) l[i])).2, s') ∧ IsSet s' id wid ((l.drop (i + 1)).foldl (put1 n) (put1 n (W, c) l[i])).1 n ∧ Fr1 wid s s' ∧ s'.next = s.next := by
        intro e
        unfold bits_Set_Put.p1
        rw [add_i, hw1, e]
        exact put_loop k hl hoff m (i + 1) s W c h hv hc0 (by omega) (by omega) (by omega)
      by_cases hc : 0 ≤ l[i] ∧ l[i] < n
      · have hhas := has_run h l[i] k
        simp only [decide_eq_true hc.1, decide_eq_true hc.2, Bool.true_and, bnd, guard_tt, guard_ff, guard_tf, guard_ft, pick_t, pick_f, if_t, if_f, add_i, sub_i, lss_i, leq_i, gtr_i, geq_i, eql_i, neq_i, min_i, max_i, conv_i, len_sl, len_nil, not_b, cells_agg, new_s, fld_p, nil_p, hhas]
        by_cases hb : bitW W l[i].toNat = true
        · simp only [hb, Bool.not_true, bnd, guard_tt, guard_ff, guard_tf, guard_ft, pick_t, pick_f, if_t, if_f, add_i, sub_i, lss_i, leq_i, gtr_i, geq_i, eql_i, neq_i, min_i, max_i, conv_i, len_sl, len_nil, not_b, cells_agg, new_s, fld_p, nil_p]
          unfold bits_Set_Put.p4
          exact skip (by unfold put1; rw [if_neg (fun q => by have := q.2.2; simp only at this; rw [hb] at this; cases this)])
        · have hb' : bitW W l[i].toNat = false := by simpa using hb
          simp only [hb', Bool.not_false, bnd, guard_tt, guard_ff, guard_tf, guard_ft, pick_t, pick_f, if_t, if_f, add_i, sub_i, lss_i, leq_i, gtr_i, geq_i, eql_i, neq_i, min_i, max_i, conv_i, len_sl, len_nil, not_b, cells_agg, new_s, fld_p, nil_p]
          unfold bits_Set_Put.p3 bits_Set_Put.p2 bits_Set_Put.p1
          obtain ⟨ii, hii⟩ : ∃ ii : Nat, l[i] = ii := ⟨l[i].toNat, by omega⟩
          rw [hii] at hc hb' ⊢
          rw [Int.toNat_natCast] at hb'
          have hin : ii < n := by omega
          have htop := h.top
          obtain ⟨w1, w2, w3⟩ := h.word hin
          have e1 : IntKind.i64.wrap ((ii : Int) / 64) = ((ii / 64 : Nat) : Int) := by rw [w_i64 (by omega) (by omega)]; omega
          have e2 : (ii : Int) % 64 = ((ii % 64 : Nat) : Int) := by omega
          have hw := getD_lt h.lt (ii / 64)
          have hst : ∀ {α : Type} (f : Store → Option α), aStore 1 (.ptr wid (0 + ii / 64) W.length) (.int .u64 ((W.getD (ii / 64) 0 ||| 2 ^ (ii % 64) : Nat) : Int)) s f = f (s.set wid (.cells ((ci (orB W ii)).map (.int .u64)) false)) := by
            intro α f
            have := storeV (i := ii / 64) (n := ((W.getD (ii / 64) 0 ||| 2 ^ (ii % 64) : Nat) : Int)) h.row (by rw [ci_len]; exact w3) f
            rw [ci_len, ci_set] at this
            rw [Nat.zero_add]; exact this
          have hwc : IntKind.i64.wrap (c + 1) = c + 1 := w_i64 (by omega) (by omega)
          simp only [bnd, guard_tt, guard_ff, guard_tf, guard_ft, pick_t, pick_f, if_t, if_f, add_i, sub_i, lss_i, leq_i, gtr_i, geq_i, eql_i, neq_i, min_i, max_i, conv_i, len_sl, len_nil, not_b, cells_agg, new_s, fld_p, nil_p, h.f0, quo_i (show (0 : Int) ≤ ii by omega) (show (64 : Int) ≠ 0 by omega), e1, w1, w2, rem_i (show (0 : Int) ≤ ii by omega) (show (64 : Int) ≠ 0 by omega), e2, shl_1 (show ii % 64 < 64 by omega), or_u hw (two_lt (show ii % 64 < 64 by omega)), hst, hwc, hw1]
          have hp : put1 n (W, c) (ii : Int) = (orB W ii, c + 1) := by unfold put1; simp only [Int.toNat_natCast]; rw [if_pos ⟨hc.1, hc.2, hb'⟩]
          rw [hp]
          have f1 := Fr1.set wid s (.cells ((ci (orB W ii)).map (.int .u64)) false)
          have h1 : IsSet (s.set wid (.cells ((ci (orB W ii)).map (.int .u64)) false)) id wid (orB W ii) n :=
            ⟨by rw [get_set, if_neg h.ne.symm, h.st, orB_len], by rw [get_set, if_pos rfl], h.id_lt, h.wid_lt, h.ne, by rw [orB_len]; exact h.len, orB_lt h.lt ii, h.top⟩
          obtain ⟨s', k1, k2, k3, k4⟩ := put_loop k hl hoff m (i + 1) _ (orB W ii) (c + 1) h1 (hv.fr1 f1 hoff) (by omega) (by omega) (by omega) (by omega)
          exact ⟨s', k1, k2, f1.trans k3, k4⟩
      · have hf : (decide (0 ≤ l[i]) && decide (l[i] < (n : Int))) = false := by
          rw [Bool.and_eq_false_iff]
          by_cases q : 0 ≤ l[i]
          · exact .inr (decide_eq_false fun z => hc ⟨q, z⟩)
          · exact .inl (decide_eq_false q)
        simp only [hf, bnd, guard_tt, guard_ff, guard_tf, guard_ft, pick_t, pick_f, if_t, if_f, add_i, sub_i, lss_i, leq_i, gtr_i, geq_i, eql_i, neq_i, min_i, max_i, conv_i, len_sl, len_nil, not_b, cells_agg, new_s, fld_p, nil_p]
        unfold bits_Set_Put.p4
        exact skip (by unfold put1; rw [if_neg (fun q => hc ⟨q.1, q.2.1⟩)])
    · rw [decide_eq_false (by omega), if_f, List.drop_eq_nil_of_le (by omega)]
      unfold bits_Set_Put.p0
      exact ⟨s, rfl, h, Fr1.refl _ _, rfl⟩
theorem put_run {lv : AV} {l : List Int} (h : IsSet s id wid W n) (hv : IsV s lv .i64 l) (hl : l.length ≤ 1000000) (hoff : ∀ i b c d f, lv = .sl i b c d f → i ≠ wid) (k : Nat) (hk : l.length < k) :
    ∃ s', rn (k + 3) 9 [.ptr id 0 2, lv] s = some (.int .i64 (l.foldl (put1 n) (W, 0)).2, s') ∧ IsSet s' id wid (l.foldl (put1 n) (W, 0)).1 n ∧ Fr1 wid s s' ∧ s'.next = s.next := by
  rw [bits_Set_Put.eq]
  unfold bits_Set_Put.f bits_Set_Put.p12 bits_Set_Put.p11 bits_Set_Put.p10
  rw [lenV hv]
  have := put_loop k hl hoff (k + 2) 0 s W 0 h hv (by omega) (by omega) (by omega) (by omega)
  rw [Int.natCast_zero, List.drop_zero] at this
  exact this

theorem new_run (x : Int) (hx : -9223372036854775808 ≤ x ∧ x < 9223372036854775808) (k : Nat) (s : Store) : ∃ s', rn (k + 1) 8 [.int .i64 x] s = some (.ptr (s.next + 1) 0 2, s') ∧ IsSet s' (s.next + 1) s.next (List.replicate (((max 0 (min x 1048576)).toNat + 63) / 64) 0) (max 0 (min x 1048576)).toNat ∧ Ext s s' ∧ s'.next = s.next + 2 := by
  rw [bits_New.eq]
  unfold bits_New.f bits_New.p0
  rw [min_i, max_i]
  obtain ⟨n, hn⟩ : ∃ n : Nat, max 0 (min x 1048576) = n := ⟨(max 0 (min x 1048576)).toNat, by omega⟩
  have hn2 : n ≤ 1048576 := by omega
  rw [hn, Int.toNat_natCast]
  rw [add_i, w_i64 (by omega) (by omega), sub_i, w_i64 (by omega) (by omega), quo_i (by omega) (by omega), w_i64 (by omega) (by omega)]
  have e : ((n : Int) + 64 - 1) / 64 = (((n + 63) / 64 : Nat) : Int) := by omega
  rw [e]
  generalize hL : (n + 63) / 64 = L at *
  have mk : ∀ f : AV → Store → Option (AV × Store), aMakeSlice [AV.int .u64 0] 1 8 (.int .i64 (L : Int)) (.int .i64 (L : Int)) s f = f (.sl s.next 0 L 1 L) (s.push (.cells ((ci (List.replicate L 0)).map (.int .u64)) false)) := by
    intro f
    simp only [aMakeSlice]
    rw [if_pos (by omega), Int.toNat_natCast, Nat.mul_one]
    congr 2
    simp [ci]
  rw [mk]
  have hb : ∀ f : List AV → Option (AV × Store), aBuild [(0, 1, .sl s.next 0 L 1 L), (1, 1, .int .i64 (n : Int))] [AV.nilsl, AV.int .i64 0] f = f [.sl s.next 0 L 1 L, .int .i64 (n : Int)] := fun f => by simp [aBuild, aCells, putAll]
  rw [hb, cells_agg, new_s]
  refine ⟨_, rfl, ⟨?_, ?_, by simp only [next_push]; omega, by simp only [next_push]; omega, by omega, by simp only [List.length_replicate]; omega, fun w hw => by rw [(List.mem_replicate.1 hw).2]; omega, hn2⟩, (Ext.push _ _).trans (Ext.push _ _), rfl⟩
  · rw [get_push, next_push, if_pos rfl, List.length_replicate]
  · rw [get_push, next_push, if_neg (by omega), get_push, if_pos rfl]
end
end Go.Proofs.YtffememmkkopmaaDoor.Sim
