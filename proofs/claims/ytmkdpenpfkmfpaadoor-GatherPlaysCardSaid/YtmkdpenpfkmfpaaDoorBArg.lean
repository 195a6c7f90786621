/- The texts B11A, B11B, B11C, B11D, BArg, one behind the other. No condition. -/
import Derived.Test.YtmkdpenpfkmfpaaDoorFunB
import Derived.Test.YtmkdpenpfkmfpaaDoorSimW
import Derived.Test.YtmkdpenpfkmfpaaDoorSimQ
import Derived.Lib.TrailingZeros
namespace Go.Proofs.YtmkdpenpfkmfpaaDoor.Sim
set_option linter.unusedSimpArgs false
set_option linter.unusedVariables false

def ci (W : List Nat) : List Int := W.map fun w : Nat => (w : Int)
theorem ci_len (W : List Nat) : (ci W).length = W.length := by simp [ci]
theorem ci_get (W : List Nat) (i : Nat) : (ci W).getD i 0 = ((W.getD i 0 : Nat) : Int) := by
  simp only [ci, List.getD_eq_getElem?_getD, List.getElem?_map]
  cases W[i]? <;> rfl
theorem ci_set (W : List Nat) (i : Nat) (w : Nat) : (ci W).set i (w : Int) = ci (W.set i w) := by simp [ci, List.map_set]

/-- Is a place in? -/
def bitW (W : List Nat) (i : Nat) : Bool := (W.getD (i / 64) 0).testBit (i % 64)
/-- With a place in it. -/
def orB (W : List Nat) (i : Nat) : List Nat := W.set (i / 64) (W.getD (i / 64) 0 ||| 2 ^ (i % 64))
theorem orB_len (W : List Nat) (i : Nat) : (orB W i).length = W.length := by simp [orB]
theorem two_lt {r : Nat} (h : r < 64) : 2 ^ r < 18446744073709551616 := by
  have : 2 ^ r ≤ 2 ^ 63 := Nat.pow_le_pow_right (by omega) (by omega)
  have e : (2 : Nat) ^ 63 = 9223372036854775808 := rfl
  omega
theorem or_lt {a b : Nat} (ha : a < 18446744073709551616) (hb : b < 18446744073709551616) : a ||| b < 18446744073709551616 := by
  have e : (18446744073709551616 : Nat) = 2 ^ 64 := rfl
  rw [e] at *
  exact Nat.or_lt_two_pow ha hb
theorem getD_lt {W : List Nat} (h : ∀ w ∈ W, w < 18446744073709551616) (i : Nat) : W.getD i 0 < 18446744073709551616 := by
  by_cases hi : i < W.length
  · have e : W.getD i 0 = W[i] := by simp [hi]
    rw [e]; exact h _ (List.getElem_mem hi)
  · have e : W.getD i 0 = 0 := by simp [show W.length ≤ i by omega]
    rw [e]; omega
theorem orB_lt {W : List Nat} (h : ∀ w ∈ W, w < 18446744073709551616) (i : Nat) : ∀ w ∈ orB W i, w < 18446744073709551616 := by
  intro w hw
  rcases List.mem_or_eq_of_mem_set hw with q | q
  · exact h w q
  · rw [q]; exact or_lt (getD_lt h _) (two_lt (by omega))

/-- A set that lies in the store. -/
structure IsSet (s : Store) (id wid : Nat) (W : List Nat) (n : Nat) : Prop where
  st : s.get id = .cells [.sl wid 0 W.length 1 W.length, .int .i64 (n : Int)] false
  row : s.get wid = .cells ((ci W).map (.int .u64)) false
  id_lt : id < s.next
  wid_lt : wid < s.next
  ne : wid ≠ id
  len : W.length = (n + 63) / 64
  lt : ∀ w ∈ W, w < 18446744073709551616
  top : n ≤ 1048576
theorem IsSet.keep {s s' : Store} {id wid n : Nat} {W : List Nat} (h : IsSet s id wid W n) (h1 : s'.get id = s.get id) (h2 : s'.get wid = s.get wid) (hn : s.next ≤ s'.next) : IsSet s' id wid W n :=
  ⟨h1.trans h.st, h2.trans h.row, Nat.lt_of_lt_of_le h.id_lt hn, Nat.lt_of_lt_of_le h.wid_lt hn, h.ne, h.len, h.lt, h.top⟩
theorem IsSet.ext {s s' : Store} {id wid n : Nat} {W : List Nat} (h : IsSet s id wid W n) (e : Ext s s') : IsSet s' id wid W n := h.keep (e.get _ h.id_lt) (e.get _ h.wid_lt) e.next

section
variable {s : Store} {id wid n : Nat} {W : List Nat}
theorem IsSet.f0 (h : IsSet s id wid W n) {α : Type} (f : AV → Option α) : aLoad1 (.ptr id (0 + 0) 2) s f = f (.sl wid 0 W.length 1 W.length) := load_1 h.st rfl rfl
theorem IsSet.f1 (h : IsSet s id wid W n) {α : Type} (f : AV → Option α) : aLoad1 (.ptr id (0 + 1) 2) s f = f (.int .i64 (n : Int)) := load_1 h.st rfl rfl
theorem eq_pn (l o ep : Nat) {α : Type} (f : Bool → Option α) : aEq .ptr (.ptr l o ep) .nilptr f = f false := rfl
theorem quo_i {k : IntKind} {a b : Int} (ha : 0 ≤ a) (hb : b ≠ 0) {α : Type} (f : AV → Option α) : aBin .quo (.int k a) (.int k b) f = f (.int k (k.wrap (a / b))) := by
  simp only [aBin, intBin, if_true, if_neg hb, Int.tdiv_eq_ediv_of_nonneg ha]
theorem rem_i {k : IntKind} {a b : Int} (ha : 0 ≤ a) (hb : b ≠ 0) {α : Type} (f : AV → Option α) : aBin .rem (.int k a) (.int k b) f = f (.int k (a % b)) := by
  simp only [aBin, intBin, if_true, if_neg hb, Int.tmod_eq_emod_of_nonneg ha]

theorem bits_there (h : IsSet s id wid W n) (i : Int) (k : Nat) : rn (k + 1) 49 [.ptr id 0 2, .int .i64 i] s = some (.bool (decide (0 ≤ i) && decide (i < n)), s) := by
  rw [bits_Set_there.eq]
  unfold bits_Set_there.f bits_Set_there.p0
  simp only [eq_pn, Bool.not_false, bnd, guard_tt, guard_ff, guard_tf, guard_ft, pick_t, pick_f, if_t, if_f, add_i, sub_i, lss_i, leq_i, gtr_i, geq_i, eql_i, neq_i, min_i, max_i, conv_i, len_sl, len_nil, not_b, cells_agg, new_s, fld_p, nil_p]
  by_cases h0 : i ≥ 0
  · have h0' : (0 : Int) ≤ i := h0
    simp only [decide_eq_true h0, bnd, guard_tt, guard_ff, guard_tf, guard_ft, pick_t, pick_f, if_t, if_f, add_i, sub_i, lss_i, leq_i, gtr_i, geq_i, eql_i, neq_i, min_i, max_i, conv_i, len_sl, len_nil, not_b, cells_agg, new_s, fld_p, nil_p, h.f1, decide_eq_true h0', Bool.true_and]
  · have h0' : ¬ (0 : Int) ≤ i := h0
    simp only [decide_eq_false h0, bnd, guard_tt, guard_ff, guard_tf, guard_ft, pick_t, pick_f, if_t, if_f, add_i, sub_i, lss_i, leq_i, gtr_i, geq_i, eql_i, neq_i, min_i, max_i, conv_i, len_sl, len_nil, not_b, cells_agg, new_s, fld_p, nil_p, decide_eq_false h0', Bool.false_and]

theorem and_1 {X : Nat} (h1 : X < 18446744073709551616) {α : Type} (f : AV → Option α) : aBin .and (.int .u64 (X : Int)) (.int .u64 1) f = f (.int .u64 ((X % 2 : Nat) : Int)) := by
  have e1 : (BitVec.ofInt 64 (X : Int)).toNat = X := by rw [BitVec.ofInt_natCast, BitVec.toNat_ofNat]; exact Nat.mod_eq_of_lt (by omega)
  have e2 : (BitVec.ofInt 64 (1 : Int)).toNat = 1 := rfl
  simp only [aBin, intBin, if_true]
  rw [show IntKind.u64.bits = 64 from rfl, BitVec.toNat_and, e1, e2, Nat.and_one_is_mod, w_u64 (by omega) (by omega)]
theorem shr_b {x : Nat} {r : Nat} (hr : r < 64) {α : Type} (f : AV → Option α) : aShift .shr (.int .u64 (x : Int)) (.int .i64 (r : Int)) f = f (.int .u64 ((x / 2 ^ r : Nat) : Int)) := by
  have h : min (r : Int).toNat IntKind.u64.bits = r := by simp [IntKind.bits]; omega
  simp only [aShift, if_neg (show ¬ (r : Int) < 0 by omega), h]
  rw [Int.fdiv_eq_ediv_of_nonneg _ (Int.pow_nonneg (by omega)), Int.natCast_ediv, Int.natCast_pow]
  rfl
theorem p2_cast (r : Nat) : ((2 ^ r : Nat) : Int) = (2 : Int) ^ r := Int.natCast_pow 2 r
theorem shl_1 {r : Nat} (hr : r < 64) {α : Type} (f : AV → Option α) : aShift .shl (.int .u64 1) (.int .i64 (r : Int)) f = f (.int .u64 ((2 ^ r : Nat) : Int)) := by
  have h : min (r : Int).toNat IntKind.u64.bits = r := by simp [IntKind.bits]; omega
  have := two_lt hr
  simp only [aShift, if_neg (show ¬ (r : Int) < 0 by omega), h]
  rw [Int.one_mul, ← p2_cast, w_u64 (Int.natCast_nonneg _) (Int.ofNat_lt.2 (two_lt hr))]
theorem or_u {a b : Nat} (ha : a < 18446744073709551616) (hb : b < 18446744073709551616) {α : Type} (f : AV → Option α) : aBin .or (.int .u64 (a : Int)) (.int .u64 (b : Int)) f = f (.int .u64 ((a ||| b : Nat) : Int)) := by
  have e1 : (BitVec.ofInt 64 (a : Int)).toNat = a := by rw [BitVec.ofInt_natCast, BitVec.toNat_ofNat]; exact Nat.mod_eq_of_lt (by omega)
  have e2 : (BitVec.ofInt 64 (b : Int)).toNat = b := by rw [BitVec.ofInt_natCast, BitVec.toNat_ofNat]; exact Nat.mod_eq_of_lt (by omega)
  have := or_lt ha hb
  simp only [aBin, intBin, if_true]
  rw [show IntKind.u64.bits = 64 from rfl, BitVec.toNat_or, e1, e2, w_u64 (by omega) (by omega)]
theorem bit_eq (w r : Nat) : (((w / 2 ^ r % 2 : Nat) : Int) == 1) = w.testBit r := by
  rw [Nat.testBit_eq_decide_div_mod_eq]
  by_cases h : w / 2 ^ r % 2 = 1
  · rw [h]; rfl
  · rw [decide_eq_false h]
    exact beq_eq_false_iff_ne.2 (by omega)

/-- A place's word. -/
theorem IsSet.word (h : IsSet s id wid W n) {i : Nat} (hi : i < n) : (∀ {α : Type} (kk : IntKind) (f : AV → Option α), aIndexSl 1 (.sl wid 0 W.length 1 W.length) (.int kk ((i / 64 : Nat) : Int)) f = f (.ptr wid (0 + i / 64) W.length)) ∧ (∀ {α : Type} (f : AV → Option α), aLoad1 (.ptr wid (0 + i / 64) W.length) s f = f (.int .u64 ((W.getD (i / 64) 0 : Nat) : Int))) ∧ i / 64 < W.length := by
  have hl := h.len
  have hlt : i / 64 < W.length := by omega
  have hrow := h.row
  refine ⟨fun kk f => ?_, fun f => ?_, hlt⟩
  · have := idxV (id := wid) (off := 0) (n := W.length) (ep := W.length) (kk := kk) (i := ((i / 64 : Nat) : Int)) (by omega) (by omega) f
    rw [Int.toNat_natCast] at this; exact this
  · have := loadV (i := 0 + i / 64) hrow (by rw [ci_len]; omega) f
    rw [ci_len, ci_get, Nat.zero_add] at this
    rw [Nat.zero_add]; exact this

theorem bits_has (h : IsSet s id wid W n) (i : Int) (k : Nat) : rn (k + 2) 33 [.ptr id 0 2, .int .i64 i] s = some (.bool (decide (0 ≤ i) && decide (i < n) && bitW W i.toNat), s) := by
  rw [bits_Set_Has.eq]
  unfold bits_Set_Has.f bits_Set_Has.p0
  rw [bits_there h, bnd]
  by_cases hc : 0 ≤ i ∧ i < n
  · obtain ⟨ii, rfl⟩ : ∃ ii : Nat, i = ii := ⟨i.toNat, by omega⟩
    have hii : ii < n := by omega
    have htop := h.top
    obtain ⟨w1, w2, w3⟩ := h.word hii
    have e1 : IntKind.i64.wrap ((ii : Int) / 64) = ((ii / 64 : Nat) : Int) := by rw [w_i64 (by omega) (by omega)]; omega
    have e2 : (ii : Int) % 64 = ((ii % 64 : Nat) : Int) := by omega
    have hw := getD_lt h.lt (ii / 64)
    have hd2 : W.getD (ii / 64) 0 / 2 ^ (ii % 64) < 18446744073709551616 := Nat.lt_of_le_of_lt (Nat.div_le_self _ _) hw
    simp only [decide_eq_true hc.1, decide_eq_true hc.2, Bool.true_and, bnd, guard_tt, guard_ff, guard_tf, guard_ft, pick_t, pick_f, if_t, if_f, add_i, sub_i, lss_i, leq_i, gtr_i, geq_i, eql_i, neq_i, min_i, max_i, conv_i, len_sl, len_nil, not_b, cells_agg, new_s, fld_p, nil_p, h.f0, quo_i (show (0 : Int) ≤ ii by omega) (show (64 : Int) ≠ 0 by omega), e1, w1, w2, rem_i (show (0 : Int) ≤ ii by omega) (show (64 : Int) ≠ 0 by omega), e2, shr_b (show ii % 64 < 64 by omega), and_1 hd2, bit_eq, Int.toNat_natCast]
    rfl
  · have hf : (decide (0 ≤ i) && decide (i < (n : Int))) = false := by
      rw [Bool.and_eq_false_iff]
      by_cases q : 0 ≤ i
      · exact .inr (decide_eq_false fun z => hc ⟨q, z⟩)
      · exact .inl (decide_eq_false q)
    simp only [hf, Bool.false_and, bnd, guard_tt, guard_ff, guard_tf, guard_ft, pick_t, pick_f, if_t, if_f, add_i, sub_i, lss_i, leq_i, gtr_i, geq_i, eql_i, neq_i, min_i, max_i, conv_i, len_sl, len_nil, not_b, cells_agg, new_s, fld_p, nil_p]

/-- One place more: the words, how many are new. -/
def put1 (n : Nat) (st : List Nat × Int) (i : Int) : List Nat × Int := if 0 ≤ i ∧ i < n ∧ bitW st.1 i.toNat = false then (orB st.1 i.toNat, st.2 + 1) else st
theorem put1_len (n : Nat) (st : List Nat × Int) (i : Int) : (put1 n st i).1.length = st.1.length := by unfold put1; split <;> simp [orB_len]
theorem put1_cnt (n : Nat) (st : List Nat × Int) (i : Int) : st.2 ≤ (put1 n st i).2 ∧ (put1 n st i).2 ≤ st.2 + 1 := by 
  by_cases q : (0 ≤ i ∧ i < n ∧ bitW st.1 i.toNat = false)
  · simp only [put1, if_pos q]; omega
  · simp only [put1, if_neg q]; omega

theorem bits_put_loop (k : Nat) {lv : AV} {l : List Int} (hl : l.length ≤ 1000000) (hoff : ∀ i b c d f, lv = .sl i b c d f → i ≠ wid) : ∀ (m i : Nat) (s : Store) (W : List Nat) (c : Int), IsSet s id wid W n → IsV s lv .i64 l → 0 ≤ c → c ≤ i → i ≤ l.length → l.length - i < m →
    ∃ s', bits_Set_Put.l0 (k + 2) m (.ptr id 0 2) (.int .i64 c) lv (.int .i64 l.length) (.int .i64 i) s = some (.int .i64 ((l.drop i).foldl (put1 n) (W, c)).2, s') ∧ IsSet s' id wid ((l.drop i).foldl (put1 n) (W, c)).1 n ∧ Fr1 wid s s' ∧ s'.next = s.next
  | 0, i, _, _, _, _, _, _, _, hi, hm => by omega
  | m + 1, i, s, W, c, h, hv, hc0, hci, hi, hm => by
    have hs : bits_Set_Put.l0 (k + 2) (m + 1) = fun x0 x5 x8 x9 x10 s => bits_Set_Put.p9 (k + 2) (bits_Set_Put.l0 (k + 2) m) x0 x5 x8 x9 x10 s := rfl
    rw [hs]
    clear hs
    simp only
    unfold bits_Set_Put.p9 bits_Set_Put.p8
    rw [lss_i]
    by_cases hil : i < l.length
    · rw [decide_eq_true (by omega), if_t]
      unfold bits_Set_Put.p7 bits_Set_Put.p6 bits_Set_Put.p5
      have hw1 : IntKind.i64.wrap ((i : Int) + 1) = ((i + 1 : Nat) : Int) := by rw [w_i64 (by omega) (by omega)]; omega
      obtain ⟨p, p1, p2⟩ := atV hv (show (0 : Int) ≤ i by omega) (by omega)
      have eg : l.getD (i : Int).toNat 0 = l[i] := by simp [hil]
      rw [p1, p2, eg, bits_there h, bnd, List.drop_eq_getElem_cons hil, List.foldl_cons]
      have skip : put1 n (W, c) l[i] = (W, c) → ∃ s', bits_Set_Put.p1 (k + 2) (bits_Set_Put.l0 (k + 2) m) (.ptr id 0 2) (.int .i64 c) lv (.int .i64 l.length) (.int .i64 i) s = some (.int .i64 ((l.drop (i + 1)).foldl (put1 n) (put1 n (W, c) l[i])).2, s') ∧ IsSet s' id wid ((l.drop (i + 1)).foldl (put1 n) (put1 n (W, c) l[i])).1 n ∧ Fr1 wid s s' ∧ s'.next = s.next := by
        intro e
        unfold bits_Set_Put.p1
        rw [add_i, hw1, e]
        exact bits_put_loop k hl hoff m (i + 1) s W c h hv hc0 (by omega) (by omega) (by omega)
      by_cases hc : 0 ≤ l[i] ∧ l[i] < n
      · have hhas := bits_has h l[i] k
        simp only [decide_eq_true hc.1, decide_eq_true hc.2, Bool.true_and, bnd, guard_tt, guard_ff, guard_tf, guard_ft, pick_t, pick_f, if_t, if_f, add_i, sub_i, lss_i, leq_i, gtr_i, geq_i, eql_i, neq_i, min_i, max_i, conv_i, len_sl, len_nil, not_b, cells_agg, new_s, fld_p, nil_p, hhas]
        by_cases hb : bitW W l[i].toNat = true
        · simp only [hb, Bool.not_true, bnd, guard_tt, guard_ff, guard_tf, guard_ft, pick_t, pick_f, if_t, if_f, add_i, sub_i, lss_i, leq_i, gtr_i, geq_i, eql_i, neq_i, min_i, max_i, conv_i, len_sl, len_nil, not_b, cells_agg, new_s, fld_p, nil_p]
          unfold bits_Set_Put.p4
          exact skip (by unfold put1; rw [if_neg (fun q => by have := q.2.2; simp only at this; rw [hb] at this; cases this)])
        · have hb' : bitW W l[i].toNat = false := by simpa using hb
          simp only [hb', Bool.not_false, bnd, guard_tt, guard_ff, guard_tf, guard_ft, pick_t, pick_f, if_t, if_f, add_i, sub_i, lss_i, leq_i, gtr_i, geq_i, eql_i, neq_i, min_i, max_i, conv_i, len_sl, len_nil, not_b, cells_agg, new_s, fld_p, nil_p]
          unfold bits_Set_Put.p3 bits_Set_Put.p2 bits_Set_Put.p1
          obtain ⟨ii, hii⟩ : ∃ ii : Nat, l[i] = ii := ⟨l[i].toNat, by omega⟩
          rw [hii] at hc hb' ⊢
          rw [Int.toNat_natCast] at hb'
          have hin : ii < n := by omega
          have htop := h.top
          obtain ⟨w1, w2, w3⟩ := h.word hin
          have e1 : IntKind.i64.wrap ((ii : Int) / 64) = ((ii / 64 : Nat) : Int) := by rw [w_i64 (by omega) (by omega)]; omega
          have e2 : (ii : Int) % 64 = ((ii % 64 : Nat) : Int) := by omega
          have hw := getD_lt h.lt (ii / 64)
          have hst : ∀ {α : Type} (f : Store → Option α), aStore 1 (.ptr wid (0 + ii / 64) W.length) (.int .u64 ((W.getD (ii / 64) 0 ||| 2 ^ (ii % 64) : Nat) : Int)) s f = f (s.set wid (.cells ((ci (orB W ii)).map (.int .u64)) false)) := by
            intro α f
            have := storeV (i := ii / 64) (n := ((W.getD (ii / 64) 0 ||| 2 ^ (ii % 64) : Nat) : Int)) h.row (by rw [ci_len]; exact w3) f
            rw [ci_len, ci_set] at this
            rw [Nat.zero_add]; exact this
          have hwc : IntKind.i64.wrap (c + 1) = c + 1 := w_i64 (by omega) (by omega)
          simp only [bnd, guard_tt, guard_ff, guard_tf, guard_ft, pick_t, pick_f, if_t, if_f, add_i, sub_i, lss_i, leq_i, gtr_i, geq_i, eql_i, neq_i, min_i, max_i, conv_i, len_sl, len_nil, not_b, cells_agg, new_s, fld_p, nil_p, h.f0, quo_i (show (0 : Int) ≤ ii by omega) (show (64 : Int) ≠ 0 by omega), e1, w1, w2, rem_i (show (0 : Int) ≤ ii by omega) (show (64 : Int) ≠ 0 by omega), e2, shl_1 (show ii % 64 < 64 by omega), or_u hw (two_lt (show ii % 64 < 64 by omega)), hst, hwc, hw1]
          have hp : put1 n (W, c) (ii : Int) = (orB W ii, c + 1) := by unfold put1; simp only [Int.toNat_natCast]; rw [if_pos ⟨hc.1, hc.2, hb'⟩]
          rw [hp]
          have f1 := Fr1.set wid s (.cells ((ci (orB W ii)).map (.int .u64)) false)
          have h1 : IsSet (s.set wid (.cells ((ci (orB W ii)).map (.int .u64)) false)) id wid (orB W ii) n :=
            ⟨by rw [get_set, if_neg h.ne.symm, h.st, orB_len], by rw [get_set, if_pos rfl], h.id_lt, h.wid_lt, h.ne, by rw [orB_len]; exact h.len, orB_lt h.lt ii, h.top⟩
          obtain ⟨s', k1, k2, k3, k4⟩ := bits_put_loop k hl hoff m (i + 1) _ (orB W ii) (c + 1) h1 (hv.fr1 f1 hoff) (by omega) (by omega) (by omega) (by omega)
          exact ⟨s', k1, k2, f1.trans k3, k4⟩
      · have hf : (decide (0 ≤ l[i]) && decide (l[i] < (n : Int))) = false := by
          rw [Bool.and_eq_false_iff]
          by_cases q : 0 ≤ l[i]
          · exact .inr (decide_eq_false fun z => hc ⟨q, z⟩)
          · exact .inl (decide_eq_false q)
        simp only [hf, bnd, guard_tt, guard_ff, guard_tf, guard_ft, pick_t, pick_f, if_t, if_f, add_i, sub_i, lss_i, leq_i, gtr_i, geq_i, eql_i, neq_i, min_i, max_i, conv_i, len_sl, len_nil, not_b, cells_agg, new_s, fld_p, nil_p]
        unfold bits_Set_Put.p4
        exact skip (by unfold put1; rw [if_neg (fun q => hc ⟨q.1, q.2.1⟩)])
    · rw [decide_eq_false (by omega), if_f, List.drop_eq_nil_of_le (by omega)]
      unfold bits_Set_Put.p0
      exact ⟨s, rfl, h, Fr1.refl _ _, rfl⟩
theorem bits_put {lv : AV} {l : List Int} (h : IsSet s id wid W n) (hv : IsV s lv .i64 l) (hl : l.length ≤ 1000000) (hoff : ∀ i b c d f, lv = .sl i b c d f → i ≠ wid) (k : Nat) (hk : l.length < k) :
    ∃ s', rn (k + 3) 35 [.ptr id 0 2, lv] s = some (.int .i64 (l.foldl (put1 n) (W, 0)).2, s') ∧ IsSet s' id wid (l.foldl (put1 n) (W, 0)).1 n ∧ Fr1 wid s s' ∧ s'.next = s.next := by
  rw [bits_Set_Put.eq]
  unfold bits_Set_Put.f bits_Set_Put.p12 bits_Set_Put.p11 bits_Set_Put.p10
  rw [lenV hv]
  have := bits_put_loop k hl hoff (k + 2) 0 s W 0 h hv (by omega) (by omega) (by omega) (by omega)
  rw [Int.natCast_zero, List.drop_zero] at this
  exact this

theorem bits_new (x : Int) (hx : -9223372036854775808 ≤ x ∧ x < 9223372036854775808) (k : Nat) (s : Store) : ∃ s', rn (k + 1) 50 [.int .i64 x] s = some (.ptr (s.next + 1) 0 2, s') ∧ IsSet s' (s.next + 1) s.next (List.replicate (((max 0 (min x 1048576)).toNat + 63) / 64) 0) (max 0 (min x 1048576)).toNat ∧ Ext s s' ∧ s'.next = s.next + 2 := by
  rw [bits_New.eq]
  unfold bits_New.f bits_New.p0
  rw [min_i, max_i]
  obtain ⟨n, hn⟩ : ∃ n : Nat, max 0 (min x 1048576) = n := ⟨(max 0 (min x 1048576)).toNat, by omega⟩
  have hn2 : n ≤ 1048576 := by omega
  rw [hn, Int.toNat_natCast]
  rw [add_i, w_i64 (by omega) (by omega), sub_i, w_i64 (by omega) (by omega), quo_i (by omega) (by omega), w_i64 (by omega) (by omega)]
  have e : ((n : Int) + 64 - 1) / 64 = (((n + 63) / 64 : Nat) : Int) := by omega
  rw [e]
  generalize hL : (n + 63) / 64 = L at *
  have mk : ∀ f : AV → Store → Option (AV × Store), aMakeSlice [AV.int .u64 0] 1 8 (.int .i64 (L : Int)) (.int .i64 (L : Int)) s f = f (.sl s.next 0 L 1 L) (s.push (.cells ((ci (List.replicate L 0)).map (.int .u64)) false)) := by
    intro f
    simp only [aMakeSlice]
    rw [if_pos (by omega), Int.toNat_natCast, Nat.mul_one]
    congr 2
    simp [ci]
  rw [mk]
  have hb : ∀ f : List AV → Option (AV × Store), aBuild [(0, 1, .sl s.next 0 L 1 L), (1, 1, .int .i64 (n : Int))] [AV.nilsl, AV.int .i64 0] f = f [.sl s.next 0 L 1 L, .int .i64 (n : Int)] := fun f => by simp [aBuild, aCells, putAll]
  rw [hb, cells_agg, new_s]
  refine ⟨_, rfl, ⟨?_, ?_, by simp only [next_push]; omega, by simp only [next_push]; omega, by omega, by simp only [List.length_replicate]; omega, fun w hw => by rw [(List.mem_replicate.1 hw).2]; omega, hn2⟩, (Ext.push _ _).trans (Ext.push _ _), rfl⟩
  · rw [get_push, next_push, if_pos rfl, List.length_replicate]
  · rw [get_push, next_push, if_neg (by omega), get_push, if_pos rfl]
end
end Go.Proofs.YtmkdpenpfkmfpaaDoor.Sim
namespace Go.Proofs.YtmkdpenpfkmfpaaDoor.Sim
set_option linter.unusedSimpArgs false
set_option linter.unusedVariables false

/-! ### a byte of a number, apart -/
theorem land_split (q r M m : Nat) (hr : r < 256) (hm : m < 256) : (256 * q + r) &&& (256 * M + m) = 256 * (q &&& M) + (r &&& m) := by
  have hrm : r &&& m < 2 ^ 8 := Nat.and_lt_two_pow r (by omega)
  apply Nat.eq_of_testBit_eq
  intro i
  have h := fun (a b : Nat) (h : b < 2 ^ 8) => Nat.testBit_two_pow_mul_add a h i
  rw [Nat.testBit_and, show (256 : Nat) = 2 ^ 8 from rfl, h q r hr, h M m hm, h (q &&& M) _ hrm]
  by_cases hi : i < 8
  · simp [hi]
  · simp [hi]
def m0 : Nat → Nat
  | 0 => 0
  | n + 1 => 256 * m0 n + 85
def m1 : Nat → Nat
  | 0 => 0
  | n + 1 => 256 * m1 n + 51
def m2 : Nat → Nat
  | 0 => 0
  | n + 1 => 256 * m2 n + 15
def wA (n x : Nat) : Nat := (x / 2 &&& m0 n) + (x &&& m0 n)
def wB (n x : Nat) : Nat := (wA n x / 4 &&& m1 n) + (wA n x &&& m1 n)
def wC (n x : Nat) : Nat := (wB n x / 16 + wB n x) &&& m2 n
def qA (r : Nat) : Nat := (r / 2 &&& 85) + (r &&& 85)
def qB (r : Nat) : Nat := (qA r / 4 &&& 51) + (qA r &&& 51)
theorem qA_lt : ∀ r, r < 256 → qA r < 256 := by decide +kernel
theorem qB_lt : ∀ r, r < 256 → qB r ≤ 68 ∧ qB r % 16 ≤ 4 := by decide +kernel
theorem k0 : ∀ r, r < 256 → r &&& 85 = (r % 128) &&& 85 := by decide +kernel
theorem k1 : ∀ r, r < 256 → r &&& 51 = (r % 64) &&& 51 := by decide +kernel
theorem wA_step (n x : Nat) : wA (n + 1) x = 256 * wA n (x / 256) + qA (x % 256) := by
  have hx : x = 256 * (x / 256) + x % 256 := by omega
  have h2 : x / 2 = 256 * (x / 256 / 2) + (128 * (x / 256 % 2) + x % 256 / 2) := by omega
  have hk := k0 (128 * (x / 256 % 2) + x % 256 / 2) (by omega)
  rw [show (128 * (x / 256 % 2) + x % 256 / 2) % 128 = x % 256 / 2 by omega] at hk
  have em : m0 (n + 1) = 256 * m0 n + 85 := rfl
  unfold wA qA
  rw [em, h2, land_split _ _ _ _ (by omega) (by omega), hk]
  have e : x &&& (256 * m0 n + 85) = 256 * (x / 256 &&& m0 n) + (x % 256 &&& 85) := by
    conv => lhs; rw [hx]
    exact land_split _ _ _ _ (by omega) (by omega)
  rw [e]
  omega
theorem wB_step (n x : Nat) : wB (n + 1) x = 256 * wB n (x / 256) + qB (x % 256) := by
  have hr := qA_lt (x % 256) (by omega)
  have em : m1 (n + 1) = 256 * m1 n + 51 := rfl
  unfold wB qB
  rw [em, wA_step]
  generalize wA n (x / 256) = q, qA (x % 256) = r at *
  have h2 : (256 * q + r) / 4 = 256 * (q / 4) + (64 * (q % 4) + r / 4) := by omega
  have hk := k1 (64 * (q % 4) + r / 4) (by omega)
  rw [show (64 * (q % 4) + r / 4) % 64 = r / 4 by omega] at hk
  rw [h2, land_split _ _ _ _ (by omega) (by omega), hk, land_split _ _ _ _ (by omega) (by omega)]
  omega
theorem wB_low (n x : Nat) : wB n x % 16 ≤ 4 := by
  cases n with
  | zero => simp [wB, m1]
  | succ n =>
    have := (qB_lt (x % 256) (by omega)).2
    rw [wB_step]; omega
theorem wC_step (n x : Nat) : wC (n + 1) x = 256 * wC n (x / 256) + (qB (x % 256) / 16 + qB (x % 256)) % 16 := by
  have hr := qB_lt (x % 256) (by omega)
  have hq := wB_low n (x / 256)
  have em : m2 (n + 1) = 256 * m2 n + 15 := rfl
  unfold wC
  rw [em, wB_step]
  generalize wB n (x / 256) = q, qB (x % 256) = r at *
  have h2 : (256 * q + r) / 16 + (256 * q + r) = 256 * (q / 16 + q) + (16 * (q % 16) + r / 16 + r) := by omega
  have hk := Nat.and_two_pow_sub_one_eq_mod (16 * (q % 16) + r / 16 + r) 4
  rw [show 2 ^ 4 - 1 = 15 from rfl] at hk
  rw [h2, land_split _ _ _ _ (by omega) (by omega), hk]
  omega

/-- How many of its first bits a number has. -/
def cnt (n x : Nat) : Nat := (List.range n).countP fun i => x.testBit i
theorem cnt_add (n x : Nat) : cnt (8 + n) x = cnt 8 (x % 256) + cnt n (x / 256) := by
  unfold cnt
  rw [List.range_add, List.countP_append, List.countP_map]
  congr 1
  · apply List.countP_congr
    intro i hi
    rw [show (256 : Nat) = 2 ^ 8 from rfl, Nat.testBit_mod_two_pow]
    simp [List.mem_range.1 hi]
  · apply List.countP_congr
    intro i hi
    rw [show (256 : Nat) = 2 ^ 8 from rfl, Nat.testBit_div_two_pow]
    simp [Nat.add_comm]
theorem cnt_8 : ∀ r, r < 256 → cnt 8 r = (qB r / 16 + qB r) % 16 := by decide +kernel
theorem cnt_8_le (r : Nat) : cnt 8 r ≤ 8 := by
  unfold cnt
  have := List.countP_le_length (p := fun i => r.testBit i) (l := List.range 8)
  simpa using this
theorem wC_eq (n x : Nat) : wC (n + 1) x = 256 * wC n (x / 256) + cnt 8 (x % 256) := by rw [wC_step, cnt_8 _ (by omega)]

theorem dig {q r D : Nat} (h : r < D) : (D * q + r) / D = q := by
  rw [Nat.mul_add_div (by omega), Nat.div_eq_of_lt h, Nat.add_zero]
theorem f1 {p0 p1 p2 p3 : Nat} (h0 : p0 ≤ 8) (h1 : p1 ≤ 8) (h2 : p2 ≤ 8) (h3 : p3 ≤ 8) : 256 * (p1 + p2) + (p0 + p1) < 65536 := by omega
theorem f2 {p0 p1 p2 p3 p4 p5 p6 : Nat} (h0 : p0 ≤ 8) (h1 : p1 ≤ 8) (h2 : p2 ≤ 8) (h3 : p3 ≤ 8) (h4 : p4 ≤ 8) (h5 : p5 ≤ 8) (h6 : p6 ≤ 8) : 16777216 * (p3 + p4 + p5 + p6) + 65536 * (p2 + p3 + p4 + p5) + 256 * (p1 + p2 + p3 + p4) + (p0 + p1 + p2 + p3) < 4294967296 := by omega
theorem f3 {p0 p1 p2 p3 p4 p5 p6 p7 : Nat} (h0 : p0 ≤ 8) (h1 : p1 ≤ 8) (h2 : p2 ≤ 8) (h3 : p3 ≤ 8) (h4 : p4 ≤ 8) (h5 : p5 ≤ 8) (h6 : p6 ≤ 8) (h7 : p7 ≤ 8) : p0 + p1 + p2 + p3 + p4 + p5 + p6 + p7 < 128 := by omega
theorem fold_sum (p0 p1 p2 p3 p4 p5 p6 p7 : Nat) (h0 : p0 ≤ 8) (h1 : p1 ≤ 8) (h2 : p2 ≤ 8) (h3 : p3 ≤ 8) (h4 : p4 ≤ 8) (h5 : p5 ≤ 8) (h6 : p6 ≤ 8) (h7 : p7 ≤ 8) (c d e f : Nat)
    (hc : c = 256 * (256 * (256 * (256 * (256 * (256 * (256 * p7 + p6) + p5) + p4) + p3) + p2) + p1) + p0) (hd : d = c + c / 256) (he : e = d + d / 65536) (hf : f = e + e / 4294967296) :
    f % 128 = p0 + p1 + p2 + p3 + p4 + p5 + p6 + p7 ∧ f < 2305843009213693952 := by
  have d1 : c / 256 = 256 * (256 * (256 * (256 * (256 * (256 * p7 + p6) + p5) + p4) + p3) + p2) + p1 := by rw [hc]; exact dig (Nat.lt_of_le_of_lt h0 (by decide))
  have hd2 : d = 65536 * (256 * (256 * (256 * (256 * (256 * p7 + (p6 + p7)) + (p5 + p6)) + (p4 + p5)) + (p3 + p4)) + (p2 + p3)) + (256 * (p1 + p2) + (p0 + p1)) := by rw [hd, d1, hc]; clear d1 hc hd he hf h0 h1 h2 h3 h4 h5 h6 h7; omega
  have d2 : d / 65536 = 256 * (256 * (256 * (256 * (256 * p7 + (p6 + p7)) + (p5 + p6)) + (p4 + p5)) + (p3 + p4)) + (p2 + p3) := by rw [hd2]; exact dig (f1 h0 h1 h2 h3)
  have he2 : e = 4294967296 * (256 * (256 * (256 * p7 + (p6 + p7)) + (p5 + p6 + p7)) + (p4 + p5 + p6 + p7)) + (16777216 * (p3 + p4 + p5 + p6) + 65536 * (p2 + p3 + p4 + p5) + 256 * (p1 + p2 + p3 + p4) + (p0 + p1 + p2 + p3)) := by rw [he, d2, hd2]; clear d1 hc hd he hf h0 h1 h2 h3 h4 h5 h6 h7 d2 hd2; omega
  have d3 : e / 4294967296 = 256 * (256 * (256 * p7 + (p6 + p7)) + (p5 + p6 + p7)) + (p4 + p5 + p6 + p7) := by rw [he2]; exact dig (f2 h0 h1 h2 h3 h4 h5 h6)
  have hf2 : f = 128 * (33554432 * (256 * (256 * (256 * p7 + (p6 + p7)) + (p5 + p6 + p7)) + (p4 + p5 + p6 + p7)) + 131072 * (p3 + p4 + p5 + p6 + p7) + 512 * (p2 + p3 + p4 + p5 + p6 + p7) + 2 * (p1 + p2 + p3 + p4 + p5 + p6 + p7)) + (p0 + p1 + p2 + p3 + p4 + p5 + p6 + p7) := by rw [hf, d3, he2]; clear d1 hc hd he hf h0 h1 h2 h3 h4 h5 h6 h7 d2 hd2 d3 he2; omega
  rw [hf2]
  clear d1 hc hd he hf d2 hd2 d3 he2 hf2
  refine ⟨?_, ?_⟩
  · rw [Nat.mul_add_mod, Nat.mod_eq_of_lt (f3 h0 h1 h2 h3 h4 h5 h6 h7)]
  · omega

/-- The chain of the library's OnesCount64. -/
def ones (x : Nat) : Nat :=
  let c := wC 8 x
  let d := c + c / 256
  let e := d + d / 65536
  e + e / 4294967296
theorem ones_eq (x : Nat) (hx : x < 18446744073709551616) : ones x % 128 = cnt 64 x ∧ ones x < 2305843009213693952 := by
  have h := fold_sum _ _ _ _ _ _ _ _ (cnt_8_le (x % 256)) (cnt_8_le (x / 256 % 256)) (cnt_8_le (x / 256 / 256 % 256)) (cnt_8_le (x / 256 / 256 / 256 % 256)) (cnt_8_le (x / 256 / 256 / 256 / 256 % 256)) (cnt_8_le (x / 256 / 256 / 256 / 256 / 256 % 256)) (cnt_8_le (x / 256 / 256 / 256 / 256 / 256 / 256 % 256)) (cnt_8_le (x / 256 / 256 / 256 / 256 / 256 / 256 / 256 % 256)) (wC 8 x) _ _ _ (by
      rw [wC_eq, wC_eq, wC_eq, wC_eq, wC_eq, wC_eq, wC_eq, wC_eq]
      simp [wC, m2]) rfl rfl rfl
  refine ⟨?_, h.2⟩
  refine h.1.trans ?_
  rw [show (64 : Nat) = 8 + (8 + (8 + (8 + (8 + (8 + (8 + (8 + 0))))))) from rfl]
  rw [cnt_add, cnt_add, cnt_add, cnt_add, cnt_add, cnt_add, cnt_add, cnt_add]
  simp only [cnt, List.range_zero, List.countP_nil]
  omega

/-! ### its run -/
theorem and_u {a b : Nat} (ha : a < 18446744073709551616) (hb : b < 18446744073709551616) {α : Type} (f : AV → Option α) : aBin .and (.int .u64 (a : Int)) (.int .u64 (b : Int)) f = f (.int .u64 ((a &&& b : Nat) : Int)) := by
  have e1 : (BitVec.ofInt 64 (a : Int)).toNat = a := by rw [BitVec.ofInt_natCast, BitVec.toNat_ofNat]; exact Nat.mod_eq_of_lt (by omega)
  have e2 : (BitVec.ofInt 64 (b : Int)).toNat = b := by rw [BitVec.ofInt_natCast, BitVec.toNat_ofNat]; exact Nat.mod_eq_of_lt (by omega)
  have : a &&& b ≤ a := Nat.and_le_left
  simp only [aBin, intBin, if_true]
  rw [show IntKind.u64.bits = 64 from rfl, BitVec.toNat_and, e1, e2, w_u64 (by omega) (by omega)]
theorem and_127 {a : Nat} (ha : a < 2305843009213693952) {α : Type} (f : AV → Option α) : aBin .and (.int .i64 (a : Int)) (.int .i64 127) f = f (.int .i64 ((a % 128 : Nat) : Int)) := by
  have e1 : (BitVec.ofInt 64 (a : Int)).toNat = a := by rw [BitVec.ofInt_natCast, BitVec.toNat_ofNat]; exact Nat.mod_eq_of_lt (by omega)
  have e2 : (BitVec.ofInt 64 (127 : Int)).toNat = 127 := rfl
  have := Nat.and_two_pow_sub_one_eq_mod a 7
  rw [show 2 ^ 7 - 1 = 127 from rfl] at this
  simp only [aBin, intBin, if_true]
  rw [show IntKind.i64.bits = 64 from rfl, BitVec.toNat_and, e1, e2, this, w_i64 (by omega) (by omega)]
theorem shr_u {x r : Nat} (hr : r < 64) {α : Type} (f : AV → Option α) : aShift .shr (.int .u64 (x : Int)) (.int .u64 (r : Int)) f = f (.int .u64 ((x / 2 ^ r : Nat) : Int)) := by
  have h : min (r : Int).toNat IntKind.u64.bits = r := by simp [IntKind.bits]; omega
  simp only [aShift, if_neg (show ¬ (r : Int) < 0 by omega), h]
  rw [Int.fdiv_eq_ediv_of_nonneg _ (Int.pow_nonneg (by omega)), Int.natCast_ediv, Int.natCast_pow]
  rfl
theorem add_u {a b : Nat} (h : a + b < 18446744073709551616) {α : Type} (f : AV → Option α) : aBin .add (.int .u64 (a : Int)) (.int .u64 (b : Int)) f = f (.int .u64 ((a + b : Nat) : Int)) := by
  rw [add_i, w_u64 (by omega) (by omega), Int.natCast_add]
theorem m_eqs : m0 8 = 6148914691236517205 ∧ m1 8 = 3689348814741910323 ∧ m2 8 = 1085102592571150095 := ⟨rfl, rfl, rfl⟩
theorem ones_run (x : Nat) (hx : x < 18446744073709551616) (k : Nat) (s : Store) : rn (k + 1) 56 [.int .u64 (x : Int)] s = some (.int .i64 (cnt 64 x : Int), s) := by
  rw [bits_OnesCount64.eq]
  unfold bits_OnesCount64.f bits_OnesCount64.p0
  obtain ⟨ho1, ho2⟩ := ones_eq x hx
  obtain ⟨em0, em1, em2⟩ := m_eqs
  have l0 : ∀ y, (y &&& 6148914691236517205) ≤ 6148914691236517205 := fun y => Nat.and_le_right
  have l1 : ∀ y, (y &&& 3689348814741910323) ≤ 3689348814741910323 := fun y => Nat.and_le_right
  have l2 : ∀ y, (y &&& 1085102592571150095) ≤ 1085102592571150095 := fun y => Nat.and_le_right
  have a1 := l0 (x / 2); have a2 := l0 x
  have ea : (x / 2 &&& 6148914691236517205) + (x &&& 6148914691236517205) = wA 8 x := by unfold wA; rw [em0]
  have ha : wA 8 x < 18446744073709551616 := by omega
  have b1 := l1 (wA 8 x / 4); have b2 := l1 (wA 8 x)
  have eb : (wA 8 x / 4 &&& 3689348814741910323) + (wA 8 x &&& 3689348814741910323) = wB 8 x := by unfold wB; rw [em1]
  have hb : wB 8 x < 8000000000000000000 := by omega
  have ec : (wB 8 x / 16 + wB 8 x &&& 1085102592571150095) = wC 8 x := by unfold wC; rw [em2]
  have hc := l2 (wB 8 x / 16 + wB 8 x)
  rw [ec] at hc
  have st : ∀ {α : Type} (f : AV → Option α), aShift .shr (.int .u64 (x : Int)) (.int .u64 1) f = f (.int .u64 ((x / 2 : Nat) : Int)) := fun f => shr_u (r := 1) (by omega) f
  rw [st, show (6148914691236517205 : Int) = ((6148914691236517205 : Nat) : Int) from rfl, and_u (by omega) (by omega), and_u hx (by omega), add_u (by omega), ea]
  have st2 : ∀ (y : Nat) {α : Type} (f : AV → Option α), aShift .shr (.int .u64 (y : Int)) (.int .u64 2) f = f (.int .u64 ((y / 4 : Nat) : Int)) := fun y _ f => shr_u (r := 2) (by omega) f
  have st4 : ∀ (y : Nat) {α : Type} (f : AV → Option α), aShift .shr (.int .u64 (y : Int)) (.int .u64 4) f = f (.int .u64 ((y / 16 : Nat) : Int)) := fun y _ f => shr_u (r := 4) (by omega) f
  have st8 : ∀ (y : Nat) {α : Type} (f : AV → Option α), aShift .shr (.int .u64 (y : Int)) (.int .u64 8) f = f (.int .u64 ((y / 256 : Nat) : Int)) := fun y _ f => shr_u (r := 8) (by omega) f
  have st16 : ∀ (y : Nat) {α : Type} (f : AV → Option α), aShift .shr (.int .u64 (y : Int)) (.int .u64 16) f = f (.int .u64 ((y / 65536 : Nat) : Int)) := fun y _ f => shr_u (r := 16) (by omega) f
  have st32 : ∀ (y : Nat) {α : Type} (f : AV → Option α), aShift .shr (.int .u64 (y : Int)) (.int .u64 32) f = f (.int .u64 ((y / 4294967296 : Nat) : Int)) := fun y _ f => shr_u (r := 32) (by omega) f
  rw [st2, show (3689348814741910323 : Int) = ((3689348814741910323 : Nat) : Int) from rfl, and_u (by omega) (by omega), and_u ha (by omega), add_u (by omega), eb]
  rw [st4, add_u (by omega), show (1085102592571150095 : Int) = ((1085102592571150095 : Nat) : Int) from rfl, and_u (by omega) (by omega), ec]
  have hd : wC 8 x + wC 8 x / 256 < 2000000000000000000 := by omega
  rw [st8, add_u (by omega), st16, add_u (by omega), st32, add_u (by omega), conv_i]
  have eo : wC 8 x + wC 8 x / 256 + (wC 8 x + wC 8 x / 256) / 65536 + (wC 8 x + wC 8 x / 256 + (wC 8 x + wC 8 x / 256) / 65536) / 4294967296 = ones x := rfl
  rw [eo, w_i64 (by omega) (by omega), and_127 ho2, ho1]

/-! ### the lowest bit -/
open Go.Lib (ctz lowest_bit deBruijn64_at)
theorem tab_get (i : Nat) : (tab.map (AV.int .u8))[i]? = (tab[i]?).map (AV.int .u8) := List.getElem?_map ..
theorem tab_at (k : Nat) (hk : k < 64) : 2 ^ k * 285870213051353865 % 18446744073709551616 / 288230376151711744 < 64 ∧ tab[2 ^ k * 285870213051353865 % 18446744073709551616 / 288230376151711744]? = some (k : Int) := by
  have h : ∀ k : Nat, k < 64 → 2 ^ k * 285870213051353865 % 18446744073709551616 / 288230376151711744 < 64 ∧ tab[2 ^ k * 285870213051353865 % 18446744073709551616 / 288230376151711744]? = some ((k : Nat) : Int) := by decide +kernel
  exact h k hk
theorem index_arr {l off len es ep : Nat} {k : IntKind} {j : Int} {α : Type} {κ : AV → Option α} (h0 : 0 ≤ j) (h1 : j < len) : aIndexArr len es (.ptr l off ep) (.int k j) κ = κ (.ptr l (off + j.toNat * es) ep) := by simp [aIndexArr, h0, h1]
/-- The store holds the table. -/
def HasTab (s : Store) : Prop := s.get 0 = .cells (tab.map (.int .u8)) true ∧ 0 < s.next
theorem HasTab.ext {s s' : Store} (h : HasTab s) (e : Ext s s') : HasTab s' := ⟨(e.get 0 h.2).trans h.1, Nat.lt_of_lt_of_le h.2 e.next⟩
theorem ctz_run {s : Store} (h : HasTab s) (x : Nat) (h0 : x ≠ 0) (hx : x < 18446744073709551616) (k : Nat) : rn (k + 1) 54 [.int .u64 (x : Int)] s = some (.int .i64 (ctz 64 x : Int), s) := by
  rw [bits_TrailingZeros64.eq]
  unfold bits_TrailingZeros64.f bits_TrailingZeros64.p0
  obtain ⟨l1, l2⟩ := lowest_bit 64 x h0 hx
  rw [show (2 : Nat) ^ 64 = 18446744073709551616 from rfl] at l1
  obtain ⟨t1, t2⟩ := tab_at (ctz 64 x) l2
  have hp := two_lt l2
  generalize ctz 64 x = t at *
  have hz : ((x : Int) == 0) = false := beq_eq_false_iff_ne.2 (by omega)
  have hn : ∀ {α : Type} (f : AV → Option α), aUn .neg (.int .u64 (x : Int)) f = f (.int .u64 ((18446744073709551616 - x : Nat) : Int)) := by
    intro α f
    simp only [aUn]
    congr 2
    simp [IntKind.wrap, IntKind.bits, IntKind.signed]; omega
  have hm : ∀ {α : Type} (f : AV → Option α), aBin .mul (.int .u64 ((2 ^ t : Nat) : Int)) (.int .u64 285870213051353865) f = f (.int .u64 ((2 ^ t * 285870213051353865 % 18446744073709551616 : Nat) : Int)) := by
    intro α f
    generalize 2 ^ t = y
    have e : IntKind.u64.wrap ((y : Int) * 285870213051353865) = ((y * 285870213051353865 % 18446744073709551616 : Nat) : Int) := by
      simp [IntKind.wrap, IntKind.bits, IntKind.signed]
    simp only [aBin, intBin, if_true, e]
  have hs : ∀ (y : Nat) {α : Type} (f : AV → Option α), aShift .shr (.int .u64 (y : Int)) (.int .u64 58) f = f (.int .u64 ((y / 288230376151711744 : Nat) : Int)) := fun y _ f => shr_u (r := 58) (by omega) f
  rw [eql_i, hz, if_f, hn, and_u hx (by omega), l1, hm, hs]
  generalize 2 ^ t * 285870213051353865 % 18446744073709551616 / 288230376151711744 = j at *
  rw [index_arr (by omega) (by omega), Int.toNat_natCast, Nat.mul_one, Nat.zero_add, load_1 (ep := 64) h.1 rfl (v := .int .u8 t) (by rw [tab_get, t2]; rfl), conv_i, w_i64 (by omega) (by omega)]
end Go.Proofs.YtmkdpenpfkmfpaaDoor.Sim
namespace Go.Proofs.YtmkdpenpfkmfpaaDoor.Sim
set_option linter.unusedSimpArgs false
set_option linter.unusedVariables false
open Go.Lib (ctz lowest_bit ctzFrom_spec)

/-- How many places are in. -/
def cntW (W : List Nat) : Nat := (List.range (64 * W.length)).countP (bitW W)
theorem cntW_le (W : List Nat) (m : Nat) : (List.range m).countP (bitW W) ≤ m := by
  have := List.countP_le_length (p := bitW W) (l := List.range m)
  simpa using this
theorem cnt_word (W : List Nat) (i : Nat) : (List.range (64 * (i + 1))).countP (bitW W) = (List.range (64 * i)).countP (bitW W) + cnt 64 (W.getD i 0) := by
  rw [show 64 * (i + 1) = 64 * i + 64 from rfl, List.range_add, List.countP_append, List.countP_map]
  congr 1
  unfold cnt
  apply List.countP_congr
  intro r hr
  have hr := List.mem_range.1 hr
  simp only [Function.comp, bitW]
  rw [show (64 * i + r) / 64 = i by omega, show (64 * i + r) % 64 = r by omega]

section
variable {s : Store} {id wid n : Nat} {W : List Nat}
theorem IsSet.sl (h : IsSet s id wid W n) : IsV s (.sl wid 0 W.length 1 W.length) .u64 (ci W) :=
  .inr ⟨wid, 0, ci W, false, by rw [ci_len], h.wid_lt, h.row, by omega, by simp⟩

theorem bits_count_loop (h : IsSet s id wid W n) (k : Nat) : ∀ (m i : Nat), i ≤ W.length → W.length - i < m →
    bits_Set_Count.l0 (k + 1) m (.int .i64 (((List.range (64 * i)).countP (bitW W) : Nat) : Int)) (.sl wid 0 W.length 1 W.length) (.int .i64 (W.length : Nat)) (.int .i64 (i : Nat)) s = some (.int .i64 (cntW W : Nat), s)
  | 0, i, hi, hm => by omega
  | m + 1, i, hi, hm => by
    have hs : bits_Set_Count.l0 (k + 1) (m + 1) = fun x3 x11 x12 x13 s => bits_Set_Count.p4 (k + 1) (bits_Set_Count.l0 (k + 1) m) x3 x11 x12 x13 s := rfl
    rw [hs]
    clear hs
    simp only
    unfold bits_Set_Count.p4 bits_Set_Count.p3
    rw [lss_i]
    have hle := cntW_le W (64 * (i + 1))
    have hcw := cnt_word W i
    have hL := h.len
    have htop := h.top
    by_cases hil : i < W.length
    · rw [decide_eq_true (by omega), if_t]
      unfold bits_Set_Count.p2 bits_Set_Count.p1
      obtain ⟨p, p1, p2⟩ := atV h.sl (show (0 : Int) ≤ (i : Int) by omega) (by rw [ci_len]; omega)
      have hw := getD_lt h.lt i
      rw [p1, p2, Int.toNat_natCast, ci_get, ones_run _ hw, bnd, add_i, add_i, w_i64 (by omega) (by omega), w_i64 (by omega) (by omega)]
      have e1 : ((i : Int) + 1) = ((i + 1 : Nat) : Int) := by omega
      have e2 : (((List.range (64 * i)).countP (bitW W) : Nat) : Int) + ((cnt 64 (W.getD i 0) : Nat) : Int) = (((List.range (64 * (i + 1))).countP (bitW W) : Nat) : Int) := by omega
      simp only
      rw [e1, e2]
      exact bits_count_loop h k m (i + 1) (by omega) (by omega)
    · rw [decide_eq_false (by omega), if_f]
      unfold bits_Set_Count.p0
      have : i = W.length := by omega
      subst this
      rfl
theorem bits_size (h : IsSet s id wid W n) (k : Nat) : rn (k + 1) 52 [.ptr id 0 2] s = some (.int .i64 (n : Nat), s) := by
  rw [bits_Set_Size.eq]
  unfold bits_Set_Size.f bits_Set_Size.p0
  simp only [eq_pn, bnd, guard_tt, guard_ff, guard_tf, guard_ft, pick_t, pick_f, if_t, if_f, add_i, sub_i, lss_i, leq_i, gtr_i, geq_i, eql_i, neq_i, min_i, max_i, conv_i, len_sl, len_nil, not_b, cells_agg, new_s, fld_p, nil_p, h.f1]
theorem bits_count (h : IsSet s id wid W n) (k : Nat) (hk : W.length ≤ k) : rn (k + 2) 51 [.ptr id 0 2] s = some (.int .i64 (cntW W : Nat), s) := by
  rw [bits_Set_Count.eq]
  unfold bits_Set_Count.f bits_Set_Count.p10 bits_Set_Count.p9 bits_Set_Count.p8 bits_Set_Count.p7 bits_Set_Count.p5
  simp only [eq_pn, Bool.not_false, bnd, guard_tt, guard_ff, guard_tf, guard_ft, pick_t, pick_f, if_t, if_f, add_i, sub_i, lss_i, leq_i, gtr_i, geq_i, eql_i, neq_i, min_i, max_i, conv_i, len_sl, len_nil, not_b, cells_agg, new_s, fld_p, nil_p, h.f0]
  have := bits_count_loop h k (k + 1) 0 (by omega) (by omega)
  simpa using this
theorem bits_full (h : IsSet s id wid W n) (k : Nat) (hk : W.length ≤ k) : rn (k + 3) 36 [.ptr id 0 2] s = some (.bool ((cntW W : Int) == (n : Int)), s) := by
  rw [bits_Set_Full.eq]
  unfold bits_Set_Full.f bits_Set_Full.p0
  simp only [bits_count h k hk, bits_size h, bnd, guard_tt, guard_ff, guard_tf, guard_ft, pick_t, pick_f, if_t, if_f, add_i, sub_i, lss_i, leq_i, gtr_i, geq_i, eql_i, neq_i, min_i, max_i, conv_i, len_sl, len_nil, not_b, cells_agg, new_s, fld_p, nil_p]

/-! ### what is missing -/
/-- The places from i on that are not in. -/
def restW (W : List Nat) (n i : Nat) : List Nat := (List.range' i (n - i)).filter fun j => !bitW W j
theorem rest_nil {W : List Nat} {n i : Nat} (h : n ≤ i) : restW W n i = [] := by simp [restW, show n - i = 0 by omega]
theorem rest_cons {W : List Nat} {n i : Nat} (h : i < n) : restW W n i = if bitW W i then restW W n (i + 1) else i :: restW W n (i + 1) := by
  unfold restW
  rw [show n - i = (n - (i + 1)) + 1 by omega, List.range'_succ, List.filter_cons]
  cases bitW W i <;> simp
theorem rest_skip {W : List Nat} {n : Nat} : ∀ (m i : Nat), (∀ j, j < m → bitW W (i + j) = true) → restW W n i = restW W n (i + m)
  | 0, i, _ => rfl
  | m + 1, i, h => by
    have e : restW W n i = restW W n (i + 1) := by
      by_cases hi : i < n
      · rw [rest_cons hi, if_pos (show bitW W i = true from h 0 (by omega))]
      · rw [rest_nil (by omega), rest_nil (by omega)]
    rw [e, rest_skip m (i + 1) fun j hj => by rw [show i + 1 + j = i + (j + 1) by omega]; exact h (j + 1) (by omega)]
    congr 1; omega
theorem rest_len (W : List Nat) (n i : Nat) : (restW W n i).length ≤ n := by
  have := List.length_filter_le (fun j => !bitW W j) (List.range' i (n - i))
  unfold restW
  simp only [List.length_range'] at this
  omega

/-- The word's turned bits from a place on. -/
def turnW (w r : Nat) : Nat := (18446744073709551615 - w) / 2 ^ r
theorem turn_bit {w : Nat} (hw : w < 18446744073709551616) (r j : Nat) : (turnW w r).testBit j = (decide (r + j < 64) && !w.testBit (r + j)) := by
  have := Nat.testBit_two_pow_sub_succ (show w < 2 ^ 64 from hw) (r + j)
  rw [show 2 ^ 64 - (w + 1) = 18446744073709551615 - w by omega] at this
  unfold turnW
  rw [Nat.testBit_div_two_pow, Nat.add_comm j r, this]
theorem turn_lt (w r : Nat) : turnW w r < 18446744073709551616 := by
  have : turnW w r ≤ 18446744073709551615 - w := Nat.div_le_self _ _
  omega
theorem bit_at (W : List Nat) (i j : Nat) (h : i % 64 + j < 64) : bitW W (i + j) = (W.getD (i / 64) 0).testBit (i % 64 + j) := by
  unfold bitW
  rw [show (i + j) / 64 = i / 64 by omega, show (i + j) % 64 = i % 64 + j by omega]
theorem turn_zero {W : List Nat} {i : Nat} (hw : W.getD (i / 64) 0 < 18446744073709551616) (h : turnW (W.getD (i / 64) 0) (i % 64) = 0) : restW W n i = restW W n (i + (64 - i % 64)) := by
  apply rest_skip
  intro j hj
  rw [bit_at W i j (by omega)]
  have := turn_bit hw (i % 64) j
  rw [h, Nat.zero_testBit, decide_eq_true (by omega), Bool.true_and] at this
  simpa using this.symm
theorem turn_some {W : List Nat} {i : Nat} (hw : W.getD (i / 64) 0 < 18446744073709551616) (h : turnW (W.getD (i / 64) 0) (i % 64) ≠ 0) :
    i % 64 + ctz 64 (turnW (W.getD (i / 64) 0) (i % 64)) < 64 ∧ restW W n i = restW W n (i + ctz 64 (turnW (W.getD (i / 64) 0) (i % 64))) ∧ bitW W (i + ctz 64 (turnW (W.getD (i / 64) 0) (i % 64))) = false := by
  have hb := turn_bit hw (i % 64)
  have hlt := turn_lt (W.getD (i / 64) 0) (i % 64)
  generalize turnW (W.getD (i / 64) 0) (i % 64) = y at *
  obtain ⟨m, h1, h2⟩ := ctzFrom_spec 64 y (by omega) hlt
  rw [show ctz 64 y = Go.Lib.ctzFrom 64 y by simp [ctz, h]]
  generalize Go.Lib.ctzFrom 64 y = t at *
  have ht : y.testBit t = true := by
    rw [h1, Nat.testBit_two_pow_mul]; simp
  have hj : ∀ j, j < t → y.testBit j = false := fun j hj => by
    rw [h1, Nat.testBit_two_pow_mul]; simp; omega
  have hbt := hb t
  rw [ht] at hbt
  have hbt := hbt.symm
  simp only [Bool.and_eq_true, decide_eq_true_eq, Bool.not_eq_true'] at hbt
  refine ⟨hbt.1, ?_, by rw [bit_at W i t hbt.1]; exact hbt.2⟩
  apply rest_skip
  intro j hjt
  have := hb j
  rw [hj j hjt, decide_eq_true (by omega), Bool.true_and] at this
  rw [bit_at W i j (by omega)]
  simpa using this.symm

theorem IsSet.lo {s' : Store} {lo : Nat} (h : IsSet s id wid W n) (e : ExtLo lo s s') (h1 : id < lo) (h2 : wid < lo) : IsSet s' id wid W n := h.keep (e.get _ h1) (e.get _ h2) e.next
theorem HasTab.lo {s' : Store} {lo : Nat} (h : HasTab s) (e : ExtLo lo s s') (h0 : 0 < lo) : HasTab s' := ⟨(e.get 0 h0).trans h.1, Nat.lt_of_lt_of_le h.2 e.next⟩
theorem not_u {w : Nat} (hw : w < 18446744073709551616) {α : Type} (f : AV → Option α) : aUn .xor (.int .u64 (w : Int)) f = f (.int .u64 ((18446744073709551615 - w : Nat) : Int)) := by
  have e2 : (BitVec.ofInt 64 (w : Int)).toNat = w := by rw [BitVec.ofInt_natCast, BitVec.toNat_ofNat]; exact Nat.mod_eq_of_lt (by omega)
  have e : (BitVec.ofInt 64 IntKind.u64.max ^^^ BitVec.ofInt 64 (w : Int)).toNat = 18446744073709551615 - w := by
    rw [show BitVec.ofInt 64 IntKind.u64.max = BitVec.allOnes 64 by decide, BitVec.allOnes_xor, BitVec.toNat_not, e2]
  simp only [aUn]
  congr 2
  show IntKind.u64.wrap ((BitVec.ofInt 64 IntKind.u64.max ^^^ BitVec.ofInt 64 (w : Int)).toNat : Int) = _
  rw [e, w_u64 (by omega) (by omega)]
theorem ci_app (a b : List Nat) : ci (a ++ b) = ci a ++ ci b := by simp [ci]

theorem bits_miss_loop (k lo : Nat) (lim : Int) (hid : id < lo) (hwid : wid < lo) : ∀ (m i : Nat) (s : Store) (v : AV) (acc : List Nat), IsSet s id wid W n → HasTab s → OwnV s v .i64 (ci acc) lo → lo ≤ s.next → acc.length ≤ i → n - i < m →
    ∃ v' s', bits_Set_Missing.l0 (k + 1) m (.ptr id 0 2) (.int .i64 lim) v (.int .i64 (i : Nat)) s = some (v', s') ∧ OwnV s' v' .i64 (ci (acc ++ (restW W n i).take (lim - acc.length).toNat)) lo ∧ ExtLo lo s s'
  | 0, i, _, _, _, _, _, _, _, _, hm => by omega
  | m + 1, i, s, v, acc, h, ht, hv, hlo, hai, hm => by
    have hs : bits_Set_Missing.l0 (k + 1) (m + 1) = fun x0 x2 x7 x8 s => bits_Set_Missing.p3 (k + 1) (bits_Set_Missing.l0 (k + 1) m) x0 x2 x7 x8 s := rfl
    rw [hs]
    clear hs
    simp only
    unfold bits_Set_Missing.p3
    have htop := h.top
    have hlen : ∀ {α : Type} (f : AV → Option α), aLen v f = f (.int .i64 acc.length) := fun f => by rw [lenV hv.is, ci_len]
    rw [bits_size h, bnd, lss_i]
    by_cases hi : i < n
    · simp only [decide_eq_true (show (i : Int) < n by omega), bnd, guard_tt, guard_ff, guard_tf, guard_ft, pick_t, pick_f, if_t, if_f, add_i, sub_i, lss_i, leq_i, gtr_i, geq_i, eql_i, neq_i, min_i, max_i, conv_i, len_sl, len_nil, not_b, cells_agg, new_s, fld_p, nil_p, hlen]
      by_cases hl : (acc.length : Int) < lim
      · simp only [decide_eq_true hl, bnd, guard_tt, guard_ff, guard_tf, guard_ft, pick_t, pick_f, if_t, if_f, add_i, sub_i, lss_i, leq_i, gtr_i, geq_i, eql_i, neq_i, min_i, max_i, conv_i, len_sl, len_nil, not_b, cells_agg, new_s, fld_p, nil_p]
        unfold bits_Set_Missing.p2 bits_Set_Missing.p1
        obtain ⟨w1, w2, w3⟩ := h.word hi
        have e1 : IntKind.i64.wrap ((i : Int) / 64) = ((i / 64 : Nat) : Int) := by rw [w_i64 (by omega) (by omega)]; omega
        have e2 : (i : Int) % 64 = ((i % 64 : Nat) : Int) := by omega
        have hw := getD_lt h.lt (i / 64)
        have hq : ∀ {α : Type} (f : AV → Option α), aBin .quo (.int .i64 (i : Int)) (.int .i64 64) f = f (.int .i64 ((i / 64 : Nat) : Int)) := fun f => by rw [quo_i (by omega) (by omega), e1]
        have hr : ∀ {α : Type} (f : AV → Option α), aBin .rem (.int .i64 (i : Int)) (.int .i64 64) f = f (.int .i64 ((i % 64 : Nat) : Int)) := fun f => by rw [rem_i (by omega) (by omega), e2]
        have hsh : ∀ {α : Type} (f : AV → Option α), aShift .shr (.int .u64 ((18446744073709551615 - W.getD (i / 64) 0 : Nat) : Int)) (.int .i64 ((i % 64 : Nat) : Int)) f = f (.int .u64 ((turnW (W.getD (i / 64) 0) (i % 64) : Nat) : Int)) := fun f => shr_b (by omega) f
        rw [nil_p, fld_p, h.f0, hq, w1, w2, not_u hw, hr, hsh, eql_i]
        by_cases hz : turnW (W.getD (i / 64) 0) (i % 64) = 0
        · rw [hz, show (((0 : Nat) : Int) == 0) = true from rfl, if_t, hr, sub_i, w_i64 (by omega) (by omega), add_i, w_i64 (by omega) (by omega), add_i, w_i64 (by omega) (by omega)]
          have e3 : (i : Int) + (63 - ((i % 64 : Nat) : Int)) + 1 = ((i + (64 - i % 64) : Nat) : Int) := by omega
          rw [e3, turn_zero hw hz]
          exact bits_miss_loop k lo lim hid hwid m _ s v acc h ht hv hlo (by omega) (by omega)
        · obtain ⟨t1, t2, t3⟩ := turn_some (n := n) hw hz
          have hc := ctz_run ht _ hz (turn_lt _ _) k
          have hz2 : (((turnW (W.getD (i / 64) 0) (i % 64) : Nat) : Int) == 0) = false := beq_eq_false_iff_ne.2 (by omega)
          generalize ctz 64 (turnW (W.getD (i / 64) 0) (i % 64)) = t at *
          rw [hz2, if_f, hc, bnd, add_i, w_i64 (by omega) (by omega), nil_p, fld_p]
          simp only
          have e3 : (i : Int) + (t : Nat) = ((i + t : Nat) : Int) := by omega
          have e4 : ((i + t : Nat) : Int) + 1 = ((i + t + 1 : Nat) : Int) := by omega
          have hw4 : IntKind.i64.wrap (((i + t : Nat) : Int) + 1) = ((i + t + 1 : Nat) : Int) := by rw [w_i64 (by omega) (by omega), e4]
          rw [h.f1, e3, lss_i, t2]
          by_cases hin : i + t < n
          · rw [decide_eq_true (show ((i + t : Nat) : Int) < n by omega), if_t, build_1]
            obtain ⟨v', s', a1, a2, a3, _⟩ := app1V (bytes := 8) hv hlo ((i + t : Nat) : Int) (by rw [ci_len]; omega) (by omega)
            rw [a1, add_i, hw4]
            have a2' : OwnV s' v' .i64 (ci (acc ++ [i + t])) lo := by rw [ci_app]; exact a2
            obtain ⟨v2, s2, b1, b2, b3⟩ := bits_miss_loop k lo lim hid hwid m (i + t + 1) s' v' (acc ++ [i + t]) (h.lo a3 hid hwid) (ht.lo a3 (by omega)) a2' (Nat.le_trans hlo a3.next) (by simp; omega) (by omega)
            refine ⟨v2, s2, b1, ?_, a3.trans b3⟩
            rw [rest_cons hin, t3, if_neg (by decide), show (lim - (acc.length : Int)).toNat = (lim - ((acc ++ [i + t]).length : Int)).toNat + 1 by simp; omega, List.take_succ_cons]
            rw [List.append_assoc] at b2
            exact b2
          · rw [decide_eq_false (show ¬ ((i + t : Nat) : Int) < n by omega), if_f, add_i, hw4, rest_nil (show n ≤ i + t by omega)]
            obtain ⟨v2, s2, b1, b2, b3⟩ := bits_miss_loop k lo lim hid hwid m (i + t + 1) s v acc h ht hv hlo (by omega) (by omega)
            rw [rest_nil (show n ≤ i + t + 1 by omega)] at b2
            exact ⟨v2, s2, b1, b2, b3⟩
      · simp only [decide_eq_false hl, bnd, guard_tt, guard_ff, guard_tf, guard_ft, pick_t, pick_f, if_t, if_f, add_i, sub_i, lss_i, leq_i, gtr_i, geq_i, eql_i, neq_i, min_i, max_i, conv_i, len_sl, len_nil, not_b, cells_agg, new_s, fld_p, nil_p]
        unfold bits_Set_Missing.p0
        exact ⟨v, s, rfl, by rw [show (lim - (acc.length : Int)).toNat = 0 by omega, List.take_zero, List.append_nil]; exact hv, ExtLo.refl _ _⟩
    · simp only [decide_eq_false (show ¬ (i : Int) < n by omega), guard_ft, bnd, guard_tt, guard_ff, guard_tf, guard_ft, pick_t, pick_f, if_t, if_f, add_i, sub_i, lss_i, leq_i, gtr_i, geq_i, eql_i, neq_i, min_i, max_i, conv_i, len_sl, len_nil, not_b, cells_agg, new_s, fld_p, nil_p]
      unfold bits_Set_Missing.p0
      exact ⟨v, s, rfl, by rw [rest_nil (by omega), List.take_nil, List.append_nil]; exact hv, ExtLo.refl _ _⟩
theorem bits_miss (h : IsSet s id wid W n) (ht : HasTab s) (a lim : Int) (ha : a < 9223372036854775808) (k : Nat) (hk : n ≤ k) : ∃ v' s', rn (k + 2) 41 [.ptr id 0 2, .int .i64 a, .int .i64 lim] s = some (v', s') ∧ OwnV s' v' .i64 (ci ((restW W n (max a 0).toNat).take lim.toNat)) s.next ∧ Ext s s' := by
  rw [bits_Set_Missing.eq]
  unfold bits_Set_Missing.f bits_Set_Missing.p6 bits_Set_Missing.p5 bits_Set_Missing.p4
  rw [max_i]
  obtain ⟨i, hi⟩ : ∃ i : Nat, max a 0 = i := ⟨(max a 0).toNat, by omega⟩
  rw [hi, Int.toNat_natCast]
  obtain ⟨v', s', b1, b2, b3⟩ := bits_miss_loop (W := W) (n := n) k s.next lim h.id_lt h.wid_lt (k + 1) i s .nilsl [] h ht (.inl ⟨rfl, rfl⟩) (Nat.le_refl _) (by simp) (by omega)
  exact ⟨v', s', b1, by simpa using b2, b3.ext (Nat.le_refl _)⟩

/-! ### two rows of places that are the same -/
end
end Go.Proofs.YtmkdpenpfkmfpaaDoor.Sim
namespace Go.Proofs.YtmkdpenpfkmfpaaDoor.Sim
set_option linter.unusedSimpArgs false
set_option linter.unusedVariables false

theorem bitW_orB {W : List Nat} {i : Nat} (h : i / 64 < W.length) (j : Nat) : bitW (orB W i) j = (bitW W j || decide (j = i)) := by
  unfold bitW orB
  by_cases hd : j / 64 = i / 64
  · have e : (W.set (i / 64) (W.getD (i / 64) 0 ||| 2 ^ (i % 64))).getD (j / 64) 0 = W.getD (i / 64) 0 ||| 2 ^ (i % 64) := by
      rw [hd]; simp [List.getD_eq_getElem?_getD, h]
    rw [e, Nat.testBit_or, Nat.testBit_two_pow, hd]
    congr 1
    by_cases q : j = i
    · subst q; simp
    · rw [decide_eq_false q]; exact decide_eq_false (by omega)
  · have e : (W.set (i / 64) (W.getD (i / 64) 0 ||| 2 ^ (i % 64))).getD (j / 64) 0 = W.getD (j / 64) 0 := by
      simp [List.getD_eq_getElem?_getD, List.getElem?_set, show ¬ i / 64 = j / 64 by omega]
    rw [e, decide_eq_false (show ¬ j = i by intro q; subst q; exact hd rfl), Bool.or_false]
theorem put1_bit {W : List Nat} {n : Nat} (hl : W.length = (n + 63) / 64) (c : Int) (i : Int) (j : Nat) : bitW (put1 n (W, c) i).1 j = (bitW W j || (decide (j < n) && decide ((j : Int) = i))) := by
  by_cases h : 0 ≤ i ∧ i < n ∧ bitW W i.toNat = false
  · have e : put1 n (W, c) i = (orB W i.toNat, c + 1) := by unfold put1; exact if_pos h
    rw [e, bitW_orB (by omega)]
    congr 1
    by_cases q : j = i.toNat
    · rw [decide_eq_true q, decide_eq_true (show j < n by omega), decide_eq_true (show (j : Int) = i by omega)]; rfl
    · rw [decide_eq_false q, decide_eq_false (show ¬ (j : Int) = i by omega), Bool.and_false]
  · have e : put1 n (W, c) i = (W, c) := by unfold put1; exact if_neg h
    rw [e]
    by_cases q : j < n ∧ (j : Int) = i
    · have hb : bitW W j = true := by
        have : ¬ bitW W i.toNat = false := fun z => h ⟨by omega, by omega, z⟩
        rw [show i.toNat = j by omega] at this
        simpa using this
      rw [hb, Bool.true_or]
    · have : (decide (j < n) && decide ((j : Int) = i)) = false := by
        rw [Bool.and_eq_false_iff]
        by_cases z : j < n
        · exact .inr (decide_eq_false fun y => q ⟨z, y⟩)
        · exact .inl (decide_eq_false z)
      rw [this, Bool.or_false]
theorem fold_len (n : Nat) : ∀ (l : List Int) (st : List Nat × Int), (l.foldl (put1 n) st).1.length = st.1.length
  | [], _ => rfl
  | x :: l, st => by rw [List.foldl_cons, fold_len n l, put1_len]
theorem fold_bit {n : Nat} (j : Nat) : ∀ (l : List Int) (W : List Nat) (c : Int), W.length = (n + 63) / 64 → bitW (l.foldl (put1 n) (W, c)).1 j = (bitW W j || (decide (j < n) && decide ((j : Int) ∈ l)))
  | [], W, c, _ => by simp
  | x :: l, W, c, h => by
    have hl := put1_len n (W, c) x
    have hb := put1_bit h c x j
    rw [List.foldl_cons]
    generalize put1 n (W, c) x = st at *
    obtain ⟨W', c'⟩ := st
    rw [fold_bit j l W' c' (hl.trans h), hb, Bool.or_assoc, ← Bool.and_or_distrib_left]
    congr 2
    by_cases q : (j : Int) = x
    · rw [decide_eq_true q, decide_eq_true (show (j : Int) ∈ x :: l by rw [q]; exact List.mem_cons_self ..), Bool.true_or]
    · rw [decide_eq_false q, Bool.false_or]
      exact decide_eq_decide.2 (by simp [q])
theorem zero_bit (L j : Nat) : bitW (List.replicate L 0) j = false := by
  unfold bitW
  have : (List.replicate L 0).getD (j / 64) 0 = 0 := by
    simp only [List.getD_eq_getElem?_getD, List.getElem?_replicate]; split <;> rfl
  rw [this, Nat.zero_testBit]

/-! ### how many -/
theorem count_range_set {p : Nat → Bool} {i : Nat} : ∀ n, (List.range n).countP (fun j => p j || decide (j = i)) = (List.range n).countP p + if i < n ∧ p i = false then 1 else 0
  | 0 => by simp
  | n + 1 => by
    rw [List.range_succ, List.countP_append, List.countP_append, count_range_set n]
    simp only [List.countP_cons, List.countP_nil, Nat.zero_add]
    by_cases h : n = i
    · subst h
      cases hp : p n <;> simp
    · have h2 : (i < n + 1 ∧ p i = false) ↔ (i < n ∧ p i = false) := ⟨fun q => ⟨by omega, q.2⟩, fun q => ⟨by omega, q.2⟩⟩
      by_cases q : i < n ∧ p i = false
      · rw [if_pos q, if_pos (h2.2 q)]; simp [h]; omega
      · rw [if_neg q, if_neg (fun z => q (h2.1 z))]; simp [h]
theorem cntr_congr {p q : Nat → Bool} (h : ∀ j, p j = q j) (m : Nat) : (List.range m).countP p = (List.range m).countP q := by
  rw [show p = q from funext h]
theorem fold_cnt {n : Nat} : ∀ (l : List Int) (W : List Nat) (c : Int), W.length = (n + 63) / 64 → (l.foldl (put1 n) (W, c)).2 + ((List.range n).countP (bitW W) : Nat) = c + ((List.range n).countP (bitW (l.foldl (put1 n) (W, c)).1) : Nat)
  | [], W, c, _ => rfl
  | x :: l, W, c, h => by
    rw [List.foldl_cons]
    by_cases q : 0 ≤ x ∧ x < n ∧ bitW W x.toNat = false
    · have e : put1 n (W, c) x = (orB W x.toNat, c + 1) := by unfold put1; exact if_pos q
      have := fold_cnt l (orB W x.toNat) (c + 1) ((orB_len W _).trans h)
      rw [e]
      have h2 : (List.range n).countP (bitW (orB W x.toNat)) = (List.range n).countP (bitW W) + 1 := by
        rw [cntr_congr (bitW_orB (show x.toNat / 64 < W.length by omega)), count_range_set, if_pos ⟨by omega, q.2.2⟩]
      omega
    · have e : put1 n (W, c) x = (W, c) := by unfold put1; exact if_neg q
      rw [e]
      exact fold_cnt l W c h
theorem countP_false {p : Nat → Bool} : ∀ l : List Nat, (∀ x ∈ l, p x = false) → l.countP p = 0 := fun l h => List.countP_eq_zero.2 fun x hx => by rw [h x hx]; decide
theorem cntW_tight {W : List Nat} {n : Nat} (h : W.length = (n + 63) / 64) (ht : ∀ j, n ≤ j → bitW W j = false) : cntW W = (List.range n).countP (bitW W) := by
  unfold cntW
  have : 64 * W.length = n + (64 * W.length - n) := by omega
  rw [this, List.range_add, List.countP_append, countP_false (p := bitW W) ((List.range _).map _) fun x hx => by
    obtain ⟨y, _, rfl⟩ := List.mem_map.1 hx
    exact ht _ (by omega)]
  rfl
theorem rest_cnt (W : List Nat) (n : Nat) : (restW W n 0).length + (List.range n).countP (bitW W) = n := by
  unfold restW
  rw [← List.countP_eq_length_filter, Nat.sub_zero, ← List.range_eq_range', Nat.add_comm]
  have := List.length_eq_countP_add_countP (bitW W) (l := List.range n)
  rw [List.length_range] at this
  have e : (List.range n).countP (fun j => !bitW W j) = (List.range n).countP fun a => decide ¬ bitW W a = true := by
    apply cntr_congr; intro j; cases bitW W j <;> rfl
  rw [e]; omega

/-! ### sets, and changes elsewhere -/
section
variable {s s' : Store} {id wid n : Nat} {W : List Nat}
theorem IsSet.fr1 {x : Nat} (h : IsSet s id wid W n) (e : Fr1 x s s') (h1 : id ≠ x) (h2 : wid ≠ x) : IsSet s' id wid W n := h.keep (e.get _ h.id_lt h1) (e.get _ h.wid_lt h2) e.next
theorem HasTab.fr1 {x : Nat} (h : HasTab s) (e : Fr1 x s s') (h0 : 0 ≠ x) : HasTab s' := ⟨(e.get 0 h.2 h0).trans h.1, Nat.lt_of_lt_of_le h.2 e.next⟩
/-- Numbers just built. -/
theorem isV_push (s : Store) (k : IntKind) (l : List Int) (ro : Bool) : IsV (s.push (.cells (l.map (.int k)) ro)) (.sl s.next 0 l.length 1 l.length) k l :=
  .inr ⟨s.next, 0, l, ro, rfl, Nat.lt_succ_self _, by rw [get_push, if_pos rfl], by omega, by simp⟩
end
end Go.Proofs.YtmkdpenpfkmfpaaDoor.Sim
namespace Go.Proofs.YtmkdpenpfkmfpaaDoor.Sim
set_option linter.unusedSimpArgs false
set_option linter.unusedVariables false

/-- A frame's cells. -/
structure Frm where
  id : Int × Int
  at_ : Int
  of : Int
  size : Int
  dv : AV
  c0 : AV
  c1 : AV
  c2 : AV
  c5 : AV
  c9 : AV
  c10 : AV
  c11 : AV
  c12 : AV
  c13 : AV
  c14 : AV
def Frm.cells (f : Frm) : List AV := [f.c0, f.c1, f.c2, .int .u8 f.id.1, .int .u64 f.id.2, f.c5, .int .u32 f.at_, .int .u32 f.of, .int .u32 f.size, f.c9, f.c10, f.c11, f.c12, f.c13, f.c14, f.dv]
structure Frm.Wf (f : Frm) : Prop where
  at0 : 0 ≤ f.at_ ∧ f.at_ < 4294967296
  of0 : 0 ≤ f.of ∧ f.of < 4294967296
  size0 : 0 ≤ f.size ∧ f.size < 4294967296
theorem put_list {α β : Type} {S : Sh α} {m : Nat} {Rel : Store → List AV → β → Prop} (hmono : ∀ s s' c b, Rel s c b → Ext s s' → Rel s' c b)
    (hput : ∀ x s, S.wf x → ∃ b, Rel (S.put x s).2 (S.put x s).1 b ∧ Ext s (S.put x s).2 ∧ (S.put x s).1.length = m) : ∀ (l : List α) (s : Store), (∀ x ∈ l, S.wf x) →
    ∃ (css : List {c : List AV // c.length = m}) (bs : List β), (S.putL l s).1 = (css.map Subtype.val).flatten ∧ css.length = l.length ∧ bs.length = css.length ∧ (∀ (i : Nat) (h : i < css.length) (h' : i < bs.length), Rel (S.putL l s).2 css[i].val bs[i]) ∧ Ext s (S.putL l s).2
  | [], s, _ => ⟨[], [], rfl, rfl, rfl, fun i h => absurd h (Nat.not_lt_zero _), Ext.refl _⟩
  | x :: l, s, hw => by
    obtain ⟨b, r1, e1, hm⟩ := hput x s (hw x List.mem_cons_self)
    obtain ⟨css, bs, k1, k2, k3, k4, k5⟩ := put_list hmono hput l (S.put x s).2 (fun y hy => hw y (List.mem_cons_of_mem _ hy))
    refine ⟨⟨(S.put x s).1, hm⟩ :: css, b :: bs, ?_, by simp [k2], by simp [k3], fun i h h' => ?_, e1.trans k5⟩
    · show (S.put x s).1 ++ (S.putL l (S.put x s).2).1 = _
      rw [k1]; rfl
    · cases i with
      | zero => exact hmono _ _ _ _ r1 k5
      | succ i => exact k4 i (by simpa using h) (by simpa using h')
theorem put_slice {α β : Type} {S : Sh α} {m : Nat} {Rel : Store → List AV → β → Prop} (hm : S.n = m) (hmono : ∀ s s' c b, Rel s c b → Ext s s' → Rel s' c b)
    (hput : ∀ x s, S.wf x → ∃ b, Rel (S.put x s).2 (S.put x s).1 b ∧ Ext s (S.put x s).2 ∧ (S.put x s).1.length = m) (o : Option (List α)) (s : Store) (hw : (shSlice S).wf o) :
    ∃ (v : AV) (css : List {c : List AV // c.length = m}) (bs : List β), ((shSlice S).put o s).1 = [v] ∧ IsL Subtype.val m ((shSlice S).put o s).2 v css ∧ bs.length = css.length ∧ (∀ (i : Nat) (h : i < css.length) (h' : i < bs.length), Rel ((shSlice S).put o s).2 css[i].val bs[i]) ∧ Ext s ((shSlice S).put o s).2 ∧ css.length ≤ maxLen := by
  cases o with
  | none => exact ⟨.nilsl, [], [], rfl, .inl ⟨rfl, rfl⟩, rfl, fun i h => absurd h (Nat.not_lt_zero _), Ext.refl _, Nat.zero_le _⟩
  | some l =>
    obtain ⟨hl, hx⟩ := hw l rfl
    obtain ⟨css, bs, k1, k2, k3, k4, k5⟩ := put_list hmono hput l s hx
    have e2 := Ext.push (S.putL l s).2 (.cells (S.putL l s).1 true)
    refine ⟨.sl (S.putL l s).2.next 0 l.length S.n (l.length * S.n), css, bs, rfl, .inr ⟨(S.putL l s).2.next, true, by rw [k2, hm], Nat.lt_succ_self _, ?_⟩, k3, fun i h h' => hmono _ _ _ _ (k4 i h h') e2, k5.trans e2, by omega⟩
    show ((S.putL l s).2.push (.cells (S.putL l s).1 true)).get _ = _
    rw [get_push, if_pos rfl, k1]


/-! ### frames as arguments -/
theorem put_any {α : Type} {S : Sh α} {m : Nat} (hm : S.n = m) (hp : ∀ x s, S.wf x → Ext s (S.put x s).2 ∧ (S.put x s).1.length = m) (o : Option (List α)) (s : Store) (hw : (shSlice S).wf o) :
    ∃ (v : AV) (n : Nat), ((shSlice S).put o s).1 = [v] ∧ (∀ {γ : Type} (f : AV → Option γ), aLen v f = f (.int .i64 (n : Int))) ∧ Ext s ((shSlice S).put o s).2 := by
  obtain ⟨v, css, bs, h1, h2, _, _, h3, _⟩ := put_slice (β := Unit) (Rel := fun _ _ _ => True) hm (fun _ _ _ _ h _ => h) (fun x s hx => ⟨(), trivial, hp x s hx⟩) o s hw
  exact ⟨v, css.length, h1, fun f => lenL h2 f, h3⟩
theorem put_tri (x : Int × Int × Int) (s : Store) : Ext s ((shPair (shInt .u8) (shPair (shInt .u64) (shInt .u64))).put x s).2 ∧ ((shPair (shInt .u8) (shPair (shInt .u64) (shInt .u64))).put x s).1.length = 3 := ⟨Ext.refl _, rfl⟩
theorem put_one {k : IntKind} (x : Int) (s : Store) : Ext s ((shInt k).put x s).2 ∧ ((shInt k).put x s).1.length = 1 := ⟨Ext.refl _, rfl⟩
/-- A frame that lies in 16 cells. -/
structure IsFr (s : Store) (c : List AV) (f : Frm × List Int) : Prop where
  eq : c = f.1.cells
  wf : f.1.Wf
  id1 : 0 ≤ f.1.id.1 ∧ f.1.id.1 < 256
  id2 : 0 ≤ f.1.id.2 ∧ f.1.id.2 < 18446744073709551616
  dat : IsV s f.1.dv .u8 f.2
  byte : ∀ x ∈ f.2, 0 ≤ x ∧ x < 256
  most : f.2.length ≤ maxLen
  lens : ∃ n1 n2 n3 n4 : Nat, ∀ {γ : Type} (g : AV → Option γ), aLen f.1.c11 g = g (.int .i64 (n1 : Int)) ∧ aLen f.1.c12 g = g (.int .i64 (n2 : Int)) ∧ aLen f.1.c13 g = g (.int .i64 (n3 : Int)) ∧ aLen f.1.c14 g = g (.int .i64 (n4 : Int))
theorem IsFr.ext {s s' : Store} {c : List AV} {f : Frm × List Int} (h : IsFr s c f) (e : Ext s s') : IsFr s' c f := ⟨h.eq, h.wf, h.id1, h.id2, h.dat.ext e, h.byte, h.most, h.lens⟩
abbrev shRunsA : Sh (Option (List (Int × Int × Int))) := shSlice (shPair (shInt .u8) (shPair (shInt .u64) (shInt .u64)))
abbrev shFrm : Sh ((Int × Int × Int) × (Int × Int) × Int × Int × Int × Int × Int × Int × Option (List (Int × Int × Int)) × Option (List (Int × Int × Int)) × Option (List Int) × Option (List Int) × Option (List Int)) :=
  shPair (shPair (shInt .u8) (shPair (shInt .u8) (shInt .u8))) (shPair (shPair (shInt .u8) (shInt .u64)) (shPair (shInt .u64) (shPair (shInt .u32) (shPair (shInt .u32) (shPair (shInt .u32) (shPair (shInt .u64) (shPair (shInt .u64) (shPair shRunsA (shPair shRunsA (shPair (shSlice (shInt .u64)) (shPair (shSlice (shInt .u64)) (shSlice (shInt .u8)))))))))))))
theorem byte_of {n : Int} (h : (Lit.int .u8 n).wf = true) : 0 ≤ n ∧ n < 256 := by
  simp [Lit.wf, IntKind.min, IntKind.max, IntKind.bits, IntKind.signed] at h
  omega
theorem u32_of {n : Int} (h : (Lit.int .u32 n).wf = true) : 0 ≤ n ∧ n < 4294967296 := by
  simp [Lit.wf, IntKind.min, IntKind.max, IntKind.bits, IntKind.signed] at h
  omega
theorem u64_of' {n : Int} (h : (Lit.int .u64 n).wf = true) : 0 ≤ n ∧ n < 18446744073709551616 := by
  simp [Lit.wf, IntKind.min, IntKind.max, IntKind.bits, IntKind.signed] at h
  omega
theorem put_frm (x : (Int × Int × Int) × (Int × Int) × Int × Int × Int × Int × Int × Int × Option (List (Int × Int × Int)) × Option (List (Int × Int × Int)) × Option (List Int) × Option (List Int) × Option (List Int)) (s : Store) (hw : shFrm.wf x) :
    ∃ f, IsFr (shFrm.put x s).2 (shFrm.put x s).1 f ∧ Ext s (shFrm.put x s).2 ∧ (shFrm.put x s).1.length = 16 := by
  obtain ⟨⟨h0, h1, h2⟩, ⟨i0, i1⟩, sq, at_, of, sz, inst, rnd, est, aux, done, held, data⟩ := x
  obtain ⟨⟨_, _, _⟩, ⟨w3, w4⟩, w5, w6, w7, w8, w9, w10, w11, w12, w13, w14, w15⟩ := hw
  obtain ⟨v11, n11, p11, l11, e11⟩ := put_any (m := 3) rfl (fun x s _ => put_tri x s) est s w11
  obtain ⟨v12, n12, p12, l12, e12⟩ := put_any (m := 3) rfl (fun x s _ => put_tri x s) aux _ w12
  obtain ⟨v13, n13, p13, l13, e13⟩ := put_any (S := shInt .u64) (m := 1) rfl (fun x s _ => put_one x s) done _ w13
  obtain ⟨v14, n14, p14, l14, e14⟩ := put_any (S := shInt .u64) (m := 1) rfl (fun x s _ => put_one x s) held _ w14
  obtain ⟨v15, d, p15, l15, b15, m15, e15⟩ := put_num .u8 data _ w15
  have hc : (shFrm.put ((h0, h1, h2), (i0, i1), sq, at_, of, sz, inst, rnd, est, aux, done, held, data) s).1 = Frm.cells ⟨(i0, i1), at_, of, sz, v15, .int .u8 h0, .int .u8 h1, .int .u8 h2, .int .u64 sq, .int .u64 inst, .int .u64 rnd, v11, v12, v13, v14⟩ := by
    show ([AV.int .u8 h0] ++ ([AV.int .u8 h1] ++ [AV.int .u8 h2])) ++ (([AV.int .u8 i0] ++ [AV.int .u64 i1]) ++ ([AV.int .u64 sq] ++ ([AV.int .u32 at_] ++ ([AV.int .u32 of] ++ ([AV.int .u32 sz] ++ ([AV.int .u64 inst] ++ ([AV.int .u64 rnd] ++ ((shRunsA.put est s).1 ++ ((shRunsA.put aux (shRunsA.put est s).2).1 ++ (((shSlice (shInt .u64)).put done (shRunsA.put aux (shRunsA.put est s).2).2).1 ++ (((shSlice (shInt .u64)).put held ((shSlice (shInt .u64)).put done (shRunsA.put aux (shRunsA.put est s).2).2).2).1 ++ ((shSlice (shInt .u8)).put data ((shSlice (shInt .u64)).put held ((shSlice (shInt .u64)).put done (shRunsA.put aux (shRunsA.put est s).2).2).2).2).1))))))))))) = _
    rw [p11, p12, p13, p14, p15]
    rfl
  refine ⟨(⟨(i0, i1), at_, of, sz, v15, .int .u8 h0, .int .u8 h1, .int .u8 h2, .int .u64 sq, .int .u64 inst, .int .u64 rnd, v11, v12, v13, v14⟩, d), ⟨hc, ⟨u32_of w6, u32_of w7, u32_of w8⟩, byte_of w3, u64_of' w4, l15, fun x hx => byte_of (b15 x hx), m15, n11, n12, n13, n14, fun g => ⟨l11 g, l12 g, l13 g, l14 g⟩⟩, (((e11.trans e12).trans e13).trans e14).trans e15, by rw [hc]; rfl⟩
/-- A slice of frames. -/
def IsFrs (s : Store) (v : AV) (F : List (Frm × List Int)) : Prop := ∃ css : List {c : List AV // c.length = 16}, IsL Subtype.val 16 s v css ∧ F.length = css.length ∧ ∀ (i : Nat) (h : i < css.length) (h' : i < F.length), IsFr s css[i].val F[i]
theorem IsFrs.ext {s s' : Store} {v : AV} {F : List (Frm × List Int)} (h : IsFrs s v F) (e : Ext s s') : IsFrs s' v F := by
  obtain ⟨css, h1, h2, h3⟩ := h
  exact ⟨css, h1.ext e, h2, fun i q q' => (h3 i q q').ext e⟩
theorem IsFrs.len {s : Store} {v : AV} {F : List (Frm × List Int)} (h : IsFrs s v F) {α : Type} (f : AV → Option α) : aLen v f = f (.int .i64 F.length) := by
  obtain ⟨css, h1, h2, h3⟩ := h
  rw [lenL h1, h2]
theorem IsFrs.at {s : Store} {v : AV} {F : List (Frm × List Int)} (h : IsFrs s v F) {i : Nat} (hi : i < F.length) : ∃ id ep, (∀ {α : Type} (k : IntKind) (f : AV → Option α), aIndexSl 16 v (.int k (i : Int)) f = f (.ptr id (0 + i * 16) ep)) ∧ (∀ {α : Type} (f : AV → Option α), aLoadN 16 (.ptr id (0 + i * 16) ep) s f = f (.agg F[i].1.cells)) ∧
    (∀ {α : Type} (f : AV → Option α), aLoad1 (.ptr id (0 + i * 16 + 8) ep) s f = f (.int .u32 F[i].1.size)) ∧ (∀ {α : Type} (f : AV → Option α), aLoadN 2 (.ptr id (0 + i * 16 + 3) ep) s f = f (.agg [.int .u8 F[i].1.id.1, .int .u64 F[i].1.id.2])) ∧ IsFr s F[i].1.cells F[i] := by
  obtain ⟨css, h1, h2, h3⟩ := h
  have hi' : i < css.length := by omega
  have hf := h3 i hi' hi
  have hc : css[i].val = F[i].1.cells := hf.eq
  rcases h1 with ⟨_, rfl⟩ | ⟨id, ro, rfl, _, hr⟩
  · simp at hi'
  have hl : ∀ x : {c : List AV // c.length = 16}, x.val.length = 16 := fun x => x.2
  refine ⟨id, css.length * 16, fun k f => idxL hi' f, fun f => by rw [loadL hl hr i hi', hc], fun f => fldL hl hr hi' (by rw [hc]; rfl) f, fun f => ?_, hc ▸ hf⟩
  have hle : i * 16 + 16 ≤ css.length * 16 := by rw [← Nat.succ_mul]; exact Nat.mul_le_mul_right _ hi'
  rw [load_n hr (flatL_len hl css) (by omega)]
  have h5 : ((css.map Subtype.val).flatten.drop (0 + i * 16 + 3)).take 2 = (F[i].1.cells.drop 3).take 2 := by
    rw [← hc, ← flatL_get hl css i hi', List.drop_take, List.take_take, List.drop_drop, Nat.zero_add]
    rfl
  rw [h5]
  rfl
theorem put_frms (o : _) (s : Store) (hw : (shSlice shFrm).wf o) :
    ∃ v F, ((shSlice shFrm).put o s).1 = [v] ∧ IsFrs ((shSlice shFrm).put o s).2 v F ∧ Ext s ((shSlice shFrm).put o s).2 := by
  obtain ⟨v, css, F, k1, k2, k3, k4, k5, _⟩ := put_slice (m := 16) (Rel := IsFr) (S := shFrm) rfl (fun s s' c b h e => h.ext e) (fun x s hx => put_frm x s hx) o s hw
  exact ⟨v, F, k1, ⟨css, k2, k3, k4⟩, k5⟩
end Go.Proofs.YtmkdpenpfkmfpaaDoor.Sim
