/- Seat 01: the law NumBack, its run. No condition. -/
import Derived.Test.YtppaefjgkocakaaSpE
import Derived.Test.YtppaefjgkocakaaSimQ
namespace Go.Proofs.Ytppaefjgkocakaa.Sim
set_option linter.unusedSimpArgs false
set_option linter.unusedVariables false

/-- A number that was put is read. -/
theorem numR_numB {n : Int} (h0 : 0 ≤ n) (h1 : n < 18446744073709551616) (rest : List Int) (most : Int) : numR (numB n ++ rest) most = if n > most then (0, [], 6) else (n, rest, 0) := by
  have h8 : n < 256 ^ 8 := by have : (256 : Int) ^ 8 = 18446744073709551616 := rfl; omega
  have hlen := leI_len 8 n
  have hval := valI_le 8 n h0 h8
  have hlast := leI_last 8 n h0 h8
  show numR (((leI 8 n).length : Int) :: (leI 8 n ++ rest)) most = _
  generalize leI 8 n = L at *
  unfold numR
  simp only [Int.toNat_natCast, List.take_left', List.drop_left', List.take_left, List.drop_left]
  rw [if_neg (by omega), if_neg (by rw [List.length_append]; omega), if_neg (fun q => by
    obtain ⟨q1, q2⟩ := q
    have hne : L ≠ [] := fun z => by subst z; simp at q1
    apply hlast hne
    have e : ((L.length : Int) - 1).toNat = L.length - 1 := by omega
    have hlt : L.length - 1 < L.length := by have := List.length_pos_iff.2 hne; omega
    rw [e, List.getD_eq_getElem?_getD, List.getElem?_append_left hlt, List.getElem?_eq_getElem hlt] at q2
    rw [List.getLast_eq_getElem]
    simpa using q2), hval]

section
variable {x0 x1 : AV} {s0 : Store} {id : Nat} {l : List Int} {rows : List (List Int)}

theorem rowsB_u8 : ∀ {rows : List (List Int)}, (∀ r ∈ rows, ∀ x ∈ r, 0 ≤ x ∧ x < 256) → ∀ x ∈ rowsB rows, 0 ≤ x ∧ x < 256
  | [], _, x, h => by simp [rowsB] at h
  | r :: rows, hu, x, h => by
    rw [rowsB_cons, rowB] at h
    rcases List.mem_append.1 h with h | h
    · rcases List.mem_append.1 h with h | h
      · exact numB_u8 _ x h
      · exact hu r List.mem_cons_self x h
    · exact rowsB_u8 (fun r hr => hu r (List.mem_cons_of_mem _ hr)) x h
theorem numsB_u8 : ∀ (l : List Int), ∀ x ∈ numsB l, 0 ≤ x ∧ x < 256
  | [], x, h => by simp [numsB] at h
  | n :: l, x, h => by
    rw [numsB_cons] at h
    rcases List.mem_append.1 h with h | h
    · exact numB_u8 _ x h
    · exact numsB_u8 l x h
theorem rowsB_len : ∀ {rows : List (List Int)}, (∀ r ∈ rows, r.length ≤ 300) → (rowsB rows).length ≤ rows.length * 309
  | [], _ => by simp [rowsB]
  | r :: rows, h => by
    have h1 := rowsB_len fun r hr => h r (List.mem_cons_of_mem _ hr)
    have h2 := h r List.mem_cons_self
    have h3 := numB_len (r.length : Int)
    rw [rowsB_cons, rowB, List.length_append, List.length_append, List.length_cons]
    omega

theorem back_rows (k : Nat) (hk : 20 ≤ k) (h1 : IsVV s0 x1 rows) (hrn : rows.length ≤ 60) (hrl : ∀ r ∈ rows, r.length ≤ 300) (hru : ∀ r ∈ rows, ∀ x ∈ r, 0 ≤ x ∧ x < 256) (hid : s0.next ≤ id) : ∀ (n i : Nat) (s : Store), Ext s0 s → IsRd s id (rowsB (rows.drop i)) 0 (fun i => s0.next ≤ i) → i ≤ rows.length → rows.length - i < n →
    ∃ s', unisonlaw01_NumBack.l0 (k + 2) n x1 (.ptr id 0 2) (.int .i64 i) s = unisonlaw01_NumBack.p0 (k + 2) (.ptr id 0 2) s' ∧ IsRd s' id [] 0 (fun i => s0.next ≤ i)
  | 0, i, _, _, _, hi, hn => by omega
  | n + 1, i, s, e, hr, hi, hn => by
    have hst : unisonlaw01_NumBack.l0 (k + 2) (n + 1) = fun x1 x5 x7 s => unisonlaw01_NumBack.p4 (k + 2) (unisonlaw01_NumBack.l0 (k + 2) n) x1 x5 x7 s := rfl
    rw [hst]
    clear hst
    simp only
    unfold unisonlaw01_NumBack.p4
    rw [lenVV (h1.ext e), lss_i]
    by_cases h : i < rows.length
    · have hz : (i : Int) < (rows.length : Int) := by omega
      rw [decide_eq_true hz, if_t]
      unfold unisonlaw01_NumBack.p3
      have hw1 : IntKind.i64.wrap ((i : Int) + 1) = ((i + 1 : Nat) : Int) := by rw [w_i64 (by omega) (by omega)]; omega
      obtain ⟨p, hh, p1, p2, p3⟩ := atVV h1 h
      have hrl' := hrl _ (List.getElem_mem h)
      have hub : ∀ x ∈ rowsB (rows.drop i), 0 ≤ x ∧ x < 256 := rowsB_u8 fun r hr => hru r (List.mem_of_mem_drop hr)
      have hlb : (rowsB (rows.drop i)).length ≤ 1000000 := by
        have := rowsB_len (rows := rows.drop i) fun r hr => hrl r (List.mem_of_mem_drop hr)
        rw [List.length_drop] at this; omega
      obtain ⟨v, s1, k1, k2, k3, k4⟩ := row_run hr hub hlb (rows[i].length : Int) (by omega) k hk
      have hrow : rdRow (rowsB (rows.drop i)) 0 (rows[i].length : Int) = (rows[i], rowsB (rows.drop (i + 1)), 0) := by
        have hR : numR (rowsB (rows.drop i)) 18446744073709551615 = ((rows[i].length : Int), rows[i] ++ rowsB (rows.drop (i + 1)), 0) := by
          rw [List.drop_eq_getElem_cons h, rowsB_cons, rowB, List.append_assoc, numR_numB (by omega) (by omega), if_neg (by omega)]
        unfold rdRow
        rw [hR]
        simp only [ne_eq, not_true, if_false, Int.toNat_natCast, List.take_left, List.drop_left]
        rw [if_neg (by omega), if_neg (by rw [List.length_append]; omega)]
      rw [hrow] at k2 k3
      have e1 := k4.ext e hid
      simp only [bnd, guard_tt, guard_ff, guard_tf, guard_ft, pick_t, pick_f, if_t, if_f, add_i, sub_i, lss_i, leq_i, gtr_i, geq_i, eql_i, neq_i, min_i, max_i, conv_i, len_sl, len_nil, not_b, cells_agg, new_s, fld_p, nil_p, p1, p2 e, lenV (p3.ext e), k1, strV k2, p2 e1, aSame_self, strV (p3.ext e1), strV (p3.ext e), ne_str_same]
      unfold unisonlaw01_NumBack.p2 unisonlaw01_NumBack.p1
      rw [if_f, add_i, hw1]
      exact back_rows k hk h1 hrn hrl hru hid n (i + 1) s1 e1 k3 (by omega) (by omega)
    · have hz : ¬ (i : Int) < (rows.length : Int) := by omega
      rw [decide_eq_false hz, if_f]
      rw [List.drop_eq_nil_of_le (by omega)] at hr
      exact ⟨s, rfl, hr⟩

theorem back_nums (k : Nat) (hk : 1000 ≤ k) (h0 : IsV s0 x0 .u64 l) (hl : l.length ≤ 60) (hu : ∀ x ∈ l, 0 ≤ x ∧ x < 18446744073709551616) (h1 : IsVV s0 x1 rows) (hrn : rows.length ≤ 60) (hrl : ∀ r ∈ rows, r.length ≤ 300) (hru : ∀ r ∈ rows, ∀ x ∈ r, 0 ≤ x ∧ x < 256) (hid : s0.next ≤ id) : ∀ (n i : Nat) (s : Store), Ext s0 s → IsRd s id (numsB (l.drop i) ++ rowsB rows) 0 (fun i => s0.next ≤ i) → i ≤ l.length → l.length - i < n →
    ∃ s', unisonlaw01_NumBack.l1 (k + 2) n x0 x1 (.ptr id 0 2) (.int .i64 i) s = unisonlaw01_NumBack.p0 (k + 2) (.ptr id 0 2) s' ∧ IsRd s' id [] 0 (fun i => s0.next ≤ i)
  | 0, i, _, _, _, hi, hn => by omega
  | n + 1, i, s, e, hr, hi, hn => by
    have hst : unisonlaw01_NumBack.l1 (k + 2) (n + 1) = fun x0 x1 x5 x6 s => unisonlaw01_NumBack.p9 (k + 2) (unisonlaw01_NumBack.l1 (k + 2) n) x0 x1 x5 x6 s := rfl
    rw [hst]
    clear hst
    simp only
    unfold unisonlaw01_NumBack.p9
    rw [lenV (h0.ext e), lss_i]
    by_cases h : i < l.length
    · have hz : (i : Int) < (l.length : Int) := by omega
      rw [decide_eq_true hz, if_t]
      unfold unisonlaw01_NumBack.p8
      have hw1 : IntKind.i64.wrap ((i : Int) + 1) = ((i + 1 : Nat) : Int) := by rw [w_i64 (by omega) (by omega)]; omega
      obtain ⟨p, p1, p2⟩ := atV (h0.ext e) (show (0 : Int) ≤ i by omega) hz
      have eg : l.getD (i : Int).toNat 0 = l[i] := by simp [h]
      have hux := hu _ (List.getElem_mem h)
      have hub : ∀ x ∈ numsB (l.drop i) ++ rowsB rows, 0 ≤ x ∧ x < 256 := fun x hx => by
        rcases List.mem_append.1 hx with q | q
        · exact numsB_u8 _ x q
        · exact rowsB_u8 hru x q
      have hlb : (numsB (l.drop i) ++ rowsB rows).length ≤ 1000000 := by
        have a1 := rowsB_len hrl
        have a2 := numsB_len (l.drop i)
        rw [List.length_drop] at a2
        rw [List.length_append]; omega
      obtain ⟨s1, k1, k3, k4⟩ := num_run hr hub hlb l[i] k (by omega)
      have hnum : rdNum (numsB (l.drop i) ++ rowsB rows) 0 l[i] = (l[i], numsB (l.drop (i + 1)) ++ rowsB rows, 0) := by
        unfold rdNum
        rw [List.drop_eq_getElem_cons h, numsB_cons, List.append_assoc, numR_numB hux.1 hux.2, if_neg (by omega)]
        simp
      rw [hnum] at k1 k3
      have e1 := k4.ext e hid
      obtain ⟨p', p1', p2'⟩ := atV (h0.ext e1) (show (0 : Int) ≤ i by omega) hz
      have hpp : p' = p := by
        have a := p1 (α := AV) .i64 some
        have b := p1' (α := AV) .i64 some
        rw [a] at b; exact (Option.some.inj b).symm
      subst hpp
      have hne : (l[i] != l[i]) = false := by simp
      simp only [bnd, guard_tt, guard_ff, guard_tf, guard_ft, pick_t, pick_f, if_t, if_f, add_i, sub_i, lss_i, leq_i, gtr_i, geq_i, eql_i, neq_i, min_i, max_i, conv_i, len_sl, len_nil, not_b, cells_agg, new_s, fld_p, nil_p, p1, p2, eg, k1, p2', aSame_self, hne]
      unfold unisonlaw01_NumBack.p7 unisonlaw01_NumBack.p6
      rw [if_f, add_i, hw1]
      exact back_nums k hk h0 hl hu h1 hrn hrl hru hid n (i + 1) s1 e1 k3 (by omega) (by omega)
    · have hz : ¬ (i : Int) < (l.length : Int) := by omega
      rw [decide_eq_false hz, if_f]
      rw [List.drop_eq_nil_of_le (by omega)] at hr
      unfold unisonlaw01_NumBack.p5
      have hr' : IsRd s id (rowsB (rows.drop 0)) 0 (fun i => s0.next ≤ i) := hr
      have := back_rows k (by omega) h1 hrn hrl hru hid (k + 2) 0 s e hr' (by omega) (by omega)
      rw [Int.natCast_zero] at this
      exact this
end

theorem law_back {s : Store} {x0 x1 : AV} {l : List Int} {rows : List (List Int)} (h0 : IsV s x0 .u64 l) (h1 : IsVV s x1 rows) (hu : ∀ x ∈ l, 0 ≤ x ∧ x < 18446744073709551616) (hru : ∀ r ∈ rows, ∀ x ∈ r, 0 ≤ x ∧ x < 256) : ∃ s', rn 5001 7 [x0, x1] s = some (.bool true, s') := by
  rw [show 5001 = 5000 + 1 from rfl, unisonlaw01_NumBack.eq]
  unfold unisonlaw01_NumBack.f unisonlaw01_NumBack.p13 unisonlaw01_NumBack.p12
  have haw : ∀ s, rn 5000 8 [] s = some (.bool true, s) := fun s => awake_rn 4999 s
  simp only [lenV h0, bnd, guard_tt, guard_ff, guard_tf, guard_ft, pick_t, pick_f, if_t, if_f, add_i, sub_i, lss_i, leq_i, gtr_i, geq_i, eql_i, neq_i, min_i, max_i, conv_i, len_sl, len_nil, not_b, cells_agg, new_s, fld_p, nil_p]
  by_cases hl : (l.length : Int) > 60
  · simp only [decide_eq_true hl, bnd, guard_tt, guard_ff, guard_tf, guard_ft, pick_t, pick_f, if_t, if_f, add_i, sub_i, lss_i, leq_i, gtr_i, geq_i, eql_i, neq_i, min_i, max_i, conv_i, len_sl, len_nil, not_b, cells_agg, new_s, fld_p, nil_p, haw]
    exact ⟨s, rfl⟩
  · have hgr := great_run h1 4999 (by omega)
    simp only [Nat.reduceAdd] at hgr
    simp only [decide_eq_false hl, bnd, guard_tt, guard_ff, guard_tf, guard_ft, pick_t, pick_f, if_t, if_f, add_i, sub_i, lss_i, leq_i, gtr_i, geq_i, eql_i, neq_i, min_i, max_i, conv_i, len_sl, len_nil, not_b, cells_agg, new_s, fld_p, nil_p, hgr]
    by_cases hg : greatR rows = true
    · simp only [hg, bnd, guard_tt, guard_ff, guard_tf, guard_ft, pick_t, pick_f, if_t, if_f, add_i, sub_i, lss_i, leq_i, gtr_i, geq_i, eql_i, neq_i, min_i, max_i, conv_i, len_sl, len_nil, not_b, cells_agg, new_s, fld_p, nil_p, haw]
      exact ⟨s, rfl⟩
    · have hg' : greatR rows = false := by simpa using hg
      obtain ⟨hrn, hrl⟩ := great_not hg'
      simp only [hg', bnd, guard_tt, guard_ff, guard_tf, guard_ft, pick_t, pick_f, if_t, if_f, add_i, sub_i, lss_i, leq_i, gtr_i, geq_i, eql_i, neq_i, min_i, max_i, conv_i, len_sl, len_nil, not_b, cells_agg, new_s, fld_p, nil_p]
      unfold unisonlaw01_NumBack.p11
      have hnil : IsV s .nilsl .u8 [] := .inl ⟨rfl, rfl⟩
      obtain ⟨v1, s1, k1, o1, e1⟩ := puts_run hnil h0 (by simp) (by omega) hu 4996 (by omega) (by omega)
      rw [List.nil_append] at o1
      have a2 := numsB_len l
      have a3 := rowsB_len hrl
      obtain ⟨v2, s2, k2, o2, e2⟩ := rows_run o1.is (h1.ext e1) (by omega) hrn hrl 4996 (by omega) (by omega)
      obtain ⟨id, s3, k3, r3, e3⟩ := new_run o2.is (by rw [List.length_append]; omega) 4998
      simp only [Nat.reduceAdd] at k1 k2 k3
      simp only [k1, k2, k3, bnd, guard_tt, guard_ff, guard_tf, guard_ft, pick_t, pick_f, if_t, if_f, add_i, sub_i, lss_i, leq_i, gtr_i, geq_i, eql_i, neq_i, min_i, max_i, conv_i, len_sl, len_nil, not_b, cells_agg, new_s, fld_p, nil_p]
      have e02 := e1.trans e2
      have e03 := e02.trans e3
      have hid : s.next ≤ id := by obtain ⟨_, _, _, q, _⟩ := r3; have := e02.next; omega
      have r3' : IsRd s3 id (numsB (l.drop 0) ++ rowsB rows) 0 (fun i => s.next ≤ i) := r3.mono fun i q => Nat.le_trans e02.next q.1
      unfold unisonlaw01_NumBack.p10
      obtain ⟨s4, k4, r4⟩ := back_nums 4998 (by omega) h0 (by omega) hu h1 hrn hrl hru hid 5000 0 s3 e03 r3' (by omega) (by omega)
      rw [Int.natCast_zero] at k4
      simp only [Nat.reduceAdd] at k4
      rw [k4]
      unfold unisonlaw01_NumBack.p0
      have hend := end_run r4 4998
      simp only [Nat.reduceAdd] at hend
      rw [hend, show endR [] 0 = 0 from rfl]
      simp only [bnd, guard_tt, guard_ff, guard_tf, guard_ft, pick_t, pick_f, if_t, if_f, add_i, sub_i, lss_i, leq_i, gtr_i, geq_i, eql_i, neq_i, min_i, max_i, conv_i, len_sl, len_nil, not_b, cells_agg, new_s, fld_p, nil_p, beq_self_eq_true, haw]
      exact ⟨s4, rfl⟩

set_option linter.unusedVariables false in
theorem lawNumBack (a0 : _) (w0 : (shSlice (shInt .u64)).wf a0) (a1 : _) (w1 : (shSlice (shSlice (shInt .u8))).wf a1) : ∃ k s', rn k 7 ([] ++ ((shSlice (shInt .u64)).put a0 (Store.empty)).1 ++ ((shSlice (shSlice (shInt .u8))).put a1 (((shSlice (shInt .u64)).put a0 Store.empty).2)).1) ((shSlice (shSlice (shInt .u8))).put a1 ((shSlice (shInt .u64)).put a0 Store.empty).2).2 = some (.bool true, s') := by
  obtain ⟨v1, l, p1, h1, u1, _, _⟩ := put_num .u64 a0 Store.empty w0
  obtain ⟨v2, rows, p2, h2, u2, e2⟩ := put_rows a1 ((shSlice (shInt .u64)).put a0 Store.empty).2 w1
  obtain ⟨s', k⟩ := law_back (h1.ext e2) h2 (fun x hx => u64_of (u1 x hx)) u2
  rw [p1, p2]
  exact ⟨5001, s', k⟩
end Go.Proofs.Ytppaefjgkocakaa.Sim
