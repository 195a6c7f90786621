/- Seat 01: the law NumOne, its run. No condition. -/
import Derived.Test.YtppaefjgkocakaaSpF
namespace Go.Proofs.Ytppaefjgkocakaa.Sim
set_option linter.unusedSimpArgs false
set_option linter.unusedVariables false

/-- What is read is put as these bytes. -/
theorem numR_one {b : List Int} (hu : ∀ x ∈ b, 0 ≤ x ∧ x < 256) {most : Int} (h : (numR b most).2.2 = 0) : 0 ≤ (numR b most).1 ∧ (numR b most).1 < 18446744073709551616 ∧ b = numB (numR b most).1 ++ (numR b most).2.1 := by
  cases b with
  | nil => simp [numR] at h
  | cons k r =>
    have hk := hu k List.mem_cons_self
    have hur := fun x hx => hu x (List.mem_cons_of_mem k hx)
    unfold numR at h ⊢
    simp only at h ⊢
    split at h
    · simp at h
    split at h
    · simp at h
    split at h
    · simp at h
    split at h
    · simp at h
    rename_i h1 h2 h3 h4
    rw [if_neg h1, if_neg h2, if_neg h3, if_neg h4]
    obtain ⟨kk, rfl⟩ : ∃ kk : Nat, k = kk := ⟨k.toNat, by omega⟩
    simp only [Int.toNat_natCast]
    have hut : ∀ x ∈ r.take kk, 0 ≤ x ∧ x < 256 := fun x hx => hur x (List.mem_of_mem_take hx)
    have hlt : (r.take kk).length = kk := by simp; omega
    have hb := valI_bnd (r.take kk) hut
    rw [hlt] at hb
    have hp : (256 : Int) ^ kk ≤ 256 ^ 8 := by
      have : (256 : Nat) ^ kk ≤ 256 ^ 8 := Nat.pow_le_pow_right (by omega) (by omega)
      rw [← p256 kk, ← p256 8]; exact Int.ofNat_le.2 this
    have h8 : (256 : Int) ^ 8 = 18446744073709551616 := rfl
    refine ⟨hb.1, by omega, ?_⟩
    have hle : leI 8 (valI (r.take kk)) = r.take kk := by
      refine le_valI _ 8 (by omega) hut fun hne q => h3 ⟨?_, ?_⟩
      · have := List.length_pos_iff.2 hne; omega
      · have hpos := List.length_pos_iff.2 hne
        rw [List.getLast_eq_getElem] at q
        simp only [hlt, List.getElem_take] at q
        have e : ((kk : Int) - 1).toNat = kk - 1 := by omega
        rw [e, List.getD_eq_getElem?_getD, List.getElem?_eq_getElem (by omega)]
        simpa using q
    unfold numB
    rw [hle, hlt, List.cons_append, List.take_append_drop]

section
variable {x0 : AV} {s0 : Store} {id mid : Nat} {b : List Int}

theorem one_loop (k : Nat) (hk : 1200 ≤ k) (hk2 : k ≤ 50000) (h0 : IsV s0 x0 .u8 b) (hb : b.length ≤ 300) (hid : s0.next ≤ id) (hmid : id < mid) (hm0 : s0.next ≤ mid) : ∀ (n : Nat) (s : Store) (v : AV) (l cur : List Int) (e : Int), Ext s0 s → mid ≤ s.next → IsRd s id cur e (fun i => i < mid) → OwnV s v .u64 l mid → (∀ x ∈ l, 0 ≤ x ∧ x < 18446744073709551616) →
    (e = 0 → b = numsB l ++ cur ∧ l.length + cur.length ≤ 300) → (e ≠ 0 → l.length ≤ 301) → (∀ x ∈ cur, 0 ≤ x ∧ x < 256) → cur.length ≤ 300 → (if e = 0 then cur.length + 2 else 1) ≤ n →
    ∃ s', unisonlaw01_NumOne.l0 (k + 5) n x0 (.ptr id 0 2) v s = some (.bool true, s')
  | 0, s, v, l, cur, e, _, _, _, _, _, _, _, _, _, hn => by split at hn <;> omega
  | n + 1, s, v, l, cur, e, he, hms, hr, ho, hul, hz, hnz, huc, hcl, hn => by
    have hst : unisonlaw01_NumOne.l0 (k + 5) (n + 1) = fun x0 x3 x4 s => unisonlaw01_NumOne.p4 (k + 5) (unisonlaw01_NumOne.l0 (k + 5) n) x0 x3 x4 s := rfl
    rw [hst]
    clear hst
    simp only
    have haw : ∀ s, rn (k + 5) 8 [] s = some (.bool true, s) := fun s => awake_rn (k + 4) s
    have hleft : rn (k + 5) 10 [.ptr id 0 2] s = some (.int .i64 cur.length, s) := left_run hr (k + 4)
    have herr : rn (k + 5) 11 [.ptr id 0 2] s = some (.int .i64 e, s) := err_run hr (k + 4)
    have hend : rn (k + 5) 13 [.ptr id 0 2] s = some (.int .i64 (endR cur e), s) := end_run hr (k + 3)
    -- the end of the loop
    have fin : (e = 0 → cur = []) → ∃ s', unisonlaw01_NumOne.p2 (k + 5) x0 (.ptr id 0 2) v s = some (.bool true, s') := by
      intro hc
      unfold unisonlaw01_NumOne.p2
      rw [herr, bnd, neq_i]
      by_cases h : e = 0
      · subst h
        have hcur := hc rfl
        subst hcur
        obtain ⟨hbe, hle⟩ := hz rfl
        rw [show ((0 : Int) != 0) = false from rfl, if_f]
        unfold unisonlaw01_NumOne.p1
        have hnil : IsV s .nilsl .u8 [] := .inl ⟨rfl, rfl⟩
        obtain ⟨w, s1, k1, o1, e1⟩ := puts_run hnil ho.is (by simp) (by simp at hle; omega) hul (k + 1) (by omega) (by omega)
        rw [List.nil_append] at o1
        rw [List.append_nil] at hbe
        have k1' : rn (k + 5) 14 [.nilsl, v] s = some (w, s1) := k1
        unfold unisonlaw01_NumOne.p0
        have hx := h0.ext (he.trans e1)
        have hx2 := h0.ext he
        rw [hbe] at hx hx2
        simp only [bnd, guard_tt, guard_ff, guard_tf, guard_ft, pick_t, pick_f, if_t, if_f, add_i, sub_i, lss_i, leq_i, gtr_i, geq_i, eql_i, neq_i, min_i, max_i, conv_i, len_sl, len_nil, not_b, cells_agg, new_s, fld_p, nil_p, hend, show endR [] 0 = 0 from rfl, beq_self_eq_true, k1', strV o1.is, strV hx, strV hx2, aSame_self, eq_str_same, haw]
        exact ⟨s1, rfl⟩
      · have h' : (e != 0) = true := by simpa using h
        rw [h', if_t, haw]
        exact ⟨s, rfl⟩
    unfold unisonlaw01_NumOne.p4
    rw [hleft, bnd, gtr_i]
    by_cases h1 : (cur.length : Int) > 0
    · simp only [decide_eq_true h1, bnd, guard_tt, guard_ff, guard_tf, guard_ft, pick_t, pick_f, if_t, if_f, add_i, sub_i, lss_i, leq_i, gtr_i, geq_i, eql_i, neq_i, min_i, max_i, conv_i, len_sl, len_nil, not_b, cells_agg, new_s, fld_p, nil_p, herr]
      by_cases h2 : e = 0
      · subst h2
        obtain ⟨hbe, hle⟩ := hz rfl
        rw [if_pos rfl] at hn
        have h3 : (l.length : Int) ≤ 300 := by omega
        simp only [beq_self_eq_true, bnd, guard_tt, guard_ff, guard_tf, guard_ft, pick_t, pick_f, if_t, if_f, add_i, sub_i, lss_i, leq_i, gtr_i, geq_i, eql_i, neq_i, min_i, max_i, conv_i, len_sl, len_nil, not_b, cells_agg, new_s, fld_p, nil_p, lenV ho.is, decide_eq_true h3]
        unfold unisonlaw01_NumOne.p3
        obtain ⟨s1, k1, r1, f1⟩ := num_run hr huc (by omega) 18446744073709551615 (k + 3) (by omega)
        have k1' : rn (k + 5) 12 [.ptr id 0 2, .int .u64 18446744073709551615] s = some (.int .u64 (rdNum cur 0 18446744073709551615).1, s1) := k1
        rw [k1', bnd, build_1]
        have e1 := f1.ext he hid
        have ho1 : OwnV s1 v .u64 l mid := by
          rcases ho with q | ⟨j, q, i1, i2, i3⟩
          · exact .inl q
          · exact .inr ⟨j, q, i1, Nat.lt_of_lt_of_le i2 f1.next, by rw [f1.get j i2 (by omega)]; exact i3⟩
        have hms1 : mid ≤ s1.next := Nat.le_trans hms f1.next
        obtain ⟨w, s2, j1, o2, e2, _⟩ := app1V (bytes := 8) ho1 hms1 (rdNum cur 0 18446744073709551615).1 (by omega) (by omega)
        simp only
        rw [j1]
        have e02 : Ext s0 s2 := ⟨Nat.le_trans e1.next e2.next, fun j hj => (e2.get j (by omega)).trans (e1.get j hj)⟩
        have r2 : IsRd s2 id (rdNum cur 0 18446744073709551615).2.1 (rdNum cur 0 18446744073709551615).2.2 (fun i => i < mid) := by
          obtain ⟨bv, q1, q2, q3, q4, q5⟩ := r1
          exact ⟨bv, (e2.get id hmid).trans q1, Nat.lt_of_lt_of_le q2 e2.next, q3, e2.isV q4 fun i x c d f q => (q5 i x c d f q).2, q5⟩
        have hnl := numR_len cur 18446744073709551615
        by_cases hx : (numR cur 18446744073709551615).2.2 = 0
        · have hrd : rdNum cur 0 18446744073709551615 = numR cur 18446744073709551615 := by unfold rdNum; rw [if_neg (by simp), if_neg (by simp [hx])]
          rw [hrd] at o2 r2
          obtain ⟨a1, a2, a3⟩ := numR_one huc hx
          generalize numR cur 18446744073709551615 = R at *
          obtain ⟨m, left, er⟩ := R
          simp only at *
          subst hx
          have hl1 : 1 ≤ (numB m).length := by simp [numB]
          have hlen : cur.length = (numB m).length + left.length := by rw [a3, List.length_append]
          refine one_loop k hk hk2 h0 hb hid hmid hm0 n s2 w (l ++ [m]) left 0 e02 (Nat.le_trans hms1 e2.next) r2 o2 (fun x hx => ?_) (fun _ => ⟨?_, by rw [List.length_append, List.length_singleton]; omega⟩) (fun q => absurd rfl q) (fun x hx => huc x (by rw [a3]; exact List.mem_append_right _ hx)) (by omega) (by rw [if_pos rfl]; omega)
          · rcases List.mem_append.1 hx with q | q
            · exact hul x q
            · rw [List.mem_singleton.1 q]; exact ⟨a1, a2⟩
          · have : numsB (l ++ [m]) = numsB l ++ numB m := by simp [numsB]
            rw [this, List.append_assoc, ← a3]; exact hbe
        · have hrd : rdNum cur 0 18446744073709551615 = (0, cur, (numR cur 18446744073709551615).2.2) := by unfold rdNum; rw [if_neg (by simp), if_pos hx]
          rw [hrd] at o2 r2
          refine one_loop k hk hk2 h0 hb hid hmid hm0 n s2 w (l ++ [0]) cur _ e02 (Nat.le_trans hms1 e2.next) r2 o2 (fun x hx => ?_) (fun q => absurd q hx) (fun _ => by simp; omega) huc hcl (by rw [if_neg hx]; omega)
          rcases List.mem_append.1 hx with q | q
          · exact hul x q
          · rw [List.mem_singleton.1 q]; omega
      · have h2' : (e == 0) = false := by simpa using h2
        simp only [h2', bnd, guard_tt, guard_ff, guard_tf, guard_ft, pick_t, pick_f, if_t, if_f, add_i, sub_i, lss_i, leq_i, gtr_i, geq_i, eql_i, neq_i, min_i, max_i, conv_i, len_sl, len_nil, not_b, cells_agg, new_s, fld_p, nil_p]
        exact fin fun q => absurd q h2
    · simp only [decide_eq_false h1, bnd, guard_tt, guard_ff, guard_tf, guard_ft, pick_t, pick_f, if_t, if_f, add_i, sub_i, lss_i, leq_i, gtr_i, geq_i, eql_i, neq_i, min_i, max_i, conv_i, len_sl, len_nil, not_b, cells_agg, new_s, fld_p, nil_p]
      exact fin fun _ => List.length_eq_zero_iff.1 (by omega)
end

theorem law_one {s : Store} {x0 : AV} {b : List Int} (h0 : IsV s x0 .u8 b) (hu : ∀ x ∈ b, 0 ≤ x ∧ x < 256) : ∃ s', rn 5001 3 [x0] s = some (.bool true, s') := by
  rw [show 5001 = 5000 + 1 from rfl, unisonlaw01_NumOne.eq]
  unfold unisonlaw01_NumOne.f unisonlaw01_NumOne.p8 unisonlaw01_NumOne.p7
  have haw : ∀ s, rn 5000 8 [] s = some (.bool true, s) := fun s => awake_rn 4999 s
  rw [lenV h0, gtr_i]
  by_cases hb : (b.length : Int) > 300
  · rw [decide_eq_true hb, if_t, haw]
    exact ⟨s, rfl⟩
  · rw [decide_eq_false hb, if_f]
    unfold unisonlaw01_NumOne.p6
    obtain ⟨id, s1, k1, r1, e1⟩ := new_run h0 (by omega) 4998
    simp only [Nat.reduceAdd] at k1
    rw [k1, bnd]
    unfold unisonlaw01_NumOne.p5
    rw [build_0]
    simp only
    have e2 := Ext.push s1 (.cells [] false)
    have hq : s.next ≤ id ∧ id < s1.next := by obtain ⟨_, _, _, q, _⟩ := r1; exact q
    have r2 := (r1.ext e2).mono (lo' := fun i => i < s1.next) fun i q => q.2
    have o2 : OwnV (s1.push (.cells [] false)) (.sl s1.next 0 0 1 0) .u64 [] s1.next := .inr ⟨s1.next, rfl, Nat.le_refl _, Nat.lt_succ_self _, by rw [get_push, if_pos rfl]; rfl⟩
    exact one_loop 4995 (by omega) (by omega) h0 (by omega) hq.1 hq.2 e1.next 5000 _ _ [] b 0 (e1.trans e2) e2.next r2 o2 (fun x hx => by simp at hx) (fun _ => ⟨rfl, by simp; omega⟩) (fun q => absurd rfl q) hu (by omega) (by rw [if_pos rfl]; omega)

set_option linter.unusedVariables false in
theorem lawNumOne (a0 : _) (w0 : (shSlice (shInt .u8)).wf a0) : ∃ k s', rn k 3 ([] ++ ((shSlice (shInt .u8)).put a0 (Store.empty)).1) ((shSlice (shInt .u8)).put a0 Store.empty).2 = some (.bool true, s') := by
  obtain ⟨v0, b, p0, h0, u0, _, _⟩ := put_num .u8 a0 Store.empty w0
  obtain ⟨s', k⟩ := law_one h0 fun x hx => u8_of (u0 x hx)
  rw [p0]
  exact ⟨5001, s', k⟩
end Go.Proofs.Ytppaefjgkocakaa.Sim
