/- Seat 06: the law WireTurned, its run. No condition. -/
import Derived.Test.YtkfdgegmahbkiaaB06V
import Derived.Test.YtkfdgegmahbkiaaSimQ
import Derived.Test.YtkfdgegmahbkiaaFunTurned
namespace Go.Proofs.Ytkfdgegmahbkiaa.Sim
set_option linter.unusedSimpArgs false
set_option linter.unusedVariables false

theorem lsb_shr (w : BitVec 32) (i : Nat) : ((((w >>> i).toNat % 2 : Nat) : Int) == 1) = w.getLsbD i := by
  have h : w.getLsbD i = (w >>> i).getLsbD 0 := by rw [BitVec.getLsbD_ushiftRight, Nat.add_zero]
  rw [h]
  show _ = (w >>> i).toNat.testBit 0
  rw [Nat.testBit_zero]
  have : (w >>> i).toNat % 2 = 0 ∨ (w >>> i).toNat % 2 = 1 := by omega
  rcases this with q | q <;> rw [q] <;> rfl
theorem shl_8 : ∀ t : Fin 8, IntKind.u8.wrap (1 * 2 ^ min ((t.val : Int)).toNat IntKind.u8.bits) = 2 ^ t.val := by decide +kernel
theorem turn_loop (k : Nat) {id : Nat} {b : List Int} (hu : ∀ x ∈ b, 0 ≤ x ∧ x < 256) {a : Nat} {w : BitVec 32} (ha : a + 32 ≤ 8 * b.length) (hb : b.length ≤ 1000000) : ∀ (n i : Nat) (s : Store), id < s.next → s.get id = .cells ((flips b a w i).map (.int .u8)) false → i ≤ 32 → 32 - i < n →
    ∃ s', F6.l0 k n (.int .i64 (a : Int)) (rg w) (.sl id 0 b.length 1 b.length) (.int .i64 (i : Int)) s = F6.p0 k (.sl id 0 b.length 1 b.length) s' ∧ s'.get id = .cells ((flips b a w 32).map (.int .u8)) false ∧ s'.next = s.next
  | 0, i, _, _, _, hi, hn => by omega
  | n + 1, i, s, hid, hg, hi, hn => by
    have hs : F6.l0 k (n + 1) = fun x1 x2 x7 x9 s => F6.p7 k (F6.l0 k n) x1 x2 x7 x9 s := rfl
    rw [hs]
    clear hs
    simp only
    unfold F6.p7
    rw [lss_i]
    by_cases h : i < 32
    · rw [decide_eq_true (show (i : Int) < 32 by omega), if_t]
      unfold F6.p6
      rw [shr_rg w i (by omega) .i64]
      have hr : ∀ f : AV → Rz, aBin .rem (rg (w >>> i)) (.int .u32 2) f = f (.int .u32 (((w >>> i).toNat % 2 : Nat) : Int)) := fun f => by
        unfold rg; rw [rem_i (by omega) (by omega)]; rfl
      rw [hr, eql_i, lsb_shr]
      unfold F6.p5
      have hw1 : IntKind.i64.wrap ((i : Int) + 1) = ((i + 1 : Nat) : Int) := by rw [w_i64 (by omega) (by omega)]; omega
      have hl := flips_len b a w i
      by_cases hbit : w.getLsbD i = true
      · rw [hbit, if_t]
        unfold F6.p3 F6.p2 F6.p1
        have hadd : IntKind.i64.wrap ((a : Int) + (i : Int)) = ((a + i : Nat) : Int) := by rw [w_i64 (by omega) (by omega)]; omega
        have hq : ∀ f : AV → Rz, aBin .quo (.int .i64 ((a + i : Nat) : Int)) (.int .i64 8) f = f (.int .i64 (((a + i) / 8 : Nat) : Int)) := fun f => by
          rw [quo_i (by omega) (by omega), w_i64 (by omega) (by omega)]; rfl
        have hm : ∀ f : AV → Rz, aBin .rem (.int .i64 ((a + i : Nat) : Int)) (.int .i64 8) f = f (.int .i64 (((a + i) % 8 : Nat) : Int)) := fun f => by
          rw [rem_i (by omega) (by omega)]; rfl
        have hsh : ∀ f : AV → Rz, aShift .shl (.int .u8 1) (.int .i64 (((a + i) % 8 : Nat) : Int)) f = f (.int .u8 (2 ^ ((a + i) % 8))) := fun f => by
          have := shl_8 ⟨(a + i) % 8, by omega⟩
          simp only [aShift]
          rw [if_neg (by omega), this]
        have hi8 : (a + i) / 8 < b.length := by omega
        have hix : ∀ f : AV → Rz, aIndexSl 1 (.sl id 0 b.length 1 b.length) (.int .i64 (((a + i) / 8 : Nat) : Int)) f = f (.ptr id ((a + i) / 8) b.length) := fun f => by
          rw [idxV (by omega) (by omega), Int.toNat_natCast, Nat.zero_add]
        have hld : ∀ f : AV → Rz, aLoad1 (.ptr id ((a + i) / 8) b.length) s f = f (.int .u8 ((flips b a w i).getD ((a + i) / 8) 0)) := fun f => by
          have := loadV hg (i := (a + i) / 8) (by omega) f
          rwa [hl] at this
        have hx : ∀ (x : Int) (f : AV → Rz), aBin .xor (.int .u8 x) (.int .u8 (2 ^ ((a + i) % 8))) f = f (.int .u8 (x8 x ((a + i) % 8))) := fun x f => by
          have h8 := x8_u8 x ((a + i) % 8)
          show f (.int .u8 (IntKind.u8.wrap ((BitVec.ofInt 8 x ^^^ BitVec.ofInt 8 (2 ^ ((a + i) % 8))).toNat : Int))) = _
          have : ((BitVec.ofInt 8 x ^^^ BitVec.ofInt 8 (2 ^ ((a + i) % 8))).toNat : Int) = x8 x ((a + i) % 8) := rfl
          rw [this, w_u8 h8.1 h8.2]
        have hst : ∀ (y : Int) (f : Store → Rz), aStore 1 (.ptr id ((a + i) / 8) b.length) (.int .u8 y) s f = f (s.set id (.cells (((flips b a w i).set ((a + i) / 8) y).map (.int .u8)) false)) := fun y f => by
          have := storeV hg (i := (a + i) / 8) (n := y) (by omega) f
          rwa [hl] at this
        have hfl : (flips b a w i).set ((a + i) / 8) (x8 ((flips b a w i).getD ((a + i) / 8) 0) ((a + i) % 8)) = flips b a w (i + 1) := by
          show _ = if w.getLsbD i = true then flipI (flips b a w i) (a + i) else flips b a w i
          rw [if_pos hbit]; rfl
        simp only [add_i, hadd, bnd, hq, hix, hld, hm, hsh, hx, hst, hw1, hfl]
        obtain ⟨s', z1, z2, z3⟩ := turn_loop k hu ha hb n (i + 1) (s.set id (.cells ((flips b a w (i + 1)).map (.int .u8)) false)) hid (by rw [get_set, if_pos rfl]) (by omega) (by omega)
        exact ⟨s', z1, z2, z3⟩
      · have hbit' : w.getLsbD i = false := by simpa using hbit
        rw [hbit', if_f]
        unfold F6.p4 F6.p1
        rw [add_i, hw1]
        have hfl : flips b a w (i + 1) = flips b a w i := by
          show (if w.getLsbD i = true then flipI (flips b a w i) (a + i) else flips b a w i) = _
          rw [if_neg hbit]
        exact turn_loop k hu ha hb n (i + 1) s hid (by rw [hfl]; exact hg) (by omega) (by omega)
    · rw [decide_eq_false (show ¬ (i : Int) < 32 by omega), if_f]
      have : i = 32 := by omega
      subst this
      exact ⟨s, rfl, hg, rfl⟩
def greatB (x : FI) : Bool := (((decide ((x.est.length : Int) > 100) || decide ((x.aux.length : Int) > 100)) || decide ((x.done.length : Int) > 100)) || decide ((x.held.length : Int) > 100)) || decide ((x.data.length : Int) > 2000)
theorem great_run6 {s : Store} {x : FI} {c : AVs} (hc : IsFc s c x) (k : Nat) : rn (k + 1) 15 [.agg (fcs x c)] s = some (.bool (greatB x), s.push (.cells (fcs x c) false)) := by
  rw [F15.eq]
  unfold F15.f F15.p0 greatB
  rw [cells_agg, new_s, show (fcs x c).length = 16 from rfl]
  have L := FLd.mk' (s := s.push (.cells (fcs x c) false)) (F := s.next) (x := x) (c := c) (ro := false) (by rw [get_push, if_pos rfl]; rfl)
  generalize s.push (.cells (fcs x c) false) = t at *
  simp only [bnd, not_b, fld_p, Nat.zero_add, Nat.add_zero, gn_some, gn_same, gn_v, gv_gv, gn_fa, gn_ld, gn_ldn, gn_len, gn_b1, gn_b2, gn_un, gn_pk, gn_cl, pn_and, pn_or, gtr_i, L.l11, L.l12, L.l13, L.l14, L.l15, len_runs hc.est, len_runs hc.aux, lenV hc.done, lenV hc.held, lenV hc.data]
abbrev shR6 : Sh (Option (List (Int × Int × Int))) := shSlice (shPair (shInt .u8) (shPair (shInt .u64) (shInt .u64)))
abbrev shF6 : Sh ((Int × Int × Int) × (Int × Int) × Int × Int × Int × Int × Int × Int × Option (List (Int × Int × Int)) × Option (List (Int × Int × Int)) × Option (List Int) × Option (List Int) × Option (List Int)) :=
  shPair (shPair (shInt .u8) (shPair (shInt .u8) (shInt .u8))) (shPair (shPair (shInt .u8) (shInt .u64)) (shPair (shInt .u64) (shPair (shInt .u32) (shPair (shInt .u32) (shPair (shInt .u32) (shPair (shInt .u64) (shPair (shInt .u64) (shPair (shSlice (shPair (shInt .u8) (shPair (shInt .u64) (shInt .u64)))) (shPair (shSlice (shPair (shInt .u8) (shPair (shInt .u64) (shInt .u64)))) (shPair (shSlice (shInt .u64)) (shPair (shSlice (shInt .u64)) (shSlice (shInt .u8)))))))))))))
theorem u32_of6 {n : Int} (h : (Lit.int .u32 n).wf = true) : 0 ≤ n ∧ n < 4294967296 := by
  simp [Lit.wf, IntKind.min, IntKind.max, IntKind.bits, IntKind.signed] at h
  omega
theorem put_fi (z : _) (s : Store) (hw : shF6.wf z) : ∃ (c : AVs) (x : FI), (shF6.put z s).1 = fcs x c ∧ IsFc (shF6.put z s).2 c x ∧ (greatB x = false → WfF x ∧ x.data.length ≤ 2000) ∧ Ext s (shF6.put z s).2 := by
  obtain ⟨⟨h0, h1, h2⟩, ⟨i0, i1⟩, sq, at_, of, sz, inst, rnd, est, aux, done, held, data⟩ := z
  obtain ⟨⟨w0, w1, w2⟩, ⟨w3, w4⟩, w5, w6, w7, w8, w9, w10, w11, w12, w13, w14, w15⟩ := hw
  obtain ⟨v11, l11, p11, i11, r11, e11⟩ := put_runs est s w11
  obtain ⟨v12, l12, p12, i12, r12, e12⟩ := put_runs aux _ w12
  obtain ⟨v13, l13, p13, i13, r13, _, e13⟩ := put_num .u64 done _ w13
  obtain ⟨v14, l14, p14, i14, r14, _, e14⟩ := put_num .u64 held _ w14
  obtain ⟨v15, l15, p15, i15, r15, _, e15⟩ := put_num .u8 data _ w15
  refine ⟨⟨v11, v12, v13, v14, v15⟩, ⟨h0, h1, h2, i0, i1, sq, at_, of, sz, inst, rnd, l11, l12, l13, l14, l15⟩, ?_, ⟨(((i11.ext e12).ext e13).ext e14).ext e15, ((i12.ext e13).ext e14).ext e15, (i13.ext e14).ext e15, i14.ext e15, i15⟩, fun hg => ?_, (((e11.trans e12).trans e13).trans e14).trans e15⟩
  · show ([AV.int .u8 h0] ++ ([AV.int .u8 h1] ++ [AV.int .u8 h2])) ++ (([AV.int .u8 i0] ++ [AV.int .u64 i1]) ++ ([AV.int .u64 sq] ++ ([AV.int .u32 at_] ++ ([AV.int .u32 of] ++ ([AV.int .u32 sz] ++ ([AV.int .u64 inst] ++ ([AV.int .u64 rnd] ++ ((shR6.put est s).1 ++ ((shR6.put aux (shR6.put est s).2).1 ++ (((shSlice (shInt .u64)).put done (shR6.put aux (shR6.put est s).2).2).1 ++ (((shSlice (shInt .u64)).put held ((shSlice (shInt .u64)).put done (shR6.put aux (shR6.put est s).2).2).2).1 ++ ((shSlice (shInt .u8)).put data ((shSlice (shInt .u64)).put held ((shSlice (shInt .u64)).put done (shR6.put aux (shR6.put est s).2).2).2).2).1))))))))))) = _
    rw [p11, p12, p13, p14, p15]
    rfl
  · unfold greatB at hg
    simp only [Bool.or_eq_false_iff, decide_eq_false_iff_not] at hg
    obtain ⟨⟨⟨⟨g1, g2⟩, g3⟩, g4⟩, g5⟩ := hg
    have g1 : ¬ (l11.length : Int) > 100 := g1
    have g2 : ¬ (l12.length : Int) > 100 := g2
    have g3 : ¬ (l13.length : Int) > 100 := g3
    have g4 : ¬ (l14.length : Int) > 100 := g4
    have g5 : ¬ (l15.length : Int) > 2000 := g5
    have q1 : l11.length ≤ 100 := by omega
    have q2 : l12.length ≤ 100 := by omega
    have q3 : l13.length ≤ 100 := by omega
    have q4 : l14.length ≤ 100 := by omega
    have q5 : l15.length ≤ 2000 := by omega
    have q6 : l15.length ≤ 65536 := by omega
    refine ⟨⟨u8_of w0, u8_of w1, u8_of w2, u8_of w3, u64_of w4, u64_of w5, u32_of6 w6, u32_of6 w7, u32_of6 w8, u64_of w9, u64_of w10, r11, q1, r12, q2, fun n hn => u64_of (r13 n hn), q3, fun n hn => u64_of (r14 n hn), q4, fun n hn => u8_of (r15 n hn), q6⟩, q5⟩
theorem bodyW_u8 {x : FI} (hw : WfF x) : ∀ y ∈ bodyW x, 0 ≤ y ∧ y < 256 := by
  have hrow : ∀ r : Int, ∀ y ∈ numB r, 0 ≤ y ∧ y < 256 := fun r => numB_u8 r
  have hruns : ∀ l : List Rn, ∀ y ∈ runsW l, 0 ≤ y ∧ y < 256 := fun l y hy => by
    obtain ⟨z, hz, hy⟩ := List.mem_flatten.1 hy
    obtain ⟨r, _, rfl⟩ := List.mem_map.1 hz
    unfold runW at hy
    rcases List.mem_append.1 hy with h | h
    · exact hrow _ y h
    · rcases List.mem_append.1 h with h | h <;> exact hrow _ y h
  have hnums : ∀ l : List Int, ∀ y ∈ numsW l, 0 ≤ y ∧ y < 256 := numsB_u8
  intro y hy
  rcases List.mem_append.1 hy with h | h
  · simp only [List.mem_cons, List.not_mem_nil, or_false] at h
    have q1 := hw.kd
    have q2 := hw.src
    have q3 := hw.dst
    omega
  · obtain ⟨o, _, ho⟩ := List.mem_flatMap.1 h
    cases o with
    | num j => exact hrow _ y ho
    | small j => exact hrow _ y ho
    | who j => exact hrow _ y ho
    | data j =>
      rcases List.mem_append.1 ho with h | h
      · exact hrow _ y h
      · exact hw.data y h
    | runs j =>
      unfold opB at ho
      simp only at ho
      split at ho <;> (rcases List.mem_append.1 ho with h | h; exact hrow _ y h; exact hruns _ y h)
    | nums j =>
      unfold opB at ho
      simp only at ho
      split at ho <;> (rcases List.mem_append.1 ho with h | h; exact hrow _ y h; exact hnums _ y h)
theorem bodyW_len {x : FI} (hw : WfF x) (hd : x.data.length ≤ 3000) : (bodyW x).length ≤ 22000 := by
  have h : ∀ L : List WOp, (L.flatMap (opB x)).length ≤ L.length * 3100 := fun L => by
    induction L with
    | nil => simp
    | cons o L ih =>
      have := opB_len (o := o) hw hd
      rw [List.flatMap_cons, List.length_append, List.length_cons]
      omega
  have h1 := h (wopsOf x.kd)
  have h2 := wops_len x.kd
  unfold bodyW
  simp only [List.length_append, List.length_cons, List.length_nil]
  omega
theorem law_turned {s : Store} {c : AVs} {x : FI} {a : Int} {w : Int} (hc : IsFc s c x) (hwf : greatB x = false → WfF x ∧ x.data.length ≤ 2000) (ha : -9223372036854775808 ≤ a ∧ a < 9223372036854775808) (hw : 0 ≤ w ∧ w < 4294967296) : ∃ s', rn 40013 6 [.agg (fcs x c), .int .i64 a, .int .u32 w] s = some (.bool true, s') := by
  have aw : ∀ st : Store, rn 40012 7 [] st = some (.bool true, st) := fun st => awake_rn 40011 st
  rw [F6.eq]
  unfold F6.f F6.p13
  rw [cells_agg, new_s, show (fcs x c).length = 16 from rfl]
  have hg : (s.push (.cells (fcs x c) false)).get s.next = .cells (fcs x c) false := by rw [get_push, if_pos rfl]
  have e1 := Ext.push s (.cells (fcs x c) false)
  have hlt : s.next < (s.push (.cells (fcs x c) false)).next := Nat.lt_succ_self _
  have hc1 := hc.ext e1
  generalize s.push (.cells (fcs x c) false) = t at *
  unfold F6.p12
  have ld : ∀ {u : Store}, Ext t u → ∀ f : AV → Rz, aLoadN 16 (.ptr s.next 0 16) u f = f (.agg (fcs x c)) := fun e f => rld_all (n := 16) ((e.get _ hlt).trans hg) rfl f
  have kg : rn 40012 15 [.agg (fcs x c)] t = some (.bool (greatB x), t.push (.cells (fcs x c) false)) := great_run6 hc1 40011
  have e2 := Ext.push t (.cells (fcs x c) false)
  rw [ld (Ext.refl t), kg, bnd]
  simp only
  generalize t.push (.cells (fcs x c) false) = t2 at *
  cases hgr : greatB x with
  | true => exact ⟨t2, by simp only [bnd, guard_tt, guard_ff, guard_tf, guard_ft, pick_t, pick_f, if_t, if_f, add_i, sub_i, lss_i, leq_i, gtr_i, geq_i, eql_i, neq_i, min_i, max_i, conv_i, len_sl, len_nil, not_b, cells_agg, new_s, fld_p, nil_p, guard_skip, aw]⟩
  | false =>
  obtain ⟨wf, hd⟩ := hwf hgr
  obtain ⟨t3, k3, e3⟩ := rmay_run (hc1.ext e2) wf 40002 (by omega) (by omega)
  have k3 : rn 40012 16 [.agg (fcs x c)] t2 = some (.bool (mayD x), t3) := k3
  rw [may_eq wf] at k3
  have e23 := e2.trans e3
  simp only [guard_ff, bnd, ld e2, k3, not_b, pick_f]
  cases hm : mayC x with
  | false => exact ⟨t3, by simp only [bnd, guard_tt, guard_ff, guard_tf, guard_ft, pick_t, pick_f, if_t, if_f, add_i, sub_i, lss_i, leq_i, gtr_i, geq_i, eql_i, neq_i, min_i, max_i, conv_i, len_sl, len_nil, not_b, cells_agg, new_s, fld_p, nil_p, guard_skip, Bool.not_false, aw]⟩
  | true =>
  simp only [Bool.not_true, guard_ff, bnd, eql_i, pick_f]
  by_cases hz : w = 0
  · rw [show (w == 0) = true from by simp [hz], if_t, aw]
    exact ⟨t3, rfl⟩
  rw [show (w == 0) = false from by simpa using hz, if_f]
  unfold F6.p11
  obtain ⟨v, t4, k4, o4, e4⟩ := put_run6 (hc1.ext e23) wf (by omega) 40000 (by omega) (by omega)
  have k4 : rn 40012 13 [.agg (fcs x c)] t3 = some (.tuple [v, .int .i64 (if mayC x = true then 0 else 1)], t4) := k4
  rw [if_pos hm] at k4
  obtain ⟨v4, o4⟩ := o4 hm
  rw [ld e23, k4, bnd]
  simp only [x2_0, x2_1]
  unfold F6.p10
  have h11 := whole_11 hm
  have hbu := bodyW_u8 wf
  have hwl : (wholeB (bodyW x)).length ≤ 30000 := by
    have := wholeB_len (bodyW x)
    have := bodyW_len wf (by omega)
    omega
  generalize hBd : wholeB (bodyW x) = b at *
  rw [neq_i, show ((0 : Int) != 0) = false from rfl]
  simp only [guard_ff, bnd, lenV v4, lss_i, pick_f]
  rw [decide_eq_false (show ¬ (b.length : Int) < 11 by omega), if_f]
  unfold F6.p9
  have hmul : ∀ f : AV → Rz, aBin .mul (.int .i64 8) (.int .i64 (b.length : Int)) f = f (.int .i64 (8 * (b.length : Int))) := fun f => by
    have : IntKind.i64.wrap (8 * (b.length : Int)) = 8 * (b.length : Int) := w_i64 (by omega) (by omega)
    simp [aBin, intBin, this]
  have hsub : IntKind.i64.wrap (8 * (b.length : Int) - 32) = 8 * (b.length : Int) - 32 := w_i64 (by omega) (by omega)
  rw [lss_i]
  by_cases c1 : a < 0
  · rw [decide_eq_true c1]
    exact ⟨t4, by simp only [bnd, guard_tt, guard_ff, guard_tf, guard_ft, pick_t, pick_f, if_t, if_f, add_i, sub_i, lss_i, leq_i, gtr_i, geq_i, eql_i, neq_i, min_i, max_i, conv_i, len_sl, len_nil, not_b, cells_agg, new_s, fld_p, nil_p, guard_skip, aw]⟩
  rw [decide_eq_false c1]
  simp only [guard_ff, bnd, lenV v4, hmul, sub_i, hsub, gtr_i, pick_f]
  by_cases c2 : a > 8 * (b.length : Int) - 32
  · rw [decide_eq_true c2, if_t, aw]
    exact ⟨t4, rfl⟩
  rw [decide_eq_false c2, if_f]
  unfold F6.p8
  rcases o4 with ⟨_, q⟩ | ⟨id, rfl, i1, i2, i3⟩
  · rw [q] at h11; simp at h11
  have hb : ∀ y ∈ b, 0 ≤ y ∧ y < 256 := by rw [← hBd]; exact wholeB_u8 hbu
  have hrg : AV.int .u32 w = rg (BitVec.ofInt 32 w) := rg_of hw.1 hw.2
  have hw0 : BitVec.ofInt 32 w ≠ 0#32 := by
    intro q
    have := congrArg BitVec.toNat q
    rw [BitVec.toNat_ofInt] at this
    simp at this
    omega
  obtain ⟨t5, k5, g5, n5⟩ := turn_loop 40012 (id := id) hb (a := a.toNat) (w := BitVec.ofInt 32 w) (by omega) (by omega) 40012 0 t4 i2 i3 (by omega) (by omega)
  rw [Int.natCast_zero, show ((a.toNat : Nat) : Int) = a by omega] at k5
  rw [hrg, k5]
  unfold F6.p0
  have hflu := flips_u8 hb a.toNat (BitVec.ofInt 32 w) 32
  have hfll := flips_len b a.toNat (BitVec.ofInt 32 w) 32
  have v5 : IsV t5 (.sl id 0 b.length 1 b.length) .u8 (flips b a.toNat (BitVec.ofInt 32 w) 32) := .inr ⟨id, 0, flips b a.toNat (BitVec.ofInt 32 w) 32, false, by rw [hfll], by omega, g5, by omega, by simp⟩
  obtain ⟨c6, t6, k6, f6, w6, e6⟩ := get_run6 v5 hflu 40000 (by omega) (by omega) (by omega)
  have k6 : rn 40012 8 [.sl id 0 b.length 1 b.length] t5 = some (.tuple [.agg (fcs (getI (flips b a.toNat (BitVec.ofInt 32 w) 32)).1 c6), .int .i64 (getI (flips b a.toNat (BitVec.ofInt 32 w) 32)).2], t6) := k6
  have hgt : getI (flips b a.toNat (BitVec.ofInt 32 w) 32) = (FI.zero, 5) := by
    have hmk : b = markB (numB (((bodyW x).length : Int) + 4) ++ bodyW x) := hBd.symm
    rw [hmk]
    refine turned_law (fun y hy => ?_) hw0 (by rw [← hmk]; omega)
    rcases List.mem_append.1 hy with h | h
    · exact numB_u8 _ y h
    · exact hbu y h
  rw [hgt] at k6 f6 w6
  rw [k6, bnd]
  simp only [x2_0, x2_1]
  rw [new_all (n := 16) (s := t6) rfl rfl]
  have e7 := Ext.push t6 (.cells (fcs FI.zero c6) false)
  have g7 : (t6.push (.cells (fcs FI.zero c6) false)).get t6.next = .cells (fcs FI.zero c6) false := by rw [get_push, if_pos rfl]
  have f7 := f6.ext e7
  generalize t6.push (.cells (fcs FI.zero c6) false) = t7 at *
  obtain ⟨t8, k8, e8⟩ := same_run6 f7 (c' := cN) (isfc_nil rfl rfl rfl rfl rfl) w6 40002 (by omega) (by omega)
  have k8 : rn 40012 10 [.agg (fcs FI.zero c6), .agg (fcs FI.zero cN)] t7 = some (.bool true, t8) := k8
  have hbz : ∀ {α : Type} (f : List AV → Option α), aBuild [] [AV.int .u8 0, AV.int .u8 0, AV.int .u8 0, AV.int .u8 0, AV.int .u64 0, AV.int .u64 0, AV.int .u32 0, AV.int .u32 0, AV.int .u32 0, AV.int .u64 0, AV.int .u64 0, AV.nilsl, AV.nilsl, AV.nilsl, AV.nilsl, AV.nilsl] f = f (fcs FI.zero cN) := fun f => rfl
  have ld7 : ∀ f : AV → Rz, aLoadN 16 (.ptr t6.next 0 16) t7 f = f (.agg (fcs FI.zero c6)) := fun f => rld_all (n := 16) g7 rfl f
  refine ⟨t8, ?_⟩
  simp only [bnd, guard_tt, guard_ff, guard_tf, guard_ft, pick_t, pick_f, if_t, if_f, add_i, sub_i, lss_i, leq_i, gtr_i, geq_i, eql_i, neq_i, min_i, max_i, conv_i, len_sl, len_nil, not_b, cells_agg, new_s, fld_p, nil_p, beq_self_eq_true, ld7, hbz, k8, aw]
set_option linter.unusedVariables false in
theorem lawWireTurned (a0 : _) (w0 : (Sh.agg (shPair (shPair (shInt .u8) (shPair (shInt .u8) (shInt .u8))) (shPair (shPair (shInt .u8) (shInt .u64)) (shPair (shInt .u64) (shPair (shInt .u32) (shPair (shInt .u32) (shPair (shInt .u32) (shPair (shInt .u64) (shPair (shInt .u64) (shPair (shSlice (shPair (shInt .u8) (shPair (shInt .u64) (shInt .u64)))) (shPair (shSlice (shPair (shInt .u8) (shPair (shInt .u64) (shInt .u64)))) (shPair (shSlice (shInt .u64)) (shPair (shSlice (shInt .u64)) (shSlice (shInt .u8))))))))))))))).wf a0) (a1 : _) (w1 : (shInt .i64).wf a1) (a2 : _) (w2 : (shInt .u32).wf a2) : ∃ k s', rn k 6 ([] ++ ((Sh.agg (shPair (shPair (shInt .u8) (shPair (shInt .u8) (shInt .u8))) (shPair (shPair (shInt .u8) (shInt .u64)) (shPair (shInt .u64) (shPair (shInt .u32) (shPair (shInt .u32) (shPair (shInt .u32) (shPair (shInt .u64) (shPair (shInt .u64) (shPair (shSlice (shPair (shInt .u8) (shPair (shInt .u64) (shInt .u64)))) (shPair (shSlice (shPair (shInt .u8) (shPair (shInt .u64) (shInt .u64)))) (shPair (shSlice (shInt .u64)) (shPair (shSlice (shInt .u64)) (shSlice (shInt .u8))))))))))))))).put a0 (Store.empty)).1 ++ ((shInt .i64).put a1 (((Sh.agg (shPair (shPair (shInt .u8) (shPair (shInt .u8) (shInt .u8))) (shPair (shPair (shInt .u8) (shInt .u64)) (shPair (shInt .u64) (shPair (shInt .u32) (shPair (shInt .u32) (shPair (shInt .u32) (shPair (shInt .u64) (shPair (shInt .u64) (shPair (shSlice (shPair (shInt .u8) (shPair (shInt .u64) (shInt .u64)))) (shPair (shSlice (shPair (shInt .u8) (shPair (shInt .u64) (shInt .u64)))) (shPair (shSlice (shInt .u64)) (shPair (shSlice (shInt .u64)) (shSlice (shInt .u8))))))))))))))).put a0 Store.empty).2)).1 ++ ((shInt .u32).put a2 (((shInt .i64).put a1 ((Sh.agg (shPair (shPair (shInt .u8) (shPair (shInt .u8) (shInt .u8))) (shPair (shPair (shInt .u8) (shInt .u64)) (shPair (shInt .u64) (shPair (shInt .u32) (shPair (shInt .u32) (shPair (shInt .u32) (shPair (shInt .u64) (shPair (shInt .u64) (shPair (shSlice (shPair (shInt .u8) (shPair (shInt .u64) (shInt .u64)))) (shPair (shSlice (shPair (shInt .u8) (shPair (shInt .u64) (shInt .u64)))) (shPair (shSlice (shInt .u64)) (shPair (shSlice (shInt .u64)) (shSlice (shInt .u8))))))))))))))).put a0 Store.empty).2).2)).1) ((shInt .u32).put a2 ((shInt .i64).put a1 ((Sh.agg (shPair (shPair (shInt .u8) (shPair (shInt .u8) (shInt .u8))) (shPair (shPair (shInt .u8) (shInt .u64)) (shPair (shInt .u64) (shPair (shInt .u32) (shPair (shInt .u32) (shPair (shInt .u32) (shPair (shInt .u64) (shPair (shInt .u64) (shPair (shSlice (shPair (shInt .u8) (shPair (shInt .u64) (shInt .u64)))) (shPair (shSlice (shPair (shInt .u8) (shPair (shInt .u64) (shInt .u64)))) (shPair (shSlice (shInt .u64)) (shPair (shSlice (shInt .u64)) (shSlice (shInt .u8))))))))))))))).put a0 Store.empty).2).2).2 = some (.bool true, s') := by
  obtain ⟨c, x, p0, h0, hw, e0⟩ := put_fi a0 Store.empty w0
  have p1 : ((Sh.agg shF6).put a0 Store.empty).1 = [.agg (fcs x c)] := by
    show [AV.agg (shF6.put a0 Store.empty).1] = _
    rw [p0]
  obtain ⟨s', k⟩ := law_turned (a := a1) (w := a2) h0 hw (i64_of w1) (u32_of6 w2)
  refine ⟨40013, s', ?_⟩
  rw [p1]
  exact k
end Go.Proofs.Ytkfdgegmahbkiaa.Sim
