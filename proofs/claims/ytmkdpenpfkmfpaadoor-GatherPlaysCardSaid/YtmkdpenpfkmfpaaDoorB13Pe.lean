/- Layer 13: the document's Right, full. No condition. -/
import Derived.Test.YtmkdpenpfkmfpaaDoorB13Pd
namespace Go.Proofs.YtmkdpenpfkmfpaaDoor.Sim
set_option linter.unusedSimpArgs false
set_option linter.unusedVariables false
variable {s s' : Store}

theorem count12_all {a c : Int} (ha : 0 ≤ a ∧ a < 4294967296) (hc : 1 ≤ c ∧ c ≤ 65536) (fu : Nat) (hf : 1048576 < fu) (s : Store) : rn (fu + 1) 43 [.int .i64 a, .int .i64 c] s = some (.int .i64 (countN a c), s) := by
  obtain ⟨c', rfl⟩ : ∃ c' : Nat, c = (c' : Int) := ⟨c.toNat, by omega⟩
  by_cases h : a ≤ 1048576
  · obtain ⟨a', rfl⟩ : ∃ a' : Nat, a = (a' : Int) := ⟨a.toNat, by omega⟩
    rw [countQ_eq (by omega) (by omega) (by omega)]
    exact count12_run (by omega) (by omega) (by omega) fu (by omega) s
  · rw [unisonref12_Count.eq]
    unfold unisonref12_Count.f unisonref12_Count.p5 unisonref12_Count.p4
    simp only [bnd, guard_tt, guard_ff, guard_tf, guard_ft, pick_t, pick_f, if_t, if_f, add_i, sub_i, lss_i, leq_i, gtr_i, geq_i, eql_i, neq_i, min_i, max_i, conv_i, len_sl, len_nil, not_b, cells_agg, new_s, fld_p, nil_p, decide_eq_false (show ¬ a < 0 by omega), decide_eq_true (show a > 1048576 by omega), guard_skip]
    rw [countN, if_neg (by omega)]
theorem length12_all {a c i : Int} (ha : 0 ≤ a ∧ a < 4294967296) (hc : 1 ≤ c ∧ c ≤ 65536) (hi : 0 ≤ i ∧ i < 4294967296) (fu : Nat) (hf : 1048576 < fu) (s : Store) : rn (fu + 2) 44 [.int .i64 a, .int .i64 c, .int .i64 i] s = some (.int .i64 (lengthN a c i), s) := by
  rw [show fu + 2 = (fu + 1) + 1 from rfl, unisonref12_Length.eq]
  unfold unisonref12_Length.f unisonref12_Length.p0
  have hcr := count12_all ha hc fu hf s
  have hb := countN_bnd a c
  simp only [hcr, bnd, guard_tt, guard_ff, guard_tf, guard_ft, pick_t, pick_f, if_t, if_f, add_i, sub_i, lss_i, leq_i, gtr_i, geq_i, eql_i, neq_i, min_i, max_i, conv_i, len_sl, len_nil, not_b, cells_agg, new_s, fld_p, nil_p, decide_eq_false (show ¬ i < 0 by omega)]
  by_cases h1 : i ≥ countN a c
  · simp only [decide_eq_true h1, bnd, guard_tt, guard_ff, guard_tf, guard_ft, pick_t, pick_f, if_t, if_f, add_i, sub_i, lss_i, leq_i, gtr_i, geq_i, eql_i, neq_i, min_i, max_i, conv_i, len_sl, len_nil, not_b, cells_agg, new_s, fld_p, nil_p]
    rw [lengthN, if_neg (by omega)]
  have hn : 0 < countN a c := by omega
  have ha2 : a ≤ 1048576 := by
    unfold countN at hn
    split at hn
    · omega
    · omega
  obtain ⟨a', rfl⟩ : ∃ a' : Nat, a = (a' : Int) := ⟨a.toNat, by omega⟩
  obtain ⟨c', rfl⟩ : ∃ c' : Nat, c = (c' : Int) := ⟨c.toNat, by omega⟩
  obtain ⟨i', rfl⟩ : ∃ i' : Nat, i = (i' : Int) := ⟨i.toNat, by omega⟩
  have hq := countQ_eq (sz := a') (k := c') (by omega) (by omega) (by omega)
  rw [hq] at h1 hb ⊢
  have w1 : IntKind.i64.wrap (((countQ a' c' : Nat) : Int) - 1) = ((countQ a' c' : Nat) : Int) - 1 := w_i64 (by omega) (by omega)
  simp only [decide_eq_false h1, bnd, guard_tt, guard_ff, guard_tf, guard_ft, pick_t, pick_f, if_t, if_f, add_i, sub_i, lss_i, leq_i, gtr_i, geq_i, eql_i, neq_i, min_i, max_i, conv_i, len_sl, len_nil, not_b, cells_agg, new_s, fld_p, nil_p, w1]
  rw [lengthN, hq, if_pos ⟨by omega, by omega⟩]
  by_cases h2 : (i' : Int) < ((countQ a' c' : Nat) : Int) - 1
  · have h3 := countQ_at (sz := a') (k := c') (i := i' + 1) (by omega) (by omega)
    rw [Nat.succ_mul] at h3
    have h4 : ((i' * c' : Nat) : Int) = (i' : Int) * (c' : Int) := Int.natCast_mul ..
    simp only [decide_eq_true h2, bnd, guard_tt, guard_ff, guard_tf, guard_ft, pick_t, pick_f, if_t, if_f, add_i, sub_i, lss_i, leq_i, gtr_i, geq_i, eql_i, neq_i, min_i, max_i, conv_i, len_sl, len_nil, not_b, cells_agg, new_s, fld_p, nil_p]
    rw [← h4, show min (c' : Int) ((a' : Int) - ((i' * c' : Nat) : Int)) = (c' : Int) by omega]
  · have hi3 : i' = countQ a' c' - 1 := by omega
    have hq1 : 1 ≤ countQ a' c' := by omega
    have h5 := countQ_all (sz := a') (k := c') (by omega)
    have h6 := countQ_at (sz := a') (k := c') (i := i') (by omega) (by omega)
    have h7 : countQ a' c' * c' = i' * c' + c' := by
      have h9 : countQ a' c' = i' + 1 := by omega
      rw [h9, Nat.succ_mul]
    have h4 : ((i' * c' : Nat) : Int) = (i' : Int) * (c' : Int) := Int.natCast_mul ..
    have h8 : ((countQ a' c' : Nat) : Int) - 1 = (i' : Int) := by omega
    have hm : ∀ {α : Type} (f : AV → Option α), aBin .mul (.int .i64 (c' : Int)) (.int .i64 (i' : Int)) f = f (.int .i64 ((i' * c' : Nat) : Int)) := fun f => by
      simp only [aBin, intBin, if_true]
      rw [Int.mul_comm, ← h4, w_i64 (by omega) (by omega)]
    have w2 : IntKind.i64.wrap ((a' : Int) - ((i' * c' : Nat) : Int)) = (a' : Int) - ((i' * c' : Nat) : Int) := w_i64 (by omega) (by omega)
    simp only [bnd, guard_tt, guard_ff, guard_tf, guard_ft, pick_t, pick_f, if_t, if_f, add_i, sub_i, lss_i, leq_i, gtr_i, geq_i, eql_i, neq_i, min_i, max_i, conv_i, len_sl, len_nil, not_b, cells_agg, new_s, fld_p, nil_p, h8, decide_eq_false (show ¬ (i' : Int) < (i' : Int) by omega), hm, w2]
    rw [← h4, show min (c' : Int) ((a' : Int) - ((i' * c' : Nat) : Int)) = (a' : Int) - ((i' * c' : Nat) : Int) by omega]
theorem right12_run {f : Frm} {d : List Int} (hw : f.Wf) (hd : IsV s f.dv .u8 d) {chunk most : Int} (hc : 1 ≤ chunk ∧ chunk ≤ 65536) (fu : Nat) (hf : 1048576 < fu) : ∃ s', rn (fu + 3) 25 [.agg f.cells, .int .i64 chunk, .int .i64 most] s = some (.bool (rightB f chunk most d.length), s') ∧ Ext s s' := by
  rw [show fu + 3 = (fu + 2) + 1 from rfl, unisonref12_Right.eq]
  unfold unisonref12_Right.f unisonref12_Right.p4 unisonref12_Right.p3
  have e := Ext.push s (.cells f.cells false)
  have hfr : (s.push (.cells f.cells false)).get s.next = .cells f.cells false := by rw [get_push, if_pos rfl]
  have hlen : f.cells.length = 16 := rfl
  simp only [cells_agg, new_s, hlen]
  have hd1 := hd.ext e
  generalize s.push (.cells f.cells false) = s1 at e hfr hd1 ⊢
  have l6 : ∀ {α : Type} (g : AV → Option α), aLoad1 (.ptr s.next (0 + 6) 16) s1 g = g (.int .u32 f.at_) := fun g => g_ld hfr rfl rfl g
  have l7 : ∀ {α : Type} (g : AV → Option α), aLoad1 (.ptr s.next (0 + 7) 16) s1 g = g (.int .u32 f.of) := fun g => g_ld hfr rfl rfl g
  have l8 : ∀ {α : Type} (g : AV → Option α), aLoad1 (.ptr s.next (0 + 8) 16) s1 g = g (.int .u32 f.size) := fun g => g_ld hfr rfl rfl g
  have l15 : ∀ {α : Type} (g : AV → Option α), aLoad1 (.ptr s.next (0 + 15) 16) s1 g = g f.dv := fun g => g_ld hfr rfl rfl g
  obtain ⟨⟨a0, a1⟩, ⟨o0, o1⟩, ⟨z0, z1⟩⟩ := hw
  have w8 : IntKind.i64.wrap f.size = f.size := w_i64 (by omega) (by omega)
  have w7 : IntKind.i64.wrap f.of = f.of := w_i64 (by omega) (by omega)
  have w6 : IntKind.i64.wrap f.at_ = f.at_ := w_i64 (by omega) (by omega)
  have hcr := count12_all (a := f.size) ⟨z0, z1⟩ hc (fu + 1) (by omega) s1
  have hcr' : rn (fu + 2) 43 [.int .i64 f.size, .int .i64 chunk] s1 = some (.int .i64 (countN f.size chunk), s1) := hcr
  have hlr := length12_all (a := f.size) (i := f.at_) ⟨z0, z1⟩ hc ⟨a0, a1⟩ fu hf s1
  have hb := countN_bnd f.size chunk
  simp only [bnd, guard_tt, guard_ff, guard_tf, guard_ft, pick_t, pick_f, if_t, if_f, add_i, sub_i, lss_i, leq_i, gtr_i, geq_i, eql_i, neq_i, min_i, max_i, conv_i, len_sl, len_nil, not_b, cells_agg, new_s, fld_p, nil_p, l8, w8, hcr']
  unfold unisonref12_Right.p2 unisonref12_Right.p1 unisonref12_Right.p0
  simp only [bnd, guard_tt, guard_ff, guard_tf, guard_ft, pick_t, pick_f, if_t, if_f, add_i, sub_i, lss_i, leq_i, gtr_i, geq_i, eql_i, neq_i, min_i, max_i, conv_i, len_sl, len_nil, not_b, cells_agg, new_s, fld_p, nil_p, l8, w8]
  have hne : ∀ (b : Bool), rightB f chunk most d.length = b → (∃ s', (some (AV.bool b, s1) : Option (AV × Store)) = some (.bool (rightB f chunk most d.length), s') ∧ Ext s s') := fun b hb => ⟨s1, by rw [hb], e⟩
  by_cases h1 : f.size > most
  · simp only [decide_eq_true h1, bnd, guard_tt, guard_ff, guard_tf, guard_ft, pick_t, pick_f, if_t, if_f, add_i, sub_i, lss_i, leq_i, gtr_i, geq_i, eql_i, neq_i, min_i, max_i, conv_i, len_sl, len_nil, not_b, cells_agg, new_s, fld_p, nil_p, guard_skip]
    exact hne false (by unfold rightB; rw [decide_eq_false (by omega)]; rfl)
  simp only [decide_eq_false h1, bnd, guard_tt, guard_ff, guard_tf, guard_ft, pick_t, pick_f, if_t, if_f, add_i, sub_i, lss_i, leq_i, gtr_i, geq_i, eql_i, neq_i, min_i, max_i, conv_i, len_sl, len_nil, not_b, cells_agg, new_s, fld_p, nil_p, l7, w7]
  by_cases h2 : f.of = countN f.size chunk
  rotate_left
  · have h2' : (f.of != countN f.size chunk) = true := by simpa using h2
    simp only [h2', bnd, guard_tt, guard_ff, guard_tf, guard_ft, pick_t, pick_f, if_t, if_f, add_i, sub_i, lss_i, leq_i, gtr_i, geq_i, eql_i, neq_i, min_i, max_i, conv_i, len_sl, len_nil, not_b, cells_agg, new_s, fld_p, nil_p, guard_skip]
    exact hne false (by unfold rightB; rw [decide_eq_false (show ¬ f.of = countN f.size chunk from h2), Bool.false_and, Bool.and_false, Bool.and_false])
  have h2' : (f.of != countN f.size chunk) = false := by simpa using h2
  simp only [h2', bnd, guard_tt, guard_ff, guard_tf, guard_ft, pick_t, pick_f, if_t, if_f, add_i, sub_i, lss_i, leq_i, gtr_i, geq_i, eql_i, neq_i, min_i, max_i, conv_i, len_sl, len_nil, not_b, cells_agg, new_s, fld_p, nil_p, l6, w6]
  by_cases h3 : f.at_ ≥ countN f.size chunk
  · simp only [decide_eq_true h3, bnd, guard_tt, guard_ff, guard_tf, guard_ft, pick_t, pick_f, if_t, if_f, add_i, sub_i, lss_i, leq_i, gtr_i, geq_i, eql_i, neq_i, min_i, max_i, conv_i, len_sl, len_nil, not_b, cells_agg, new_s, fld_p, nil_p, guard_skip]
    exact hne false (by unfold rightB; rw [decide_eq_false (show ¬ f.at_ < f.of by omega), Bool.false_and, Bool.and_false, Bool.and_false, Bool.and_false])
  simp only [decide_eq_false h3, bnd, guard_tt, guard_ff, guard_tf, guard_ft, pick_t, pick_f, if_t, if_f, add_i, sub_i, lss_i, leq_i, gtr_i, geq_i, eql_i, neq_i, min_i, max_i, conv_i, len_sl, len_nil, not_b, cells_agg, new_s, fld_p, nil_p, l15, lenV hd1, l8, w8, l6, w6, hlr, aSame_self]
  have h5 : (((d.length : Nat) : Int) == lengthN f.size chunk f.at_) = decide (((d.length : Nat) : Int) = lengthN f.size chunk f.at_) := by
    by_cases q : ((d.length : Nat) : Int) = lengthN f.size chunk f.at_ <;> simp [q]
  refine ⟨s1, ?_, e⟩
  rw [h5]
  unfold rightB
  rw [decide_eq_true (show f.size ≤ most by omega), decide_eq_true (show countN f.size chunk > 0 by omega), decide_eq_true h2, decide_eq_true (show f.at_ < f.of by omega)]
  simp only [Bool.true_and]

/-- Are all chunks there? -/
theorem full_loop {x : Nat} {e : PE} {hs : List Bool} (hx : s.get x = .cells (pcl e) false) (hh : IsL bc 1 s e.hv hs) (hl : hs.length ≤ 1048576) (k : Nat) : ∀ (m i : Nat), i ≤ hs.length → hs.length - i < m →
    unisonref13_full.l0 k m (.ptr x 0 5) (.int .i64 (hs.length : Nat)) (.int .i64 (i : Int)) s = some (.bool ((hs.drop i).all id), s)
  | 0, i, hi, hm => by omega
  | m + 1, i, hi, hm => by
    have hs' : unisonref13_full.l0 k (m + 1) = fun x1 x6 x7 s => unisonref13_full.p4 k (unisonref13_full.l0 k m) x1 x6 x7 s := rfl
    rw [hs']
    clear hs'
    simp only
    unfold unisonref13_full.p4 unisonref13_full.p3 unisonref13_full.p2 unisonref13_full.p1 unisonref13_full.p0
    by_cases hlt : i < hs.length
    · have ldh : ∀ {α : Type} (f : AV → Option α), aLoad1 (.ptr x (0 + 3) 5) s f = f e.hv := fun f => g_ld hx rfl rfl f
      obtain ⟨p, p1, p2⟩ := elemL (c := bc) (es := 1) (fun _ => rfl) hh hlt
      have ld1 := fun {α : Type} (f : AV → Option α) => load1_of (v := .bool hs[i]) p2 f
      have hw : IntKind.i64.wrap ((i : Int) + 1) = ((i + 1 : Nat) : Int) := by rw [w_i64 (by omega) (by omega)]; omega
      have hd : hs.drop i = hs[i] :: hs.drop (i + 1) := List.drop_eq_getElem_cons hlt
      simp only [bnd, guard_tt, guard_ff, guard_tf, guard_ft, pick_t, pick_f, if_t, if_f, add_i, sub_i, lss_i, leq_i, gtr_i, geq_i, eql_i, neq_i, min_i, max_i, conv_i, len_sl, len_nil, not_b, cells_agg, new_s, fld_p, nil_p, decide_eq_true (show (i : Int) < ((hs.length : Nat) : Int) by omega), ldh, p1, ld1, hd, List.all_cons]
      cases hs[i]
      · simp only [bnd, guard_tt, guard_ff, guard_tf, guard_ft, pick_t, pick_f, if_t, if_f, add_i, sub_i, lss_i, leq_i, gtr_i, geq_i, eql_i, neq_i, min_i, max_i, conv_i, len_sl, len_nil, not_b, cells_agg, new_s, fld_p, nil_p, Bool.not_false]
        rfl
      · simp only [bnd, guard_tt, guard_ff, guard_tf, guard_ft, pick_t, pick_f, if_t, if_f, add_i, sub_i, lss_i, leq_i, gtr_i, geq_i, eql_i, neq_i, min_i, max_i, conv_i, len_sl, len_nil, not_b, cells_agg, new_s, fld_p, nil_p, Bool.not_true, hw]
        rw [full_loop hx hh hl k m (i + 1) (by omega) (by omega)]
        rfl
    · simp only [bnd, guard_tt, guard_ff, guard_tf, guard_ft, pick_t, pick_f, if_t, if_f, add_i, sub_i, lss_i, leq_i, gtr_i, geq_i, eql_i, neq_i, min_i, max_i, conv_i, len_sl, len_nil, not_b, cells_agg, new_s, fld_p, nil_p, decide_eq_false (show ¬ (i : Int) < ((hs.length : Nat) : Int) by omega)]
      rw [List.drop_eq_nil_of_le (by omega)]
      rfl
theorem full_run {e : PE} {hs : List Bool} (hh : IsL bc 1 s e.hv hs) (hl : hs.length ≤ 1048576) (k : Nat) (hk : 1048576 < k) : ∃ s', rn (k + 1) 28 [.agg (pcl e)] s = some (.bool (hs.all id), s') ∧ Ext s s' := by
  rw [unisonref13_full.eq]
  unfold unisonref13_full.f unisonref13_full.p6 unisonref13_full.p5
  have e1 := Ext.push s (.cells (pcl e) false)
  have hx1 : (s.push (.cells (pcl e) false)).get s.next = .cells (pcl e) false := by rw [get_push, if_pos rfl]
  simp only [cells_agg, new_s, pcl_len]
  have hh1 := hh.ext e1
  have ldh : ∀ {α : Type} (f : AV → Option α), aLoad1 (.ptr s.next (0 + 3) 5) (s.push (.cells (pcl e) false)) f = f e.hv := fun f => g_ld hx1 rfl rfl f
  simp only [bnd, guard_tt, guard_ff, guard_tf, guard_ft, pick_t, pick_f, if_t, if_f, add_i, sub_i, lss_i, leq_i, gtr_i, geq_i, eql_i, neq_i, min_i, max_i, conv_i, len_sl, len_nil, not_b, cells_agg, new_s, fld_p, nil_p, ldh]
  rw [lenL hh1]
  have := full_loop hx1 hh1 hl k k 0 (Nat.zero_le _) (by omega)
  rw [List.drop_zero] at this
  exact ⟨_, this, e1⟩
end Go.Proofs.YtmkdpenpfkmfpaaDoor.Sim
