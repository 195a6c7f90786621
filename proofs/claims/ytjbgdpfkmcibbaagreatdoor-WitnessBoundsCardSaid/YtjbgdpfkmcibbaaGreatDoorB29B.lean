/- Layer 29: how many chunks; the bound of a config. No condition. -/
import Derived.Test.YtjbgdpfkmcibbaaGreatDoorB24May
namespace Go.Proofs.YtjbgdpfkmcibbaaGreatDoor.Sim
set_option linter.unusedSimpArgs false
set_option linter.unusedVariables false
set_option maxRecDepth 100000

theorem cwithin_run (k : Nat) (x a b : Int) (t : Store) : rn (k + 1) 62 [.int .i64 x, .int .i64 a, .int .i64 b] t = some (.bool (inB x a b), t) := by
  rw [F62.eq]
  unfold F62.f F62.p0
  by_cases h : x ≥ a
  · have h' : inB x a b = decide (x ≤ b) := by simp [inB, h]
    simp only [bnd, guard_tt, guard_ff, guard_tf, guard_ft, pick_t, pick_f, if_t, if_f, add_i, sub_i, lss_i, leq_i, gtr_i, geq_i, eql_i, neq_i, min_i, max_i, conv_i, len_sl, len_nil, not_b, cells_agg, new_s, fld_p, nil_p, decide_eq_true h, h']
  · have h' : inB x a b = false := by simp [inB, h]
    simp only [bnd, guard_tt, guard_ff, guard_tf, guard_ft, pick_t, pick_f, if_t, if_f, add_i, sub_i, lss_i, leq_i, gtr_i, geq_i, eql_i, neq_i, min_i, max_i, conv_i, len_sl, len_nil, not_b, cells_agg, new_s, fld_p, nil_p, decide_eq_false h, h']
theorem count_run (k : Nat) {size chunk : Int} (h0 : inB size 0 1048576 = true) (h1 : inB chunk 1 65536 = true) (t : Store) : rn (k + 2) 37 [.int .i64 size, .int .i64 chunk] t = some (.int .i64 (cnt size chunk), t) := by
  rw [F37.eq]
  unfold F37.f F37.p0
  have b0 := inB_iff.1 h0
  have b1 := inB_iff.1 h1
  have hc := parts_le b0.1 b1.1
  have e1 : IntKind.i64.wrap (size + chunk) = size + chunk := w_i64 (by omega) (by omega)
  have e2 : IntKind.i64.wrap (size + chunk - 1) = size + chunk - 1 := w_i64 (by omega) (by omega)
  have e3 : IntKind.i64.wrap ((size + chunk - 1).tdiv chunk) = parts size chunk := by
    rw [Int.tdiv_eq_ediv_of_nonneg (by omega)]
    exact w_i64 (by unfold parts at hc; omega) (by unfold parts at hc; omega)
  simp only [cwithin_run, h0, h1, Bool.not_true, bnd, guard_tt, guard_ff, guard_tf, guard_ft, pick_t, pick_f, if_t, if_f, add_i, sub_i, lss_i, leq_i, gtr_i, geq_i, eql_i, neq_i, min_i, max_i, conv_i, len_sl, len_nil, not_b, cells_agg, new_s, fld_p, nil_p, e1, e2, quo_i .i64 _ (show chunk ≠ 0 by omega), e3]
  rfl
theorem rcount_loop (k : Nat) {chunk : Int} (h1 : 1 ≤ chunk) (hc : chunk ≤ 65536) (s : Store) : ∀ (f : Nat) (size m : Int), 0 ≤ size → size ≤ 5000 → size < f → 1 ≤ m → m + size ≤ 100000 → F38.l0 k f (.int .i64 size) (.int .i64 chunk) (.int .i64 m) s = some (.int .i64 (m + cnt size chunk - 1), s)
  | 0, _, _, _, _, hf, _, _ => by omega
  | f + 1, size, m, h0, hs, hf, hm, hms => by
    have hs' : F38.l0 k (f + 1) (.int .i64 size) (.int .i64 chunk) (.int .i64 m) s = F38.p2 k (F38.l0 k f) (.int .i64 size) (.int .i64 chunk) (.int .i64 m) s := rfl
    rw [hs']
    unfold F38.p2
    rw [gtr_i]
    by_cases c : size > chunk
    · rw [decide_eq_true c, if_t]
      unfold F38.p1
      rw [sub_i, add_i, w_i64 (n := size - chunk) (by omega) (by omega), w_i64 (n := m + 1) (by omega) (by omega), rcount_loop k h1 hc s f (size - chunk) (m + 1) (by omega) (by omega) (by omega) (by omega) (by omega), cnt_step h1 c]
      congr 4
      omega
    · rw [decide_eq_false c, if_f]
      unfold F38.p0
      rw [cnt_base h0 (by omega) h1]
      congr 3
      omega
theorem rcount_run {k : Nat} (hk : 5000 < k) {size chunk : Int} (h0 : 0 ≤ size) (hs : size ≤ 5000) (h1 : inB chunk 1 65536 = true) (t : Store) : rn (k + 1) 38 [.int .i64 size, .int .i64 chunk] t = some (.int .i64 (cnt size chunk), t) := by
  rw [F38.eq]
  unfold F38.f F38.p5 F38.p4
  have b1 := inB_iff.1 h1
  simp only [bnd, guard_tt, guard_ff, guard_tf, guard_ft, pick_t, pick_f, if_t, if_f, add_i, sub_i, lss_i, leq_i, gtr_i, geq_i, eql_i, neq_i, min_i, max_i, conv_i, len_sl, len_nil, not_b, cells_agg, new_s, fld_p, nil_p, decide_eq_false (show ¬ size < 0 by omega), decide_eq_false (show ¬ size > 1048576 by omega), decide_eq_false (show ¬ chunk < 1 by omega), decide_eq_false (show ¬ chunk > 65536 by omega)]
  unfold F38.p3
  rw [rcount_loop k b1.1 b1.2 t k size 1 h0 hs (by omega) (by omega) (by omega)]
  congr 3
  omega

/-- The bound. -/
def asksX (c : Cfg) : Int := parts (cnt c.payload c.chunk) c.pulls
def bndX (c : Cfg) : Int := IntKind.i64.wrap (c.most + c.beat + 4 + (c.n * c.credit * 2 * (asksX c + 2) * (c.again + 4) + c.again + 4) + c.n * c.credit * (8 * c.n + 4 * c.again + 42) + 16)
def bndB (c : Cfg) : Int := if (c.mayB && decide (c.beat ≤ c.wait)) = true then bndX c else 0

structure MayP (c : Cfg) : Prop where
  n : 1 ≤ c.n ∧ c.n ≤ 64
  chunk : inB c.chunk 1 65536 = true
  payload : inB c.payload 0 1048576 = true
  credit : 1 ≤ c.credit ∧ c.credit ≤ 64
  pulls : 1 ≤ c.pulls ∧ c.pulls ≤ 64
theorem mayP {c : Cfg} (h : c.mayB = true) : MayP c := by
  unfold Cfg.mayB at h
  simp only [Bool.and_eq_true] at h
  obtain ⟨⟨⟨⟨⟨⟨⟨⟨⟨⟨⟨⟨⟨⟨⟨h0, h1⟩, h2⟩, h3⟩, h4⟩, h5⟩, h6⟩, h7⟩, h8⟩, h9⟩, h10⟩, h11⟩, h12⟩, h13⟩, h14⟩, h15⟩ := h
  exact ⟨inB_iff.1 h0, h1, h2, inB_iff.1 h3, inB_iff.1 h8⟩

theorem idb_run (k : Nat) (x : AV) (t : Store) : rn (k + 1) 36 [x] t = some (x, t) := by
  rw [F36.eq]
  rfl
theorem call_idb (k : Nat) (x : AV) (t : Store) {α : Type} (f : AV → Store → Option α) : aCall (rn (k + 1)) (.func 36 [] []) [x] t f = f x t := by
  simp only [aCall, List.nil_append, List.append_nil, idb_run, bnd]

theorem bound_run (k : Nat) (c : Cfg) (s : Store) : ∃ s', rn (k + 6) 15 [.agg c.cells] s = some (.int .i64 (bndB c), s') ∧ Ext s s' := by
  rw [F15.eq]
  unfold F15.f F15.p8
  have g : (s.push (.cells c.cells false)).get s.next = .cells c.cells false := by rw [get_push, if_pos rfl]
  have hx : s.next < (s.push (.cells c.cells false)).next := Nat.lt_succ_self _
  have e0 := Ext.push s (.cells c.cells false)
  simp only [cells_agg, new_s]
  rw [show c.cells.length = 16 from rfl]
  generalize s.push (.cells c.cells false) = s1 at g hx e0 ⊢
  generalize s.next = x at g hx ⊢
  unfold F15.p7
  rw [rld_all (n := 16) g rfl]
  obtain ⟨s2, r2, e2⟩ := may_run k c s1
  rw [r2]
  have g2 := (e2.get x hx).trans g
  have e02 := e0.trans e2
  have l := fun {j : Nat} {v : AV} (hv : c.cells[j]? = some v) {α : Type} (f : AV → Option α) => cfg_ld g2 hv f
  simp only [bnd, fld_p, l (j := 13) rfl, l (j := 11) rfl]
  unfold bndB
  cases hm : c.mayB
  · simp only [Bool.not_false, bnd, guard_tt, guard_ff, guard_tf, guard_ft, pick_t, pick_f, if_t, if_f, add_i, sub_i, lss_i, leq_i, gtr_i, geq_i, eql_i, neq_i, min_i, max_i, conv_i, len_sl, len_nil, not_b, cells_agg, new_s, fld_p, nil_p, guard_skip, Bool.false_and]
    exact ⟨s2, rfl, e02⟩
  by_cases hb : c.beat ≤ c.wait
  · have hn : ¬ c.wait < c.beat := by omega
    have p := mayP hm
    have hc := cnt_le (inB_iff.1 p.payload).1 (inB_iff.1 p.chunk).1
    have hc2 := (inB_iff.1 p.payload).2
    have pp := p.pulls
    have ha := parts_le (n := cnt c.payload c.chunk) (each := c.pulls) (by omega) pp.1
    have w1 : IntKind.i64.wrap (cnt c.payload c.chunk + c.pulls) = cnt c.payload c.chunk + c.pulls := w_i64 (by omega) (by omega)
    have w2 : IntKind.i64.wrap (cnt c.payload c.chunk + c.pulls - 1) = cnt c.payload c.chunk + c.pulls - 1 := w_i64 (by omega) (by omega)
    have w3 : IntKind.i64.wrap ((cnt c.payload c.chunk + c.pulls - 1).tdiv c.pulls) = asksX c := by
      rw [Int.tdiv_eq_ediv_of_nonneg (by omega)]
      unfold asksX
      exact w_i64 (by unfold parts at ha; omega) (by unfold parts at ha; omega)
    simp only [Bool.not_true, bnd, guard_tt, guard_ff, guard_tf, guard_ft, pick_t, pick_f, if_t, if_f, add_i, sub_i, lss_i, leq_i, gtr_i, geq_i, eql_i, neq_i, min_i, max_i, conv_i, len_sl, len_nil, not_b, cells_agg, new_s, fld_p, nil_p, decide_eq_false hn, F15.p6, F15.p5, F15.p4, F15.p3, F15.p2, F15.p1, F15.p0, call_idb, l (j := 13) rfl, l (j := 0) rfl, l (j := 1) rfl, l (j := 2) rfl, l (j := 3) rfl, l (j := 8) rfl, l (j := 11) rfl, l (j := 12) rfl, l (j := 15) rfl, aSame_self, count_run (k + 3) p.payload p.chunk, mul_i, quo_i .i64 _ (show c.pulls ≠ 0 by omega), w1, w2, w3, guard_same]
    refine ⟨s2, ?_, e02⟩
    rw [decide_eq_true hb, Bool.true_and, if_pos rfl]
    simp only [wr_add_l, wr_add_r, wr_mul_l, wr_mul_r]
    rfl
  · have hn : c.wait < c.beat := by omega
    simp only [Bool.not_true, bnd, guard_tt, guard_ff, guard_tf, guard_ft, pick_t, pick_f, if_t, if_f, add_i, sub_i, lss_i, leq_i, gtr_i, geq_i, eql_i, neq_i, min_i, max_i, conv_i, len_sl, len_nil, not_b, cells_agg, new_s, fld_p, nil_p, l (j := 13) rfl, l (j := 11) rfl, decide_eq_true hn, decide_eq_false hb, Bool.and_false]
    exact ⟨s2, rfl, e02⟩

theorem rasks_loop (k : Nat) {c : Cfg} {x : Nat} (hp : 1 ≤ c.pulls ∧ c.pulls ≤ 64) {s : Store} (g : s.get x = .cells c.cells false) : ∀ (f : Nat) (n m : Int), -c.pulls < n → n ≤ 5001 → n + 64 < f → 0 ≤ m → m ≤ 100000 - n → F16.l0 k f (.ptr x 0 16) (.int .i64 n) (.int .i64 m) s = F16.p0 k (.ptr x 0 16) (.int .i64 (m + parts n c.pulls)) s
  | 0, _, _, _, _, _, _, _ => by omega
  | f + 1, n, m, h0, h1, h2, h3, h4 => by
    have hs' : F16.l0 k (f + 1) (.ptr x 0 16) (.int .i64 n) (.int .i64 m) s = F16.p2 k (F16.l0 k f) (.ptr x 0 16) (.int .i64 n) (.int .i64 m) s := rfl
    rw [hs']
    unfold F16.p2
    rw [gtr_i]
    by_cases cc : n > 0
    · rw [decide_eq_true cc, if_t]
      unfold F16.p1
      rw [add_i, fld_p, cfg_ld g (j := 8) rfl, sub_i, w_i64 (n := n - c.pulls) (by omega) (by omega), w_i64 (n := m + 1) (by omega) (by omega), rasks_loop k hp g f (n - c.pulls) (m + 1) (by omega) (by omega) (by omega) (by omega) (by omega), parts_step (n := n) hp.1]
      congr 2
      omega
    · rw [decide_eq_false cc, if_f, parts_0 h0 (by omega) hp.1]
      congr 2
      omega
theorem rbound_run {k : Nat} (hk : 6000 < k) (c : Cfg) (hl : c.payload ≤ 5000 ∨ 1048576 < c.payload) (s : Store) : ∃ s', rn (k + 3) 16 [.agg c.cells] s = some (.int .i64 (bndB c), s') ∧ Ext s s' := by
  rw [F16.eq]
  unfold F16.f F16.p6
  have g : (s.push (.cells c.cells false)).get s.next = .cells c.cells false := by rw [get_push, if_pos rfl]
  have hx : s.next < (s.push (.cells c.cells false)).next := Nat.lt_succ_self _
  have e0 := Ext.push s (.cells c.cells false)
  simp only [cells_agg, new_s]
  rw [show c.cells.length = 16 from rfl]
  generalize s.push (.cells c.cells false) = s1 at g hx e0 ⊢
  generalize s.next = x at g hx ⊢
  unfold F16.p5
  rw [rld_all (n := 16) g rfl, refMay_run]
  have e2 := Ext.push s1 (.cells c.cells false)
  generalize s1.push (.cells c.cells false) = s2 at e2 ⊢
  have g2 := (e2.get x hx).trans g
  have e02 := e0.trans e2
  have l := fun {j : Nat} {v : AV} (hv : c.cells[j]? = some v) {α : Type} (f : AV → Option α) => cfg_ld g2 hv f
  simp only [bnd, fld_p, l (j := 13) rfl, l (j := 11) rfl]
  unfold bndB
  cases hm : c.mayB
  · simp only [Bool.not_false, bnd, guard_tt, guard_ff, guard_tf, guard_ft, pick_t, pick_f, if_t, if_f, add_i, sub_i, lss_i, leq_i, gtr_i, geq_i, eql_i, neq_i, min_i, max_i, conv_i, len_sl, len_nil, not_b, cells_agg, new_s, fld_p, nil_p, guard_skip, Bool.false_and]
    exact ⟨s2, rfl, e02⟩
  by_cases hb : c.beat ≤ c.wait
  · have hn : ¬ c.wait < c.beat := by omega
    have p := mayP hm
    have hq := inB_iff.1 p.payload
    have hc := cnt_le hq.1 (inB_iff.1 p.chunk).1
    have pp := p.pulls
    have hr : rn (k + 2) 38 [.int .i64 c.payload, .int .i64 c.chunk] s2 = some (.int .i64 (cnt c.payload c.chunk), s2) := rcount_run (k := k + 1) (by omega) hq.1 (by omega) p.chunk s2
    simp only [Bool.not_true, bnd, guard_tt, guard_ff, guard_tf, guard_ft, pick_t, pick_f, if_t, if_f, add_i, sub_i, lss_i, leq_i, gtr_i, geq_i, eql_i, neq_i, min_i, max_i, conv_i, len_sl, len_nil, not_b, cells_agg, new_s, fld_p, nil_p, decide_eq_false hn, F16.p4, F16.p3, l (j := 13) rfl, l (j := 11) rfl, l (j := 1) rfl, l (j := 2) rfl, hr]
    rw [rasks_loop (k + 2) pp g2 (k + 2) (cnt c.payload c.chunk) 0 (by omega) (by omega) (by omega) (by omega) (by omega), Int.zero_add]
    simp only [F16.p0, fld_p, l (j := 0) rfl, l (j := 3) rfl, l (j := 11) rfl, l (j := 12) rfl, l (j := 15) rfl, add_i, mul_i]
    refine ⟨s2, ?_, e02⟩
    rw [decide_eq_true hb, Bool.true_and, if_pos rfl]
    simp only [wr_add_l, wr_add_r, wr_mul_l, wr_mul_r]
    unfold bndX asksX
    congr 4
    generalize parts (cnt c.payload c.chunk) c.pulls = a
    grind
  · have hn : c.wait < c.beat := by omega
    simp only [Bool.not_true, bnd, guard_tt, guard_ff, guard_tf, guard_ft, pick_t, pick_f, if_t, if_f, add_i, sub_i, lss_i, leq_i, gtr_i, geq_i, eql_i, neq_i, min_i, max_i, conv_i, len_sl, len_nil, not_b, cells_agg, new_s, fld_p, nil_p, l (j := 13) rfl, l (j := 11) rfl, decide_eq_true hn, decide_eq_false hb, Bool.and_false]
    exact ⟨s2, rfl, e02⟩
end Go.Proofs.YtjbgdpfkmcibbaaGreatDoor.Sim
