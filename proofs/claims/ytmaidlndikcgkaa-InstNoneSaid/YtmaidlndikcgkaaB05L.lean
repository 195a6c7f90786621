/- Seat 05: whether runs are a batch on a base: the program and the document say the same. No condition. -/
import Derived.Test.YtmaidlndikcgkaaB05J
namespace Go.Proofs.Ytmaidlndikcgkaa.Sim
set_option linter.unusedSimpArgs false

theorem runs_at {s : Store} {v : AV} {l : List Rn} (h : IsRuns s v l) {i : Nat} (hi : i < l.length) : ∃ id, v = .sl id 0 l.length 3 (l.length * 3) ∧ id < s.next ∧ AtRuns s id l := by
  rcases h with ⟨_, rfl⟩ | ⟨id, ro, h1, h2, h3⟩
  · simp at hi
  · exact ⟨id, h1, h2, ro, h3⟩
theorem load_fld {s : Store} {id : Nat} {l : List Rn} (h : AtRuns s id l) {i : Nat} (hi : i < l.length) {j : Nat} {v : AV} (hv : (rcells l[i])[j]? = some v) {α : Type} (f : AV → Option α) : aLoad1 (.ptr id (0 + i * 3 + j) (l.length * 3)) s f = f v := by
  obtain ⟨ro, h⟩ := h
  have hj : j < 3 := (List.getElem?_eq_some_iff.1 hv).1
  refine load_1 h (flat_len l) ?_
  have := flat_get l i hi
  have h2 : ((((l.map rcells).flatten.drop (i * 3)).take 3))[j]? = some v := by rw [this]; exact hv
  rw [List.getElem?_take, if_pos hj, List.getElem?_drop] at h2
  rw [Nat.zero_add]; exact h2
theorem fld_0 {s : Store} {id : Nat} {l : List Rn} (h : AtRuns s id l) {i : Nat} (hi : i < l.length) {α : Type} (f : AV → Option α) : aLoad1 (.ptr id (0 + i * 3 + 0) (l.length * 3)) s f = f (.int .u8 l[i].1) := load_fld h hi rfl f
theorem fld_1 {s : Store} {id : Nat} {l : List Rn} (h : AtRuns s id l) {i : Nat} (hi : i < l.length) {α : Type} (f : AV → Option α) : aLoad1 (.ptr id (0 + i * 3 + 1) (l.length * 3)) s f = f (.int .u64 l[i].2.1) := load_fld h hi rfl f
theorem fld_2 {s : Store} {id : Nat} {l : List Rn} (h : AtRuns s id l) {i : Nat} (hi : i < l.length) {α : Type} (f : AV → Option α) : aLoad1 (.ptr id (0 + i * 3 + 2) (l.length * 3)) s f = f (.int .u64 l[i].2.2) := load_fld h hi rfl f
theorem idx_r {l : List Rn} {id i : Nat} (hi : i < l.length) {α : Type} (f : AV → Option α) : aIndexSl 3 (.sl id 0 l.length 3 (l.length * 3)) (.int .i64 (i : Int)) f = f (.ptr id (0 + i * 3) (l.length * 3)) := idxL hi f
/-- An element of a slice of numbers, by a number of whatever kind. -/
theorem index_isI {s : Store} {v : AV} {k : IntKind} {xs : List Int} (h : IsSl s v k xs) {i : Int} (h0 : 0 ≤ i) (hi : i < xs.length) : ∃ p, (∀ {α : Type} (k : IntKind) (f : AV → Option α), aIndexSl 1 v (.int k i) f = f p) ∧ ∀ {α : Type} (f : AV → Option α), aLoad1 p s f = f (.int k (xs.getD i.toNat 0)) := by
  rcases h with ⟨_, h⟩ | ⟨l, ro, rfl, _, h⟩
  · subst h; simp at hi; omega
  · refine ⟨.ptr l (0 + i.toNat * 1) xs.length, fun k f => ?_, fun f => load_i h (by omega) f⟩
    rw [index_sl h0 hi]

/-- The reference's Run. -/
theorem ref_run {s : Store} {r : Rn} (hr : WfR r) (k : Nat) : rn (k + 1) 48 [.agg (rcells r)] s = some (.bool (runOk r), s.push (.cells (rcells r) false)) := by
  obtain ⟨⟨a1, a2⟩, ⟨b1, b2⟩, c1, c2⟩ := hr
  rw [unisonref03_Run.eq]
  unfold unisonref03_Run.f unisonref03_Run.p0
  have g : (s.push (.cells (rcells r) false)).get s.next = .cells (rcells r) false := by rw [get_push, if_pos rfl]
  simp only [bnd, guard_tt, guard_ff, guard_tf, guard_ft, pick_t, pick_f, if_t, if_f, add_i, sub_i, lss_i, leq_i, gtr_i, geq_i, eql_i, neq_i, min_i, max_i, conv_i, len_sl, len_nil, not_b, cells_agg, new_s, fld_p, nil_p, r_len, ld_0 g]
  by_cases h1 : r.1 > 63
  · have e : runOk r = false := by unfold runOk; grind
    simp only [h1, decide_true, bnd, guard_tt, guard_ff, guard_tf, guard_ft, pick_t, pick_f, if_t, if_f, add_i, sub_i, lss_i, leq_i, gtr_i, geq_i, eql_i, neq_i, min_i, max_i, conv_i, len_sl, len_nil, not_b, cells_agg, new_s, fld_p, nil_p, e]
  · simp only [h1, decide_false, bnd, guard_tt, guard_ff, guard_tf, guard_ft, pick_t, pick_f, if_t, if_f, add_i, sub_i, lss_i, leq_i, gtr_i, geq_i, eql_i, neq_i, min_i, max_i, conv_i, len_sl, len_nil, not_b, cells_agg, new_s, fld_p, nil_p, ld_1 g]
    by_cases h2 : r.2.1 = 0
    · have e : runOk r = false := by unfold runOk; grind
      simp only [h2, beq_self_eq_true, bnd, guard_tt, guard_ff, guard_tf, guard_ft, pick_t, pick_f, if_t, if_f, add_i, sub_i, lss_i, leq_i, gtr_i, geq_i, eql_i, neq_i, min_i, max_i, conv_i, len_sl, len_nil, not_b, cells_agg, new_s, fld_p, nil_p, e]
    · have h2' : (r.2.1 == 0) = false := by simpa using h2
      simp only [h2', bnd, guard_tt, guard_ff, guard_tf, guard_ft, pick_t, pick_f, if_t, if_f, add_i, sub_i, lss_i, leq_i, gtr_i, geq_i, eql_i, neq_i, min_i, max_i, conv_i, len_sl, len_nil, not_b, cells_agg, new_s, fld_p, nil_p, ld_2 g]
      by_cases h3 : r.2.2 = 0
      · have e : runOk r = false := by unfold runOk; grind
        simp only [h3, beq_self_eq_true, bnd, guard_tt, guard_ff, guard_tf, guard_ft, pick_t, pick_f, if_t, if_f, add_i, sub_i, lss_i, leq_i, gtr_i, geq_i, eql_i, neq_i, min_i, max_i, conv_i, len_sl, len_nil, not_b, cells_agg, new_s, fld_p, nil_p, e]
      · have h3' : (r.2.2 == 0) = false := by simpa using h3
        simp only [h3', bnd, guard_tt, guard_ff, guard_tf, guard_ft, pick_t, pick_f, if_t, if_f, add_i, sub_i, lss_i, leq_i, gtr_i, geq_i, eql_i, neq_i, min_i, max_i, conv_i, len_sl, len_nil, not_b, cells_agg, new_s, fld_p, nil_p, ld_1 g]
        by_cases h4 : r.2.1 > 4611686018427387904
        · have e : runOk r = false := by unfold runOk; grind
          simp only [h4, decide_true, bnd, guard_tt, guard_ff, guard_tf, guard_ft, pick_t, pick_f, if_t, if_f, add_i, sub_i, lss_i, leq_i, gtr_i, geq_i, eql_i, neq_i, min_i, max_i, conv_i, len_sl, len_nil, not_b, cells_agg, new_s, fld_p, nil_p, e]
        · simp only [h4, decide_false, bnd, guard_tt, guard_ff, guard_tf, guard_ft, pick_t, pick_f, if_t, if_f, add_i, sub_i, lss_i, leq_i, gtr_i, geq_i, eql_i, neq_i, min_i, max_i, conv_i, len_sl, len_nil, not_b, cells_agg, new_s, fld_p, nil_p, ld_1 g, ld_2 g, w_u64 (show 0 ≤ 4611686018427387904 - r.2.1 by omega) (show 4611686018427387904 - r.2.1 < 18446744073709551616 by omega), w_u64 (show 0 ≤ r.2.2 - 1 by omega) (show r.2.2 - 1 < 18446744073709551616 by omega)]
          have e : runOk r = decide (r.2.2 - 1 ≤ 4611686018427387904 - r.2.1) := by unfold runOk; grind
          rw [e]

theorem countR_top : ∀ l : List Rn, countR 4611686018427387904 l = 4611686018427387904
  | [] => rfl
  | r :: l => by
    unfold countR
    split
    · rename_i h
      have := runOk_le h
      rw [show min (4611686018427387904 + r.2.2) 4611686018427387904 = 4611686018427387904 by omega]
      exact countR_top l
    · exact countR_top l

theorem ref_count_loop (k : Nat) {l : List Rn} {v : AV} (hw : ∀ r ∈ l, WfR r) (hb : l.length ≤ 4611686018427387904) : ∀ (n i : Nat) (s : Store) (a : Int), 0 ≤ a → a ≤ 4611686018427387904 → IsRuns s v l → i ≤ l.length → l.length - i < n →
    ∃ s', unisonref03_Count.l0 (k + 1) n v (.int .u64 a) (.int .i64 l.length) (.int .i64 i) s = some (.int .u64 (countR a (l.drop i)), s') ∧ Ext s s'
  | 0, i, _, _, _, _, _, hi, hn => by omega
  | n + 1, i, s, a, ha0, ha1, hv, hi, hn => by
    have hs : unisonref03_Count.l0 (k + 1) (n + 1) = fun x0 x3 x6 x7 s => unisonref03_Count.p4 (k + 1) (unisonref03_Count.l0 (k + 1) n) x0 x3 x6 x7 s := rfl
    rw [hs]
    clear hs
    simp only
    unfold unisonref03_Count.p4 unisonref03_Count.p3
    rw [lss_i]
    by_cases h : i < l.length
    · have hz : (i : Int) < (l.length : Int) := by omega
      rw [decide_eq_true hz, if_t]
      unfold unisonref03_Count.p2 unisonref03_Count.p1
      have hwi := hw _ (List.getElem_mem h)
      have hw1 : IntKind.i64.wrap ((i : Int) + 1) = ((i + 1 : Nat) : Int) := by rw [w_i64 (by omega) (by omega)]; omega
      obtain ⟨id, rfl, hid, ha⟩ := runs_at hv h
      have e1 := Ext.push s (.cells (rcells l[i]) false)
      rw [idx_r h, load_run ha i h, ref_run hwi, bnd]
      simp only
      generalize (s.push (.cells (rcells l[i]) false)) = s1 at *
      have ha1' := ha.ext hid e1
      rw [List.drop_eq_getElem_cons h, countR]
      by_cases hr : runOk l[i] = true
      · have hle := runOk_le hr
        simp only [hr, bnd, guard_tt, guard_ff, guard_tf, guard_ft, pick_t, pick_f, if_t, if_f, add_i, sub_i, lss_i, leq_i, gtr_i, geq_i, eql_i, neq_i, min_i, max_i, conv_i, len_sl, len_nil, not_b, cells_agg, new_s, fld_p, nil_p, idx_r h, fld_2 ha1' h, w_u64 (show 0 ≤ 4611686018427387904 - a by omega) (show 4611686018427387904 - a < 18446744073709551616 by omega)]
        by_cases hc : l[i].2.2 > 4611686018427387904 - a
        · rw [decide_eq_true hc, if_t, if_pos trivial, show min (a + l[i].2.2) 4611686018427387904 = 4611686018427387904 by omega, countR_top]
          exact ⟨s1, rfl, e1⟩
        · rw [decide_eq_false hc, if_f, if_pos trivial, w_u64 (by omega) (by omega), hw1, show min (a + l[i].2.2) 4611686018427387904 = a + l[i].2.2 by omega]
          obtain ⟨s', k1, k2⟩ := ref_count_loop k hw hb n (i + 1) s1 (a + l[i].2.2) (by omega) (by omega) (hv.ext e1) (by omega) (by omega)
          exact ⟨s', k1, e1.trans k2⟩
      · have hr' : runOk l[i] = false := by simpa using hr
        rw [hr', if_f, add_i, hw1, if_neg (by simp)]
        obtain ⟨s', k1, k2⟩ := ref_count_loop k hw hb n (i + 1) s1 a ha0 ha1 (hv.ext e1) (by omega) (by omega)
        exact ⟨s', k1, e1.trans k2⟩
    · have hz : ¬ (i : Int) < (l.length : Int) := by omega
      rw [decide_eq_false hz, if_f]
      unfold unisonref03_Count.p0
      exact ⟨s, by rw [List.drop_eq_nil_of_le (by omega)]; rfl, Ext.refl _⟩

theorem ref_count {s : Store} {v : AV} {l : List Rn} (hl : IsRuns s v l) (hw : ∀ r ∈ l, WfR r) (k : Nat) (hb : l.length ≤ k) (hk : k ≤ 4611686018427387904) :
    ∃ s', rn (k + 2) 47 [v] s = some (.int .u64 (countR 0 l), s') ∧ Ext s s' := by
  rw [unisonref03_Count.eq]
  unfold unisonref03_Count.f unisonref03_Count.p7 unisonref03_Count.p6 unisonref03_Count.p5
  rw [len_runs hl]
  obtain ⟨s', k1, k2⟩ := ref_count_loop k hw (by omega) (k + 1) 0 s 0 (by omega) (by omega) hl (by omega) (by omega)
  rw [Int.natCast_zero] at k1
  exact ⟨s', k1, k2⟩

/-- A batch, from a run on: its sender is greater than the last one. -/
def mayFrom (base : List Int) : Int → List Rn → Bool
  | _, [] => true
  | last, r :: l => runOk r && (!decide (r.1 ≤ last) && (!decide (r.1 ≥ base.length) && (decide (base.getD r.1.toNat 0 = r.2.1 - 1) && mayFrom base r.1 l)))
def mayR (base : List Int) (most : Int) (l : List Rn) : Bool := if l = [] ∨ most < 0 ∨ countR 0 l > min most 4096 then false else mayFrom base (-1) l

theorem ref_may_loop (k : Nat) {x0 v : AV} {base : List Int} {l : List Rn} (hub : U base) (hw : ∀ r ∈ l, WfR r) (hb : l.length ≤ 4611686018427387904) : ∀ (n i : Nat) (s : Store) (last : Int), IsSl s x0 .u64 base → IsRuns s v l → i ≤ l.length → l.length - i < n →
    ∃ s', unisonref05_May.l0 (k + 1) n x0 v (.int .i64 last) (.int .i64 l.length) (.int .i64 i) s = some (.bool (mayFrom base last (l.drop i)), s') ∧ Ext s s'
  | 0, i, _, _, _, _, hi, hn => by omega
  | n + 1, i, s, last, h0, hv, hi, hn => by
    have hs : unisonref05_May.l0 (k + 1) (n + 1) = fun x0 x2 x8 x29 x30 s => unisonref05_May.p8 (k + 1) (unisonref05_May.l0 (k + 1) n) x0 x2 x8 x29 x30 s := rfl
    rw [hs]
    clear hs
    simp only
    unfold unisonref05_May.p8 unisonref05_May.p7
    rw [lss_i]
    by_cases h : i < l.length
    · have hz : (i : Int) < (l.length : Int) := by omega
      rw [decide_eq_true hz, if_t]
      unfold unisonref05_May.p6 unisonref05_May.p5 unisonref05_May.p4
      have hwi := hw _ (List.getElem_mem h)
      have hw1 : IntKind.i64.wrap ((i : Int) + 1) = ((i + 1 : Nat) : Int) := by rw [w_i64 (by omega) (by omega)]; omega
      obtain ⟨id, rfl, hid, ha⟩ := runs_at hv h
      have e1 := Ext.push s (.cells (rcells l[i]) false)
      have hfr : 0 ≤ l[i].1 ∧ l[i].1 < 256 := hwi.1
      rw [idx_r h, fld_p, fld_0 ha h, conv_i, w_i64 (by omega) (by omega)]
      simp only [bnd, idx_r h, load_run ha i h, ref_run hwi]
      generalize (s.push (.cells (rcells l[i]) false)) = s1 at *
      have ha1' := ha.ext hid e1
      rw [List.drop_eq_getElem_cons h, mayFrom]
      have fail : ∀ b : Bool, b = true → ∃ s', unisonref05_May.p3 (k + 1) (unisonref05_May.l0 (k + 1) n) x0 (.sl id 0 l.length 3 (l.length * 3)) (.int .i64 l[i].1) (.int .i64 l.length) (.int .i64 i) (.bool b) s1 = some (.bool false, s') ∧ Ext s s' := fun b hb => by
        subst hb
        unfold unisonref05_May.p3
        rw [if_t]
        exact ⟨s1, rfl, e1⟩
      by_cases hr : runOk l[i] = true
      · have hrk := of_decide_eq_true hr
        simp only [hr, bnd, guard_tt, guard_ff, guard_tf, guard_ft, pick_t, pick_f, if_t, if_f, add_i, sub_i, lss_i, leq_i, gtr_i, geq_i, eql_i, neq_i, min_i, max_i, conv_i, len_sl, len_nil, not_b, cells_agg, new_s, fld_p, nil_p, Bool.not_true, Bool.true_and]
        by_cases h2 : l[i].1 ≤ last
        · simp only [decide_eq_true h2, bnd, guard_tt, guard_ff, guard_tf, guard_ft, pick_t, pick_f, if_t, if_f, add_i, sub_i, lss_i, leq_i, gtr_i, geq_i, eql_i, neq_i, min_i, max_i, conv_i, len_sl, len_nil, not_b, cells_agg, new_s, fld_p, nil_p, Bool.not_true, Bool.false_and]
          exact fail true rfl
        · simp only [decide_eq_false h2, bnd, guard_tt, guard_ff, guard_tf, guard_ft, pick_t, pick_f, if_t, if_f, add_i, sub_i, lss_i, leq_i, gtr_i, geq_i, eql_i, neq_i, min_i, max_i, conv_i, len_sl, len_nil, not_b, cells_agg, new_s, fld_p, nil_p, Bool.not_false, Bool.true_and, len_is (h0.ext e1)]
          by_cases h3 : l[i].1 ≥ (base.length : Int)
          · simp only [decide_eq_true h3, bnd, guard_tt, guard_ff, guard_tf, guard_ft, pick_t, pick_f, if_t, if_f, add_i, sub_i, lss_i, leq_i, gtr_i, geq_i, eql_i, neq_i, min_i, max_i, conv_i, len_sl, len_nil, not_b, cells_agg, new_s, fld_p, nil_p, Bool.not_true, Bool.false_and]
            exact fail true rfl
          · obtain ⟨p, p1, p2⟩ := index_isI (h0.ext e1) hfr.1 (by omega)
            have hbu := hub.at l[i].1.toNat
            simp only [decide_eq_false h3, bnd, guard_tt, guard_ff, guard_tf, guard_ft, pick_t, pick_f, if_t, if_f, add_i, sub_i, lss_i, leq_i, gtr_i, geq_i, eql_i, neq_i, min_i, max_i, conv_i, len_sl, len_nil, not_b, cells_agg, new_s, fld_p, nil_p, Bool.not_false, Bool.true_and, p1, p2, idx_r h, fld_1 ha1' h, w_u64 (show 0 ≤ l[i].2.1 - 1 by omega) (show l[i].2.1 - 1 < 18446744073709551616 by omega)]
            by_cases h4 : base.getD l[i].1.toNat 0 = l[i].2.1 - 1
            · have h4' : (base.getD l[i].1.toNat 0 != l[i].2.1 - 1) = false := by simpa using h4
              rw [h4', decide_eq_true h4, Bool.true_and]
              unfold unisonref05_May.p3 unisonref05_May.p2 unisonref05_May.p1
              rw [if_f, add_i, hw1]
              obtain ⟨s', k1, k2⟩ := ref_may_loop k hub hw hb n (i + 1) s1 l[i].1 (h0.ext e1) (hv.ext e1) (by omega) (by omega)
              exact ⟨s', k1, e1.trans k2⟩
            · have h4' : (base.getD l[i].1.toNat 0 != l[i].2.1 - 1) = true := by simpa using h4
              rw [h4', decide_eq_false h4, Bool.false_and]
              exact fail true rfl
      · have hr' : runOk l[i] = false := by simpa using hr
        simp only [hr', bnd, guard_tt, guard_ff, guard_tf, guard_ft, pick_t, pick_f, if_t, if_f, add_i, sub_i, lss_i, leq_i, gtr_i, geq_i, eql_i, neq_i, min_i, max_i, conv_i, len_sl, len_nil, not_b, cells_agg, new_s, fld_p, nil_p, Bool.not_false, Bool.false_and]
        exact fail true rfl
    · have hz : ¬ (i : Int) < (l.length : Int) := by omega
      rw [decide_eq_false hz, if_f]
      unfold unisonref05_May.p0
      exact ⟨s, by rw [List.drop_eq_nil_of_le (by omega)]; rfl, Ext.refl _⟩

theorem ref_may {s : Store} {x0 v : AV} {base : List Int} {most : Int} {l : List Rn} (h0 : IsSl s x0 .u64 base) (hl : IsRuns s v l) (hub : U base) (hw : ∀ r ∈ l, WfR r) (hm : most < 9223372036854775808) (k : Nat) (hb : l.length ≤ k) (hk : k ≤ 1000000000) :
    ∃ s', rn (k + 4) 29 [x0, .int .i64 most, v] s = some (.bool (mayR base most l), s') ∧ Ext s s' := by
  rw [unisonref05_May.eq]
  unfold unisonref05_May.f unisonref05_May.p14 unisonref05_May.p13 mayR
  rw [len_runs hl, eql_i]
  by_cases h1 : l = []
  · subst h1
    simp only [List.length_nil, Int.natCast_zero, beq_self_eq_true, bnd, guard_tt, guard_ff, guard_tf, guard_ft, pick_t, pick_f, if_t, if_f, add_i, sub_i, lss_i, leq_i, gtr_i, geq_i, eql_i, neq_i, min_i, max_i, conv_i, len_sl, len_nil, not_b, cells_agg, new_s, fld_p, nil_p, true_or, if_true]
    exact ⟨s, rfl, Ext.refl _⟩
  · have h1' : (((l.length : Nat) : Int) == 0) = false := by
      have : l.length ≠ 0 := fun q => h1 (List.length_eq_zero_iff.1 q)
      simp; omega
    by_cases h2 : most < 0
    · rw [if_pos (.inr (.inl h2))]
      simp only [h1', decide_eq_true h2, bnd, guard_tt, guard_ff, guard_tf, guard_ft, pick_t, pick_f, if_t, if_f, add_i, sub_i, lss_i, leq_i, gtr_i, geq_i, eql_i, neq_i, min_i, max_i, conv_i, len_sl, len_nil, not_b, cells_agg, new_s, fld_p, nil_p]
      exact ⟨s, rfl, Ext.refl _⟩
    · have hiff : (l = [] ∨ most < 0 ∨ countR 0 l > min most 4096) ↔ countR 0 l > min most 4096 := by simp [h1, h2]
      simp only [h1', hiff, bnd, guard_tt, guard_ff, guard_tf, guard_ft, pick_t, pick_f, if_t, if_f, add_i, sub_i, lss_i, leq_i, gtr_i, geq_i, eql_i, neq_i, min_i, max_i, conv_i, len_sl, len_nil, not_b, cells_agg, new_s, fld_p, nil_p]
      simp only [decide_eq_false h2, bnd, guard_tt, guard_ff, guard_tf, guard_ft, pick_t, pick_f, if_t, if_f, add_i, sub_i, lss_i, leq_i, gtr_i, geq_i, eql_i, neq_i, min_i, max_i, conv_i, len_sl, len_nil, not_b, cells_agg, new_s, fld_p, nil_p]
      unfold unisonref05_May.p12
      obtain ⟨s1, k1, e1⟩ := ref_count hl hw (k + 1) (by omega) (by omega)
      have k1' : rn (k + 3) 47 [v] s = some (.int .u64 (countR 0 l), s1) := k1
      rw [k1', bnd]
      unfold unisonref05_May.p11
      simp only [bnd, guard_tt, guard_ff, guard_tf, guard_ft, pick_t, pick_f, if_t, if_f, add_i, sub_i, lss_i, leq_i, gtr_i, geq_i, eql_i, neq_i, min_i, max_i, conv_i, len_sl, len_nil, not_b, cells_agg, new_s, fld_p, nil_p, w_u64 (show 0 ≤ most by omega) (show most < 18446744073709551616 by omega)]
      by_cases h3 : countR 0 l > most
      · simp only [decide_eq_true h3, bnd, guard_tt, guard_ff, guard_tf, guard_ft, pick_t, pick_f, if_t, if_f, add_i, sub_i, lss_i, leq_i, gtr_i, geq_i, eql_i, neq_i, min_i, max_i, conv_i, len_sl, len_nil, not_b, cells_agg, new_s, fld_p, nil_p]
        rw [if_pos (show countR 0 l > min most 4096 by omega)]
        exact ⟨s1, rfl, e1⟩
      · simp only [decide_eq_false h3, bnd, guard_tt, guard_ff, guard_tf, guard_ft, pick_t, pick_f, if_t, if_f, add_i, sub_i, lss_i, leq_i, gtr_i, geq_i, eql_i, neq_i, min_i, max_i, conv_i, len_sl, len_nil, not_b, cells_agg, new_s, fld_p, nil_p]
        by_cases h4 : countR 0 l > 4096
        · rw [decide_eq_true h4, if_pos (show countR 0 l > min most 4096 by omega), if_t]
          exact ⟨s1, rfl, e1⟩
        · rw [decide_eq_false h4, if_neg (show ¬ countR 0 l > min most 4096 by omega), if_f]
          unfold unisonref05_May.p10 unisonref05_May.p9
          rw [len_runs (hl.ext e1)]
          obtain ⟨s2, k2, e2⟩ := ref_may_loop (k + 2) hub hw (by omega) (k + 3) 0 s1 (-1) (h0.ext e1) (hl.ext e1) (by omega) (by omega)
          rw [Int.natCast_zero, List.drop_zero] at k2
          exact ⟨s2, k2, e1.trans e2⟩

/-- The last sender ahead of a place. -/
def lastAt (l : List Rn) (i : Nat) : Int := if i = 0 then -1 else (l.getD (i - 1) (0, 0, 0)).1

theorem bat_may_loop (k : Nat) {x0 v : AV} {base : List Int} {l : List Rn} (hub : U base) (hw : ∀ r ∈ l, WfR r) (hb : l.length ≤ 4611686018427387904) : ∀ (n i : Nat) (s : Store), IsSl s x0 .u64 base → IsRuns s v l → i ≤ l.length → l.length - i < n →
    ∃ s', batch_May.l0 (k + 1) n x0 v v (.int .i64 l.length) (.int .i64 i) s = some (.bool (mayFrom base (lastAt l i) (l.drop i)), s') ∧ Ext s s'
  | 0, i, _, _, _, hi, hn => by omega
  | n + 1, i, s, h0, hv, hi, hn => by
    have hs : batch_May.l0 (k + 1) (n + 1) = fun x0 x2 x24 x25 x26 s => batch_May.p6 (k + 1) (batch_May.l0 (k + 1) n) x0 x2 x24 x25 x26 s := rfl
    rw [hs]
    clear hs
    simp only
    unfold batch_May.p6 batch_May.p5
    rw [lss_i]
    by_cases h : i < l.length
    · have hz : (i : Int) < (l.length : Int) := by omega
      rw [decide_eq_true hz, if_t]
      unfold batch_May.p4 batch_May.p3
      have hwi := hw _ (List.getElem_mem h)
      have hw1 : IntKind.i64.wrap ((i : Int) + 1) = ((i + 1 : Nat) : Int) := by rw [w_i64 (by omega) (by omega)]; omega
      obtain ⟨id, rfl, hid, ha⟩ := runs_at hv h
      obtain ⟨e0, n0, g0, st⟩ := copy_run (s := s) l[i]
      have hfr : 0 ≤ l[i].1 ∧ l[i].1 < 256 := hwi.1
      rw [idx_r h, load_run ha i h, new_s, show ([AV.int .u8 0, AV.int .u64 0, AV.int .u64 0] : List AV).length = 3 from rfl, st]
      generalize ((s.push (.cells [AV.int .u8 0, AV.int .u64 0, AV.int .u64 0] false)).set s.next (.cells (rcells l[i]) false)) = s0 at *
      have ha0 := ha.ext hid e0
      have hid0 := Nat.lt_of_lt_of_le hid e0.next
      generalize s.next = cp at *
      have e1' := Ext.push s0 (.cells (rcells l[i]) false)
      simp only [bnd, ld_3 g0, ident_run hwi]
      have g1 := (e1'.get cp n0).trans g0
      generalize (s0.push (.cells (rcells l[i]) false)) = s1 at *
      have e1 := e0.trans e1'
      have ha1 := ha0.ext hid0 e1'
      rw [List.drop_eq_getElem_cons h, mayFrom]
      have fail : ∃ s', batch_May.p2 (k + 1) (batch_May.l0 (k + 1) n) x0 (.sl id 0 l.length 3 (l.length * 3)) (.sl id 0 l.length 3 (l.length * 3)) (.int .i64 l.length) (.int .i64 i) (.bool true) s1 = some (.bool false, s') ∧ Ext s s' := by
        unfold batch_May.p2
        rw [if_t]
        exact ⟨s1, rfl, e1⟩
      have go : l[i].1 = lastAt l (i + 1) := by
        unfold lastAt
        simp [h]
      by_cases hr : runOk l[i] = true
      · have hrk := of_decide_eq_true hr
        simp only [hr, bnd, guard_tt, guard_ff, guard_tf, guard_ft, pick_t, pick_f, if_t, if_f, add_i, sub_i, lss_i, leq_i, gtr_i, geq_i, eql_i, neq_i, min_i, max_i, conv_i, len_sl, len_nil, not_b, cells_agg, new_s, fld_p, nil_p, Bool.not_true, Bool.true_and, ld_0 g1, len_is (h0.ext e1), w_i64 (show -9223372036854775808 ≤ l[i].1 by omega) (show l[i].1 < 9223372036854775808 by omega)]
        by_cases h3 : l[i].1 ≥ (base.length : Int)
        · simp only [decide_eq_true h3, bnd, guard_tt, guard_ff, guard_tf, guard_ft, pick_t, pick_f, if_t, if_f, add_i, sub_i, lss_i, leq_i, gtr_i, geq_i, eql_i, neq_i, min_i, max_i, conv_i, len_sl, len_nil, not_b, cells_agg, new_s, fld_p, nil_p, Bool.not_true, Bool.false_and, Bool.and_false]
          exact fail
        · obtain ⟨p, p1, p2⟩ := index_isI (h0.ext e1) hfr.1 (by omega)
          have hbu := hub.at l[i].1.toNat
          simp only [decide_eq_false h3, bnd, guard_tt, guard_ff, guard_tf, guard_ft, pick_t, pick_f, if_t, if_f, add_i, sub_i, lss_i, leq_i, gtr_i, geq_i, eql_i, neq_i, min_i, max_i, conv_i, len_sl, len_nil, not_b, cells_agg, new_s, fld_p, nil_p, Bool.not_false, Bool.true_and, p1, p2, ld_0 g1, ld_1 g1]
          by_cases h4 : base.getD l[i].1.toNat 0 = l[i].2.1 - 1
          · have h4' : (l[i].2.1 != IntKind.u64.wrap (base.getD l[i].1.toNat 0 + 1)) = false := by
              rw [w_u64 (by omega) (by omega)]; exact bne_eq_false_iff_eq.2 (by omega)
            simp only [h4', bnd, guard_tt, guard_ff, guard_tf, guard_ft, pick_t, pick_f, if_t, if_f, add_i, sub_i, lss_i, leq_i, gtr_i, geq_i, eql_i, neq_i, min_i, max_i, conv_i, len_sl, len_nil, not_b, cells_agg, new_s, fld_p, nil_p, decide_eq_true h4, Bool.true_and]
            by_cases hi0 : (i : Int) > 0
            · have hi1 : i - 1 < l.length := by omega
              have hs1 : IntKind.i64.wrap ((i : Int) - 1) = ((i - 1 : Nat) : Int) := by rw [w_i64 (by omega) (by omega)]; omega
              have hla : lastAt l i = l[i - 1].1 := by unfold lastAt; rw [if_neg (by omega)]; simp [hi1]
              simp only [decide_eq_true hi0, bnd, guard_tt, guard_ff, guard_tf, guard_ft, pick_t, pick_f, if_t, if_f, add_i, sub_i, lss_i, leq_i, gtr_i, geq_i, eql_i, neq_i, min_i, max_i, conv_i, len_sl, len_nil, not_b, cells_agg, new_s, fld_p, nil_p, ld_0 g1, hs1, idx_r hi1, fld_0 ha1 hi1, hla]
              by_cases h5 : l[i].1 ≤ l[i - 1].1
              · simp only [decide_eq_true h5, bnd, guard_tt, guard_ff, guard_tf, guard_ft, pick_t, pick_f, if_t, if_f, add_i, sub_i, lss_i, leq_i, gtr_i, geq_i, eql_i, neq_i, min_i, max_i, conv_i, len_sl, len_nil, not_b, cells_agg, new_s, fld_p, nil_p, Bool.not_true, Bool.false_and]
                exact fail
              · simp only [decide_eq_false h5, bnd, guard_tt, guard_ff, guard_tf, guard_ft, pick_t, pick_f, if_t, if_f, add_i, sub_i, lss_i, leq_i, gtr_i, geq_i, eql_i, neq_i, min_i, max_i, conv_i, len_sl, len_nil, not_b, cells_agg, new_s, fld_p, nil_p, Bool.not_false, Bool.true_and]
                unfold batch_May.p2 batch_May.p1
                rw [if_f, add_i, hw1]
                obtain ⟨s', k1, k2⟩ := bat_may_loop k hub hw hb n (i + 1) s1 (h0.ext e1) (hv.ext e1) (by omega) (by omega)
                exact ⟨s', by rw [k1, go], e1.trans k2⟩
            · have hla : lastAt l i = -1 := by unfold lastAt; rw [if_pos (by omega)]
              have h5 : ¬ l[i].1 ≤ -1 := by omega
              simp only [decide_eq_false hi0, bnd, guard_tt, guard_ff, guard_tf, guard_ft, pick_t, pick_f, if_t, if_f, add_i, sub_i, lss_i, leq_i, gtr_i, geq_i, eql_i, neq_i, min_i, max_i, conv_i, len_sl, len_nil, not_b, cells_agg, new_s, fld_p, nil_p, hla, decide_eq_false h5, Bool.not_false, Bool.true_and]
              unfold batch_May.p2 batch_May.p1
              rw [if_f, add_i, hw1]
              obtain ⟨s', k1, k2⟩ := bat_may_loop k hub hw hb n (i + 1) s1 (h0.ext e1) (hv.ext e1) (by omega) (by omega)
              exact ⟨s', by rw [k1, go], e1.trans k2⟩
          · have h4' : (l[i].2.1 != IntKind.u64.wrap (base.getD l[i].1.toNat 0 + 1)) = true := by
              by_cases hbig : base.getD l[i].1.toNat 0 = 18446744073709551615
              · rw [hbig]
                have : IntKind.u64.wrap (18446744073709551615 + 1) = 0 := by decide
                rw [this]; exact bne_iff_ne.2 (by omega)
              · rw [w_u64 (by omega) (by omega)]; exact bne_iff_ne.2 (by omega)
            simp only [h4', bnd, guard_tt, guard_ff, guard_tf, guard_ft, pick_t, pick_f, if_t, if_f, add_i, sub_i, lss_i, leq_i, gtr_i, geq_i, eql_i, neq_i, min_i, max_i, conv_i, len_sl, len_nil, not_b, cells_agg, new_s, fld_p, nil_p, decide_eq_false h4, Bool.false_and, Bool.and_false]
            exact fail
      · have hr' : runOk l[i] = false := by simpa using hr
        simp only [hr', bnd, guard_tt, guard_ff, guard_tf, guard_ft, pick_t, pick_f, if_t, if_f, add_i, sub_i, lss_i, leq_i, gtr_i, geq_i, eql_i, neq_i, min_i, max_i, conv_i, len_sl, len_nil, not_b, cells_agg, new_s, fld_p, nil_p, Bool.not_false, Bool.false_and]
        exact fail
    · have hz : ¬ (i : Int) < (l.length : Int) := by omega
      rw [decide_eq_false hz, if_f]
      unfold batch_May.p0
      exact ⟨s, by rw [List.drop_eq_nil_of_le (by omega)]; rfl, Ext.refl _⟩

theorem bat_may {s : Store} {x0 v : AV} {base : List Int} {most : Int} {l : List Rn} (h0 : IsSl s x0 .u64 base) (hl : IsRuns s v l) (hub : U base) (hw : ∀ r ∈ l, WfR r) (hm : most < 9223372036854775808) (k : Nat) (hb : l.length ≤ k) (hk : k ≤ 1000000000) :
    ∃ s', rn (k + 4) 64 [x0, .int .i64 most, v] s = some (.bool (mayR base most l), s') ∧ Ext s s' := by
  rw [batch_May.eq]
  unfold batch_May.f batch_May.p9 batch_May.p8 mayR
  rw [len_runs hl, eql_i]
  by_cases h1 : l = []
  · subst h1
    simp only [List.length_nil, Int.natCast_zero, beq_self_eq_true, bnd, guard_tt, guard_ff, guard_tf, guard_ft, pick_t, pick_f, if_t, if_f, add_i, sub_i, lss_i, leq_i, gtr_i, geq_i, eql_i, neq_i, min_i, max_i, conv_i, len_sl, len_nil, not_b, cells_agg, new_s, fld_p, nil_p, true_or, if_true]
    exact ⟨s, rfl, Ext.refl _⟩
  · have h1' : (((l.length : Nat) : Int) == 0) = false := by
      have : l.length ≠ 0 := fun q => h1 (List.length_eq_zero_iff.1 q)
      simp; omega
    by_cases h2 : most < 0
    · rw [if_pos (.inr (.inl h2))]
      simp only [h1', decide_eq_true h2, bnd, guard_tt, guard_ff, guard_tf, guard_ft, pick_t, pick_f, if_t, if_f, add_i, sub_i, lss_i, leq_i, gtr_i, geq_i, eql_i, neq_i, min_i, max_i, conv_i, len_sl, len_nil, not_b, cells_agg, new_s, fld_p, nil_p]
      exact ⟨s, rfl, Ext.refl _⟩
    · have hiff : (l = [] ∨ most < 0 ∨ countR 0 l > min most 4096) ↔ countR 0 l > min most 4096 := by simp [h1, h2]
      simp only [h1', hiff, bnd, guard_tt, guard_ff, guard_tf, guard_ft, pick_t, pick_f, if_t, if_f, add_i, sub_i, lss_i, leq_i, gtr_i, geq_i, eql_i, neq_i, min_i, max_i, conv_i, len_sl, len_nil, not_b, cells_agg, new_s, fld_p, nil_p]
      obtain ⟨s1, k1, e1⟩ := ident_count hl hw (k + 1) (by omega) (by omega)
      have k1' : rn (k + 3) 74 [v] s = some (.int .u64 (countR 0 l), s1) := k1
      simp only [decide_eq_false h2, bnd, guard_tt, guard_ff, guard_tf, guard_ft, pick_t, pick_f, if_t, if_f, add_i, sub_i, lss_i, leq_i, gtr_i, geq_i, eql_i, neq_i, min_i, max_i, conv_i, len_sl, len_nil, not_b, cells_agg, new_s, fld_p, nil_p, k1', w_u64 (show 0 ≤ min most 4096 by omega) (show min most 4096 < 18446744073709551616 by omega)]
      by_cases h3 : countR 0 l > min most 4096
      · rw [decide_eq_true h3, if_pos h3, if_t]
        exact ⟨s1, rfl, e1⟩
      · rw [decide_eq_false h3, if_neg h3, if_f]
        unfold batch_May.p7
        rw [len_runs (hl.ext e1)]
        obtain ⟨s2, k2, e2⟩ := bat_may_loop (k + 2) hub hw (by omega) (k + 3) 0 s1 (h0.ext e1) (hl.ext e1) (by omega) (by omega)
        rw [Int.natCast_zero, List.drop_zero] at k2
        exact ⟨s2, k2, e1.trans e2⟩
end Go.Proofs.Ytmaidlndikcgkaa.Sim
