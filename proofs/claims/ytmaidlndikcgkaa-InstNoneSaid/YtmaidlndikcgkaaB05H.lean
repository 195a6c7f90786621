/- Seat 05: runs: whether they may be, how many ids they have. No condition. -/
import Derived.Test.YtmaidlndikcgkaaB05G
namespace Go.Proofs.Ytmaidlndikcgkaa.Sim
set_option linter.unusedSimpArgs false

/-- Numbers within their bounds. -/
def WfR (r : Rn) : Prop := (0 ≤ r.1 ∧ r.1 < 256) ∧ (0 ≤ r.2.1 ∧ r.2.1 < 18446744073709551616) ∧ (0 ≤ r.2.2 ∧ r.2.2 < 18446744073709551616)
def runOk (r : Rn) : Bool := decide (r.1 < 64 ∧ 1 ≤ r.2.1 ∧ 1 ≤ r.2.2 ∧ r.2.1 ≤ 4611686018427387904 ∧ r.2.2 ≤ 4611686018427387904 - r.2.1 + 1)

theorem ld_0 {α : Type} {s : Store} {l : Nat} {r : Rn} {ro : Bool} (h : s.get l = .cells (rcells r) ro) (f : AV → Option α) : aLoad1 (.ptr l (0 + 0) 3) s f = f (.int .u8 r.1) := load_1 h rfl rfl
theorem ld_1 {α : Type} {s : Store} {l : Nat} {r : Rn} {ro : Bool} (h : s.get l = .cells (rcells r) ro) (f : AV → Option α) : aLoad1 (.ptr l (0 + 1) 3) s f = f (.int .u64 r.2.1) := load_1 h rfl rfl
theorem ld_2 {α : Type} {s : Store} {l : Nat} {r : Rn} {ro : Bool} (h : s.get l = .cells (rcells r) ro) (f : AV → Option α) : aLoad1 (.ptr l (0 + 2) 3) s f = f (.int .u64 r.2.2) := load_1 h rfl rfl
theorem ld_3 {α : Type} {s : Store} {l : Nat} {r : Rn} {ro : Bool} (h : s.get l = .cells (rcells r) ro) (f : AV → Option α) : aLoadN 3 (.ptr l 0 3) s f = f (.agg (rcells r)) := load_n h rfl (Nat.le_refl _)
theorem st_3 {α : Type} {s : Store} {l : Nat} {cs : List AV} (r : Rn) (h : s.get l = .cells cs false) (hc : cs.length = 3) (f : Store → Option α) : aStore 3 (.ptr l 0 3) (.agg (rcells r)) s f = f (s.set l (.cells (rcells r) false)) := by
  match cs, hc with
  | [a, b, c], _ => simp [aStore, aCells, aOwn, h, rcells, putAll]
theorem r_len (r : Rn) : (rcells r).length = 3 := rfl

theorem ident_run {s : Store} {r : Rn} (hr : WfR r) (k : Nat) : rn (k + 1) 67 [.agg (rcells r)] s = some (.bool (runOk r), s.push (.cells (rcells r) false)) := by
  obtain ⟨⟨a1, a2⟩, ⟨b1, b2⟩, c1, c2⟩ := hr
  rw [ident_Run.eq]
  unfold ident_Run.f ident_Run.p0
  have g : (s.push (.cells (rcells r) false)).get s.next = .cells (rcells r) false := by rw [get_push, if_pos rfl]
  simp only [bnd, guard_tt, guard_ff, guard_tf, guard_ft, pick_t, pick_f, if_t, if_f, add_i, sub_i, lss_i, leq_i, gtr_i, geq_i, eql_i, neq_i, min_i, max_i, conv_i, len_sl, len_nil, not_b, cells_agg, new_s, fld_p, nil_p, r_len, ld_0 g]
  have e : runOk r = (decide (r.1 < 64) && (decide (r.2.1 ≥ 1) && (decide (r.2.2 ≥ 1) && (decide (r.2.1 ≤ 4611686018427387904) && decide (r.2.2 ≤ 4611686018427387904 - r.2.1 + 1))))) := by
    unfold runOk; grind
  rw [e]
  by_cases h1 : r.1 < 64
  · simp only [h1, decide_true, bnd, guard_tt, guard_ff, guard_tf, guard_ft, pick_t, pick_f, if_t, if_f, add_i, sub_i, lss_i, leq_i, gtr_i, geq_i, eql_i, neq_i, min_i, max_i, conv_i, len_sl, len_nil, not_b, cells_agg, new_s, fld_p, nil_p, ld_1 g, Bool.true_and]
    by_cases h2 : r.2.1 ≥ 1
    · simp only [h2, decide_true, bnd, guard_tt, guard_ff, guard_tf, guard_ft, pick_t, pick_f, if_t, if_f, add_i, sub_i, lss_i, leq_i, gtr_i, geq_i, eql_i, neq_i, min_i, max_i, conv_i, len_sl, len_nil, not_b, cells_agg, new_s, fld_p, nil_p, ld_2 g, Bool.true_and]
      by_cases h3 : r.2.2 ≥ 1
      · simp only [h3, decide_true, bnd, guard_tt, guard_ff, guard_tf, guard_ft, pick_t, pick_f, if_t, if_f, add_i, sub_i, lss_i, leq_i, gtr_i, geq_i, eql_i, neq_i, min_i, max_i, conv_i, len_sl, len_nil, not_b, cells_agg, new_s, fld_p, nil_p, ld_1 g, Bool.true_and]
        by_cases h4 : r.2.1 ≤ 4611686018427387904
        · simp only [h4, decide_true, bnd, guard_tt, guard_ff, guard_tf, guard_ft, pick_t, pick_f, if_t, if_f, add_i, sub_i, lss_i, leq_i, gtr_i, geq_i, eql_i, neq_i, min_i, max_i, conv_i, len_sl, len_nil, not_b, cells_agg, new_s, fld_p, nil_p, ld_1 g, ld_2 g, Bool.true_and, w_u64 (show 0 ≤ 4611686018427387904 - r.2.1 by omega) (show 4611686018427387904 - r.2.1 < 18446744073709551616 by omega), w_u64 (show 0 ≤ 4611686018427387904 - r.2.1 + 1 by omega) (show 4611686018427387904 - r.2.1 + 1 < 18446744073709551616 by omega)]
        · simp only [h4, decide_false, bnd, guard_tt, guard_ff, guard_tf, guard_ft, pick_t, pick_f, if_t, if_f, add_i, sub_i, lss_i, leq_i, gtr_i, geq_i, eql_i, neq_i, min_i, max_i, conv_i, len_sl, len_nil, not_b, cells_agg, new_s, fld_p, nil_p, Bool.false_and]
      · simp only [h3, decide_false, bnd, guard_tt, guard_ff, guard_tf, guard_ft, pick_t, pick_f, if_t, if_f, add_i, sub_i, lss_i, leq_i, gtr_i, geq_i, eql_i, neq_i, min_i, max_i, conv_i, len_sl, len_nil, not_b, cells_agg, new_s, fld_p, nil_p, Bool.false_and]
    · simp only [h2, decide_false, bnd, guard_tt, guard_ff, guard_tf, guard_ft, pick_t, pick_f, if_t, if_f, add_i, sub_i, lss_i, leq_i, gtr_i, geq_i, eql_i, neq_i, min_i, max_i, conv_i, len_sl, len_nil, not_b, cells_agg, new_s, fld_p, nil_p, Bool.false_and]
  · simp only [h1, decide_false, bnd, guard_tt, guard_ff, guard_tf, guard_ft, pick_t, pick_f, if_t, if_f, add_i, sub_i, lss_i, leq_i, gtr_i, geq_i, eql_i, neq_i, min_i, max_i, conv_i, len_sl, len_nil, not_b, cells_agg, new_s, fld_p, nil_p, Bool.false_and]

theorem AtRuns.ext {s s' : Store} {id : Nat} {l : List Rn} (h : AtRuns s id l) (hid : id < s.next) (e : Ext s s') : AtRuns s' id l := by
  obtain ⟨ro, h⟩ := h
  exact ⟨ro, by rw [e.get id hid]; exact h⟩

/-- The first run of which a closure says yes. -/
theorem index_func (k g : Nat) (cap : List AV) (p : Rn → Bool) (P : Store → Prop) (hP : ∀ s s', P s → Ext s s' → P s') (hg : ∀ (s : Store) (r : Rn), WfR r → P s → ∃ s', rn k g ([] ++ [.agg (rcells r)] ++ cap) s = some (.bool (p r), s') ∧ Ext s s') {id : Nat} {l : List Rn} (hw : ∀ r ∈ l, WfR r) (hb : l.length ≤ 4611686018427387904) : ∀ (n i : Nat) (s : Store), P s → AtRuns s id l → id < s.next → i ≤ l.length → l.length - i < n →
    ∃ m s', api_Run_75.l0 k n (.sl id 0 l.length 3 (l.length * 3)) (.func g [] cap) (.int .i64 l.length) (.int .i64 i) s = some (.int .i64 m, s') ∧ Ext s s' ∧ (decide (0 ≤ m) = (l.drop i).any p)
  | 0, i, _, _, _, _, hi, hn => by omega
  | n + 1, i, s, hPs, ha, hid, hi, hn => by
    have hs : api_Run_75.l0 k (n + 1) = fun x0 x1 x7 x8 s => api_Run_75.p4 k (api_Run_75.l0 k n) x0 x1 x7 x8 s := rfl
    rw [hs]
    clear hs
    simp only
    unfold api_Run_75.p4 api_Run_75.p3
    rw [lss_i]
    by_cases h : i < l.length
    · have hz : (i : Int) < (l.length : Int) := by omega
      rw [decide_eq_true hz, if_t]
      unfold api_Run_75.p2 api_Run_75.p1
      rw [index_sl (show (0 : Int) ≤ i by omega) hz, Int.toNat_natCast, load_run ha i h]
      obtain ⟨s1, e1, e2⟩ := hg s l[i] (hw _ (List.getElem_mem h)) hPs
      simp only [aCall, e1, bnd]
      rw [List.drop_eq_getElem_cons h, List.any_cons]
      by_cases hc : p l[i] = true
      · rw [hc, if_t]
        exact ⟨i, s1, rfl, e2, by simp⟩
      · have hc' : p l[i] = false := by simpa using hc
        have hw1 : IntKind.i64.wrap ((i : Int) + 1) = ((i + 1 : Nat) : Int) := by rw [w_i64 (by omega) (by omega)]; omega
        rw [hc', if_f, add_i, hw1]
        obtain ⟨m, s', k1, k2, k3⟩ := index_func k g cap p P hP hg hw hb n (i + 1) s1 (hP _ _ hPs e2) (ha.ext hid e2) (Nat.lt_of_lt_of_le hid e2.next) (by omega) (by omega)
        exact ⟨m, s', k1, e2.trans k2, by rw [k3, Bool.false_or]⟩
    · have hz : ¬ (i : Int) < (l.length : Int) := by omega
      rw [decide_eq_false hz, if_f]
      unfold api_Run_75.p0
      exact ⟨-1, s, rfl, Ext.refl _, by rw [List.drop_eq_nil_of_le (by omega)]; rfl⟩

theorem contains_func (k g : Nat) (cap : List AV) (p : Rn → Bool) (P : Store → Prop) (hP : ∀ s s', P s → Ext s s' → P s') (hg : ∀ (s : Store) (r : Rn), WfR r → P s → ∃ s', rn k g ([] ++ [.agg (rcells r)] ++ cap) s = some (.bool (p r), s') ∧ Ext s s') {s : Store} {v : AV} {l : List Rn} (hPs : P s) (hl : IsRuns s v l) (hw : ∀ r ∈ l, WfR r) (hb : l.length < k) (hk : k ≤ 4611686018427387904) :
    ∃ s', rn (k + 2) 65 [v, .func g [] cap] s = some (.bool (l.any p), s') ∧ Ext s s' := by
  rw [api_Run.eq]
  unfold api_Run.f api_Run.p0
  rw [api_Run_75.eq]
  unfold api_Run_75.f api_Run_75.p6 api_Run_75.p5
  rw [len_runs hl]
  rcases hl with ⟨rfl, rfl⟩ | ⟨id, ro, rfl, h2, h3⟩
  · obtain ⟨k, rfl⟩ : ∃ q, k = q + 1 := ⟨k - 1, by simp at hb; omega⟩
    have hs : api_Run_75.l0 (k + 1) (k + 1) = fun x0 x1 x7 x8 s => api_Run_75.p4 (k + 1) (api_Run_75.l0 (k + 1) k) x0 x1 x7 x8 s := rfl
    rw [hs]
    simp only
    unfold api_Run_75.p4 api_Run_75.p3 api_Run_75.p0
    exact ⟨s, rfl, Ext.refl _⟩
  · obtain ⟨m, s', k1, k2, k3⟩ := index_func k g cap p P hP hg hw (by omega) k 0 s hPs ⟨ro, h3⟩ h2 (by omega) (by omega)
    rw [Int.natCast_zero] at k1
    rw [k1]
    simp only [bnd, guard_tt, guard_ff, guard_tf, guard_ft, pick_t, pick_f, if_t, if_f, add_i, sub_i, lss_i, leq_i, gtr_i, geq_i, eql_i, neq_i, min_i, max_i, conv_i, len_sl, len_nil, not_b, cells_agg, new_s, fld_p, nil_p]
    rw [List.drop_zero] at k3
    exact ⟨s', by rw [← k3], k2⟩

/-- How many ids runs have. -/
def countR : Int → List Rn → Int
  | a, [] => a
  | a, r :: l => countR (if runOk r = true then min (a + r.2.2) 4611686018427387904 else a) l
theorem runOk_le {r : Rn} (h : runOk r = true) : r.2.2 ≤ 4611686018427387904 ∧ 1 ≤ r.2.2 := by
  have := of_decide_eq_true h; omega
theorem countR_le : ∀ (l : List Rn) (a : Int), 0 ≤ a → a ≤ 4611686018427387904 → 0 ≤ countR a l ∧ countR a l ≤ 4611686018427387904
  | [], a, h, h2 => ⟨h, h2⟩
  | r :: l, a, h, h2 => by
    unfold countR
    split
    · rename_i hr
      have := runOk_le hr
      exact countR_le l _ (by omega) (by omega)
    · exact countR_le l a h h2

theorem count_loop (k : Nat) {id : Nat} {l : List Rn} (hw : ∀ r ∈ l, WfR r) (hb : l.length ≤ 4611686018427387904) : ∀ (n i : Nat) (s : Store) (a : Int), 0 ≤ a → a ≤ 4611686018427387904 → AtRuns s id l → id < s.next → i ≤ l.length → l.length - i < n →
    ∃ s', ident_Count.l0 (k + 1) n (.int .u64 a) (.sl id 0 l.length 3 (l.length * 3)) (.int .i64 l.length) (.int .i64 i) s = some (.int .u64 (countR a (l.drop i)), s') ∧ Ext s s'
  | 0, i, _, _, _, _, _, _, hi, hn => by omega
  | n + 1, i, s, a, ha0, ha1, ha, hid, hi, hn => by
    have hs : ident_Count.l0 (k + 1) (n + 1) = fun x3 x6 x7 x8 s => ident_Count.p4 (k + 1) (ident_Count.l0 (k + 1) n) x3 x6 x7 x8 s := rfl
    rw [hs]
    clear hs
    simp only
    unfold ident_Count.p4 ident_Count.p3
    rw [lss_i]
    by_cases h : i < l.length
    · have hz : (i : Int) < (l.length : Int) := by omega
      rw [decide_eq_true hz, if_t]
      unfold ident_Count.p2 ident_Count.p1
      have hwi := hw _ (List.getElem_mem h)
      have hw1 : IntKind.i64.wrap ((i : Int) + 1) = ((i + 1 : Nat) : Int) := by rw [w_i64 (by omega) (by omega)]; omega
      rw [index_sl (show (0 : Int) ≤ i by omega) hz, Int.toNat_natCast, load_run ha i h, new_s]
      rw [show ([AV.int .u8 0, AV.int .u64 0, AV.int .u64 0] : List AV).length = 3 from rfl, st_3 l[i] (cs := [AV.int .u8 0, AV.int .u64 0, AV.int .u64 0]) (by rw [get_push, if_pos rfl]) rfl]
      have e1 : Ext s ((s.push (.cells [AV.int .u8 0, AV.int .u64 0, AV.int .u64 0] false)).set s.next (.cells (rcells l[i]) false)) := ⟨by simp only [next_set, next_push]; omega, fun l hl => by grind [get_set, get_push]⟩
      have g1 : ((s.push (.cells [AV.int .u8 0, AV.int .u64 0, AV.int .u64 0] false)).set s.next (.cells (rcells l[i]) false)).get s.next = .cells (rcells l[i]) false := by rw [get_set, if_pos rfl]
      have n1 : s.next < ((s.push (.cells [AV.int .u8 0, AV.int .u64 0, AV.int .u64 0] false)).set s.next (.cells (rcells l[i]) false)).next := Nat.lt_succ_self _
      generalize ((s.push (.cells [AV.int .u8 0, AV.int .u64 0, AV.int .u64 0] false)).set s.next (.cells (rcells l[i]) false)) = s1 at *
      rw [ld_3 g1, ident_run hwi, bnd]
      have e2 := Ext.push s1 (.cells (rcells l[i]) false)
      have g2 := (e2.get s.next n1).trans g1
      generalize (s1.push (.cells (rcells l[i]) false)) = s2 at *
      have e12 := e1.trans e2
      rw [List.drop_eq_getElem_cons h, countR]
      by_cases hr : runOk l[i] = true
      · have hle := runOk_le hr
        rw [hr, if_t, fld_p, ld_2 g2, add_i, w_u64 (by omega) (by omega), min_i, add_i, hw1, if_pos rfl]
        obtain ⟨s', k1, k2⟩ := count_loop k hw hb n (i + 1) s2 (min (a + l[i].2.2) 4611686018427387904) (by omega) (by omega) (ha.ext hid e12) (Nat.lt_of_lt_of_le hid e12.next) (by omega) (by omega)
        exact ⟨s', k1, e12.trans k2⟩
      · have hr' : runOk l[i] = false := by simpa using hr
        rw [hr', if_f, add_i, hw1, if_neg (by simp)]
        obtain ⟨s', k1, k2⟩ := count_loop k hw hb n (i + 1) s2 a ha0 ha1 (ha.ext hid e12) (Nat.lt_of_lt_of_le hid e12.next) (by omega) (by omega)
        exact ⟨s', k1, e12.trans k2⟩
    · have hz : ¬ (i : Int) < (l.length : Int) := by omega
      rw [decide_eq_false hz, if_f]
      unfold ident_Count.p0
      exact ⟨s, by rw [List.drop_eq_nil_of_le (by omega)]; rfl, Ext.refl _⟩

theorem ident_count {s : Store} {v : AV} {l : List Rn} (hl : IsRuns s v l) (hw : ∀ r ∈ l, WfR r) (k : Nat) (hb : l.length ≤ k) (hk : k ≤ 4611686018427387904) :
    ∃ s', rn (k + 2) 74 [v] s = some (.int .u64 (countR 0 l), s') ∧ Ext s s' := by
  rw [ident_Count.eq]
  unfold ident_Count.f ident_Count.p7 ident_Count.p6 ident_Count.p5
  rw [len_runs hl]
  rcases hl with ⟨rfl, rfl⟩ | ⟨id, ro, rfl, h2, h3⟩
  · have hs : ident_Count.l0 (k + 1) (k + 1) = fun x3 x6 x7 x8 s => ident_Count.p4 (k + 1) (ident_Count.l0 (k + 1) k) x3 x6 x7 x8 s := rfl
    rw [hs]
    simp only
    unfold ident_Count.p4 ident_Count.p3 ident_Count.p0
    exact ⟨s, rfl, Ext.refl _⟩
  · obtain ⟨s', k1, k2⟩ := count_loop k hw (by omega) (k + 1) 0 s 0 (by omega) (by omega) ⟨ro, h3⟩ h2 (by omega) (by omega)
    rw [Int.natCast_zero] at k1
    exact ⟨s', k1, k2⟩
end Go.Proofs.Ytmaidlndikcgkaa.Sim
