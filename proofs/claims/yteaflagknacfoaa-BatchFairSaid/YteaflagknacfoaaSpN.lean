/- Seat 05: comparisons of what is the same; the document's order. No condition. -/
import Derived.Test.YteaflagknacfoaaSpM
namespace Go.Proofs.Yteaflagknacfoaa.Sim
set_option linter.unusedSimpArgs false
set_option linter.unusedVariables false

theorem covers_loop (k : Nat) {x0 x1 : AV} {xs : List Int} {s : Store} (h0 : IsSl s x0 .u64 xs) (h1 : IsSl s x1 .u64 xs) (hb : xs.length ≤ 4611686018427387904) : ∀ (n i : Nat), i ≤ xs.length → xs.length - i < n →
    unisonref04_Covers.l0 (k + 1) n x0 x1 (.int .i64 xs.length) (.int .i64 i) s = some (.bool true, s)
  | 0, i, hi, hn => by omega
  | n + 1, i, hi, hn => by
    have hs : unisonref04_Covers.l0 (k + 1) (n + 1) = fun x0 x1 x7 x8 s => unisonref04_Covers.p6 (k + 1) (unisonref04_Covers.l0 (k + 1) n) x0 x1 x7 x8 s := rfl
    rw [hs]
    clear hs
    simp only
    unfold unisonref04_Covers.p6 unisonref04_Covers.p5
    rw [lss_i]
    by_cases h : i < xs.length
    · have hz : (i : Int) < (xs.length : Int) := by omega
      rw [decide_eq_true hz, if_t]
      unfold unisonref04_Covers.p4 unisonref04_Covers.p3 unisonref04_Covers.p2 unisonref04_Covers.p1
      have hw1 : IntKind.i64.wrap ((i : Int) + 1) = ((i + 1 : Nat) : Int) := by rw [w_i64 (by omega) (by omega)]; omega
      obtain ⟨p, p1, p2⟩ := index_isI h1 (show (0 : Int) ≤ i by omega) hz
      have ea : atI xs i = xs.getD i 0 := by unfold atI; rw [if_neg (by omega), Int.toNat_natCast]
      have hlt : ¬ xs.getD i 0 < xs.getD i 0 := Int.lt_irrefl _
      simp only [bnd, guard_tt, guard_ff, guard_tf, guard_ft, pick_t, pick_f, if_t, if_f, add_i, sub_i, lss_i, leq_i, gtr_i, geq_i, eql_i, neq_i, min_i, max_i, conv_i, len_sl, len_nil, not_b, cells_agg, new_s, fld_p, nil_p, ref_at h0, p1, p2, aSame_self, Int.toNat_natCast, ea, decide_eq_false hlt, hw1]
      exact covers_loop k h0 h1 hb n (i + 1) (by omega) (by omega)
    · have hz : ¬ (i : Int) < (xs.length : Int) := by omega
      rw [decide_eq_false hz, if_f]
      rfl
theorem covers_same {s : Store} {x0 x1 : AV} {xs : List Int} (h0 : IsSl s x0 .u64 xs) (h1 : IsSl s x1 .u64 xs) (k : Nat) (hb : xs.length ≤ k) (hk : k ≤ 1000000000) : run Try.prog (k + 2) 35 [x0, x1] s = some (.bool true, s) := by
  rw [unisonref04_Covers.eq]
  unfold unisonref04_Covers.f unisonref04_Covers.p8 unisonref04_Covers.p7
  rw [len_is h1]
  have := covers_loop k h0 h1 (by omega) (k + 1) 0 (by omega) (by omega)
  rw [Int.natCast_zero] at this
  exact this
theorem equal_same {s : Store} {x0 x1 : AV} {xs : List Int} (h0 : IsSl s x0 .u64 xs) (h1 : IsSl s x1 .u64 xs) (k : Nat) (hb : xs.length ≤ k) (hk : k ≤ 1000000000) : run Try.prog (k + 4) 13 [x0, x1] s = some (.bool true, s) := by
  have hsame : run Try.prog (k + 3) 29 [x0, x1] s = some (.bool true, s) := by
    rw [unisonref04_Same.eq]
    unfold unisonref04_Same.f unisonref04_Same.p0
    simp only [covers_same h0 h1 k hb hk, covers_same h1 h0 k hb hk, bnd, guard_tt, guard_ff, guard_tf, guard_ft, pick_t, pick_f, if_t, if_f, add_i, sub_i, lss_i, leq_i, gtr_i, geq_i, eql_i, neq_i, min_i, max_i, conv_i, len_sl, len_nil, not_b, cells_agg, new_s, fld_p, nil_p]
  rw [unisonref04_Equal.eq]
  unfold unisonref04_Equal.f unisonref04_Equal.p0
  simp only [len_is h0, len_is h1, bnd, guard_tt, guard_ff, guard_tf, guard_ft, pick_t, pick_f, if_t, if_f, add_i, sub_i, lss_i, leq_i, gtr_i, geq_i, eql_i, neq_i, min_i, max_i, conv_i, len_sl, len_nil, not_b, cells_agg, new_s, fld_p, nil_p, beq_self_eq_true, hsame]

theorem ids_loop (k : Nat) {x0 x1 : AV} {l : List Idn} {s : Store} (h0 : IsL icells 2 s x0 l) (h1 : IsL icells 2 s x1 l) (hb : l.length ≤ 4611686018427387904) : ∀ (n i : Nat), i ≤ l.length → l.length - i < n →
    unisonref03_SameIDs.l0 k n x0 x1 (.int .i64 l.length) (.int .i64 i) s = some (.bool true, s)
  | 0, i, hi, hn => by omega
  | n + 1, i, hi, hn => by
    have hs : unisonref03_SameIDs.l0 k (n + 1) = fun x0 x1 x12 x13 s => unisonref03_SameIDs.p6 k (unisonref03_SameIDs.l0 k n) x0 x1 x12 x13 s := rfl
    rw [hs]
    clear hs
    simp only
    unfold unisonref03_SameIDs.p6 unisonref03_SameIDs.p5
    rw [lss_i]
    by_cases h : i < l.length
    · have hz : (i : Int) < (l.length : Int) := by omega
      rw [decide_eq_true hz, if_t]
      unfold unisonref03_SameIDs.p4 unisonref03_SameIDs.p3 unisonref03_SameIDs.p2 unisonref03_SameIDs.p1
      have hw1 : IntKind.i64.wrap ((i : Int) + 1) = ((i + 1 : Nat) : Int) := by rw [w_i64 (by omega) (by omega)]; omega
      obtain ⟨p, p1, p2⟩ := elemL ic_len h0 h
      obtain ⟨q, q1, q2⟩ := elemL ic_len h1 h
      simp only [bnd, guard_tt, guard_ff, guard_tf, guard_ft, pick_t, pick_f, if_t, if_f, add_i, sub_i, lss_i, leq_i, gtr_i, geq_i, eql_i, neq_i, min_i, max_i, conv_i, len_sl, len_nil, not_b, cells_agg, new_s, fld_p, nil_p, p1, p2, q1, q2, eq_ids, decide_true, Bool.not_true, hw1]
      exact ids_loop k h0 h1 hb n (i + 1) (by omega) (by omega)
    · have hz : ¬ (i : Int) < (l.length : Int) := by omega
      rw [decide_eq_false hz, if_f]
      rfl
theorem ids_same {s : Store} {x0 x1 : AV} {l : List Idn} (h0 : IsL icells 2 s x0 l) (h1 : IsL icells 2 s x1 l) (k : Nat) (hb : l.length < k) (hk : k ≤ 1000000000) : run Try.prog (k + 1) 19 [x0, x1] s = some (.bool true, s) := by
  rw [unisonref03_SameIDs.eq]
  unfold unisonref03_SameIDs.f unisonref03_SameIDs.p9 unisonref03_SameIDs.p8
  have hne : (((l.length : Nat) : Int) != ((l.length : Nat) : Int)) = false := by simp
  rw [lenL h0, lenL h1, neq_i, hne, if_f]
  unfold unisonref03_SameIDs.p7
  rw [lenL h0]
  have := ids_loop k h0 h1 (by omega) k 0 (by omega) (by omega)
  rw [Int.natCast_zero] at this
  exact this

/-- The greatest count. -/
def topR : Int → List Rn → Int
  | a, [] => a
  | a, r :: l => topR (if r.2.2 > a then r.2.2 else a) l
theorem topR_ge : ∀ (l : List Rn) (a : Int), a ≤ topR a l ∧ ∀ r ∈ l, r.2.2 ≤ topR a l
  | [], a => ⟨Int.le_refl _, fun r h => by simp at h⟩
  | r :: l, a => by
    unfold topR
    have hm : a ≤ (if r.2.2 > a then r.2.2 else a) ∧ r.2.2 ≤ (if r.2.2 > a then r.2.2 else a) := by split <;> omega
    generalize (if r.2.2 > a then r.2.2 else a) = m at *
    obtain ⟨h1, h2⟩ := topR_ge l m
    refine ⟨by omega, fun x hx => ?_⟩
    rcases List.mem_cons.1 hx with rfl | hx
    · omega
    · exact h2 x hx
theorem topR_le : ∀ (l : List Rn) (a : Int) (m : Int), a ≤ m → (∀ r ∈ l, r.2.2 ≤ m) → topR a l ≤ m
  | [], a, m, h, _ => h
  | r :: l, a, m, h, hl => by
    unfold topR
    exact topR_le l _ m (by have := hl r List.mem_cons_self; split <;> omega) fun x hx => hl x (List.mem_cons_of_mem _ hx)

theorem ro_tops (k : Nat) {x0 x3 : AV} {l : List Rn} (hw : ∀ r ∈ l, WfR r) (hb : l.length ≤ 4611686018427387904) (hok : ∀ r ∈ l, runOk r = true) : ∀ (n i : Nat) (s : Store) (a : Int), 0 ≤ a → IsRuns s x0 l → i ≤ l.length → l.length - i < n →
    ∃ s', unisonref05_Order.l2 (k + 1) n x0 x3 (.int .u64 a) (.int .i64 l.length) (.int .i64 i) s = unisonref05_Order.p12 (k + 1) x0 x3 (.int .u64 (topR a (l.drop i))) s' ∧ Ext s s'
  | 0, i, _, _, _, _, hi, hn => by omega
  | n + 1, i, s, a, ha0, hv, hi, hn => by
    have hs : unisonref05_Order.l2 (k + 1) (n + 1) = fun x0 x3 x4 x14 x15 s => unisonref05_Order.p16 (k + 1) (unisonref05_Order.l2 (k + 1) n) x0 x3 x4 x14 x15 s := rfl
    rw [hs]
    clear hs
    simp only
    unfold unisonref05_Order.p16 unisonref05_Order.p15
    rw [lss_i]
    by_cases h : i < l.length
    · have hz : (i : Int) < (l.length : Int) := by omega
      rw [decide_eq_true hz, if_t]
      unfold unisonref05_Order.p14 unisonref05_Order.p13
      have hwi := hw _ (List.getElem_mem h)
      have hr := hok _ (List.getElem_mem h)
      have hw1 : IntKind.i64.wrap ((i : Int) + 1) = ((i + 1 : Nat) : Int) := by rw [w_i64 (by omega) (by omega)]; omega
      obtain ⟨id, rfl, hid, ha⟩ := runs_at hv h
      have e1 := Ext.push s (.cells (rcells l[i]) false)
      rw [idx_r h, load_run ha i h, ref_run hwi, bnd, hr, not_b]
      simp only
      generalize (s.push (.cells (rcells l[i]) false)) = s1 at *
      have ha1' := ha.ext hid e1
      simp only [Bool.not_true, bnd, guard_tt, guard_ff, guard_tf, guard_ft, pick_t, pick_f, if_t, if_f, add_i, sub_i, lss_i, leq_i, gtr_i, geq_i, eql_i, neq_i, min_i, max_i, conv_i, len_sl, len_nil, not_b, cells_agg, new_s, fld_p, nil_p, idx_r h, fld_2 ha1' h, hw1]
      rw [List.drop_eq_getElem_cons h, topR]
      by_cases hc : l[i].2.2 > a
      · rw [decide_eq_true hc, if_t, if_pos hc]
        obtain ⟨s', k1, k2⟩ := ro_tops k (x3 := x3) hw hb hok n (i + 1) s1 l[i].2.2 (by omega) (hv.ext e1) (by omega) (by omega)
        exact ⟨s', k1, e1.trans k2⟩
      · rw [decide_eq_false hc, if_f, if_neg hc]
        obtain ⟨s', k1, k2⟩ := ro_tops k (x3 := x3) hw hb hok n (i + 1) s1 a ha0 (hv.ext e1) (by omega) (by omega)
        exact ⟨s', k1, e1.trans k2⟩
    · have hz : ¬ (i : Int) < (l.length : Int) := by omega
      rw [decide_eq_false hz, if_f]
      exact ⟨s, by rw [List.drop_eq_nil_of_le (by omega)]; rfl, Ext.refl _⟩

/-- Where a run may not be nothing is delivered. -/
theorem ro_bad (k : Nat) {x0 x3 : AV} {l : List Rn} (hw : ∀ r ∈ l, WfR r) (hb : l.length ≤ 4611686018427387904) : ∀ (n i : Nat) (s : Store) (a : Int), (l.drop i).any (fun r => !runOk r) = true → 0 ≤ a → IsRuns s x0 l → i ≤ l.length → l.length - i < n →
    ∃ s', unisonref05_Order.l2 (k + 1) n x0 x3 (.int .u64 a) (.int .i64 l.length) (.int .i64 i) s = some (x3, s') ∧ Ext s s'
  | 0, i, _, _, _, _, _, hi, hn => by omega
  | n + 1, i, s, a, hbad, ha0, hv, hi, hn => by
    have hs : unisonref05_Order.l2 (k + 1) (n + 1) = fun x0 x3 x4 x14 x15 s => unisonref05_Order.p16 (k + 1) (unisonref05_Order.l2 (k + 1) n) x0 x3 x4 x14 x15 s := rfl
    rw [hs]
    clear hs
    simp only
    unfold unisonref05_Order.p16 unisonref05_Order.p15
    rw [lss_i]
    by_cases h : i < l.length
    · have hz : (i : Int) < (l.length : Int) := by omega
      rw [decide_eq_true hz, if_t]
      unfold unisonref05_Order.p14 unisonref05_Order.p13
      have hwi := hw _ (List.getElem_mem h)
      have hw1 : IntKind.i64.wrap ((i : Int) + 1) = ((i + 1 : Nat) : Int) := by rw [w_i64 (by omega) (by omega)]; omega
      obtain ⟨id, rfl, hid, ha⟩ := runs_at hv h
      have e1 := Ext.push s (.cells (rcells l[i]) false)
      rw [idx_r h, load_run ha i h, ref_run hwi, bnd, not_b]
      simp only
      generalize (s.push (.cells (rcells l[i]) false)) = s1 at *
      have ha1' := ha.ext hid e1
      rw [List.drop_eq_getElem_cons h, List.any_cons] at hbad
      by_cases hr : runOk l[i] = true
      · simp only [hr, Bool.not_true, Bool.false_or] at hbad ⊢
        simp only [bnd, guard_tt, guard_ff, guard_tf, guard_ft, pick_t, pick_f, if_t, if_f, add_i, sub_i, lss_i, leq_i, gtr_i, geq_i, eql_i, neq_i, min_i, max_i, conv_i, len_sl, len_nil, not_b, cells_agg, new_s, fld_p, nil_p, idx_r h, fld_2 ha1' h, hw1]
        by_cases hc : l[i].2.2 > a
        · rw [decide_eq_true hc, if_t]
          obtain ⟨s', k1, k2⟩ := ro_bad k (x3 := x3) hw hb n (i + 1) s1 l[i].2.2 hbad (by omega) (hv.ext e1) (by omega) (by omega)
          exact ⟨s', k1, e1.trans k2⟩
        · rw [decide_eq_false hc, if_f]
          obtain ⟨s', k1, k2⟩ := ro_bad k (x3 := x3) hw hb n (i + 1) s1 a hbad ha0 (hv.ext e1) (by omega) (by omega)
          exact ⟨s', k1, e1.trans k2⟩
      · have hr' : runOk l[i] = false := by simpa using hr
        rw [hr']
        exact ⟨s1, rfl, e1⟩
    · rw [List.drop_eq_nil_of_le (by omega)] at hbad
      simp at hbad

section
variable {x0 : AV} {l : List Rn} {lo : Nat}

/-- One pass. -/
theorem ro_pass (k : Nat) {R0 : AV → AV → AV → AV → Store → Option (AV × Store)} {x4 : AV} {p : Nat} (hp : p ≤ 5000) (hw : ∀ r ∈ l, WfR r) (hok : ∀ r ∈ l, runOk r = true) (hlo : ∀ a b c d f, x0 = .sl a b c d f → a < lo) (hl : l.length ≤ 100000) : ∀ (n i : Nat) (s : Store) (out : List Idn) (v : AV), IsRuns s x0 l → lo ≤ s.next → OwnL icells 2 s v out lo → out.length + (l.length - i) ≤ 1000000000 → i ≤ l.length → l.length - i < n →
    ∃ v' s', unisonref05_Order.l0 k R0 n x0 v x4 (.int .u64 p) (.int .i64 l.length) (.int .i64 i) s = R0 x0 v' x4 (.int .u64 ((p + 1 : Nat) : Int)) s' ∧ OwnL icells 2 s' v' (out ++ passR p (l.drop i)) lo ∧ ExtLo lo s s'
  | 0, i, _, _, _, _, _, _, _, hi, hn => by omega
  | n + 1, i, s, out, v, h0, hs0, ho, hb, hi, hn => by
    have hs : unisonref05_Order.l0 k R0 (n + 1) = fun x0 x3 x4 x6 x44 x45 s => unisonref05_Order.p9 k R0 (unisonref05_Order.l0 k R0 n) x0 x3 x4 x6 x44 x45 s := rfl
    rw [hs]
    clear hs
    simp only
    unfold unisonref05_Order.p9 unisonref05_Order.p8
    rw [lss_i]
    by_cases h : i < l.length
    · have hz : (i : Int) < (l.length : Int) := by omega
      rw [decide_eq_true hz, if_t]
      unfold unisonref05_Order.p7 unisonref05_Order.p6 unisonref05_Order.p5
      have hw1 : IntKind.i64.wrap ((i : Int) + 1) = ((i + 1 : Nat) : Int) := by rw [w_i64 (by omega) (by omega)]; omega
      obtain ⟨id, hvv, hid, ha⟩ := runs_at h0 h
      have hrk := of_decide_eq_true (hok _ (List.getElem_mem h))
      have hwi := hw _ (List.getElem_mem h)
      rw [List.drop_eq_getElem_cons h, passR]
      rw [hvv, idx_r h, fld_p, fld_2 ha h, lss_i]
      by_cases hc : (p : Int) < l[i].2.2
      · rw [decide_eq_true hc, if_t, if_pos hc]
        unfold unisonref05_Order.p3 unisonref05_Order.p2
        have hsum : l[i].2.1 + (p : Int) < 18446744073709551616 := by omega
        obtain ⟨v1, s2, f1, f2, f3⟩ := app_ownL (bytes := 16) ic_len (by omega) (by omega) ho hs0 (l[i].1, l[i].2.1 + (p : Int)) (by omega)
        simp only [bnd, guard_tt, guard_ff, guard_tf, guard_ft, pick_t, pick_f, if_t, if_f, add_i, sub_i, lss_i, leq_i, gtr_i, geq_i, eql_i, neq_i, min_i, max_i, conv_i, len_sl, len_nil, not_b, cells_agg, new_s, fld_p, nil_p, idx_r h, fld_0 ha h, fld_1 ha h, w_u64 (show 0 ≤ l[i].2.1 + (p : Int) by omega) hsum, build_id, build_idrow, hw1, f1]
        rw [← hvv]
        obtain ⟨v', s', k1, k2, k3⟩ := ro_pass k (R0 := R0) (x4 := x4) hp hw hok hlo hl n (i + 1) s2 (out ++ [(l[i].1, l[i].2.1 + (p : Int))]) v1 (f3.isRuns h0 hlo) (Nat.le_trans hs0 f3.next) f2 (by simp; omega) (by omega) (by omega)
        exact ⟨v', s', k1, by rw [List.append_cons]; exact k2, f3.trans k3⟩
      · rw [decide_eq_false hc, if_f, if_neg hc]
        unfold unisonref05_Order.p4 unisonref05_Order.p2
        rw [add_i, hw1, ← hvv]
        exact ro_pass k (R0 := R0) (x4 := x4) hp hw hok hlo hl n (i + 1) s out v h0 hs0 ho (by omega) (by omega) (by omega)
    · have hz : ¬ (i : Int) < (l.length : Int) := by omega
      rw [decide_eq_false hz, if_f]
      unfold unisonref05_Order.p1
      rw [add_i, w_u64 (by omega) (by omega), List.drop_eq_nil_of_le (by omega)]
      exact ⟨v, s, rfl, by simpa [passR] using ho, ExtLo.refl _ _⟩

/-- All passes. -/
theorem ro_passes (k : Nat) (hk : l.length < k) (hw : ∀ r ∈ l, WfR r) (hok : ∀ r ∈ l, runOk r = true) (hlo : ∀ a b c d f, x0 = .sl a b c d f → a < lo) (hl : l.length ≤ 100000) (hsum : sumAll l ≤ 4096) (top : Nat) (ht : top ≤ 4096) : ∀ (n p : Nat) (s : Store) (v : AV), IsRuns s x0 l → lo ≤ s.next → OwnL icells 2 s v (ordPre p l) lo → p ≤ top → top - p < n →
    ∃ v' s', unisonref05_Order.l1 k n x0 v (.int .u64 top) (.int .u64 p) s = some (v', s') ∧ OwnL icells 2 s' v' (ordPre top l) lo ∧ ExtLo lo s s'
  | 0, p, _, _, _, _, _, hp, hn => by omega
  | n + 1, p, s, v, h0, hs0, ho, hp, hn => by
    have hs : unisonref05_Order.l1 k (n + 1) = fun x0 x3 x4 x6 s => unisonref05_Order.p11 k (unisonref05_Order.l1 k n) x0 x3 x4 x6 s := rfl
    rw [hs]
    clear hs
    simp only
    unfold unisonref05_Order.p11
    rw [lss_i]
    have hlen := ordPre_len p l
    have hle := sumMin_le p l
    by_cases hc : (p : Int) < (top : Int)
    · rw [decide_eq_true hc, if_t]
      unfold unisonref05_Order.p10
      rw [len_runs h0]
      obtain ⟨v1, s1, k1, k2, k3⟩ := ro_pass k (R0 := unisonref05_Order.l1 k n) (x4 := .int .u64 top) (p := p) (by omega) hw hok hlo hl k 0 s (ordPre p l) v h0 hs0 ho (by omega) (by omega) (by omega)
      rw [Int.natCast_zero] at k1
      rw [k1]
      rw [List.drop_zero] at k2
      obtain ⟨v', s', j1, j2, j3⟩ := ro_passes k hk hw hok hlo hl hsum top ht n (p + 1) s1 v1 (k3.isRuns h0 hlo) (Nat.le_trans hs0 k3.next) k2 (by omega) (by omega)
      exact ⟨v', s', j1, j2, k3.trans j3⟩
    · rw [decide_eq_false hc, if_f]
      unfold unisonref05_Order.p0
      have : p = top := by omega
      subst this
      exact ⟨v, s, rfl, ho, ExtLo.refl _ _⟩
end

theorem ref_order {s : Store} {v : AV} {l : List Rn} (hl : IsRuns s v l) (hw : ∀ r ∈ l, WfR r) (k : Nat) (hk : 5000 ≤ k) (hk2 : k ≤ 100000000) (hb : l.length ≤ 4000) :
    ∃ v' s', run Try.prog (k + 5) 20 [v] s = some (v', s') ∧ IsL icells 2 s' v' (orderR l) ∧ Ext s s' := by
  rw [unisonref05_Order.eq]
  unfold unisonref05_Order.f unisonref05_Order.p21 unisonref05_Order.p20 unisonref05_Order.p19
  have e : ∀ f : List AV → Option (AV × Store), aBuild [] [] f = f [] := fun _ => rfl
  rw [e]
  have e0 := Ext.push s (.cells [] false)
  have g0 : (s.push (.cells [] false)).get s.next = .cells [] false := by rw [get_push, if_pos rfl]
  have n0 : s.next < (s.push (.cells [] false)).next := Nat.lt_succ_self _
  generalize s.push (.cells [] false) = s0 at *
  obtain ⟨s1, k1, e1⟩ := ref_count (hl.ext e0) hw (k + 2) (by omega) (by omega)
  have k1' : run Try.prog (k + 4) 21 [v] s0 = some (.int .u64 (countR 0 l), s1) := k1
  simp only [k1', bnd, guard_tt, guard_ff, guard_tf, guard_ft, pick_t, pick_f, if_t, if_f, add_i, sub_i, lss_i, leq_i, gtr_i, geq_i, eql_i, neq_i, min_i, max_i, conv_i, len_sl, len_nil, not_b, cells_agg, new_s, fld_p, nil_p]
  have e01 := e0.trans e1
  have o1 : OwnL icells 2 s1 (.sl s.next 0 0 2 0) [] s.next := .inr ⟨s.next, rfl, Nat.le_refl _, Nat.lt_of_lt_of_le n0 e1.next, (e1.get _ n0).trans g0⟩
  have hge := countR_le l 0 (by omega) (by omega)
  by_cases h2 : countR 0 l > 4096
  · rw [decide_eq_true h2, if_t]
    exact ⟨_, s1, rfl, by unfold orderR; rw [if_pos (.inr h2)]; exact o1.is, e01⟩
  · rw [decide_eq_false h2, if_f]
    unfold unisonref05_Order.p18 unisonref05_Order.p17
    rw [len_runs (hl.ext e01)]
    by_cases h1 : l.any (fun r => !runOk r) = true
    · obtain ⟨s2, k2, e2⟩ := ro_bad (x3 := .sl s.next 0 0 2 0) (k + 3) hw (by omega) (k + 4) 0 s1 0 (by rw [List.drop_zero]; exact h1) (by omega) (hl.ext e01) (by omega) (by omega)
      rw [Int.natCast_zero] at k2
      exact ⟨_, s2, k2, by unfold orderR; rw [if_pos (.inl h1)]; exact (o1.ext e2).is, e01.trans e2⟩
    · have h1' : l.any (fun r => !runOk r) = false := by simpa using h1
      have hok : ∀ r ∈ l, runOk r = true := by
        intro r hr
        have := List.any_eq_false.1 h1' r hr
        simpa using this
      have hsum := countR_sum l 0 hok (by omega) (by omega)
      obtain ⟨s2, k2, e2⟩ := ro_tops (x3 := .sl s.next 0 0 2 0) (k + 3) hw (by omega) hok (k + 4) 0 s1 0 (by omega) (hl.ext e01) (by omega) (by omega)
      rw [Int.natCast_zero, List.drop_zero] at k2
      have k2' : unisonref05_Order.l2 (k + 4) (k + 4) v (.sl s.next 0 0 2 0) (.int .u64 0) (.int .i64 l.length) (.int .i64 0) s1 = _ := k2
      rw [k2']
      have t1 := topR_ge l 0
      have t2 : topR 0 l ≤ 4096 := topR_le l 0 4096 (by omega) fun r hr => by
        have := sumAll_mem hr
        have := (hw r hr).2.2
        omega
      obtain ⟨top, htop⟩ : ∃ t : Nat, topR 0 l = t := ⟨(topR 0 l).toNat, by omega⟩
      rw [htop] at t1 t2 ⊢
      unfold unisonref05_Order.p12
      have e02 := e01.trans e2
      obtain ⟨v', s', j1, j2, j3⟩ := ro_passes (x0 := v) (lo := s.next) (k + 4) (by omega) hw hok hl.lt (by omega) (by omega) top (by omega) (k + 4) 0 s2 (.sl s.next 0 0 2 0) (hl.ext e02) e02.next (o1.ext e2) (by omega) (by omega)
      rw [Int.natCast_zero] at j1
      have hst := ordPre_stay (l := l) top t1.2 (4096 - top)
      rw [show top + (4096 - top) = 4096 by omega] at hst
      exact ⟨v', s', j1, by unfold orderR; rw [if_neg (by simp [h1', h2]), hst]; exact j2.is, ⟨Nat.le_trans e02.next j3.next, fun j hj => (j3.get j hj).trans (e02.get j hj)⟩⟩
end Go.Proofs.Yteaflagknacfoaa.Sim
