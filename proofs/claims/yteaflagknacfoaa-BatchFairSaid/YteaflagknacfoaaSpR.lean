/- Seat 05: the law BatchFair, its run. No condition. -/
import Derived.Test.YteaflagknacfoaaSpQ
namespace Go.Proofs.Yteaflagknacfoaa.Sim
set_option linter.unusedSimpArgs false
set_option linter.unusedVariables false

def maxR : Int → List Rn → Int
  | a, [] => a
  | a, r :: l => maxR (max a r.2.2) l
theorem maxR_le : ∀ (l : List Rn) (a m : Int), a ≤ m → (∀ r ∈ l, r.2.2 ≤ m) → maxR a l ≤ m
  | [], a, m, h, _ => h
  | r :: l, a, m, h, hl => maxR_le l _ m (by have := hl r List.mem_cons_self; omega) fun x hx => hl x (List.mem_cons_of_mem _ hx)

/-- What is fair. -/
theorem fair_facts {base held : List Int} (most : Int) (hub : U base) (hl : base.length ≤ 64) (now : List Int) (hnow : now = fillR held base.length 4096 base (min most 4096)) :
    Good held base now ∧ now.length = base.length ∧ 0 ≤ difR base now 0 base.length ∧ difR base now 0 base.length ≤ max 0 (min most 4096) ∧ ∀ i, i < base.length → elig held now i → max 0 (min most 4096) ≤ difR base now 0 base.length ∧ maxR 0 (outR base now 0 base.length) ≤ now.getD i 0 - base.getD i 0 + 1 := by
  have hg0 : Good held base base := fun i => ⟨Int.le_refl _, .inl rfl⟩
  have hln : now.length = base.length := by rw [hnow, fillR_len]
  by_cases h0 : 0 ≤ min most 4096
  · obtain ⟨k1, lf, k2, k3, q, k4⟩ := fill_fair (held := held) (base := base) (m := base.length) 4096 base (min most 4096) 0 (Nat.le_refl _) h0 (by omega) hg0 (fun j hj => ⟨by omega, fun _ => by omega⟩)
    rw [← hnow] at k1 k3 k4
    have hd := difR_tot hln base.length 0 (by omega)
    rw [List.drop_zero, List.drop_zero] at hd
    have hok := (out_ok hub k1 base.length 0 (by omega) (by omega) (-1) (by omega) (by omega)).2
    refine ⟨k1, hln, difR_nn k1 _ _, by omega, fun i hi he => ?_⟩
    obtain ⟨a1, a2⟩ := k4 i hi
    obtain ⟨a3, a4⟩ := a2 he
    refine ⟨by omega, Int.le_trans (maxR_le _ 0 (q + 1) (by omega) fun r hr => ?_) (by omega)⟩
    obtain ⟨_, _, _, _, b1, b2, b3⟩ := hok r hr
    have := (k4 r.1.toNat (by omega)).1
    omega
  · have hb : now = base := by rw [hnow]; unfold fillR; rw [if_neg (by omega)]
    have hz : ∀ m i, difR base now i m = 0 := by
      intro m
      induction m with
      | zero => intro i; rfl
      | succ m ih => intro i; rw [difR, ih, hb]; omega
    have ho : outR base now 0 base.length = [] := outR_same _ _ _ _ fun j _ => by rw [hb]
    refine ⟨by rw [hb]; exact hg0, hln, by rw [hz]; omega, by rw [hz]; omega, fun i hi he => ⟨by rw [hz]; omega, ?_⟩⟩
    rw [ho, hb]; simp only [maxR]; omega

theorem fair_tops (k : Nat) {x0 x1 x2 x7 x8 x9 : AV} {l : List Rn} {s : Store} (hv : IsRuns s x7 l) (hb : l.length ≤ 1000000) : ∀ (n i : Nat) (a : Int), i ≤ l.length → l.length - i < n →
    unisonlaw05_BatchFair.l1 k n x0 x1 x2 x7 x8 x9 (.int .u64 a) (.int .i64 i) s = unisonlaw05_BatchFair.p8 k x0 x1 x2 x8 x9 (.int .u64 (maxR a (l.drop i))) s
  | 0, i, _, hi, hn => by omega
  | n + 1, i, a, hi, hn => by
    have hs : unisonlaw05_BatchFair.l1 k (n + 1) = fun x0 x1 x2 x7 x8 x9 x10 x11 s => unisonlaw05_BatchFair.p11 k (unisonlaw05_BatchFair.l1 k n) x0 x1 x2 x7 x8 x9 x10 x11 s := rfl
    rw [hs]
    clear hs
    simp only
    unfold unisonlaw05_BatchFair.p11
    rw [len_runs hv, lss_i]
    by_cases h : i < l.length
    · have hz : (i : Int) < (l.length : Int) := by omega
      rw [decide_eq_true hz, if_t]
      unfold unisonlaw05_BatchFair.p10 unisonlaw05_BatchFair.p9
      have hw1 : IntKind.i64.wrap ((i : Int) + 1) = ((i + 1 : Nat) : Int) := by rw [w_i64 (by omega) (by omega)]; omega
      obtain ⟨id, hvv, _, ha⟩ := runs_at hv h
      rw [hvv, idx_r h, fld_p, fld_2 ha h, max_i, add_i, hw1, ← hvv, fair_tops k hv hb n (i + 1) _ (by omega) (by omega), List.drop_eq_getElem_cons h, maxR]
    · have hz : ¬ (i : Int) < (l.length : Int) := by omega
      rw [decide_eq_false hz, if_f, List.drop_eq_nil_of_le (by omega), maxR]

theorem fair_loop (k : Nat) {x0 x1 x8 : AV} {base held now : List Int} {s : Store} {most cnt g : Int} (h0 : IsSl s x0 .u64 base) (h1 : IsSl s x1 .u64 held) (h8 : IsSl s x8 .u64 now) (hb : base.length ≤ 64) (hu : U base) (hun : U now) (hln : now.length = base.length) (hge : ∀ j, base.getD j 0 ≤ now.getD j 0) (hgr : ∀ j, now.getD j 0 - base.getD j 0 < 18446744073709551615)
    (hf : ∀ i, i < base.length → elig held now i → max 0 (min most 4096) ≤ cnt ∧ g ≤ now.getD i 0 - base.getD i 0 + 1) : ∀ (n i : Nat), i ≤ base.length → base.length - i < n →
    unisonlaw05_BatchFair.l0 (k + 1) n x0 x1 (.int .i64 most) x8 (.int .u64 cnt) (.int .u64 g) (.int .i64 i) s = unisonlaw05_BatchFair.p0 (k + 1) s
  | 0, i, hi, hn => by omega
  | n + 1, i, hi, hn => by
    have hs : unisonlaw05_BatchFair.l0 (k + 1) (n + 1) = fun x0 x1 x2 x8 x9 x10 x12 s => unisonlaw05_BatchFair.p7 (k + 1) (unisonlaw05_BatchFair.l0 (k + 1) n) x0 x1 x2 x8 x9 x10 x12 s := rfl
    rw [hs]
    clear hs
    simp only
    unfold unisonlaw05_BatchFair.p7
    rw [len_is h0, lss_i]
    by_cases h : i < base.length
    · have hz : (i : Int) < (base.length : Int) := by omega
      rw [decide_eq_true hz, if_t]
      unfold unisonlaw05_BatchFair.p6 unisonlaw05_BatchFair.p5
      have hw1 : IntKind.i64.wrap ((i : Int) + 1) = ((i + 1 : Nat) : Int) := by rw [w_i64 (by omega) (by omega)]; omega
      obtain ⟨p, p1, p2⟩ := index_isI h8 (show (0 : Int) ≤ i by omega) (show (i : Int) < (now.length : Int) by omega)
      obtain ⟨q, q1, q2⟩ := index_isI h0 (show (0 : Int) ≤ i by omega) hz
      have ih := fair_loop k h0 h1 h8 hb hu hun hln hge hgr hf n (i + 1) (by omega) (by omega)
      have hbi := hu.at i
      have hni := hun.at i
      have hgi := hge i
      have hri := hgr i
      simp only [bnd, guard_tt, guard_ff, guard_tf, guard_ft, pick_t, pick_f, if_t, if_f, add_i, sub_i, lss_i, leq_i, gtr_i, geq_i, eql_i, neq_i, min_i, max_i, conv_i, len_sl, len_nil, not_b, cells_agg, new_s, fld_p, nil_p, p1, p2, ref_at h1, aSame_self, Int.toNat_natCast]
      by_cases c1 : now.getD i 0 < atI held i
      · simp only [decide_eq_true c1, bnd, guard_tt, guard_ff, guard_tf, guard_ft, pick_t, pick_f, if_t, if_f, add_i, sub_i, lss_i, leq_i, gtr_i, geq_i, eql_i, neq_i, min_i, max_i, conv_i, len_sl, len_nil, not_b, cells_agg, new_s, fld_p, nil_p, p1, p2, Int.toNat_natCast]
        by_cases c2 : now.getD i 0 < 4611686018427387904
        · obtain ⟨f1, f2⟩ := hf i h ⟨c1, c2⟩
          have n1 : ¬ cnt < max 0 (min most 4096) := by omega
          have n2 : ¬ now.getD i 0 - base.getD i 0 + 1 < g := by omega
          simp only [decide_eq_true c2, bnd, guard_tt, guard_ff, guard_tf, guard_ft, pick_t, pick_f, if_t, if_f, add_i, sub_i, lss_i, leq_i, gtr_i, geq_i, eql_i, neq_i, min_i, max_i, conv_i, len_sl, len_nil, not_b, cells_agg, new_s, fld_p, nil_p]
          unfold unisonlaw05_BatchFair.p3 unisonlaw05_BatchFair.p2 unisonlaw05_BatchFair.p1
          simp only [bnd, guard_tt, guard_ff, guard_tf, guard_ft, pick_t, pick_f, if_t, if_f, add_i, sub_i, lss_i, leq_i, gtr_i, geq_i, eql_i, neq_i, min_i, max_i, conv_i, len_sl, len_nil, not_b, cells_agg, new_s, fld_p, nil_p, w_u64 (show 0 ≤ max 0 (min most 4096) by omega) (show max 0 (min most 4096) < 18446744073709551616 by omega), decide_eq_false n1, p1, p2, q1, q2, Int.toNat_natCast, w_u64 (show 0 ≤ now.getD i 0 - base.getD i 0 by omega) (show now.getD i 0 - base.getD i 0 < 18446744073709551616 by omega), w_u64 (show 0 ≤ now.getD i 0 - base.getD i 0 + 1 by omega) (show now.getD i 0 - base.getD i 0 + 1 < 18446744073709551616 by omega), decide_eq_false n2, hw1]
          exact ih
        · simp only [decide_eq_false c2, bnd, guard_tt, guard_ff, guard_tf, guard_ft, pick_t, pick_f, if_t, if_f, add_i, sub_i, lss_i, leq_i, gtr_i, geq_i, eql_i, neq_i, min_i, max_i, conv_i, len_sl, len_nil, not_b, cells_agg, new_s, fld_p, nil_p]
          unfold unisonlaw05_BatchFair.p4 unisonlaw05_BatchFair.p1
          rw [add_i, hw1]
          exact ih
      · simp only [decide_eq_false c1, bnd, guard_tt, guard_ff, guard_tf, guard_ft, pick_t, pick_f, if_t, if_f, add_i, sub_i, lss_i, leq_i, gtr_i, geq_i, eql_i, neq_i, min_i, max_i, conv_i, len_sl, len_nil, not_b, cells_agg, new_s, fld_p, nil_p]
        unfold unisonlaw05_BatchFair.p4 unisonlaw05_BatchFair.p1
        rw [add_i, hw1]
        exact ih
    · have hz : ¬ (i : Int) < (base.length : Int) := by omega
      rw [decide_eq_false hz, if_f]

theorem law_fair {s : Store} {x0 x1 : AV} {base held : List Int} {most : Int} (h0 : IsSl s x0 .u64 base) (h1 : IsSl s x1 .u64 held) (hu : U base) (hm : most < 9223372036854775808) (hm2 : -9223372036854775808 ≤ most) : ∃ s', run Try.prog 10001 6 [x0, x1, .int .i64 most] s = some (.bool true, s') := by
  rw [show 10001 = 10000 + 1 from rfl, unisonlaw05_BatchFair.eq]
  unfold unisonlaw05_BatchFair.f unisonlaw05_BatchFair.p19 unisonlaw05_BatchFair.p18
  simp only [len_is h0, bnd, guard_tt, guard_ff, guard_tf, guard_ft, pick_t, pick_f, if_t, if_f, add_i, sub_i, lss_i, leq_i, gtr_i, geq_i, eql_i, neq_i, min_i, max_i, conv_i, len_sl, len_nil, not_b, cells_agg, new_s, fld_p, nil_p]
  by_cases hb : (base.length : Int) > 64
  · obtain ⟨s', k1, _⟩ := awake05 (s := s)
    simp only [decide_eq_true hb, bnd, guard_tt, guard_ff, guard_tf, guard_ft, pick_t, pick_f, if_t, if_f, add_i, sub_i, lss_i, leq_i, gtr_i, geq_i, eql_i, neq_i, min_i, max_i, conv_i, len_sl, len_nil, not_b, cells_agg, new_s, fld_p, nil_p, k1]
    exact ⟨s', rfl⟩
  · simp only [decide_eq_false hb, bnd, guard_tt, guard_ff, guard_tf, guard_ft, pick_t, pick_f, if_t, if_f, add_i, sub_i, lss_i, leq_i, gtr_i, geq_i, eql_i, neq_i, min_i, max_i, conv_i, len_sl, len_nil, not_b, cells_agg, new_s, fld_p, nil_p, len_is h1]
    by_cases hh : (held.length : Int) > 64
    · obtain ⟨s', k1, _⟩ := awake05 (s := s)
      simp only [decide_eq_true hh, bnd, guard_tt, guard_ff, guard_tf, guard_ft, pick_t, pick_f, if_t, if_f, add_i, sub_i, lss_i, leq_i, gtr_i, geq_i, eql_i, neq_i, min_i, max_i, conv_i, len_sl, len_nil, not_b, cells_agg, new_s, fld_p, nil_p, k1]
      exact ⟨s', rfl⟩
    · simp only [decide_eq_false hh, bnd, guard_tt, guard_ff, guard_tf, guard_ft, pick_t, pick_f, if_t, if_f, add_i, sub_i, lss_i, leq_i, gtr_i, geq_i, eql_i, neq_i, min_i, max_i, conv_i, len_sl, len_nil, not_b, cells_agg, new_s, fld_p, nil_p]
      unfold unisonlaw05_BatchFair.p17
      obtain ⟨v1, s1, k1, r1, e1⟩ := bat_next (most := most) 9998 (by omega) h0 h1 hu (by omega) (by omega) hm hm2
      rw [show min base.length 64 = base.length by omega] at r1
      obtain ⟨now, hnow⟩ : ∃ now, now = fillR held base.length 4096 base (min most 4096) := ⟨_, rfl⟩
      rw [← hnow] at r1
      obtain ⟨hg, hln, hd0, hd1, hfair⟩ := fair_facts (held := held) most hu (by omega) now hnow
      have hun : U now := by rw [hnow]; exact fillR_U _ _ _ hu
      have hdl : difR base now 0 base.length ≤ 4096 := by omega
      have haft := out_after hu hg hln (by omega) hdl
      have hcnt := out_count hu hg base.length 0 0 (by omega) (by omega) (by omega) (by omega)
      obtain ⟨hmf, hok⟩ := out_ok hu hg base.length 0 (by omega) (by omega) (-1) (by omega) (by omega)
      have hlen := outR_len base now base.length 0
      generalize outR base now 0 base.length = l at *
      have hw : ∀ r ∈ l, WfR r := fun r hr => (hok r hr).1
      simp only [Nat.reduceAdd] at k1
      rw [k1, bnd]
      unfold unisonlaw05_BatchFair.p16
      obtain ⟨v2, s2, k2, r2, e2⟩ := bat_after (h0.ext e1) r1 hu hw 9995 (by omega) (by omega) (by omega)
      rw [haft] at r2
      simp only [Nat.reduceAdd] at k2 ⊢
      rw [k2, bnd]
      have e02 := e1.trans e2
      have rl2 := r1.ext e2
      -- a batch, and held
      have hmono : ∀ (l : List Rn) (a : Int), a ≤ 4611686018427387904 → a ≤ countR a l := by
        intro l
        induction l with
        | nil => intro a _; exact Int.le_refl _
        | cons r l ih =>
          intro a ha
          unfold countR
          split
          · rename_i hr; have := runOk_le hr; have := ih (min (a + r.2.2) 4611686018427387904) (by omega); omega
          · exact ih a ha
      have hpos : l ≠ [] → 1 ≤ difR base now 0 base.length := fun hne => by
        cases l with
        | nil => exact absurd rfl hne
        | cons r l =>
          have q1 := (hok r List.mem_cons_self).2.1
          have q2 := runOk_le q1
          have q4 := hmono l (min (0 + r.2.2) 4611686018427387904) (by omega)
          rw [countR, if_pos q1] at hcnt
          omega
      have hmay : l ≠ [] → mayR base most l = true := fun hne => by
        have hp := hpos hne
        unfold mayR
        rw [if_neg (fun q => by
          rcases q with q | q | q
          · exact hne q
          · omega
          · rw [hcnt] at q; omega)]
        exact hmf
      have hheld : l.any (badR held) = false := by
        rw [List.any_eq_false]
        intro r hr
        simp [(hok r hr).2.2.1]
      unfold unisonlaw05_BatchFair.p15
      have hne : ((now.length : Int) != (base.length : Int)) = false := by rw [hln]; simp
      have hgo : ∀ t, Ext s2 t → ∃ s', unisonlaw05_BatchFair.p14 10000 x0 x1 (.int .i64 most) v1 v2 t = some (.bool true, s') := by
        intro t et
        unfold unisonlaw05_BatchFair.p14
        obtain ⟨s3, k3, e3⟩ := ref_count (rl2.ext et) hw 9998 (by omega) (by omega)
        simp only [Nat.reduceAdd] at k3
        rw [k3, bnd]
        unfold unisonlaw05_BatchFair.p13 unisonlaw05_BatchFair.p12
        have e03 := (e02.trans et).trans e3
        have tt := fair_tops 10000 (x0 := x0) (x1 := x1) (x2 := .int .i64 most) (x8 := v2) (x9 := .int .u64 (countR 0 l)) ((rl2.ext et).ext e3) (by omega) 10000 0 0 (by omega) (by omega)
        rw [Int.natCast_zero, List.drop_zero] at tt
        simp only
        rw [tt]
        unfold unisonlaw05_BatchFair.p8
        have hgr : ∀ j, now.getD j 0 - base.getD j 0 < 18446744073709551615 := fun j => by
          have := hg j; have := hu.at j; have := hun.at j
          rcases (hg j).2 with q | q <;> omega
        have t2 := fair_loop 9999 (most := most) (cnt := countR 0 l) (g := maxR 0 l) (h0.ext e03) (h1.ext e03) ((r2.ext et).ext e3) (by omega) hu hun hln (fun j => (hg j).1) hgr (fun i hi he => by
          rw [hcnt]
          have := hfair i hi he
          omega) 10000 0 (by omega) (by omega)
        rw [Int.natCast_zero] at t2
        simp only [Nat.reduceAdd] at t2
        rw [t2]
        unfold unisonlaw05_BatchFair.p0
        obtain ⟨s', k4, _⟩ := awake05 (s := s3)
        rw [k4]
        exact ⟨s', rfl⟩
      simp only [len_runs rl2, bnd, guard_tt, guard_ff, guard_tf, guard_ft, pick_t, pick_f, if_t, if_f, add_i, sub_i, lss_i, leq_i, gtr_i, geq_i, eql_i, neq_i, min_i, max_i, conv_i, len_sl, len_nil, not_b, cells_agg, new_s, fld_p, nil_p]
      by_cases hl0 : l = []
      · have hlt : ¬ (l.length : Int) > 0 := by rw [hl0]; simp
        simp only [decide_eq_false hlt, bnd, guard_tt, guard_ff, guard_tf, guard_ft, pick_t, pick_f, if_t, if_f, add_i, sub_i, lss_i, leq_i, gtr_i, geq_i, eql_i, neq_i, min_i, max_i, conv_i, len_sl, len_nil, not_b, cells_agg, new_s, fld_p, nil_p, len_is r2, len_is (h0.ext e02), hne]
        exact hgo s2 (Ext.refl _)
      · have hlt : (l.length : Int) > 0 := by have := List.length_pos_iff.2 hl0; omega
        obtain ⟨s3, k3, e3⟩ := bat_may (most := most) (h0.ext e02) rl2 hu hw hm 9996 (by omega) (by omega)
        obtain ⟨s4, k4, e4⟩ := bat_held (h1.ext (e02.trans e3)) (rl2.ext e3) hw (by omega) 9995 (by omega) (by omega)
        simp only [Nat.reduceAdd, hmay hl0, hheld, Bool.not_false] at k3 k4
        simp only [decide_eq_true hlt, bnd, guard_tt, guard_ff, guard_tf, guard_ft, pick_t, pick_f, if_t, if_f, add_i, sub_i, lss_i, leq_i, gtr_i, geq_i, eql_i, neq_i, min_i, max_i, conv_i, len_sl, len_nil, not_b, cells_agg, new_s, fld_p, nil_p, k3, k4, Bool.not_true, len_is ((r2.ext e3).ext e4), len_is ((h0.ext (e02.trans e3)).ext e4), hne]
        exact hgo s4 (e3.trans e4)

set_option linter.unusedVariables false in
theorem lawBatchFair (a0 : _) (w0 : (shSlice (shInt .u64)).wf a0) (a1 : _) (w1 : (shSlice (shInt .u64)).wf a1) (a2 : _) (w2 : (shInt .i64).wf a2) : ∃ k s', run Try.prog k 6 ([] ++ ((shSlice (shInt .u64)).put a0 (Store.empty)).1 ++ ((shSlice (shInt .u64)).put a1 (((shSlice (shInt .u64)).put a0 Store.empty).2)).1 ++ ((shInt .i64).put a2 (((shSlice (shInt .u64)).put a1 ((shSlice (shInt .u64)).put a0 Store.empty).2).2)).1) ((shInt .i64).put a2 ((shSlice (shInt .u64)).put a1 ((shSlice (shInt .u64)).put a0 Store.empty).2).2).2 = some (.bool true, s') := by
  obtain ⟨v0, xs0, p0, h0, u0, _, _⟩ := put_u64 a0 Store.empty w0
  obtain ⟨v1, xs1, p1, h1, _, _, e1⟩ := put_u64 a1 ((shSlice (shInt .u64)).put a0 Store.empty).2 w1
  obtain ⟨b1, b2⟩ := i64_of w2
  obtain ⟨s', k⟩ := law_fair (h0.ext e1) h1 u0 b2 b1
  rw [p0, p1]
  exact ⟨10001, s', k⟩
end Go.Proofs.Yteaflagknacfoaa.Sim
