/- The pure statement of the law RoundIs: majority, coordinator and what comes of votes are the document's, for all numbers. No further condition. -/
import Derived.Test.YtofodhfijihibaaPRoundIsx2
namespace Go.Proofs.Ytofodhfijihibaa.Pure
open Go.RowKit Go.Proofs.Ytofodhfijihibaa.PRoundIs Go.Proofs.YtofodhfijihibaaW.PrintWords Go.Proofs.YtofodhfijihibaaW.PrintLast

theorem is_wf64 {n : Int} (h : (Lit.int .i64 n).wf = true) : -9223372036854775808 ≤ n ∧ n ≤ 9223372036854775807 := by
  simp [Lit.wf, IntKind.min, IntKind.max, IntKind.signed, IntKind.bits] at h
  omega
theorem is_wfu {n : Int} (h : (Lit.int .u64 n).wf = true) : 0 ≤ n ∧ n ≤ 18446744073709551615 := by
  simp [Lit.wf, IntKind.min, IntKind.max, IntKind.signed, IntKind.bits] at h
  omega

theorem is_awake : unisonlaw21_awake.f 1 = some true := by decide +kernel

def Maj (n : Int) : Int := if 1 ≤ n ∧ n ≤ 64 then n / 2 + 1 else 0

theorem is_of (n : Int) : round_of.f n = some (decide (1 ≤ n ∧ n ≤ 64)) := by
  unfold round_of.f
  by_cases h1 : n ≥ 1
  · rw [if_pos h1]; congr 1; simp; omega
  · rw [if_neg h1, decide_eq_false (by omega)]

theorem is_maj (n : Int) : round_Majority.f n = some (Maj n) := by
  unfold round_Majority.f Maj
  rw [is_of]
  simp only [Option.bind_some, decide_eq_true_eq]
  split
  · rw [Int.tdiv_eq_ediv_of_nonneg (by omega)]
    simp only [wrap64]
    congr 1; omega
  · rfl

theorem is_majl (n : Int) (h1 : 1 ≤ n) (h2 : n ≤ 64) (d : Nat) : ∀ (k : Nat) (q : Int), 1 ≤ q → q ≤ n / 2 + 1 → n / 2 + 1 - q = d → d < k →
    unisonref21_Majority.l0 k n q = some (n / 2 + 1) := by
  induction d with
  | zero =>
    intro k q a b c e
    obtain ⟨k, rfl⟩ : ∃ m, k = m + 1 := ⟨k - 1, by omega⟩
    simp only [unisonref21_Majority.l0]
    have e1 : wrap64 (2 * q) = 2 * q := by unfold wrap64; omega
    rw [e1, if_neg (by omega)]; congr 1; omega
  | succ d ih =>
    intro k q a b c e
    obtain ⟨k, rfl⟩ : ∃ m, k = m + 1 := ⟨k - 1, by omega⟩
    simp only [unisonref21_Majority.l0]
    have e1 : wrap64 (2 * q) = 2 * q := by unfold wrap64; omega
    have e2 : wrap64 (q + 1) = q + 1 := by unfold wrap64; omega
    rw [e1, e2, if_pos (by omega)]
    exact ih k (q + 1) (by omega) (by omega) (by omega) (by omega)

theorem is_majr (n : Int) (k : Nat) (hk : 40 ≤ k) : unisonref21_Majority.f k n = some (Maj n) := by
  obtain ⟨k, rfl⟩ : ∃ m, k = m + 1 := ⟨k - 1, by omega⟩
  unfold unisonref21_Majority.f Maj
  by_cases h1 : n < 1
  · rw [if_pos h1, if_neg (by omega)]; simp [unisonref21_Majority.j0]
  rw [if_neg h1]
  by_cases h2 : n > 64
  · rw [decide_eq_true h2, if_neg (by omega)]; simp [unisonref21_Majority.j0]
  rw [decide_eq_false h2, if_pos (by omega)]
  simp only [unisonref21_Majority.j0, Bool.false_eq_true, if_false]
  exact is_majl n (by omega) (by omega) (n / 2).toNat k 1 (by omega) (by omega) (by omega) (by omega)

theorem is_coord (n i r : Int) (hi : 0 ≤ i) (hr : 0 ≤ r) (k : Nat) : ∃ c, round_Coordinator.f n i r = some c ∧ unisonref21_Coordinator.f (k + 1) n i r = some c := by
  unfold round_Coordinator.f unisonref21_Coordinator.f
  rw [is_of]
  simp only [Option.bind_some, decide_eq_true_eq]
  by_cases h1 : n < 1
  · rw [if_pos h1, if_neg (by omega)]; exact ⟨_, rfl, by simp [unisonref21_Coordinator.j0]⟩
  rw [if_neg h1]
  by_cases h2 : n > 64
  · rw [decide_eq_true h2, if_neg (by omega)]; exact ⟨_, rfl, by simp [unisonref21_Coordinator.j0]⟩
  rw [decide_eq_false h2, if_pos (by omega)]
  simp only [unisonref21_Coordinator.j0, Bool.false_eq_true, if_false]
  have en : IntKind.u64.wrap n = n := by rw [IntKind.wrap_u64]; omega
  rw [en, if_neg (by omega)]
  generalize hx : mn i 4611686018427387904 = x
  generalize hy : mn r 4611686018427387904 = y
  have bx : 0 ≤ x ∧ x ≤ 4611686018427387904 := by unfold mn at hx; omega
  have b_y : 0 ≤ y ∧ y ≤ 4611686018427387904 := by unfold mn at hy; omega
  have e1 : IntKind.u64.wrap (x + y) = x + y := by rw [IntKind.wrap_u64]; omega
  have r1 := Int.emod_nonneg x (show n ≠ 0 by omega)
  have r2 := Int.emod_lt_of_pos x (show 0 < n by omega)
  have r3 := Int.emod_nonneg y (show n ≠ 0 by omega)
  have r4 := Int.emod_lt_of_pos y (show 0 < n by omega)
  have e2 : IntKind.u64.wrap (x % n + y % n) = x % n + y % n := by rw [IntKind.wrap_u64]; omega
  have key : (x % n + y % n) % n = (x + y) % n := by rw [← Int.add_emod]
  refine ⟨_, rfl, ?_⟩
  rw [e1, Int.tmod_eq_emod_of_nonneg (show 0 ≤ x + y by omega), ← key]
  have step : wrap64 (Int.tmod (IntKind.u64.wrap (x % n + y % n)) n) = wrap64 ((x % n + y % n) % n) := by
    rw [e2, Int.tmod_eq_emod_of_nonneg (by omega)]
  by_cases a : i > 4611686018427387904
  · rw [if_pos a]
    have ex : x = 4611686018427387904 := by unfold mn at hx; omega
    by_cases b : r > 4611686018427387904
    · rw [if_pos b]
      have ey : y = 4611686018427387904 := by unfold mn at hy; omega
      rw [← step, ex, ey, if_neg (by omega)]
    · rw [if_neg b, if_neg (by omega)]
      have ey : y = r := by unfold mn at hy; omega
      rw [← step, ex, ey, Int.tmod_eq_emod_of_nonneg hr]
  · rw [if_neg a]
    have ex : x = i := by unfold mn at hx; omega
    by_cases b : r > 4611686018427387904
    · rw [if_pos b, if_neg (by omega)]
      have ey : y = 4611686018427387904 := by unfold mn at hy; omega
      rw [← step, ex, ey, Int.tmod_eq_emod_of_nonneg hi]
    · rw [if_neg b, if_neg (by omega)]
      have ey : y = r := by unfold mn at hy; omega
      rw [← step, ex, ey, Int.tmod_eq_emod_of_nonneg hr, Int.tmod_eq_emod_of_nonneg hi]

theorem is_refj (n some' none' : Int) (held : Bool) (k : Nat) (hk : 50 ≤ k) :
    unisonref21_Judge.f k n some' none' held = unisonref21_Judge.j1 (k - 1) n (mx some' 0) (mx none' 0) held := by
  obtain ⟨k, rfl⟩ : ∃ m, k = m + 1 := ⟨k - 1, by omega⟩
  unfold unisonref21_Judge.f mx
  simp only [unisonref21_Judge.j0, Nat.add_sub_cancel]
  by_cases h1 : some' < 0 <;> by_cases h2 : none' < 0 <;> simp [h1, h2]

theorem is_judge (n some' none' : Int) (held : Bool) (b0 : -9223372036854775808 ≤ n ∧ n ≤ 9223372036854775807) (b1 : -9223372036854775808 ≤ some' ∧ some' ≤ 9223372036854775807) (b2 : -9223372036854775808 ≤ none' ∧ none' ≤ 9223372036854775807) :
    ∃ r, round_Judge.f 60 n some' none' held = some r ∧ unisonref21_Judge.f 60 n some' none' held = some r := by
  rw [is_refj _ _ _ _ _ (by omega)]
  generalize hx : mx some' 0 = x
  generalize hy : mx none' 0 = y
  have bx : 0 ≤ x ∧ x ≤ 9223372036854775807 := by unfold mx at hx; omega
  have b_y : 0 ≤ y ∧ y ≤ 9223372036854775807 := by unfold mx at hy; omega
  unfold round_Judge.f
  rw [is_maj, is_of]
  simp only [Option.bind_some, decide_eq_true_eq, hx, hy, Nat.reduceSub]
  simp only [unisonref21_Judge.j1, unisonref21_Judge.j2, round_Judge.j0, is_majr n 58 (by omega), Option.bind_some]
  unfold Maj
  by_cases h1 : 1 ≤ n ∧ n ≤ 64
  · have g1 : ¬ n / 2 + 1 = 0 := by omega
    simp only [if_pos h1, if_neg g1]
    by_cases h2 : x > n
    · simp [h2]
    · have e1 : wrap64 (n - x) = n - x := by unfold wrap64; omega
      rw [if_neg h2, e1, if_neg h2]
      by_cases h3 : y > n
      · have h4 : y > n - x := by omega
        simp [h3, h4]
      · have e2 : wrap64 (x + y) = x + y := by unfold wrap64; omega
        rw [if_neg h3, e2]
        by_cases h4 : x + y > n
        · have h5 : y > n - x := by omega
          simp [h4, h5]
        · have h5 : ¬ y > n - x := by omega
          simp only [h4, h5, decide_false, Bool.false_eq_true, if_false]
          repeat' split
          all_goals exact ⟨_, rfl, rfl⟩
  · simp only [if_neg h1]
    simp

theorem RoundIs : unisonlaw21_RoundIs.Pure := by
  intro a0 a1 a2 a3 a4 a5 h0 h1 h2 h4 h5
  have h0 := is_wf64 h0; have h1 := is_wf64 h1; have h2 := is_wf64 h2; have h4 := is_wfu h4; have h5 := is_wfu h5
  refine ⟨60, ?_⟩
  obtain ⟨c, hc, hc'⟩ := is_coord a0 a4 a5 (by omega) (by omega) 59
  obtain ⟨r, hr, hr'⟩ := is_judge a0 a1 a2 a3 h0 h1 h2
  have hw : unisonlaw21_awake.f 60 = some true := at_rounds (g := fun k => unisonlaw21_awake.f k) (fun k => unisonlaw21_awake.mono k) (show 1 ≤ 60 by omega) is_awake
  unfold unisonlaw21_RoundIs.f
  simp [is_maj, is_majr, hc, hc', hr, hr', hw]

end Go.Proofs.Ytofodhfijihibaa.Pure
