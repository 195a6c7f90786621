/- The pure statement of the law RoundTurns: of any n rounds behind one another each process coordinates one, and two majorities meet. No further condition. -/
import Derived.Test.YtofodhfijihibaaPRoundTurnsx1
namespace Go.Proofs.Ytofodhfijihibaa.Pure
open Go.RowKit Go.Proofs.Ytofodhfijihibaa.PRoundTurns Go.Proofs.YtofodhfijihibaaW.PrintWords Go.Proofs.YtofodhfijihibaaW.PrintLast

theorem turns_wfu {n : Int} (h : (Lit.int .u64 n).wf = true) : 0 ≤ n ∧ n ≤ 18446744073709551615 := by
  simp [Lit.wf, IntKind.min, IntKind.max, IntKind.signed, IntKind.bits] at h
  omega

theorem turns_awake (k : Nat) : unisonlaw21_awake.f (k + 1) = some true :=
  at_rounds (g := fun k => unisonlaw21_awake.f k) (fun k => unisonlaw21_awake.mono k) (show 1 ≤ k + 1 by omega) (by decide +kernel)

theorem turns_maj {n : Int} (h1 : 1 ≤ n) (h2 : n ≤ 64) : round_Majority.f n = some (n / 2 + 1) := by
  unfold round_Majority.f round_of.f
  rw [if_pos h1, decide_eq_true h2]
  simp only [Option.bind_some, if_true]
  rw [Int.tdiv_eq_ediv_of_nonneg (by omega)]
  simp only [wrap64]
  congr 1; omega

theorem turns_coord {n i r : Int} (h1 : 1 ≤ n) (h2 : n ≤ 64) (hi : 0 ≤ i) (hi2 : i ≤ 2305843009213693952) (hr : 0 ≤ r) (hr2 : r ≤ 2305843009213693952 + 64) :
    round_Coordinator.f n i r = some ((i + r) % n) := by
  unfold round_Coordinator.f round_of.f
  rw [if_pos h1, decide_eq_true h2]
  have en : IntKind.u64.wrap n = n := by rw [IntKind.wrap_u64]; omega
  have e1 : mn i 4611686018427387904 = i := by unfold mn; omega
  have e2 : mn r 4611686018427387904 = r := by unfold mn; omega
  have e3 : IntKind.u64.wrap (i + r) = i + r := by rw [IntKind.wrap_u64]; omega
  simp only [Option.bind_some, if_true, en, e1, e2, e3]
  rw [if_neg (by omega), Int.tmod_eq_emod_of_nonneg (by omega)]
  have r1 := Int.emod_nonneg (i + r) (show n ≠ 0 by omega)
  have r2 := Int.emod_lt_of_pos (i + r) (show 0 < n by omega)
  congr 1
  unfold wrap64; omega

/-- How often c is met among the rounds s, s+1, .., s+m-1. -/
def met (n s : Int) : Nat → Int → Int
  | 0, _ => 0
  | m + 1, c => met n s m c + if (s + m) % n = c then 1 else 0

/-- n numbers behind one another meet each rest once: each rest is met at most once, below n. -/
theorem met_le (n s : Int) (hn : 0 < n) (m : Nat) (hm : m ≤ n) (c : Int) (hc : 0 ≤ c) (hcn : c < n) :
    met n s m c = if (c - s) % n < m then 1 else 0 := by
  induction m with
  | zero =>
    have := Int.emod_nonneg (c - s) (show n ≠ 0 by omega)
    rw [if_neg (by omega)]; rfl
  | succ m ih =>
    have r1 := Int.emod_nonneg (c - s) (show n ≠ 0 by omega)
    have r2 := Int.emod_lt_of_pos (c - s) (show 0 < n by omega)
    unfold met
    rw [ih (by omega)]
    have key : (s + m) % n = c ↔ (c - s) % n = m := by
      constructor
      · intro h
        have : (c - s) % n = ((m : Int)) % n := by
          rw [← h, Int.sub_emod, Int.emod_emod, ← Int.sub_emod]
          congr 1; omega
        rw [this, Int.emod_eq_of_lt (by omega) (by omega)]
      · intro h
        have : (s + m) % n = (s + (c - s) % n) % n := by rw [h]
        rw [this, Int.add_emod, Int.emod_emod, ← Int.add_emod]
        rw [show s + (c - s) = c by omega, Int.emod_eq_of_lt hc hcn]
    by_cases h : (c - s) % n = m
    · rw [if_neg (by omega), if_pos (key.2 h), if_pos (by omega)]; rfl
    · rw [if_neg (fun q => h (key.1 q))]
      by_cases h2 : (c - s) % n < m
      · rw [if_pos h2, if_pos (by omega)]; rfl
      · rw [if_neg h2, if_neg (by omega)]; rfl

theorem met_all (n s : Int) (hn : 0 < n) (c : Int) (hc : 0 ≤ c) (hcn : c < n) : met n s n.toNat c = 1 := by
  have r2 := Int.emod_lt_of_pos (c - s) (show 0 < n by omega)
  rw [met_le n s hn n.toNat (by omega) c hc hcn, if_pos (by omega)]

theorem met_range (n s : Int) (m : Nat) (c : Int) : 0 ≤ met n s m c ∧ met n s m c ≤ m := by
  induction m with
  | zero => unfold met; omega
  | succ m ih => unfold met; split <;> omega

theorem turns_l1 (n : Int) (l : List Int) (h1 : 1 ≤ n) (h2 : n ≤ 64) (hlen : l.length = 64) (hall : ∀ c : Int, 0 ≤ c → c < n → rd l c = 1) (d : Nat) :
    ∀ (k : Nat) (i : Int), 0 ≤ i → i ≤ n → n - i = d → d + 2 ≤ k → unisonlaw21_RoundTurns.l1 k n l i = some true := by
  induction d with
  | zero =>
    intro k i a b c e
    obtain ⟨k, rfl⟩ : ∃ m, k = m + 2 := ⟨k - 2, by omega⟩
    simp only [unisonlaw21_RoundTurns.l1]
    rw [if_neg (by omega), turns_maj h1 h2]
    have e1 : wrap64 (2 * (n / 2 + 1)) = 2 * (n / 2 + 1) := by unfold wrap64; omega
    have e2 : wrap64 (n / 2 + 1 - 1) = n / 2 := by unfold wrap64; omega
    have e3 : wrap64 (2 * (n / 2)) = 2 * (n / 2) := by unfold wrap64; omega
    simp only [Option.bind_some, e1, e2, e3]
    rw [if_pos (by omega), if_pos (by omega), turns_awake]
    rfl
  | succ d ih =>
    intro k i a b c e
    obtain ⟨k, rfl⟩ : ∃ m, k = m + 1 := ⟨k - 1, by omega⟩
    simp only [unisonlaw21_RoundTurns.l1]
    have e1 : wrap64 (i + 1) = i + 1 := by unfold wrap64; omega
    rw [if_pos (by omega), if_pos a, if_pos (by omega), if_pos (hall i a (by omega)), e1]
    exact ih k (i + 1) (by omega) (by omega) (by omega) (by omega)

theorem rd_set (l : List Int) (i c v : Int) (hi : 0 ≤ i) (hc : 0 ≤ c) (hil : i < l.length) : rd (l.set i.toNat v) c = if c = i then v else rd l c := by
  unfold rd
  rw [List.getD_eq_getElem?_getD, List.getD_eq_getElem?_getD, List.getElem?_set]
  by_cases h : c = i
  · subst h; rw [if_pos rfl, if_pos rfl, if_pos (by omega)]; rfl
  · rw [if_neg (by omega), if_neg h]

theorem turns_l0 (n i r : Int) (h1 : 1 ≤ n) (h2 : n ≤ 64) (hi : 0 ≤ i) (hi2 : i ≤ 2305843009213693952) (hr : 0 ≤ r) (hr2 : r ≤ 2305843009213693952) (d : Nat) :
    ∀ (k : Nat) (l : List Int) (j : Int), 0 ≤ j → j ≤ n → n - j = d → d + 70 ≤ k → l.length = 64 → (∀ c : Int, 0 ≤ c → c < n → rd l c = met n (i + r) j.toNat c) →
    unisonlaw21_RoundTurns.l0 k n i r l j = some true := by
  induction d with
  | zero =>
    intro k l j a b c e hl hm
    obtain ⟨k, rfl⟩ : ∃ m, k = m + 1 := ⟨k - 1, by omega⟩
    simp only [unisonlaw21_RoundTurns.l0]
    rw [if_neg (by omega)]
    refine turns_l1 n l h1 h2 hl (fun c hc hcn => ?_) n.toNat k 0 (by omega) (by omega) (by omega) (by omega)
    rw [hm c hc hcn, show j = n by omega]
    exact met_all n (i + r) (by omega) c hc hcn
  | succ d ih =>
    intro k l j a b c e hl hm
    obtain ⟨k, rfl⟩ : ∃ m, k = m + 1 := ⟨k - 1, by omega⟩
    simp only [unisonlaw21_RoundTurns.l0]
    have e1 : wrap64 (j + 1) = j + 1 := by unfold wrap64; omega
    have e2 : IntKind.u64.wrap j = j := by rw [IntKind.wrap_u64]; omega
    have e3 : IntKind.u64.wrap (r + j) = r + j := by rw [IntKind.wrap_u64]; omega
    rw [if_pos (by omega), e1, e2, e3, turns_coord h1 h2 hi hi2 (by omega) (by omega)]
    have r1 := Int.emod_nonneg (i + (r + j)) (show n ≠ 0 by omega)
    have r2 := Int.emod_lt_of_pos (i + (r + j)) (show 0 < n by omega)
    generalize hq : (i + (r + j)) % n = q at *
    simp only [Option.bind_some]
    rw [if_neg (by omega), if_neg (by omega), if_pos (by omega), if_pos (by omega)]
    have mq := met_range n (i + r) j.toNat q
    have e4 : wrap64 (rd l q + 1) = rd l q + 1 := by rw [hm q r1 r2]; unfold wrap64; omega
    refine ih k _ (j + 1) (by omega) (by omega) (by omega) (by omega) (by simpa using hl) (fun c hc hcn => ?_)
    rw [rd_set l q c _ r1 hc (by omega), e4, show (j + 1).toNat = j.toNat + 1 by omega]
    unfold met
    rw [show i + r + (j.toNat : Int) = i + (r + j) by omega, hq]
    by_cases hcq : c = q
    · subst hcq; rw [if_pos rfl, if_pos rfl, hm c hc hcn]
    · rw [if_neg hcq, if_neg (fun h => hcq h.symm), hm c hc hcn]; omega

theorem RoundTurns : unisonlaw21_RoundTurns.Pure := by
  intro a0 a1 a2 _ w1 w2
  have w1 := turns_wfu w1; have w2 := turns_wfu w2
  refine ⟨200, ?_⟩
  have hw : ∀ a0 a1 a2, unisonlaw21_RoundTurns.j0 200 a0 a1 a2 true = some true := by
    intro a0 a1 a2
    simp only [unisonlaw21_RoundTurns.j0, if_true, turns_awake, Option.bind_some]
  unfold unisonlaw21_RoundTurns.f
  by_cases h1 : a0 < 1
  · rw [if_pos h1, hw]
  rw [if_neg h1]
  by_cases h2 : a0 > 64
  · rw [if_pos h2, hw]
  rw [if_neg h2]
  by_cases h3 : a1 > 2305843009213693952
  · rw [if_pos h3, hw]
  rw [if_neg h3]
  by_cases h4 : a2 > 2305843009213693952
  · rw [decide_eq_true h4, hw]
  rw [decide_eq_false h4]
  simp only [unisonlaw21_RoundTurns.j0, Bool.false_eq_true, if_false]
  rw [if_pos (by omega)]
  refine turns_l0 a0 a1 a2 (by omega) (by omega) (by omega) (by omega) (by omega) (by omega) a0.toNat 199 _ 0 (by omega) (by omega) (by omega) (by omega) (by simp) (fun c hc hcn => ?_)
  have : rd (List.replicate 64 (0 : Int)) c = 0 := by
    unfold rd
    rw [List.getD_eq_getElem?_getD, List.getElem?_replicate]
    split <;> rfl
  rw [this]; rfl

end Go.Proofs.Ytofodhfijihibaa.Pure
