/- The walk of the law RoundCounts: each vote is for a batch, or for none. Its row's arguments alone. -/
import Derived.Test.YtofodhfijihibaaPRoundCountsx1
namespace Go.Proofs.Ytofodhfijihibaa.Walk
open Go.RowKit Go.Proofs.Ytofodhfijihibaa.PRoundCounts Go.Proofs.YtofodhfijihibaaW.PrintWords Go.Proofs.YtofodhfijihibaaW.PrintLast

theorem counts_awake (k : Nat) (hk : 1 ≤ k) : unisonlaw21_awake.f k = some true :=
  at_rounds (g := fun k => unisonlaw21_awake.f k) (fun k => unisonlaw21_awake.mono k) hk (by decide +kernel)

theorem counts_loop (xs : List (List S56)) (hn : xs.length ≤ 100) (d : Nat) : ∀ i : Int, 0 ≤ i → i ≤ xs.length → xs.length - i = d →
    ∃ a : Nat, a ≤ d ∧ (∀ (k : Nat) (s m : Int), d < k → 0 ≤ s → s + d ≤ 1000 → 0 ≤ m → m + d ≤ 1000 → round_Count.l0 k s m xs xs.length i = some (s + a, m + (d - a))) ∧
      ∀ (k : Nat) (w : Int), 0 ≤ w → w + d ≤ 1000 → unisonlaw21_RoundCounts.l0 (k + d) xs w i = unisonlaw21_RoundCounts.l0 k xs (w + a) xs.length := by
  induction d with
  | zero =>
    intro i h0 h1 hd
    refine ⟨0, Nat.le_refl _, fun k s m hk _ _ _ _ => ?_, fun k w _ _ => ?_⟩
    · obtain ⟨k, rfl⟩ : ∃ m, k = m + 1 := ⟨k - 1, by omega⟩
      simp only [round_Count.l0]
      rw [if_neg (by omega)]
      simp
    · rw [show i = (xs.length : Int) by omega]; simp
  | succ d ih =>
    intro i h0 h1 hd
    obtain ⟨a, ha, hc, hl⟩ := ih (i + 1) (by omega) (by omega) (by omega)
    have e1 : wrap64 (i + 1) = i + 1 := by unfold wrap64; omega
    by_cases hp : ((rd_L3 xs i).length : Int) > 0
    · refine ⟨a + 1, by omega, fun k s m hk b1 b2 b3 b4 => ?_, fun k w b1 b2 => ?_⟩
      · obtain ⟨k, rfl⟩ : ∃ m, k = m + 1 := ⟨k - 1, by omega⟩
        have e2 : wrap64 (s + 1) = s + 1 := by unfold wrap64; omega
        simp only [round_Count.l0]
        rw [if_pos (by omega), if_pos h0, if_pos (by omega), if_pos hp, e1, e2, hc k (s + 1) m (by omega) (by omega) (by omega) b3 (by omega)]
        congr 2 <;> omega
      · have e2 : wrap64 (w + 1) = w + 1 := by unfold wrap64; omega
        rw [show k + (d + 1) = (k + d) + 1 by omega]
        simp only [unisonlaw21_RoundCounts.l0]
        rw [if_pos (by omega), if_pos h0, if_pos hp, e1, e2, hl k (w + 1) (by omega) (by omega)]
        congr 1; omega
    · refine ⟨a, by omega, fun k s m hk b1 b2 b3 b4 => ?_, fun k w b1 b2 => ?_⟩
      · obtain ⟨k, rfl⟩ : ∃ m, k = m + 1 := ⟨k - 1, by omega⟩
        have e2 : wrap64 (m + 1) = m + 1 := by unfold wrap64; omega
        simp only [round_Count.l0]
        rw [if_pos (by omega), if_pos h0, if_pos (by omega), if_neg hp, e1, e2, hc k s (m + 1) (by omega) (by omega) (by omega) (by omega) (by omega)]
        congr 2; omega
      · rw [show k + (d + 1) = (k + d) + 1 by omega]
        simp only [unisonlaw21_RoundCounts.l0]
        rw [if_pos (by omega), if_pos h0, if_neg hp, e1, hl k w (by omega) (by omega)]

theorem counts_pure (xs : List (List S56)) : unisonlaw21_RoundCounts.f 400 xs = some true := by
  unfold unisonlaw21_RoundCounts.f
  split
  · rw [counts_awake 400 (by omega)]; rfl
  · obtain ⟨a, ha, hc, hl⟩ := counts_loop xs (by omega) xs.length 0 (by omega) (by omega) (by omega)
    have e := hl (400 - xs.length) 0 (by omega) (by omega)
    rw [show 400 - xs.length + xs.length = 400 by omega] at e
    rw [e]
    obtain ⟨k, hk⟩ : ∃ k, 400 - xs.length = k + 1 := ⟨400 - xs.length - 1, by omega⟩
    rw [hk]
    simp only [unisonlaw21_RoundCounts.l0]
    rw [if_neg (by omega)]
    unfold round_Count.f
    rw [hc k 0 0 (by omega) (by omega) (by omega) (by omega) (by omega), counts_awake k (by omega)]
    have e2 : wrap64 ((xs.length : Int) - (0 + (a : Int))) = xs.length - a := by unfold wrap64; omega
    simp only [Option.bind_some, e2]
    simp

theorem lawRoundCounts (A0 : Option Addr) (c0 : Nat) (l0 : List (List S56)) (w : World) (hr : Kd.C (Kd.slice 56 k56) w A0 l0.length l0) (hc : l0.length ≤ c0)
    {p q : Prop} (_hm : p) (_hw : q) : Calls Try.prog 7 #[.slice A0 l0.length c0] w fun e w' => e = .returned (.bool true) ∧ Below w.heap.size w w' :=
  unisonlaw21_RoundCounts.calls 400 A0 c0 l0 true w hr hc (counts_pure l0)

end Go.Proofs.Ytofodhfijihibaa.Walk
