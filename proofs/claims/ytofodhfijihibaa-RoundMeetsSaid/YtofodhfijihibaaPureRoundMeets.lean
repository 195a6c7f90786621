/- The walk of the law RoundMeets: quorums meet. Its row's arguments alone. -/
import Derived.Test.YtofodhfijihibaaPRoundMeetsx2
namespace Go.Proofs.Ytofodhfijihibaa.Walk
open Go.RowKit Go.Proofs.Ytofodhfijihibaa.PRoundMeets Go.Proofs.YtofodhfijihibaaW.PrintWords Go.Proofs.YtofodhfijihibaaW.PrintLast

theorem meets_awake (k : Nat) (hk : 1 ≤ k) : unisonlaw21_awake.f k = some true :=
  at_rounds (g := fun k => unisonlaw21_awake.f k) (fun k => unisonlaw21_awake.mono k) hk (by decide +kernel)

theorem meets_maj {n : Int} (h1 : 1 ≤ n) (h2 : n ≤ 64) : round_Majority.f n = some (n / 2 + 1) := by
  unfold round_Majority.f round_of.f
  rw [if_pos h1, decide_eq_true h2]
  simp only [Option.bind_some, if_true]
  rw [Int.tdiv_eq_ediv_of_nonneg (by omega)]
  simp only [wrap64]
  congr 1; omega

theorem meets_of {n : Int} (h1 : 1 ≤ n) (h2 : n ≤ 64) : round_of.f n = some true := by
  unfold round_of.f
  rw [if_pos h1, decide_eq_true h2]

/-- What comes of some votes for the batch and others for none, in all at most n. -/
theorem meets_judge {n a b : Int} {held : Bool} (k : Nat) (h1 : 1 ≤ n) (h2 : n ≤ 64) (h3 : 0 ≤ a) (h4 : 0 ≤ b) (h5 : a + b ≤ n) :
    ∃ r, round_Judge.f (k + 1) n a b held = some r ∧ (r = 4 → a ≥ n / 2 + 1) ∧ (r = 2 → (a = 0 ∧ a + b ≥ n / 2 + 1) ∨ n - b < n / 2 + 1) := by
  unfold round_Judge.f
  have m1 : mx a 0 = a := by unfold mx; omega
  have m2 : mx b 0 = b := by unfold mx; omega
  have e : wrap64 (n - a) = n - a := by unfold wrap64; omega
  rw [meets_maj h1 h2, meets_of h1 h2]
  simp only [Option.bind_some, if_true, m1, m2]
  have e3 : wrap64 (a + b) = a + b := by unfold wrap64; omega
  have e4 : wrap64 (n - b) = n - b := by unfold wrap64; omega
  rw [if_neg (by omega), e, decide_eq_false (by omega)]
  simp only [round_Judge.j0, e3, e4]
  rw [if_neg (by simp)]
  split
  · exact ⟨_, rfl, by omega, by omega⟩
  · split
    · exact ⟨_, rfl, by omega, by omega⟩
    · split
      · exact ⟨_, rfl, by omega, by omega⟩
      · split
        · exact ⟨_, rfl, by omega, by omega⟩
        · split
          · exact ⟨_, rfl, by omega, by omega⟩
          · exact ⟨_, rfl, by omega, by omega⟩

theorem meets_end (n : Int) (xs ys : List Bool) (held : Bool) (k : Nat) (a s m : Int) (h1 : 1 ≤ n) (h2 : n ≤ 64) (b0 : 0 ≤ s) (b1 : s ≤ a) (b2 : 0 ≤ m) (b3 : m + a ≤ n) :
    unisonlaw21_RoundMeets.l0 (k + 5) n xs ys held a s m n = some true := by
  simp only [unisonlaw21_RoundMeets.l0]
  rw [if_neg (by omega), meets_maj h1 h2]
  obtain ⟨r, hr, r4, r2⟩ := meets_judge (held := held) (k + 3) h1 h2 b0 b2 (by omega)
  rw [show k + 4 = k + 3 + 1 by omega, hr]
  simp only [Option.bind_some]
  have tail : ∀ x : Bool, x = false → unisonlaw21_RoundMeets.j4 (k + 3 + 1) n a r x = some true := by
    intro x hx
    subst hx
    simp only [unisonlaw21_RoundMeets.j4, meets_maj h1 h2, meets_awake (k + 3) (by omega), Option.bind_some]
    rw [if_neg (by simp)]
    split
    · rw [if_pos (by omega)]
    · rfl
  split
  · refine tail _ ?_
    have : r ≠ 2 := fun e => by have := r2 e; omega
    simpa using this
  · exact tail _ rfl

theorem meets_loop (n : Int) (xs ys : List Bool) (held : Bool) (h1 : 1 ≤ n) (h2 : n ≤ 64) (hx : n ≤ xs.length) (hy : n ≤ ys.length) (d : Nat) :
    ∀ (k : Nat) (a s m i : Int), 0 ≤ i → i ≤ n → n - i = d → 3 * d + 5 ≤ k → 0 ≤ s → s ≤ a → 0 ≤ m → m + a ≤ i → unisonlaw21_RoundMeets.l0 k n xs ys held a s m i = some true := by
  induction d with
  | zero =>
    intro k a s m i i0 i1 hd hk b0 b1 b2 b3
    obtain ⟨k, rfl⟩ : ∃ m, k = m + 5 := ⟨k - 5, by omega⟩
    rw [show i = n by omega]
    exact meets_end n xs ys held k a s m h1 h2 b0 b1 b2 (by omega)
  | succ d ih =>
    intro k a s m i i0 i1 hd hk b0 b1 b2 b3
    obtain ⟨k, rfl⟩ : ∃ m, k = m + 3 := ⟨k - 3, by omega⟩
    have e1 : wrap64 (i + 1) = i + 1 := by unfold wrap64; omega
    have e2 : wrap64 (a + 1) = a + 1 := by unfold wrap64; omega
    have e3 : wrap64 (s + 1) = s + 1 := by unfold wrap64; omega
    have e4 : wrap64 (m + 1) = m + 1 := by unfold wrap64; omega
    have g1 : i < n := by omega
    have g2 : i < (xs.length : Int) := by omega
    have g3 : i < (ys.length : Int) := by omega
    have next := fun a s m => ih k a s m (i + 1) (by omega) (by omega) (by omega) (by omega)
    cases hv : rdOf false xs i <;> cases hs : rdOf false ys i <;>
      simp only [unisonlaw21_RoundMeets.l0, unisonlaw21_RoundMeets.j2, unisonlaw21_RoundMeets.j3, hv, hs, e1, e2, e3, e4, if_pos g1, if_pos g2, if_pos g3, if_pos i0, if_true, Bool.false_eq_true, if_false] <;>
      exact next _ _ _ (by omega) (by omega) (by omega) (by omega)

theorem meets_pure (n : Int) (xs ys : List Bool) (held : Bool) : unisonlaw21_RoundMeets.f 300 n xs ys held = some true := by
  have hw : unisonlaw21_RoundMeets.j0 300 n xs ys held true = some true := by
    simp [unisonlaw21_RoundMeets.j0, meets_awake 299 (by omega)]
  unfold unisonlaw21_RoundMeets.f
  split
  · exact hw
  · split
    · exact hw
    · split
      · exact hw
      · split
        · exact hw
        · split
          · exact hw
          · by_cases h : (ys.length : Int) > 100
            · rw [decide_eq_true h]; exact hw
            · rw [decide_eq_false h]
              simp only [unisonlaw21_RoundMeets.j0, Bool.false_eq_true, if_false]
              exact meets_loop n xs ys held (by omega) (by omega) (by omega) (by omega) n.toNat 299 0 0 0 0 (by omega) (by omega) (by omega) (by omega) (by omega) (by omega) (by omega) (by omega)

theorem lawRoundMeets (a0 : Int) (A1 : Option Addr) (c1 : Nat) (l1 : List Bool) (A2 : Option Addr) (c2 : Nat) (l2 : List Bool) (a3 : Bool) (w : World) (_w0 : (Lit.int .i64 a0).wf = true)
    (hr1 : Kd.C Kd.bool w A1 l1.length l1) (hc1 : l1.length ≤ c1) {p1 q1 : Prop} (_hm1 : p1) (_hw1 : q1) (hr2 : Kd.C Kd.bool w A2 l2.length l2) (hc2 : l2.length ≤ c2) {p2 q2 : Prop} (_hm2 : p2) (_hw2 : q2) :
    Calls Try.prog 3 #[.int .i64 a0, .slice A1 l1.length c1, .slice A2 l2.length c2, .bool a3] w fun e w' => e = .returned (.bool true) ∧ Below w.heap.size w w' :=
  unisonlaw21_RoundMeets.calls 300 a0 A1 c1 l1 A2 c2 l2 a3 true w hr1 hc1 hr2 hc2 (meets_pure a0 l1 l2 a3)

end Go.Proofs.Ytofodhfijihibaa.Walk
