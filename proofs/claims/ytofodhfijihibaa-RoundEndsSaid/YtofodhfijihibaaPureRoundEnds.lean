/- The pure statement of the law RoundEnds: if all of n processes (1 to 64) have voted, nobody waits; the example of the document holds. No further condition. -/
import Derived.Test.YtofodhfijihibaaPRoundEndsx1
namespace Go.Proofs.Ytofodhfijihibaa.Pure
open Go.RowKit Go.Proofs.Ytofodhfijihibaa.PRoundEnds Go.Proofs.YtofodhfijihibaaW.PrintWords Go.Proofs.YtofodhfijihibaaW.PrintLast

theorem ends_awake : unisonlaw21_awake.f 1 = some true := by decide +kernel

theorem ends_maj {n : Int} (h1 : 1 ≤ n) (h2 : n ≤ 64) : round_Majority.f n = some (n / 2 + 1) := by
  unfold round_Majority.f round_of.f
  rw [if_pos h1, decide_eq_true h2]
  simp only [Option.bind_some, if_true]
  rw [Int.tdiv_eq_ediv_of_nonneg (by omega)]
  simp only [wrap64]
  congr 1; omega

theorem ends_of {n : Int} (h1 : 1 ≤ n) (h2 : n ≤ 64) : round_of.f n = some true := by
  unfold round_of.f
  rw [if_pos h1, decide_eq_true h2]

theorem ends_judge {n a : Int} {b : Bool} (h1 : 1 ≤ n) (h2 : n ≤ 64) (h3 : 0 ≤ a) (h4 : a ≤ n) :
    ∃ r, round_Judge.f 1 n a (wrap64 (n - a)) b = some r ∧ 1 < r ∧ r ≤ 4 := by
  unfold round_Judge.f
  have e : wrap64 (n - a) = n - a := by unfold wrap64; omega
  have m1 : mx a 0 = a := by unfold mx; omega
  have m2 : mx (n - a) 0 = n - a := by unfold mx; omega
  rw [e, ends_maj h1 h2, ends_of h1 h2]
  simp only [Option.bind_some, if_true, m1, m2]
  have e3 : wrap64 (a + (n - a)) = n := by unfold wrap64; omega
  have e4 : wrap64 (n - (n - a)) = a := by unfold wrap64; omega
  rw [if_neg (by omega), e, decide_eq_false (by omega)]
  simp only [round_Judge.j0, e3, e4]
  rw [if_neg (by simp)]
  split
  · exact ⟨_, rfl, by omega, by omega⟩
  · rw [if_neg (by omega)]
    split
    · exact ⟨_, rfl, by omega, by omega⟩
    · split
      · exact ⟨_, rfl, by omega, by omega⟩
      · rw [if_pos (by omega)]
        exact ⟨_, rfl, by omega, by omega⟩

theorem RoundEnds : unisonlaw21_RoundEnds.Pure := by
  intro a0 a1 a2 _ _
  refine ⟨2, ?_⟩
  have hw : ∀ a0 a1 a2, unisonlaw21_RoundEnds.j0 2 a0 a1 a2 true = some true := by
    intro a0 a1 a2
    simp only [unisonlaw21_RoundEnds.j0, if_true, ends_awake, Option.bind_some]
  unfold unisonlaw21_RoundEnds.f
  by_cases h1 : a0 < 1
  · rw [if_pos h1, hw]
  rw [if_neg h1]
  by_cases h2 : a0 > 64
  · rw [if_pos h2, hw]
  rw [if_neg h2]
  by_cases h3 : a1 < 0
  · rw [if_pos h3, hw]
  rw [if_neg h3]
  by_cases h4 : a1 > a0
  · rw [decide_eq_true h4, hw]
  rw [decide_eq_false h4]
  obtain ⟨r, hr, r1, r2⟩ := ends_judge (b := a2) (show 1 ≤ a0 by omega) (by omega) (show 0 ≤ a1 by omega) (by omega)
  simp only [unisonlaw21_RoundEnds.j0, hr, ends_awake, Option.bind_some]
  rw [if_neg (by simp), if_pos r1, if_pos r2]

end Go.Proofs.Ytofodhfijihibaa.Pure
