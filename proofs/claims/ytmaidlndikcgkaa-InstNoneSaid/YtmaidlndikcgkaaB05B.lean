/- Seat 05: what is filled, round by round: the plain law. No condition. -/
import Derived.Test.YtmaidlndikcgkaaB05A
namespace Go.Proofs.Ytmaidlndikcgkaa.Sim
set_option linter.unusedSimpArgs false

/-- One place's turn: what has been reached, what is left, whether there was more. -/
def stepR (held : List Int) (st : List Int × Int × Bool) (i : Nat) : List Int × Int × Bool :=
  if st.2.1 > 0 ∧ atI held i > st.1.getD i 0 ∧ st.1.getD i 0 < 4611686018427387904 then (st.1.set i (st.1.getD i 0 + 1), st.2.1 - 1, true) else st
/-- The turns of the places from i on, m of them. -/
def turnsR (held : List Int) : Nat → Nat → List Int × Int × Bool → List Int × Int × Bool
  | _, 0, st => st
  | i, m + 1, st => turnsR held (i + 1) m (stepR held st i)

theorem stepR_len (held : List Int) (st : List Int × Int × Bool) (i : Nat) : (stepR held st i).1.length = st.1.length := by
  unfold stepR; split <;> simp
theorem turnsR_len (held : List Int) : ∀ (m i : Nat) (st : List Int × Int × Bool), (turnsR held i m st).1.length = st.1.length
  | 0, _, _ => rfl
  | m + 1, i, st => by rw [turnsR, turnsR_len held m, stepR_len]
/-- What is left never grows; where there was more it is less. -/
theorem stepR_left (held : List Int) (st : List Int × Int × Bool) (i : Nat) : (stepR held st i).2.1 ≤ st.2.1 ∧ (0 ≤ st.2.1 → 0 ≤ (stepR held st i).2.1) ∧ ((stepR held st i).2.2 = true → st.2.2 = true ∨ (stepR held st i).2.1 < st.2.1) ∧ (st.2.2 = true → (stepR held st i).2.2 = true) := by
  unfold stepR; split
  · rename_i h; refine ⟨by simp; omega, by simp; omega, fun _ => .inr (by simp; omega), fun _ => rfl⟩
  · exact ⟨Int.le_refl _, id, fun h => .inl h, id⟩
theorem turnsR_left (held : List Int) : ∀ (m i : Nat) (st : List Int × Int × Bool), (turnsR held i m st).2.1 ≤ st.2.1 ∧ (0 ≤ st.2.1 → 0 ≤ (turnsR held i m st).2.1) ∧ ((turnsR held i m st).2.2 = true → st.2.2 = true ∨ (turnsR held i m st).2.1 < st.2.1)
  | 0, _, st => ⟨Int.le_refl _, id, fun h => .inl h⟩
  | m + 1, i, st => by
    obtain ⟨h1, h2, h3, h4⟩ := stepR_left held st i
    obtain ⟨k1, k2, k3⟩ := turnsR_left held m (i + 1) (stepR held st i)
    refine ⟨by rw [turnsR]; omega, fun h => by rw [turnsR]; exact k2 (h2 h), fun h => ?_⟩
    rw [turnsR] at h ⊢
    rcases k3 h with h | h
    · rcases h3 h with h | h
      · exact .inl h
      · exact .inr (by omega)
    · exact .inr (by omega)

/-- Round after round, while there is more and something is left. -/
def fillR (held : List Int) (m : Nat) : Nat → List Int → Int → List Int
  | 0, now, _ => now
  | f + 1, now, left => if 0 < left then
      (if (turnsR held 0 m (now, left, false)).2.2 = true then fillR held m f (turnsR held 0 m (now, left, false)).1 (turnsR held 0 m (now, left, false)).2.1 else (turnsR held 0 m (now, left, false)).1) else now
theorem fillR_len (held : List Int) (m : Nat) : ∀ (f : Nat) (now : List Int) (left : Int), (fillR held m f now left).length = now.length
  | 0, _, _ => rfl
  | f + 1, now, left => by
    unfold fillR
    split
    · split
      · rw [fillR_len held m f, turnsR_len]
      · rw [turnsR_len]
    · rfl
/-- Where nothing is left nothing happens. -/
theorem turnsR_zero (held : List Int) : ∀ (m i : Nat) (st : List Int × Int × Bool), st.2.1 ≤ 0 → turnsR held i m st = st
  | 0, _, _, _ => rfl
  | m + 1, i, st, h => by
    have : stepR held st i = st := by unfold stepR; rw [if_neg (by omega)]
    rw [turnsR, this, turnsR_zero held m (i + 1) st h]
end Go.Proofs.Ytmaidlndikcgkaa.Sim
