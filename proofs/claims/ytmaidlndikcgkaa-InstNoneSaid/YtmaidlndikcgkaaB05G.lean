/- Seat 05: the program's Next, whole. No condition. -/
import Derived.Test.YtmaidlndikcgkaaB05F
namespace Go.Proofs.Ytmaidlndikcgkaa.Sim
set_option linter.unusedSimpArgs false

theorem turnsR_ge {held base : List Int} : ∀ (m i : Nat) (st : List Int × Int × Bool), st.1.length = base.length → (∀ j, base.getD j 0 ≤ st.1.getD j 0) → ∀ j, base.getD j 0 ≤ (turnsR held i m st).1.getD j 0
  | 0, _, _, _, h => h
  | m + 1, i, st, hl, h => by rw [turnsR]; exact turnsR_ge m (i + 1) _ (by rw [stepR_len]; exact hl) (stepR_ge hl h st.2.1 st.2.2 i)
theorem fillR_ge {held base : List Int} {m : Nat} : ∀ (f : Nat) (now : List Int) (left : Int), now.length = base.length → (∀ j, base.getD j 0 ≤ now.getD j 0) → ∀ j, base.getD j 0 ≤ (fillR held m f now left).getD j 0
  | 0, now, _, _, h => h
  | f + 1, now, left, hl, h => by
    unfold fillR
    split
    · split
      · exact fillR_ge f _ _ (by rw [turnsR_len]; exact hl) (turnsR_ge _ _ (now, left, false) hl h)
      · exact turnsR_ge _ _ (now, left, false) hl h
    · exact h

section
variable {x0 x1 x8 : AV} {id : Nat} {held base : List Int} {pl : Nat}

/-- Runs that nobody else has: their row, if there is one, lies behind 'lo'. -/
def OwnRuns (s : Store) (v : AV) (l : List Rn) (lo : Nat) : Prop := (v = .nilsl ∧ l = []) ∨ ∃ id, v = .sl id 0 l.length 3 (l.length * 3) ∧ lo ≤ id ∧ id < s.next ∧ s.get id = .cells (l.map rcells).flatten false
theorem OwnRuns.is {s : Store} {v : AV} {l : List Rn} {lo : Nat} (h : OwnRuns s v l lo) : IsRuns s v l := by
  rcases h with h | ⟨id, h1, _, h2, h3⟩
  · exact .inl h
  · exact .inr ⟨id, false, h1, h2, h3⟩
/-- A run more, in a row of one's own, or a new one. -/
theorem app_own {s : Store} {v : AV} {l : List Rn} {lo : Nat} (h : OwnRuns s v l lo) (hlo : lo ≤ s.next) (r : Rn) (hb : (l.length + 1) * 24 ≤ 140737488355328) :
    ∃ v' s', (∀ f : AV → Store → Option (AV × Store), aAppend 3 24 v (.sl s.next 0 1 3 3) (s.push (.cells (rcells r) false)) f = f v' s') ∧ OwnRuns s' v' (l ++ [r]) lo ∧ ExtLo lo s s' := by
  rcases h with ⟨rfl, rfl⟩ | ⟨id, rfl, h1, h2, h3⟩
  · refine ⟨.sl (s.next + 1) 0 1 3 3, (s.push (.cells (rcells r) false)).push (.cells (rcells r) false), fun f => ?_, .inr ⟨s.next + 1, rfl, by omega, by simp only [next_push]; omega, by grind [get_push, next_push]⟩, ⟨by simp only [next_push]; omega, fun l hl => by grind [get_push, next_push]⟩⟩
    have hr : (rcells r).length = 3 := rfl
    simp [aAppend, aCellsOf, aRow, get_push, hr, next_push, List.take_of_length_le]
  · refine ⟨_, _, fun f => app_run (by grind [get_push]) (by grind [get_push]) hb f, .inr ⟨id, rfl, h1, by simp only [next_set, next_push]; omega, by rw [get_set, if_pos rfl]⟩, ⟨by simp only [next_set, next_push]; omega, fun l hl => by grind [get_push, get_set]⟩⟩

end
theorem len_is {s : Store} {v : AV} {k : IntKind} {xs : List Int} (h : IsSl s v k xs) {α : Type} (f : AV → Option α) : aLen v f = f (.int .i64 xs.length) := by
  rcases h with ⟨rfl, rfl⟩ | ⟨id, ro, rfl, _, _⟩ <;> rfl

theorem cnt_zero (base : List Int) (m : Nat) : (List.replicate m [AV.int .u64 0]).flatten = (cntR base base m).map (.int .u64) := by
  simp [cntR, List.map_const']

end Go.Proofs.Ytmaidlndikcgkaa.Sim
