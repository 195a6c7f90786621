/- Seat 05: comparisons of what is the same; the document's order. No condition. -/
import Derived.Test.YtmaidlndikcgkaaB05M
namespace Go.Proofs.Ytmaidlndikcgkaa.Sim
set_option linter.unusedSimpArgs false
set_option linter.unusedVariables false

/-- The greatest count. -/
def topR : Int → List Rn → Int
  | a, [] => a
  | a, r :: l => topR (if r.2.2 > a then r.2.2 else a) l
theorem topR_ge : ∀ (l : List Rn) (a : Int), a ≤ topR a l ∧ ∀ r ∈ l, r.2.2 ≤ topR a l
  | [], a => ⟨Int.le_refl _, fun r h => by simp at h⟩
  | r :: l, a => by
    unfold topR
    have hm : a ≤ (if r.2.2 > a then r.2.2 else a) ∧ r.2.2 ≤ (if r.2.2 > a then r.2.2 else a) := by split <;> omega
    generalize (if r.2.2 > a then r.2.2 else a) = m at *
    obtain ⟨h1, h2⟩ := topR_ge l m
    refine ⟨by omega, fun x hx => ?_⟩
    rcases List.mem_cons.1 hx with rfl | hx
    · omega
    · exact h2 x hx
theorem topR_le : ∀ (l : List Rn) (a : Int) (m : Int), a ≤ m → (∀ r ∈ l, r.2.2 ≤ m) → topR a l ≤ m
  | [], a, m, h, _ => h
  | r :: l, a, m, h, hl => by
    unfold topR
    exact topR_le l _ m (by have := hl r List.mem_cons_self; split <;> omega) fun x hx => hl x (List.mem_cons_of_mem _ hx)

section
variable {x0 : AV} {l : List Rn} {lo : Nat}

end

end Go.Proofs.Ytmaidlndikcgkaa.Sim
