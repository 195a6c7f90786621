/- Seat 05: the reference's Next, its inner turns. No condition. -/
import Derived.Test.YtmaidlndikcgkaaB05B
namespace Go.Proofs.Ytmaidlndikcgkaa.Sim
set_option linter.unusedSimpArgs false

/-- A slice of numbers whose row is not the row 'id'. -/
def IsSlN (s : Store) (v : AV) (k : IntKind) (xs : List Int) (id : Nat) : Prop := (v = .nilsl ∧ xs = []) ∨ ∃ l ro, v = .sl l 0 xs.length 1 xs.length ∧ l < s.next ∧ l ≠ id ∧ s.get l = .cells (xs.map (.int k)) ro
theorem IsSlN.is {s : Store} {v : AV} {k : IntKind} {xs : List Int} {id : Nat} (h : IsSlN s v k xs id) : IsSl s v k xs := by
  rcases h with h | ⟨l, ro, h1, h2, _, h3⟩
  · exact .inl h
  · exact .inr ⟨l, ro, h1, h2, h3⟩
theorem IsSlN.set {s : Store} {v : AV} {k : IntKind} {xs : List Int} {id : Nat} (h : IsSlN s v k xs id) (o : AObj) : IsSlN (s.set id o) v k xs id := by
  rcases h with h | ⟨l, ro, h1, h2, h4, h3⟩
  · exact .inl h
  · exact .inr ⟨l, ro, h1, h2, h4, by rw [get_set, if_neg h4]; exact h3⟩
/-- A number of a row is written anew. -/
theorem store_i {α : Type} {s : Store} {id : Nat} {k : IntKind} {xs : List Int} {i : Nat} {v : Int} (hg : s.get id = .cells (xs.map (.int k)) false) (hi : i < xs.length) (f : Store → Option α) :
    aStore 1 (.ptr id (0 + i * 1) xs.length) (.int k v) s f = f (s.set id (.cells ((xs.set i v).map (.int k)) false)) := by
  simp [aStore, aCells, aOwn, hg, putAll, show i + 1 ≤ xs.length by omega, List.map_set]
theorem load_i {α : Type} {s : Store} {id : Nat} {k : IntKind} {xs : List Int} {ro : Bool} {i : Nat} (hg : s.get id = .cells (xs.map (.int k)) ro) (hi : i < xs.length) (f : AV → Option α) :
    aLoad1 (.ptr id (0 + i * 1) xs.length) s f = f (.int k (xs.getD i 0)) := by
  rw [load_1 hg (by simp) (v := .int k (xs.getD i 0)) (by simp [hi])]

section
variable {k : Nat} {R0 : AV → AV → AV → AV → AV → AV → Store → Option (AV × Store)} {x0 x1 x7 : AV} {id : Nat} {held : List Int}

/-- Numbers that are u64. -/
def U (xs : List Int) : Prop := ∀ x ∈ xs, 0 ≤ x ∧ x < 18446744073709551616
theorem U.at {xs : List Int} (h : U xs) (i : Nat) : 0 ≤ xs.getD i 0 ∧ xs.getD i 0 < 18446744073709551616 := by
  by_cases hi : i < xs.length
  · have e : xs.getD i 0 = xs[i] := by simp [hi]
    rw [e]; exact h _ (List.getElem_mem hi)
  · have e : xs.getD i 0 = 0 := by simp [show xs.length ≤ i by omega]
    rw [e]; omega

theorem U.step {held now : List Int} (hu : U now) (left : Int) (more : Bool) (i : Nat) : U (stepR held (now, left, more) i).1 := by
  unfold stepR
  split
  · rename_i h
    intro x hx
    rcases List.mem_or_eq_of_mem_set hx with hx | hx
    · exact hu x hx
    · have := hu.at i
      have h3 := h.2.2
      simp only at h3
      subst hx; simp only; omega
  · exact hu

end
end Go.Proofs.Ytmaidlndikcgkaa.Sim
