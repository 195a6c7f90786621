/- Seat 05: what the functions come to. No condition. -/
import Derived.Test.YtmaidlndikcgkaaFunA
import Derived.Test.YtmaidlndikcgkaaSimW
import Derived.Test.YtmaidlndikcgkaaSimQ
namespace Go.Proofs.Ytmaidlndikcgkaa.Sim
set_option linter.unusedSimpArgs false

/-- A slice of numbers. -/
def IsSl (s : Store) (v : AV) (k : IntKind) (xs : List Int) : Prop := (v = .nilsl ∧ xs = []) ∨ ∃ l ro, v = .sl l 0 xs.length 1 xs.length ∧ l < s.next ∧ s.get l = .cells (xs.map (.int k)) ro
theorem IsSl.ext {s s' : Store} {v : AV} {k : IntKind} {xs : List Int} (h : IsSl s v k xs) (e : Ext s s') : IsSl s' v k xs := by
  rcases h with h | ⟨l, ro, h1, h2, h3⟩
  · exact .inl h
  · exact .inr ⟨l, ro, h1, Nat.lt_of_lt_of_le h2 e.next, by rw [e.get l h2]; exact h3⟩

def atI (xs : List Int) (i : Int) : Int := if i < 0 then 0 else xs.getD i.toNat 0

theorem vec_at {s : Store} {v : AV} {xs : List Int} (h : IsSl s v .u64 xs) (hl : (xs.length : Int) < 9223372036854775808) (i : Int) (k : Nat) : rn (k + 1) 68 [v, .int .i64 i] s = some (.int .u64 (atI xs i), s) := by
  rw [vec_At.eq]
  unfold vec_At.f vec_At.p0
  rw [lss_i]
  by_cases h0 : i < 0
  · simp [h0, aGuard, aPick, aIf, atI]
  · rcases h with ⟨rfl, rfl⟩ | ⟨l, ro, rfl, h2, h3⟩
    · simp [h0, aGuard, aPick, aIf, atI, len_nil, geq_i]
    · by_cases h1 : i < xs.length
      · have h4 : xs[i.toNat]? = some (xs[i.toNat]'(by omega)) := List.getElem?_eq_getElem (by omega)
        simp only [h0, aGuard, aPick, aIf, atI, len_sl, geq_i, Option.bind_some, decide_false, decide_true, if_true, if_false, Bool.false_eq_true, cond_false, ge_iff_le, show ¬ ((xs.length : Nat) : Int) ≤ i by omega, index_sl (show 0 ≤ i by omega) h1]
        rw [load_1 h3 (by simp) (v := .int .u64 (xs[i.toNat]'(by omega))) (by simp [h4])]
        simp [h4]
      · simp [h0, aGuard, aPick, aIf, atI, len_sl, geq_i, show ((xs.length : Nat) : Int) ≤ i by omega, show xs.length ≤ i.toNat by omega]

theorem ref_at {s : Store} {v : AV} {xs : List Int} (h : IsSl s v .u64 xs) (i : Int) (k : Nat) : rn (k + 1) 49 [v, .int .i64 i] s = some (.int .u64 (atI xs i), s) := by
  rw [unisonref04_At.eq]
  unfold unisonref04_At.f unisonref04_At.p0
  rw [geq_i]
  by_cases h0 : i < 0
  · simp [show ¬ i ≥ 0 by omega, h0, aGuard, aPick, aIf, atI]
  · rcases h with ⟨rfl, rfl⟩ | ⟨l, ro, rfl, h2, h3⟩
    · simp [show i ≥ 0 by omega, h0, aGuard, aPick, aIf, atI, len_nil, lss_i]
    · by_cases h1 : i < xs.length
      · have h4 : xs[i.toNat]? = some (xs[i.toNat]'(by omega)) := List.getElem?_eq_getElem (by omega)
        simp only [h0, show i ≥ 0 by omega, aGuard, aPick, aIf, atI, len_sl, lss_i, Option.bind_some, decide_false, decide_true, if_true, if_false, Bool.false_eq_true, cond_true, h1, index_sl (show 0 ≤ i by omega) h1]
        rw [load_1 h3 (by simp) (v := .int .u64 (xs[i.toNat]'(by omega))) (by simp [h4])]
        simp [h4]
      · simp [h0, show i ≥ 0 by omega, aGuard, aPick, aIf, atI, len_sl, lss_i, show ¬ i < ((xs.length : Nat) : Int) by omega, show xs.length ≤ i.toNat by omega]

/-- Runs, as numbers. -/
abbrev Rn := Int × Int × Int
def rcells (r : Rn) : List AV := [.int .u8 r.1, .int .u64 r.2.1, .int .u64 r.2.2]
def IsRuns (s : Store) (v : AV) (l : List Rn) : Prop := (v = .nilsl ∧ l = []) ∨ ∃ id ro, v = .sl id 0 l.length 3 (l.length * 3) ∧ id < s.next ∧ s.get id = .cells (l.map rcells).flatten ro
theorem IsRuns.ext {s s' : Store} {v : AV} {l : List Rn} (h : IsRuns s v l) (e : Ext s s') : IsRuns s' v l := by
  rcases h with h | ⟨id, ro, h1, h2, h3⟩
  · exact .inl h
  · exact .inr ⟨id, ro, h1, Nat.lt_of_lt_of_le h2 e.next, by rw [e.get id h2]; exact h3⟩
theorem flat_len (l : List Rn) : (l.map rcells).flatten.length = l.length * 3 := by
  induction l with
  | nil => rfl
  | cons r l ih => simp only [List.map_cons, List.flatten_cons, List.length_append, ih, List.length_cons]; simp [rcells]; omega
theorem flat_get : ∀ (l : List Rn) (i : Nat) (h : i < l.length), (((l.map rcells).flatten.drop (i * 3)).take 3) = rcells l[i]
  | r :: l, 0, _ => by simp [rcells]
  | r :: l, i + 1, h => by
    have e : (i + 1) * 3 = (rcells r).length + i * 3 := by simp [rcells]; omega
    rw [List.map_cons, List.flatten_cons, e, ← List.drop_drop, List.drop_left]
    simpa using flat_get l i (by simpa using h)

theorem eq_cells (a b : Rn) {α : Type} (f : Bool → Option α) : aEq (.struct [.int, .int, .int]) (.agg (rcells a)) (.agg (rcells b)) f = f (decide (a = b)) := by
  obtain ⟨a1, a2, a3⟩ := a
  obtain ⟨b1, b2, b3⟩ := b
  simp only [aEq, rcells, eqCells, if_true, Option.map_some]
  congr 1
  by_cases h1 : a1 = b1 <;> by_cases h2 : a2 = b2 <;> by_cases h3 : a3 = b3 <;> simp [h1, h2, h3]

/-- Where runs lie. -/
def AtRuns (s : Store) (id : Nat) (l : List Rn) : Prop := ∃ ro, s.get id = .cells (l.map rcells).flatten ro
theorem load_run {s : Store} {id : Nat} {l : List Rn} (h : AtRuns s id l) (i : Nat) (hi : i < l.length) {α : Type} (f : AV → Option α) : aLoadN 3 (.ptr id (0 + i * 3) (l.length * 3)) s f = f (.agg (rcells l[i])) := by
  obtain ⟨ro, h⟩ := h
  rw [load_n h (flat_len l) (by omega), Nat.zero_add, flat_get l i hi]

theorem len_runs {s : Store} {v : AV} {l : List Rn} (h : IsRuns s v l) {α : Type} (f : AV → Option α) : aLen v f = f (.int .i64 l.length) := by
  rcases h with ⟨rfl, rfl⟩ | ⟨id, ro, rfl, _, _⟩ <;> rfl

end Go.Proofs.Ytmaidlndikcgkaa.Sim
