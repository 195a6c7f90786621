/- Seat 05: what the functions come to. No condition. -/
import Derived.Test.YteaflagknacfoaaFuns
import Derived.Test.YteaflagknacfoaaSimS
namespace Go.Proofs.Yteaflagknacfoaa.Sim
set_option linter.unusedSimpArgs false

/-- A slice of numbers. -/
def IsSl (s : Store) (v : AV) (k : IntKind) (xs : List Int) : Prop := (v = .nilsl ∧ xs = []) ∨ ∃ l ro, v = .sl l 0 xs.length 1 xs.length ∧ l < s.next ∧ s.get l = .cells (xs.map (.int k)) ro
theorem IsSl.ext {s s' : Store} {v : AV} {k : IntKind} {xs : List Int} (h : IsSl s v k xs) (e : Ext s s') : IsSl s' v k xs := by
  rcases h with h | ⟨l, ro, h1, h2, h3⟩
  · exact .inl h
  · exact .inr ⟨l, ro, h1, Nat.lt_of_lt_of_le h2 e.next, by rw [e.get l h2]; exact h3⟩

def atI (xs : List Int) (i : Int) : Int := if i < 0 then 0 else xs.getD i.toNat 0

theorem vec_at {s : Store} {v : AV} {xs : List Int} (h : IsSl s v .u64 xs) (hl : (xs.length : Int) < 9223372036854775808) (i : Int) (k : Nat) : run Try.prog (k + 1) 23 [v, .int .i64 i] s = some (.int .u64 (atI xs i), s) := by
  rw [vec_At.eq]
  unfold vec_At.f vec_At.p0
  rw [lss_i]
  by_cases h0 : i < 0
  · simp [h0, aGuard, aPick, aIf, atI]
  · rcases h with ⟨rfl, rfl⟩ | ⟨l, ro, rfl, h2, h3⟩
    · simp [h0, aGuard, aPick, aIf, atI, len_nil, geq_i]
    · by_cases h1 : i < xs.length
      · have h4 : xs[i.toNat]? = some (xs[i.toNat]'(by omega)) := List.getElem?_eq_getElem (by omega)
        simp only [h0, aGuard, aPick, aIf, atI, len_sl, geq_i, Option.bind_some, decide_false, decide_true, if_true, if_false, Bool.false_eq_true, cond_false, ge_iff_le, show ¬ ((xs.length : Nat) : Int) ≤ i by omega, index_sl (show 0 ≤ i by omega) h1]
        rw [load_1 h3 (by simp) (v := .int .u64 (xs[i.toNat]'(by omega))) (by simp [h4])]
        simp [h4]
      · simp [h0, aGuard, aPick, aIf, atI, len_sl, geq_i, show ((xs.length : Nat) : Int) ≤ i by omega, show xs.length ≤ i.toNat by omega]

theorem ref_at {s : Store} {v : AV} {xs : List Int} (h : IsSl s v .u64 xs) (i : Int) (k : Nat) : run Try.prog (k + 1) 22 [v, .int .i64 i] s = some (.int .u64 (atI xs i), s) := by
  rw [unisonref04_At.eq]
  unfold unisonref04_At.f unisonref04_At.p0
  rw [geq_i]
  by_cases h0 : i < 0
  · simp [show ¬ i ≥ 0 by omega, h0, aGuard, aPick, aIf, atI]
  · rcases h with ⟨rfl, rfl⟩ | ⟨l, ro, rfl, h2, h3⟩
    · simp [show i ≥ 0 by omega, h0, aGuard, aPick, aIf, atI, len_nil, lss_i]
    · by_cases h1 : i < xs.length
      · have h4 : xs[i.toNat]? = some (xs[i.toNat]'(by omega)) := List.getElem?_eq_getElem (by omega)
        simp only [h0, show i ≥ 0 by omega, aGuard, aPick, aIf, atI, len_sl, lss_i, Option.bind_some, decide_false, decide_true, if_true, if_false, Bool.false_eq_true, cond_true, h1, index_sl (show 0 ≤ i by omega) h1]
        rw [load_1 h3 (by simp) (v := .int .u64 (xs[i.toNat]'(by omega))) (by simp [h4])]
        simp [h4]
      · simp [h0, show i ≥ 0 by omega, aGuard, aPick, aIf, atI, len_sl, lss_i, show ¬ i < ((xs.length : Nat) : Int) by omega, show xs.length ≤ i.toNat by omega]

/-- Runs, as numbers. -/
abbrev Rn := Int × Int × Int
def rcells (r : Rn) : List AV := [.int .u8 r.1, .int .u64 r.2.1, .int .u64 r.2.2]
def IsRuns (s : Store) (v : AV) (l : List Rn) : Prop := (v = .nilsl ∧ l = []) ∨ ∃ id ro, v = .sl id 0 l.length 3 (l.length * 3) ∧ id < s.next ∧ s.get id = .cells (l.map rcells).flatten ro
theorem IsRuns.ext {s s' : Store} {v : AV} {l : List Rn} (h : IsRuns s v l) (e : Ext s s') : IsRuns s' v l := by
  rcases h with h | ⟨id, ro, h1, h2, h3⟩
  · exact .inl h
  · exact .inr ⟨id, ro, h1, Nat.lt_of_lt_of_le h2 e.next, by rw [e.get id h2]; exact h3⟩
theorem flat_len (l : List Rn) : (l.map rcells).flatten.length = l.length * 3 := by
  induction l with
  | nil => rfl
  | cons r l ih => simp only [List.map_cons, List.flatten_cons, List.length_append, ih, List.length_cons]; simp [rcells]; omega
theorem flat_get : ∀ (l : List Rn) (i : Nat) (h : i < l.length), (((l.map rcells).flatten.drop (i * 3)).take 3) = rcells l[i]
  | r :: l, 0, _ => by simp [rcells]
  | r :: l, i + 1, h => by
    have e : (i + 1) * 3 = (rcells r).length + i * 3 := by simp [rcells]; omega
    rw [List.map_cons, List.flatten_cons, e, ← List.drop_drop, List.drop_left]
    simpa using flat_get l i (by simpa using h)

theorem eq_cells (a b : Rn) {α : Type} (f : Bool → Option α) : aEq (.struct [.int, .int, .int]) (.agg (rcells a)) (.agg (rcells b)) f = f (decide (a = b)) := by
  obtain ⟨a1, a2, a3⟩ := a
  obtain ⟨b1, b2, b3⟩ := b
  simp only [aEq, rcells, eqCells, if_true, Option.map_some]
  congr 1
  by_cases h1 : a1 = b1 <;> by_cases h2 : a2 = b2 <;> by_cases h3 : a3 = b3 <;> simp [h1, h2, h3]

/-- Where runs lie. -/
def AtRuns (s : Store) (id : Nat) (l : List Rn) : Prop := ∃ ro, s.get id = .cells (l.map rcells).flatten ro
theorem load_run {s : Store} {id : Nat} {l : List Rn} (h : AtRuns s id l) (i : Nat) (hi : i < l.length) {α : Type} (f : AV → Option α) : aLoadN 3 (.ptr id (0 + i * 3) (l.length * 3)) s f = f (.agg (rcells l[i])) := by
  obtain ⟨ro, h⟩ := h
  rw [load_n h (flat_len l) (by omega), Nat.zero_add, flat_get l i hi]

theorem same_loop (k : Nat) {s : Store} {i1 i2 : Nat} {l1 l2 : List Rn} (h1 : AtRuns s i1 l1) (h2 : AtRuns s i2 l2) (hl : l1.length = l2.length) (hb : l1.length < 9223372036854775808) : ∀ (n i : Nat), i ≤ l1.length → l1.length - i < n →
    unisonref03_Same.l0 k n (.sl i1 0 l1.length 3 (l1.length * 3)) (.sl i2 0 l2.length 3 (l2.length * 3)) (.int .i64 l1.length) (.int .i64 i) s = some (.bool (decide (l1.drop i = l2.drop i)), s)
  | 0, i, _, hn => by omega
  | n + 1, i, hi, hn => by
    have hs : unisonref03_Same.l0 k (n + 1) = fun x0 x1 x12 x13 s => unisonref03_Same.p6 k (unisonref03_Same.l0 k n) x0 x1 x12 x13 s := rfl
    rw [hs]
    clear hs
    simp only
    unfold unisonref03_Same.p6 unisonref03_Same.p5
    rw [lss_i]
    by_cases h : i < l1.length
    · have hz : (i : Int) < (l1.length : Int) := by omega
      rw [decide_eq_true hz, if_t]
      unfold unisonref03_Same.p4 unisonref03_Same.p3
      have hz2 : (i : Int) < (l2.length : Int) := by omega
      simp only [Option.bind_some, index_sl (show (0 : Int) ≤ i by omega) hz, index_sl (show (0 : Int) ≤ i by omega) hz2, Int.toNat_natCast]
      rw [load_run h1 i h]
      simp only [Option.bind_some]
      rw [load_run h2 i (by omega)]
      simp only [Option.bind_some, eq_cells]
      unfold unisonref03_Same.p2 unisonref03_Same.p1
      rw [List.drop_eq_getElem_cons h, List.drop_eq_getElem_cons (by omega : i < l2.length)]
      by_cases he : l1[i] = l2[i]
      · have hw : IntKind.i64.wrap ((i : Int) + 1) = ((i + 1 : Nat) : Int) := by rw [w_i64 (by omega) (by omega)]; omega
        simp only [he, decide_true, Bool.not_true, if_f, add_i, hw, List.cons.injEq, true_and]
        exact same_loop k h1 h2 hl hb n (i + 1) (by omega) (by omega)
      · have hne : ¬ (l1[i] :: l1.drop (i + 1) = l2[i] :: l2.drop (i + 1)) := fun q => he (List.cons.inj q).1
        rw [decide_eq_false hne, decide_eq_false he]
        rfl
    · have hz : ¬ (i : Int) < (l1.length : Int) := by omega
      rw [decide_eq_false hz, if_f]
      unfold unisonref03_Same.p0
      rw [List.drop_eq_nil_of_le (by omega), List.drop_eq_nil_of_le (by omega)]
      simp

theorem len_runs {s : Store} {v : AV} {l : List Rn} (h : IsRuns s v l) {α : Type} (f : AV → Option α) : aLen v f = f (.int .i64 l.length) := by
  rcases h with ⟨rfl, rfl⟩ | ⟨id, ro, rfl, _, _⟩ <;> rfl

theorem same_run {s : Store} {v1 v2 : AV} {l1 l2 : List Rn} (h1 : IsRuns s v1 l1) (h2 : IsRuns s v2 l2) (hb : l1.length < 9223372036854775808) (k : Nat) (hk : l1.length < k) : run Try.prog (k + 1) 8 [v1, v2] s = some (.bool (decide (l1 = l2)), s) := by
  rw [unisonref03_Same.eq]
  unfold unisonref03_Same.f unisonref03_Same.p9 unisonref03_Same.p8
  rw [len_runs h1, len_runs h2, neq_i]
  by_cases hl : l1.length = l2.length
  · have hz : (((l1.length : Nat) : Int) != ((l2.length : Nat) : Int)) = false := by simp [hl]
    rw [hz, if_f]
    unfold unisonref03_Same.p7
    rw [len_runs h1]
    obtain ⟨k, rfl⟩ : ∃ q, k = q + 1 := ⟨k - 1, by omega⟩
    by_cases h0 : l1 = []
    · subst h0
      have : l2 = [] := List.length_eq_zero_iff.1 hl.symm
      subst this
      have hs : unisonref03_Same.l0 (k + 1) (k + 1) = fun x0 x1 x12 x13 s => unisonref03_Same.p6 (k + 1) (unisonref03_Same.l0 (k + 1) k) x0 x1 x12 x13 s := rfl
      rw [hs]
      simp [unisonref03_Same.p6, unisonref03_Same.p5, unisonref03_Same.p0, lss_i, aIf]
    · have h0' : l2 ≠ [] := fun q => h0 (List.length_eq_zero_iff.1 (by rw [hl, q]; rfl))
      rcases h1 with ⟨_, h1⟩ | ⟨i1, r1, rfl, _, g1⟩
      · exact absurd h1 h0
      rcases h2 with ⟨_, h2⟩ | ⟨i2, r2, rfl, _, g2⟩
      · exact absurd h2 h0'
      have := same_loop (k + 1) ⟨r1, g1⟩ ⟨r2, g2⟩ hl hb (k + 1) 0 (by omega) (by omega)
      simpa using this
  · have hz : (((l1.length : Nat) : Int) != ((l2.length : Nat) : Int)) = true := by simp; omega
    have hne : l1 ≠ l2 := fun q => hl (by rw [q])
    rw [hz, if_t, decide_eq_false hne]
end Go.Proofs.Yteaflagknacfoaa.Sim
