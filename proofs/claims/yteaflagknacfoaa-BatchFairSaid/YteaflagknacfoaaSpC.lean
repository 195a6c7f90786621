/- Seat 05: the reference's Next, its inner turns. No condition. -/
import Derived.Test.YteaflagknacfoaaSpB
namespace Go.Proofs.Yteaflagknacfoaa.Sim
set_option linter.unusedSimpArgs false

/-- A slice of numbers whose row is not the row 'id'. -/
def IsSlN (s : Store) (v : AV) (k : IntKind) (xs : List Int) (id : Nat) : Prop := (v = .nilsl ∧ xs = []) ∨ ∃ l ro, v = .sl l 0 xs.length 1 xs.length ∧ l < s.next ∧ l ≠ id ∧ s.get l = .cells (xs.map (.int k)) ro
theorem IsSlN.is {s : Store} {v : AV} {k : IntKind} {xs : List Int} {id : Nat} (h : IsSlN s v k xs id) : IsSl s v k xs := by
  rcases h with h | ⟨l, ro, h1, h2, _, h3⟩
  · exact .inl h
  · exact .inr ⟨l, ro, h1, h2, h3⟩
theorem IsSlN.set {s : Store} {v : AV} {k : IntKind} {xs : List Int} {id : Nat} (h : IsSlN s v k xs id) (o : AObj) : IsSlN (s.set id o) v k xs id := by
  rcases h with h | ⟨l, ro, h1, h2, h4, h3⟩
  · exact .inl h
  · exact .inr ⟨l, ro, h1, h2, h4, by rw [get_set, if_neg h4]; exact h3⟩
theorem set_same {s : Store} {id : Nat} {o : AObj} (h : s.get id = o) : s.set id o = s := by
  unfold Store.set
  congr 1
  funext j
  split
  · rename_i e; rw [e, h]
  · rfl
theorem set_set (s : Store) (id : Nat) (o o' : AObj) : (s.set id o).set id o' = s.set id o' := by
  unfold Store.set
  congr 1
  funext j
  by_cases h : j = id
  · simp [h]
  · simp [h]
theorem aSame_self {α : Type} (v : AV) (x : Option α) : aSame v v x = x := by unfold aSame; rw [if_pos rfl]

/-- A number of a row is written anew. -/
theorem store_i {α : Type} {s : Store} {id : Nat} {k : IntKind} {xs : List Int} {i : Nat} {v : Int} (hg : s.get id = .cells (xs.map (.int k)) false) (hi : i < xs.length) (f : Store → Option α) :
    aStore 1 (.ptr id (0 + i * 1) xs.length) (.int k v) s f = f (s.set id (.cells ((xs.set i v).map (.int k)) false)) := by
  simp [aStore, aCells, aOwn, hg, putAll, show i + 1 ≤ xs.length by omega, List.map_set]
theorem load_i {α : Type} {s : Store} {id : Nat} {k : IntKind} {xs : List Int} {ro : Bool} {i : Nat} (hg : s.get id = .cells (xs.map (.int k)) ro) (hi : i < xs.length) (f : AV → Option α) :
    aLoad1 (.ptr id (0 + i * 1) xs.length) s f = f (.int k (xs.getD i 0)) := by
  rw [load_1 hg (by simp) (v := .int k (xs.getD i 0)) (by simp [hi])]

section
variable {k : Nat} {R0 : AV → AV → AV → AV → AV → AV → Store → Option (AV × Store)} {x0 x1 x7 : AV} {id : Nat} {held : List Int}

/-- Numbers that are u64. -/
def U (xs : List Int) : Prop := ∀ x ∈ xs, 0 ≤ x ∧ x < 18446744073709551616
theorem U.at {xs : List Int} (h : U xs) (i : Nat) : 0 ≤ xs.getD i 0 ∧ xs.getD i 0 < 18446744073709551616 := by
  by_cases hi : i < xs.length
  · have e : xs.getD i 0 = xs[i] := by simp [hi]
    rw [e]; exact h _ (List.getElem_mem hi)
  · have e : xs.getD i 0 = 0 := by simp [show xs.length ≤ i by omega]
    rw [e]; omega

/-- One turn. -/
theorem ref_turn (k : Nat) {R1 : AV → AV → AV → AV → AV → AV → AV → Store → Option (AV × Store)} {s : Store} (hh : IsSlN s x1 .u64 held id) {now : List Int} (hg : s.get id = .cells (now.map (.int .u64)) false) (hu : U now) {left : Int} (hl : -9223372036854775808 ≤ left ∧ left < 9223372036854775808) {more : Bool} {i : Nat} (hi : i < now.length) (hil : i < 64) :
    unisonref05_Next.p12 (k + 1) R0 R1 x0 x1 x7 (.sl id 0 now.length 1 now.length) (.int .i64 left) (.bool more) (.int .i64 i) s =
      R1 x0 x1 x7 (.sl id 0 now.length 1 now.length) (.int .i64 (stepR held (now, left, more) i).2.1) (.bool (stepR held (now, left, more) i).2.2) (.int .i64 ((i + 1 : Nat) : Int)) (s.set id (.cells ((stepR held (now, left, more) i).1.map (.int .u64)) false)) := by
  have hw : IntKind.i64.wrap ((i : Int) + 1) = ((i + 1 : Nat) : Int) := by rw [w_i64 (by omega) (by omega)]; omega
  have hz : (i : Int) < (now.length : Int) := by omega
  have hset : s.set id (.cells (now.map (.int .u64)) false) = s := set_same hg
  have hun := hu.at i
  unfold unisonref05_Next.p12
  simp only [Option.bind_some, gtr_i]
  by_cases h1 : left > 0
  · simp only [h1, decide_true, guard_same, Option.bind_some, ref_at hh.is, index_sl (show (0 : Int) ≤ i by omega) hz, Int.toNat_natCast, load_i hg hi, aSame_self, gtr_i, pick_t]
    by_cases h2 : atI held i > now.getD i 0
    · simp only [h2, decide_true, guard_same, Option.bind_some, index_sl (show (0 : Int) ≤ i by omega) hz, Int.toNat_natCast, load_i hg hi, lss_i, pick_t]
      by_cases h3 : now.getD i 0 < 4611686018427387904
      · have e : stepR held (now, left, more) i = (now.set i (now.getD i 0 + 1), left - 1, true) := by unfold stepR; rw [if_pos ⟨h1, h2, h3⟩]
        rw [e]
        unfold unisonref05_Next.p11 unisonref05_Next.p10
        simp only [h3, decide_true, if_t, index_sl (show (0 : Int) ≤ i by omega) hz, Int.toNat_natCast, load_i hg hi, add_i, sub_i, w_u64 (show 0 ≤ now.getD i 0 + 1 by omega) (show now.getD i 0 + 1 < 18446744073709551616 by omega), store_i hg hi, w_i64 (show -9223372036854775808 ≤ left - 1 by omega) (show left - 1 < 9223372036854775808 by omega), hw]
      · have e : stepR held (now, left, more) i = (now, left, more) := by unfold stepR; rw [if_neg (fun q => h3 q.2.2)]
        rw [e]
        unfold unisonref05_Next.p11 unisonref05_Next.p10
        simp only [h3, decide_false, if_f, add_i, hw, hset]
    · have e : stepR held (now, left, more) i = (now, left, more) := by unfold stepR; rw [if_neg (fun q => h2 q.2.1)]
      rw [e]
      unfold unisonref05_Next.p11 unisonref05_Next.p10
      simp only [h2, decide_false, guard_not false true (by simp), Option.bind_some, pick_f, if_f, add_i, hw, hset]
  · have e : stepR held (now, left, more) i = (now, left, more) := by unfold stepR; rw [if_neg (fun q => h1 q.1)]
    rw [e]
    unfold unisonref05_Next.p11 unisonref05_Next.p10
    simp only [h1, decide_false, guard_not false true (by simp), Option.bind_some, pick_f, if_f, add_i, hw, hset, aSame_self]

theorem U.step {held now : List Int} (hu : U now) (left : Int) (more : Bool) (i : Nat) : U (stepR held (now, left, more) i).1 := by
  unfold stepR
  split
  · rename_i h
    intro x hx
    rcases List.mem_or_eq_of_mem_set hx with hx | hx
    · exact hu x hx
    · have := hu.at i
      have h3 := h.2.2
      simp only at h3
      subst hx; simp only; omega
  · exact hu

/-- All turns of a round. -/
theorem ref_turns (k : Nat) : ∀ (n m i : Nat) (s : Store) (now : List Int) (left : Int) (more : Bool), IsSlN s x1 .u64 held id → s.get id = .cells (now.map (.int .u64)) false → U now → (-9223372036854775808 ≤ left - m ∧ left < 9223372036854775808) → i + m = min now.length 64 → m < n →
    unisonref05_Next.l1 (k + 1) R0 n x0 x1 x7 (.sl id 0 now.length 1 now.length) (.int .i64 left) (.bool more) (.int .i64 i) s =
      R0 x0 x1 x7 (.sl id 0 now.length 1 now.length) (.int .i64 (turnsR held i m (now, left, more)).2.1) (.bool (turnsR held i m (now, left, more)).2.2) (s.set id (.cells ((turnsR held i m (now, left, more)).1.map (.int .u64)) false))
  | 0, m, i, s, now, left, more, _, _, _, _, _, hn => by omega
  | n + 1, m, i, s, now, left, more, hh, hg, hu, hl, hi, hn => by
    have hs : unisonref05_Next.l1 (k + 1) R0 (n + 1) = fun x0 x1 x7 x8 x9 x10 x11 s => unisonref05_Next.p13 (k + 1) R0 (unisonref05_Next.l1 (k + 1) R0 n) x0 x1 x7 x8 x9 x10 x11 s := rfl
    rw [hs]
    clear hs
    simp only
    unfold unisonref05_Next.p13
    rw [len_sl, lss_i]
    cases m with
    | zero =>
      have hset : s.set id (.cells (now.map (.int .u64)) false) = s := set_same hg
      by_cases h1 : (i : Int) < (now.length : Int)
      · have h2 : ¬ (i : Int) < 64 := by omega
        simp only [h1, h2, decide_true, decide_false, guard_same, Option.bind_some, lss_i, pick_t, if_f, turnsR, hset]
      · simp only [h1, decide_false, guard_not false true (by simp), Option.bind_some, pick_f, if_f, turnsR, hset]
    | succ m =>
      have h1 : (i : Int) < (now.length : Int) := by omega
      have h2 : (i : Int) < 64 := by omega
      simp only [h1, h2, decide_true, guard_same, Option.bind_some, lss_i, pick_t, if_t, turnsR]
      rw [ref_turn k hh hg hu (by omega) (by omega) (by omega)]
      have e := stepR_len held (now, left, more) i
      simp only at e
      have hlft := stepR_left held (now, left, more) i
      simp only at hlft
      have hge : left - 1 ≤ (stepR held (now, left, more) i).2.1 := by
        unfold stepR; split <;> simp only <;> omega
      have := ref_turns k n m (i + 1) (s.set id (.cells ((stepR held (now, left, more) i).1.map (.int .u64)) false)) (stepR held (now, left, more) i).1 (stepR held (now, left, more) i).2.1 (stepR held (now, left, more) i).2.2 (hh.set _) (by rw [get_set, if_pos rfl]) (hu.step left more i) (by omega) (by rw [e]; omega) (by omega)
      rw [e] at this
      rw [this, set_set]
end
end Go.Proofs.Yteaflagknacfoaa.Sim
