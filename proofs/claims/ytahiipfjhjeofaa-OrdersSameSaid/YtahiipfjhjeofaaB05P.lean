/- The texts B05A, B05B, B05C, B05D, B05E, B05F, B05G, B05H, B05I, B05J, B05L, B05M, B05N, B05O, B05P, one behind the other. No condition. -/
import Derived.Test.YtahiipfjhjeofaaFunB
import Derived.Test.YtahiipfjhjeofaaSimW
import Derived.Test.YtahiipfjhjeofaaSimQ
namespace Go.Proofs.Ytahiipfjhjeofaa.Sim
set_option linter.unusedSimpArgs false

/-- A slice of numbers. -/
def IsSl (s : Store) (v : AV) (k : IntKind) (xs : List Int) : Prop := (v = .nilsl ∧ xs = []) ∨ ∃ l ro, v = .sl l 0 xs.length 1 xs.length ∧ l < s.next ∧ s.get l = .cells (xs.map (.int k)) ro
theorem IsSl.ext {s s' : Store} {v : AV} {k : IntKind} {xs : List Int} (h : IsSl s v k xs) (e : Ext s s') : IsSl s' v k xs := by
  rcases h with h | ⟨l, ro, h1, h2, h3⟩
  · exact .inl h
  · exact .inr ⟨l, ro, h1, Nat.lt_of_lt_of_le h2 e.next, by rw [e.get l h2]; exact h3⟩

def atI (xs : List Int) (i : Int) : Int := if i < 0 then 0 else xs.getD i.toNat 0

theorem ref_at {s : Store} {v : AV} {xs : List Int} (h : IsSl s v .u64 xs) (i : Int) (k : Nat) : rn (k + 1) 41 [v, .int .i64 i] s = some (.int .u64 (atI xs i), s) := by
  rw [unisonref04_At.eq]
  unfold unisonref04_At.f unisonref04_At.p0
  rw [geq_i]
  by_cases h0 : i < 0
  · simp [show ¬ i ≥ 0 by omega, h0, aGuard, aPick, aIf, atI]
  · rcases h with ⟨rfl, rfl⟩ | ⟨l, ro, rfl, h2, h3⟩
    · simp [show i ≥ 0 by omega, h0, aGuard, aPick, aIf, atI, len_nil, lss_i]
    · by_cases h1 : i < xs.length
      · have h4 : xs[i.toNat]? = some (xs[i.toNat]'(by omega)) := List.getElem?_eq_getElem (by omega)
        simp only [h0, show i ≥ 0 by omega, aGuard, aPick, aIf, atI, len_sl, lss_i, Option.bind_some, decide_false, decide_true, if_true, if_false, Bool.false_eq_true, cond_true, h1, index_sl (show 0 ≤ i by omega) h1]
        rw [load_1 h3 (by simp) (v := .int .u64 (xs[i.toNat]'(by omega))) (by simp [h4])]
        simp [h4]
      · simp [h0, show i ≥ 0 by omega, aGuard, aPick, aIf, atI, len_sl, lss_i, show ¬ i < ((xs.length : Nat) : Int) by omega, show xs.length ≤ i.toNat by omega]

/-- Runs, as numbers. -/
abbrev Rn := Int × Int × Int
def rcells (r : Rn) : List AV := [.int .u8 r.1, .int .u64 r.2.1, .int .u64 r.2.2]
def IsRuns (s : Store) (v : AV) (l : List Rn) : Prop := (v = .nilsl ∧ l = []) ∨ ∃ id ro, v = .sl id 0 l.length 3 (l.length * 3) ∧ id < s.next ∧ s.get id = .cells (l.map rcells).flatten ro
theorem IsRuns.ext {s s' : Store} {v : AV} {l : List Rn} (h : IsRuns s v l) (e : Ext s s') : IsRuns s' v l := by
  rcases h with h | ⟨id, ro, h1, h2, h3⟩
  · exact .inl h
  · exact .inr ⟨id, ro, h1, Nat.lt_of_lt_of_le h2 e.next, by rw [e.get id h2]; exact h3⟩
theorem flat_len (l : List Rn) : (l.map rcells).flatten.length = l.length * 3 := by
  induction l with
  | nil => rfl
  | cons r l ih => simp only [List.map_cons, List.flatten_cons, List.length_append, ih, List.length_cons]; simp [rcells]; omega
theorem flat_get : ∀ (l : List Rn) (i : Nat) (h : i < l.length), (((l.map rcells).flatten.drop (i * 3)).take 3) = rcells l[i]
  | r :: l, 0, _ => by simp [rcells]
  | r :: l, i + 1, h => by
    have e : (i + 1) * 3 = (rcells r).length + i * 3 := by simp [rcells]; omega
    rw [List.map_cons, List.flatten_cons, e, ← List.drop_drop, List.drop_left]
    simpa using flat_get l i (by simpa using h)

theorem eq_cells (a b : Rn) {α : Type} (f : Bool → Option α) : aEq (.struct [.int, .int, .int]) (.agg (rcells a)) (.agg (rcells b)) f = f (decide (a = b)) := by
  obtain ⟨a1, a2, a3⟩ := a
  obtain ⟨b1, b2, b3⟩ := b
  simp only [aEq, rcells, eqCells, if_true, Option.map_some]
  congr 1
  by_cases h1 : a1 = b1 <;> by_cases h2 : a2 = b2 <;> by_cases h3 : a3 = b3 <;> simp [h1, h2, h3]

/-- Where runs lie. -/
def AtRuns (s : Store) (id : Nat) (l : List Rn) : Prop := ∃ ro, s.get id = .cells (l.map rcells).flatten ro
theorem load_run {s : Store} {id : Nat} {l : List Rn} (h : AtRuns s id l) (i : Nat) (hi : i < l.length) {α : Type} (f : AV → Option α) : aLoadN 3 (.ptr id (0 + i * 3) (l.length * 3)) s f = f (.agg (rcells l[i])) := by
  obtain ⟨ro, h⟩ := h
  rw [load_n h (flat_len l) (by omega), Nat.zero_add, flat_get l i hi]

theorem same_loop (k : Nat) {s : Store} {i1 i2 : Nat} {l1 l2 : List Rn} (h1 : AtRuns s i1 l1) (h2 : AtRuns s i2 l2) (hl : l1.length = l2.length) (hb : l1.length < 9223372036854775808) : ∀ (n i : Nat), i ≤ l1.length → l1.length - i < n →
    unisonref03_Same.l0 k n (.sl i1 0 l1.length 3 (l1.length * 3)) (.sl i2 0 l2.length 3 (l2.length * 3)) (.int .i64 l1.length) (.int .i64 i) s = some (.bool (decide (l1.drop i = l2.drop i)), s)
  | 0, i, _, hn => by omega
  | n + 1, i, hi, hn => by
    have hs : unisonref03_Same.l0 k (n + 1) = fun x0 x1 x12 x13 s => unisonref03_Same.p6 k (unisonref03_Same.l0 k n) x0 x1 x12 x13 s := rfl
    rw [hs]
    clear hs
    simp only
    unfold unisonref03_Same.p6 unisonref03_Same.p5
    rw [lss_i]
    by_cases h : i < l1.length
    · have hz : (i : Int) < (l1.length : Int) := by omega
      rw [decide_eq_true hz, if_t]
      unfold unisonref03_Same.p4 unisonref03_Same.p3
      have hz2 : (i : Int) < (l2.length : Int) := by omega
      simp only [Option.bind_some, index_sl (show (0 : Int) ≤ i by omega) hz, index_sl (show (0 : Int) ≤ i by omega) hz2, Int.toNat_natCast]
      rw [load_run h1 i h]
      simp only [Option.bind_some]
      rw [load_run h2 i (by omega)]
      simp only [Option.bind_some, eq_cells]
      unfold unisonref03_Same.p2 unisonref03_Same.p1
      rw [List.drop_eq_getElem_cons h, List.drop_eq_getElem_cons (by omega : i < l2.length)]
      by_cases he : l1[i] = l2[i]
      · have hw : IntKind.i64.wrap ((i : Int) + 1) = ((i + 1 : Nat) : Int) := by rw [w_i64 (by omega) (by omega)]; omega
        simp only [he, decide_true, Bool.not_true, if_f, add_i, hw, List.cons.injEq, true_and]
        exact same_loop k h1 h2 hl hb n (i + 1) (by omega) (by omega)
      · have hne : ¬ (l1[i] :: l1.drop (i + 1) = l2[i] :: l2.drop (i + 1)) := fun q => he (List.cons.inj q).1
        rw [decide_eq_false hne, decide_eq_false he]
        rfl
    · have hz : ¬ (i : Int) < (l1.length : Int) := by omega
      rw [decide_eq_false hz, if_f]
      unfold unisonref03_Same.p0
      rw [List.drop_eq_nil_of_le (by omega), List.drop_eq_nil_of_le (by omega)]
      simp

theorem len_runs {s : Store} {v : AV} {l : List Rn} (h : IsRuns s v l) {α : Type} (f : AV → Option α) : aLen v f = f (.int .i64 l.length) := by
  rcases h with ⟨rfl, rfl⟩ | ⟨id, ro, rfl, _, _⟩ <;> rfl

theorem same_run {s : Store} {v1 v2 : AV} {l1 l2 : List Rn} (h1 : IsRuns s v1 l1) (h2 : IsRuns s v2 l2) (hb : l1.length < 9223372036854775808) (k : Nat) (hk : l1.length < k) : rn (k + 1) 14 [v1, v2] s = some (.bool (decide (l1 = l2)), s) := by
  rw [unisonref03_Same.eq]
  unfold unisonref03_Same.f unisonref03_Same.p9 unisonref03_Same.p8
  rw [len_runs h1, len_runs h2, neq_i]
  by_cases hl : l1.length = l2.length
  · have hz : (((l1.length : Nat) : Int) != ((l2.length : Nat) : Int)) = false := by simp [hl]
    rw [hz, if_f]
    unfold unisonref03_Same.p7
    rw [len_runs h1]
    obtain ⟨k, rfl⟩ : ∃ q, k = q + 1 := ⟨k - 1, by omega⟩
    by_cases h0 : l1 = []
    · subst h0
      have : l2 = [] := List.length_eq_zero_iff.1 hl.symm
      subst this
      have hs : unisonref03_Same.l0 (k + 1) (k + 1) = fun x0 x1 x12 x13 s => unisonref03_Same.p6 (k + 1) (unisonref03_Same.l0 (k + 1) k) x0 x1 x12 x13 s := rfl
      rw [hs]
      simp [unisonref03_Same.p6, unisonref03_Same.p5, unisonref03_Same.p0, lss_i, aIf]
    · have h0' : l2 ≠ [] := fun q => h0 (List.length_eq_zero_iff.1 (by rw [hl, q]; rfl))
      rcases h1 with ⟨_, h1⟩ | ⟨i1, r1, rfl, _, g1⟩
      · exact absurd h1 h0
      rcases h2 with ⟨_, h2⟩ | ⟨i2, r2, rfl, _, g2⟩
      · exact absurd h2 h0'
      have := same_loop (k + 1) ⟨r1, g1⟩ ⟨r2, g2⟩ hl hb (k + 1) 0 (by omega) (by omega)
      simpa using this
  · have hz : (((l1.length : Nat) : Int) != ((l2.length : Nat) : Int)) = true := by simp; omega
    have hne : l1 ≠ l2 := fun q => hl (by rw [q])
    rw [hz, if_t, decide_eq_false hne]
end Go.Proofs.Ytahiipfjhjeofaa.Sim
namespace Go.Proofs.Ytahiipfjhjeofaa.Sim
set_option linter.unusedSimpArgs false

/-- One place's turn: what has been reached, what is left, whether there was more. -/
def stepR (held : List Int) (st : List Int × Int × Bool) (i : Nat) : List Int × Int × Bool :=
  if st.2.1 > 0 ∧ atI held i > st.1.getD i 0 ∧ st.1.getD i 0 < 4611686018427387904 then (st.1.set i (st.1.getD i 0 + 1), st.2.1 - 1, true) else st
/-- The turns of the places from i on, m of them. -/
def turnsR (held : List Int) : Nat → Nat → List Int × Int × Bool → List Int × Int × Bool
  | _, 0, st => st
  | i, m + 1, st => turnsR held (i + 1) m (stepR held st i)

theorem stepR_len (held : List Int) (st : List Int × Int × Bool) (i : Nat) : (stepR held st i).1.length = st.1.length := by
  unfold stepR; split <;> simp
theorem turnsR_len (held : List Int) : ∀ (m i : Nat) (st : List Int × Int × Bool), (turnsR held i m st).1.length = st.1.length
  | 0, _, _ => rfl
  | m + 1, i, st => by rw [turnsR, turnsR_len held m, stepR_len]
/-- What is left never grows; where there was more it is less. -/
theorem stepR_left (held : List Int) (st : List Int × Int × Bool) (i : Nat) : (stepR held st i).2.1 ≤ st.2.1 ∧ (0 ≤ st.2.1 → 0 ≤ (stepR held st i).2.1) ∧ ((stepR held st i).2.2 = true → st.2.2 = true ∨ (stepR held st i).2.1 < st.2.1) ∧ (st.2.2 = true → (stepR held st i).2.2 = true) := by
  unfold stepR; split
  · rename_i h; refine ⟨by simp; omega, by simp; omega, fun _ => .inr (by simp; omega), fun _ => rfl⟩
  · exact ⟨Int.le_refl _, id, fun h => .inl h, id⟩
theorem turnsR_left (held : List Int) : ∀ (m i : Nat) (st : List Int × Int × Bool), (turnsR held i m st).2.1 ≤ st.2.1 ∧ (0 ≤ st.2.1 → 0 ≤ (turnsR held i m st).2.1) ∧ ((turnsR held i m st).2.2 = true → st.2.2 = true ∨ (turnsR held i m st).2.1 < st.2.1)
  | 0, _, st => ⟨Int.le_refl _, id, fun h => .inl h⟩
  | m + 1, i, st => by
    obtain ⟨h1, h2, h3, h4⟩ := stepR_left held st i
    obtain ⟨k1, k2, k3⟩ := turnsR_left held m (i + 1) (stepR held st i)
    refine ⟨by rw [turnsR]; omega, fun h => by rw [turnsR]; exact k2 (h2 h), fun h => ?_⟩
    rw [turnsR] at h ⊢
    rcases k3 h with h | h
    · rcases h3 h with h | h
      · exact .inl h
      · exact .inr (by omega)
    · exact .inr (by omega)

/-- Round after round, while there is more and something is left. -/
def fillR (held : List Int) (m : Nat) : Nat → List Int → Int → List Int
  | 0, now, _ => now
  | f + 1, now, left => if 0 < left then
      (if (turnsR held 0 m (now, left, false)).2.2 = true then fillR held m f (turnsR held 0 m (now, left, false)).1 (turnsR held 0 m (now, left, false)).2.1 else (turnsR held 0 m (now, left, false)).1) else now
theorem fillR_len (held : List Int) (m : Nat) : ∀ (f : Nat) (now : List Int) (left : Int), (fillR held m f now left).length = now.length
  | 0, _, _ => rfl
  | f + 1, now, left => by
    unfold fillR
    split
    · split
      · rw [fillR_len held m f, turnsR_len]
      · rw [turnsR_len]
    · rfl
/-- Where nothing is left nothing happens. -/
theorem turnsR_zero (held : List Int) : ∀ (m i : Nat) (st : List Int × Int × Bool), st.2.1 ≤ 0 → turnsR held i m st = st
  | 0, _, _, _ => rfl
  | m + 1, i, st, h => by
    have : stepR held st i = st := by unfold stepR; rw [if_neg (by omega)]
    rw [turnsR, this, turnsR_zero held m (i + 1) st h]
end Go.Proofs.Ytahiipfjhjeofaa.Sim
namespace Go.Proofs.Ytahiipfjhjeofaa.Sim
set_option linter.unusedSimpArgs false

/-- A slice of numbers whose row is not the row 'id'. -/
def IsSlN (s : Store) (v : AV) (k : IntKind) (xs : List Int) (id : Nat) : Prop := (v = .nilsl ∧ xs = []) ∨ ∃ l ro, v = .sl l 0 xs.length 1 xs.length ∧ l < s.next ∧ l ≠ id ∧ s.get l = .cells (xs.map (.int k)) ro
theorem IsSlN.is {s : Store} {v : AV} {k : IntKind} {xs : List Int} {id : Nat} (h : IsSlN s v k xs id) : IsSl s v k xs := by
  rcases h with h | ⟨l, ro, h1, h2, _, h3⟩
  · exact .inl h
  · exact .inr ⟨l, ro, h1, h2, h3⟩
theorem IsSlN.set {s : Store} {v : AV} {k : IntKind} {xs : List Int} {id : Nat} (h : IsSlN s v k xs id) (o : AObj) : IsSlN (s.set id o) v k xs id := by
  rcases h with h | ⟨l, ro, h1, h2, h4, h3⟩
  · exact .inl h
  · exact .inr ⟨l, ro, h1, h2, h4, by rw [get_set, if_neg h4]; exact h3⟩
/-- A number of a row is written anew. -/
theorem store_i {α : Type} {s : Store} {id : Nat} {k : IntKind} {xs : List Int} {i : Nat} {v : Int} (hg : s.get id = .cells (xs.map (.int k)) false) (hi : i < xs.length) (f : Store → Option α) :
    aStore 1 (.ptr id (0 + i * 1) xs.length) (.int k v) s f = f (s.set id (.cells ((xs.set i v).map (.int k)) false)) := by
  simp [aStore, aCells, aOwn, hg, putAll, show i + 1 ≤ xs.length by omega, List.map_set]
theorem load_i {α : Type} {s : Store} {id : Nat} {k : IntKind} {xs : List Int} {ro : Bool} {i : Nat} (hg : s.get id = .cells (xs.map (.int k)) ro) (hi : i < xs.length) (f : AV → Option α) :
    aLoad1 (.ptr id (0 + i * 1) xs.length) s f = f (.int k (xs.getD i 0)) := by
  rw [load_1 hg (by simp) (v := .int k (xs.getD i 0)) (by simp [hi])]

section
variable {k : Nat} {R0 : AV → AV → AV → AV → AV → AV → Store → Option (AV × Store)} {x0 x1 x7 : AV} {id : Nat} {held : List Int}

/-- Numbers that are u64. -/
def U (xs : List Int) : Prop := ∀ x ∈ xs, 0 ≤ x ∧ x < 18446744073709551616
theorem U.at {xs : List Int} (h : U xs) (i : Nat) : 0 ≤ xs.getD i 0 ∧ xs.getD i 0 < 18446744073709551616 := by
  by_cases hi : i < xs.length
  · have e : xs.getD i 0 = xs[i] := by simp [hi]
    rw [e]; exact h _ (List.getElem_mem hi)
  · have e : xs.getD i 0 = 0 := by simp [show xs.length ≤ i by omega]
    rw [e]; omega

theorem U.step {held now : List Int} (hu : U now) (left : Int) (more : Bool) (i : Nat) : U (stepR held (now, left, more) i).1 := by
  unfold stepR
  split
  · rename_i h
    intro x hx
    rcases List.mem_or_eq_of_mem_set hx with hx | hx
    · exact hu x hx
    · have := hu.at i
      have h3 := h.2.2
      simp only at h3
      subst hx; simp only; omega
  · exact hu

end
end Go.Proofs.Ytahiipfjhjeofaa.Sim
namespace Go.Proofs.Ytahiipfjhjeofaa.Sim
set_option linter.unusedSimpArgs false
section
variable {x0 x1 x7 : AV} {id : Nat} {held : List Int}

end

/-- All rows but one are as they were. -/
structure Keep (id : Nat) (s s' : Store) : Prop where
  next : s.next ≤ s'.next
  get : ∀ l, l < s.next → l ≠ id → s'.get l = s.get l
theorem Keep.refl (id : Nat) (s : Store) : Keep id s s := ⟨Nat.le_refl _, fun _ _ _ => rfl⟩
theorem Keep.trans {id : Nat} {s s' s'' : Store} (h : Keep id s s') (k : Keep id s' s'') : Keep id s s'' := ⟨Nat.le_trans h.next k.next, fun l hl hn => (k.get l (Nat.lt_of_lt_of_le hl h.next) hn).trans (h.get l hl hn)⟩
theorem Keep.push (id : Nat) (s : Store) (o : AObj) : Keep id s (s.push o) := ⟨Nat.le_succ _, fun l hl _ => by rw [get_push, if_neg (by omega)]⟩
theorem Keep.set (id : Nat) (s : Store) (o : AObj) : Keep id s (s.set id o) := ⟨Nat.le_refl _, fun l _ hn => by rw [get_set, if_neg hn]⟩
theorem IsSlN.keep {id : Nat} {s s' : Store} {v : AV} {k : IntKind} {xs : List Int} (h : IsSlN s v k xs id) (e : Keep id s s') : IsSlN s' v k xs id := by
  rcases h with h | ⟨l, ro, h1, h2, h4, h3⟩
  · exact .inl h
  · exact .inr ⟨l, ro, h1, Nat.lt_of_lt_of_le h2 e.next, h4, by rw [e.get l h2 h4]; exact h3⟩

/-- A run more. -/
theorem app_run {α : Type} {s : Store} {id t : Nat} {l : List Rn} {r : Rn} (hg : s.get id = .cells (l.map rcells).flatten false) (ht : s.get t = .cells (rcells r) false) (hb : (l.length + 1) * 24 ≤ 140737488355328) (f : AV → Store → Option α) :
    aAppend 3 24 (.sl id 0 l.length 3 (l.length * 3)) (.sl t 0 1 3 3) s f = f (.sl id 0 (l ++ [r]).length 3 ((l ++ [r]).length * 3)) (s.set id (.cells ((l ++ [r]).map rcells).flatten false)) := by
  have h3 : (rcells r).length = 3 := rfl
  have hfl := flat_len l
  simp only [aAppend, aCellsOf, if_true, aRow, ht, h3, aOwn, hg, hfl, Nat.zero_add, Nat.le_refl]
  simp only [show ¬ (1 = 0) by omega, if_false, true_and, show (0 : Nat) < 3 ∧ (0 : Nat) < 24 by omega, and_true, hb, if_true]
  simp [rcells]
  congr 1
  simp; omega

/-- The runs that are told of what was reached. -/
def outR (base now : List Int) : Nat → Nat → List Rn
  | _, 0 => []
  | i, m + 1 => if now.getD i 0 > base.getD i 0 then ((i : Int), base.getD i 0 + 1, now.getD i 0 - base.getD i 0) :: outR base now (i + 1) m else outR base now (i + 1) m
theorem outR_len (base now : List Int) : ∀ (m i : Nat), (outR base now i m).length ≤ m
  | 0, _ => Nat.le_refl _
  | m + 1, i => by
    have := outR_len base now m (i + 1)
    unfold outR
    split
    · simp; omega
    · omega

theorem index_is {α : Type} {s : Store} {v : AV} {k : IntKind} {xs : List Int} {id : Nat} (h : IsSlN s v k xs id) {i : Nat} (hi : i < xs.length) (f : AV → Option α) : (aIndexSl 1 v (.int .i64 i) fun p => aLoad1 p s f) = f (.int k (xs.getD i 0)) := by
  rcases h with ⟨_, h⟩ | ⟨l, ro, rfl, _, _, h⟩
  · subst h; simp at hi
  · rw [index_sl (by omega) (by omega)]
    exact load_i h hi f
theorem index_is2 {s : Store} {v : AV} {k : IntKind} {xs : List Int} {id : Nat} (h : IsSlN s v k xs id) {i : Nat} (hi : i < xs.length) : ∃ p, (∀ {α : Type} (f : AV → Option α), aIndexSl 1 v (.int .i64 i) f = f p) ∧ ∀ {α : Type} (f : AV → Option α), aLoad1 p s f = f (.int k (xs.getD i 0)) := by
  rcases h with ⟨_, h⟩ | ⟨l, ro, rfl, _, _, h⟩
  · subst h; simp at hi
  · exact ⟨.ptr l (0 + i * 1) xs.length, fun f => index_sl (by omega) (by omega), fun f => load_i h hi f⟩

theorem build_run (a b c : Int) {α : Type} (f : List AV → Option α) : aBuild [(0, 1, .int .u8 a), (1, 1, .int .u64 b), (2, 1, .int .u64 c)] [AV.int .u8 0, AV.int .u64 0, AV.int .u64 0] f = f (rcells (a, b, c)) := by
  simp [aBuild, aCells, putAll, rcells]
theorem build_row (r : Rn) {α : Type} (f : List AV → Option α) : aBuild [(0, 3, .agg (rcells r))] [AV.int .u8 0, AV.int .u64 0, AV.int .u64 0] f = f (rcells r) := by
  simp [aBuild, aCells, putAll, rcells]

end Go.Proofs.Ytahiipfjhjeofaa.Sim
namespace Go.Proofs.Ytahiipfjhjeofaa.Sim
set_option linter.unusedSimpArgs false

/-- Numbers behind numbers, in place. -/
theorem app_nums {α : Type} {s : Store} {id bytes : Nat} {k : IntKind} {xs ys : List Int} {y : AV} (hg : s.get id = .cells (xs.map (.int k)) false) (hy : IsSl s y k ys) (hb : (xs.length + ys.length) * bytes ≤ 140737488355328) (hb0 : 0 < bytes) (f : AV → Store → Option α) :
    aAppend 1 bytes (.sl id 0 xs.length 1 xs.length) y s f = f (.sl id 0 (xs ++ ys).length 1 (xs ++ ys).length) (s.set id (.cells ((xs ++ ys).map (.int k)) false)) := by
  rcases hy with ⟨rfl, rfl⟩ | ⟨l, ro, rfl, _, h3⟩
  · simp [aAppend, aCellsOf, aOwn, hg, set_same hg]
  · by_cases h0 : ys.length = 0
    · have : ys = [] := List.length_eq_zero_iff.1 h0
      subst this
      simp [aAppend, aCellsOf, aRow, h3, aOwn, hg, set_same hg]
    · simp [aAppend, aCellsOf, aRow, h3, aOwn, hg, h0, hb0, hb, List.take_of_length_le, show ys ≠ [] from fun q => h0 (by rw [q]; rfl)]

theorem turnsR_U {held : List Int} : ∀ (m i : Nat) (st : List Int × Int × Bool), U st.1 → U (turnsR held i m st).1
  | 0, _, _, h => h
  | m + 1, i, st, h => by rw [turnsR]; exact turnsR_U m (i + 1) _ (h.step st.2.1 st.2.2 i)
theorem fillR_U {held : List Int} {m : Nat} : ∀ (f : Nat) (now : List Int) (left : Int), U now → U (fillR held m f now left)
  | 0, now, _, h => h
  | f + 1, now, left, h => by
    unfold fillR
    split
    · split
      · exact fillR_U f _ _ (turnsR_U _ _ _ h)
      · exact turnsR_U _ _ _ h
    · exact h

theorem Keep.ext {id : Nat} {s s' : Store} (h : Keep id s s') (hid : s.next ≤ id) : Ext s s' := ⟨h.next, fun l hl => h.get l hl (by omega)⟩
theorem IsSl.ne {s : Store} {v : AV} {k : IntKind} {xs : List Int} {id : Nat} (h : IsSl s v k xs) (hid : s.next ≤ id) : IsSlN s v k xs id := by
  rcases h with h | ⟨l, ro, h1, h2, h3⟩
  · exact .inl h
  · exact .inr ⟨l, ro, h1, h2, by omega, h3⟩
theorem IsSlN.ext {s s' : Store} {v : AV} {k : IntKind} {xs : List Int} {id : Nat} (h : IsSlN s v k xs id) (e : Ext s s') : IsSlN s' v k xs id := by
  rcases h with h | ⟨l, ro, h1, h2, h4, h3⟩
  · exact .inl h
  · exact .inr ⟨l, ro, h1, Nat.lt_of_lt_of_le h2 e.next, h4, by rw [e.get l h2]; exact h3⟩

end Go.Proofs.Ytahiipfjhjeofaa.Sim
namespace Go.Proofs.Ytahiipfjhjeofaa.Sim
set_option linter.unusedSimpArgs false

/-- What was reached, beyond the base. -/
def cntR (base now : List Int) (m : Nat) : List Int := (List.range m).map fun i => now.getD i 0 - base.getD i 0
theorem cntR_len (base now : List Int) (m : Nat) : (cntR base now m).length = m := by simp [cntR]
theorem cntR_get (base now : List Int) (m : Nat) {i : Nat} (h : i < m) : (cntR base now m).getD i 0 = now.getD i 0 - base.getD i 0 := by simp [cntR, h]
theorem cntR_set (base now : List Int) (m : Nat) {i : Nat} (hi : i < now.length) (v : Int) : (cntR base now m).set i (v - base.getD i 0) = cntR base (now.set i v) m := by
  apply List.ext_getElem (by simp [cntR])
  intro j h1 h2
  simp only [cntR, List.getElem_set, List.getElem_map, List.getElem_range, List.getD_eq_getElem?_getD, List.getElem?_set]
  by_cases e : i = j
  · subst e; simp [hi]
  · simp [e]

theorem stepR_ge {held base now : List Int} (hln : now.length = base.length) (h : ∀ j, base.getD j 0 ≤ now.getD j 0) (left : Int) (more : Bool) (i : Nat) : ∀ j, base.getD j 0 ≤ (stepR held (now, left, more) i).1.getD j 0 := by
  intro j
  have := h j
  unfold stepR
  split
  · simp only [List.getD_eq_getElem?_getD, List.getElem?_set]
    simp only [List.getD_eq_getElem?_getD] at this
    split
    · rename_i e; subst e
      split
      · simp; omega
      · rename_i h2
        rw [List.getElem?_eq_none (by omega)]
        simp
    · exact this
  · exact this
section
variable {k : Nat} {R0 : AV → AV → AV → AV → AV → AV → Store → Option (AV × Store)} {x0 x1 x8 : AV} {id : Nat} {held base : List Int} {pl : Nat}

end
end Go.Proofs.Ytahiipfjhjeofaa.Sim
namespace Go.Proofs.Ytahiipfjhjeofaa.Sim
set_option linter.unusedSimpArgs false

theorem turnsR_ge {held base : List Int} : ∀ (m i : Nat) (st : List Int × Int × Bool), st.1.length = base.length → (∀ j, base.getD j 0 ≤ st.1.getD j 0) → ∀ j, base.getD j 0 ≤ (turnsR held i m st).1.getD j 0
  | 0, _, _, _, h => h
  | m + 1, i, st, hl, h => by rw [turnsR]; exact turnsR_ge m (i + 1) _ (by rw [stepR_len]; exact hl) (stepR_ge hl h st.2.1 st.2.2 i)
theorem fillR_ge {held base : List Int} {m : Nat} : ∀ (f : Nat) (now : List Int) (left : Int), now.length = base.length → (∀ j, base.getD j 0 ≤ now.getD j 0) → ∀ j, base.getD j 0 ≤ (fillR held m f now left).getD j 0
  | 0, now, _, _, h => h
  | f + 1, now, left, hl, h => by
    unfold fillR
    split
    · split
      · exact fillR_ge f _ _ (by rw [turnsR_len]; exact hl) (turnsR_ge _ _ (now, left, false) hl h)
      · exact turnsR_ge _ _ (now, left, false) hl h
    · exact h

section
variable {x0 x1 x8 : AV} {id : Nat} {held base : List Int} {pl : Nat}

/-- Runs that nobody else has: their row, if there is one, lies behind 'lo'. -/
def OwnRuns (s : Store) (v : AV) (l : List Rn) (lo : Nat) : Prop := (v = .nilsl ∧ l = []) ∨ ∃ id, v = .sl id 0 l.length 3 (l.length * 3) ∧ lo ≤ id ∧ id < s.next ∧ s.get id = .cells (l.map rcells).flatten false
theorem OwnRuns.is {s : Store} {v : AV} {l : List Rn} {lo : Nat} (h : OwnRuns s v l lo) : IsRuns s v l := by
  rcases h with h | ⟨id, h1, _, h2, h3⟩
  · exact .inl h
  · exact .inr ⟨id, false, h1, h2, h3⟩
/-- A run more, in a row of one's own, or a new one. -/
theorem app_own {s : Store} {v : AV} {l : List Rn} {lo : Nat} (h : OwnRuns s v l lo) (hlo : lo ≤ s.next) (r : Rn) (hb : (l.length + 1) * 24 ≤ 140737488355328) :
    ∃ v' s', (∀ f : AV → Store → Option (AV × Store), aAppend 3 24 v (.sl s.next 0 1 3 3) (s.push (.cells (rcells r) false)) f = f v' s') ∧ OwnRuns s' v' (l ++ [r]) lo ∧ ExtLo lo s s' := by
  rcases h with ⟨rfl, rfl⟩ | ⟨id, rfl, h1, h2, h3⟩
  · refine ⟨.sl (s.next + 1) 0 1 3 3, (s.push (.cells (rcells r) false)).push (.cells (rcells r) false), fun f => ?_, .inr ⟨s.next + 1, rfl, by omega, by simp only [next_push]; omega, by grind [get_push, next_push]⟩, ⟨by simp only [next_push]; omega, fun l hl => by grind [get_push, next_push]⟩⟩
    have hr : (rcells r).length = 3 := rfl
    simp [aAppend, aCellsOf, aRow, get_push, hr, next_push, List.take_of_length_le]
  · refine ⟨_, _, fun f => app_run (by grind [get_push]) (by grind [get_push]) hb f, .inr ⟨id, rfl, h1, by simp only [next_set, next_push]; omega, by rw [get_set, if_pos rfl]⟩, ⟨by simp only [next_set, next_push]; omega, fun l hl => by grind [get_push, get_set]⟩⟩

end
theorem len_is {s : Store} {v : AV} {k : IntKind} {xs : List Int} (h : IsSl s v k xs) {α : Type} (f : AV → Option α) : aLen v f = f (.int .i64 xs.length) := by
  rcases h with ⟨rfl, rfl⟩ | ⟨id, ro, rfl, _, _⟩ <;> rfl

theorem cnt_zero (base : List Int) (m : Nat) : (List.replicate m [AV.int .u64 0]).flatten = (cntR base base m).map (.int .u64) := by
  simp [cntR, List.map_const']

end Go.Proofs.Ytahiipfjhjeofaa.Sim
namespace Go.Proofs.Ytahiipfjhjeofaa.Sim
set_option linter.unusedSimpArgs false

/-- Numbers within their bounds. -/
def WfR (r : Rn) : Prop := (0 ≤ r.1 ∧ r.1 < 256) ∧ (0 ≤ r.2.1 ∧ r.2.1 < 18446744073709551616) ∧ (0 ≤ r.2.2 ∧ r.2.2 < 18446744073709551616)
def runOk (r : Rn) : Bool := decide (r.1 < 64 ∧ 1 ≤ r.2.1 ∧ 1 ≤ r.2.2 ∧ r.2.1 ≤ 4611686018427387904 ∧ r.2.2 ≤ 4611686018427387904 - r.2.1 + 1)

theorem ld_0 {α : Type} {s : Store} {l : Nat} {r : Rn} {ro : Bool} (h : s.get l = .cells (rcells r) ro) (f : AV → Option α) : aLoad1 (.ptr l (0 + 0) 3) s f = f (.int .u8 r.1) := load_1 h rfl rfl
theorem ld_1 {α : Type} {s : Store} {l : Nat} {r : Rn} {ro : Bool} (h : s.get l = .cells (rcells r) ro) (f : AV → Option α) : aLoad1 (.ptr l (0 + 1) 3) s f = f (.int .u64 r.2.1) := load_1 h rfl rfl
theorem ld_2 {α : Type} {s : Store} {l : Nat} {r : Rn} {ro : Bool} (h : s.get l = .cells (rcells r) ro) (f : AV → Option α) : aLoad1 (.ptr l (0 + 2) 3) s f = f (.int .u64 r.2.2) := load_1 h rfl rfl
theorem ld_3 {α : Type} {s : Store} {l : Nat} {r : Rn} {ro : Bool} (h : s.get l = .cells (rcells r) ro) (f : AV → Option α) : aLoadN 3 (.ptr l 0 3) s f = f (.agg (rcells r)) := load_n h rfl (Nat.le_refl _)
theorem st_3 {α : Type} {s : Store} {l : Nat} {cs : List AV} (r : Rn) (h : s.get l = .cells cs false) (hc : cs.length = 3) (f : Store → Option α) : aStore 3 (.ptr l 0 3) (.agg (rcells r)) s f = f (s.set l (.cells (rcells r) false)) := by
  match cs, hc with
  | [a, b, c], _ => simp [aStore, aCells, aOwn, h, rcells, putAll]
theorem r_len (r : Rn) : (rcells r).length = 3 := rfl

theorem ident_run {s : Store} {r : Rn} (hr : WfR r) (k : Nat) : rn (k + 1) 45 [.agg (rcells r)] s = some (.bool (runOk r), s.push (.cells (rcells r) false)) := by
  obtain ⟨⟨a1, a2⟩, ⟨b1, b2⟩, c1, c2⟩ := hr
  rw [ident_Run.eq]
  unfold ident_Run.f ident_Run.p0
  have g : (s.push (.cells (rcells r) false)).get s.next = .cells (rcells r) false := by rw [get_push, if_pos rfl]
  simp only [bnd, guard_tt, guard_ff, guard_tf, guard_ft, pick_t, pick_f, if_t, if_f, add_i, sub_i, lss_i, leq_i, gtr_i, geq_i, eql_i, neq_i, min_i, max_i, conv_i, len_sl, len_nil, not_b, cells_agg, new_s, fld_p, nil_p, r_len, ld_0 g]
  have e : runOk r = (decide (r.1 < 64) && (decide (r.2.1 ≥ 1) && (decide (r.2.2 ≥ 1) && (decide (r.2.1 ≤ 4611686018427387904) && decide (r.2.2 ≤ 4611686018427387904 - r.2.1 + 1))))) := by
    unfold runOk; grind
  rw [e]
  by_cases h1 : r.1 < 64
  · simp only [h1, decide_true, bnd, guard_tt, guard_ff, guard_tf, guard_ft, pick_t, pick_f, if_t, if_f, add_i, sub_i, lss_i, leq_i, gtr_i, geq_i, eql_i, neq_i, min_i, max_i, conv_i, len_sl, len_nil, not_b, cells_agg, new_s, fld_p, nil_p, ld_1 g, Bool.true_and]
    by_cases h2 : r.2.1 ≥ 1
    · simp only [h2, decide_true, bnd, guard_tt, guard_ff, guard_tf, guard_ft, pick_t, pick_f, if_t, if_f, add_i, sub_i, lss_i, leq_i, gtr_i, geq_i, eql_i, neq_i, min_i, max_i, conv_i, len_sl, len_nil, not_b, cells_agg, new_s, fld_p, nil_p, ld_2 g, Bool.true_and]
      by_cases h3 : r.2.2 ≥ 1
      · simp only [h3, decide_true, bnd, guard_tt, guard_ff, guard_tf, guard_ft, pick_t, pick_f, if_t, if_f, add_i, sub_i, lss_i, leq_i, gtr_i, geq_i, eql_i, neq_i, min_i, max_i, conv_i, len_sl, len_nil, not_b, cells_agg, new_s, fld_p, nil_p, ld_1 g, Bool.true_and]
        by_cases h4 : r.2.1 ≤ 4611686018427387904
        · simp only [h4, decide_true, bnd, guard_tt, guard_ff, guard_tf, guard_ft, pick_t, pick_f, if_t, if_f, add_i, sub_i, lss_i, leq_i, gtr_i, geq_i, eql_i, neq_i, min_i, max_i, conv_i, len_sl, len_nil, not_b, cells_agg, new_s, fld_p, nil_p, ld_1 g, ld_2 g, Bool.true_and, w_u64 (show 0 ≤ 4611686018427387904 - r.2.1 by omega) (show 4611686018427387904 - r.2.1 < 18446744073709551616 by omega), w_u64 (show 0 ≤ 4611686018427387904 - r.2.1 + 1 by omega) (show 4611686018427387904 - r.2.1 + 1 < 18446744073709551616 by omega)]
        · simp only [h4, decide_false, bnd, guard_tt, guard_ff, guard_tf, guard_ft, pick_t, pick_f, if_t, if_f, add_i, sub_i, lss_i, leq_i, gtr_i, geq_i, eql_i, neq_i, min_i, max_i, conv_i, len_sl, len_nil, not_b, cells_agg, new_s, fld_p, nil_p, Bool.false_and]
      · simp only [h3, decide_false, bnd, guard_tt, guard_ff, guard_tf, guard_ft, pick_t, pick_f, if_t, if_f, add_i, sub_i, lss_i, leq_i, gtr_i, geq_i, eql_i, neq_i, min_i, max_i, conv_i, len_sl, len_nil, not_b, cells_agg, new_s, fld_p, nil_p, Bool.false_and]
    · simp only [h2, decide_false, bnd, guard_tt, guard_ff, guard_tf, guard_ft, pick_t, pick_f, if_t, if_f, add_i, sub_i, lss_i, leq_i, gtr_i, geq_i, eql_i, neq_i, min_i, max_i, conv_i, len_sl, len_nil, not_b, cells_agg, new_s, fld_p, nil_p, Bool.false_and]
  · simp only [h1, decide_false, bnd, guard_tt, guard_ff, guard_tf, guard_ft, pick_t, pick_f, if_t, if_f, add_i, sub_i, lss_i, leq_i, gtr_i, geq_i, eql_i, neq_i, min_i, max_i, conv_i, len_sl, len_nil, not_b, cells_agg, new_s, fld_p, nil_p, Bool.false_and]

/-- The closure of Order: not a run that may be. -/
theorem order_1 {s : Store} {r : Rn} (hr : WfR r) (k : Nat) : ∃ s', rn (k + 2) 47 [.agg (rcells r)] s = some (.bool (!runOk r), s') ∧ Ext s s' := by
  rw [batch_Order_1.eq]
  unfold batch_Order_1.f batch_Order_1.p0
  have g : (s.push (.cells (rcells r) false)).get s.next = .cells (rcells r) false := by rw [get_push, if_pos rfl]
  simp only [bnd, guard_tt, guard_ff, guard_tf, guard_ft, pick_t, pick_f, if_t, if_f, add_i, sub_i, lss_i, leq_i, gtr_i, geq_i, eql_i, neq_i, min_i, max_i, conv_i, len_sl, len_nil, not_b, cells_agg, new_s, fld_p, nil_p, r_len, ld_3 g, ident_run hr]
  exact ⟨_, rfl, (Ext.push _ _).trans (Ext.push _ _)⟩

theorem AtRuns.ext {s s' : Store} {id : Nat} {l : List Rn} (h : AtRuns s id l) (hid : id < s.next) (e : Ext s s') : AtRuns s' id l := by
  obtain ⟨ro, h⟩ := h
  exact ⟨ro, by rw [e.get id hid]; exact h⟩

/-- The first run of which a closure says yes. -/
theorem index_func (k g : Nat) (cap : List AV) (p : Rn → Bool) (P : Store → Prop) (hP : ∀ s s', P s → Ext s s' → P s') (hg : ∀ (s : Store) (r : Rn), WfR r → P s → ∃ s', rn k g ([] ++ [.agg (rcells r)] ++ cap) s = some (.bool (p r), s') ∧ Ext s s') {id : Nat} {l : List Rn} (hw : ∀ r ∈ l, WfR r) (hb : l.length ≤ 4611686018427387904) : ∀ (n i : Nat) (s : Store), P s → AtRuns s id l → id < s.next → i ≤ l.length → l.length - i < n →
    ∃ m s', api_Run_49.l0 k n (.sl id 0 l.length 3 (l.length * 3)) (.func g [] cap) (.int .i64 l.length) (.int .i64 i) s = some (.int .i64 m, s') ∧ Ext s s' ∧ (decide (0 ≤ m) = (l.drop i).any p)
  | 0, i, _, _, _, _, hi, hn => by omega
  | n + 1, i, s, hPs, ha, hid, hi, hn => by
    have hs : api_Run_49.l0 k (n + 1) = fun x0 x1 x7 x8 s => api_Run_49.p4 k (api_Run_49.l0 k n) x0 x1 x7 x8 s := rfl
    rw [hs]
    clear hs
    simp only
    unfold api_Run_49.p4 api_Run_49.p3
    rw [lss_i]
    by_cases h : i < l.length
    · have hz : (i : Int) < (l.length : Int) := by omega
      rw [decide_eq_true hz, if_t]
      unfold api_Run_49.p2 api_Run_49.p1
      rw [index_sl (show (0 : Int) ≤ i by omega) hz, Int.toNat_natCast, load_run ha i h]
      obtain ⟨s1, e1, e2⟩ := hg s l[i] (hw _ (List.getElem_mem h)) hPs
      simp only [aCall, e1, bnd]
      rw [List.drop_eq_getElem_cons h, List.any_cons]
      by_cases hc : p l[i] = true
      · rw [hc, if_t]
        exact ⟨i, s1, rfl, e2, by simp⟩
      · have hc' : p l[i] = false := by simpa using hc
        have hw1 : IntKind.i64.wrap ((i : Int) + 1) = ((i + 1 : Nat) : Int) := by rw [w_i64 (by omega) (by omega)]; omega
        rw [hc', if_f, add_i, hw1]
        obtain ⟨m, s', k1, k2, k3⟩ := index_func k g cap p P hP hg hw hb n (i + 1) s1 (hP _ _ hPs e2) (ha.ext hid e2) (Nat.lt_of_lt_of_le hid e2.next) (by omega) (by omega)
        exact ⟨m, s', k1, e2.trans k2, by rw [k3, Bool.false_or]⟩
    · have hz : ¬ (i : Int) < (l.length : Int) := by omega
      rw [decide_eq_false hz, if_f]
      unfold api_Run_49.p0
      exact ⟨-1, s, rfl, Ext.refl _, by rw [List.drop_eq_nil_of_le (by omega)]; rfl⟩

theorem contains_func (k g : Nat) (cap : List AV) (p : Rn → Bool) (P : Store → Prop) (hP : ∀ s s', P s → Ext s s' → P s') (hg : ∀ (s : Store) (r : Rn), WfR r → P s → ∃ s', rn k g ([] ++ [.agg (rcells r)] ++ cap) s = some (.bool (p r), s') ∧ Ext s s') {s : Store} {v : AV} {l : List Rn} (hPs : P s) (hl : IsRuns s v l) (hw : ∀ r ∈ l, WfR r) (hb : l.length < k) (hk : k ≤ 4611686018427387904) :
    ∃ s', rn (k + 2) 46 [v, .func g [] cap] s = some (.bool (l.any p), s') ∧ Ext s s' := by
  rw [api_Run_46.eq]
  unfold api_Run_46.f api_Run_46.p0
  rw [api_Run_49.eq]
  unfold api_Run_49.f api_Run_49.p6 api_Run_49.p5
  rw [len_runs hl]
  rcases hl with ⟨rfl, rfl⟩ | ⟨id, ro, rfl, h2, h3⟩
  · obtain ⟨k, rfl⟩ : ∃ q, k = q + 1 := ⟨k - 1, by simp at hb; omega⟩
    have hs : api_Run_49.l0 (k + 1) (k + 1) = fun x0 x1 x7 x8 s => api_Run_49.p4 (k + 1) (api_Run_49.l0 (k + 1) k) x0 x1 x7 x8 s := rfl
    rw [hs]
    simp only
    unfold api_Run_49.p4 api_Run_49.p3 api_Run_49.p0
    exact ⟨s, rfl, Ext.refl _⟩
  · obtain ⟨m, s', k1, k2, k3⟩ := index_func k g cap p P hP hg hw (by omega) k 0 s hPs ⟨ro, h3⟩ h2 (by omega) (by omega)
    rw [Int.natCast_zero] at k1
    rw [k1]
    simp only [bnd, guard_tt, guard_ff, guard_tf, guard_ft, pick_t, pick_f, if_t, if_f, add_i, sub_i, lss_i, leq_i, gtr_i, geq_i, eql_i, neq_i, min_i, max_i, conv_i, len_sl, len_nil, not_b, cells_agg, new_s, fld_p, nil_p]
    rw [List.drop_zero] at k3
    exact ⟨s', by rw [← k3], k2⟩

/-- How many ids runs have. -/
def countR : Int → List Rn → Int
  | a, [] => a
  | a, r :: l => countR (if runOk r = true then min (a + r.2.2) 4611686018427387904 else a) l
theorem runOk_le {r : Rn} (h : runOk r = true) : r.2.2 ≤ 4611686018427387904 ∧ 1 ≤ r.2.2 := by
  have := of_decide_eq_true h; omega
theorem countR_le : ∀ (l : List Rn) (a : Int), 0 ≤ a → a ≤ 4611686018427387904 → 0 ≤ countR a l ∧ countR a l ≤ 4611686018427387904
  | [], a, h, h2 => ⟨h, h2⟩
  | r :: l, a, h, h2 => by
    unfold countR
    split
    · rename_i hr
      have := runOk_le hr
      exact countR_le l _ (by omega) (by omega)
    · exact countR_le l a h h2

theorem count_loop (k : Nat) {id : Nat} {l : List Rn} (hw : ∀ r ∈ l, WfR r) (hb : l.length ≤ 4611686018427387904) : ∀ (n i : Nat) (s : Store) (a : Int), 0 ≤ a → a ≤ 4611686018427387904 → AtRuns s id l → id < s.next → i ≤ l.length → l.length - i < n →
    ∃ s', ident_Count.l0 (k + 1) n (.int .u64 a) (.sl id 0 l.length 3 (l.length * 3)) (.int .i64 l.length) (.int .i64 i) s = some (.int .u64 (countR a (l.drop i)), s') ∧ Ext s s'
  | 0, i, _, _, _, _, _, _, hi, hn => by omega
  | n + 1, i, s, a, ha0, ha1, ha, hid, hi, hn => by
    have hs : ident_Count.l0 (k + 1) (n + 1) = fun x3 x6 x7 x8 s => ident_Count.p4 (k + 1) (ident_Count.l0 (k + 1) n) x3 x6 x7 x8 s := rfl
    rw [hs]
    clear hs
    simp only
    unfold ident_Count.p4 ident_Count.p3
    rw [lss_i]
    by_cases h : i < l.length
    · have hz : (i : Int) < (l.length : Int) := by omega
      rw [decide_eq_true hz, if_t]
      unfold ident_Count.p2 ident_Count.p1
      have hwi := hw _ (List.getElem_mem h)
      have hw1 : IntKind.i64.wrap ((i : Int) + 1) = ((i + 1 : Nat) : Int) := by rw [w_i64 (by omega) (by omega)]; omega
      rw [index_sl (show (0 : Int) ≤ i by omega) hz, Int.toNat_natCast, load_run ha i h, new_s]
      rw [show ([AV.int .u8 0, AV.int .u64 0, AV.int .u64 0] : List AV).length = 3 from rfl, st_3 l[i] (cs := [AV.int .u8 0, AV.int .u64 0, AV.int .u64 0]) (by rw [get_push, if_pos rfl]) rfl]
      have e1 : Ext s ((s.push (.cells [AV.int .u8 0, AV.int .u64 0, AV.int .u64 0] false)).set s.next (.cells (rcells l[i]) false)) := ⟨by simp only [next_set, next_push]; omega, fun l hl => by grind [get_set, get_push]⟩
      have g1 : ((s.push (.cells [AV.int .u8 0, AV.int .u64 0, AV.int .u64 0] false)).set s.next (.cells (rcells l[i]) false)).get s.next = .cells (rcells l[i]) false := by rw [get_set, if_pos rfl]
      have n1 : s.next < ((s.push (.cells [AV.int .u8 0, AV.int .u64 0, AV.int .u64 0] false)).set s.next (.cells (rcells l[i]) false)).next := Nat.lt_succ_self _
      generalize ((s.push (.cells [AV.int .u8 0, AV.int .u64 0, AV.int .u64 0] false)).set s.next (.cells (rcells l[i]) false)) = s1 at *
      rw [ld_3 g1, ident_run hwi, bnd]
      have e2 := Ext.push s1 (.cells (rcells l[i]) false)
      have g2 := (e2.get s.next n1).trans g1
      generalize (s1.push (.cells (rcells l[i]) false)) = s2 at *
      have e12 := e1.trans e2
      rw [List.drop_eq_getElem_cons h, countR]
      by_cases hr : runOk l[i] = true
      · have hle := runOk_le hr
        rw [hr, if_t, fld_p, ld_2 g2, add_i, w_u64 (by omega) (by omega), min_i, add_i, hw1, if_pos rfl]
        obtain ⟨s', k1, k2⟩ := count_loop k hw hb n (i + 1) s2 (min (a + l[i].2.2) 4611686018427387904) (by omega) (by omega) (ha.ext hid e12) (Nat.lt_of_lt_of_le hid e12.next) (by omega) (by omega)
        exact ⟨s', k1, e12.trans k2⟩
      · have hr' : runOk l[i] = false := by simpa using hr
        rw [hr', if_f, add_i, hw1, if_neg (by simp)]
        obtain ⟨s', k1, k2⟩ := count_loop k hw hb n (i + 1) s2 a ha0 ha1 (ha.ext hid e12) (Nat.lt_of_lt_of_le hid e12.next) (by omega) (by omega)
        exact ⟨s', k1, e12.trans k2⟩
    · have hz : ¬ (i : Int) < (l.length : Int) := by omega
      rw [decide_eq_false hz, if_f]
      unfold ident_Count.p0
      exact ⟨s, by rw [List.drop_eq_nil_of_le (by omega)]; rfl, Ext.refl _⟩

theorem ident_count {s : Store} {v : AV} {l : List Rn} (hl : IsRuns s v l) (hw : ∀ r ∈ l, WfR r) (k : Nat) (hb : l.length ≤ k) (hk : k ≤ 4611686018427387904) :
    ∃ s', rn (k + 2) 44 [v] s = some (.int .u64 (countR 0 l), s') ∧ Ext s s' := by
  rw [ident_Count.eq]
  unfold ident_Count.f ident_Count.p7 ident_Count.p6 ident_Count.p5
  rw [len_runs hl]
  rcases hl with ⟨rfl, rfl⟩ | ⟨id, ro, rfl, h2, h3⟩
  · have hs : ident_Count.l0 (k + 1) (k + 1) = fun x3 x6 x7 x8 s => ident_Count.p4 (k + 1) (ident_Count.l0 (k + 1) k) x3 x6 x7 x8 s := rfl
    rw [hs]
    simp only
    unfold ident_Count.p4 ident_Count.p3 ident_Count.p0
    exact ⟨s, rfl, Ext.refl _⟩
  · obtain ⟨s', k1, k2⟩ := count_loop k hw (by omega) (k + 1) 0 s 0 (by omega) (by omega) ⟨ro, h3⟩ h2 (by omega) (by omega)
    rw [Int.natCast_zero] at k1
    exact ⟨s', k1, k2⟩
end Go.Proofs.Ytahiipfjhjeofaa.Sim
namespace Go.Proofs.Ytahiipfjhjeofaa.Sim
set_option linter.unusedSimpArgs false

/-- Ids. -/
abbrev Idn := Int × Int
def icells (x : Idn) : List AV := [.int .u8 x.1, .int .u64 x.2]
theorem ic_len (x : Idn) : (icells x).length = 2 := rfl
/-- The ids of one pass. -/
def passR (p : Nat) : List Rn → List Idn
  | [] => []
  | r :: l => if (p : Int) < r.2.2 then (r.1, r.2.1 + p) :: passR p l else passR p l
/-- The ids of the passes ahead of p. -/
def ordPre : Nat → List Rn → List Idn
  | 0, _ => []
  | p + 1, l => ordPre p l ++ passR p l
def sumMin (p : Nat) : List Rn → Nat
  | [] => 0
  | r :: l => min r.2.2.toNat p + sumMin p l
theorem sumMin_succ (p : Nat) : ∀ (l : List Rn), sumMin (p + 1) l = sumMin p l + (passR p l).length
  | [] => rfl
  | r :: l => by
    have := sumMin_succ p l
    unfold sumMin passR
    split
    · simp only [List.length_cons]; omega
    · omega
theorem ordPre_len : ∀ (p : Nat) (l : List Rn), (ordPre p l).length = sumMin p l
  | 0, l => by
    have : ∀ l : List Rn, sumMin 0 l = 0 := fun l => by induction l with
      | nil => rfl
      | cons r l ih => simp [sumMin, ih]
    simp [ordPre, this]
  | p + 1, l => by rw [ordPre, List.length_append, ordPre_len p l, sumMin_succ]
def sumAll : List Rn → Nat
  | [] => 0
  | r :: l => r.2.2.toNat + sumAll l
theorem sumMin_le (p : Nat) : ∀ l, sumMin p l ≤ sumAll l
  | [] => Nat.le_refl _
  | r :: l => by have := sumMin_le p l; unfold sumMin sumAll; omega
theorem sumAll_mem : ∀ {l : List Rn} {r : Rn}, r ∈ l → r.2.2.toNat ≤ sumAll l
  | a :: l, r, h => by
    rcases List.mem_cons.1 h with rfl | h
    · unfold sumAll; omega
    · have := sumAll_mem h; unfold sumAll; omega
theorem sumMin_all (p : Nat) : ∀ {l : List Rn}, sumMin p l = sumAll l → ∀ r ∈ l, r.2.2.toNat ≤ p
  | a :: l, h, r, hr => by
    have := sumMin_le p l
    unfold sumMin sumAll at h
    rcases List.mem_cons.1 hr with rfl | hr
    · omega
    · exact sumMin_all p (by omega) r hr
theorem passR_nil (p : Nat) : ∀ {l : List Rn}, (∀ r ∈ l, r.2.2 ≤ p) → passR p l = []
  | [], _ => rfl
  | r :: l, h => by
    unfold passR
    rw [if_neg (by have := h r List.mem_cons_self; omega)]
    exact passR_nil p fun x hx => h x (List.mem_cons_of_mem _ hx)
theorem ordPre_stay {l : List Rn} (p : Nat) (h : ∀ r ∈ l, r.2.2 ≤ p) : ∀ q, ordPre (p + q) l = ordPre p l
  | 0 => rfl
  | q + 1 => by
    rw [← Nat.add_assoc, ordPre, ordPre_stay p h q, passR_nil (p + q) (fun r hr => by have := h r hr; omega), List.append_nil]
theorem countR_sum : ∀ (l : List Rn) (a : Int), (∀ r ∈ l, runOk r = true) → 0 ≤ a → countR a l < 4611686018427387904 → countR a l = a + sumAll l
  | [], a, _, _, _ => by simp [countR, sumAll]
  | r :: l, a, h, h0, hc => by
    have hr := h r List.mem_cons_self
    have hle := runOk_le hr
    unfold countR at hc ⊢
    rw [if_pos hr] at hc ⊢
    have hmono : ∀ (l : List Rn) (a : Int), a ≤ 4611686018427387904 → a ≤ countR a l := by
      intro l
      induction l with
      | nil => intro a _; exact Int.le_refl _
      | cons r l ih =>
        intro a ha
        unfold countR
        split
        · rename_i hr; have := runOk_le hr; have := ih (min (a + r.2.2) 4611686018427387904) (by omega); omega
        · exact ih a ha
    have := hmono l (min (a + r.2.2) 4611686018427387904) (by omega)
    rw [countR_sum l _ (fun x hx => h x (List.mem_cons_of_mem _ hx)) (by omega) hc, sumAll]
    omega

theorem sumMin_ge {l : List Rn} {N : Nat} (h : sumAll l ≤ N) : sumMin N l = sumAll l := by
  have : ∀ l : List Rn, (∀ r ∈ l, r.2.2.toNat ≤ N) → sumMin N l = sumAll l := by
    intro l
    induction l with
    | nil => intro _; rfl
    | cons r l ih =>
      intro h
      have h1 := h r List.mem_cons_self
      rw [sumMin, sumAll, ih fun x hx => h x (List.mem_cons_of_mem _ hx)]
      omega
  exact this l fun r hr => Nat.le_trans (sumAll_mem hr) h

theorem build_id (a b : Int) {α : Type} (f : List AV → Option α) : aBuild [(0, 1, .int .u8 a), (1, 1, .int .u64 b)] [AV.int .u8 0, AV.int .u64 0] f = f (icells (a, b)) := by
  simp [aBuild, aCells, putAll, icells]
theorem build_idrow (r : Idn) {α : Type} (f : List AV → Option α) : aBuild [(0, 2, .agg (icells r))] [AV.int .u8 0, AV.int .u64 0] f = f (icells r) := by
  simp [aBuild, aCells, putAll, icells]

/-- A slice of runs: what an element is. -/
theorem elem_run {s : Store} {v : AV} {l : List Rn} (h : IsRuns s v l) {i : Nat} (hi : i < l.length) : ∃ p, (∀ {α : Type} (f : AV → Option α), aIndexSl 3 v (.int .i64 (i : Int)) f = f p) ∧ ∀ {α : Type} (f : AV → Option α), aLoadN 3 p s f = f (.agg (rcells l[i])) := by
  obtain ⟨p, h1, h2⟩ := elemL (c := rcells) (es := 3) r_len h hi
  exact ⟨p, fun f => h1 _ f, fun f => h2 f⟩

/-- A copy of a thing in a row of its own. -/
theorem copy_run {s : Store} (r : Rn) : Ext s ((s.push (.cells [AV.int .u8 0, AV.int .u64 0, AV.int .u64 0] false)).set s.next (.cells (rcells r) false)) ∧ s.next < ((s.push (.cells [AV.int .u8 0, AV.int .u64 0, AV.int .u64 0] false)).set s.next (.cells (rcells r) false)).next ∧ ((s.push (.cells [AV.int .u8 0, AV.int .u64 0, AV.int .u64 0] false)).set s.next (.cells (rcells r) false)).get s.next = .cells (rcells r) false ∧
    ∀ {α : Type} (f : Store → Option α), aStore 3 (.ptr s.next 0 3) (.agg (rcells r)) (s.push (.cells [AV.int .u8 0, AV.int .u64 0, AV.int .u64 0] false)) f = f ((s.push (.cells [AV.int .u8 0, AV.int .u64 0, AV.int .u64 0] false)).set s.next (.cells (rcells r) false)) :=
  ⟨⟨by simp only [next_set, next_push]; omega, fun l hl => by grind [get_set, get_push]⟩, Nat.lt_succ_self _, by rw [get_set, if_pos rfl], fun f => st_3 r (by rw [get_push, if_pos rfl]) rfl f⟩

theorem ExtLo.isRuns {lo : Nat} {s s' : Store} (e : ExtLo lo s s') {v : AV} {l : List Rn} (h : IsRuns s v l) (hv : ∀ a b c d f, v = .sl a b c d f → a < lo) : IsRuns s' v l := by
  rcases h with h | ⟨id, ro, h1, h2, h3⟩
  · exact .inl h
  · exact .inr ⟨id, ro, h1, Nat.lt_of_lt_of_le h2 e.next, by rw [e.get id (hv _ _ _ _ _ h1)]; exact h3⟩
theorem IsRuns.lt {s : Store} {v : AV} {l : List Rn} (h : IsRuns s v l) : ∀ a b c d f, v = .sl a b c d f → a < s.next := by
  rcases h with ⟨h, _⟩ | ⟨id, ro, h1, h2, h3⟩
  · intro a b c d f e; rw [h] at e; cases e
  · intro a b c d f e; rw [h1] at e; cases e; exact h2

section
variable {x0 : AV} {l : List Rn} {lo : Nat}

/-- One pass. -/
theorem ord_pass (k : Nat) {R0 : AV → AV → AV → AV → Store → Option (AV × Store)} {x4 : AV} {p : Nat} (hp : p ≤ 5000) (hw : ∀ r ∈ l, WfR r) (hok : ∀ r ∈ l, runOk r = true) (hlo : ∀ a b c d f, x0 = .sl a b c d f → a < lo) (hl : l.length ≤ 100000) : ∀ (n i : Nat) (s : Store) (out : List Idn) (v : AV), IsRuns s x0 l → lo ≤ s.next → OwnL icells 2 s v out lo → out.length + (l.length - i) ≤ 1000000000 → i ≤ l.length → l.length - i < n →
    ∃ v' s', batch_Order.l0 k R0 n x0 x4 v (.int .u64 p) x0 (.int .i64 l.length) (.int .i64 i) s = R0 x0 x4 v' (.int .u64 ((p + 1 : Nat) : Int)) s' ∧ OwnL icells 2 s' v' (out ++ passR p (l.drop i)) lo ∧ ExtLo lo s s'
  | 0, i, _, _, _, _, _, _, _, hi, hn => by omega
  | n + 1, i, s, out, v, h0, hs0, ho, hb, hi, hn => by
    have hs : batch_Order.l0 k R0 (n + 1) = fun x0 x4 x5 x6 x27 x28 x29 s => batch_Order.p5 k R0 (batch_Order.l0 k R0 n) x0 x4 x5 x6 x27 x28 x29 s := rfl
    rw [hs]
    clear hs
    simp only
    unfold batch_Order.p5 batch_Order.p4
    rw [lss_i]
    by_cases h : i < l.length
    · have hz : (i : Int) < (l.length : Int) := by omega
      rw [decide_eq_true hz, if_t]
      unfold batch_Order.p3 batch_Order.p2
      have hw1 : IntKind.i64.wrap ((i : Int) + 1) = ((i + 1 : Nat) : Int) := by rw [w_i64 (by omega) (by omega)]; omega
      obtain ⟨q, q1, q2⟩ := elem_run h0 h
      obtain ⟨e1, n1, g1, st⟩ := copy_run (s := s) l[i]
      rw [q1, q2, new_s, show ([AV.int .u8 0, AV.int .u64 0, AV.int .u64 0] : List AV).length = 3 from rfl, st]
      generalize ((s.push (.cells [AV.int .u8 0, AV.int .u64 0, AV.int .u64 0] false)).set s.next (.cells (rcells l[i]) false)) = s1 at *
      have hrk := of_decide_eq_true (hok _ (List.getElem_mem h))
      have hwi := hw _ (List.getElem_mem h)
      simp only [fld_p, ld_2 g1, lss_i]
      rw [List.drop_eq_getElem_cons h, passR]
      by_cases hc : (p : Int) < l[i].2.2
      · rw [decide_eq_true hc, if_t, if_pos hc]
        have hsum : l[i].2.1 + (p : Int) < 18446744073709551616 := by omega
        simp only [ld_0 g1, ld_1 g1, add_i, w_u64 (show 0 ≤ l[i].2.1 + (p : Int) by omega) hsum, build_id, build_idrow, hw1]
        obtain ⟨v1, s2, f1, f2, f3⟩ := app_ownL (bytes := 16) ic_len (by omega) (by omega) (ho.ext e1) (Nat.le_trans hs0 e1.next) (l[i].1, l[i].2.1 + (p : Int)) (by omega)
        rw [f1]
        have e2 := (e1.lo hs0).trans f3
        obtain ⟨v', s', k1, k2, k3⟩ := ord_pass k (R0 := R0) (x4 := x4) hp hw hok hlo hl n (i + 1) s2 (out ++ [(l[i].1, l[i].2.1 + (p : Int))]) v1 (e2.isRuns h0 hlo) (Nat.le_trans hs0 e2.next) f2 (by simp; omega) (by omega) (by omega)
        exact ⟨v', s', k1, by rw [List.append_cons]; exact k2, e2.trans k3⟩
      · rw [decide_eq_false hc, if_f, if_neg hc, add_i, hw1]
        have e2 := e1.lo hs0
        obtain ⟨v', s', k1, k2, k3⟩ := ord_pass k (R0 := R0) (x4 := x4) hp hw hok hlo hl n (i + 1) s1 out v (e2.isRuns h0 hlo) (Nat.le_trans hs0 e2.next) (ho.ext e1) (by omega) (by omega) (by omega)
        exact ⟨v', s', k1, k2, e2.trans k3⟩
    · have hz : ¬ (i : Int) < (l.length : Int) := by omega
      rw [decide_eq_false hz, if_f]
      unfold batch_Order.p1
      rw [add_i, w_u64 (by omega) (by omega), List.drop_eq_nil_of_le (by omega)]
      exact ⟨v, s, rfl, by simpa [passR] using ho, ExtLo.refl _ _⟩

/-- All passes. -/
theorem ord_passes (k : Nat) (hk : l.length < k) (hw : ∀ r ∈ l, WfR r) (hok : ∀ r ∈ l, runOk r = true) (hlo : ∀ a b c d f, x0 = .sl a b c d f → a < lo) (hl : l.length ≤ 100000) (hsum : sumAll l ≤ 4096) : ∀ (n p : Nat) (s : Store) (v : AV), IsRuns s x0 l → lo ≤ s.next → OwnL icells 2 s v (ordPre p l) lo → p ≤ 4096 → 4096 - p + 1 < n →
    ∃ v' s', batch_Order.l1 k n x0 (.int .u64 (sumAll l)) v (.int .u64 p) s = some (v', s') ∧ OwnL icells 2 s' v' (ordPre 4096 l) lo ∧ ExtLo lo s s'
  | 0, p, _, _, _, _, _, hp, hn => by omega
  | n + 1, p, s, v, h0, hs0, ho, hp, hn => by
    have hs : batch_Order.l1 k (n + 1) = fun x0 x4 x5 x6 s => batch_Order.p7 k (batch_Order.l1 k n) x0 x4 x5 x6 s := rfl
    rw [hs]
    clear hs
    simp only
    unfold batch_Order.p7
    have hlen := ordPre_len p l
    have hle := sumMin_le p l
    rw [lenL ho.is, conv_i, w_u64 (by omega) (by omega), lss_i]
    by_cases hc : ((ordPre p l).length : Int) < (sumAll l : Int)
    · rw [decide_eq_true hc, if_t]
      unfold batch_Order.p6
      rw [len_runs h0]
      have hp2 : p < 4096 := by
        by_cases e : p = 4096
        · have : sumMin p l = sumAll l := sumMin_ge (by omega)
          omega
        · omega
      obtain ⟨v1, s1, k1, k2, k3⟩ := ord_pass k (R0 := batch_Order.l1 k n) (x4 := .int .u64 (sumAll l)) (p := p) (by omega) hw hok hlo hl k 0 s (ordPre p l) v h0 hs0 ho (by omega) (by omega) (by omega)
      rw [Int.natCast_zero] at k1
      rw [k1]
      rw [List.drop_zero] at k2
      obtain ⟨v', s', j1, j2, j3⟩ := ord_passes k hk hw hok hlo hl hsum n (p + 1) s1 v1 (k3.isRuns h0 hlo) (Nat.le_trans hs0 k3.next) k2 (by omega) (by omega)
      exact ⟨v', s', j1, j2, k3.trans j3⟩
    · rw [decide_eq_false hc, if_f]
      unfold batch_Order.p0
      have hall := sumMin_all p (l := l) (by omega)
      have := ordPre_stay p (l := l) (fun r hr => by have := hall r hr; omega) (4096 - p)
      rw [show p + (4096 - p) = 4096 by omega] at this
      exact ⟨v, s, rfl, by rw [this]; exact ho, ExtLo.refl _ _⟩
end

/-- The order of runs. -/
def orderR (l : List Rn) : List Idn := if l.any (fun r => !runOk r) = true ∨ 4096 < countR 0 l then [] else ordPre 4096 l

theorem bat_order_own {s : Store} {v : AV} {l : List Rn} (hl : IsRuns s v l) (hw : ∀ r ∈ l, WfR r) (k : Nat) (hk : 5000 ≤ k) (hk2 : k ≤ 100000000) (hb : l.length ≤ 4000) :
    ∃ v' s', rn (k + 5) 36 [v] s = some (v', s') ∧ OwnL icells 2 s' v' (orderR l) s.next ∧ Ext s s' := by
  rw [batch_Order.eq]
  unfold batch_Order.f batch_Order.p13 batch_Order.p12
  obtain ⟨s1, k1, e1⟩ := contains_func (k + 2) 47 [] (fun r => !runOk r) (fun _ => True) (fun _ _ _ _ => trivial) (fun s r hr _ => by
    obtain ⟨s', q1, q2⟩ := order_1 (s := s) hr k
    exact ⟨s', by simpa using q1, q2⟩) (s := s) trivial hl hw (by omega) (by omega)
  rw [k1, bnd, not_b]
  unfold batch_Order.p11
  obtain ⟨s2, k2, e2⟩ := ident_count (hl.ext e1) hw (k + 2) (by omega) (by omega)
  have e12 := e1.trans e2
  simp only at k2 ⊢
  rw [k2, bnd]
  unfold batch_Order.p10
  have hge := countR_le l 0 (by omega) (by omega)
  by_cases h1 : l.any (fun r => !runOk r) = true
  · simp only [h1, Bool.not_true, Bool.not_false, bnd, guard_tt, guard_ff, guard_tf, guard_ft, pick_t, pick_f, if_t, if_f, add_i, sub_i, lss_i, leq_i, gtr_i, geq_i, eql_i, neq_i, min_i, max_i, conv_i, len_sl, len_nil, not_b, cells_agg, new_s, fld_p, nil_p]
    exact ⟨_, s2, rfl, by unfold orderR; rw [if_pos (.inl h1)]; exact .inl ⟨rfl, rfl⟩, e12⟩
  · have h1' : l.any (fun r => !runOk r) = false := by simpa using h1
    have hok : ∀ r ∈ l, runOk r = true := by
      intro r hr
      have := List.any_eq_false.1 h1' r hr
      simpa using this
    simp only [h1', Bool.not_true, Bool.not_false, bnd, guard_tt, guard_ff, guard_tf, guard_ft, pick_t, pick_f, if_t, if_f, add_i, sub_i, lss_i, leq_i, gtr_i, geq_i, eql_i, neq_i, min_i, max_i, conv_i, len_sl, len_nil, not_b, cells_agg, new_s, fld_p, nil_p]
    by_cases h2 : countR 0 l > 4096
    · simp only [decide_eq_true h2, bnd, guard_tt, guard_ff, guard_tf, guard_ft, pick_t, pick_f, if_t, if_f, add_i, sub_i, lss_i, leq_i, gtr_i, geq_i, eql_i, neq_i, min_i, max_i, conv_i, len_sl, len_nil, not_b, cells_agg, new_s, fld_p, nil_p]
      exact ⟨_, s2, rfl, by unfold orderR; rw [if_pos (.inr h2)]; exact .inl ⟨rfl, rfl⟩, e12⟩
    · simp only [decide_eq_false h2, bnd, guard_tt, guard_ff, guard_tf, guard_ft, pick_t, pick_f, if_t, if_f, add_i, sub_i, lss_i, leq_i, gtr_i, geq_i, eql_i, neq_i, min_i, max_i, conv_i, len_sl, len_nil, not_b, cells_agg, new_s, fld_p, nil_p]
      have hsum := countR_sum l 0 hok (by omega) (by omega)
      unfold batch_Order.p9 batch_Order.p8
      have hl2 := hl.ext e12
      obtain ⟨v', s', j1, j2, j3⟩ := ord_passes (x0 := v) (lo := s2.next) (k + 4) (by omega) hw hok hl2.lt (by omega) (by omega) (k + 4) 0 s2 .nilsl hl2 (Nat.le_refl _) (.inl ⟨rfl, rfl⟩) (by omega) (by omega)
      rw [Int.natCast_zero] at j1
      rw [hsum, Int.zero_add, j1]
      exact ⟨v', s', rfl, by unfold orderR; rw [if_neg (by simp [h1', h2])]; exact j2.mono e12.next, e12.trans (j3.ext (Nat.le_refl _))⟩
theorem bat_order {s : Store} {v : AV} {l : List Rn} (hl : IsRuns s v l) (hw : ∀ r ∈ l, WfR r) (k : Nat) (hk : 5000 ≤ k) (hk2 : k ≤ 100000000) (hb : l.length ≤ 4000) :
    ∃ v' s', rn (k + 5) 36 [v] s = some (v', s') ∧ IsL icells 2 s' v' (orderR l) ∧ Ext s s' := by
  obtain ⟨v', s', h1, h2, h3⟩ := bat_order_own hl hw k hk hk2 hb
  exact ⟨v', s', h1, h2.is, h3⟩
end Go.Proofs.Ytahiipfjhjeofaa.Sim
namespace Go.Proofs.Ytahiipfjhjeofaa.Sim
set_option linter.unusedSimpArgs false

theorem outR_add (base now : List Int) : ∀ (a i b : Nat), outR base now i (a + b) = outR base now i a ++ outR base now (i + a) b
  | 0, i, b => by simp [outR]
  | a + 1, i, b => by
    rw [show a + 1 + b = (a + b) + 1 by omega, outR, outR, outR_add base now a (i + 1) b, show i + 1 + a = i + (a + 1) by omega]
    split <;> simp
theorem outR_same (base now : List Int) : ∀ (m i : Nat), (∀ j, i ≤ j → now.getD j 0 = base.getD j 0) → outR base now i m = []
  | 0, _, _ => rfl
  | m + 1, i, h => by
    rw [outR, if_neg (by have := h i (Nat.le_refl _); omega)]
    exact outR_same base now m (i + 1) fun j hj => h j (by omega)
theorem stepR_far (held : List Int) (st : List Int × Int × Bool) {i j : Nat} (h : i ≠ j) : (stepR held st i).1.getD j 0 = st.1.getD j 0 := by
  unfold stepR
  split
  · simp only [List.getD_eq_getElem?_getD, List.getElem?_set, if_neg h]
  · rfl
theorem turnsR_far (held : List Int) : ∀ (m i : Nat) (st : List Int × Int × Bool) {j : Nat}, i + m ≤ j → (turnsR held i m st).1.getD j 0 = st.1.getD j 0
  | 0, _, _, _, _ => rfl
  | m + 1, i, st, j, h => by rw [turnsR, turnsR_far held m (i + 1) _ (by omega), stepR_far _ _ (by omega)]
theorem fillR_far (held : List Int) (m : Nat) : ∀ (f : Nat) (now : List Int) (left : Int) {j : Nat}, m ≤ j → (fillR held m f now left).getD j 0 = now.getD j 0
  | 0, _, _, _, _ => rfl
  | f + 1, now, left, j, h => by
    unfold fillR
    split
    · split
      · rw [fillR_far held m f _ _ h, turnsR_far _ _ _ _ (by omega)]
      · rw [turnsR_far _ _ _ _ (by omega)]
    · rfl
theorem next_same (base held : List Int) (left : Int) : outR base (fillR held (min base.length 64) 4096 base left) 0 base.length = outR base (fillR held (min base.length 64) 4096 base left) 0 (min base.length 64) := by
  by_cases h : base.length ≤ 64
  · rw [Nat.min_eq_left h]
  · have e : base.length = min base.length 64 + (base.length - min base.length 64) := by omega
    generalize hm : min base.length 64 = m at *
    rw [e, outR_add, outR_same base _ _ (0 + m) fun j hj => fillR_far _ _ _ _ _ (by omega), List.append_nil]

theorem eq_ids (a b : Idn) {α : Type} (f : Bool → Option α) : aEq (.struct [.int, .int]) (.agg (icells a)) (.agg (icells b)) f = f (decide (a = b)) := by
  obtain ⟨a1, a2⟩ := a
  obtain ⟨b1, b2⟩ := b
  simp only [aEq, icells, eqCells, if_true, Option.map_some]
  congr 1
  by_cases h1 : a1 = b1 <;> by_cases h2 : a2 = b2 <;> simp [h1, h2]

/-- Slices of numbers that come as arguments. -/
theorem put_u64 (o : Option (List Int)) (s : Store) (hw : (shSlice (shInt .u64)).wf o) : ∃ v xs, ((shSlice (shInt .u64)).put o s).1 = [v] ∧ IsSl ((shSlice (shInt .u64)).put o s).2 v .u64 xs ∧ U xs ∧ xs.length ≤ maxLen ∧ Ext s ((shSlice (shInt .u64)).put o s).2 := by
  cases o with
  | none => exact ⟨.nilsl, [], rfl, .inl ⟨rfl, rfl⟩, fun x hx => by simp at hx, by simp, Ext.refl _⟩
  | some l =>
    have hp : ∀ l : List Int, (shInt .u64).putL l s = (l.map (.int .u64), s) := fun l => by
      induction l with
      | nil => rfl
      | cons x l ih => simp only [Sh.putL, shInt, List.map_cons]; simp only [shInt] at ih; rw [ih]; rfl
    obtain ⟨h1, h2⟩ := hw l rfl
    have hput : (shSlice (shInt .u64)).put (some l) s = ([.sl s.next 0 l.length 1 l.length], s.push (.cells (l.map (.int .u64)) true)) := by
      show ([AV.sl ((shInt .u64).putL l s).2.next 0 l.length 1 (l.length * 1)], ((shInt .u64).putL l s).2.push (.cells ((shInt .u64).putL l s).1 true)) = _
      rw [hp, Nat.mul_one]
    rw [hput]
    refine ⟨.sl s.next 0 l.length 1 l.length, l, rfl, .inr ⟨s.next, true, rfl, Nat.lt_succ_self _, by rw [get_push, if_pos rfl]⟩, fun x hx => ?_, h1, Ext.push _ _⟩
    have k : (Lit.int IntKind.u64 x).wf = true := h2 x hx
    simp [Lit.wf, IntKind.min, IntKind.max, IntKind.bits, IntKind.signed] at k
    omega
end Go.Proofs.Ytahiipfjhjeofaa.Sim
namespace Go.Proofs.Ytahiipfjhjeofaa.Sim
set_option linter.unusedSimpArgs false

theorem runs_at {s : Store} {v : AV} {l : List Rn} (h : IsRuns s v l) {i : Nat} (hi : i < l.length) : ∃ id, v = .sl id 0 l.length 3 (l.length * 3) ∧ id < s.next ∧ AtRuns s id l := by
  rcases h with ⟨_, rfl⟩ | ⟨id, ro, h1, h2, h3⟩
  · simp at hi
  · exact ⟨id, h1, h2, ro, h3⟩
theorem load_fld {s : Store} {id : Nat} {l : List Rn} (h : AtRuns s id l) {i : Nat} (hi : i < l.length) {j : Nat} {v : AV} (hv : (rcells l[i])[j]? = some v) {α : Type} (f : AV → Option α) : aLoad1 (.ptr id (0 + i * 3 + j) (l.length * 3)) s f = f v := by
  obtain ⟨ro, h⟩ := h
  have hj : j < 3 := (List.getElem?_eq_some_iff.1 hv).1
  refine load_1 h (flat_len l) ?_
  have := flat_get l i hi
  have h2 : ((((l.map rcells).flatten.drop (i * 3)).take 3))[j]? = some v := by rw [this]; exact hv
  rw [List.getElem?_take, if_pos hj, List.getElem?_drop] at h2
  rw [Nat.zero_add]; exact h2
theorem fld_0 {s : Store} {id : Nat} {l : List Rn} (h : AtRuns s id l) {i : Nat} (hi : i < l.length) {α : Type} (f : AV → Option α) : aLoad1 (.ptr id (0 + i * 3 + 0) (l.length * 3)) s f = f (.int .u8 l[i].1) := load_fld h hi rfl f
theorem fld_1 {s : Store} {id : Nat} {l : List Rn} (h : AtRuns s id l) {i : Nat} (hi : i < l.length) {α : Type} (f : AV → Option α) : aLoad1 (.ptr id (0 + i * 3 + 1) (l.length * 3)) s f = f (.int .u64 l[i].2.1) := load_fld h hi rfl f
theorem fld_2 {s : Store} {id : Nat} {l : List Rn} (h : AtRuns s id l) {i : Nat} (hi : i < l.length) {α : Type} (f : AV → Option α) : aLoad1 (.ptr id (0 + i * 3 + 2) (l.length * 3)) s f = f (.int .u64 l[i].2.2) := load_fld h hi rfl f
theorem idx_r {l : List Rn} {id i : Nat} (hi : i < l.length) {α : Type} (f : AV → Option α) : aIndexSl 3 (.sl id 0 l.length 3 (l.length * 3)) (.int .i64 (i : Int)) f = f (.ptr id (0 + i * 3) (l.length * 3)) := idxL hi f
/-- An element of a slice of numbers, by a number of whatever kind. -/
theorem index_isI {s : Store} {v : AV} {k : IntKind} {xs : List Int} (h : IsSl s v k xs) {i : Int} (h0 : 0 ≤ i) (hi : i < xs.length) : ∃ p, (∀ {α : Type} (k : IntKind) (f : AV → Option α), aIndexSl 1 v (.int k i) f = f p) ∧ ∀ {α : Type} (f : AV → Option α), aLoad1 p s f = f (.int k (xs.getD i.toNat 0)) := by
  rcases h with ⟨_, h⟩ | ⟨l, ro, rfl, _, h⟩
  · subst h; simp at hi; omega
  · refine ⟨.ptr l (0 + i.toNat * 1) xs.length, fun k f => ?_, fun f => load_i h (by omega) f⟩
    rw [index_sl h0 hi]

/-- The reference's Run. -/
theorem ref_run {s : Store} {r : Rn} (hr : WfR r) (k : Nat) : rn (k + 1) 40 [.agg (rcells r)] s = some (.bool (runOk r), s.push (.cells (rcells r) false)) := by
  obtain ⟨⟨a1, a2⟩, ⟨b1, b2⟩, c1, c2⟩ := hr
  rw [unisonref03_Run.eq]
  unfold unisonref03_Run.f unisonref03_Run.p0
  have g : (s.push (.cells (rcells r) false)).get s.next = .cells (rcells r) false := by rw [get_push, if_pos rfl]
  simp only [bnd, guard_tt, guard_ff, guard_tf, guard_ft, pick_t, pick_f, if_t, if_f, add_i, sub_i, lss_i, leq_i, gtr_i, geq_i, eql_i, neq_i, min_i, max_i, conv_i, len_sl, len_nil, not_b, cells_agg, new_s, fld_p, nil_p, r_len, ld_0 g]
  by_cases h1 : r.1 > 63
  · have e : runOk r = false := by unfold runOk; grind
    simp only [h1, decide_true, bnd, guard_tt, guard_ff, guard_tf, guard_ft, pick_t, pick_f, if_t, if_f, add_i, sub_i, lss_i, leq_i, gtr_i, geq_i, eql_i, neq_i, min_i, max_i, conv_i, len_sl, len_nil, not_b, cells_agg, new_s, fld_p, nil_p, e]
  · simp only [h1, decide_false, bnd, guard_tt, guard_ff, guard_tf, guard_ft, pick_t, pick_f, if_t, if_f, add_i, sub_i, lss_i, leq_i, gtr_i, geq_i, eql_i, neq_i, min_i, max_i, conv_i, len_sl, len_nil, not_b, cells_agg, new_s, fld_p, nil_p, ld_1 g]
    by_cases h2 : r.2.1 = 0
    · have e : runOk r = false := by unfold runOk; grind
      simp only [h2, beq_self_eq_true, bnd, guard_tt, guard_ff, guard_tf, guard_ft, pick_t, pick_f, if_t, if_f, add_i, sub_i, lss_i, leq_i, gtr_i, geq_i, eql_i, neq_i, min_i, max_i, conv_i, len_sl, len_nil, not_b, cells_agg, new_s, fld_p, nil_p, e]
    · have h2' : (r.2.1 == 0) = false := by simpa using h2
      simp only [h2', bnd, guard_tt, guard_ff, guard_tf, guard_ft, pick_t, pick_f, if_t, if_f, add_i, sub_i, lss_i, leq_i, gtr_i, geq_i, eql_i, neq_i, min_i, max_i, conv_i, len_sl, len_nil, not_b, cells_agg, new_s, fld_p, nil_p, ld_2 g]
      by_cases h3 : r.2.2 = 0
      · have e : runOk r = false := by unfold runOk; grind
        simp only [h3, beq_self_eq_true, bnd, guard_tt, guard_ff, guard_tf, guard_ft, pick_t, pick_f, if_t, if_f, add_i, sub_i, lss_i, leq_i, gtr_i, geq_i, eql_i, neq_i, min_i, max_i, conv_i, len_sl, len_nil, not_b, cells_agg, new_s, fld_p, nil_p, e]
      · have h3' : (r.2.2 == 0) = false := by simpa using h3
        simp only [h3', bnd, guard_tt, guard_ff, guard_tf, guard_ft, pick_t, pick_f, if_t, if_f, add_i, sub_i, lss_i, leq_i, gtr_i, geq_i, eql_i, neq_i, min_i, max_i, conv_i, len_sl, len_nil, not_b, cells_agg, new_s, fld_p, nil_p, ld_1 g]
        by_cases h4 : r.2.1 > 4611686018427387904
        · have e : runOk r = false := by unfold runOk; grind
          simp only [h4, decide_true, bnd, guard_tt, guard_ff, guard_tf, guard_ft, pick_t, pick_f, if_t, if_f, add_i, sub_i, lss_i, leq_i, gtr_i, geq_i, eql_i, neq_i, min_i, max_i, conv_i, len_sl, len_nil, not_b, cells_agg, new_s, fld_p, nil_p, e]
        · simp only [h4, decide_false, bnd, guard_tt, guard_ff, guard_tf, guard_ft, pick_t, pick_f, if_t, if_f, add_i, sub_i, lss_i, leq_i, gtr_i, geq_i, eql_i, neq_i, min_i, max_i, conv_i, len_sl, len_nil, not_b, cells_agg, new_s, fld_p, nil_p, ld_1 g, ld_2 g, w_u64 (show 0 ≤ 4611686018427387904 - r.2.1 by omega) (show 4611686018427387904 - r.2.1 < 18446744073709551616 by omega), w_u64 (show 0 ≤ r.2.2 - 1 by omega) (show r.2.2 - 1 < 18446744073709551616 by omega)]
          have e : runOk r = decide (r.2.2 - 1 ≤ 4611686018427387904 - r.2.1) := by unfold runOk; grind
          rw [e]

theorem countR_top : ∀ l : List Rn, countR 4611686018427387904 l = 4611686018427387904
  | [] => rfl
  | r :: l => by
    unfold countR
    split
    · rename_i h
      have := runOk_le h
      rw [show min (4611686018427387904 + r.2.2) 4611686018427387904 = 4611686018427387904 by omega]
      exact countR_top l
    · exact countR_top l

theorem ref_count_loop (k : Nat) {l : List Rn} {v : AV} (hw : ∀ r ∈ l, WfR r) (hb : l.length ≤ 4611686018427387904) : ∀ (n i : Nat) (s : Store) (a : Int), 0 ≤ a → a ≤ 4611686018427387904 → IsRuns s v l → i ≤ l.length → l.length - i < n →
    ∃ s', unisonref03_Count.l0 (k + 1) n v (.int .u64 a) (.int .i64 l.length) (.int .i64 i) s = some (.int .u64 (countR a (l.drop i)), s') ∧ Ext s s'
  | 0, i, _, _, _, _, _, hi, hn => by omega
  | n + 1, i, s, a, ha0, ha1, hv, hi, hn => by
    have hs : unisonref03_Count.l0 (k + 1) (n + 1) = fun x0 x3 x6 x7 s => unisonref03_Count.p4 (k + 1) (unisonref03_Count.l0 (k + 1) n) x0 x3 x6 x7 s := rfl
    rw [hs]
    clear hs
    simp only
    unfold unisonref03_Count.p4 unisonref03_Count.p3
    rw [lss_i]
    by_cases h : i < l.length
    · have hz : (i : Int) < (l.length : Int) := by omega
      rw [decide_eq_true hz, if_t]
      unfold unisonref03_Count.p2 unisonref03_Count.p1
      have hwi := hw _ (List.getElem_mem h)
      have hw1 : IntKind.i64.wrap ((i : Int) + 1) = ((i + 1 : Nat) : Int) := by rw [w_i64 (by omega) (by omega)]; omega
      obtain ⟨id, rfl, hid, ha⟩ := runs_at hv h
      have e1 := Ext.push s (.cells (rcells l[i]) false)
      rw [idx_r h, load_run ha i h, ref_run hwi, bnd]
      simp only
      generalize (s.push (.cells (rcells l[i]) false)) = s1 at *
      have ha1' := ha.ext hid e1
      rw [List.drop_eq_getElem_cons h, countR]
      by_cases hr : runOk l[i] = true
      · have hle := runOk_le hr
        simp only [hr, bnd, guard_tt, guard_ff, guard_tf, guard_ft, pick_t, pick_f, if_t, if_f, add_i, sub_i, lss_i, leq_i, gtr_i, geq_i, eql_i, neq_i, min_i, max_i, conv_i, len_sl, len_nil, not_b, cells_agg, new_s, fld_p, nil_p, idx_r h, fld_2 ha1' h, w_u64 (show 0 ≤ 4611686018427387904 - a by omega) (show 4611686018427387904 - a < 18446744073709551616 by omega)]
        by_cases hc : l[i].2.2 > 4611686018427387904 - a
        · rw [decide_eq_true hc, if_t, if_pos trivial, show min (a + l[i].2.2) 4611686018427387904 = 4611686018427387904 by omega, countR_top]
          exact ⟨s1, rfl, e1⟩
        · rw [decide_eq_false hc, if_f, if_pos trivial, w_u64 (by omega) (by omega), hw1, show min (a + l[i].2.2) 4611686018427387904 = a + l[i].2.2 by omega]
          obtain ⟨s', k1, k2⟩ := ref_count_loop k hw hb n (i + 1) s1 (a + l[i].2.2) (by omega) (by omega) (hv.ext e1) (by omega) (by omega)
          exact ⟨s', k1, e1.trans k2⟩
      · have hr' : runOk l[i] = false := by simpa using hr
        rw [hr', if_f, add_i, hw1, if_neg (by simp)]
        obtain ⟨s', k1, k2⟩ := ref_count_loop k hw hb n (i + 1) s1 a ha0 ha1 (hv.ext e1) (by omega) (by omega)
        exact ⟨s', k1, e1.trans k2⟩
    · have hz : ¬ (i : Int) < (l.length : Int) := by omega
      rw [decide_eq_false hz, if_f]
      unfold unisonref03_Count.p0
      exact ⟨s, by rw [List.drop_eq_nil_of_le (by omega)]; rfl, Ext.refl _⟩

theorem ref_count {s : Store} {v : AV} {l : List Rn} (hl : IsRuns s v l) (hw : ∀ r ∈ l, WfR r) (k : Nat) (hb : l.length ≤ k) (hk : k ≤ 4611686018427387904) :
    ∃ s', rn (k + 2) 34 [v] s = some (.int .u64 (countR 0 l), s') ∧ Ext s s' := by
  rw [unisonref03_Count.eq]
  unfold unisonref03_Count.f unisonref03_Count.p7 unisonref03_Count.p6 unisonref03_Count.p5
  rw [len_runs hl]
  obtain ⟨s', k1, k2⟩ := ref_count_loop k hw (by omega) (k + 1) 0 s 0 (by omega) (by omega) hl (by omega) (by omega)
  rw [Int.natCast_zero] at k1
  exact ⟨s', k1, k2⟩

/-- A batch, from a run on: its sender is greater than the last one. -/
def mayFrom (base : List Int) : Int → List Rn → Bool
  | _, [] => true
  | last, r :: l => runOk r && (!decide (r.1 ≤ last) && (!decide (r.1 ≥ base.length) && (decide (base.getD r.1.toNat 0 = r.2.1 - 1) && mayFrom base r.1 l)))
def mayR (base : List Int) (most : Int) (l : List Rn) : Bool := if l = [] ∨ most < 0 ∨ countR 0 l > min most 4096 then false else mayFrom base (-1) l

theorem ref_may_loop (k : Nat) {x0 v : AV} {base : List Int} {l : List Rn} (hub : U base) (hw : ∀ r ∈ l, WfR r) (hb : l.length ≤ 4611686018427387904) : ∀ (n i : Nat) (s : Store) (last : Int), IsSl s x0 .u64 base → IsRuns s v l → i ≤ l.length → l.length - i < n →
    ∃ s', unisonref05_May.l0 (k + 1) n x0 v (.int .i64 last) (.int .i64 l.length) (.int .i64 i) s = some (.bool (mayFrom base last (l.drop i)), s') ∧ Ext s s'
  | 0, i, _, _, _, _, hi, hn => by omega
  | n + 1, i, s, last, h0, hv, hi, hn => by
    have hs : unisonref05_May.l0 (k + 1) (n + 1) = fun x0 x2 x8 x29 x30 s => unisonref05_May.p8 (k + 1) (unisonref05_May.l0 (k + 1) n) x0 x2 x8 x29 x30 s := rfl
    rw [hs]
    clear hs
    simp only
    unfold unisonref05_May.p8 unisonref05_May.p7
    rw [lss_i]
    by_cases h : i < l.length
    · have hz : (i : Int) < (l.length : Int) := by omega
      rw [decide_eq_true hz, if_t]
      unfold unisonref05_May.p6 unisonref05_May.p5 unisonref05_May.p4
      have hwi := hw _ (List.getElem_mem h)
      have hw1 : IntKind.i64.wrap ((i : Int) + 1) = ((i + 1 : Nat) : Int) := by rw [w_i64 (by omega) (by omega)]; omega
      obtain ⟨id, rfl, hid, ha⟩ := runs_at hv h
      have e1 := Ext.push s (.cells (rcells l[i]) false)
      have hfr : 0 ≤ l[i].1 ∧ l[i].1 < 256 := hwi.1
      rw [idx_r h, fld_p, fld_0 ha h, conv_i, w_i64 (by omega) (by omega)]
      simp only [bnd, idx_r h, load_run ha i h, ref_run hwi]
      generalize (s.push (.cells (rcells l[i]) false)) = s1 at *
      have ha1' := ha.ext hid e1
      rw [List.drop_eq_getElem_cons h, mayFrom]
      have fail : ∀ b : Bool, b = true → ∃ s', unisonref05_May.p3 (k + 1) (unisonref05_May.l0 (k + 1) n) x0 (.sl id 0 l.length 3 (l.length * 3)) (.int .i64 l[i].1) (.int .i64 l.length) (.int .i64 i) (.bool b) s1 = some (.bool false, s') ∧ Ext s s' := fun b hb => by
        subst hb
        unfold unisonref05_May.p3
        rw [if_t]
        exact ⟨s1, rfl, e1⟩
      by_cases hr : runOk l[i] = true
      · have hrk := of_decide_eq_true hr
        simp only [hr, bnd, guard_tt, guard_ff, guard_tf, guard_ft, pick_t, pick_f, if_t, if_f, add_i, sub_i, lss_i, leq_i, gtr_i, geq_i, eql_i, neq_i, min_i, max_i, conv_i, len_sl, len_nil, not_b, cells_agg, new_s, fld_p, nil_p, Bool.not_true, Bool.true_and]
        by_cases h2 : l[i].1 ≤ last
        · simp only [decide_eq_true h2, bnd, guard_tt, guard_ff, guard_tf, guard_ft, pick_t, pick_f, if_t, if_f, add_i, sub_i, lss_i, leq_i, gtr_i, geq_i, eql_i, neq_i, min_i, max_i, conv_i, len_sl, len_nil, not_b, cells_agg, new_s, fld_p, nil_p, Bool.not_true, Bool.false_and]
          exact fail true rfl
        · simp only [decide_eq_false h2, bnd, guard_tt, guard_ff, guard_tf, guard_ft, pick_t, pick_f, if_t, if_f, add_i, sub_i, lss_i, leq_i, gtr_i, geq_i, eql_i, neq_i, min_i, max_i, conv_i, len_sl, len_nil, not_b, cells_agg, new_s, fld_p, nil_p, Bool.not_false, Bool.true_and, len_is (h0.ext e1)]
          by_cases h3 : l[i].1 ≥ (base.length : Int)
          · simp only [decide_eq_true h3, bnd, guard_tt, guard_ff, guard_tf, guard_ft, pick_t, pick_f, if_t, if_f, add_i, sub_i, lss_i, leq_i, gtr_i, geq_i, eql_i, neq_i, min_i, max_i, conv_i, len_sl, len_nil, not_b, cells_agg, new_s, fld_p, nil_p, Bool.not_true, Bool.false_and]
            exact fail true rfl
          · obtain ⟨p, p1, p2⟩ := index_isI (h0.ext e1) hfr.1 (by omega)
            have hbu := hub.at l[i].1.toNat
            simp only [decide_eq_false h3, bnd, guard_tt, guard_ff, guard_tf, guard_ft, pick_t, pick_f, if_t, if_f, add_i, sub_i, lss_i, leq_i, gtr_i, geq_i, eql_i, neq_i, min_i, max_i, conv_i, len_sl, len_nil, not_b, cells_agg, new_s, fld_p, nil_p, Bool.not_false, Bool.true_and, p1, p2, idx_r h, fld_1 ha1' h, w_u64 (show 0 ≤ l[i].2.1 - 1 by omega) (show l[i].2.1 - 1 < 18446744073709551616 by omega)]
            by_cases h4 : base.getD l[i].1.toNat 0 = l[i].2.1 - 1
            · have h4' : (base.getD l[i].1.toNat 0 != l[i].2.1 - 1) = false := by simpa using h4
              rw [h4', decide_eq_true h4, Bool.true_and]
              unfold unisonref05_May.p3 unisonref05_May.p2 unisonref05_May.p1
              rw [if_f, add_i, hw1]
              obtain ⟨s', k1, k2⟩ := ref_may_loop k hub hw hb n (i + 1) s1 l[i].1 (h0.ext e1) (hv.ext e1) (by omega) (by omega)
              exact ⟨s', k1, e1.trans k2⟩
            · have h4' : (base.getD l[i].1.toNat 0 != l[i].2.1 - 1) = true := by simpa using h4
              rw [h4', decide_eq_false h4, Bool.false_and]
              exact fail true rfl
      · have hr' : runOk l[i] = false := by simpa using hr
        simp only [hr', bnd, guard_tt, guard_ff, guard_tf, guard_ft, pick_t, pick_f, if_t, if_f, add_i, sub_i, lss_i, leq_i, gtr_i, geq_i, eql_i, neq_i, min_i, max_i, conv_i, len_sl, len_nil, not_b, cells_agg, new_s, fld_p, nil_p, Bool.not_false, Bool.false_and]
        exact fail true rfl
    · have hz : ¬ (i : Int) < (l.length : Int) := by omega
      rw [decide_eq_false hz, if_f]
      unfold unisonref05_May.p0
      exact ⟨s, by rw [List.drop_eq_nil_of_le (by omega)]; rfl, Ext.refl _⟩

theorem ref_may {s : Store} {x0 v : AV} {base : List Int} {most : Int} {l : List Rn} (h0 : IsSl s x0 .u64 base) (hl : IsRuns s v l) (hub : U base) (hw : ∀ r ∈ l, WfR r) (hm : most < 9223372036854775808) (k : Nat) (hb : l.length ≤ k) (hk : k ≤ 1000000000) :
    ∃ s', rn (k + 4) 19 [x0, .int .i64 most, v] s = some (.bool (mayR base most l), s') ∧ Ext s s' := by
  rw [unisonref05_May.eq]
  unfold unisonref05_May.f unisonref05_May.p14 unisonref05_May.p13 mayR
  rw [len_runs hl, eql_i]
  by_cases h1 : l = []
  · subst h1
    simp only [List.length_nil, Int.natCast_zero, beq_self_eq_true, bnd, guard_tt, guard_ff, guard_tf, guard_ft, pick_t, pick_f, if_t, if_f, add_i, sub_i, lss_i, leq_i, gtr_i, geq_i, eql_i, neq_i, min_i, max_i, conv_i, len_sl, len_nil, not_b, cells_agg, new_s, fld_p, nil_p, true_or, if_true]
    exact ⟨s, rfl, Ext.refl _⟩
  · have h1' : (((l.length : Nat) : Int) == 0) = false := by
      have : l.length ≠ 0 := fun q => h1 (List.length_eq_zero_iff.1 q)
      simp; omega
    by_cases h2 : most < 0
    · rw [if_pos (.inr (.inl h2))]
      simp only [h1', decide_eq_true h2, bnd, guard_tt, guard_ff, guard_tf, guard_ft, pick_t, pick_f, if_t, if_f, add_i, sub_i, lss_i, leq_i, gtr_i, geq_i, eql_i, neq_i, min_i, max_i, conv_i, len_sl, len_nil, not_b, cells_agg, new_s, fld_p, nil_p]
      exact ⟨s, rfl, Ext.refl _⟩
    · have hiff : (l = [] ∨ most < 0 ∨ countR 0 l > min most 4096) ↔ countR 0 l > min most 4096 := by simp [h1, h2]
      simp only [h1', hiff, bnd, guard_tt, guard_ff, guard_tf, guard_ft, pick_t, pick_f, if_t, if_f, add_i, sub_i, lss_i, leq_i, gtr_i, geq_i, eql_i, neq_i, min_i, max_i, conv_i, len_sl, len_nil, not_b, cells_agg, new_s, fld_p, nil_p]
      simp only [decide_eq_false h2, bnd, guard_tt, guard_ff, guard_tf, guard_ft, pick_t, pick_f, if_t, if_f, add_i, sub_i, lss_i, leq_i, gtr_i, geq_i, eql_i, neq_i, min_i, max_i, conv_i, len_sl, len_nil, not_b, cells_agg, new_s, fld_p, nil_p]
      unfold unisonref05_May.p12
      obtain ⟨s1, k1, e1⟩ := ref_count hl hw (k + 1) (by omega) (by omega)
      have k1' : rn (k + 3) 34 [v] s = some (.int .u64 (countR 0 l), s1) := k1
      rw [k1', bnd]
      unfold unisonref05_May.p11
      simp only [bnd, guard_tt, guard_ff, guard_tf, guard_ft, pick_t, pick_f, if_t, if_f, add_i, sub_i, lss_i, leq_i, gtr_i, geq_i, eql_i, neq_i, min_i, max_i, conv_i, len_sl, len_nil, not_b, cells_agg, new_s, fld_p, nil_p, w_u64 (show 0 ≤ most by omega) (show most < 18446744073709551616 by omega)]
      by_cases h3 : countR 0 l > most
      · simp only [decide_eq_true h3, bnd, guard_tt, guard_ff, guard_tf, guard_ft, pick_t, pick_f, if_t, if_f, add_i, sub_i, lss_i, leq_i, gtr_i, geq_i, eql_i, neq_i, min_i, max_i, conv_i, len_sl, len_nil, not_b, cells_agg, new_s, fld_p, nil_p]
        rw [if_pos (show countR 0 l > min most 4096 by omega)]
        exact ⟨s1, rfl, e1⟩
      · simp only [decide_eq_false h3, bnd, guard_tt, guard_ff, guard_tf, guard_ft, pick_t, pick_f, if_t, if_f, add_i, sub_i, lss_i, leq_i, gtr_i, geq_i, eql_i, neq_i, min_i, max_i, conv_i, len_sl, len_nil, not_b, cells_agg, new_s, fld_p, nil_p]
        by_cases h4 : countR 0 l > 4096
        · rw [decide_eq_true h4, if_pos (show countR 0 l > min most 4096 by omega), if_t]
          exact ⟨s1, rfl, e1⟩
        · rw [decide_eq_false h4, if_neg (show ¬ countR 0 l > min most 4096 by omega), if_f]
          unfold unisonref05_May.p10 unisonref05_May.p9
          rw [len_runs (hl.ext e1)]
          obtain ⟨s2, k2, e2⟩ := ref_may_loop (k + 2) hub hw (by omega) (k + 3) 0 s1 (-1) (h0.ext e1) (hl.ext e1) (by omega) (by omega)
          rw [Int.natCast_zero, List.drop_zero] at k2
          exact ⟨s2, k2, e1.trans e2⟩

/-- The last sender ahead of a place. -/
def lastAt (l : List Rn) (i : Nat) : Int := if i = 0 then -1 else (l.getD (i - 1) (0, 0, 0)).1

theorem bat_may_loop (k : Nat) {x0 v : AV} {base : List Int} {l : List Rn} (hub : U base) (hw : ∀ r ∈ l, WfR r) (hb : l.length ≤ 4611686018427387904) : ∀ (n i : Nat) (s : Store), IsSl s x0 .u64 base → IsRuns s v l → i ≤ l.length → l.length - i < n →
    ∃ s', batch_May.l0 (k + 1) n x0 v v (.int .i64 l.length) (.int .i64 i) s = some (.bool (mayFrom base (lastAt l i) (l.drop i)), s') ∧ Ext s s'
  | 0, i, _, _, _, hi, hn => by omega
  | n + 1, i, s, h0, hv, hi, hn => by
    have hs : batch_May.l0 (k + 1) (n + 1) = fun x0 x2 x24 x25 x26 s => batch_May.p6 (k + 1) (batch_May.l0 (k + 1) n) x0 x2 x24 x25 x26 s := rfl
    rw [hs]
    clear hs
    simp only
    unfold batch_May.p6 batch_May.p5
    rw [lss_i]
    by_cases h : i < l.length
    · have hz : (i : Int) < (l.length : Int) := by omega
      rw [decide_eq_true hz, if_t]
      unfold batch_May.p4 batch_May.p3
      have hwi := hw _ (List.getElem_mem h)
      have hw1 : IntKind.i64.wrap ((i : Int) + 1) = ((i + 1 : Nat) : Int) := by rw [w_i64 (by omega) (by omega)]; omega
      obtain ⟨id, rfl, hid, ha⟩ := runs_at hv h
      obtain ⟨e0, n0, g0, st⟩ := copy_run (s := s) l[i]
      have hfr : 0 ≤ l[i].1 ∧ l[i].1 < 256 := hwi.1
      rw [idx_r h, load_run ha i h, new_s, show ([AV.int .u8 0, AV.int .u64 0, AV.int .u64 0] : List AV).length = 3 from rfl, st]
      generalize ((s.push (.cells [AV.int .u8 0, AV.int .u64 0, AV.int .u64 0] false)).set s.next (.cells (rcells l[i]) false)) = s0 at *
      have ha0 := ha.ext hid e0
      have hid0 := Nat.lt_of_lt_of_le hid e0.next
      generalize s.next = cp at *
      have e1' := Ext.push s0 (.cells (rcells l[i]) false)
      simp only [bnd, ld_3 g0, ident_run hwi]
      have g1 := (e1'.get cp n0).trans g0
      generalize (s0.push (.cells (rcells l[i]) false)) = s1 at *
      have e1 := e0.trans e1'
      have ha1 := ha0.ext hid0 e1'
      rw [List.drop_eq_getElem_cons h, mayFrom]
      have fail : ∃ s', batch_May.p2 (k + 1) (batch_May.l0 (k + 1) n) x0 (.sl id 0 l.length 3 (l.length * 3)) (.sl id 0 l.length 3 (l.length * 3)) (.int .i64 l.length) (.int .i64 i) (.bool true) s1 = some (.bool false, s') ∧ Ext s s' := by
        unfold batch_May.p2
        rw [if_t]
        exact ⟨s1, rfl, e1⟩
      have go : l[i].1 = lastAt l (i + 1) := by
        unfold lastAt
        simp [h]
      by_cases hr : runOk l[i] = true
      · have hrk := of_decide_eq_true hr
        simp only [hr, bnd, guard_tt, guard_ff, guard_tf, guard_ft, pick_t, pick_f, if_t, if_f, add_i, sub_i, lss_i, leq_i, gtr_i, geq_i, eql_i, neq_i, min_i, max_i, conv_i, len_sl, len_nil, not_b, cells_agg, new_s, fld_p, nil_p, Bool.not_true, Bool.true_and, ld_0 g1, len_is (h0.ext e1), w_i64 (show -9223372036854775808 ≤ l[i].1 by omega) (show l[i].1 < 9223372036854775808 by omega)]
        by_cases h3 : l[i].1 ≥ (base.length : Int)
        · simp only [decide_eq_true h3, bnd, guard_tt, guard_ff, guard_tf, guard_ft, pick_t, pick_f, if_t, if_f, add_i, sub_i, lss_i, leq_i, gtr_i, geq_i, eql_i, neq_i, min_i, max_i, conv_i, len_sl, len_nil, not_b, cells_agg, new_s, fld_p, nil_p, Bool.not_true, Bool.false_and, Bool.and_false]
          exact fail
        · obtain ⟨p, p1, p2⟩ := index_isI (h0.ext e1) hfr.1 (by omega)
          have hbu := hub.at l[i].1.toNat
          simp only [decide_eq_false h3, bnd, guard_tt, guard_ff, guard_tf, guard_ft, pick_t, pick_f, if_t, if_f, add_i, sub_i, lss_i, leq_i, gtr_i, geq_i, eql_i, neq_i, min_i, max_i, conv_i, len_sl, len_nil, not_b, cells_agg, new_s, fld_p, nil_p, Bool.not_false, Bool.true_and, p1, p2, ld_0 g1, ld_1 g1]
          by_cases h4 : base.getD l[i].1.toNat 0 = l[i].2.1 - 1
          · have h4' : (l[i].2.1 != IntKind.u64.wrap (base.getD l[i].1.toNat 0 + 1)) = false := by
              rw [w_u64 (by omega) (by omega)]; exact bne_eq_false_iff_eq.2 (by omega)
            simp only [h4', bnd, guard_tt, guard_ff, guard_tf, guard_ft, pick_t, pick_f, if_t, if_f, add_i, sub_i, lss_i, leq_i, gtr_i, geq_i, eql_i, neq_i, min_i, max_i, conv_i, len_sl, len_nil, not_b, cells_agg, new_s, fld_p, nil_p, decide_eq_true h4, Bool.true_and]
            by_cases hi0 : (i : Int) > 0
            · have hi1 : i - 1 < l.length := by omega
              have hs1 : IntKind.i64.wrap ((i : Int) - 1) = ((i - 1 : Nat) : Int) := by rw [w_i64 (by omega) (by omega)]; omega
              have hla : lastAt l i = l[i - 1].1 := by unfold lastAt; rw [if_neg (by omega)]; simp [hi1]
              simp only [decide_eq_true hi0, bnd, guard_tt, guard_ff, guard_tf, guard_ft, pick_t, pick_f, if_t, if_f, add_i, sub_i, lss_i, leq_i, gtr_i, geq_i, eql_i, neq_i, min_i, max_i, conv_i, len_sl, len_nil, not_b, cells_agg, new_s, fld_p, nil_p, ld_0 g1, hs1, idx_r hi1, fld_0 ha1 hi1, hla]
              by_cases h5 : l[i].1 ≤ l[i - 1].1
              · simp only [decide_eq_true h5, bnd, guard_tt, guard_ff, guard_tf, guard_ft, pick_t, pick_f, if_t, if_f, add_i, sub_i, lss_i, leq_i, gtr_i, geq_i, eql_i, neq_i, min_i, max_i, conv_i, len_sl, len_nil, not_b, cells_agg, new_s, fld_p, nil_p, Bool.not_true, Bool.false_and]
                exact fail
              · simp only [decide_eq_false h5, bnd, guard_tt, guard_ff, guard_tf, guard_ft, pick_t, pick_f, if_t, if_f, add_i, sub_i, lss_i, leq_i, gtr_i, geq_i, eql_i, neq_i, min_i, max_i, conv_i, len_sl, len_nil, not_b, cells_agg, new_s, fld_p, nil_p, Bool.not_false, Bool.true_and]
                unfold batch_May.p2 batch_May.p1
                rw [if_f, add_i, hw1]
                obtain ⟨s', k1, k2⟩ := bat_may_loop k hub hw hb n (i + 1) s1 (h0.ext e1) (hv.ext e1) (by omega) (by omega)
                exact ⟨s', by rw [k1, go], e1.trans k2⟩
            · have hla : lastAt l i = -1 := by unfold lastAt; rw [if_pos (by omega)]
              have h5 : ¬ l[i].1 ≤ -1 := by omega
              simp only [decide_eq_false hi0, bnd, guard_tt, guard_ff, guard_tf, guard_ft, pick_t, pick_f, if_t, if_f, add_i, sub_i, lss_i, leq_i, gtr_i, geq_i, eql_i, neq_i, min_i, max_i, conv_i, len_sl, len_nil, not_b, cells_agg, new_s, fld_p, nil_p, hla, decide_eq_false h5, Bool.not_false, Bool.true_and]
              unfold batch_May.p2 batch_May.p1
              rw [if_f, add_i, hw1]
              obtain ⟨s', k1, k2⟩ := bat_may_loop k hub hw hb n (i + 1) s1 (h0.ext e1) (hv.ext e1) (by omega) (by omega)
              exact ⟨s', by rw [k1, go], e1.trans k2⟩
          · have h4' : (l[i].2.1 != IntKind.u64.wrap (base.getD l[i].1.toNat 0 + 1)) = true := by
              by_cases hbig : base.getD l[i].1.toNat 0 = 18446744073709551615
              · rw [hbig]
                have : IntKind.u64.wrap (18446744073709551615 + 1) = 0 := by decide
                rw [this]; exact bne_iff_ne.2 (by omega)
              · rw [w_u64 (by omega) (by omega)]; exact bne_iff_ne.2 (by omega)
            simp only [h4', bnd, guard_tt, guard_ff, guard_tf, guard_ft, pick_t, pick_f, if_t, if_f, add_i, sub_i, lss_i, leq_i, gtr_i, geq_i, eql_i, neq_i, min_i, max_i, conv_i, len_sl, len_nil, not_b, cells_agg, new_s, fld_p, nil_p, decide_eq_false h4, Bool.false_and, Bool.and_false]
            exact fail
      · have hr' : runOk l[i] = false := by simpa using hr
        simp only [hr', bnd, guard_tt, guard_ff, guard_tf, guard_ft, pick_t, pick_f, if_t, if_f, add_i, sub_i, lss_i, leq_i, gtr_i, geq_i, eql_i, neq_i, min_i, max_i, conv_i, len_sl, len_nil, not_b, cells_agg, new_s, fld_p, nil_p, Bool.not_false, Bool.false_and]
        exact fail
    · have hz : ¬ (i : Int) < (l.length : Int) := by omega
      rw [decide_eq_false hz, if_f]
      unfold batch_May.p0
      exact ⟨s, by rw [List.drop_eq_nil_of_le (by omega)]; rfl, Ext.refl _⟩

theorem bat_may {s : Store} {x0 v : AV} {base : List Int} {most : Int} {l : List Rn} (h0 : IsSl s x0 .u64 base) (hl : IsRuns s v l) (hub : U base) (hw : ∀ r ∈ l, WfR r) (hm : most < 9223372036854775808) (k : Nat) (hb : l.length ≤ k) (hk : k ≤ 1000000000) :
    ∃ s', rn (k + 4) 35 [x0, .int .i64 most, v] s = some (.bool (mayR base most l), s') ∧ Ext s s' := by
  rw [batch_May.eq]
  unfold batch_May.f batch_May.p9 batch_May.p8 mayR
  rw [len_runs hl, eql_i]
  by_cases h1 : l = []
  · subst h1
    simp only [List.length_nil, Int.natCast_zero, beq_self_eq_true, bnd, guard_tt, guard_ff, guard_tf, guard_ft, pick_t, pick_f, if_t, if_f, add_i, sub_i, lss_i, leq_i, gtr_i, geq_i, eql_i, neq_i, min_i, max_i, conv_i, len_sl, len_nil, not_b, cells_agg, new_s, fld_p, nil_p, true_or, if_true]
    exact ⟨s, rfl, Ext.refl _⟩
  · have h1' : (((l.length : Nat) : Int) == 0) = false := by
      have : l.length ≠ 0 := fun q => h1 (List.length_eq_zero_iff.1 q)
      simp; omega
    by_cases h2 : most < 0
    · rw [if_pos (.inr (.inl h2))]
      simp only [h1', decide_eq_true h2, bnd, guard_tt, guard_ff, guard_tf, guard_ft, pick_t, pick_f, if_t, if_f, add_i, sub_i, lss_i, leq_i, gtr_i, geq_i, eql_i, neq_i, min_i, max_i, conv_i, len_sl, len_nil, not_b, cells_agg, new_s, fld_p, nil_p]
      exact ⟨s, rfl, Ext.refl _⟩
    · have hiff : (l = [] ∨ most < 0 ∨ countR 0 l > min most 4096) ↔ countR 0 l > min most 4096 := by simp [h1, h2]
      simp only [h1', hiff, bnd, guard_tt, guard_ff, guard_tf, guard_ft, pick_t, pick_f, if_t, if_f, add_i, sub_i, lss_i, leq_i, gtr_i, geq_i, eql_i, neq_i, min_i, max_i, conv_i, len_sl, len_nil, not_b, cells_agg, new_s, fld_p, nil_p]
      obtain ⟨s1, k1, e1⟩ := ident_count hl hw (k + 1) (by omega) (by omega)
      have k1' : rn (k + 3) 44 [v] s = some (.int .u64 (countR 0 l), s1) := k1
      simp only [decide_eq_false h2, bnd, guard_tt, guard_ff, guard_tf, guard_ft, pick_t, pick_f, if_t, if_f, add_i, sub_i, lss_i, leq_i, gtr_i, geq_i, eql_i, neq_i, min_i, max_i, conv_i, len_sl, len_nil, not_b, cells_agg, new_s, fld_p, nil_p, k1', w_u64 (show 0 ≤ min most 4096 by omega) (show min most 4096 < 18446744073709551616 by omega)]
      by_cases h3 : countR 0 l > min most 4096
      · rw [decide_eq_true h3, if_pos h3, if_t]
        exact ⟨s1, rfl, e1⟩
      · rw [decide_eq_false h3, if_neg h3, if_f]
        unfold batch_May.p7
        rw [len_runs (hl.ext e1)]
        obtain ⟨s2, k2, e2⟩ := bat_may_loop (k + 2) hub hw (by omega) (k + 3) 0 s1 (h0.ext e1) (hl.ext e1) (by omega) (by omega)
        rw [Int.natCast_zero, List.drop_zero] at k2
        exact ⟨s2, k2, e1.trans e2⟩
end Go.Proofs.Ytahiipfjhjeofaa.Sim
namespace Go.Proofs.Ytahiipfjhjeofaa.Sim
set_option linter.unusedSimpArgs false
set_option linter.unusedVariables false

/-- Numbers in a row of one's own, that lies behind 'lo', if there is one. -/
def OwnN (s : Store) (v : AV) (xs : List Int) (lo : Nat) : Prop := (v = .nilsl ∧ xs = []) ∨ ∃ id, v = .sl id 0 xs.length 1 xs.length ∧ lo ≤ id ∧ id < s.next ∧ s.get id = .cells (xs.map (.int .u64)) false
theorem OwnN.is {s : Store} {v : AV} {xs : List Int} {lo : Nat} (h : OwnN s v xs lo) : IsSl s v .u64 xs := by
  rcases h with h | ⟨id, h1, _, h2, h3⟩
  · exact .inl h
  · exact .inr ⟨id, false, h1, h2, h3⟩
theorem OwnN.ext {s s' : Store} {v : AV} {xs : List Int} {lo : Nat} (h : OwnN s v xs lo) (e : Ext s s') : OwnN s' v xs lo := by
  rcases h with h | ⟨id, h1, h4, h2, h3⟩
  · exact .inl h
  · exact .inr ⟨id, h1, h4, Nat.lt_of_lt_of_le h2 e.next, by rw [e.get id h2]; exact h3⟩
theorem ExtLo.isSl {lo : Nat} {s s' : Store} (e : ExtLo lo s s') {v : AV} {k : IntKind} {xs : List Int} (h : IsSl s v k xs) (hlo : ∀ a b c d f, v = .sl a b c d f → a < lo) : IsSl s' v k xs := by
  rcases h with h | ⟨l, ro, h1, h2, h3⟩
  · exact .inl h
  · exact .inr ⟨l, ro, h1, Nat.lt_of_lt_of_le h2 e.next, by rw [e.get l (hlo _ _ _ _ _ h1)]; exact h3⟩
theorem IsSl.lt {s : Store} {v : AV} {k : IntKind} {xs : List Int} (h : IsSl s v k xs) : ∀ a b c d f, v = .sl a b c d f → a < s.next := by
  rcases h with ⟨h, _⟩ | ⟨id, ro, h1, h2, h3⟩
  · intro a b c d f e; rw [h] at e; cases e
  · intro a b c d f e; rw [h1] at e; cases e; exact h2

/-- append([]uint64{}, x..). -/
theorem own_copy {s : Store} {v : AV} {xs : List Int} (h : IsSl s v .u64 xs) (hb : xs.length ≤ 1000000) : ∃ s', (∀ f : AV → Store → Option (AV × Store), aAppend 1 8 (.sl s.next 0 0 1 0) v (s.push (.cells [] false)) f = f (.sl s.next 0 xs.length 1 xs.length) s') ∧ s'.get s.next = .cells (xs.map (.int .u64)) false ∧ s.next < s'.next ∧ Ext s s' := by
  have := fun f => app_nums (α := AV × Store) (s := s.push (.cells [] false)) (id := s.next) (bytes := 8) (k := .u64) (xs := []) (by grind [get_push]) (h.ext (Ext.push s _)) (by simp; omega) (by omega) f
  simp only [List.length_nil, List.nil_append] at this
  exact ⟨_, this, by rw [get_set, if_pos rfl], by simp only [next_set, next_push]; omega, ⟨by simp only [next_set, next_push]; omega, fun l hl => by grind [get_set, get_push]⟩⟩

theorem clone_u64 {s : Store} {v : AV} {xs : List Int} (h : IsSl s v .u64 xs) (hb : xs.length ≤ 1000000) (k : Nat) : ∃ v' s', rn (k + 1) 39 [v] s = some (v', s') ∧ OwnN s' v' xs s.next ∧ Ext s s' := by
  rw [slices_Clone_uint64_uint64.eq]
  unfold slices_Clone_uint64_uint64.f slices_Clone_uint64_uint64.p0
  obtain ⟨s1, k1, k2, k3, k4⟩ := own_copy h hb
  rcases h with ⟨rfl, rfl⟩ | ⟨id, ro, rfl, h2, h3⟩
  · exact ⟨.nilsl, s, rfl, .inl ⟨rfl, rfl⟩, Ext.refl _⟩
  · simp only [aEq, bnd, guard_tt, guard_ff, guard_tf, guard_ft, pick_t, pick_f, if_t, if_f, add_i, sub_i, lss_i, leq_i, gtr_i, geq_i, eql_i, neq_i, min_i, max_i, conv_i, len_sl, len_nil, not_b, cells_agg, new_s, fld_p, nil_p]
    rw [show (fun c2 => aAppend 1 8 (.sl s.next 0 0 1 0) (.sl id 0 xs.length 1 xs.length) (s.push (.cells c2 false)) fun v3 s4 => some (v3, s4)) = _ from rfl]
    have e : ∀ f : List AV → Option (AV × Store), aBuild [] [] f = f [] := fun _ => rfl
    rw [e, k1]
    exact ⟨_, s1, rfl, .inr ⟨s.next, rfl, Nat.le_refl _, k3, k2⟩, k4⟩

/-- A run's last number. -/
def lastR (r : Rn) : Int := r.2.1 + (r.2.2 - 1)
theorem lastR_bnd {r : Rn} (hw : WfR r) (h : runOk r = true) : 1 ≤ lastR r ∧ lastR r ≤ 4611686018427387904 ∧ r.2.1 - 1 + r.2.2 = lastR r := by
  have := of_decide_eq_true h; unfold lastR; have := hw; omega
theorem ref_last {s : Store} {r : Rn} (hw : WfR r) (h : runOk r = true) (k : Nat) : rn (k + 1) 48 [.agg (rcells r)] s = some (.int .u64 (lastR r), s.push (.cells (rcells r) false)) := by
  rw [unisonref03_Last.eq]
  unfold unisonref03_Last.f unisonref03_Last.p0
  have g : (s.push (.cells (rcells r) false)).get s.next = .cells (rcells r) false := by rw [get_push, if_pos rfl]
  have hr := of_decide_eq_true h
  simp only [bnd, guard_tt, guard_ff, guard_tf, guard_ft, pick_t, pick_f, if_t, if_f, add_i, sub_i, lss_i, leq_i, gtr_i, geq_i, eql_i, neq_i, min_i, max_i, conv_i, len_sl, len_nil, not_b, cells_agg, new_s, fld_p, nil_p, r_len, ld_1 g, ld_2 g, w_u64 (show 0 ≤ r.2.2 - 1 by omega) (show r.2.2 - 1 < 18446744073709551616 by omega), w_u64 (show 0 ≤ r.2.1 + (r.2.2 - 1) by omega) (show r.2.1 + (r.2.2 - 1) < 18446744073709551616 by omega)]
  rfl
/-- The base behind runs. -/
def setR (b : List Int) (r : Rn) : List Int := b.set r.1.toNat (lastR r)
theorem mayFrom_set {b : List Int} (j : Nat) (v : Int) : ∀ (l : List Rn) (last : Int), (j : Int) ≤ last → mayFrom b last l = true → mayFrom (b.set j v) last l = true
  | [], _, _, _ => rfl
  | r :: l, last, hj, h => by
    unfold mayFrom at h ⊢
    simp only [Bool.and_eq_true, Bool.not_eq_true', decide_eq_true_eq, decide_eq_false_iff_not, List.length_set] at h ⊢
    obtain ⟨h1, h2, h3, h4, h5⟩ := h
    refine ⟨h1, h2, h3, ?_, mayFrom_set j v l r.1 (by omega) h5⟩
    rw [← h4]
    simp only [List.getD_eq_getElem?_getD, List.getElem?_set]
    rw [if_neg (by omega)]
theorem mayFrom_cons {b : List Int} {last : Int} {r : Rn} {l : List Rn} (hl : -1 ≤ last) (h : mayFrom b last (r :: l) = true) : runOk r = true ∧ last < r.1 ∧ r.1 < b.length ∧ b.getD r.1.toNat 0 = r.2.1 - 1 ∧ mayFrom (setR b r) r.1 l = true := by
  unfold mayFrom at h
  simp only [Bool.and_eq_true, Bool.not_eq_true', decide_eq_true_eq, decide_eq_false_iff_not] at h
  obtain ⟨h1, h2, h3, h4, h5⟩ := h
  exact ⟨h1, by omega, by omega, h4, mayFrom_set _ _ l r.1 (by omega) h5⟩
def afterR (base : List Int) (l : List Rn) : List Int := if mayR base 4096 l = true then l.foldl setR base else base
theorem setR_len (b : List Int) (r : Rn) : (setR b r).length = b.length := by simp [setR]
theorem foldR_len : ∀ (l : List Rn) (b : List Int), (l.foldl setR b).length = b.length
  | [], _ => rfl
  | r :: l, b => by rw [List.foldl_cons, foldR_len l, setR_len]
theorem foldR_U : ∀ {l : List Rn} {b : List Int} {last : Int}, -1 ≤ last → (∀ r ∈ l, WfR r) → mayFrom b last l = true → U b → U (l.foldl setR b)
  | [], _, _, _, _, _, hu => hu
  | r :: l, b, last, hl, hw, h, hu => by
    obtain ⟨h1, h2, h3, h4, h5⟩ := mayFrom_cons hl h
    have hb := lastR_bnd (hw r List.mem_cons_self) h1
    refine foldR_U (l := l) (b := setR b r) (last := r.1) (by omega) (fun x hx => hw x (List.mem_cons_of_mem _ hx)) h5 fun x hx => ?_
    rcases List.mem_or_eq_of_mem_set hx with hx | hx
    · exact hu x hx
    · subst hx; omega
theorem afterR_len (b : List Int) (l : List Rn) : (afterR b l).length = b.length := by unfold afterR; split <;> simp [foldR_len]
theorem mayR_from {b : List Int} {most : Int} {l : List Rn} (h : mayR b most l = true) : mayFrom b (-1) l = true := by
  unfold mayR at h
  split at h
  · cases h
  · exact h

section
variable {v : AV} {l : List Rn} {lo ido : Nat}

theorem bat_after_loop (k : Nat) (hw : ∀ r ∈ l, WfR r) (hb : l.length ≤ 4611686018427387904) (hlo : ∀ a b c d f, v = .sl a b c d f → a < lo) (hio : lo ≤ ido) : ∀ (n i : Nat) (s : Store) (b : List Int) (last : Int), -1 ≤ last → IsRuns s v l → ido < s.next → s.get ido = .cells (b.map (.int .u64)) false → mayFrom b last (l.drop i) = true → i ≤ l.length → l.length - i < n →
    ∃ s', batch_After.l0 k n (.sl ido 0 b.length 1 b.length) v (.int .i64 l.length) (.int .i64 i) s = some (.sl ido 0 b.length 1 b.length, s') ∧ s'.get ido = .cells (((l.drop i).foldl setR b).map (.int .u64)) false ∧ ExtLo lo s s'
  | 0, i, _, _, _, _, _, _, _, _, hi, hn => by omega
  | n + 1, i, s, b, last, hla, hv, hid, hg, hm, hi, hn => by
    have hs : batch_After.l0 k (n + 1) = fun x5 x15 x16 x17 s => batch_After.p5 k (batch_After.l0 k n) x5 x15 x16 x17 s := rfl
    rw [hs]
    clear hs
    simp only
    unfold batch_After.p5 batch_After.p4
    rw [lss_i]
    by_cases h : i < l.length
    · have hz : (i : Int) < (l.length : Int) := by omega
      rw [decide_eq_true hz, if_t]
      unfold batch_After.p3 batch_After.p2 batch_After.p1
      have hwi := hw _ (List.getElem_mem h)
      have hw1 : IntKind.i64.wrap ((i : Int) + 1) = ((i + 1 : Nat) : Int) := by rw [w_i64 (by omega) (by omega)]; omega
      obtain ⟨id, hvv, _, ha⟩ := runs_at hv h
      rw [List.drop_eq_getElem_cons h] at hm
      obtain ⟨m1, m2, m3, m4, m5⟩ := mayFrom_cons hla hm
      have hbn := lastR_bnd hwi m1
      obtain ⟨e0, n0, g0, st⟩ := copy_run (s := s) l[i]
      rw [hvv, idx_r h, load_run ha i h, new_s, show ([AV.int .u8 0, AV.int .u64 0, AV.int .u64 0] : List AV).length = 3 from rfl, st, ← hvv]
      generalize ((s.push (.cells [AV.int .u8 0, AV.int .u64 0, AV.int .u64 0] false)).set s.next (.cells (rcells l[i]) false)) = s0 at *
      have hg0 : s0.get ido = .cells (b.map (.int .u64)) false := (e0.get ido hid).trans hg
      have hfr : 0 ≤ l[i].1 := hwi.1.1
      have hi0 : l[i].1.toNat < b.length := by omega
      have hix : ∀ {α : Type} (f : AV → Option α), aIndexSl 1 (.sl ido 0 b.length 1 b.length) (.int .u8 l[i].1) f = f (.ptr ido (0 + l[i].1.toNat * 1) b.length) := fun f => index_sl hfr (by omega)
      have hw2 : IntKind.u64.wrap (b.getD l[i].1.toNat 0 + l[i].2.2) = lastR l[i] := by rw [m4, w_u64 (by omega) (by omega)]; omega
      have hst : ∀ {α : Type} (f : Store → Option α), aStore 1 (.ptr ido (0 + l[i].1.toNat * 1) b.length) (.int .u64 (lastR l[i])) s0 f = f (s0.set ido (.cells ((setR b l[i]).map (.int .u64)) false)) := fun f => store_i hg0 hi0 f
      simp only [bnd, guard_tt, guard_ff, guard_tf, guard_ft, pick_t, pick_f, if_t, if_f, add_i, sub_i, lss_i, leq_i, gtr_i, geq_i, eql_i, neq_i, min_i, max_i, conv_i, len_sl, len_nil, not_b, cells_agg, new_s, fld_p, nil_p, ld_0 g0, ld_2 g0, hix, load_i hg0 hi0, hw2, hst, hw1]
      have e1 : ExtLo lo s (s0.set ido (.cells ((setR b l[i]).map (.int .u64)) false)) := ⟨e0.next, fun j hj => by rw [get_set, if_neg (by omega)]; exact e0.get j (by omega)⟩
      have ih := bat_after_loop k hw hb hlo hio n (i + 1) (s0.set ido (.cells ((setR b l[i]).map (.int .u64)) false)) (setR b l[i]) l[i].1 (by omega) (e1.isRuns hv hlo) (by have := e1.next; simp only [next_set] at this ⊢; have := e0.next; omega) (by rw [get_set, if_pos rfl]) m5 (by omega) (by omega)
      rw [setR_len] at ih
      obtain ⟨s', k1, k2, k3⟩ := ih
      rw [List.drop_eq_getElem_cons h, List.foldl_cons]
      exact ⟨s', k1, k2, e1.trans k3⟩
    · have hz : ¬ (i : Int) < (l.length : Int) := by omega
      rw [decide_eq_false hz, if_f]
      unfold batch_After.p0
      exact ⟨s, rfl, by rw [List.drop_eq_nil_of_le (by omega)]; exact hg, ExtLo.refl _ _⟩

theorem ref_after_loop (k : Nat) (hw : ∀ r ∈ l, WfR r) (hb : l.length ≤ 4611686018427387904) (hlo : ∀ a b c d f, v = .sl a b c d f → a < lo) (hio : lo ≤ ido) : ∀ (n i : Nat) (s : Store) (b : List Int) (last : Int), -1 ≤ last → IsRuns s v l → ido < s.next → s.get ido = .cells (b.map (.int .u64)) false → mayFrom b last (l.drop i) = true → i ≤ l.length → l.length - i < n →
    ∃ s', unisonref05_After.l0 (k + 1) n v (.sl ido 0 b.length 1 b.length) (.int .i64 l.length) (.int .i64 i) s = some (.sl ido 0 b.length 1 b.length, s') ∧ s'.get ido = .cells (((l.drop i).foldl setR b).map (.int .u64)) false ∧ ExtLo lo s s'
  | 0, i, _, _, _, _, _, _, _, _, hi, hn => by omega
  | n + 1, i, s, b, last, hla, hv, hid, hg, hm, hi, hn => by
    have hs : unisonref05_After.l0 (k + 1) (n + 1) = fun x1 x5 x14 x15 s => unisonref05_After.p5 (k + 1) (unisonref05_After.l0 (k + 1) n) x1 x5 x14 x15 s := rfl
    rw [hs]
    clear hs
    simp only
    unfold unisonref05_After.p5 unisonref05_After.p4
    rw [lss_i]
    by_cases h : i < l.length
    · have hz : (i : Int) < (l.length : Int) := by omega
      rw [decide_eq_true hz, if_t]
      unfold unisonref05_After.p3 unisonref05_After.p2 unisonref05_After.p1
      have hwi := hw _ (List.getElem_mem h)
      have hw1 : IntKind.i64.wrap ((i : Int) + 1) = ((i + 1 : Nat) : Int) := by rw [w_i64 (by omega) (by omega)]; omega
      obtain ⟨id, hvv, hidn, ha⟩ := runs_at hv h
      rw [List.drop_eq_getElem_cons h] at hm
      obtain ⟨m1, m2, m3, m4, m5⟩ := mayFrom_cons hla hm
      have e0 := Ext.push s (.cells (rcells l[i]) false)
      simp only [hvv, bnd, guard_tt, guard_ff, guard_tf, guard_ft, pick_t, pick_f, if_t, if_f, add_i, sub_i, lss_i, leq_i, gtr_i, geq_i, eql_i, neq_i, min_i, max_i, conv_i, len_sl, len_nil, not_b, cells_agg, new_s, fld_p, nil_p, idx_r h, fld_0 ha h, load_run ha i h, ref_last hwi m1]
      rw [← hvv]
      generalize (s.push (.cells (rcells l[i]) false)) = s0 at *
      have hg0 : s0.get ido = .cells (b.map (.int .u64)) false := (e0.get ido hid).trans hg
      have hfr : 0 ≤ l[i].1 := hwi.1.1
      have hi0 : l[i].1.toNat < b.length := by omega
      have hix : ∀ {α : Type} (f : AV → Option α), aIndexSl 1 (.sl ido 0 b.length 1 b.length) (.int .u8 l[i].1) f = f (.ptr ido (0 + l[i].1.toNat * 1) b.length) := fun f => index_sl hfr (by omega)
      have hst : ∀ {α : Type} (f : Store → Option α), aStore 1 (.ptr ido (0 + l[i].1.toNat * 1) b.length) (.int .u64 (lastR l[i])) s0 f = f (s0.set ido (.cells ((setR b l[i]).map (.int .u64)) false)) := fun f => store_i hg0 hi0 f
      simp only [fld_0 (ha.ext hidn e0) h, aSame_self, bnd, guard_tt, guard_ff, guard_tf, guard_ft, pick_t, pick_f, if_t, if_f, add_i, sub_i, lss_i, leq_i, gtr_i, geq_i, eql_i, neq_i, min_i, max_i, conv_i, len_sl, len_nil, not_b, cells_agg, new_s, fld_p, nil_p, hix, hst, hw1]
      have e1 : ExtLo lo s (s0.set ido (.cells ((setR b l[i]).map (.int .u64)) false)) := ⟨e0.next, fun j hj => by rw [get_set, if_neg (by omega)]; exact e0.get j (by omega)⟩
      have ih := ref_after_loop k hw hb hlo hio n (i + 1) (s0.set ido (.cells ((setR b l[i]).map (.int .u64)) false)) (setR b l[i]) l[i].1 (by omega) (e1.isRuns hv hlo) (by have := e1.next; simp only [next_set] at this ⊢; have := e0.next; omega) (by rw [get_set, if_pos rfl]) m5 (by omega) (by omega)
      rw [setR_len] at ih
      obtain ⟨s', k1, k2, k3⟩ := ih
      rw [List.drop_eq_getElem_cons h, List.foldl_cons]
      exact ⟨s', k1, k2, e1.trans k3⟩
    · have hz : ¬ (i : Int) < (l.length : Int) := by omega
      rw [decide_eq_false hz, if_f]
      unfold unisonref05_After.p0
      exact ⟨s, rfl, by rw [List.drop_eq_nil_of_le (by omega)]; exact hg, ExtLo.refl _ _⟩
end

theorem bat_after_own {s : Store} {x0 v : AV} {base : List Int} {l : List Rn} (h0 : IsSl s x0 .u64 base) (hl : IsRuns s v l) (hub : U base) (hw : ∀ r ∈ l, WfR r) (k : Nat) (hb : l.length ≤ k) (hk : k ≤ 1000000000) (hbl : base.length ≤ 1000000) :
    ∃ v' s', rn (k + 5) 37 [x0, v] s = some (v', s') ∧ OwnN s' v' (afterR base l) s.next ∧ Ext s s' := by
  rw [batch_After.eq]
  unfold batch_After.f batch_After.p9 batch_After.p8
  obtain ⟨w, s1, k1, o1, e1⟩ := clone_u64 h0 hbl (k + 3)
  have k1' : rn (k + 4) 39 [x0] s = some (w, s1) := k1
  rw [k1', bnd]
  unfold batch_After.p7
  obtain ⟨s2, k2, e2⟩ := bat_may (most := 4096) (h0.ext e1) (hl.ext e1) hub hw (by omega) k hb hk
  simp only at k2 ⊢
  rw [k2, bnd]
  have e12 := e1.trans e2
  have o2 := o1.ext e2
  by_cases hm : mayR base 4096 l = true
  · simp only [hm, bnd, guard_tt, guard_ff, guard_tf, guard_ft, pick_t, pick_f, if_t, if_f, add_i, sub_i, lss_i, leq_i, gtr_i, geq_i, eql_i, neq_i, min_i, max_i, conv_i, len_sl, len_nil, not_b, cells_agg, new_s, fld_p, nil_p, Bool.not_true]
    unfold batch_After.p6
    rw [len_runs (hl.ext e12)]
    have hmf := mayR_from hm
    rcases o2 with ⟨rfl, rfl⟩ | ⟨ido, rfl, i1, i2, i3⟩
    · cases l with
      | nil => simp [mayR] at hm
      | cons r l =>
        obtain ⟨_, q2, q3, _⟩ := mayFrom_cons (by omega) hmf
        have := (hw r List.mem_cons_self).1.1
        simp at q3; omega
    · obtain ⟨s3, k3, g3, e3⟩ := bat_after_loop (lo := s.next) (k + 4) hw (by omega) hl.lt i1 (k + 4) 0 s2 base (-1) (by omega) (hl.ext e12) i2 i3 (by rw [List.drop_zero]; exact hmf) (by omega) (by omega)
      rw [Int.natCast_zero] at k3
      rw [List.drop_zero] at g3
      exact ⟨_, s3, k3, .inr ⟨ido, by unfold afterR; rw [if_pos hm, foldR_len], i1, by have := e3.next; omega, by unfold afterR; rw [if_pos hm]; exact g3⟩, ⟨Nat.le_trans e12.next e3.next, fun l hl => (e3.get l hl).trans (e12.get l hl)⟩⟩
  · have hm' : mayR base 4096 l = false := by simpa using hm
    simp only [hm', bnd, guard_tt, guard_ff, guard_tf, guard_ft, pick_t, pick_f, if_t, if_f, add_i, sub_i, lss_i, leq_i, gtr_i, geq_i, eql_i, neq_i, min_i, max_i, conv_i, len_sl, len_nil, not_b, cells_agg, new_s, fld_p, nil_p, Bool.not_false]
    exact ⟨w, s2, rfl, by unfold afterR; rw [if_neg hm]; exact o2, e12⟩

theorem bat_after {s : Store} {x0 v : AV} {base : List Int} {l : List Rn} (h0 : IsSl s x0 .u64 base) (hl : IsRuns s v l) (hub : U base) (hw : ∀ r ∈ l, WfR r) (k : Nat) (hb : l.length ≤ k) (hk : k ≤ 1000000000) (hbl : base.length ≤ 1000000) :
    ∃ v' s', rn (k + 5) 37 [x0, v] s = some (v', s') ∧ IsSl s' v' .u64 (afterR base l) ∧ Ext s s' := by
  obtain ⟨v', s', h1, h2, h3⟩ := bat_after_own h0 hl hub hw k hb hk hbl
  exact ⟨v', s', h1, h2.is, h3⟩

theorem ref_after {s : Store} {x0 v : AV} {base : List Int} {l : List Rn} (h0 : IsSl s x0 .u64 base) (hl : IsRuns s v l) (hub : U base) (hw : ∀ r ∈ l, WfR r) (k : Nat) (hb : l.length ≤ k) (hk : k ≤ 1000000000) (hbl : base.length ≤ 1000000) :
    ∃ v' s', rn (k + 5) 43 [x0, v] s = some (v', s') ∧ IsSl s' v' .u64 (afterR base l) ∧ Ext s s' := by
  rw [unisonref05_After.eq]
  unfold unisonref05_After.f unisonref05_After.p11 unisonref05_After.p10
  obtain ⟨s1, k1, g1, n1, e1⟩ := own_copy h0 hbl
  have e : ∀ f : List AV → Option (AV × Store), aBuild [] [] f = f [] := fun _ => rfl
  rw [e, k1]
  unfold unisonref05_After.p9
  obtain ⟨s2, k2, e2⟩ := ref_may (most := 4096) (h0.ext e1) (hl.ext e1) hub hw (by omega) k hb hk
  rw [k2, bnd]
  have e12 := e1.trans e2
  have g2 : s2.get s.next = .cells (base.map (.int .u64)) false := (e2.get _ n1).trans g1
  have n2 : s.next < s2.next := Nat.lt_of_lt_of_le n1 e2.next
  unfold unisonref05_After.p8
  by_cases hm : mayR base 4096 l = true
  · simp only [hm, bnd, guard_tt, guard_ff, guard_tf, guard_ft, pick_t, pick_f, if_t, if_f, add_i, sub_i, lss_i, leq_i, gtr_i, geq_i, eql_i, neq_i, min_i, max_i, conv_i, len_sl, len_nil, not_b, cells_agg, new_s, fld_p, nil_p]
    unfold unisonref05_After.p6
    rw [len_runs (hl.ext e12)]
    obtain ⟨s3, k3, g3, e3⟩ := ref_after_loop (lo := s.next) (k + 3) hw (by omega) hl.lt (Nat.le_refl _) (k + 4) 0 s2 base (-1) (by omega) (hl.ext e12) n2 g2 (by rw [List.drop_zero]; exact mayR_from hm) (by omega) (by omega)
    rw [Int.natCast_zero] at k3
    rw [List.drop_zero] at g3
    exact ⟨_, s3, k3, .inr ⟨s.next, false, by unfold afterR; rw [if_pos hm, foldR_len], by have := e3.next; omega, by unfold afterR; rw [if_pos hm]; exact g3⟩, ⟨Nat.le_trans e12.next e3.next, fun l hl => (e3.get l hl).trans (e12.get l hl)⟩⟩
  · have hm' : mayR base 4096 l = false := by simpa using hm
    simp only [hm', bnd, guard_tt, guard_ff, guard_tf, guard_ft, pick_t, pick_f, if_t, if_f, add_i, sub_i, lss_i, leq_i, gtr_i, geq_i, eql_i, neq_i, min_i, max_i, conv_i, len_sl, len_nil, not_b, cells_agg, new_s, fld_p, nil_p]
    unfold unisonref05_After.p7 unisonref05_After.p0
    exact ⟨_, s2, rfl, .inr ⟨s.next, false, by unfold afterR; rw [if_neg hm], n2, by unfold afterR; rw [if_neg hm]; exact g2⟩, e12⟩

/-- A run that isn't held. -/
def badR (held : List Int) (r : Rn) : Bool := !runOk r || decide (atI held r.1 < lastR r)

theorem cells_sl {s : Store} {v : AV} {k : IntKind} {xs : List Int} (h : IsSl s v k xs) {α : Type} (f : List AV → Option α) : aCells v f = f [v] := by
  rcases h with ⟨rfl, _⟩ | ⟨_, _, rfl, _⟩ <;> rfl

end Go.Proofs.Ytahiipfjhjeofaa.Sim
namespace Go.Proofs.Ytahiipfjhjeofaa.Sim
set_option linter.unusedSimpArgs false
set_option linter.unusedVariables false

theorem covers_loop (k : Nat) {x0 x1 : AV} {xs : List Int} {s : Store} (h0 : IsSl s x0 .u64 xs) (h1 : IsSl s x1 .u64 xs) (hb : xs.length ≤ 4611686018427387904) : ∀ (n i : Nat), i ≤ xs.length → xs.length - i < n →
    unisonref04_Covers.l0 (k + 1) n x0 x1 (.int .i64 xs.length) (.int .i64 i) s = some (.bool true, s)
  | 0, i, hi, hn => by omega
  | n + 1, i, hi, hn => by
    have hs : unisonref04_Covers.l0 (k + 1) (n + 1) = fun x0 x1 x7 x8 s => unisonref04_Covers.p6 (k + 1) (unisonref04_Covers.l0 (k + 1) n) x0 x1 x7 x8 s := rfl
    rw [hs]
    clear hs
    simp only
    unfold unisonref04_Covers.p6 unisonref04_Covers.p5
    rw [lss_i]
    by_cases h : i < xs.length
    · have hz : (i : Int) < (xs.length : Int) := by omega
      rw [decide_eq_true hz, if_t]
      unfold unisonref04_Covers.p4 unisonref04_Covers.p3 unisonref04_Covers.p2 unisonref04_Covers.p1
      have hw1 : IntKind.i64.wrap ((i : Int) + 1) = ((i + 1 : Nat) : Int) := by rw [w_i64 (by omega) (by omega)]; omega
      obtain ⟨p, p1, p2⟩ := index_isI h1 (show (0 : Int) ≤ i by omega) hz
      have ea : atI xs i = xs.getD i 0 := by unfold atI; rw [if_neg (by omega), Int.toNat_natCast]
      have hlt : ¬ xs.getD i 0 < xs.getD i 0 := Int.lt_irrefl _
      simp only [bnd, guard_tt, guard_ff, guard_tf, guard_ft, pick_t, pick_f, if_t, if_f, add_i, sub_i, lss_i, leq_i, gtr_i, geq_i, eql_i, neq_i, min_i, max_i, conv_i, len_sl, len_nil, not_b, cells_agg, new_s, fld_p, nil_p, ref_at h0, p1, p2, aSame_self, Int.toNat_natCast, ea, decide_eq_false hlt, hw1]
      exact covers_loop k h0 h1 hb n (i + 1) (by omega) (by omega)
    · have hz : ¬ (i : Int) < (xs.length : Int) := by omega
      rw [decide_eq_false hz, if_f]
      rfl
theorem covers_same {s : Store} {x0 x1 : AV} {xs : List Int} (h0 : IsSl s x0 .u64 xs) (h1 : IsSl s x1 .u64 xs) (k : Nat) (hb : xs.length ≤ k) (hk : k ≤ 1000000000) : rn (k + 2) 20 [x0, x1] s = some (.bool true, s) := by
  rw [unisonref04_Covers.eq]
  unfold unisonref04_Covers.f unisonref04_Covers.p8 unisonref04_Covers.p7
  rw [len_is h1]
  have := covers_loop k h0 h1 (by omega) (k + 1) 0 (by omega) (by omega)
  rw [Int.natCast_zero] at this
  exact this
theorem equal_same {s : Store} {x0 x1 : AV} {xs : List Int} (h0 : IsSl s x0 .u64 xs) (h1 : IsSl s x1 .u64 xs) (k : Nat) (hb : xs.length ≤ k) (hk : k ≤ 1000000000) : rn (k + 4) 31 [x0, x1] s = some (.bool true, s) := by
  have hsame : rn (k + 3) 22 [x0, x1] s = some (.bool true, s) := by
    rw [unisonref04_Same.eq]
    unfold unisonref04_Same.f unisonref04_Same.p0
    simp only [covers_same h0 h1 k hb hk, covers_same h1 h0 k hb hk, bnd, guard_tt, guard_ff, guard_tf, guard_ft, pick_t, pick_f, if_t, if_f, add_i, sub_i, lss_i, leq_i, gtr_i, geq_i, eql_i, neq_i, min_i, max_i, conv_i, len_sl, len_nil, not_b, cells_agg, new_s, fld_p, nil_p]
  rw [unisonref04_Equal.eq]
  unfold unisonref04_Equal.f unisonref04_Equal.p0
  simp only [len_is h0, len_is h1, bnd, guard_tt, guard_ff, guard_tf, guard_ft, pick_t, pick_f, if_t, if_f, add_i, sub_i, lss_i, leq_i, gtr_i, geq_i, eql_i, neq_i, min_i, max_i, conv_i, len_sl, len_nil, not_b, cells_agg, new_s, fld_p, nil_p, beq_self_eq_true, hsame]

/-- The greatest count. -/
def topR : Int → List Rn → Int
  | a, [] => a
  | a, r :: l => topR (if r.2.2 > a then r.2.2 else a) l
theorem topR_ge : ∀ (l : List Rn) (a : Int), a ≤ topR a l ∧ ∀ r ∈ l, r.2.2 ≤ topR a l
  | [], a => ⟨Int.le_refl _, fun r h => by simp at h⟩
  | r :: l, a => by
    unfold topR
    have hm : a ≤ (if r.2.2 > a then r.2.2 else a) ∧ r.2.2 ≤ (if r.2.2 > a then r.2.2 else a) := by split <;> omega
    generalize (if r.2.2 > a then r.2.2 else a) = m at *
    obtain ⟨h1, h2⟩ := topR_ge l m
    refine ⟨by omega, fun x hx => ?_⟩
    rcases List.mem_cons.1 hx with rfl | hx
    · omega
    · exact h2 x hx
theorem topR_le : ∀ (l : List Rn) (a : Int) (m : Int), a ≤ m → (∀ r ∈ l, r.2.2 ≤ m) → topR a l ≤ m
  | [], a, m, h, _ => h
  | r :: l, a, m, h, hl => by
    unfold topR
    exact topR_le l _ m (by have := hl r List.mem_cons_self; split <;> omega) fun x hx => hl x (List.mem_cons_of_mem _ hx)

theorem ro_tops (k : Nat) {x0 x3 : AV} {l : List Rn} (hw : ∀ r ∈ l, WfR r) (hb : l.length ≤ 4611686018427387904) (hok : ∀ r ∈ l, runOk r = true) : ∀ (n i : Nat) (s : Store) (a : Int), 0 ≤ a → IsRuns s x0 l → i ≤ l.length → l.length - i < n →
    ∃ s', unisonref05_Order.l2 (k + 1) n x0 x3 (.int .u64 a) (.int .i64 l.length) (.int .i64 i) s = unisonref05_Order.p12 (k + 1) x0 x3 (.int .u64 (topR a (l.drop i))) s' ∧ Ext s s'
  | 0, i, _, _, _, _, hi, hn => by omega
  | n + 1, i, s, a, ha0, hv, hi, hn => by
    have hs : unisonref05_Order.l2 (k + 1) (n + 1) = fun x0 x3 x4 x14 x15 s => unisonref05_Order.p16 (k + 1) (unisonref05_Order.l2 (k + 1) n) x0 x3 x4 x14 x15 s := rfl
    rw [hs]
    clear hs
    simp only
    unfold unisonref05_Order.p16 unisonref05_Order.p15
    rw [lss_i]
    by_cases h : i < l.length
    · have hz : (i : Int) < (l.length : Int) := by omega
      rw [decide_eq_true hz, if_t]
      unfold unisonref05_Order.p14 unisonref05_Order.p13
      have hwi := hw _ (List.getElem_mem h)
      have hr := hok _ (List.getElem_mem h)
      have hw1 : IntKind.i64.wrap ((i : Int) + 1) = ((i + 1 : Nat) : Int) := by rw [w_i64 (by omega) (by omega)]; omega
      obtain ⟨id, rfl, hid, ha⟩ := runs_at hv h
      have e1 := Ext.push s (.cells (rcells l[i]) false)
      rw [idx_r h, load_run ha i h, ref_run hwi, bnd, hr, not_b]
      simp only
      generalize (s.push (.cells (rcells l[i]) false)) = s1 at *
      have ha1' := ha.ext hid e1
      simp only [Bool.not_true, bnd, guard_tt, guard_ff, guard_tf, guard_ft, pick_t, pick_f, if_t, if_f, add_i, sub_i, lss_i, leq_i, gtr_i, geq_i, eql_i, neq_i, min_i, max_i, conv_i, len_sl, len_nil, not_b, cells_agg, new_s, fld_p, nil_p, idx_r h, fld_2 ha1' h, hw1]
      rw [List.drop_eq_getElem_cons h, topR]
      by_cases hc : l[i].2.2 > a
      · rw [decide_eq_true hc, if_t, if_pos hc]
        obtain ⟨s', k1, k2⟩ := ro_tops k (x3 := x3) hw hb hok n (i + 1) s1 l[i].2.2 (by omega) (hv.ext e1) (by omega) (by omega)
        exact ⟨s', k1, e1.trans k2⟩
      · rw [decide_eq_false hc, if_f, if_neg hc]
        obtain ⟨s', k1, k2⟩ := ro_tops k (x3 := x3) hw hb hok n (i + 1) s1 a ha0 (hv.ext e1) (by omega) (by omega)
        exact ⟨s', k1, e1.trans k2⟩
    · have hz : ¬ (i : Int) < (l.length : Int) := by omega
      rw [decide_eq_false hz, if_f]
      exact ⟨s, by rw [List.drop_eq_nil_of_le (by omega)]; rfl, Ext.refl _⟩

/-- Where a run may not be nothing is delivered. -/
theorem ro_bad (k : Nat) {x0 x3 : AV} {l : List Rn} (hw : ∀ r ∈ l, WfR r) (hb : l.length ≤ 4611686018427387904) : ∀ (n i : Nat) (s : Store) (a : Int), (l.drop i).any (fun r => !runOk r) = true → 0 ≤ a → IsRuns s x0 l → i ≤ l.length → l.length - i < n →
    ∃ s', unisonref05_Order.l2 (k + 1) n x0 x3 (.int .u64 a) (.int .i64 l.length) (.int .i64 i) s = some (x3, s') ∧ Ext s s'
  | 0, i, _, _, _, _, _, hi, hn => by omega
  | n + 1, i, s, a, hbad, ha0, hv, hi, hn => by
    have hs : unisonref05_Order.l2 (k + 1) (n + 1) = fun x0 x3 x4 x14 x15 s => unisonref05_Order.p16 (k + 1) (unisonref05_Order.l2 (k + 1) n) x0 x3 x4 x14 x15 s := rfl
    rw [hs]
    clear hs
    simp only
    unfold unisonref05_Order.p16 unisonref05_Order.p15
    rw [lss_i]
    by_cases h : i < l.length
    · have hz : (i : Int) < (l.length : Int) := by omega
      rw [decide_eq_true hz, if_t]
      unfold unisonref05_Order.p14 unisonref05_Order.p13
      have hwi := hw _ (List.getElem_mem h)
      have hw1 : IntKind.i64.wrap ((i : Int) + 1) = ((i + 1 : Nat) : Int) := by rw [w_i64 (by omega) (by omega)]; omega
      obtain ⟨id, rfl, hid, ha⟩ := runs_at hv h
      have e1 := Ext.push s (.cells (rcells l[i]) false)
      rw [idx_r h, load_run ha i h, ref_run hwi, bnd, not_b]
      simp only
      generalize (s.push (.cells (rcells l[i]) false)) = s1 at *
      have ha1' := ha.ext hid e1
      rw [List.drop_eq_getElem_cons h, List.any_cons] at hbad
      by_cases hr : runOk l[i] = true
      · simp only [hr, Bool.not_true, Bool.false_or] at hbad ⊢
        simp only [bnd, guard_tt, guard_ff, guard_tf, guard_ft, pick_t, pick_f, if_t, if_f, add_i, sub_i, lss_i, leq_i, gtr_i, geq_i, eql_i, neq_i, min_i, max_i, conv_i, len_sl, len_nil, not_b, cells_agg, new_s, fld_p, nil_p, idx_r h, fld_2 ha1' h, hw1]
        by_cases hc : l[i].2.2 > a
        · rw [decide_eq_true hc, if_t]
          obtain ⟨s', k1, k2⟩ := ro_bad k (x3 := x3) hw hb n (i + 1) s1 l[i].2.2 hbad (by omega) (hv.ext e1) (by omega) (by omega)
          exact ⟨s', k1, e1.trans k2⟩
        · rw [decide_eq_false hc, if_f]
          obtain ⟨s', k1, k2⟩ := ro_bad k (x3 := x3) hw hb n (i + 1) s1 a hbad ha0 (hv.ext e1) (by omega) (by omega)
          exact ⟨s', k1, e1.trans k2⟩
      · have hr' : runOk l[i] = false := by simpa using hr
        rw [hr']
        exact ⟨s1, rfl, e1⟩
    · rw [List.drop_eq_nil_of_le (by omega)] at hbad
      simp at hbad

section
variable {x0 : AV} {l : List Rn} {lo : Nat}

/-- One pass. -/
theorem ro_pass (k : Nat) {R0 : AV → AV → AV → AV → Store → Option (AV × Store)} {x4 : AV} {p : Nat} (hp : p ≤ 5000) (hw : ∀ r ∈ l, WfR r) (hok : ∀ r ∈ l, runOk r = true) (hlo : ∀ a b c d f, x0 = .sl a b c d f → a < lo) (hl : l.length ≤ 100000) : ∀ (n i : Nat) (s : Store) (out : List Idn) (v : AV), IsRuns s x0 l → lo ≤ s.next → OwnL icells 2 s v out lo → out.length + (l.length - i) ≤ 1000000000 → i ≤ l.length → l.length - i < n →
    ∃ v' s', unisonref05_Order.l0 k R0 n x0 v x4 (.int .u64 p) (.int .i64 l.length) (.int .i64 i) s = R0 x0 v' x4 (.int .u64 ((p + 1 : Nat) : Int)) s' ∧ OwnL icells 2 s' v' (out ++ passR p (l.drop i)) lo ∧ ExtLo lo s s'
  | 0, i, _, _, _, _, _, _, _, hi, hn => by omega
  | n + 1, i, s, out, v, h0, hs0, ho, hb, hi, hn => by
    have hs : unisonref05_Order.l0 k R0 (n + 1) = fun x0 x3 x4 x6 x44 x45 s => unisonref05_Order.p9 k R0 (unisonref05_Order.l0 k R0 n) x0 x3 x4 x6 x44 x45 s := rfl
    rw [hs]
    clear hs
    simp only
    unfold unisonref05_Order.p9 unisonref05_Order.p8
    rw [lss_i]
    by_cases h : i < l.length
    · have hz : (i : Int) < (l.length : Int) := by omega
      rw [decide_eq_true hz, if_t]
      unfold unisonref05_Order.p7 unisonref05_Order.p6 unisonref05_Order.p5
      have hw1 : IntKind.i64.wrap ((i : Int) + 1) = ((i + 1 : Nat) : Int) := by rw [w_i64 (by omega) (by omega)]; omega
      obtain ⟨id, hvv, hid, ha⟩ := runs_at h0 h
      have hrk := of_decide_eq_true (hok _ (List.getElem_mem h))
      have hwi := hw _ (List.getElem_mem h)
      rw [List.drop_eq_getElem_cons h, passR]
      rw [hvv, idx_r h, fld_p, fld_2 ha h, lss_i]
      by_cases hc : (p : Int) < l[i].2.2
      · rw [decide_eq_true hc, if_t, if_pos hc]
        unfold unisonref05_Order.p3 unisonref05_Order.p2
        have hsum : l[i].2.1 + (p : Int) < 18446744073709551616 := by omega
        obtain ⟨v1, s2, f1, f2, f3⟩ := app_ownL (bytes := 16) ic_len (by omega) (by omega) ho hs0 (l[i].1, l[i].2.1 + (p : Int)) (by omega)
        simp only [bnd, guard_tt, guard_ff, guard_tf, guard_ft, pick_t, pick_f, if_t, if_f, add_i, sub_i, lss_i, leq_i, gtr_i, geq_i, eql_i, neq_i, min_i, max_i, conv_i, len_sl, len_nil, not_b, cells_agg, new_s, fld_p, nil_p, idx_r h, fld_0 ha h, fld_1 ha h, w_u64 (show 0 ≤ l[i].2.1 + (p : Int) by omega) hsum, build_id, build_idrow, hw1, f1]
        rw [← hvv]
        obtain ⟨v', s', k1, k2, k3⟩ := ro_pass k (R0 := R0) (x4 := x4) hp hw hok hlo hl n (i + 1) s2 (out ++ [(l[i].1, l[i].2.1 + (p : Int))]) v1 (f3.isRuns h0 hlo) (Nat.le_trans hs0 f3.next) f2 (by simp; omega) (by omega) (by omega)
        exact ⟨v', s', k1, by rw [List.append_cons]; exact k2, f3.trans k3⟩
      · rw [decide_eq_false hc, if_f, if_neg hc]
        unfold unisonref05_Order.p4 unisonref05_Order.p2
        rw [add_i, hw1, ← hvv]
        exact ro_pass k (R0 := R0) (x4 := x4) hp hw hok hlo hl n (i + 1) s out v h0 hs0 ho (by omega) (by omega) (by omega)
    · have hz : ¬ (i : Int) < (l.length : Int) := by omega
      rw [decide_eq_false hz, if_f]
      unfold unisonref05_Order.p1
      rw [add_i, w_u64 (by omega) (by omega), List.drop_eq_nil_of_le (by omega)]
      exact ⟨v, s, rfl, by simpa [passR] using ho, ExtLo.refl _ _⟩

/-- All passes. -/
theorem ro_passes (k : Nat) (hk : l.length < k) (hw : ∀ r ∈ l, WfR r) (hok : ∀ r ∈ l, runOk r = true) (hlo : ∀ a b c d f, x0 = .sl a b c d f → a < lo) (hl : l.length ≤ 100000) (hsum : sumAll l ≤ 4096) (top : Nat) (ht : top ≤ 4096) : ∀ (n p : Nat) (s : Store) (v : AV), IsRuns s x0 l → lo ≤ s.next → OwnL icells 2 s v (ordPre p l) lo → p ≤ top → top - p < n →
    ∃ v' s', unisonref05_Order.l1 k n x0 v (.int .u64 top) (.int .u64 p) s = some (v', s') ∧ OwnL icells 2 s' v' (ordPre top l) lo ∧ ExtLo lo s s'
  | 0, p, _, _, _, _, _, hp, hn => by omega
  | n + 1, p, s, v, h0, hs0, ho, hp, hn => by
    have hs : unisonref05_Order.l1 k (n + 1) = fun x0 x3 x4 x6 s => unisonref05_Order.p11 k (unisonref05_Order.l1 k n) x0 x3 x4 x6 s := rfl
    rw [hs]
    clear hs
    simp only
    unfold unisonref05_Order.p11
    rw [lss_i]
    have hlen := ordPre_len p l
    have hle := sumMin_le p l
    by_cases hc : (p : Int) < (top : Int)
    · rw [decide_eq_true hc, if_t]
      unfold unisonref05_Order.p10
      rw [len_runs h0]
      obtain ⟨v1, s1, k1, k2, k3⟩ := ro_pass k (R0 := unisonref05_Order.l1 k n) (x4 := .int .u64 top) (p := p) (by omega) hw hok hlo hl k 0 s (ordPre p l) v h0 hs0 ho (by omega) (by omega) (by omega)
      rw [Int.natCast_zero] at k1
      rw [k1]
      rw [List.drop_zero] at k2
      obtain ⟨v', s', j1, j2, j3⟩ := ro_passes k hk hw hok hlo hl hsum top ht n (p + 1) s1 v1 (k3.isRuns h0 hlo) (Nat.le_trans hs0 k3.next) k2 (by omega) (by omega)
      exact ⟨v', s', j1, j2, k3.trans j3⟩
    · rw [decide_eq_false hc, if_f]
      unfold unisonref05_Order.p0
      have : p = top := by omega
      subst this
      exact ⟨v, s, rfl, ho, ExtLo.refl _ _⟩
end

theorem ref_order {s : Store} {v : AV} {l : List Rn} (hl : IsRuns s v l) (hw : ∀ r ∈ l, WfR r) (k : Nat) (hk : 5000 ≤ k) (hk2 : k ≤ 100000000) (hb : l.length ≤ 4000) :
    ∃ v' s', rn (k + 5) 42 [v] s = some (v', s') ∧ IsL icells 2 s' v' (orderR l) ∧ Ext s s' := by
  rw [unisonref05_Order.eq]
  unfold unisonref05_Order.f unisonref05_Order.p21 unisonref05_Order.p20 unisonref05_Order.p19
  have e : ∀ f : List AV → Option (AV × Store), aBuild [] [] f = f [] := fun _ => rfl
  rw [e]
  have e0 := Ext.push s (.cells [] false)
  have g0 : (s.push (.cells [] false)).get s.next = .cells [] false := by rw [get_push, if_pos rfl]
  have n0 : s.next < (s.push (.cells [] false)).next := Nat.lt_succ_self _
  generalize s.push (.cells [] false) = s0 at *
  obtain ⟨s1, k1, e1⟩ := ref_count (hl.ext e0) hw (k + 2) (by omega) (by omega)
  have k1' : rn (k + 4) 34 [v] s0 = some (.int .u64 (countR 0 l), s1) := k1
  simp only [k1', bnd, guard_tt, guard_ff, guard_tf, guard_ft, pick_t, pick_f, if_t, if_f, add_i, sub_i, lss_i, leq_i, gtr_i, geq_i, eql_i, neq_i, min_i, max_i, conv_i, len_sl, len_nil, not_b, cells_agg, new_s, fld_p, nil_p]
  have e01 := e0.trans e1
  have o1 : OwnL icells 2 s1 (.sl s.next 0 0 2 0) [] s.next := .inr ⟨s.next, rfl, Nat.le_refl _, Nat.lt_of_lt_of_le n0 e1.next, (e1.get _ n0).trans g0⟩
  have hge := countR_le l 0 (by omega) (by omega)
  by_cases h2 : countR 0 l > 4096
  · rw [decide_eq_true h2, if_t]
    exact ⟨_, s1, rfl, by unfold orderR; rw [if_pos (.inr h2)]; exact o1.is, e01⟩
  · rw [decide_eq_false h2, if_f]
    unfold unisonref05_Order.p18 unisonref05_Order.p17
    rw [len_runs (hl.ext e01)]
    by_cases h1 : l.any (fun r => !runOk r) = true
    · obtain ⟨s2, k2, e2⟩ := ro_bad (x3 := .sl s.next 0 0 2 0) (k + 3) hw (by omega) (k + 4) 0 s1 0 (by rw [List.drop_zero]; exact h1) (by omega) (hl.ext e01) (by omega) (by omega)
      rw [Int.natCast_zero] at k2
      exact ⟨_, s2, k2, by unfold orderR; rw [if_pos (.inl h1)]; exact (o1.ext e2).is, e01.trans e2⟩
    · have h1' : l.any (fun r => !runOk r) = false := by simpa using h1
      have hok : ∀ r ∈ l, runOk r = true := by
        intro r hr
        have := List.any_eq_false.1 h1' r hr
        simpa using this
      have hsum := countR_sum l 0 hok (by omega) (by omega)
      obtain ⟨s2, k2, e2⟩ := ro_tops (x3 := .sl s.next 0 0 2 0) (k + 3) hw (by omega) hok (k + 4) 0 s1 0 (by omega) (hl.ext e01) (by omega) (by omega)
      rw [Int.natCast_zero, List.drop_zero] at k2
      have k2' : unisonref05_Order.l2 (k + 4) (k + 4) v (.sl s.next 0 0 2 0) (.int .u64 0) (.int .i64 l.length) (.int .i64 0) s1 = _ := k2
      rw [k2']
      have t1 := topR_ge l 0
      have t2 : topR 0 l ≤ 4096 := topR_le l 0 4096 (by omega) fun r hr => by
        have := sumAll_mem hr
        have := (hw r hr).2.2
        omega
      obtain ⟨top, htop⟩ : ∃ t : Nat, topR 0 l = t := ⟨(topR 0 l).toNat, by omega⟩
      rw [htop] at t1 t2 ⊢
      unfold unisonref05_Order.p12
      have e02 := e01.trans e2
      obtain ⟨v', s', j1, j2, j3⟩ := ro_passes (x0 := v) (lo := s.next) (k + 4) (by omega) hw hok hl.lt (by omega) (by omega) top (by omega) (k + 4) 0 s2 (.sl s.next 0 0 2 0) (hl.ext e02) e02.next (o1.ext e2) (by omega) (by omega)
      rw [Int.natCast_zero] at j1
      have hst := ordPre_stay (l := l) top t1.2 (4096 - top)
      rw [show top + (4096 - top) = 4096 by omega] at hst
      exact ⟨v', s', j1, by unfold orderR; rw [if_neg (by simp [h1', h2]), hst]; exact j2.is, ⟨Nat.le_trans e02.next j3.next, fun j hj => (j3.get j hj).trans (e02.get j hj)⟩⟩
end Go.Proofs.Ytahiipfjhjeofaa.Sim
namespace Go.Proofs.Ytahiipfjhjeofaa.Sim
set_option linter.unusedSimpArgs false
set_option linter.unusedVariables false

/-- Runs that come as an argument. -/
theorem put_runs (o : Option (List Rn)) (s : Store) (hw : (shSlice (shPair (shInt .u8) (shPair (shInt .u64) (shInt .u64)))).wf o) : ∃ v xs, ((shSlice (shPair (shInt .u8) (shPair (shInt .u64) (shInt .u64)))).put o s).1 = [v] ∧ IsRuns ((shSlice (shPair (shInt .u8) (shPair (shInt .u64) (shInt .u64)))).put o s).2 v xs ∧ (∀ r ∈ xs, WfR r) ∧ Ext s ((shSlice (shPair (shInt .u8) (shPair (shInt .u64) (shInt .u64)))).put o s).2 := by
  cases o with
  | none => exact ⟨.nilsl, [], rfl, .inl ⟨rfl, rfl⟩, fun x hx => by simp at hx, Ext.refl _⟩
  | some l =>
    have hp : ∀ l : List Rn, (shPair (shInt .u8) (shPair (shInt .u64) (shInt .u64))).putL l s = ((l.map rcells).flatten, s) := fun l => by
      induction l with
      | nil => rfl
      | cons x l ih =>
        show (rcells x ++ ((shPair (shInt .u8) (shPair (shInt .u64) (shInt .u64))).putL l s).1, ((shPair (shInt .u8) (shPair (shInt .u64) (shInt .u64))).putL l s).2) = _
        rw [ih]
        rfl
    obtain ⟨h1, h2⟩ := hw l rfl
    have hput : (shSlice (shPair (shInt .u8) (shPair (shInt .u64) (shInt .u64)))).put (some l) s = ([.sl s.next 0 l.length 3 (l.length * 3)], s.push (.cells (l.map rcells).flatten true)) := by
      show ([AV.sl ((shPair (shInt .u8) (shPair (shInt .u64) (shInt .u64))).putL l s).2.next 0 l.length 3 (l.length * 3)], ((shPair (shInt .u8) (shPair (shInt .u64) (shInt .u64))).putL l s).2.push (.cells ((shPair (shInt .u8) (shPair (shInt .u64) (shInt .u64))).putL l s).1 true)) = _
      rw [hp]
    rw [hput]
    refine ⟨_, l, rfl, .inr ⟨s.next, true, rfl, Nat.lt_succ_self _, by rw [get_push, if_pos rfl]⟩, fun x hx => ?_, Ext.push _ _⟩
    obtain ⟨w1, w2, w3⟩ := h2 x hx
    have k1 : (Lit.int IntKind.u8 x.1).wf = true := w1
    have k2 : (Lit.int IntKind.u64 x.2.1).wf = true := w2
    have k3 : (Lit.int IntKind.u64 x.2.2).wf = true := w3
    simp [Lit.wf, IntKind.min, IntKind.max, IntKind.bits, IntKind.signed] at k1 k2 k3
    unfold WfR; omega

theorem orderR_len {l : List Rn} : (orderR l).length ≤ 4096 := by
  unfold orderR
  split
  · simp
  · rename_i h
    have h1 : ¬ l.any (fun r => !runOk r) = true := fun q => h (.inl q)
    have h2 : ¬ 4096 < countR 0 l := fun q => h (.inr q)
    have h1' : l.any (fun r => !runOk r) = false := by simpa using h1
    have hok : ∀ r ∈ l, runOk r = true := by
      intro r hr
      have := List.any_eq_false.1 h1' r hr
      simpa using this
    have hsum := countR_sum l 0 hok (by omega) (by omega)
    rw [ordPre_len]
    have := sumMin_le 4096 l
    omega

end Go.Proofs.Ytahiipfjhjeofaa.Sim
namespace Go.Proofs.Ytahiipfjhjeofaa.Sim
set_option linter.unusedSimpArgs false
set_option linter.unusedVariables false

/-- Ids, one behind the other: each is the next one of its sender. -/
def procR : List Int → List Idn → Option (List Int)
  | b, [] => some b
  | b, x :: xs => if x.1 < b.length ∧ x.2 = b.getD x.1.toNat 0 + 1 then procR (b.set x.1.toNat x.2) xs else none
theorem procR_app : ∀ (xs ys : List Idn) (b : List Int), procR b (xs ++ ys) = (procR b xs).bind fun b' => procR b' ys
  | [], ys, b => rfl
  | x :: xs, ys, b => by
    simp only [List.cons_append, procR]
    split
    · exact procR_app xs ys _
    · rfl
/-- Senders that rise. -/
def inc : Int → List Rn → Prop
  | _, [] => True
  | last, r :: l => last < r.1 ∧ inc r.1 l
theorem inc_mem : ∀ {l : List Rn} {last : Int}, inc last l → ∀ r ∈ l, last < r.1
  | a :: l, last, h, r, hr => by
    rcases List.mem_cons.1 hr with rfl | hr
    · exact h.1
    · have := inc_mem h.2 r hr; have := h.1; omega
theorem pass_proc (p : Nat) : ∀ (l : List Rn) (b : List Int) (last : Int), -1 ≤ last → inc last l → (∀ r ∈ l, r.1 < b.length) → (∀ r ∈ l, b.getD r.1.toNat 0 = r.2.1 - 1 + min r.2.2 p) →
    ∃ b', procR b (passR p l) = some b' ∧ (∀ r ∈ l, b'.getD r.1.toNat 0 = r.2.1 - 1 + min r.2.2 ((p + 1 : Nat) : Int)) ∧ (∀ j, (∀ r ∈ l, r.1.toNat ≠ j) → b'.getD j 0 = b.getD j 0) ∧ b'.length = b.length
  | [], b, _, _, _, _, _ => ⟨b, rfl, fun r h => by simp at h, fun _ _ => rfl, rfl⟩
  | r :: l, b, last, hl, hi, hb, hst => by
    have h1 := hst r List.mem_cons_self
    have h2 := hb r List.mem_cons_self
    have h3 := hi.1
    have hne : ∀ x ∈ l, x.1.toNat ≠ r.1.toNat := fun x hx => by have := inc_mem hi.2 x hx; omega
    have hlt : r.1.toNat < b.length := by omega
    unfold passR
    by_cases hc : (p : Int) < r.2.2
    · rw [if_pos hc, procR, if_pos ⟨h2, by simp only; omega⟩]
      obtain ⟨b', k1, k2, k3, k4⟩ := pass_proc p l (b.set r.1.toNat (r.2.1 + p)) r.1 (by omega) hi.2 (fun x hx => by rw [List.length_set]; exact hb x (List.mem_cons_of_mem _ hx)) (fun x hx => by
        rw [← hst x (List.mem_cons_of_mem _ hx)]
        simp only [List.getD_eq_getElem?_getD, List.getElem?_set]
        rw [if_neg (fun q => hne x hx q.symm)])
      refine ⟨b', k1, fun x hx => ?_, fun j hj => ?_, by rw [k4, List.length_set]⟩
      · rcases List.mem_cons.1 hx with rfl | hx
        · rw [k3 _ hne]
          have e : (b.set x.1.toNat (x.2.1 + p)).getD x.1.toNat 0 = x.2.1 + p := by simp [hlt]
          rw [e]; omega
        · exact k2 x hx
      · rw [k3 j fun x hx => hj x (List.mem_cons_of_mem _ hx)]
        simp only [List.getD_eq_getElem?_getD, List.getElem?_set]
        rw [if_neg (hj r List.mem_cons_self)]
    · rw [if_neg hc]
      obtain ⟨b', k1, k2, k3, k4⟩ := pass_proc p l b r.1 (by omega) hi.2 (fun x hx => hb x (List.mem_cons_of_mem _ hx)) (fun x hx => hst x (List.mem_cons_of_mem _ hx))
      refine ⟨b', k1, fun x hx => ?_, fun j hj => k3 j fun x hx => hj x (List.mem_cons_of_mem _ hx), k4⟩
      rcases List.mem_cons.1 hx with rfl | hx
      · rw [k3 _ hne, h1]; omega
      · exact k2 x hx
theorem pre_proc (l : List Rn) (b : List Int) (hi : inc (-1) l) (hb : ∀ r ∈ l, r.1 < b.length) (hst : ∀ r ∈ l, b.getD r.1.toNat 0 = r.2.1 - 1) (hc : ∀ r ∈ l, 0 ≤ r.2.2) : ∀ p : Nat,
    ∃ b', procR b (ordPre p l) = some b' ∧ (∀ r ∈ l, b'.getD r.1.toNat 0 = r.2.1 - 1 + min r.2.2 p) ∧ (∀ j, (∀ r ∈ l, r.1.toNat ≠ j) → b'.getD j 0 = b.getD j 0) ∧ b'.length = b.length
  | 0 => ⟨b, rfl, fun r hr => by rw [hst r hr]; have := hc r hr; omega, fun _ _ => rfl, rfl⟩
  | p + 1 => by
    obtain ⟨b1, k1, k2, k3, k4⟩ := pre_proc l b hi hb hst hc p
    obtain ⟨b2, j1, j2, j3, j4⟩ := pass_proc p l b1 (-1) (by omega) hi (fun r hr => by rw [k4]; exact hb r hr) k2
    refine ⟨b2, ?_, j2, fun j hj => (j3 j hj).trans (k3 j hj), j4.trans k4⟩
    rw [ordPre, procR_app, k1]
    exact j1
theorem mayFrom_inc : ∀ {l : List Rn} {b : List Int} {last : Int}, mayFrom b last l = true → inc last l ∧ (∀ r ∈ l, r.1 < b.length) ∧ (∀ r ∈ l, b.getD r.1.toNat 0 = r.2.1 - 1) ∧ ∀ r ∈ l, runOk r = true
  | [], _, _, _ => ⟨trivial, fun r h => by simp at h, fun r h => by simp at h, fun r h => by simp at h⟩
  | r :: l, b, last, h => by
    unfold mayFrom at h
    simp only [Bool.and_eq_true, Bool.not_eq_true', decide_eq_true_eq, decide_eq_false_iff_not] at h
    obtain ⟨h1, h2, h3, h4, h5⟩ := h
    obtain ⟨k1, k2, k3, k4⟩ := mayFrom_inc h5
    refine ⟨⟨by omega, k1⟩, fun x hx => ?_, fun x hx => ?_, fun x hx => ?_⟩ <;> rcases List.mem_cons.1 hx with rfl | hx
    · omega
    · exact k2 x hx
    · exact h4
    · exact k3 x hx
    · exact h1
    · exact k4 x hx
theorem foldR_get : ∀ (l : List Rn) (b : List Int) (last : Int), -1 ≤ last → inc last l → (∀ r ∈ l, r.1 < b.length) → (∀ r ∈ l, (l.foldl setR b).getD r.1.toNat 0 = lastR r) ∧ ∀ j, (∀ r ∈ l, r.1.toNat ≠ j) → (l.foldl setR b).getD j 0 = b.getD j 0
  | [], _, _, _, _, _ => ⟨fun r h => by simp at h, fun _ _ => rfl⟩
  | r :: l, b, last, hl, hi, hb => by
    have h3 := hi.1
    have h2 := hb r List.mem_cons_self
    obtain ⟨k1, k2⟩ := foldR_get l (setR b r) r.1 (by omega) hi.2 (fun x hx => by rw [setR_len]; exact hb x (List.mem_cons_of_mem _ hx))
    have hne : ∀ x ∈ l, x.1.toNat ≠ r.1.toNat := fun x hx => by have := inc_mem hi.2 x hx; omega
    rw [List.foldl_cons]
    refine ⟨fun x hx => ?_, fun j hj => ?_⟩
    · rcases List.mem_cons.1 hx with rfl | hx
      · rw [k2 _ hne]
        have hlt : x.1.toNat < b.length := by omega
        simp [setR, hlt]
      · exact k1 x hx
    · rw [k2 j fun x hx => hj x (List.mem_cons_of_mem _ hx)]
      unfold setR
      simp only [List.getD_eq_getElem?_getD, List.getElem?_set]
      rw [if_neg (hj r List.mem_cons_self)]
theorem ext_getD {a b : List Int} (hl : a.length = b.length) (h : ∀ j, a.getD j 0 = b.getD j 0) : a = b := by
  apply List.ext_getElem hl
  intro i h1 h2
  have := h i
  simpa [h1, h2] using this

/-- The ids of a batch lead from its base to the base behind it. -/
theorem orders_pure {base : List Int} {l : List Rn} (hw : ∀ r ∈ l, WfR r) (hm : mayR base 4096 l = true) : procR base (orderR l) = some (afterR base l) := by
  have hmf := mayR_from hm
  obtain ⟨h1, h2, h3, h4⟩ := mayFrom_inc hmf
  have hc : ¬ 4096 < countR 0 l := by
    unfold mayR at hm
    split at hm
    · cases hm
    · rename_i h; omega
  have hany : ¬ l.any (fun r => !runOk r) = true := by
    intro q
    obtain ⟨r, hr, hq⟩ := List.any_eq_true.1 q
    simp [h4 r hr] at hq
  have ho : orderR l = ordPre 4096 l := by unfold orderR; rw [if_neg (fun q => q.elim hany hc)]
  have hsum := countR_sum l 0 h4 (by omega) (by omega)
  obtain ⟨b', k1, k2, k3, k4⟩ := pre_proc l base h1 h2 h3 (fun r hr => (hw r hr).2.2.1) 4096
  have ha : afterR base l = l.foldl setR base := by unfold afterR; rw [if_pos hm]
  obtain ⟨f1, f2⟩ := foldR_get l base (-1) (by omega) h1 h2
  rw [ho, k1, ha]
  refine congrArg some (ext_getD (by rw [k4, foldR_len]) fun j => ?_)
  by_cases hj : ∃ r ∈ l, r.1.toNat = j
  · obtain ⟨r, hr, rfl⟩ := hj
    have hmem := sumAll_mem hr
    have hbn := lastR_bnd (hw r hr) (h4 r hr)
    rw [k2 r hr, f1 r hr]; omega
  · rw [k3 j fun r hr q => hj ⟨r, hr, q⟩, f2 j fun r hr q => hj ⟨r, hr, q⟩]

theorem passR_wf (p : Nat) (hp : p ≤ 5000) : ∀ {l : List Rn}, (∀ r ∈ l, WfR r) → (∀ r ∈ l, runOk r = true) → ∀ x ∈ passR p l, (0 ≤ x.1 ∧ x.1 < 256) ∧ (0 ≤ x.2 ∧ x.2 < 18446744073709551616)
  | [], _, _, x, hx => by simp [passR] at hx
  | r :: l, hw, hok, x, hx => by
    have h1 := hw r List.mem_cons_self
    have h2 := of_decide_eq_true (hok r List.mem_cons_self)
    have ih := fun x hx => passR_wf p hp (l := l) (fun r hr => hw r (List.mem_cons_of_mem _ hr)) (fun r hr => hok r (List.mem_cons_of_mem _ hr)) x hx
    unfold passR at hx
    split at hx
    · rcases List.mem_cons.1 hx with rfl | hx
      · exact ⟨h1.1, by simp only; omega⟩
      · exact ih x hx
    · exact ih x hx
theorem ordPre_wf {l : List Rn} (hw : ∀ r ∈ l, WfR r) (hok : ∀ r ∈ l, runOk r = true) : ∀ (p : Nat), p ≤ 5000 → ∀ x ∈ ordPre p l, (0 ≤ x.1 ∧ x.1 < 256) ∧ (0 ≤ x.2 ∧ x.2 < 18446744073709551616)
  | 0, _, x, hx => by simp [ordPre] at hx
  | p + 1, hp, x, hx => by
    rcases List.mem_append.1 hx with hx | hx
    · exact ordPre_wf hw hok p (by omega) x hx
    · exact passR_wf p (by omega) hw hok x hx
theorem orderR_wf {l : List Rn} (hw : ∀ r ∈ l, WfR r) : ∀ x ∈ orderR l, (0 ≤ x.1 ∧ x.1 < 256) ∧ (0 ≤ x.2 ∧ x.2 < 18446744073709551616) := by
  unfold orderR
  split
  · intro x hx; simp at hx
  · rename_i h
    have h1 : ¬ l.any (fun r => !runOk r) = true := fun q => h (.inl q)
    have h1' : l.any (fun r => !runOk r) = false := by simpa using h1
    exact ordPre_wf hw (fun r hr => by have := List.any_eq_false.1 h1' r hr; simpa using this) 4096 (by omega)

end Go.Proofs.Ytahiipfjhjeofaa.Sim
