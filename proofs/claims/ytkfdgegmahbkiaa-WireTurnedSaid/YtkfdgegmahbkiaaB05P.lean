/- The texts B05A, B05B, B05C, B05D, B05E, B05F, B05G, B05H, B05I, B05J, B05L, B05M, B05N, B05O, B05P, one behind the other. No condition. -/
import Derived.Test.YtkfdgegmahbkiaaB01J
namespace Go.Proofs.Ytkfdgegmahbkiaa.Sim
set_option linter.unusedSimpArgs false

/-- A slice of numbers. -/
def IsSl (s : Store) (v : AV) (k : IntKind) (xs : List Int) : Prop := (v = .nilsl ∧ xs = []) ∨ ∃ l ro, v = .sl l 0 xs.length 1 xs.length ∧ l < s.next ∧ s.get l = .cells (xs.map (.int k)) ro
theorem IsSl.ext {s s' : Store} {v : AV} {k : IntKind} {xs : List Int} (h : IsSl s v k xs) (e : Ext s s') : IsSl s' v k xs := by
  rcases h with h | ⟨l, ro, h1, h2, h3⟩
  · exact .inl h
  · exact .inr ⟨l, ro, h1, Nat.lt_of_lt_of_le h2 e.next, by rw [e.get l h2]; exact h3⟩

def atI (xs : List Int) (i : Int) : Int := if i < 0 then 0 else xs.getD i.toNat 0

/-- Runs, as numbers. -/
abbrev Rn := Int × Int × Int
def rcells (r : Rn) : List AV := [.int .u8 r.1, .int .u64 r.2.1, .int .u64 r.2.2]
def IsRuns (s : Store) (v : AV) (l : List Rn) : Prop := (v = .nilsl ∧ l = []) ∨ ∃ id ro, v = .sl id 0 l.length 3 (l.length * 3) ∧ id < s.next ∧ s.get id = .cells (l.map rcells).flatten ro
theorem IsRuns.ext {s s' : Store} {v : AV} {l : List Rn} (h : IsRuns s v l) (e : Ext s s') : IsRuns s' v l := by
  rcases h with h | ⟨id, ro, h1, h2, h3⟩
  · exact .inl h
  · exact .inr ⟨id, ro, h1, Nat.lt_of_lt_of_le h2 e.next, by rw [e.get id h2]; exact h3⟩
theorem flat_len (l : List Rn) : (l.map rcells).flatten.length = l.length * 3 := by
  induction l with
  | nil => rfl
  | cons r l ih => simp only [List.map_cons, List.flatten_cons, List.length_append, ih, List.length_cons]; simp [rcells]; omega
theorem flat_get : ∀ (l : List Rn) (i : Nat) (h : i < l.length), (((l.map rcells).flatten.drop (i * 3)).take 3) = rcells l[i]
  | r :: l, 0, _ => by simp [rcells]
  | r :: l, i + 1, h => by
    have e : (i + 1) * 3 = (rcells r).length + i * 3 := by simp [rcells]; omega
    rw [List.map_cons, List.flatten_cons, e, ← List.drop_drop, List.drop_left]
    simpa using flat_get l i (by simpa using h)

theorem eq_cells (a b : Rn) {α : Type} (f : Bool → Option α) : aEq (.struct [.int, .int, .int]) (.agg (rcells a)) (.agg (rcells b)) f = f (decide (a = b)) := by
  obtain ⟨a1, a2, a3⟩ := a
  obtain ⟨b1, b2, b3⟩ := b
  simp only [aEq, rcells, eqCells, if_true, Option.map_some]
  congr 1
  by_cases h1 : a1 = b1 <;> by_cases h2 : a2 = b2 <;> by_cases h3 : a3 = b3 <;> simp [h1, h2, h3]

/-- Where runs lie. -/
def AtRuns (s : Store) (id : Nat) (l : List Rn) : Prop := ∃ ro, s.get id = .cells (l.map rcells).flatten ro
theorem load_run {s : Store} {id : Nat} {l : List Rn} (h : AtRuns s id l) (i : Nat) (hi : i < l.length) {α : Type} (f : AV → Option α) : aLoadN 3 (.ptr id (0 + i * 3) (l.length * 3)) s f = f (.agg (rcells l[i])) := by
  obtain ⟨ro, h⟩ := h
  rw [load_n h (flat_len l) (by omega), Nat.zero_add, flat_get l i hi]

theorem same_loop (k : Nat) {s : Store} {i1 i2 : Nat} {l1 l2 : List Rn} (h1 : AtRuns s i1 l1) (h2 : AtRuns s i2 l2) (hl : l1.length = l2.length) (hb : l1.length < 9223372036854775808) : ∀ (n i : Nat), i ≤ l1.length → l1.length - i < n →
    F26.l0 k n (.sl i1 0 l1.length 3 (l1.length * 3)) (.sl i2 0 l2.length 3 (l2.length * 3)) (.int .i64 l1.length) (.int .i64 i) s = some (.bool (decide (l1.drop i = l2.drop i)), s)
  | 0, i, _, hn => by omega
  | n + 1, i, hi, hn => by
    have hs : F26.l0 k (n + 1) = fun x0 x1 x12 x13 s => F26.p6 k (F26.l0 k n) x0 x1 x12 x13 s := rfl
    rw [hs]
    clear hs
    simp only
    unfold F26.p6 F26.p5
    rw [lss_i]
    by_cases h : i < l1.length
    · have hz : (i : Int) < (l1.length : Int) := by omega
      rw [decide_eq_true hz, if_t]
      unfold F26.p4 F26.p3
      have hz2 : (i : Int) < (l2.length : Int) := by omega
      simp only [Option.bind_some, index_sl (show (0 : Int) ≤ i by omega) hz, index_sl (show (0 : Int) ≤ i by omega) hz2, Int.toNat_natCast]
      rw [load_run h1 i h]
      simp only [Option.bind_some]
      rw [load_run h2 i (by omega)]
      simp only [Option.bind_some, eq_cells]
      unfold F26.p2 F26.p1
      rw [List.drop_eq_getElem_cons h, List.drop_eq_getElem_cons (by omega : i < l2.length)]
      by_cases he : l1[i] = l2[i]
      · have hw : IntKind.i64.wrap ((i : Int) + 1) = ((i + 1 : Nat) : Int) := by rw [w_i64 (by omega) (by omega)]; omega
        simp only [he, decide_true, Bool.not_true, if_f, add_i, hw, List.cons.injEq, true_and]
        exact same_loop k h1 h2 hl hb n (i + 1) (by omega) (by omega)
      · have hne : ¬ (l1[i] :: l1.drop (i + 1) = l2[i] :: l2.drop (i + 1)) := fun q => he (List.cons.inj q).1
        rw [decide_eq_false hne, decide_eq_false he]
        rfl
    · have hz : ¬ (i : Int) < (l1.length : Int) := by omega
      rw [decide_eq_false hz, if_f]
      unfold F26.p0
      rw [List.drop_eq_nil_of_le (by omega), List.drop_eq_nil_of_le (by omega)]
      simp

theorem len_runs {s : Store} {v : AV} {l : List Rn} (h : IsRuns s v l) {α : Type} (f : AV → Option α) : aLen v f = f (.int .i64 l.length) := by
  rcases h with ⟨rfl, rfl⟩ | ⟨id, ro, rfl, _, _⟩ <;> rfl

theorem same_run {s : Store} {v1 v2 : AV} {l1 l2 : List Rn} (h1 : IsRuns s v1 l1) (h2 : IsRuns s v2 l2) (hb : l1.length < 9223372036854775808) (k : Nat) (hk : l1.length < k) : rn (k + 1) 26 [v1, v2] s = some (.bool (decide (l1 = l2)), s) := by
  rw [F26.eq]
  unfold F26.f F26.p9 F26.p8
  rw [len_runs h1, len_runs h2, neq_i]
  by_cases hl : l1.length = l2.length
  · have hz : (((l1.length : Nat) : Int) != ((l2.length : Nat) : Int)) = false := by simp [hl]
    rw [hz, if_f]
    unfold F26.p7
    rw [len_runs h1]
    obtain ⟨k, rfl⟩ : ∃ q, k = q + 1 := ⟨k - 1, by omega⟩
    by_cases h0 : l1 = []
    · subst h0
      have : l2 = [] := List.length_eq_zero_iff.1 hl.symm
      subst this
      have hs : F26.l0 (k + 1) (k + 1) = fun x0 x1 x12 x13 s => F26.p6 (k + 1) (F26.l0 (k + 1) k) x0 x1 x12 x13 s := rfl
      rw [hs]
      simp [F26.p6, F26.p5, F26.p0, lss_i, aIf]
    · have h0' : l2 ≠ [] := fun q => h0 (List.length_eq_zero_iff.1 (by rw [hl, q]; rfl))
      rcases h1 with ⟨_, h1⟩ | ⟨i1, r1, rfl, _, g1⟩
      · exact absurd h1 h0
      rcases h2 with ⟨_, h2⟩ | ⟨i2, r2, rfl, _, g2⟩
      · exact absurd h2 h0'
      have := same_loop (k + 1) ⟨r1, g1⟩ ⟨r2, g2⟩ hl hb (k + 1) 0 (by omega) (by omega)
      simpa using this
  · have hz : (((l1.length : Nat) : Int) != ((l2.length : Nat) : Int)) = true := by simp; omega
    have hne : l1 ≠ l2 := fun q => hl (by rw [q])
    rw [hz, if_t, decide_eq_false hne]
end Go.Proofs.Ytkfdgegmahbkiaa.Sim
namespace Go.Proofs.Ytkfdgegmahbkiaa.Sim
set_option linter.unusedSimpArgs false

/-- One place's turn: what has been reached, what is left, whether there was more. -/
def stepR (held : List Int) (st : List Int × Int × Bool) (i : Nat) : List Int × Int × Bool :=
  if st.2.1 > 0 ∧ atI held i > st.1.getD i 0 ∧ st.1.getD i 0 < 4611686018427387904 then (st.1.set i (st.1.getD i 0 + 1), st.2.1 - 1, true) else st
end Go.Proofs.Ytkfdgegmahbkiaa.Sim
namespace Go.Proofs.Ytkfdgegmahbkiaa.Sim
set_option linter.unusedSimpArgs false

/-- A slice of numbers whose row is not the row 'id'. -/
def IsSlN (s : Store) (v : AV) (k : IntKind) (xs : List Int) (id : Nat) : Prop := (v = .nilsl ∧ xs = []) ∨ ∃ l ro, v = .sl l 0 xs.length 1 xs.length ∧ l < s.next ∧ l ≠ id ∧ s.get l = .cells (xs.map (.int k)) ro
theorem IsSlN.is {s : Store} {v : AV} {k : IntKind} {xs : List Int} {id : Nat} (h : IsSlN s v k xs id) : IsSl s v k xs := by
  rcases h with h | ⟨l, ro, h1, h2, _, h3⟩
  · exact .inl h
  · exact .inr ⟨l, ro, h1, h2, h3⟩
theorem IsSlN.set {s : Store} {v : AV} {k : IntKind} {xs : List Int} {id : Nat} (h : IsSlN s v k xs id) (o : AObj) : IsSlN (s.set id o) v k xs id := by
  rcases h with h | ⟨l, ro, h1, h2, h4, h3⟩
  · exact .inl h
  · exact .inr ⟨l, ro, h1, h2, h4, by rw [get_set, if_neg h4]; exact h3⟩
section
variable {k : Nat} {R0 : AV → AV → AV → AV → AV → AV → Store → Option (AV × Store)} {x0 x1 x7 : AV} {id : Nat} {held : List Int}

/-- Numbers that are u64. -/
def U (xs : List Int) : Prop := ∀ x ∈ xs, 0 ≤ x ∧ x < 18446744073709551616
theorem U.at {xs : List Int} (h : U xs) (i : Nat) : 0 ≤ xs.getD i 0 ∧ xs.getD i 0 < 18446744073709551616 := by
  by_cases hi : i < xs.length
  · have e : xs.getD i 0 = xs[i] := by simp [hi]
    rw [e]; exact h _ (List.getElem_mem hi)
  · have e : xs.getD i 0 = 0 := by simp [show xs.length ≤ i by omega]
    rw [e]; omega

theorem U.step {held now : List Int} (hu : U now) (left : Int) (more : Bool) (i : Nat) : U (stepR held (now, left, more) i).1 := by
  unfold stepR
  split
  · rename_i h
    intro x hx
    rcases List.mem_or_eq_of_mem_set hx with hx | hx
    · exact hu x hx
    · have := hu.at i
      have h3 := h.2.2
      simp only at h3
      subst hx; simp only; omega
  · exact hu

end
end Go.Proofs.Ytkfdgegmahbkiaa.Sim
namespace Go.Proofs.Ytkfdgegmahbkiaa.Sim
set_option linter.unusedSimpArgs false
section
variable {x0 x1 x7 : AV} {id : Nat} {held : List Int}

end

/-- All rows but one are as they were. -/
structure Keep (id : Nat) (s s' : Store) : Prop where
  next : s.next ≤ s'.next
  get : ∀ l, l < s.next → l ≠ id → s'.get l = s.get l
theorem Keep.refl (id : Nat) (s : Store) : Keep id s s := ⟨Nat.le_refl _, fun _ _ _ => rfl⟩
theorem Keep.trans {id : Nat} {s s' s'' : Store} (h : Keep id s s') (k : Keep id s' s'') : Keep id s s'' := ⟨Nat.le_trans h.next k.next, fun l hl hn => (k.get l (Nat.lt_of_lt_of_le hl h.next) hn).trans (h.get l hl hn)⟩
theorem Keep.push (id : Nat) (s : Store) (o : AObj) : Keep id s (s.push o) := ⟨Nat.le_succ _, fun l hl _ => by rw [get_push, if_neg (by omega)]⟩
theorem Keep.set (id : Nat) (s : Store) (o : AObj) : Keep id s (s.set id o) := ⟨Nat.le_refl _, fun l _ hn => by rw [get_set, if_neg hn]⟩
end Go.Proofs.Ytkfdgegmahbkiaa.Sim
namespace Go.Proofs.Ytkfdgegmahbkiaa.Sim
set_option linter.unusedSimpArgs false

theorem Keep.ext {id : Nat} {s s' : Store} (h : Keep id s s') (hid : s.next ≤ id) : Ext s s' := ⟨h.next, fun l hl => h.get l hl (by omega)⟩
theorem IsSlN.ext {s s' : Store} {v : AV} {k : IntKind} {xs : List Int} {id : Nat} (h : IsSlN s v k xs id) (e : Ext s s') : IsSlN s' v k xs id := by
  rcases h with h | ⟨l, ro, h1, h2, h4, h3⟩
  · exact .inl h
  · exact .inr ⟨l, ro, h1, Nat.lt_of_lt_of_le h2 e.next, h4, by rw [e.get l h2]; exact h3⟩

end Go.Proofs.Ytkfdgegmahbkiaa.Sim
namespace Go.Proofs.Ytkfdgegmahbkiaa.Sim
set_option linter.unusedSimpArgs false

section
variable {k : Nat} {R0 : AV → AV → AV → AV → AV → AV → Store → Option (AV × Store)} {x0 x1 x8 : AV} {id : Nat} {held base : List Int} {pl : Nat}

end
end Go.Proofs.Ytkfdgegmahbkiaa.Sim
namespace Go.Proofs.Ytkfdgegmahbkiaa.Sim
set_option linter.unusedSimpArgs false

section
variable {x0 x1 x8 : AV} {id : Nat} {held base : List Int} {pl : Nat}

/-- Runs that nobody else has: their row, if there is one, lies behind 'lo'. -/
def OwnRuns (s : Store) (v : AV) (l : List Rn) (lo : Nat) : Prop := (v = .nilsl ∧ l = []) ∨ ∃ id, v = .sl id 0 l.length 3 (l.length * 3) ∧ lo ≤ id ∧ id < s.next ∧ s.get id = .cells (l.map rcells).flatten false
theorem OwnRuns.is {s : Store} {v : AV} {l : List Rn} {lo : Nat} (h : OwnRuns s v l lo) : IsRuns s v l := by
  rcases h with h | ⟨id, h1, _, h2, h3⟩
  · exact .inl h
  · exact .inr ⟨id, false, h1, h2, h3⟩
end
end Go.Proofs.Ytkfdgegmahbkiaa.Sim
namespace Go.Proofs.Ytkfdgegmahbkiaa.Sim
set_option linter.unusedSimpArgs false

/-- Numbers within their bounds. -/
def WfR (r : Rn) : Prop := (0 ≤ r.1 ∧ r.1 < 256) ∧ (0 ≤ r.2.1 ∧ r.2.1 < 18446744073709551616) ∧ (0 ≤ r.2.2 ∧ r.2.2 < 18446744073709551616)
def runOk (r : Rn) : Bool := decide (r.1 < 64 ∧ 1 ≤ r.2.1 ∧ 1 ≤ r.2.2 ∧ r.2.1 ≤ 4611686018427387904 ∧ r.2.2 ≤ 4611686018427387904 - r.2.1 + 1)

theorem ld_0 {α : Type} {s : Store} {l : Nat} {r : Rn} {ro : Bool} (h : s.get l = .cells (rcells r) ro) (f : AV → Option α) : aLoad1 (.ptr l (0 + 0) 3) s f = f (.int .u8 r.1) := load_1 h rfl rfl
theorem ld_1 {α : Type} {s : Store} {l : Nat} {r : Rn} {ro : Bool} (h : s.get l = .cells (rcells r) ro) (f : AV → Option α) : aLoad1 (.ptr l (0 + 1) 3) s f = f (.int .u64 r.2.1) := load_1 h rfl rfl
theorem ld_2 {α : Type} {s : Store} {l : Nat} {r : Rn} {ro : Bool} (h : s.get l = .cells (rcells r) ro) (f : AV → Option α) : aLoad1 (.ptr l (0 + 2) 3) s f = f (.int .u64 r.2.2) := load_1 h rfl rfl
theorem ld_3 {α : Type} {s : Store} {l : Nat} {r : Rn} {ro : Bool} (h : s.get l = .cells (rcells r) ro) (f : AV → Option α) : aLoadN 3 (.ptr l 0 3) s f = f (.agg (rcells r)) := load_n h rfl (Nat.le_refl _)
theorem st_3 {α : Type} {s : Store} {l : Nat} {cs : List AV} (r : Rn) (h : s.get l = .cells cs false) (hc : cs.length = 3) (f : Store → Option α) : aStore 3 (.ptr l 0 3) (.agg (rcells r)) s f = f (s.set l (.cells (rcells r) false)) := by
  match cs, hc with
  | [a, b, c], _ => simp [aStore, aCells, aOwn, h, rcells, putAll]
theorem r_len (r : Rn) : (rcells r).length = 3 := rfl

theorem ident_run {s : Store} {r : Rn} (hr : WfR r) (k : Nat) : rn (k + 1) 65 [.agg (rcells r)] s = some (.bool (runOk r), s.push (.cells (rcells r) false)) := by
  obtain ⟨⟨a1, a2⟩, ⟨b1, b2⟩, c1, c2⟩ := hr
  rw [F65.eq]
  unfold F65.f F65.p0
  have g : (s.push (.cells (rcells r) false)).get s.next = .cells (rcells r) false := by rw [get_push, if_pos rfl]
  simp only [bnd, guard_tt, guard_ff, guard_tf, guard_ft, pick_t, pick_f, if_t, if_f, add_i, sub_i, lss_i, leq_i, gtr_i, geq_i, eql_i, neq_i, min_i, max_i, conv_i, len_sl, len_nil, not_b, cells_agg, new_s, fld_p, nil_p, r_len, ld_0 g]
  have e : runOk r = (decide (r.1 < 64) && (decide (r.2.1 ≥ 1) && (decide (r.2.2 ≥ 1) && (decide (r.2.1 ≤ 4611686018427387904) && decide (r.2.2 ≤ 4611686018427387904 - r.2.1 + 1))))) := by
    unfold runOk; grind
  rw [e]
  by_cases h1 : r.1 < 64
  · simp only [h1, decide_true, bnd, guard_tt, guard_ff, guard_tf, guard_ft, pick_t, pick_f, if_t, if_f, add_i, sub_i, lss_i, leq_i, gtr_i, geq_i, eql_i, neq_i, min_i, max_i, conv_i, len_sl, len_nil, not_b, cells_agg, new_s, fld_p, nil_p, ld_1 g, Bool.true_and]
    by_cases h2 : r.2.1 ≥ 1
    · simp only [h2, decide_true, bnd, guard_tt, guard_ff, guard_tf, guard_ft, pick_t, pick_f, if_t, if_f, add_i, sub_i, lss_i, leq_i, gtr_i, geq_i, eql_i, neq_i, min_i, max_i, conv_i, len_sl, len_nil, not_b, cells_agg, new_s, fld_p, nil_p, ld_2 g, Bool.true_and]
      by_cases h3 : r.2.2 ≥ 1
      · simp only [h3, decide_true, bnd, guard_tt, guard_ff, guard_tf, guard_ft, pick_t, pick_f, if_t, if_f, add_i, sub_i, lss_i, leq_i, gtr_i, geq_i, eql_i, neq_i, min_i, max_i, conv_i, len_sl, len_nil, not_b, cells_agg, new_s, fld_p, nil_p, ld_1 g, Bool.true_and]
        by_cases h4 : r.2.1 ≤ 4611686018427387904
        · simp only [h4, decide_true, bnd, guard_tt, guard_ff, guard_tf, guard_ft, pick_t, pick_f, if_t, if_f, add_i, sub_i, lss_i, leq_i, gtr_i, geq_i, eql_i, neq_i, min_i, max_i, conv_i, len_sl, len_nil, not_b, cells_agg, new_s, fld_p, nil_p, ld_1 g, ld_2 g, Bool.true_and, w_u64 (show 0 ≤ 4611686018427387904 - r.2.1 by omega) (show 4611686018427387904 - r.2.1 < 18446744073709551616 by omega), w_u64 (show 0 ≤ 4611686018427387904 - r.2.1 + 1 by omega) (show 4611686018427387904 - r.2.1 + 1 < 18446744073709551616 by omega)]
        · simp only [h4, decide_false, bnd, guard_tt, guard_ff, guard_tf, guard_ft, pick_t, pick_f, if_t, if_f, add_i, sub_i, lss_i, leq_i, gtr_i, geq_i, eql_i, neq_i, min_i, max_i, conv_i, len_sl, len_nil, not_b, cells_agg, new_s, fld_p, nil_p, Bool.false_and]
      · simp only [h3, decide_false, bnd, guard_tt, guard_ff, guard_tf, guard_ft, pick_t, pick_f, if_t, if_f, add_i, sub_i, lss_i, leq_i, gtr_i, geq_i, eql_i, neq_i, min_i, max_i, conv_i, len_sl, len_nil, not_b, cells_agg, new_s, fld_p, nil_p, Bool.false_and]
    · simp only [h2, decide_false, bnd, guard_tt, guard_ff, guard_tf, guard_ft, pick_t, pick_f, if_t, if_f, add_i, sub_i, lss_i, leq_i, gtr_i, geq_i, eql_i, neq_i, min_i, max_i, conv_i, len_sl, len_nil, not_b, cells_agg, new_s, fld_p, nil_p, Bool.false_and]
  · simp only [h1, decide_false, bnd, guard_tt, guard_ff, guard_tf, guard_ft, pick_t, pick_f, if_t, if_f, add_i, sub_i, lss_i, leq_i, gtr_i, geq_i, eql_i, neq_i, min_i, max_i, conv_i, len_sl, len_nil, not_b, cells_agg, new_s, fld_p, nil_p, Bool.false_and]

theorem AtRuns.ext {s s' : Store} {id : Nat} {l : List Rn} (h : AtRuns s id l) (hid : id < s.next) (e : Ext s s') : AtRuns s' id l := by
  obtain ⟨ro, h⟩ := h
  exact ⟨ro, by rw [e.get id hid]; exact h⟩

/-- How many ids runs have. -/
def countR : Int → List Rn → Int
  | a, [] => a
  | a, r :: l => countR (if runOk r = true then min (a + r.2.2) 4611686018427387904 else a) l
theorem runOk_le {r : Rn} (h : runOk r = true) : r.2.2 ≤ 4611686018427387904 ∧ 1 ≤ r.2.2 := by
  have := of_decide_eq_true h; omega
theorem count_loop (k : Nat) {id : Nat} {l : List Rn} (hw : ∀ r ∈ l, WfR r) (hb : l.length ≤ 4611686018427387904) : ∀ (n i : Nat) (s : Store) (a : Int), 0 ≤ a → a ≤ 4611686018427387904 → AtRuns s id l → id < s.next → i ≤ l.length → l.length - i < n →
    ∃ s', F58.l0 (k + 1) n (.int .u64 a) (.sl id 0 l.length 3 (l.length * 3)) (.int .i64 l.length) (.int .i64 i) s = some (.int .u64 (countR a (l.drop i)), s') ∧ Ext s s'
  | 0, i, _, _, _, _, _, _, hi, hn => by omega
  | n + 1, i, s, a, ha0, ha1, ha, hid, hi, hn => by
    have hs : F58.l0 (k + 1) (n + 1) = fun x3 x6 x7 x8 s => F58.p4 (k + 1) (F58.l0 (k + 1) n) x3 x6 x7 x8 s := rfl
    rw [hs]
    clear hs
    simp only
    unfold F58.p4 F58.p3
    rw [lss_i]
    by_cases h : i < l.length
    · have hz : (i : Int) < (l.length : Int) := by omega
      rw [decide_eq_true hz, if_t]
      unfold F58.p2 F58.p1
      have hwi := hw _ (List.getElem_mem h)
      have hw1 : IntKind.i64.wrap ((i : Int) + 1) = ((i + 1 : Nat) : Int) := by rw [w_i64 (by omega) (by omega)]; omega
      rw [index_sl (show (0 : Int) ≤ i by omega) hz, Int.toNat_natCast, load_run ha i h, new_s]
      rw [show ([AV.int .u8 0, AV.int .u64 0, AV.int .u64 0] : List AV).length = 3 from rfl, st_3 l[i] (cs := [AV.int .u8 0, AV.int .u64 0, AV.int .u64 0]) (by rw [get_push, if_pos rfl]) rfl]
      have e1 : Ext s ((s.push (.cells [AV.int .u8 0, AV.int .u64 0, AV.int .u64 0] false)).set s.next (.cells (rcells l[i]) false)) := ⟨by simp only [next_set, next_push]; omega, fun l hl => by grind [get_set, get_push]⟩
      have g1 : ((s.push (.cells [AV.int .u8 0, AV.int .u64 0, AV.int .u64 0] false)).set s.next (.cells (rcells l[i]) false)).get s.next = .cells (rcells l[i]) false := by rw [get_set, if_pos rfl]
      have n1 : s.next < ((s.push (.cells [AV.int .u8 0, AV.int .u64 0, AV.int .u64 0] false)).set s.next (.cells (rcells l[i]) false)).next := Nat.lt_succ_self _
      generalize ((s.push (.cells [AV.int .u8 0, AV.int .u64 0, AV.int .u64 0] false)).set s.next (.cells (rcells l[i]) false)) = s1 at *
      rw [ld_3 g1, ident_run hwi, bnd]
      have e2 := Ext.push s1 (.cells (rcells l[i]) false)
      have g2 := (e2.get s.next n1).trans g1
      generalize (s1.push (.cells (rcells l[i]) false)) = s2 at *
      have e12 := e1.trans e2
      rw [List.drop_eq_getElem_cons h, countR]
      by_cases hr : runOk l[i] = true
      · have hle := runOk_le hr
        rw [hr, if_t, fld_p, ld_2 g2, add_i, w_u64 (by omega) (by omega), min_i, add_i, hw1, if_pos rfl]
        obtain ⟨s', k1, k2⟩ := count_loop k hw hb n (i + 1) s2 (min (a + l[i].2.2) 4611686018427387904) (by omega) (by omega) (ha.ext hid e12) (Nat.lt_of_lt_of_le hid e12.next) (by omega) (by omega)
        exact ⟨s', k1, e12.trans k2⟩
      · have hr' : runOk l[i] = false := by simpa using hr
        rw [hr', if_f, add_i, hw1, if_neg (by simp)]
        obtain ⟨s', k1, k2⟩ := count_loop k hw hb n (i + 1) s2 a ha0 ha1 (ha.ext hid e12) (Nat.lt_of_lt_of_le hid e12.next) (by omega) (by omega)
        exact ⟨s', k1, e12.trans k2⟩
    · have hz : ¬ (i : Int) < (l.length : Int) := by omega
      rw [decide_eq_false hz, if_f]
      unfold F58.p0
      exact ⟨s, by rw [List.drop_eq_nil_of_le (by omega)]; rfl, Ext.refl _⟩

theorem ident_count {s : Store} {v : AV} {l : List Rn} (hl : IsRuns s v l) (hw : ∀ r ∈ l, WfR r) (k : Nat) (hb : l.length ≤ k) (hk : k ≤ 4611686018427387904) :
    ∃ s', rn (k + 2) 58 [v] s = some (.int .u64 (countR 0 l), s') ∧ Ext s s' := by
  rw [F58.eq]
  unfold F58.f F58.p7 F58.p6 F58.p5
  rw [len_runs hl]
  rcases hl with ⟨rfl, rfl⟩ | ⟨id, ro, rfl, h2, h3⟩
  · have hs : F58.l0 (k + 1) (k + 1) = fun x3 x6 x7 x8 s => F58.p4 (k + 1) (F58.l0 (k + 1) k) x3 x6 x7 x8 s := rfl
    rw [hs]
    simp only
    unfold F58.p4 F58.p3 F58.p0
    exact ⟨s, rfl, Ext.refl _⟩
  · obtain ⟨s', k1, k2⟩ := count_loop k hw (by omega) (k + 1) 0 s 0 (by omega) (by omega) ⟨ro, h3⟩ h2 (by omega) (by omega)
    rw [Int.natCast_zero] at k1
    exact ⟨s', k1, k2⟩
end Go.Proofs.Ytkfdgegmahbkiaa.Sim
namespace Go.Proofs.Ytkfdgegmahbkiaa.Sim
set_option linter.unusedSimpArgs false

/-- A slice of runs: what an element is. -/
theorem elem_run {s : Store} {v : AV} {l : List Rn} (h : IsRuns s v l) {i : Nat} (hi : i < l.length) : ∃ p, (∀ {α : Type} (f : AV → Option α), aIndexSl 3 v (.int .i64 (i : Int)) f = f p) ∧ ∀ {α : Type} (f : AV → Option α), aLoadN 3 p s f = f (.agg (rcells l[i])) := by
  obtain ⟨p, h1, h2⟩ := elemL (c := rcells) (es := 3) r_len h hi
  exact ⟨p, fun f => h1 _ f, fun f => h2 f⟩

theorem IsRuns.lt {s : Store} {v : AV} {l : List Rn} (h : IsRuns s v l) : ∀ a b c d f, v = .sl a b c d f → a < s.next := by
  rcases h with ⟨h, _⟩ | ⟨id, ro, h1, h2, h3⟩
  · intro a b c d f e; rw [h] at e; cases e
  · intro a b c d f e; rw [h1] at e; cases e; exact h2

section
variable {x0 : AV} {l : List Rn} {lo : Nat}

end

end Go.Proofs.Ytkfdgegmahbkiaa.Sim
namespace Go.Proofs.Ytkfdgegmahbkiaa.Sim
set_option linter.unusedSimpArgs false

end Go.Proofs.Ytkfdgegmahbkiaa.Sim
namespace Go.Proofs.Ytkfdgegmahbkiaa.Sim
set_option linter.unusedSimpArgs false

theorem runs_at {s : Store} {v : AV} {l : List Rn} (h : IsRuns s v l) {i : Nat} (hi : i < l.length) : ∃ id, v = .sl id 0 l.length 3 (l.length * 3) ∧ id < s.next ∧ AtRuns s id l := by
  rcases h with ⟨_, rfl⟩ | ⟨id, ro, h1, h2, h3⟩
  · simp at hi
  · exact ⟨id, h1, h2, ro, h3⟩
theorem load_fld {s : Store} {id : Nat} {l : List Rn} (h : AtRuns s id l) {i : Nat} (hi : i < l.length) {j : Nat} {v : AV} (hv : (rcells l[i])[j]? = some v) {α : Type} (f : AV → Option α) : aLoad1 (.ptr id (0 + i * 3 + j) (l.length * 3)) s f = f v := by
  obtain ⟨ro, h⟩ := h
  have hj : j < 3 := (List.getElem?_eq_some_iff.1 hv).1
  refine load_1 h (flat_len l) ?_
  have := flat_get l i hi
  have h2 : ((((l.map rcells).flatten.drop (i * 3)).take 3))[j]? = some v := by rw [this]; exact hv
  rw [List.getElem?_take, if_pos hj, List.getElem?_drop] at h2
  rw [Nat.zero_add]; exact h2
theorem fld_2 {s : Store} {id : Nat} {l : List Rn} (h : AtRuns s id l) {i : Nat} (hi : i < l.length) {α : Type} (f : AV → Option α) : aLoad1 (.ptr id (0 + i * 3 + 2) (l.length * 3)) s f = f (.int .u64 l[i].2.2) := load_fld h hi rfl f
theorem idx_r {l : List Rn} {id i : Nat} (hi : i < l.length) {α : Type} (f : AV → Option α) : aIndexSl 3 (.sl id 0 l.length 3 (l.length * 3)) (.int .i64 (i : Int)) f = f (.ptr id (0 + i * 3) (l.length * 3)) := idxL hi f
/-- The reference's Run. -/
theorem ref_run {s : Store} {r : Rn} (hr : WfR r) (k : Nat) : rn (k + 1) 68 [.agg (rcells r)] s = some (.bool (runOk r), s.push (.cells (rcells r) false)) := by
  obtain ⟨⟨a1, a2⟩, ⟨b1, b2⟩, c1, c2⟩ := hr
  rw [F68.eq]
  unfold F68.f F68.p0
  have g : (s.push (.cells (rcells r) false)).get s.next = .cells (rcells r) false := by rw [get_push, if_pos rfl]
  simp only [bnd, guard_tt, guard_ff, guard_tf, guard_ft, pick_t, pick_f, if_t, if_f, add_i, sub_i, lss_i, leq_i, gtr_i, geq_i, eql_i, neq_i, min_i, max_i, conv_i, len_sl, len_nil, not_b, cells_agg, new_s, fld_p, nil_p, r_len, ld_0 g]
  by_cases h1 : r.1 > 63
  · have e : runOk r = false := by unfold runOk; grind
    simp only [h1, decide_true, bnd, guard_tt, guard_ff, guard_tf, guard_ft, pick_t, pick_f, if_t, if_f, add_i, sub_i, lss_i, leq_i, gtr_i, geq_i, eql_i, neq_i, min_i, max_i, conv_i, len_sl, len_nil, not_b, cells_agg, new_s, fld_p, nil_p, e]
  · simp only [h1, decide_false, bnd, guard_tt, guard_ff, guard_tf, guard_ft, pick_t, pick_f, if_t, if_f, add_i, sub_i, lss_i, leq_i, gtr_i, geq_i, eql_i, neq_i, min_i, max_i, conv_i, len_sl, len_nil, not_b, cells_agg, new_s, fld_p, nil_p, ld_1 g]
    by_cases h2 : r.2.1 = 0
    · have e : runOk r = false := by unfold runOk; grind
      simp only [h2, beq_self_eq_true, bnd, guard_tt, guard_ff, guard_tf, guard_ft, pick_t, pick_f, if_t, if_f, add_i, sub_i, lss_i, leq_i, gtr_i, geq_i, eql_i, neq_i, min_i, max_i, conv_i, len_sl, len_nil, not_b, cells_agg, new_s, fld_p, nil_p, e]
    · have h2' : (r.2.1 == 0) = false := by simpa using h2
      simp only [h2', bnd, guard_tt, guard_ff, guard_tf, guard_ft, pick_t, pick_f, if_t, if_f, add_i, sub_i, lss_i, leq_i, gtr_i, geq_i, eql_i, neq_i, min_i, max_i, conv_i, len_sl, len_nil, not_b, cells_agg, new_s, fld_p, nil_p, ld_2 g]
      by_cases h3 : r.2.2 = 0
      · have e : runOk r = false := by unfold runOk; grind
        simp only [h3, beq_self_eq_true, bnd, guard_tt, guard_ff, guard_tf, guard_ft, pick_t, pick_f, if_t, if_f, add_i, sub_i, lss_i, leq_i, gtr_i, geq_i, eql_i, neq_i, min_i, max_i, conv_i, len_sl, len_nil, not_b, cells_agg, new_s, fld_p, nil_p, e]
      · have h3' : (r.2.2 == 0) = false := by simpa using h3
        simp only [h3', bnd, guard_tt, guard_ff, guard_tf, guard_ft, pick_t, pick_f, if_t, if_f, add_i, sub_i, lss_i, leq_i, gtr_i, geq_i, eql_i, neq_i, min_i, max_i, conv_i, len_sl, len_nil, not_b, cells_agg, new_s, fld_p, nil_p, ld_1 g]
        by_cases h4 : r.2.1 > 4611686018427387904
        · have e : runOk r = false := by unfold runOk; grind
          simp only [h4, decide_true, bnd, guard_tt, guard_ff, guard_tf, guard_ft, pick_t, pick_f, if_t, if_f, add_i, sub_i, lss_i, leq_i, gtr_i, geq_i, eql_i, neq_i, min_i, max_i, conv_i, len_sl, len_nil, not_b, cells_agg, new_s, fld_p, nil_p, e]
        · simp only [h4, decide_false, bnd, guard_tt, guard_ff, guard_tf, guard_ft, pick_t, pick_f, if_t, if_f, add_i, sub_i, lss_i, leq_i, gtr_i, geq_i, eql_i, neq_i, min_i, max_i, conv_i, len_sl, len_nil, not_b, cells_agg, new_s, fld_p, nil_p, ld_1 g, ld_2 g, w_u64 (show 0 ≤ 4611686018427387904 - r.2.1 by omega) (show 4611686018427387904 - r.2.1 < 18446744073709551616 by omega), w_u64 (show 0 ≤ r.2.2 - 1 by omega) (show r.2.2 - 1 < 18446744073709551616 by omega)]
          have e : runOk r = decide (r.2.2 - 1 ≤ 4611686018427387904 - r.2.1) := by unfold runOk; grind
          rw [e]

theorem countR_top : ∀ l : List Rn, countR 4611686018427387904 l = 4611686018427387904
  | [] => rfl
  | r :: l => by
    unfold countR
    split
    · rename_i h
      have := runOk_le h
      rw [show min (4611686018427387904 + r.2.2) 4611686018427387904 = 4611686018427387904 by omega]
      exact countR_top l
    · exact countR_top l

theorem ref_count_loop (k : Nat) {l : List Rn} {v : AV} (hw : ∀ r ∈ l, WfR r) (hb : l.length ≤ 4611686018427387904) : ∀ (n i : Nat) (s : Store) (a : Int), 0 ≤ a → a ≤ 4611686018427387904 → IsRuns s v l → i ≤ l.length → l.length - i < n →
    ∃ s', F60.l0 (k + 1) n v (.int .u64 a) (.int .i64 l.length) (.int .i64 i) s = some (.int .u64 (countR a (l.drop i)), s') ∧ Ext s s'
  | 0, i, _, _, _, _, _, hi, hn => by omega
  | n + 1, i, s, a, ha0, ha1, hv, hi, hn => by
    have hs : F60.l0 (k + 1) (n + 1) = fun x0 x3 x6 x7 s => F60.p4 (k + 1) (F60.l0 (k + 1) n) x0 x3 x6 x7 s := rfl
    rw [hs]
    clear hs
    simp only
    unfold F60.p4 F60.p3
    rw [lss_i]
    by_cases h : i < l.length
    · have hz : (i : Int) < (l.length : Int) := by omega
      rw [decide_eq_true hz, if_t]
      unfold F60.p2 F60.p1
      have hwi := hw _ (List.getElem_mem h)
      have hw1 : IntKind.i64.wrap ((i : Int) + 1) = ((i + 1 : Nat) : Int) := by rw [w_i64 (by omega) (by omega)]; omega
      obtain ⟨id, rfl, hid, ha⟩ := runs_at hv h
      have e1 := Ext.push s (.cells (rcells l[i]) false)
      rw [idx_r h, load_run ha i h, ref_run hwi, bnd]
      simp only
      generalize (s.push (.cells (rcells l[i]) false)) = s1 at *
      have ha1' := ha.ext hid e1
      rw [List.drop_eq_getElem_cons h, countR]
      by_cases hr : runOk l[i] = true
      · have hle := runOk_le hr
        simp only [hr, bnd, guard_tt, guard_ff, guard_tf, guard_ft, pick_t, pick_f, if_t, if_f, add_i, sub_i, lss_i, leq_i, gtr_i, geq_i, eql_i, neq_i, min_i, max_i, conv_i, len_sl, len_nil, not_b, cells_agg, new_s, fld_p, nil_p, idx_r h, fld_2 ha1' h, w_u64 (show 0 ≤ 4611686018427387904 - a by omega) (show 4611686018427387904 - a < 18446744073709551616 by omega)]
        by_cases hc : l[i].2.2 > 4611686018427387904 - a
        · rw [decide_eq_true hc, if_t, if_pos trivial, show min (a + l[i].2.2) 4611686018427387904 = 4611686018427387904 by omega, countR_top]
          exact ⟨s1, rfl, e1⟩
        · rw [decide_eq_false hc, if_f, if_pos trivial, w_u64 (by omega) (by omega), hw1, show min (a + l[i].2.2) 4611686018427387904 = a + l[i].2.2 by omega]
          obtain ⟨s', k1, k2⟩ := ref_count_loop k hw hb n (i + 1) s1 (a + l[i].2.2) (by omega) (by omega) (hv.ext e1) (by omega) (by omega)
          exact ⟨s', k1, e1.trans k2⟩
      · have hr' : runOk l[i] = false := by simpa using hr
        rw [hr', if_f, add_i, hw1, if_neg (by simp)]
        obtain ⟨s', k1, k2⟩ := ref_count_loop k hw hb n (i + 1) s1 a ha0 ha1 (hv.ext e1) (by omega) (by omega)
        exact ⟨s', k1, e1.trans k2⟩
    · have hz : ¬ (i : Int) < (l.length : Int) := by omega
      rw [decide_eq_false hz, if_f]
      unfold F60.p0
      exact ⟨s, by rw [List.drop_eq_nil_of_le (by omega)]; rfl, Ext.refl _⟩

theorem ref_count {s : Store} {v : AV} {l : List Rn} (hl : IsRuns s v l) (hw : ∀ r ∈ l, WfR r) (k : Nat) (hb : l.length ≤ k) (hk : k ≤ 4611686018427387904) :
    ∃ s', rn (k + 2) 60 [v] s = some (.int .u64 (countR 0 l), s') ∧ Ext s s' := by
  rw [F60.eq]
  unfold F60.f F60.p7 F60.p6 F60.p5
  rw [len_runs hl]
  obtain ⟨s', k1, k2⟩ := ref_count_loop k hw (by omega) (k + 1) 0 s 0 (by omega) (by omega) hl (by omega) (by omega)
  rw [Int.natCast_zero] at k1
  exact ⟨s', k1, k2⟩

end Go.Proofs.Ytkfdgegmahbkiaa.Sim
namespace Go.Proofs.Ytkfdgegmahbkiaa.Sim
set_option linter.unusedSimpArgs false
set_option linter.unusedVariables false

/-- Numbers in a row of one's own, that lies behind 'lo', if there is one. -/
def OwnN (s : Store) (v : AV) (xs : List Int) (lo : Nat) : Prop := (v = .nilsl ∧ xs = []) ∨ ∃ id, v = .sl id 0 xs.length 1 xs.length ∧ lo ≤ id ∧ id < s.next ∧ s.get id = .cells (xs.map (.int .u64)) false
theorem OwnN.is {s : Store} {v : AV} {xs : List Int} {lo : Nat} (h : OwnN s v xs lo) : IsSl s v .u64 xs := by
  rcases h with h | ⟨id, h1, _, h2, h3⟩
  · exact .inl h
  · exact .inr ⟨id, false, h1, h2, h3⟩
theorem OwnN.ext {s s' : Store} {v : AV} {xs : List Int} {lo : Nat} (h : OwnN s v xs lo) (e : Ext s s') : OwnN s' v xs lo := by
  rcases h with h | ⟨id, h1, h4, h2, h3⟩
  · exact .inl h
  · exact .inr ⟨id, h1, h4, Nat.lt_of_lt_of_le h2 e.next, by rw [e.get id h2]; exact h3⟩
theorem IsSl.lt {s : Store} {v : AV} {k : IntKind} {xs : List Int} (h : IsSl s v k xs) : ∀ a b c d f, v = .sl a b c d f → a < s.next := by
  rcases h with ⟨h, _⟩ | ⟨id, ro, h1, h2, h3⟩
  · intro a b c d f e; rw [h] at e; cases e
  · intro a b c d f e; rw [h1] at e; cases e; exact h2

/-- A run's last number. -/
def lastR (r : Rn) : Int := r.2.1 + (r.2.2 - 1)
theorem ref_last {s : Store} {r : Rn} (hw : WfR r) (h : runOk r = true) (k : Nat) : rn (k + 1) 69 [.agg (rcells r)] s = some (.int .u64 (lastR r), s.push (.cells (rcells r) false)) := by
  rw [F69.eq]
  unfold F69.f F69.p0
  have g : (s.push (.cells (rcells r) false)).get s.next = .cells (rcells r) false := by rw [get_push, if_pos rfl]
  have hr := of_decide_eq_true h
  simp only [bnd, guard_tt, guard_ff, guard_tf, guard_ft, pick_t, pick_f, if_t, if_f, add_i, sub_i, lss_i, leq_i, gtr_i, geq_i, eql_i, neq_i, min_i, max_i, conv_i, len_sl, len_nil, not_b, cells_agg, new_s, fld_p, nil_p, r_len, ld_1 g, ld_2 g, w_u64 (show 0 ≤ r.2.2 - 1 by omega) (show r.2.2 - 1 < 18446744073709551616 by omega), w_u64 (show 0 ≤ r.2.1 + (r.2.2 - 1) by omega) (show r.2.1 + (r.2.2 - 1) < 18446744073709551616 by omega)]
  rfl
section
variable {v : AV} {l : List Rn} {lo ido : Nat}

end

end Go.Proofs.Ytkfdgegmahbkiaa.Sim
namespace Go.Proofs.Ytkfdgegmahbkiaa.Sim
set_option linter.unusedSimpArgs false
set_option linter.unusedVariables false

section
variable {x0 : AV} {l : List Rn} {lo : Nat}

end

end Go.Proofs.Ytkfdgegmahbkiaa.Sim
namespace Go.Proofs.Ytkfdgegmahbkiaa.Sim
set_option linter.unusedSimpArgs false
set_option linter.unusedVariables false

/-- Runs that come as an argument. -/
theorem put_runs (o : Option (List Rn)) (s : Store) (hw : (shSlice (shPair (shInt .u8) (shPair (shInt .u64) (shInt .u64)))).wf o) : ∃ v xs, ((shSlice (shPair (shInt .u8) (shPair (shInt .u64) (shInt .u64)))).put o s).1 = [v] ∧ IsRuns ((shSlice (shPair (shInt .u8) (shPair (shInt .u64) (shInt .u64)))).put o s).2 v xs ∧ (∀ r ∈ xs, WfR r) ∧ Ext s ((shSlice (shPair (shInt .u8) (shPair (shInt .u64) (shInt .u64)))).put o s).2 := by
  cases o with
  | none => exact ⟨.nilsl, [], rfl, .inl ⟨rfl, rfl⟩, fun x hx => by simp at hx, Ext.refl _⟩
  | some l =>
    have hp : ∀ l : List Rn, (shPair (shInt .u8) (shPair (shInt .u64) (shInt .u64))).putL l s = ((l.map rcells).flatten, s) := fun l => by
      induction l with
      | nil => rfl
      | cons x l ih =>
        show (rcells x ++ ((shPair (shInt .u8) (shPair (shInt .u64) (shInt .u64))).putL l s).1, ((shPair (shInt .u8) (shPair (shInt .u64) (shInt .u64))).putL l s).2) = _
        rw [ih]
        rfl
    obtain ⟨h1, h2⟩ := hw l rfl
    have hput : (shSlice (shPair (shInt .u8) (shPair (shInt .u64) (shInt .u64)))).put (some l) s = ([.sl s.next 0 l.length 3 (l.length * 3)], s.push (.cells (l.map rcells).flatten true)) := by
      show ([AV.sl ((shPair (shInt .u8) (shPair (shInt .u64) (shInt .u64))).putL l s).2.next 0 l.length 3 (l.length * 3)], ((shPair (shInt .u8) (shPair (shInt .u64) (shInt .u64))).putL l s).2.push (.cells ((shPair (shInt .u8) (shPair (shInt .u64) (shInt .u64))).putL l s).1 true)) = _
      rw [hp]
    rw [hput]
    refine ⟨_, l, rfl, .inr ⟨s.next, true, rfl, Nat.lt_succ_self _, by rw [get_push, if_pos rfl]⟩, fun x hx => ?_, Ext.push _ _⟩
    obtain ⟨w1, w2, w3⟩ := h2 x hx
    have k1 : (Lit.int IntKind.u8 x.1).wf = true := w1
    have k2 : (Lit.int IntKind.u64 x.2.1).wf = true := w2
    have k3 : (Lit.int IntKind.u64 x.2.2).wf = true := w3
    simp [Lit.wf, IntKind.min, IntKind.max, IntKind.bits, IntKind.signed] at k1 k2 k3
    unfold WfR; omega

end Go.Proofs.Ytkfdgegmahbkiaa.Sim
namespace Go.Proofs.Ytkfdgegmahbkiaa.Sim
set_option linter.unusedSimpArgs false
set_option linter.unusedVariables false

end Go.Proofs.Ytkfdgegmahbkiaa.Sim
