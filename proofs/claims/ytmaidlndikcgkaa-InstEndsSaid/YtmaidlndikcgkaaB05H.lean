/- The texts B05A, B05B, B05C, B05D, B05E, B05F, B05G, B05H, one behind the other. No condition. -/
import Derived.Test.YtmaidlndikcgkaaFunA
import Derived.Test.YtmaidlndikcgkaaSimW
import Derived.Test.YtmaidlndikcgkaaSimQ
namespace Go.Proofs.Ytmaidlndikcgkaa.Sim
set_option linter.unusedSimpArgs false

/-- A slice of numbers. -/
def IsSl (s : Store) (v : AV) (k : IntKind) (xs : List Int) : Prop := (v = .nilsl ∧ xs = []) ∨ ∃ l ro, v = .sl l 0 xs.length 1 xs.length ∧ l < s.next ∧ s.get l = .cells (xs.map (.int k)) ro
theorem IsSl.ext {s s' : Store} {v : AV} {k : IntKind} {xs : List Int} (h : IsSl s v k xs) (e : Ext s s') : IsSl s' v k xs := by
  rcases h with h | ⟨l, ro, h1, h2, h3⟩
  · exact .inl h
  · exact .inr ⟨l, ro, h1, Nat.lt_of_lt_of_le h2 e.next, by rw [e.get l h2]; exact h3⟩

def atI (xs : List Int) (i : Int) : Int := if i < 0 then 0 else xs.getD i.toNat 0

theorem vec_at {s : Store} {v : AV} {xs : List Int} (h : IsSl s v .u64 xs) (hl : (xs.length : Int) < 9223372036854775808) (i : Int) (k : Nat) : rn (k + 1) 68 [v, .int .i64 i] s = some (.int .u64 (atI xs i), s) := by
  rw [F68.eq]
  unfold F68.f F68.p0
  rw [lss_i]
  by_cases h0 : i < 0
  · simp [h0, aGuard, aPick, aIf, atI]
  · rcases h with ⟨rfl, rfl⟩ | ⟨l, ro, rfl, h2, h3⟩
    · simp [h0, aGuard, aPick, aIf, atI, len_nil, geq_i]
    · by_cases h1 : i < xs.length
      · have h4 : xs[i.toNat]? = some (xs[i.toNat]'(by omega)) := List.getElem?_eq_getElem (by omega)
        simp only [h0, aGuard, aPick, aIf, atI, len_sl, geq_i, Option.bind_some, decide_false, decide_true, if_true, if_false, Bool.false_eq_true, cond_false, ge_iff_le, show ¬ ((xs.length : Nat) : Int) ≤ i by omega, index_sl (show 0 ≤ i by omega) h1]
        rw [load_1 h3 (by simp) (v := .int .u64 (xs[i.toNat]'(by omega))) (by simp [h4])]
        simp [h4]
      · simp [h0, aGuard, aPick, aIf, atI, len_sl, geq_i, show ((xs.length : Nat) : Int) ≤ i by omega, show xs.length ≤ i.toNat by omega]

/-- Runs, as numbers. -/
abbrev Rn := Int × Int × Int
def rcells (r : Rn) : List AV := [.int .u8 r.1, .int .u64 r.2.1, .int .u64 r.2.2]
def IsRuns (s : Store) (v : AV) (l : List Rn) : Prop := (v = .nilsl ∧ l = []) ∨ ∃ id ro, v = .sl id 0 l.length 3 (l.length * 3) ∧ id < s.next ∧ s.get id = .cells (l.map rcells).flatten ro
theorem IsRuns.ext {s s' : Store} {v : AV} {l : List Rn} (h : IsRuns s v l) (e : Ext s s') : IsRuns s' v l := by
  rcases h with h | ⟨id, ro, h1, h2, h3⟩
  · exact .inl h
  · exact .inr ⟨id, ro, h1, Nat.lt_of_lt_of_le h2 e.next, by rw [e.get id h2]; exact h3⟩
theorem flat_len (l : List Rn) : (l.map rcells).flatten.length = l.length * 3 := by
  induction l with
  | nil => rfl
  | cons r l ih => simp only [List.map_cons, List.flatten_cons, List.length_append, ih, List.length_cons]; simp [rcells]; omega
theorem flat_get : ∀ (l : List Rn) (i : Nat) (h : i < l.length), (((l.map rcells).flatten.drop (i * 3)).take 3) = rcells l[i]
  | r :: l, 0, _ => by simp [rcells]
  | r :: l, i + 1, h => by
    have e : (i + 1) * 3 = (rcells r).length + i * 3 := by simp [rcells]; omega
    rw [List.map_cons, List.flatten_cons, e, ← List.drop_drop, List.drop_left]
    simpa using flat_get l i (by simpa using h)

theorem eq_cells (a b : Rn) {α : Type} (f : Bool → Option α) : aEq (.struct [.int, .int, .int]) (.agg (rcells a)) (.agg (rcells b)) f = f (decide (a = b)) := by
  obtain ⟨a1, a2, a3⟩ := a
  obtain ⟨b1, b2, b3⟩ := b
  simp only [aEq, rcells, eqCells, if_true, Option.map_some]
  congr 1
  by_cases h1 : a1 = b1 <;> by_cases h2 : a2 = b2 <;> by_cases h3 : a3 = b3 <;> simp [h1, h2, h3]

/-- Where runs lie. -/
def AtRuns (s : Store) (id : Nat) (l : List Rn) : Prop := ∃ ro, s.get id = .cells (l.map rcells).flatten ro
theorem load_run {s : Store} {id : Nat} {l : List Rn} (h : AtRuns s id l) (i : Nat) (hi : i < l.length) {α : Type} (f : AV → Option α) : aLoadN 3 (.ptr id (0 + i * 3) (l.length * 3)) s f = f (.agg (rcells l[i])) := by
  obtain ⟨ro, h⟩ := h
  rw [load_n h (flat_len l) (by omega), Nat.zero_add, flat_get l i hi]

theorem len_runs {s : Store} {v : AV} {l : List Rn} (h : IsRuns s v l) {α : Type} (f : AV → Option α) : aLen v f = f (.int .i64 l.length) := by
  rcases h with ⟨rfl, rfl⟩ | ⟨id, ro, rfl, _, _⟩ <;> rfl

end Go.Proofs.Ytmaidlndikcgkaa.Sim
namespace Go.Proofs.Ytmaidlndikcgkaa.Sim
set_option linter.unusedSimpArgs false

/-- One place's turn: what has been reached, what is left, whether there was more. -/
def stepR (held : List Int) (st : List Int × Int × Bool) (i : Nat) : List Int × Int × Bool :=
  if st.2.1 > 0 ∧ atI held i > st.1.getD i 0 ∧ st.1.getD i 0 < 4611686018427387904 then (st.1.set i (st.1.getD i 0 + 1), st.2.1 - 1, true) else st
end Go.Proofs.Ytmaidlndikcgkaa.Sim
namespace Go.Proofs.Ytmaidlndikcgkaa.Sim
set_option linter.unusedSimpArgs false

/-- A slice of numbers whose row is not the row 'id'. -/
def IsSlN (s : Store) (v : AV) (k : IntKind) (xs : List Int) (id : Nat) : Prop := (v = .nilsl ∧ xs = []) ∨ ∃ l ro, v = .sl l 0 xs.length 1 xs.length ∧ l < s.next ∧ l ≠ id ∧ s.get l = .cells (xs.map (.int k)) ro
theorem IsSlN.is {s : Store} {v : AV} {k : IntKind} {xs : List Int} {id : Nat} (h : IsSlN s v k xs id) : IsSl s v k xs := by
  rcases h with h | ⟨l, ro, h1, h2, _, h3⟩
  · exact .inl h
  · exact .inr ⟨l, ro, h1, h2, h3⟩
theorem IsSlN.set {s : Store} {v : AV} {k : IntKind} {xs : List Int} {id : Nat} (h : IsSlN s v k xs id) (o : AObj) : IsSlN (s.set id o) v k xs id := by
  rcases h with h | ⟨l, ro, h1, h2, h4, h3⟩
  · exact .inl h
  · exact .inr ⟨l, ro, h1, h2, h4, by rw [get_set, if_neg h4]; exact h3⟩
theorem load_i {α : Type} {s : Store} {id : Nat} {k : IntKind} {xs : List Int} {ro : Bool} {i : Nat} (hg : s.get id = .cells (xs.map (.int k)) ro) (hi : i < xs.length) (f : AV → Option α) :
    aLoad1 (.ptr id (0 + i * 1) xs.length) s f = f (.int k (xs.getD i 0)) := by
  rw [load_1 hg (by simp) (v := .int k (xs.getD i 0)) (by simp [hi])]

section
variable {k : Nat} {R0 : AV → AV → AV → AV → AV → AV → Store → Option (AV × Store)} {x0 x1 x7 : AV} {id : Nat} {held : List Int}

/-- Numbers that are u64. -/
def U (xs : List Int) : Prop := ∀ x ∈ xs, 0 ≤ x ∧ x < 18446744073709551616
theorem U.at {xs : List Int} (h : U xs) (i : Nat) : 0 ≤ xs.getD i 0 ∧ xs.getD i 0 < 18446744073709551616 := by
  by_cases hi : i < xs.length
  · have e : xs.getD i 0 = xs[i] := by simp [hi]
    rw [e]; exact h _ (List.getElem_mem hi)
  · have e : xs.getD i 0 = 0 := by simp [show xs.length ≤ i by omega]
    rw [e]; omega

theorem U.step {held now : List Int} (hu : U now) (left : Int) (more : Bool) (i : Nat) : U (stepR held (now, left, more) i).1 := by
  unfold stepR
  split
  · rename_i h
    intro x hx
    rcases List.mem_or_eq_of_mem_set hx with hx | hx
    · exact hu x hx
    · have := hu.at i
      have h3 := h.2.2
      simp only at h3
      subst hx; simp only; omega
  · exact hu

end
end Go.Proofs.Ytmaidlndikcgkaa.Sim
namespace Go.Proofs.Ytmaidlndikcgkaa.Sim
set_option linter.unusedSimpArgs false
section
variable {x0 x1 x7 : AV} {id : Nat} {held : List Int}

end

/-- All rows but one are as they were. -/
structure Keep (id : Nat) (s s' : Store) : Prop where
  next : s.next ≤ s'.next
  get : ∀ l, l < s.next → l ≠ id → s'.get l = s.get l
theorem Keep.refl (id : Nat) (s : Store) : Keep id s s := ⟨Nat.le_refl _, fun _ _ _ => rfl⟩
theorem Keep.trans {id : Nat} {s s' s'' : Store} (h : Keep id s s') (k : Keep id s' s'') : Keep id s s'' := ⟨Nat.le_trans h.next k.next, fun l hl hn => (k.get l (Nat.lt_of_lt_of_le hl h.next) hn).trans (h.get l hl hn)⟩
theorem Keep.push (id : Nat) (s : Store) (o : AObj) : Keep id s (s.push o) := ⟨Nat.le_succ _, fun l hl _ => by rw [get_push, if_neg (by omega)]⟩
theorem Keep.set (id : Nat) (s : Store) (o : AObj) : Keep id s (s.set id o) := ⟨Nat.le_refl _, fun l _ hn => by rw [get_set, if_neg hn]⟩
theorem IsSlN.keep {id : Nat} {s s' : Store} {v : AV} {k : IntKind} {xs : List Int} (h : IsSlN s v k xs id) (e : Keep id s s') : IsSlN s' v k xs id := by
  rcases h with h | ⟨l, ro, h1, h2, h4, h3⟩
  · exact .inl h
  · exact .inr ⟨l, ro, h1, Nat.lt_of_lt_of_le h2 e.next, h4, by rw [e.get l h2 h4]; exact h3⟩

theorem build_run (a b c : Int) {α : Type} (f : List AV → Option α) : aBuild [(0, 1, .int .u8 a), (1, 1, .int .u64 b), (2, 1, .int .u64 c)] [AV.int .u8 0, AV.int .u64 0, AV.int .u64 0] f = f (rcells (a, b, c)) := by
  simp [aBuild, aCells, putAll, rcells]
theorem build_row (r : Rn) {α : Type} (f : List AV → Option α) : aBuild [(0, 3, .agg (rcells r))] [AV.int .u8 0, AV.int .u64 0, AV.int .u64 0] f = f (rcells r) := by
  simp [aBuild, aCells, putAll, rcells]

end Go.Proofs.Ytmaidlndikcgkaa.Sim
namespace Go.Proofs.Ytmaidlndikcgkaa.Sim
set_option linter.unusedSimpArgs false

/-- Numbers behind numbers, in place. -/
theorem app_nums {α : Type} {s : Store} {id bytes : Nat} {k : IntKind} {xs ys : List Int} {y : AV} (hg : s.get id = .cells (xs.map (.int k)) false) (hy : IsSl s y k ys) (hb : (xs.length + ys.length) * bytes ≤ 140737488355328) (hb0 : 0 < bytes) (f : AV → Store → Option α) :
    aAppend 1 bytes (.sl id 0 xs.length 1 xs.length) y s f = f (.sl id 0 (xs ++ ys).length 1 (xs ++ ys).length) (s.set id (.cells ((xs ++ ys).map (.int k)) false)) := by
  rcases hy with ⟨rfl, rfl⟩ | ⟨l, ro, rfl, _, h3⟩
  · simp [aAppend, aCellsOf, aOwn, hg, set_same hg]
  · by_cases h0 : ys.length = 0
    · have : ys = [] := List.length_eq_zero_iff.1 h0
      subst this
      simp [aAppend, aCellsOf, aRow, h3, aOwn, hg, set_same hg]
    · simp [aAppend, aCellsOf, aRow, h3, aOwn, hg, h0, hb0, hb, List.take_of_length_le, show ys ≠ [] from fun q => h0 (by rw [q]; rfl)]

theorem Keep.ext {id : Nat} {s s' : Store} (h : Keep id s s') (hid : s.next ≤ id) : Ext s s' := ⟨h.next, fun l hl => h.get l hl (by omega)⟩
theorem IsSl.ne {s : Store} {v : AV} {k : IntKind} {xs : List Int} {id : Nat} (h : IsSl s v k xs) (hid : s.next ≤ id) : IsSlN s v k xs id := by
  rcases h with h | ⟨l, ro, h1, h2, h3⟩
  · exact .inl h
  · exact .inr ⟨l, ro, h1, h2, by omega, h3⟩
theorem IsSlN.ext {s s' : Store} {v : AV} {k : IntKind} {xs : List Int} {id : Nat} (h : IsSlN s v k xs id) (e : Ext s s') : IsSlN s' v k xs id := by
  rcases h with h | ⟨l, ro, h1, h2, h4, h3⟩
  · exact .inl h
  · exact .inr ⟨l, ro, h1, Nat.lt_of_lt_of_le h2 e.next, h4, by rw [e.get l h2]; exact h3⟩

end Go.Proofs.Ytmaidlndikcgkaa.Sim
namespace Go.Proofs.Ytmaidlndikcgkaa.Sim
set_option linter.unusedSimpArgs false

section
variable {k : Nat} {R0 : AV → AV → AV → AV → AV → AV → Store → Option (AV × Store)} {x0 x1 x8 : AV} {id : Nat} {held base : List Int} {pl : Nat}

end
end Go.Proofs.Ytmaidlndikcgkaa.Sim
namespace Go.Proofs.Ytmaidlndikcgkaa.Sim
set_option linter.unusedSimpArgs false

section
variable {x0 x1 x8 : AV} {id : Nat} {held base : List Int} {pl : Nat}

/-- Runs that nobody else has: their row, if there is one, lies behind 'lo'. -/
def OwnRuns (s : Store) (v : AV) (l : List Rn) (lo : Nat) : Prop := (v = .nilsl ∧ l = []) ∨ ∃ id, v = .sl id 0 l.length 3 (l.length * 3) ∧ lo ≤ id ∧ id < s.next ∧ s.get id = .cells (l.map rcells).flatten false
theorem OwnRuns.is {s : Store} {v : AV} {l : List Rn} {lo : Nat} (h : OwnRuns s v l lo) : IsRuns s v l := by
  rcases h with h | ⟨id, h1, _, h2, h3⟩
  · exact .inl h
  · exact .inr ⟨id, false, h1, h2, h3⟩
end
theorem len_is {s : Store} {v : AV} {k : IntKind} {xs : List Int} (h : IsSl s v k xs) {α : Type} (f : AV → Option α) : aLen v f = f (.int .i64 xs.length) := by
  rcases h with ⟨rfl, rfl⟩ | ⟨id, ro, rfl, _, _⟩ <;> rfl

end Go.Proofs.Ytmaidlndikcgkaa.Sim
namespace Go.Proofs.Ytmaidlndikcgkaa.Sim
set_option linter.unusedSimpArgs false

/-- Numbers within their bounds. -/
def WfR (r : Rn) : Prop := (0 ≤ r.1 ∧ r.1 < 256) ∧ (0 ≤ r.2.1 ∧ r.2.1 < 18446744073709551616) ∧ (0 ≤ r.2.2 ∧ r.2.2 < 18446744073709551616)
def runOk (r : Rn) : Bool := decide (r.1 < 64 ∧ 1 ≤ r.2.1 ∧ 1 ≤ r.2.2 ∧ r.2.1 ≤ 4611686018427387904 ∧ r.2.2 ≤ 4611686018427387904 - r.2.1 + 1)

theorem ld_0 {α : Type} {s : Store} {l : Nat} {r : Rn} {ro : Bool} (h : s.get l = .cells (rcells r) ro) (f : AV → Option α) : aLoad1 (.ptr l (0 + 0) 3) s f = f (.int .u8 r.1) := load_1 h rfl rfl
theorem ld_1 {α : Type} {s : Store} {l : Nat} {r : Rn} {ro : Bool} (h : s.get l = .cells (rcells r) ro) (f : AV → Option α) : aLoad1 (.ptr l (0 + 1) 3) s f = f (.int .u64 r.2.1) := load_1 h rfl rfl
theorem ld_2 {α : Type} {s : Store} {l : Nat} {r : Rn} {ro : Bool} (h : s.get l = .cells (rcells r) ro) (f : AV → Option α) : aLoad1 (.ptr l (0 + 2) 3) s f = f (.int .u64 r.2.2) := load_1 h rfl rfl
theorem ld_3 {α : Type} {s : Store} {l : Nat} {r : Rn} {ro : Bool} (h : s.get l = .cells (rcells r) ro) (f : AV → Option α) : aLoadN 3 (.ptr l 0 3) s f = f (.agg (rcells r)) := load_n h rfl (Nat.le_refl _)
theorem st_3 {α : Type} {s : Store} {l : Nat} {cs : List AV} (r : Rn) (h : s.get l = .cells cs false) (hc : cs.length = 3) (f : Store → Option α) : aStore 3 (.ptr l 0 3) (.agg (rcells r)) s f = f (s.set l (.cells (rcells r) false)) := by
  match cs, hc with
  | [a, b, c], _ => simp [aStore, aCells, aOwn, h, rcells, putAll]
theorem r_len (r : Rn) : (rcells r).length = 3 := rfl

theorem ident_run {s : Store} {r : Rn} (hr : WfR r) (k : Nat) : rn (k + 1) 67 [.agg (rcells r)] s = some (.bool (runOk r), s.push (.cells (rcells r) false)) := by
  obtain ⟨⟨a1, a2⟩, ⟨b1, b2⟩, c1, c2⟩ := hr
  rw [F67.eq]
  unfold F67.f F67.p0
  have g : (s.push (.cells (rcells r) false)).get s.next = .cells (rcells r) false := by rw [get_push, if_pos rfl]
  simp only [bnd, guard_tt, guard_ff, guard_tf, guard_ft, pick_t, pick_f, if_t, if_f, add_i, sub_i, lss_i, leq_i, gtr_i, geq_i, eql_i, neq_i, min_i, max_i, conv_i, len_sl, len_nil, not_b, cells_agg, new_s, fld_p, nil_p, r_len, ld_0 g]
  have e : runOk r = (decide (r.1 < 64) && (decide (r.2.1 ≥ 1) && (decide (r.2.2 ≥ 1) && (decide (r.2.1 ≤ 4611686018427387904) && decide (r.2.2 ≤ 4611686018427387904 - r.2.1 + 1))))) := by
    unfold runOk; grind
  rw [e]
  by_cases h1 : r.1 < 64
  · simp only [h1, decide_true, bnd, guard_tt, guard_ff, guard_tf, guard_ft, pick_t, pick_f, if_t, if_f, add_i, sub_i, lss_i, leq_i, gtr_i, geq_i, eql_i, neq_i, min_i, max_i, conv_i, len_sl, len_nil, not_b, cells_agg, new_s, fld_p, nil_p, ld_1 g, Bool.true_and]
    by_cases h2 : r.2.1 ≥ 1
    · simp only [h2, decide_true, bnd, guard_tt, guard_ff, guard_tf, guard_ft, pick_t, pick_f, if_t, if_f, add_i, sub_i, lss_i, leq_i, gtr_i, geq_i, eql_i, neq_i, min_i, max_i, conv_i, len_sl, len_nil, not_b, cells_agg, new_s, fld_p, nil_p, ld_2 g, Bool.true_and]
      by_cases h3 : r.2.2 ≥ 1
      · simp only [h3, decide_true, bnd, guard_tt, guard_ff, guard_tf, guard_ft, pick_t, pick_f, if_t, if_f, add_i, sub_i, lss_i, leq_i, gtr_i, geq_i, eql_i, neq_i, min_i, max_i, conv_i, len_sl, len_nil, not_b, cells_agg, new_s, fld_p, nil_p, ld_1 g, Bool.true_and]
        by_cases h4 : r.2.1 ≤ 4611686018427387904
        · simp only [h4, decide_true, bnd, guard_tt, guard_ff, guard_tf, guard_ft, pick_t, pick_f, if_t, if_f, add_i, sub_i, lss_i, leq_i, gtr_i, geq_i, eql_i, neq_i, min_i, max_i, conv_i, len_sl, len_nil, not_b, cells_agg, new_s, fld_p, nil_p, ld_1 g, ld_2 g, Bool.true_and, w_u64 (show 0 ≤ 4611686018427387904 - r.2.1 by omega) (show 4611686018427387904 - r.2.1 < 18446744073709551616 by omega), w_u64 (show 0 ≤ 4611686018427387904 - r.2.1 + 1 by omega) (show 4611686018427387904 - r.2.1 + 1 < 18446744073709551616 by omega)]
        · simp only [h4, decide_false, bnd, guard_tt, guard_ff, guard_tf, guard_ft, pick_t, pick_f, if_t, if_f, add_i, sub_i, lss_i, leq_i, gtr_i, geq_i, eql_i, neq_i, min_i, max_i, conv_i, len_sl, len_nil, not_b, cells_agg, new_s, fld_p, nil_p, Bool.false_and]
      · simp only [h3, decide_false, bnd, guard_tt, guard_ff, guard_tf, guard_ft, pick_t, pick_f, if_t, if_f, add_i, sub_i, lss_i, leq_i, gtr_i, geq_i, eql_i, neq_i, min_i, max_i, conv_i, len_sl, len_nil, not_b, cells_agg, new_s, fld_p, nil_p, Bool.false_and]
    · simp only [h2, decide_false, bnd, guard_tt, guard_ff, guard_tf, guard_ft, pick_t, pick_f, if_t, if_f, add_i, sub_i, lss_i, leq_i, gtr_i, geq_i, eql_i, neq_i, min_i, max_i, conv_i, len_sl, len_nil, not_b, cells_agg, new_s, fld_p, nil_p, Bool.false_and]
  · simp only [h1, decide_false, bnd, guard_tt, guard_ff, guard_tf, guard_ft, pick_t, pick_f, if_t, if_f, add_i, sub_i, lss_i, leq_i, gtr_i, geq_i, eql_i, neq_i, min_i, max_i, conv_i, len_sl, len_nil, not_b, cells_agg, new_s, fld_p, nil_p, Bool.false_and]

theorem AtRuns.ext {s s' : Store} {id : Nat} {l : List Rn} (h : AtRuns s id l) (hid : id < s.next) (e : Ext s s') : AtRuns s' id l := by
  obtain ⟨ro, h⟩ := h
  exact ⟨ro, by rw [e.get id hid]; exact h⟩

/-- The first run of which a closure says yes. -/
theorem index_func (k g : Nat) (cap : List AV) (p : Rn → Bool) (P : Store → Prop) (hP : ∀ s s', P s → Ext s s' → P s') (hg : ∀ (s : Store) (r : Rn), WfR r → P s → ∃ s', rn k g ([] ++ [.agg (rcells r)] ++ cap) s = some (.bool (p r), s') ∧ Ext s s') {id : Nat} {l : List Rn} (hw : ∀ r ∈ l, WfR r) (hb : l.length ≤ 4611686018427387904) : ∀ (n i : Nat) (s : Store), P s → AtRuns s id l → id < s.next → i ≤ l.length → l.length - i < n →
    ∃ m s', F75.l0 k n (.sl id 0 l.length 3 (l.length * 3)) (.func g [] cap) (.int .i64 l.length) (.int .i64 i) s = some (.int .i64 m, s') ∧ Ext s s' ∧ (decide (0 ≤ m) = (l.drop i).any p)
  | 0, i, _, _, _, _, hi, hn => by omega
  | n + 1, i, s, hPs, ha, hid, hi, hn => by
    have hs : F75.l0 k (n + 1) = fun x0 x1 x7 x8 s => F75.p4 k (F75.l0 k n) x0 x1 x7 x8 s := rfl
    rw [hs]
    clear hs
    simp only
    unfold F75.p4 F75.p3
    rw [lss_i]
    by_cases h : i < l.length
    · have hz : (i : Int) < (l.length : Int) := by omega
      rw [decide_eq_true hz, if_t]
      unfold F75.p2 F75.p1
      rw [index_sl (show (0 : Int) ≤ i by omega) hz, Int.toNat_natCast, load_run ha i h]
      obtain ⟨s1, e1, e2⟩ := hg s l[i] (hw _ (List.getElem_mem h)) hPs
      simp only [aCall, e1, bnd]
      rw [List.drop_eq_getElem_cons h, List.any_cons]
      by_cases hc : p l[i] = true
      · rw [hc, if_t]
        exact ⟨i, s1, rfl, e2, by simp⟩
      · have hc' : p l[i] = false := by simpa using hc
        have hw1 : IntKind.i64.wrap ((i : Int) + 1) = ((i + 1 : Nat) : Int) := by rw [w_i64 (by omega) (by omega)]; omega
        rw [hc', if_f, add_i, hw1]
        obtain ⟨m, s', k1, k2, k3⟩ := index_func k g cap p P hP hg hw hb n (i + 1) s1 (hP _ _ hPs e2) (ha.ext hid e2) (Nat.lt_of_lt_of_le hid e2.next) (by omega) (by omega)
        exact ⟨m, s', k1, e2.trans k2, by rw [k3, Bool.false_or]⟩
    · have hz : ¬ (i : Int) < (l.length : Int) := by omega
      rw [decide_eq_false hz, if_f]
      unfold F75.p0
      exact ⟨-1, s, rfl, Ext.refl _, by rw [List.drop_eq_nil_of_le (by omega)]; rfl⟩

theorem contains_func (k g : Nat) (cap : List AV) (p : Rn → Bool) (P : Store → Prop) (hP : ∀ s s', P s → Ext s s' → P s') (hg : ∀ (s : Store) (r : Rn), WfR r → P s → ∃ s', rn k g ([] ++ [.agg (rcells r)] ++ cap) s = some (.bool (p r), s') ∧ Ext s s') {s : Store} {v : AV} {l : List Rn} (hPs : P s) (hl : IsRuns s v l) (hw : ∀ r ∈ l, WfR r) (hb : l.length < k) (hk : k ≤ 4611686018427387904) :
    ∃ s', rn (k + 2) 65 [v, .func g [] cap] s = some (.bool (l.any p), s') ∧ Ext s s' := by
  rw [F65.eq]
  unfold F65.f F65.p0
  rw [F75.eq]
  unfold F75.f F75.p6 F75.p5
  rw [len_runs hl]
  rcases hl with ⟨rfl, rfl⟩ | ⟨id, ro, rfl, h2, h3⟩
  · obtain ⟨k, rfl⟩ : ∃ q, k = q + 1 := ⟨k - 1, by simp at hb; omega⟩
    have hs : F75.l0 (k + 1) (k + 1) = fun x0 x1 x7 x8 s => F75.p4 (k + 1) (F75.l0 (k + 1) k) x0 x1 x7 x8 s := rfl
    rw [hs]
    simp only
    unfold F75.p4 F75.p3 F75.p0
    exact ⟨s, rfl, Ext.refl _⟩
  · obtain ⟨m, s', k1, k2, k3⟩ := index_func k g cap p P hP hg hw (by omega) k 0 s hPs ⟨ro, h3⟩ h2 (by omega) (by omega)
    rw [Int.natCast_zero] at k1
    rw [k1]
    simp only [bnd, guard_tt, guard_ff, guard_tf, guard_ft, pick_t, pick_f, if_t, if_f, add_i, sub_i, lss_i, leq_i, gtr_i, geq_i, eql_i, neq_i, min_i, max_i, conv_i, len_sl, len_nil, not_b, cells_agg, new_s, fld_p, nil_p]
    rw [List.drop_zero] at k3
    exact ⟨s', by rw [← k3], k2⟩

/-- How many ids runs have. -/
def countR : Int → List Rn → Int
  | a, [] => a
  | a, r :: l => countR (if runOk r = true then min (a + r.2.2) 4611686018427387904 else a) l
theorem runOk_le {r : Rn} (h : runOk r = true) : r.2.2 ≤ 4611686018427387904 ∧ 1 ≤ r.2.2 := by
  have := of_decide_eq_true h; omega
theorem count_loop (k : Nat) {id : Nat} {l : List Rn} (hw : ∀ r ∈ l, WfR r) (hb : l.length ≤ 4611686018427387904) : ∀ (n i : Nat) (s : Store) (a : Int), 0 ≤ a → a ≤ 4611686018427387904 → AtRuns s id l → id < s.next → i ≤ l.length → l.length - i < n →
    ∃ s', F74.l0 (k + 1) n (.int .u64 a) (.sl id 0 l.length 3 (l.length * 3)) (.int .i64 l.length) (.int .i64 i) s = some (.int .u64 (countR a (l.drop i)), s') ∧ Ext s s'
  | 0, i, _, _, _, _, _, _, hi, hn => by omega
  | n + 1, i, s, a, ha0, ha1, ha, hid, hi, hn => by
    have hs : F74.l0 (k + 1) (n + 1) = fun x3 x6 x7 x8 s => F74.p4 (k + 1) (F74.l0 (k + 1) n) x3 x6 x7 x8 s := rfl
    rw [hs]
    clear hs
    simp only
    unfold F74.p4 F74.p3
    rw [lss_i]
    by_cases h : i < l.length
    · have hz : (i : Int) < (l.length : Int) := by omega
      rw [decide_eq_true hz, if_t]
      unfold F74.p2 F74.p1
      have hwi := hw _ (List.getElem_mem h)
      have hw1 : IntKind.i64.wrap ((i : Int) + 1) = ((i + 1 : Nat) : Int) := by rw [w_i64 (by omega) (by omega)]; omega
      rw [index_sl (show (0 : Int) ≤ i by omega) hz, Int.toNat_natCast, load_run ha i h, new_s]
      rw [show ([AV.int .u8 0, AV.int .u64 0, AV.int .u64 0] : List AV).length = 3 from rfl, st_3 l[i] (cs := [AV.int .u8 0, AV.int .u64 0, AV.int .u64 0]) (by rw [get_push, if_pos rfl]) rfl]
      have e1 : Ext s ((s.push (.cells [AV.int .u8 0, AV.int .u64 0, AV.int .u64 0] false)).set s.next (.cells (rcells l[i]) false)) := ⟨by simp only [next_set, next_push]; omega, fun l hl => by grind [get_set, get_push]⟩
      have g1 : ((s.push (.cells [AV.int .u8 0, AV.int .u64 0, AV.int .u64 0] false)).set s.next (.cells (rcells l[i]) false)).get s.next = .cells (rcells l[i]) false := by rw [get_set, if_pos rfl]
      have n1 : s.next < ((s.push (.cells [AV.int .u8 0, AV.int .u64 0, AV.int .u64 0] false)).set s.next (.cells (rcells l[i]) false)).next := Nat.lt_succ_self _
      generalize ((s.push (.cells [AV.int .u8 0, AV.int .u64 0, AV.int .u64 0] false)).set s.next (.cells (rcells l[i]) false)) = s1 at *
      rw [ld_3 g1, ident_run hwi, bnd]
      have e2 := Ext.push s1 (.cells (rcells l[i]) false)
      have g2 := (e2.get s.next n1).trans g1
      generalize (s1.push (.cells (rcells l[i]) false)) = s2 at *
      have e12 := e1.trans e2
      rw [List.drop_eq_getElem_cons h, countR]
      by_cases hr : runOk l[i] = true
      · have hle := runOk_le hr
        rw [hr, if_t, fld_p, ld_2 g2, add_i, w_u64 (by omega) (by omega), min_i, add_i, hw1, if_pos rfl]
        obtain ⟨s', k1, k2⟩ := count_loop k hw hb n (i + 1) s2 (min (a + l[i].2.2) 4611686018427387904) (by omega) (by omega) (ha.ext hid e12) (Nat.lt_of_lt_of_le hid e12.next) (by omega) (by omega)
        exact ⟨s', k1, e12.trans k2⟩
      · have hr' : runOk l[i] = false := by simpa using hr
        rw [hr', if_f, add_i, hw1, if_neg (by simp)]
        obtain ⟨s', k1, k2⟩ := count_loop k hw hb n (i + 1) s2 a ha0 ha1 (ha.ext hid e12) (Nat.lt_of_lt_of_le hid e12.next) (by omega) (by omega)
        exact ⟨s', k1, e12.trans k2⟩
    · have hz : ¬ (i : Int) < (l.length : Int) := by omega
      rw [decide_eq_false hz, if_f]
      unfold F74.p0
      exact ⟨s, by rw [List.drop_eq_nil_of_le (by omega)]; rfl, Ext.refl _⟩

theorem ident_count {s : Store} {v : AV} {l : List Rn} (hl : IsRuns s v l) (hw : ∀ r ∈ l, WfR r) (k : Nat) (hb : l.length ≤ k) (hk : k ≤ 4611686018427387904) :
    ∃ s', rn (k + 2) 74 [v] s = some (.int .u64 (countR 0 l), s') ∧ Ext s s' := by
  rw [F74.eq]
  unfold F74.f F74.p7 F74.p6 F74.p5
  rw [len_runs hl]
  rcases hl with ⟨rfl, rfl⟩ | ⟨id, ro, rfl, h2, h3⟩
  · have hs : F74.l0 (k + 1) (k + 1) = fun x3 x6 x7 x8 s => F74.p4 (k + 1) (F74.l0 (k + 1) k) x3 x6 x7 x8 s := rfl
    rw [hs]
    simp only
    unfold F74.p4 F74.p3 F74.p0
    exact ⟨s, rfl, Ext.refl _⟩
  · obtain ⟨s', k1, k2⟩ := count_loop k hw (by omega) (k + 1) 0 s 0 (by omega) (by omega) ⟨ro, h3⟩ h2 (by omega) (by omega)
    rw [Int.natCast_zero] at k1
    exact ⟨s', k1, k2⟩
end Go.Proofs.Ytmaidlndikcgkaa.Sim
