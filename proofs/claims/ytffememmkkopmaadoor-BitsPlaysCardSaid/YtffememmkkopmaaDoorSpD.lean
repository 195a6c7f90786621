/- Seat 11: what places a set has behind any row of places that were put in. No condition. -/
import Derived.Test.YtffememmkkopmaaDoorSpC
namespace Go.Proofs.YtffememmkkopmaaDoor.Sim
set_option linter.unusedSimpArgs false
set_option linter.unusedVariables false

theorem bitW_orB {W : List Nat} {i : Nat} (h : i / 64 < W.length) (j : Nat) : bitW (orB W i) j = (bitW W j || decide (j = i)) := by
  unfold bitW orB
  by_cases hd : j / 64 = i / 64
  · have e : (W.set (i / 64) (W.getD (i / 64) 0 ||| 2 ^ (i % 64))).getD (j / 64) 0 = W.getD (i / 64) 0 ||| 2 ^ (i % 64) := by
      rw [hd]; simp [List.getD_eq_getElem?_getD, h]
    rw [e, Nat.testBit_or, Nat.testBit_two_pow, hd]
    congr 1
    by_cases q : j = i
    · subst q; simp
    · rw [decide_eq_false q]; exact decide_eq_false (by omega)
  · have e : (W.set (i / 64) (W.getD (i / 64) 0 ||| 2 ^ (i % 64))).getD (j / 64) 0 = W.getD (j / 64) 0 := by
      simp [List.getD_eq_getElem?_getD, List.getElem?_set, show ¬ i / 64 = j / 64 by omega]
    rw [e, decide_eq_false (show ¬ j = i by intro q; subst q; exact hd rfl), Bool.or_false]
theorem put1_bit {W : List Nat} {n : Nat} (hl : W.length = (n + 63) / 64) (c : Int) (i : Int) (j : Nat) : bitW (put1 n (W, c) i).1 j = (bitW W j || (decide (j < n) && decide ((j : Int) = i))) := by
  by_cases h : 0 ≤ i ∧ i < n ∧ bitW W i.toNat = false
  · have e : put1 n (W, c) i = (orB W i.toNat, c + 1) := by unfold put1; exact if_pos h
    rw [e, bitW_orB (by omega)]
    congr 1
    by_cases q : j = i.toNat
    · rw [decide_eq_true q, decide_eq_true (show j < n by omega), decide_eq_true (show (j : Int) = i by omega)]; rfl
    · rw [decide_eq_false q, decide_eq_false (show ¬ (j : Int) = i by omega), Bool.and_false]
  · have e : put1 n (W, c) i = (W, c) := by unfold put1; exact if_neg h
    rw [e]
    by_cases q : j < n ∧ (j : Int) = i
    · have hb : bitW W j = true := by
        have : ¬ bitW W i.toNat = false := fun z => h ⟨by omega, by omega, z⟩
        rw [show i.toNat = j by omega] at this
        simpa using this
      rw [hb, Bool.true_or]
    · have : (decide (j < n) && decide ((j : Int) = i)) = false := by
        rw [Bool.and_eq_false_iff]
        by_cases z : j < n
        · exact .inr (decide_eq_false fun y => q ⟨z, y⟩)
        · exact .inl (decide_eq_false z)
      rw [this, Bool.or_false]
theorem fold_len (n : Nat) : ∀ (l : List Int) (st : List Nat × Int), (l.foldl (put1 n) st).1.length = st.1.length
  | [], _ => rfl
  | x :: l, st => by rw [List.foldl_cons, fold_len n l, put1_len]
theorem fold_bit {n : Nat} (j : Nat) : ∀ (l : List Int) (W : List Nat) (c : Int), W.length = (n + 63) / 64 → bitW (l.foldl (put1 n) (W, c)).1 j = (bitW W j || (decide (j < n) && decide ((j : Int) ∈ l)))
  | [], W, c, _ => by simp
  | x :: l, W, c, h => by
    have hl := put1_len n (W, c) x
    have hb := put1_bit h c x j
    rw [List.foldl_cons]
    generalize put1 n (W, c) x = st at *
    obtain ⟨W', c'⟩ := st
    rw [fold_bit j l W' c' (hl.trans h), hb, Bool.or_assoc, ← Bool.and_or_distrib_left]
    congr 2
    by_cases q : (j : Int) = x
    · rw [decide_eq_true q, decide_eq_true (show (j : Int) ∈ x :: l by rw [q]; exact List.mem_cons_self ..), Bool.true_or]
    · rw [decide_eq_false q, Bool.false_or]
      exact decide_eq_decide.2 (by simp [q])
theorem zero_bit (L j : Nat) : bitW (List.replicate L 0) j = false := by
  unfold bitW
  have : (List.replicate L 0).getD (j / 64) 0 = 0 := by
    simp only [List.getD_eq_getElem?_getD, List.getElem?_replicate]; split <;> rfl
  rw [this, Nat.zero_testBit]

/-! ### how many -/
theorem count_range_set {p : Nat → Bool} {i : Nat} : ∀ n, (List.range n).countP (fun j => p j || decide (j = i)) = (List.range n).countP p + if i < n ∧ p i = false then 1 else 0
  | 0 => by simp
  | n + 1 => by
    rw [List.range_succ, List.countP_append, List.countP_append, count_range_set n]
    simp only [List.countP_cons, List.countP_nil, Nat.zero_add]
    by_cases h : n = i
    · subst h
      cases hp : p n <;> simp
    · have h2 : (i < n + 1 ∧ p i = false) ↔ (i < n ∧ p i = false) := ⟨fun q => ⟨by omega, q.2⟩, fun q => ⟨by omega, q.2⟩⟩
      by_cases q : i < n ∧ p i = false
      · rw [if_pos q, if_pos (h2.2 q)]; simp [h]; omega
      · rw [if_neg q, if_neg (fun z => q (h2.1 z))]; simp [h]
theorem cntr_congr {p q : Nat → Bool} (h : ∀ j, p j = q j) (m : Nat) : (List.range m).countP p = (List.range m).countP q := by
  rw [show p = q from funext h]
theorem fold_cnt {n : Nat} : ∀ (l : List Int) (W : List Nat) (c : Int), W.length = (n + 63) / 64 → (l.foldl (put1 n) (W, c)).2 + ((List.range n).countP (bitW W) : Nat) = c + ((List.range n).countP (bitW (l.foldl (put1 n) (W, c)).1) : Nat)
  | [], W, c, _ => rfl
  | x :: l, W, c, h => by
    rw [List.foldl_cons]
    by_cases q : 0 ≤ x ∧ x < n ∧ bitW W x.toNat = false
    · have e : put1 n (W, c) x = (orB W x.toNat, c + 1) := by unfold put1; exact if_pos q
      have := fold_cnt l (orB W x.toNat) (c + 1) ((orB_len W _).trans h)
      rw [e]
      have h2 : (List.range n).countP (bitW (orB W x.toNat)) = (List.range n).countP (bitW W) + 1 := by
        rw [cntr_congr (bitW_orB (show x.toNat / 64 < W.length by omega)), count_range_set, if_pos ⟨by omega, q.2.2⟩]
      omega
    · have e : put1 n (W, c) x = (W, c) := by unfold put1; exact if_neg q
      rw [e]
      exact fold_cnt l W c h
theorem countP_false {p : Nat → Bool} : ∀ l : List Nat, (∀ x ∈ l, p x = false) → l.countP p = 0 := fun l h => List.countP_eq_zero.2 fun x hx => by rw [h x hx]; decide
theorem cntW_tight {W : List Nat} {n : Nat} (h : W.length = (n + 63) / 64) (ht : ∀ j, n ≤ j → bitW W j = false) : cntW W = (List.range n).countP (bitW W) := by
  unfold cntW
  have : 64 * W.length = n + (64 * W.length - n) := by omega
  rw [this, List.range_add, List.countP_append, countP_false (p := bitW W) ((List.range _).map _) fun x hx => by
    obtain ⟨y, _, rfl⟩ := List.mem_map.1 hx
    exact ht _ (by omega)]
  rfl
theorem rest_cnt (W : List Nat) (n : Nat) : (rest W n 0).length + (List.range n).countP (bitW W) = n := by
  unfold rest
  rw [← List.countP_eq_length_filter, Nat.sub_zero, ← List.range_eq_range', Nat.add_comm]
  have := List.length_eq_countP_add_countP (bitW W) (l := List.range n)
  rw [List.length_range] at this
  have e : (List.range n).countP (fun j => !bitW W j) = (List.range n).countP fun a => decide ¬ bitW W a = true := by
    apply cntr_congr; intro j; cases bitW W j <;> rfl
  rw [e]; omega

/-! ### sets, and changes elsewhere -/
section
variable {s s' : Store} {id wid n : Nat} {W : List Nat}
theorem IsSet.fr1 {x : Nat} (h : IsSet s id wid W n) (e : Fr1 x s s') (h1 : id ≠ x) (h2 : wid ≠ x) : IsSet s' id wid W n := h.keep (e.get _ h.id_lt h1) (e.get _ h.wid_lt h2) e.next
theorem HasTab.fr1 {x : Nat} (h : HasTab s) (e : Fr1 x s s') (h0 : 0 ≠ x) : HasTab s' := ⟨(e.get 0 h.2 h0).trans h.1, Nat.lt_of_lt_of_le h.2 e.next⟩
/-- Numbers just built. -/
theorem isV_push (s : Store) (k : IntKind) (l : List Int) (ro : Bool) : IsV (s.push (.cells (l.map (.int k)) ro)) (.sl s.next 0 l.length 1 l.length) k l :=
  .inr ⟨s.next, 0, l, ro, rfl, Nat.lt_succ_self _, by rw [get_push, if_pos rfl], by omega, by simp⟩
end
end Go.Proofs.YtffememmkkopmaaDoor.Sim
