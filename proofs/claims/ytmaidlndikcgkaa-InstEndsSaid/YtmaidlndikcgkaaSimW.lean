/- The abstract machine: slices of numbers, whole or a part of a row; strings out of bytes. Plain lemmas. No condition. -/
import Derived.Test.YtmaidlndikcgkaaSimT
import Derived.Test.YtmaidlndikcgkaaSimQ
namespace Go.Proofs.Ytmaidlndikcgkaa.Sim
set_option linter.unusedSimpArgs false
set_option linter.unusedVariables false

theorem set_same {s : Store} {id : Nat} {o : AObj} (h : s.get id = o) : s.set id o = s := by
  unfold Store.set
  congr 1
  funext j
  split
  · rename_i e; rw [e, h]
  · rfl
theorem build_0 {α : Type} (f : List AV → Option α) : aBuild [] [] f = f [] := rfl
/-- A slice of numbers: a part of a row. -/
def IsV (s : Store) (v : AV) (k : IntKind) (xs : List Int) : Prop := (v = .nilsl ∧ xs = []) ∨ ∃ (l off : Nat) (ys : List Int) (ro : Bool), v = .sl l off xs.length 1 ys.length ∧ l < s.next ∧ s.get l = .cells (ys.map (.int k)) ro ∧ off + xs.length ≤ ys.length ∧ (ys.drop off).take xs.length = xs
/-- One in a row of one's own, whole, that lies behind 'lo', if there is one. -/
def OwnV (s : Store) (v : AV) (k : IntKind) (xs : List Int) (lo : Nat) : Prop := (v = .nilsl ∧ xs = []) ∨ ∃ id, v = .sl id 0 xs.length 1 xs.length ∧ lo ≤ id ∧ id < s.next ∧ s.get id = .cells (xs.map (.int k)) false

section
variable {s s' : Store} {v : AV} {k : IntKind} {xs : List Int} {lo : Nat}
theorem OwnV.is (h : OwnV s v k xs lo) : IsV s v k xs := by
  rcases h with h | ⟨id, h1, _, h2, h3⟩
  · exact .inl h
  · exact .inr ⟨id, 0, xs, false, h1, h2, h3, by omega, by simp⟩
theorem OwnV.ext (h : OwnV s v k xs lo) (e : Ext s s') : OwnV s' v k xs lo := by
  rcases h with h | ⟨id, h1, h4, h2, h3⟩
  · exact .inl h
  · exact .inr ⟨id, h1, h4, Nat.lt_of_lt_of_le h2 e.next, by rw [e.get id h2]; exact h3⟩
theorem OwnV.mono {lo' : Nat} (h : OwnV s v k xs lo) (hl : lo' ≤ lo) : OwnV s v k xs lo' := by
  rcases h with h | ⟨id, h1, h4, h2, h3⟩
  · exact .inl h
  · exact .inr ⟨id, h1, by omega, h2, h3⟩
theorem IsV.ext (h : IsV s v k xs) (e : Ext s s') : IsV s' v k xs := by
  rcases h with h | ⟨l, off, ys, ro, h1, h2, h3, h4⟩
  · exact .inl h
  · exact .inr ⟨l, off, ys, ro, h1, Nat.lt_of_lt_of_le h2 e.next, by rw [e.get l h2]; exact h3, h4⟩
theorem IsV.lt (h : IsV s v k xs) : ∀ a b c d f, v = .sl a b c d f → a < s.next := by
  rcases h with ⟨h, _⟩ | ⟨l, off, ys, ro, h1, h2, _⟩
  · intro a b c d f e; rw [h] at e; cases e
  · intro a b c d f e; rw [h1] at e; cases e; exact h2
theorem loadV {id : Nat} {ro : Bool} (hg : s.get id = .cells (xs.map (.int k)) ro) {i : Nat} (hi : i < xs.length) {α : Type} (f : AV → Option α) :
    aLoad1 (.ptr id i xs.length) s f = f (.int k (xs.getD i 0)) := by
  rw [load_1 hg (by simp) (v := .int k (xs.getD i 0)) (by simp [hi])]
theorem storeV {id : Nat} (hg : s.get id = .cells (xs.map (.int k)) false) {i : Nat} (hi : i < xs.length) {α : Type} {n : Int} (f : Store → Option α) :
    aStore 1 (.ptr id i xs.length) (.int k n) s f = f (s.set id (.cells ((xs.set i n).map (.int k)) false)) := by
  simp [aStore, aCells, aOwn, hg, putAll, show i + 1 ≤ xs.length by omega, List.map_set]
theorem idxV {id off n ep : Nat} {kk : IntKind} {i : Int} (h0 : 0 ≤ i) (hi : i < n) {α : Type} (f : AV → Option α) : aIndexSl 1 (.sl id off n 1 ep) (.int kk i) f = f (.ptr id (off + i.toNat) ep) := by
  rw [index_sl h0 hi, Nat.mul_one]
/-- An element. -/
theorem atV (h : IsV s v k xs) {i : Int} (h0 : 0 ≤ i) (hi : i < xs.length) : ∃ p, (∀ {α : Type} (kk : IntKind) (f : AV → Option α), aIndexSl 1 v (.int kk i) f = f p) ∧ ∀ {α : Type} (f : AV → Option α), aLoad1 p s f = f (.int k (xs.getD i.toNat 0)) := by
  rcases h with ⟨_, h⟩ | ⟨l, off, ys, ro, rfl, _, h3, h4, h5⟩
  · subst h; simp at hi; omega
  · refine ⟨_, fun kk f => idxV h0 hi f, fun f => ?_⟩
    rw [loadV h3 (by omega)]
    congr 2
    have : ((ys.drop off).take xs.length)[i.toNat]? = xs[i.toNat]? := by rw [h5]
    rw [List.getElem?_take, if_pos (by omega), List.getElem?_drop] at this
    simp only [List.getD_eq_getElem?_getD, this]

end

/-- All rows but one are as they were. -/
structure Fr1 (id : Nat) (s s' : Store) : Prop where
  next : s.next ≤ s'.next
  get : ∀ l, l < s.next → l ≠ id → s'.get l = s.get l
theorem Fr1.refl (id : Nat) (s : Store) : Fr1 id s s := ⟨Nat.le_refl _, fun _ _ _ => rfl⟩
theorem Fr1.trans {id : Nat} {s s' s'' : Store} (h : Fr1 id s s') (k : Fr1 id s' s'') : Fr1 id s s'' := ⟨Nat.le_trans h.next k.next, fun l hl hn => (k.get l (Nat.lt_of_lt_of_le hl h.next) hn).trans (h.get l hl hn)⟩
theorem Ext.fr1 {s s' : Store} (h : Ext s s') (id : Nat) : Fr1 id s s' := ⟨h.next, fun l hl _ => h.get l hl⟩
theorem Fr1.ext {id : Nat} {s0 s s' : Store} (e : Ext s0 s) (h : Fr1 id s s') (hid : s0.next ≤ id) : Ext s0 s' := ⟨Nat.le_trans e.next h.next, fun l hl => (h.get l (Nat.lt_of_lt_of_le hl e.next) (by omega)).trans (e.get l hl)⟩
theorem Fr1.set (id : Nat) (s : Store) (o : AObj) : Fr1 id s (s.set id o) := ⟨Nat.le_refl _, fun l _ hn => by rw [get_set, if_neg hn]⟩
theorem IsV.fr1 {id : Nat} {s s' : Store} {v : AV} {k : IntKind} {xs : List Int} (h : IsV s v k xs) (e : Fr1 id s s') (hx : ∀ i b c d f, v = .sl i b c d f → i ≠ id) : IsV s' v k xs := by
  rcases h with h | ⟨l, off, ys, ro, h1, h2, h3, h4⟩
  · exact .inl h
  · exact .inr ⟨l, off, ys, ro, h1, Nat.lt_of_lt_of_le h2 e.next, by rw [e.get l h2 (hx _ _ _ _ _ h1)]; exact h3, h4⟩
theorem u8_of {x : Int} (h : (Lit.int IntKind.u8 x).wf = true) : 0 ≤ x ∧ x < 256 := by
  simp [Lit.wf, IntKind.min, IntKind.max, IntKind.bits, IntKind.signed] at h; omega
theorem i64_of {x : Int} (h : (Lit.int IntKind.i64 x).wf = true) : -9223372036854775808 ≤ x ∧ x < 9223372036854775808 := by
  simp [Lit.wf, IntKind.min, IntKind.max, IntKind.bits, IntKind.signed] at h; omega
end Go.Proofs.Ytmaidlndikcgkaa.Sim
