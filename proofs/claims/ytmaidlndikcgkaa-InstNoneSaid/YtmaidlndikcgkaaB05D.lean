/- Seat 05: the reference's Next. No condition. -/
import Derived.Test.YtmaidlndikcgkaaB05C
namespace Go.Proofs.Ytmaidlndikcgkaa.Sim
set_option linter.unusedSimpArgs false
section
variable {x0 x1 x7 : AV} {id : Nat} {held : List Int}

end

/-- All rows but one are as they were. -/
structure Keep (id : Nat) (s s' : Store) : Prop where
  next : s.next ≤ s'.next
  get : ∀ l, l < s.next → l ≠ id → s'.get l = s.get l
theorem Keep.refl (id : Nat) (s : Store) : Keep id s s := ⟨Nat.le_refl _, fun _ _ _ => rfl⟩
theorem Keep.trans {id : Nat} {s s' s'' : Store} (h : Keep id s s') (k : Keep id s' s'') : Keep id s s'' := ⟨Nat.le_trans h.next k.next, fun l hl hn => (k.get l (Nat.lt_of_lt_of_le hl h.next) hn).trans (h.get l hl hn)⟩
theorem Keep.push (id : Nat) (s : Store) (o : AObj) : Keep id s (s.push o) := ⟨Nat.le_succ _, fun l hl _ => by rw [get_push, if_neg (by omega)]⟩
theorem Keep.set (id : Nat) (s : Store) (o : AObj) : Keep id s (s.set id o) := ⟨Nat.le_refl _, fun l _ hn => by rw [get_set, if_neg hn]⟩
theorem IsSlN.keep {id : Nat} {s s' : Store} {v : AV} {k : IntKind} {xs : List Int} (h : IsSlN s v k xs id) (e : Keep id s s') : IsSlN s' v k xs id := by
  rcases h with h | ⟨l, ro, h1, h2, h4, h3⟩
  · exact .inl h
  · exact .inr ⟨l, ro, h1, Nat.lt_of_lt_of_le h2 e.next, h4, by rw [e.get l h2 h4]; exact h3⟩

/-- A run more. -/
theorem app_run {α : Type} {s : Store} {id t : Nat} {l : List Rn} {r : Rn} (hg : s.get id = .cells (l.map rcells).flatten false) (ht : s.get t = .cells (rcells r) false) (hb : (l.length + 1) * 24 ≤ 140737488355328) (f : AV → Store → Option α) :
    aAppend 3 24 (.sl id 0 l.length 3 (l.length * 3)) (.sl t 0 1 3 3) s f = f (.sl id 0 (l ++ [r]).length 3 ((l ++ [r]).length * 3)) (s.set id (.cells ((l ++ [r]).map rcells).flatten false)) := by
  have h3 : (rcells r).length = 3 := rfl
  have hfl := flat_len l
  simp only [aAppend, aCellsOf, if_true, aRow, ht, h3, aOwn, hg, hfl, Nat.zero_add, Nat.le_refl]
  simp only [show ¬ (1 = 0) by omega, if_false, true_and, show (0 : Nat) < 3 ∧ (0 : Nat) < 24 by omega, and_true, hb, if_true]
  simp [rcells]
  congr 1
  simp; omega

/-- The runs that are told of what was reached. -/
def outR (base now : List Int) : Nat → Nat → List Rn
  | _, 0 => []
  | i, m + 1 => if now.getD i 0 > base.getD i 0 then ((i : Int), base.getD i 0 + 1, now.getD i 0 - base.getD i 0) :: outR base now (i + 1) m else outR base now (i + 1) m
theorem outR_len (base now : List Int) : ∀ (m i : Nat), (outR base now i m).length ≤ m
  | 0, _ => Nat.le_refl _
  | m + 1, i => by
    have := outR_len base now m (i + 1)
    unfold outR
    split
    · simp; omega
    · omega

theorem index_is {α : Type} {s : Store} {v : AV} {k : IntKind} {xs : List Int} {id : Nat} (h : IsSlN s v k xs id) {i : Nat} (hi : i < xs.length) (f : AV → Option α) : (aIndexSl 1 v (.int .i64 i) fun p => aLoad1 p s f) = f (.int k (xs.getD i 0)) := by
  rcases h with ⟨_, h⟩ | ⟨l, ro, rfl, _, _, h⟩
  · subst h; simp at hi
  · rw [index_sl (by omega) (by omega)]
    exact load_i h hi f
theorem index_is2 {s : Store} {v : AV} {k : IntKind} {xs : List Int} {id : Nat} (h : IsSlN s v k xs id) {i : Nat} (hi : i < xs.length) : ∃ p, (∀ {α : Type} (f : AV → Option α), aIndexSl 1 v (.int .i64 i) f = f p) ∧ ∀ {α : Type} (f : AV → Option α), aLoad1 p s f = f (.int k (xs.getD i 0)) := by
  rcases h with ⟨_, h⟩ | ⟨l, ro, rfl, _, _, h⟩
  · subst h; simp at hi
  · exact ⟨.ptr l (0 + i * 1) xs.length, fun f => index_sl (by omega) (by omega), fun f => load_i h hi f⟩

theorem build_run (a b c : Int) {α : Type} (f : List AV → Option α) : aBuild [(0, 1, .int .u8 a), (1, 1, .int .u64 b), (2, 1, .int .u64 c)] [AV.int .u8 0, AV.int .u64 0, AV.int .u64 0] f = f (rcells (a, b, c)) := by
  simp [aBuild, aCells, putAll, rcells]
theorem build_row (r : Rn) {α : Type} (f : List AV → Option α) : aBuild [(0, 3, .agg (rcells r))] [AV.int .u8 0, AV.int .u64 0, AV.int .u64 0] f = f (rcells r) := by
  simp [aBuild, aCells, putAll, rcells]

end Go.Proofs.Ytmaidlndikcgkaa.Sim
