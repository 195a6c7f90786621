/- The texts SimS, SimT, one behind the other. No condition. -/
import Derived.Test.YtkfdgegmahbkiaaSimB
namespace Go.Proofs.Ytkfdgegmahbkiaa.Sim
set_option linter.unusedSimpArgs false
section
variable {α : Type} {κ : AV → Option α} {s : Store}

theorem add_i (k : IntKind) (a b : Int) : aBin .add (.int k a) (.int k b) κ = κ (.int k (k.wrap (a + b))) := by simp [aBin, intBin]
theorem sub_i (k : IntKind) (a b : Int) : aBin .sub (.int k a) (.int k b) κ = κ (.int k (k.wrap (a - b))) := by simp [aBin, intBin]
theorem lss_i (k : IntKind) (a b : Int) : aBin .lss (.int k a) (.int k b) κ = κ (.bool (decide (a < b))) := by simp [aBin, intBin]
theorem leq_i (k : IntKind) (a b : Int) : aBin .leq (.int k a) (.int k b) κ = κ (.bool (decide (a ≤ b))) := by simp [aBin, intBin]
theorem gtr_i (k : IntKind) (a b : Int) : aBin .gtr (.int k a) (.int k b) κ = κ (.bool (decide (a > b))) := by simp [aBin, intBin]
theorem geq_i (k : IntKind) (a b : Int) : aBin .geq (.int k a) (.int k b) κ = κ (.bool (decide (a ≥ b))) := by simp [aBin, intBin]
theorem eql_i (k : IntKind) (a b : Int) : aBin .eql (.int k a) (.int k b) κ = κ (.bool (a == b)) := by simp [aBin, intBin]
theorem neq_i (k : IntKind) (a b : Int) : aBin .neq (.int k a) (.int k b) κ = κ (.bool (a != b)) := by simp [aBin, intBin]
theorem min_i (k k' : IntKind) (a b : Int) : aMinL (.int k a) [.int k' b] κ = κ (.int k (min a b)) := by
  simp only [aMinL, aMin2]; congr 2; omega
theorem max_i (k k' : IntKind) (a b : Int) : aMaxL (.int k a) [.int k' b] κ = κ (.int k (max a b)) := by
  simp only [aMaxL, aMax2]; congr 2; omega
theorem bnd {β : Type} (a : β) (f : β → Option α) : (some a).bind f = f a := id rfl
theorem if_t (x y : Option α) : aIf (.bool true) x y = x := id rfl
theorem if_f (x y : Option α) : aIf (.bool false) x y = y := id rfl
theorem guard_tf (x y : Option α) : aGuard (.bool true) false x y = y := id rfl
theorem guard_ft (x y : Option α) : aGuard (.bool false) true x y = y := id rfl
theorem guard_tt (x y : Option α) : aGuard (.bool true) true x y = x := id rfl
theorem guard_ff (x y : Option α) : aGuard (.bool false) false x y = x := id rfl
theorem not_b (b : Bool) : aUn .not (.bool b) κ = κ (.bool (!b)) := id rfl
theorem cells_agg (vs : List AV) (f : List AV → Option α) : aCells (.agg vs) f = f vs := id rfl
theorem new_s (cs : List AV) (f : AV → Store → Option α) : aNew cs s f = f (.ptr s.next 0 cs.length) (s.push (.cells cs false)) := id rfl
theorem fld_p (off l o ep : Nat) : aFieldAddr off (.ptr l o ep) κ = κ (.ptr l (o + off) ep) := id rfl
theorem nil_p (l off ep : Nat) : aNilCheck (.ptr l off ep) κ = κ (.ptr l off ep) := id rfl
theorem guard_skip (w : Bool) (x y : Option α) : aGuard (.tuple []) w x y = y := id rfl
theorem pick_t (a b : AV) : aPick (.bool true) a b κ = κ a := id rfl
theorem pick_f (a b : AV) : aPick (.bool false) a b κ = κ b := id rfl
theorem len_sl (l off n es ep : Nat) : aLen (.sl l off n es ep) κ = κ (.int .i64 n) := id rfl
theorem len_nil : aLen .nilsl κ = κ (.int .i64 0) := id rfl
theorem conv_i (k k' : IntKind) (n : Int) : aConvInt k (.int k' n) κ = κ (.int k (k.wrap n)) := id rfl
theorem index_sl {l off n es ep : Nat} {k : IntKind} {j : Int} (h0 : 0 ≤ j) (h1 : j < n) : aIndexSl es (.sl l off n es ep) (.int k j) κ = κ (.ptr l (off + j.toNat * es) ep) := by simp [aIndexSl, h0, h1]
theorem load_1 {l off ep : Nat} {xs : List AV} {ro : Bool} {v : AV} (hg : s.get l = .cells xs ro) (hl : xs.length = ep) (hv : xs[off]? = some v) : aLoad1 (.ptr l off ep) s κ = κ v := by
  simp [aLoad1, aRow, hg, hl, hv]
theorem load_n {l off ep n : Nat} {xs : List AV} {ro : Bool} (hg : s.get l = .cells xs ro) (hl : xs.length = ep) (hn : off + n ≤ ep) : aLoadN n (.ptr l off ep) s κ = κ (.agg ((xs.drop off).take n)) := by
  simp [aLoadN, aRow, hg, hl, hn]
end

theorem get_push (s : Store) (o : AObj) (l : Nat) : (s.push o).get l = if l = s.next then o else s.get l := id rfl
theorem get_set (s : Store) (l : Nat) (o : AObj) (j : Nat) : (s.set l o).get j = if j = l then o else s.get j := id rfl
theorem next_push (s : Store) (o : AObj) : (s.push o).next = s.next + 1 := id rfl
theorem next_set (s : Store) (l : Nat) (o : AObj) : (s.set l o).next = s.next := id rfl

/-- A store that has grown: the rows that were there are as they were. -/
structure Ext (s s' : Store) : Prop where
  next : s.next ≤ s'.next
  get : ∀ l, l < s.next → s'.get l = s.get l
theorem Ext.refl (s : Store) : Ext s s := ⟨Nat.le_refl _, fun _ _ => rfl⟩
theorem Ext.trans {s s' s'' : Store} (h : Ext s s') (k : Ext s' s'') : Ext s s'' := ⟨Nat.le_trans h.next k.next, fun l hl => (k.get l (Nat.lt_of_lt_of_le hl h.next)).trans (h.get l hl)⟩
theorem Ext.push (s : Store) (o : AObj) : Ext s (s.push o) := ⟨Nat.le_succ _, fun l hl => by rw [get_push, if_neg (by omega)]⟩
/-! ### numbers within their bounds -/
theorem w_u64 {n : Int} (h0 : 0 ≤ n) (h1 : n < 18446744073709551616) : IntKind.u64.wrap n = n := by
  simp [IntKind.wrap, IntKind.bits, IntKind.signed]; omega
theorem w_u8 {n : Int} (h0 : 0 ≤ n) (h1 : n < 256) : IntKind.u8.wrap n = n := by
  simp [IntKind.wrap, IntKind.bits, IntKind.signed]; omega
theorem w_i64 {n : Int} (h0 : -9223372036854775808 ≤ n) (h1 : n < 9223372036854775808) : IntKind.i64.wrap n = n := by
  simp [IntKind.wrap, IntKind.bits, IntKind.signed]; omega
end Go.Proofs.Ytkfdgegmahbkiaa.Sim
namespace Go.Proofs.Ytkfdgegmahbkiaa.Sim
set_option linter.unusedSimpArgs false

/-- Rows ahead of 'lo' are as they were. -/
structure ExtLo (lo : Nat) (s s' : Store) : Prop where
  next : s.next ≤ s'.next
  get : ∀ l, l < lo → s'.get l = s.get l
theorem ExtLo.refl (lo : Nat) (s : Store) : ExtLo lo s s := ⟨Nat.le_refl _, fun _ _ => rfl⟩
theorem ExtLo.trans {lo : Nat} {s s' s'' : Store} (h : ExtLo lo s s') (k : ExtLo lo s' s'') : ExtLo lo s s'' := ⟨Nat.le_trans h.next k.next, fun l hl => (k.get l hl).trans (h.get l hl)⟩
theorem ExtLo.ext {lo : Nat} {s s' : Store} (h : ExtLo lo s s') (hl : s.next ≤ lo) : Ext s s' := ⟨h.next, fun l hl2 => h.get l (by omega)⟩
theorem Ext.lo {lo : Nat} {s s' : Store} (h : Ext s s') (hl : lo ≤ s.next) : ExtLo lo s s' := ⟨h.next, fun l hl2 => h.get l (by omega)⟩

section
variable {β : Type} {c : β → List AV} {es : Nat}

/-- A slice of things. -/
def IsL (c : β → List AV) (es : Nat) (s : Store) (v : AV) (l : List β) : Prop := (v = .nilsl ∧ l = []) ∨ ∃ id ro, v = .sl id 0 l.length es (l.length * es) ∧ id < s.next ∧ s.get id = .cells (l.map c).flatten ro
/-- One that nobody else has: its row, if there is one, lies behind 'lo'. -/
def OwnL (c : β → List AV) (es : Nat) (s : Store) (v : AV) (l : List β) (lo : Nat) : Prop := (v = .nilsl ∧ l = []) ∨ ∃ id, v = .sl id 0 l.length es (l.length * es) ∧ lo ≤ id ∧ id < s.next ∧ s.get id = .cells (l.map c).flatten false
theorem OwnL.is {s : Store} {v : AV} {l : List β} {lo : Nat} (h : OwnL c es s v l lo) : IsL c es s v l := by
  rcases h with h | ⟨id, h1, _, h2, h3⟩
  · exact .inl h
  · exact .inr ⟨id, false, h1, h2, h3⟩
theorem IsL.ext {s s' : Store} {v : AV} {l : List β} (h : IsL c es s v l) (e : Ext s s') : IsL c es s' v l := by
  rcases h with h | ⟨id, ro, h1, h2, h3⟩
  · exact .inl h
  · exact .inr ⟨id, ro, h1, Nat.lt_of_lt_of_le h2 e.next, by rw [e.get id h2]; exact h3⟩
theorem OwnL.ext {s s' : Store} {v : AV} {l : List β} {lo : Nat} (h : OwnL c es s v l lo) (e : Ext s s') : OwnL c es s' v l lo := by
  rcases h with h | ⟨id, h1, h4, h2, h3⟩
  · exact .inl h
  · exact .inr ⟨id, h1, h4, Nat.lt_of_lt_of_le h2 e.next, by rw [e.get id h2]; exact h3⟩
theorem OwnL.mono {s : Store} {v : AV} {l : List β} {lo lo' : Nat} (h : OwnL c es s v l lo) (hl : lo' ≤ lo) : OwnL c es s v l lo' := by
  rcases h with h | ⟨id, h1, h4, h2, h3⟩
  · exact .inl h
  · exact .inr ⟨id, h1, by omega, h2, h3⟩
theorem OwnL.nil (c : β → List AV) (es : Nat) (s : Store) (lo : Nat) : OwnL c es s .nilsl [] lo := .inl ⟨rfl, rfl⟩
theorem lenL {s : Store} {v : AV} {l : List β} (h : IsL c es s v l) {α : Type} (f : AV → Option α) : aLen v f = f (.int .i64 l.length) := by
  rcases h with ⟨rfl, rfl⟩ | ⟨id, ro, rfl, _, _⟩ <;> rfl

theorem flatL_len (hc : ∀ x, (c x).length = es) (l : List β) : (l.map c).flatten.length = l.length * es := by
  induction l with
  | nil => simp
  | cons r l ih => simp only [List.map_cons, List.flatten_cons, List.length_append, ih, List.length_cons, hc, Nat.succ_mul]; omega
theorem flatL_get (hc : ∀ x, (c x).length = es) : ∀ (l : List β) (i : Nat) (h : i < l.length), (((l.map c).flatten.drop (i * es)).take es) = c l[i]
  | r :: l, 0, _ => by simp [List.take_of_length_le, hc]
  | r :: l, i + 1, h => by
    have e : (i + 1) * es = (c r).length + i * es := by rw [hc, Nat.succ_mul]; omega
    rw [List.map_cons, List.flatten_cons, e, ← List.drop_drop, List.drop_left]
    simpa using flatL_get hc l i (by simpa using h)

theorem idxL {l : List β} {id ep i : Nat} {k : IntKind} {α : Type} (h : i < l.length) (f : AV → Option α) : aIndexSl es (.sl id 0 l.length es ep) (.int k (i : Int)) f = f (.ptr id (0 + i * es) ep) := by
  rw [index_sl (by omega) (by omega), Int.toNat_natCast]
theorem loadL {s : Store} {id : Nat} {l : List β} {ro : Bool} (hc : ∀ x, (c x).length = es) (h : s.get id = .cells (l.map c).flatten ro) (i : Nat) (hi : i < l.length) {α : Type} (f : AV → Option α) : aLoadN es (.ptr id (0 + i * es) (l.length * es)) s f = f (.agg (c l[i])) := by
  have hle : i * es + es ≤ l.length * es := by rw [← Nat.succ_mul]; exact Nat.mul_le_mul_right _ hi
  rw [load_n h (flatL_len hc l) (by omega), Nat.zero_add, flatL_get hc l i hi]
/-- One cell of an element. -/
theorem fldL {s : Store} {id : Nat} {l : List β} {ro : Bool} (hc : ∀ x, (c x).length = es) (h : s.get id = .cells (l.map c).flatten ro) {i : Nat} (hi : i < l.length) {j : Nat} {v : AV} (hv : (c l[i])[j]? = some v) {α : Type} (f : AV → Option α) : aLoad1 (.ptr id (0 + i * es + j) (l.length * es)) s f = f v := by
  have hj : j < es := by have := (List.getElem?_eq_some_iff.1 hv).1; rw [hc] at this; exact this
  refine load_1 h (flatL_len hc l) ?_
  have := flatL_get hc l i hi
  have h2 : ((((l.map c).flatten.drop (i * es)).take es))[j]? = some v := by rw [this]; exact hv
  rw [List.getElem?_take, if_pos hj, List.getElem?_drop] at h2
  rw [Nat.zero_add]; exact h2
/-- An element of a slice: its address, and what lies there. -/
theorem elemL {s : Store} {v : AV} {l : List β} (hc : ∀ x, (c x).length = es) (h : IsL c es s v l) {i : Nat} (hi : i < l.length) : ∃ p, (∀ {α : Type} (k : IntKind) (f : AV → Option α), aIndexSl es v (.int k (i : Int)) f = f p) ∧ ∀ {α : Type} (f : AV → Option α), aLoadN es p s f = f (.agg (c l[i])) := by
  rcases h with ⟨_, rfl⟩ | ⟨id, ro, rfl, _, h⟩
  · simp at hi
  · exact ⟨_, fun k f => idxL hi f, fun f => loadL hc h i hi f⟩

/-- A thing more, in a row of one's own, or a new one. -/
theorem app_ownL {bytes : Nat} (hc : ∀ x, (c x).length = es) (he : 0 < es) (hby : 0 < bytes) {s : Store} {v : AV} {l : List β} {lo : Nat} (h : OwnL c es s v l lo) (hlo : lo ≤ s.next) (r : β) (hb : (l.length + 1) * bytes ≤ 140737488355328) :
    ∃ v' s', (∀ {α : Type} (f : AV → Store → Option α), aAppend es bytes v (.sl s.next 0 1 es es) (s.push (.cells (c r) false)) f = f v' s') ∧ OwnL c es s' v' (l ++ [r]) lo ∧ ExtLo lo s s' := by
  have hr := hc r
  rcases h with ⟨rfl, rfl⟩ | ⟨id, rfl, h1, h2, h3⟩
  · refine ⟨.sl (s.next + 1) 0 1 es (1 * es), (s.push (.cells (c r) false)).push (.cells (c r) false), fun f => ?_, .inr ⟨s.next + 1, rfl, by omega, by simp only [next_push]; omega, by grind [get_push, next_push]⟩, ⟨by simp only [next_push]; omega, fun l hl => by grind [get_push, next_push]⟩⟩
    have hb' : bytes ≤ 140737488355328 := by simpa using hb
    simp [aAppend, aCellsOf, aRow, get_push, hr, next_push, List.take_of_length_le, hby, hb']
  · have hne : id ≠ s.next := by omega
    have hfl := flatL_len hc l
    refine ⟨.sl id 0 (l.length + 1) es (l.length * es + 1 * es), (s.push (.cells (c r) false)).set id (.cells ((l.map c).flatten ++ c r) false), fun f => ?_, .inr ⟨id, by simp [Nat.succ_mul], h1, by simp only [next_set, next_push]; omega, by simp [get_set]⟩, ⟨by simp only [next_set, next_push]; omega, fun l hl => by grind [get_push, get_set]⟩⟩
    have hg : (s.push (.cells (c r) false)).get id = .cells (l.map c).flatten false := by rw [get_push, if_neg hne]; exact h3
    have ht : (s.push (.cells (c r) false)).get s.next = .cells (c r) false := by rw [get_push, if_pos rfl]
    simp [aAppend, aCellsOf, aRow, ht, hr, aOwn, hg, hfl, hb, he, hby, List.take_of_length_le]
end
end Go.Proofs.Ytkfdgegmahbkiaa.Sim
