/- The abstract machine: its steps on known values. Plain lemmas. No condition. -/
import Derived.Test.YtjbgdpfkmcibbaaGreatDoorSimA
namespace Go.Proofs.YtjbgdpfkmcibbaaGreatDoor.Sim
set_option linter.unusedSimpArgs false
section
variable {α : Type} {κ : AV → Option α} {s : Store}

theorem add_i (k : IntKind) (a b : Int) : aBin .add (.int k a) (.int k b) κ = κ (.int k (k.wrap (a + b))) := by simp [aBin, intBin]
theorem sub_i (k : IntKind) (a b : Int) : aBin .sub (.int k a) (.int k b) κ = κ (.int k (k.wrap (a - b))) := by simp [aBin, intBin]
theorem lss_i (k : IntKind) (a b : Int) : aBin .lss (.int k a) (.int k b) κ = κ (.bool (decide (a < b))) := by simp [aBin, intBin]
theorem leq_i (k : IntKind) (a b : Int) : aBin .leq (.int k a) (.int k b) κ = κ (.bool (decide (a ≤ b))) := by simp [aBin, intBin]
theorem gtr_i (k : IntKind) (a b : Int) : aBin .gtr (.int k a) (.int k b) κ = κ (.bool (decide (a > b))) := by simp [aBin, intBin]
theorem geq_i (k : IntKind) (a b : Int) : aBin .geq (.int k a) (.int k b) κ = κ (.bool (decide (a ≥ b))) := by simp [aBin, intBin]
theorem eql_i (k : IntKind) (a b : Int) : aBin .eql (.int k a) (.int k b) κ = κ (.bool (a == b)) := by simp [aBin, intBin]
theorem neq_i (k : IntKind) (a b : Int) : aBin .neq (.int k a) (.int k b) κ = κ (.bool (a != b)) := by simp [aBin, intBin]
theorem min_i (k k' : IntKind) (a b : Int) : aMinL (.int k a) [.int k' b] κ = κ (.int k (min a b)) := by
  simp only [aMinL, aMin2]; congr 2; omega
theorem max_i (k k' : IntKind) (a b : Int) : aMaxL (.int k a) [.int k' b] κ = κ (.int k (max a b)) := by
  simp only [aMaxL, aMax2]; congr 2; omega
theorem bnd {β : Type} (a : β) (f : β → Option α) : (some a).bind f = f a := id rfl
theorem if_t (x y : Option α) : aIf (.bool true) x y = x := id rfl
theorem if_f (x y : Option α) : aIf (.bool false) x y = y := id rfl
theorem if_d (p : Prop) [Decidable p] (x y : Option α) : aIf (.bool (decide p)) x y = if p then x else y := by
  by_cases h : p <;> simp [aIf, h]
theorem guard_same (b : Bool) (x y : Option α) : aGuard (.bool b) b x y = x := by simp [aGuard]
theorem guard_not (b w : Bool) (h : b ≠ w) (x y : Option α) : aGuard (.bool b) w x y = y := by simp [aGuard, h]
theorem guard_tf (x y : Option α) : aGuard (.bool true) false x y = y := id rfl
theorem guard_ft (x y : Option α) : aGuard (.bool false) true x y = y := id rfl
theorem guard_tt (x y : Option α) : aGuard (.bool true) true x y = x := id rfl
theorem guard_ff (x y : Option α) : aGuard (.bool false) false x y = x := id rfl
theorem not_b (b : Bool) : aUn .not (.bool b) κ = κ (.bool (!b)) := id rfl
theorem cells_agg (vs : List AV) (f : List AV → Option α) : aCells (.agg vs) f = f vs := id rfl
theorem new_s (cs : List AV) (f : AV → Store → Option α) : aNew cs s f = f (.ptr s.next 0 cs.length) (s.push (.cells cs false)) := id rfl
theorem fld_p (off l o ep : Nat) : aFieldAddr off (.ptr l o ep) κ = κ (.ptr l (o + off) ep) := id rfl
theorem nil_p (l off ep : Nat) : aNilCheck (.ptr l off ep) κ = κ (.ptr l off ep) := id rfl
theorem guard_skip (w : Bool) (x y : Option α) : aGuard (.tuple []) w x y = y := id rfl
theorem pick_t (a b : AV) : aPick (.bool true) a b κ = κ a := id rfl
theorem pick_f (a b : AV) : aPick (.bool false) a b κ = κ b := id rfl
theorem len_sl (l off n es ep : Nat) : aLen (.sl l off n es ep) κ = κ (.int .i64 n) := id rfl
theorem len_nil : aLen .nilsl κ = κ (.int .i64 0) := id rfl
theorem conv_i (k k' : IntKind) (n : Int) : aConvInt k (.int k' n) κ = κ (.int k (k.wrap n)) := id rfl
theorem index_sl {l off n es ep : Nat} {k : IntKind} {j : Int} (h0 : 0 ≤ j) (h1 : j < n) : aIndexSl es (.sl l off n es ep) (.int k j) κ = κ (.ptr l (off + j.toNat * es) ep) := by simp [aIndexSl, h0, h1]
theorem load_1 {l off ep : Nat} {xs : List AV} {ro : Bool} {v : AV} (hg : s.get l = .cells xs ro) (hl : xs.length = ep) (hv : xs[off]? = some v) : aLoad1 (.ptr l off ep) s κ = κ v := by
  simp [aLoad1, aRow, hg, hl, hv]
theorem load_n {l off ep n : Nat} {xs : List AV} {ro : Bool} (hg : s.get l = .cells xs ro) (hl : xs.length = ep) (hn : off + n ≤ ep) : aLoadN n (.ptr l off ep) s κ = κ (.agg ((xs.drop off).take n)) := by
  simp [aLoadN, aRow, hg, hl, hn]
end

theorem get_push (s : Store) (o : AObj) (l : Nat) : (s.push o).get l = if l = s.next then o else s.get l := id rfl
theorem get_set (s : Store) (l : Nat) (o : AObj) (j : Nat) : (s.set l o).get j = if j = l then o else s.get j := id rfl
theorem next_push (s : Store) (o : AObj) : (s.push o).next = s.next + 1 := id rfl
theorem next_set (s : Store) (l : Nat) (o : AObj) : (s.set l o).next = s.next := id rfl

/-- A store that has grown: the rows that were there are as they were. -/
structure Ext (s s' : Store) : Prop where
  next : s.next ≤ s'.next
  get : ∀ l, l < s.next → s'.get l = s.get l
theorem Ext.refl (s : Store) : Ext s s := ⟨Nat.le_refl _, fun _ _ => rfl⟩
theorem Ext.trans {s s' s'' : Store} (h : Ext s s') (k : Ext s' s'') : Ext s s'' := ⟨Nat.le_trans h.next k.next, fun l hl => (k.get l (Nat.lt_of_lt_of_le hl h.next)).trans (h.get l hl)⟩
theorem Ext.push (s : Store) (o : AObj) : Ext s (s.push o) := ⟨Nat.le_succ _, fun l hl => by rw [get_push, if_neg (by omega)]⟩
/-! ### numbers within their bounds -/
theorem w_u64 {n : Int} (h0 : 0 ≤ n) (h1 : n < 18446744073709551616) : IntKind.u64.wrap n = n := by
  simp [IntKind.wrap, IntKind.bits, IntKind.signed]; omega
theorem w_u8 {n : Int} (h0 : 0 ≤ n) (h1 : n < 256) : IntKind.u8.wrap n = n := by
  simp [IntKind.wrap, IntKind.bits, IntKind.signed]; omega
theorem w_u16 {n : Int} (h0 : 0 ≤ n) (h1 : n < 65536) : IntKind.u16.wrap n = n := by
  simp [IntKind.wrap, IntKind.bits, IntKind.signed]; omega
theorem w_i64 {n : Int} (h0 : -9223372036854775808 ≤ n) (h1 : n < 9223372036854775808) : IntKind.i64.wrap n = n := by
  simp [IntKind.wrap, IntKind.bits, IntKind.signed]; omega
end Go.Proofs.YtjbgdpfkmcibbaaGreatDoor.Sim
