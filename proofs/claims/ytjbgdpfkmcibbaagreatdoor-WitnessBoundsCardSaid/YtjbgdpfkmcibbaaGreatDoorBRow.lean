/- Rows that are stored and loaded whole, or by their cells. No condition. -/
import Derived.Test.YtjbgdpfkmcibbaaGreatDoorFunB
import Derived.Test.YtjbgdpfkmcibbaaGreatDoorSimW
import Derived.Test.YtjbgdpfkmcibbaaGreatDoorSimQ
namespace Go.Proofs.YtjbgdpfkmcibbaaGreatDoor.Sim
set_option linter.unusedSimpArgs false
set_option linter.unusedVariables false
variable {s : Store}
theorem rputAll_full : ∀ (vs cs pre : List AV), vs.length = cs.length → putAll (pre ++ cs) pre.length vs = pre ++ vs
  | [], cs, pre, h => by
    have : cs = [] := List.length_eq_zero_iff.1 h.symm
    rw [this]; rfl
  | v :: vs, [], pre, h => by simp at h
  | v :: vs, c :: cs, pre, h => by
    have := rputAll_full vs cs (pre ++ [v]) (by simpa using h)
    simp only [putAll]
    rw [List.set_append_right _ _ (Nat.le_refl _), Nat.sub_self, List.set_cons_zero]
    simpa using this
theorem rst_all {id n : Nat} {cs vs : List AV} (h : s.get id = .cells cs false) (hc : cs.length = n) (hv : vs.length = n) {α : Type} (f : Store → Option α) : aStore n (.ptr id 0 n) (.agg vs) s f = f (s.set id (.cells vs false)) := by
  have := rputAll_full vs cs [] (by omega)
  simp only [List.nil_append, List.length_nil] at this
  simp only [aStore, aCells, aOwn, h, hc, if_true]
  rw [if_pos (by omega), this]
theorem rld_all {id n : Nat} {cs : List AV} {ro : Bool} (h : s.get id = .cells cs ro) (hc : cs.length = n) {α : Type} (f : AV → Option α) : aLoadN n (.ptr id 0 n) s f = f (.agg cs) := by
  rw [load_n (off := 0) (ep := n) (n := n) h hc (by omega), List.drop_zero, List.take_of_length_le (by omega)]
theorem rld {id j ep : Nat} {cs : List AV} {ro : Bool} (h : s.get id = .cells cs ro) (hc : cs.length = ep) {v : AV} (hv : cs[j]? = some v) {α : Type} (f : AV → Option α) : aLoad1 (.ptr id (0 + j) ep) s f = f v := load_1 h hc (by rw [Nat.zero_add]; exact hv)
/-- A new row that is filled at once. -/
theorem new_all {n : Nat} {zs vs : List AV} (hz : zs.length = n) (hv : vs.length = n) {α : Type} (f : AV → Store → Option α) : (aNew zs s fun p t => aStore n p (.agg vs) t fun u => f p u) = f (.ptr s.next 0 n) (s.push (.cells vs false)) := by
  simp only [aNew, hz]
  rw [rst_all (s := s.push (.cells zs false)) (cs := zs) (by rw [get_push, if_pos rfl]) hz hv]
  congr 1
  unfold Store.set Store.push
  simp only
  congr 1
  funext j
  split <;> rfl
end Go.Proofs.YtjbgdpfkmcibbaaGreatDoor.Sim
