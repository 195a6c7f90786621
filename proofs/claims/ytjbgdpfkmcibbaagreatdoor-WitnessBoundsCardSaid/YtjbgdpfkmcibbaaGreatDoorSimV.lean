/- The abstract machine: a table that a package-level variable holds when the call begins. Plain lemmas. No condition. -/
import Derived.Test.YtjbgdpfkmcibbaaGreatDoorSimP
import Derived.OpenShut
import Derived.FnData
import Derived.MakeChecks
import Derived.LaidLaws
import Derived.LaidMore
namespace Go.Proofs.YtjbgdpfkmcibbaaGreatDoor.Sim
open Go.ChangeShapes Go.WideShapes Go.RowKit

theorem tab_cells {P : Program} {name : String} {g : Nat} {t e : TypeId} {n : Nat} {k : IntKind} {tab : List Int} {w : World} (hg : P.globalNamed name = some g) (ht : (P.globals[g]?).map (·.type) = some t) (hu : P.underlying t = some (.array n e)) (he : P.underlying e = some (.int k)) (hc : P.cellsOf e = 1) (hct : P.cellsOf t = n)
    (h : laidMetH P [(name, .agg (tab.map fun x => .lit (.int k x)))] w) : ∃ (c : Array Value) (ty : TypeId) (fz : Nat × Nat), w.heap[g]? = some (.cells c ty fz) ∧ c.toList = tab.map (Value.int k) := by
  rw [MakeChecks.laidMetH_plain _ _ _ rfl] at h
  obtain ⟨ps, ⟨g', t', cs, f, p, q, hg', ht', hv, hd, _⟩, _, _⟩ := h
  obtain rfl := Option.some.inj (hg.symm.trans hg')
  obtain rfl := Option.some.inj (ht.symm.trans ht')
  obtain ⟨xs, m, rfl, hx, hlen, hn, hel⟩ := DataW.trod_array hu hd
  simp only [Prod.mk.injEq, DataW.agg.injEq] at hx
  have hcell : ∃ (ty : TypeId) (fz : Nat × Nat), w.heap[g]? = some (.cells cs ty fz) := by
    simp only [World.var?, hg, Option.bind_some] at hv
    split at hv
    · rename_i c ty fz hh
      obtain rfl := Option.some.inj hv
      exact ⟨ty, fz, hh⟩
    · cases hv
  obtain ⟨ty, fz, hh⟩ := hcell
  refine ⟨cs, ty, fz, hh, ?_⟩
  have htl : tab.length = n := by
    have := congrArg List.length hx.1
    simpa [hn] using this
  apply List.ext_getElem (by rw [hlen, hct, List.length_map, htl])
  intro i h1 h2
  have hin : i < n := by rw [hlen, hct] at h1; exact h1
  have := hel i hin
  rw [hc, Nat.mul_one] at this
  have hxi : xs[i]? = some (xs[i]'(by omega)) := List.getElem?_eq_getElem (by omega)
  rw [hxi] at this
  obtain ⟨y, e1, e2, _⟩ := DataW.trod_int he this
  have e3 : (cs.toList.drop i).take 1 = [cs.toList[i]] := by rw [List.drop_eq_getElem_cons h1]; rfl
  rw [e3] at e1
  obtain e1 := (List.cons.inj e1).1
  have e4 : (xs.map (·.1))[i]? = some (xs[i]'(by omega)).1 := by rw [List.getElem?_map, hxi]; rfl
  rw [← hx.1, List.getElem?_map, List.getElem?_eq_getElem (by omega)] at e4
  simp only [Option.map_some, Option.some.injEq] at e4
  rw [e2] at e4
  simp only [DataW.lit.injEq, Lit.int.injEq, true_and] at e4
  rw [e1, List.getElem_map, e4]

def Store.table (k : IntKind) (tab : List Int) : Store := ⟨1, fun l => if l = 0 then .cells (tab.map (.int k)) true else .none⟩
theorem plain_table (k : IntKind) (tab : List Int) : (Store.table k tab).plain := fun l hl => by
  simp only [Store.table] at hl ⊢
  rw [if_pos (by omega)]; rfl
theorem VRs_ints {ι : Nat → Loc} {s : Store} {w : World} (k : IntKind) : ∀ l : List Int, VRs ι s w (l.map (.int k)) (l.map (.int k))
  | [] => .nil _ _ _
  | x :: l => .cons (.int k x) (VRs_ints k l)

/-- The beginning: a store that holds one table. -/
theorem WR.table {w : World} {g : Nat} {k : IntKind} {tab : List Int} {c : Array Value} {ty : TypeId} {fz : Nat × Nat} (hh : w.heap[g]? = some (.cells c ty fz)) (hc : c.toList = tab.map (.int k)) (hG : ∀ j, gvA j = if j = g then .ptr 0 0 tab.length else .junk) :
    WR w.heap.size w (fun _ => ⟨g, 0, 0⟩) (Store.table k tab) w := by
  have g0 : (Store.table k tab).get 0 = .cells (tab.map (.int k)) true := rfl
  refine ⟨Below.refl _ _, Nat.le_refl _, fun l hl => ?_, fun l l' hl hl' hne => ?_, fun j => ?_⟩
  · have : l = 0 := Nat.lt_one_iff.1 hl
    subst this
    rw [g0]
    have hsz : c.size = tab.length := by have := congrArg List.length hc; simpa using this
    refine .inr ⟨c, ty, fz, hh, Nat.zero_le _, by simp [hsz], ?_, ?_, fun q => by cases q⟩
    · simp only [List.drop_zero, Nat.sub_zero, hc, List.length_map]
      rw [List.take_of_length_le (by simp)]
      exact VRs_ints k tab
    · simp only [List.drop_zero, Nat.sub_zero, hc, List.length_map]
      intro y hy
      have := List.mem_of_mem_take hy
      obtain ⟨x, _, rfl⟩ := List.mem_map.1 this
      rfl
  · have h1 : l = 0 := Nat.lt_one_iff.1 hl
    have h2 : l' = 0 := Nat.lt_one_iff.1 hl'
    exact absurd (h1.trans h2.symm) hne
  · rw [hG]
    by_cases e : j = g
    · subst e
      rw [if_pos rfl]
      exact .ptr (Nat.lt_succ_self _) (by rw [g0]; simp [AObj.size]) (fun _ => ⟨Nat.le_refl _, rfl⟩)
    · rw [if_neg e]; exact .junk _
end Go.Proofs.YtjbgdpfkmcibbaaGreatDoor.Sim
