/- Layer 23: the next id; what is delivered. No condition. -/
import Derived.Test.YtmaidlndikcgkaaB23C
namespace Go.Proofs.Ytmaidlndikcgkaa.Sim
set_option linter.unusedSimpArgs false
set_option linter.unusedVariables false

/-- The id at a place, or none. -/
def nid (L : List (List Rn)) (d : Nat) : Idn := (idsOf L).getD d (0, 0)
theorem nid_at {L : List (List Rn)} {d : Nat} (h : d < (idsOf L).length) : nid L d = (idsOf L)[d] := by simp [nid, h]
theorem nid_out {L : List (List Rn)} {d : Nat} (h : ¬ d < (idsOf L).length) : nid L d = (0, 0) := by simp [nid, show (idsOf L).length ≤ d by omega]
theorem st_id {s : Store} {p : Nat} {cs : List AV} (h : s.get p = .cells cs false) (hc : cs.length = 2) (x : Idn) {α : Type} (f : Store → Option α) : aStore 2 (.ptr p 0 2) (.agg (icells x)) s f = f (s.set p (.cells (icells x) false)) := by
  match cs, hc with
  | [a, b], _ => simp [aStore, aCells, aOwn, h, icells, putAll]
theorem ld_id {s : Store} {p : Nat} {ro : Bool} {x : Idn} (h : s.get p = .cells (icells x) ro) {α : Type} (f : AV → Option α) : aLoadN 2 (.ptr p 0 2) s f = f (.agg (icells x)) := load_n h rfl (Nat.le_refl _)
theorem flat_set {β : Type} {c : β → List AV} {es : Nat} (hc : ∀ x, (c x).length = es) (pre : List β) (x : β) (l : List β) {j : Nat} (hj : j < es) (v : AV) : ((pre ++ x :: l).map c).flatten.set (pre.length * es + j) v = (pre.map c).flatten ++ ((c x).set j v ++ (l.map c).flatten) := by
  have hp := flatL_len hc pre
  rw [List.map_append, List.flatten_append, List.set_append_right _ _ (by omega), hp, List.map_cons, List.flatten_cons, List.set_append_left _ _ (by rw [hc]; omega)]
  congr 3
  omega
theorem waits_bound : ∀ {L : List (List Rn)} {i d : Nat}, ∀ x ∈ waitsOf i L d, x.2 ≤ (idsOf L).length ∧ x.1 < i + L.length
  | [], _, _, x, h => by simp [waitsOf] at h
  | l :: L, i, d, x, h => by
    rw [idsOf_cons, List.length_append, List.length_cons]
    unfold waitsOf at h
    split at h
    · have := waits_bound x h; omega
    · rcases List.mem_cons.1 h with rfl | h
      · simp only; omega
      · have := waits_bound x h; omega

section
variable {s s' : Store} {τ : Nat → Nat} {id n d f : Nat} {L : List (List Rn)} {R : ORows}
end
end Go.Proofs.Ytmaidlndikcgkaa.Sim
