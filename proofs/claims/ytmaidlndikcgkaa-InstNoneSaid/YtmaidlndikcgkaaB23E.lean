/- Layer 23: a batch that is told; batches that are forgotten. No condition. -/
import Derived.Test.YtmaidlndikcgkaaB23D
namespace Go.Proofs.Ytmaidlndikcgkaa.Sim
set_option linter.unusedSimpArgs false
set_option linter.unusedVariables false

/-- append([]T{}, x..), a thing's copy. -/
theorem copyL {β : Type} {c : β → List AV} {es bytes : Nat} (hc : ∀ x, (c x).length = es) (he : 0 < es) (hby : 0 < bytes) {s : Store} {v : AV} {l : List β} (h : IsL c es s v l) (hb : l.length * bytes ≤ 140737488355328) :
    ∃ s', (∀ {α : Type} (f : AV → Store → Option α), aAppend es bytes (.sl s.next 0 0 es 0) v (s.push (.cells [] false)) f = f (.sl s.next 0 l.length es (l.length * es)) s') ∧ s'.get s.next = .cells (l.map c).flatten false ∧ s.next < s'.next ∧ Ext s s' := by
  have e1 := Ext.push s (.cells [] false)
  have hcells : ∀ {α : Type} (f : Nat → List AV → Option α), aCellsOf es v (s.push (.cells [] false)) f = f l.length (l.map c).flatten := fun f => by
    rcases h.ext e1 with ⟨rfl, rfl⟩ | ⟨id, ro, rfl, _, h3⟩
    · rfl
    · have hl := flatL_len hc l
      simp [aCellsOf, aRow, h3, hl, List.take_of_length_le]
  have g : (s.push (.cells [] false)).get s.next = .cells [] false := by rw [get_push, if_pos rfl]
  by_cases h0 : l = []
  · subst h0
    exact ⟨s.push (.cells [] false), fun f => by simp [aAppend, hcells, aOwn, g], by rw [g]; rfl, Nat.lt_succ_self _, e1⟩
  · have hl : l.length ≠ 0 := fun q => h0 (List.length_eq_zero_iff.1 q)
    refine ⟨(s.push (.cells [] false)).set s.next (.cells (l.map c).flatten false), fun f => ?_, by rw [get_set, if_pos rfl], Nat.lt_succ_self _, ⟨Nat.le_succ _, fun q hq => by rw [get_set, if_neg (by omega)]; exact e1.get q hq⟩⟩
    simp only [aAppend, hcells, aOwn, g, if_true, List.length_nil]
    rw [if_neg hl, if_pos ⟨by simp, by simpa using hb, he, hby⟩]
    simp
theorem clone_runs {s : Store} {v : AV} {l : List Rn} (h : IsRuns s v l) (hb : l.length ≤ 1000000) (k : Nat) : ∃ v' s', rn (k + 1) 32 [v] s = some (v', s') ∧ OwnL rcells 3 s' v' l s.next ∧ Ext s s' := by
  rw [api_Run_32.eq]
  unfold api_Run_32.f api_Run_32.p0
  rcases h with ⟨rfl, rfl⟩ | ⟨id, ro, rfl, h2, h3⟩
  · exact ⟨.nilsl, s, rfl, .inl ⟨rfl, rfl⟩, Ext.refl _⟩
  · have hL : IsL rcells 3 s (.sl id 0 l.length 3 (l.length * 3)) l := .inr ⟨id, ro, rfl, h2, h3⟩
    obtain ⟨s', k1, k2, k3, k4⟩ := copyL (bytes := 24) r_len (by decide) (by decide) hL (by omega)
    have e : ∀ {α : Type} (g : Bool → Option α), aEq .sl (.sl id 0 l.length 3 (l.length * 3)) .nilsl g = g false := fun g => rfl
    simp only [e, bnd, guard_tt, guard_ff, guard_tf, guard_ft, pick_t, pick_f, if_t, if_f, add_i, sub_i, lss_i, leq_i, gtr_i, geq_i, eql_i, neq_i, min_i, max_i, conv_i, len_sl, len_nil, not_b, cells_agg, new_s, fld_p, nil_p, build_0, k1]
    exact ⟨_, s', rfl, .inr ⟨s.next, rfl, Nat.le_refl _, k3, k2⟩, k4⟩

/-- An instance's batch, if it is kept. -/
def batN (L : List (List Rn)) (f x : Nat) : List Rn := if f < x ∧ x ≤ L.length then L.getD (x - 1) [] else []
/-- What is forgotten then. -/
def forgetN (L : List (List Rn)) (f x : Nat) : Nat := max f (min x L.length)

section
variable {s s' : Store} {τ : Nat → Nat} {id n d f : Nat} {L : List (List Rn)} {R : ORows}
end
end Go.Proofs.Ytmaidlndikcgkaa.Sim
