/- Seat 05: the program's Next. No condition. -/
import Derived.Test.YtmaidlndikcgkaaB05E
namespace Go.Proofs.Ytmaidlndikcgkaa.Sim
set_option linter.unusedSimpArgs false

/-- What was reached, beyond the base. -/
def cntR (base now : List Int) (m : Nat) : List Int := (List.range m).map fun i => now.getD i 0 - base.getD i 0
theorem cntR_len (base now : List Int) (m : Nat) : (cntR base now m).length = m := by simp [cntR]
theorem cntR_get (base now : List Int) (m : Nat) {i : Nat} (h : i < m) : (cntR base now m).getD i 0 = now.getD i 0 - base.getD i 0 := by simp [cntR, h]
theorem cntR_set (base now : List Int) (m : Nat) {i : Nat} (hi : i < now.length) (v : Int) : (cntR base now m).set i (v - base.getD i 0) = cntR base (now.set i v) m := by
  apply List.ext_getElem (by simp [cntR])
  intro j h1 h2
  simp only [cntR, List.getElem_set, List.getElem_map, List.getElem_range, List.getD_eq_getElem?_getD, List.getElem?_set]
  by_cases e : i = j
  · subst e; simp [hi]
  · simp [e]

theorem stepR_ge {held base now : List Int} (hln : now.length = base.length) (h : ∀ j, base.getD j 0 ≤ now.getD j 0) (left : Int) (more : Bool) (i : Nat) : ∀ j, base.getD j 0 ≤ (stepR held (now, left, more) i).1.getD j 0 := by
  intro j
  have := h j
  unfold stepR
  split
  · simp only [List.getD_eq_getElem?_getD, List.getElem?_set]
    simp only [List.getD_eq_getElem?_getD] at this
    split
    · rename_i e; subst e
      split
      · simp; omega
      · rename_i h2
        rw [List.getElem?_eq_none (by omega)]
        simp
    · exact this
  · exact this
section
variable {k : Nat} {R0 : AV → AV → AV → AV → AV → AV → Store → Option (AV × Store)} {x0 x1 x8 : AV} {id : Nat} {held base : List Int} {pl : Nat}

end
end Go.Proofs.Ytmaidlndikcgkaa.Sim
