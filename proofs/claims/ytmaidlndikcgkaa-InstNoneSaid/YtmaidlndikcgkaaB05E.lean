/- Seat 05: the reference's Next, whole. No condition. -/
import Derived.Test.YtmaidlndikcgkaaB05D
namespace Go.Proofs.Ytmaidlndikcgkaa.Sim
set_option linter.unusedSimpArgs false

/-- Numbers behind numbers, in place. -/
theorem app_nums {α : Type} {s : Store} {id bytes : Nat} {k : IntKind} {xs ys : List Int} {y : AV} (hg : s.get id = .cells (xs.map (.int k)) false) (hy : IsSl s y k ys) (hb : (xs.length + ys.length) * bytes ≤ 140737488355328) (hb0 : 0 < bytes) (f : AV → Store → Option α) :
    aAppend 1 bytes (.sl id 0 xs.length 1 xs.length) y s f = f (.sl id 0 (xs ++ ys).length 1 (xs ++ ys).length) (s.set id (.cells ((xs ++ ys).map (.int k)) false)) := by
  rcases hy with ⟨rfl, rfl⟩ | ⟨l, ro, rfl, _, h3⟩
  · simp [aAppend, aCellsOf, aOwn, hg, set_same hg]
  · by_cases h0 : ys.length = 0
    · have : ys = [] := List.length_eq_zero_iff.1 h0
      subst this
      simp [aAppend, aCellsOf, aRow, h3, aOwn, hg, set_same hg]
    · simp [aAppend, aCellsOf, aRow, h3, aOwn, hg, h0, hb0, hb, List.take_of_length_le, show ys ≠ [] from fun q => h0 (by rw [q]; rfl)]

theorem turnsR_U {held : List Int} : ∀ (m i : Nat) (st : List Int × Int × Bool), U st.1 → U (turnsR held i m st).1
  | 0, _, _, h => h
  | m + 1, i, st, h => by rw [turnsR]; exact turnsR_U m (i + 1) _ (h.step st.2.1 st.2.2 i)
theorem fillR_U {held : List Int} {m : Nat} : ∀ (f : Nat) (now : List Int) (left : Int), U now → U (fillR held m f now left)
  | 0, now, _, h => h
  | f + 1, now, left, h => by
    unfold fillR
    split
    · split
      · exact fillR_U f _ _ (turnsR_U _ _ _ h)
      · exact turnsR_U _ _ _ h
    · exact h

theorem Keep.ext {id : Nat} {s s' : Store} (h : Keep id s s') (hid : s.next ≤ id) : Ext s s' := ⟨h.next, fun l hl => h.get l hl (by omega)⟩
theorem IsSl.ne {s : Store} {v : AV} {k : IntKind} {xs : List Int} {id : Nat} (h : IsSl s v k xs) (hid : s.next ≤ id) : IsSlN s v k xs id := by
  rcases h with h | ⟨l, ro, h1, h2, h3⟩
  · exact .inl h
  · exact .inr ⟨l, ro, h1, h2, by omega, h3⟩
theorem IsSlN.ext {s s' : Store} {v : AV} {k : IntKind} {xs : List Int} {id : Nat} (h : IsSlN s v k xs id) (e : Ext s s') : IsSlN s' v k xs id := by
  rcases h with h | ⟨l, ro, h1, h2, h4, h3⟩
  · exact .inl h
  · exact .inr ⟨l, ro, h1, Nat.lt_of_lt_of_le h2 e.next, h4, by rw [e.get l h2]; exact h3⟩

end Go.Proofs.Ytmaidlndikcgkaa.Sim
