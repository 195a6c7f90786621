/- Seat 05: the reference's Next, whole. No condition. -/
import Derived.Test.YteaflagknacfoaaSpD
namespace Go.Proofs.Yteaflagknacfoaa.Sim
set_option linter.unusedSimpArgs false

/-- Numbers behind numbers, in place. -/
theorem app_nums {α : Type} {s : Store} {id bytes : Nat} {k : IntKind} {xs ys : List Int} {y : AV} (hg : s.get id = .cells (xs.map (.int k)) false) (hy : IsSl s y k ys) (hb : (xs.length + ys.length) * bytes ≤ 140737488355328) (hb0 : 0 < bytes) (f : AV → Store → Option α) :
    aAppend 1 bytes (.sl id 0 xs.length 1 xs.length) y s f = f (.sl id 0 (xs ++ ys).length 1 (xs ++ ys).length) (s.set id (.cells ((xs ++ ys).map (.int k)) false)) := by
  rcases hy with ⟨rfl, rfl⟩ | ⟨l, ro, rfl, _, h3⟩
  · simp [aAppend, aCellsOf, aOwn, hg, set_same hg]
  · by_cases h0 : ys.length = 0
    · have : ys = [] := List.length_eq_zero_iff.1 h0
      subst this
      simp [aAppend, aCellsOf, aRow, h3, aOwn, hg, set_same hg]
    · simp [aAppend, aCellsOf, aRow, h3, aOwn, hg, h0, hb0, hb, List.take_of_length_le, show ys ≠ [] from fun q => h0 (by rw [q]; rfl)]

theorem turnsR_U {held : List Int} : ∀ (m i : Nat) (st : List Int × Int × Bool), U st.1 → U (turnsR held i m st).1
  | 0, _, _, h => h
  | m + 1, i, st, h => by rw [turnsR]; exact turnsR_U m (i + 1) _ (h.step st.2.1 st.2.2 i)
theorem fillR_U {held : List Int} {m : Nat} : ∀ (f : Nat) (now : List Int) (left : Int), U now → U (fillR held m f now left)
  | 0, now, _, h => h
  | f + 1, now, left, h => by
    unfold fillR
    split
    · split
      · exact fillR_U f _ _ (turnsR_U _ _ _ h)
      · exact turnsR_U _ _ _ h
    · exact h

theorem Keep.ext {id : Nat} {s s' : Store} (h : Keep id s s') (hid : s.next ≤ id) : Ext s s' := ⟨h.next, fun l hl => h.get l hl (by omega)⟩
theorem IsSl.ne {s : Store} {v : AV} {k : IntKind} {xs : List Int} {id : Nat} (h : IsSl s v k xs) (hid : s.next ≤ id) : IsSlN s v k xs id := by
  rcases h with h | ⟨l, ro, h1, h2, h3⟩
  · exact .inl h
  · exact .inr ⟨l, ro, h1, h2, by omega, h3⟩
theorem IsSlN.ext {s s' : Store} {v : AV} {k : IntKind} {xs : List Int} {id : Nat} (h : IsSlN s v k xs id) (e : Ext s s') : IsSlN s' v k xs id := by
  rcases h with h | ⟨l, ro, h1, h2, h4, h3⟩
  · exact .inl h
  · exact .inr ⟨l, ro, h1, Nat.lt_of_lt_of_le h2 e.next, h4, by rw [e.get l h2]; exact h3⟩

theorem ref_next {s : Store} {x0 x1 : AV} {base held : List Int} {most : Int} (k : Nat) (hk : 5000 ≤ k) (h0 : IsSl s x0 .u64 base) (h1 : IsSl s x1 .u64 held) (hu : U base) (hb : base.length ≤ 100) (hm : most < 9223372036854775808) :
    ∃ v s', run Try.prog (k + 2) 10 [x0, x1, .int .i64 most] s = some (v, s') ∧ IsRuns s' v (outR base (fillR held (min base.length 64) 4096 base (min most 4096)) 0 base.length) ∧ Ext s s' := by
  have hp : unisonref05_Next.f (k + 1) x0 x1 (.int .i64 most) s = unisonref05_Next.l2 (k + 1) (k + 1) x0 x1 (.sl s.next 0 0 3 0) (.sl (s.next + 1) 0 base.length 1 base.length) (.int .i64 (min most 4096)) (.bool true) (((s.push (.cells [] false)).push (.cells [] false)).set (s.next + 1) (.cells (base.map (.int .u64)) false)) := by
    unfold unisonref05_Next.f unisonref05_Next.p22 unisonref05_Next.p21 unisonref05_Next.p20 unisonref05_Next.p19 unisonref05_Next.p18 unisonref05_Next.p17
    have e : ∀ {α : Type} (f : List AV → Option α), aBuild [] [] f = f [] := fun _ => rfl
    have hy := (h0.ext (Ext.push s (.cells [] false))).ext (Ext.push _ (.cells [] false))
    have := app_nums (α := AV × Store) (s := (s.push (.cells [] false)).push (.cells [] false)) (id := s.next + 1) (bytes := 8) (k := .u64) (xs := []) (by grind [get_push, next_push]) hy (by simp; omega) (by omega)
    simp only [List.length_nil, List.nil_append] at this
    simp only [e, next_push, this, gtr_i]
    by_cases hc : most > 4096
    · rw [decide_eq_true hc, if_t, show min most 4096 = 4096 by omega]
    · rw [decide_eq_false hc, if_f, show min most 4096 = most by omega]
  rw [unisonref05_Next.eq, hp]
  generalize hs2 : ((s.push (.cells [] false)).push (.cells [] false)).set (s.next + 1) (.cells (base.map (.int .u64)) false) = s2
  have ke : Keep s.next s s2 := by rw [← hs2]; exact ⟨by simp only [next_set, next_push]; omega, fun l hl hne => by grind [get_set, get_push, next_push]⟩
  have ext2 := ke.ext (Nat.le_refl _)
  have hn2 : s2.next = s.next + 2 := by rw [← hs2]; rfl
  have hg1 : s2.get (s.next + 1) = .cells (base.map (.int .u64)) false := by rw [← hs2, get_set, if_pos rfl]
  have hg0 : s2.get s.next = .cells [] false := by rw [← hs2]; grind [get_set, get_push, next_push]
  have ext3 : ∀ o, Ext s (s2.set (s.next + 1) o) := fun o => ⟨ext2.next, fun l hl => by rw [get_set, if_neg (by omega)]; exact ext2.get l hl⟩
  have hx1 : IsSlN s2 x1 .u64 held (s.next + 1) := (h1.ne (by omega)).ext ext2
  rw [ref_rounds (k := k) (by omega) 4096 (k + 1) s2 base (min most 4096) hx1 hg1 hu (by omega) (by omega) (by omega)]
  unfold unisonref05_Next.p9
  rw [len_sl]
  have hlf := fillR_len held (min base.length 64) 4096 base (min most 4096)
  have huf := fillR_U (held := held) (m := min base.length 64) 4096 base (min most 4096) hu
  generalize fillR held (min base.length 64) 4096 base (min most 4096) = now at *
  obtain ⟨s', k1, k2, k3⟩ := ref_out (k + 1) (x0 := x0) (idn := s.next + 1) (ido := s.next) hu huf hlf.symm (by omega) (k + 1) base.length 0 (s2.set (s.next + 1) (.cells (now.map (.int .u64)) false)) [] ((h0.ne (Nat.le_refl _)).ext (ext3 _)) (by omega) (by simp only [next_set]; omega) (by simp only [next_set]; omega) (by rw [get_set, if_pos rfl]) (by rw [get_set, if_neg (by omega)]; exact hg0) (by simp; omega) (by omega) (by omega)
  rw [hlf] at k1
  simp only [List.nil_append, List.length_nil, Nat.zero_mul, Int.natCast_zero] at k1 k2
  refine ⟨_, s', k1, .inr ⟨s.next, false, rfl, by have := k3.next; simp only [next_set] at this; omega, k2⟩, ?_⟩
  exact ⟨by have := k3.next; simp only [next_set] at this; omega, fun l hl => by rw [k3.get l (by simp only [next_set]; omega) (by omega), get_set, if_neg (by omega)]; exact ext2.get l hl⟩
end Go.Proofs.Yteaflagknacfoaa.Sim
