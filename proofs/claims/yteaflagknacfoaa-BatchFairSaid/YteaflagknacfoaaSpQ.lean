/- Seat 05: what is built is a batch, held, and fair: the plain law. No condition. -/
import Derived.Test.YteaflagknacfoaaSpP
namespace Go.Proofs.Yteaflagknacfoaa.Sim
set_option linter.unusedSimpArgs false
set_option linter.unusedVariables false

/-- A place that could take one more. -/
def elig (held now : List Int) (i : Nat) : Prop := atI held i > now.getD i 0 ∧ now.getD i 0 < 4611686018427387904
def tot : List Int → Int
  | [] => 0
  | x :: l => x + tot l
theorem tot_set : ∀ (l : List Int) (i : Nat) (v : Int), i < l.length → tot (l.set i v) = tot l - l.getD i 0 + v
  | x :: l, 0, v, _ => by simp [tot]; omega
  | x :: l, i + 1, v, h => by
    have := tot_set l i v (by simpa using h)
    simp only [List.set_cons_succ, tot, this, List.getD_cons_succ]; omega
theorem getD_set (l : List Int) (i j : Nat) (v : Int) : (l.set i v).getD j 0 = if i = j ∧ j < l.length then v else l.getD j 0 := by
  simp only [List.getD_eq_getElem?_getD, List.getElem?_set]
  by_cases h : i = j
  · subst h
    by_cases h2 : i < l.length
    · simp [h2]
    · simp [h2]
  · simp [h]

/-- What holds of what was reached: never above what is held, nor above the greatest number, where anything was taken. -/
def Good (held base now : List Int) : Prop := ∀ i, base.getD i 0 ≤ now.getD i 0 ∧ (now.getD i 0 = base.getD i 0 ∨ now.getD i 0 ≤ atI held i ∧ now.getD i 0 ≤ 4611686018427387904)

theorem step_good {held base : List Int} {st : List Int × Int × Bool} (i : Nat) (h : Good held base st.1) : Good held base (stepR held st i).1 := by
  unfold stepR
  split
  · rename_i hc
    intro j
    have := h j
    simp only [getD_set]
    split
    · rename_i e
      obtain ⟨rfl, _⟩ := e
      have := hc.2.1; have := hc.2.2
      exact ⟨by omega, .inr ⟨by omega, by omega⟩⟩
    · exact this
  · exact h
theorem turns_good {held base : List Int} : ∀ (m i : Nat) (st : List Int × Int × Bool), Good held base st.1 → Good held base (turnsR held i m st).1
  | 0, _, _, h => h
  | m + 1, i, st, h => by rw [turnsR]; exact turns_good m (i + 1) _ (step_good i h)

/-- Within a round, ahead of place i: what the places have got. -/
structure InR (held base : List Int) (m r i : Nat) (st : List Int × Int × Bool) : Prop where
  left : 0 ≤ st.2.1
  done : ∀ j, j < i → j < m → st.1.getD j 0 - base.getD j 0 ≤ r + 1 ∧ (elig held st.1 j → (r : Int) ≤ st.1.getD j 0 - base.getD j 0 ∧ (st.1.getD j 0 - base.getD j 0 = r + 1 ∨ st.2.1 = 0))
  todo : ∀ j, i ≤ j → j < m → st.1.getD j 0 - base.getD j 0 ≤ r ∧ (elig held st.1 j → st.1.getD j 0 - base.getD j 0 = r)
  more : st.2.2 = false → ∀ j, j < i → j < m → elig held st.1 j → st.2.1 = 0

theorem step_mid {held base : List Int} {m r i : Nat} {st : List Int × Int × Bool} (him : i < m) (hml : m ≤ st.1.length) (h : InR held base m r i st) : InR held base m r (i + 1) (stepR held st i) ∧ tot (stepR held st i).1 + (stepR held st i).2.1 = tot st.1 + st.2.1 := by
  unfold stepR
  split
  · rename_i hc
    obtain ⟨c1, c2, c3⟩ := hc
    have ht := h.todo i (Nat.le_refl _) him
    have hti := ht.2 ⟨c2, c3⟩
    refine ⟨⟨by simp only; omega, fun j hj hjm => ?_, fun j hj hjm => ?_, fun q => by simp at q⟩, ?_⟩
    · simp only [elig, getD_set]
      by_cases e : i = j
      · subst e
        rw [if_pos ⟨rfl, by omega⟩]
        exact ⟨by omega, fun _ => ⟨by omega, .inl (by omega)⟩⟩
      · rw [if_neg (fun q => e q.1)]
        obtain ⟨d1, d2⟩ := h.done j (by omega) hjm
        refine ⟨d1, fun he => ⟨(d2 he).1, ?_⟩⟩
        rcases (d2 he).2 with q | q
        · exact .inl q
        · omega
    · simp only [elig, getD_set]
      rw [if_neg (fun q => by omega)]
      exact h.todo j (by omega) hjm
    · simp only
      rw [tot_set _ _ _ (by omega)]; omega
  · rename_i hc
    refine ⟨⟨h.left, fun j hj hjm => ?_, fun j hj hjm => h.todo j (by omega) hjm, fun q j hj hjm he => ?_⟩, rfl⟩
    · by_cases e : j = i
      · subst e
        obtain ⟨t1, t2⟩ := h.todo j (Nat.le_refl _) hjm
        refine ⟨by omega, fun he => ⟨by have := t2 he; omega, .inr ?_⟩⟩
        have hl := h.left
        by_cases h0 : st.2.1 > 0
        · exact absurd ⟨h0, he.1, he.2⟩ hc
        · omega
      · exact h.done j (by omega) hjm
    · by_cases e : j = i
      · subst e
        have hl := h.left
        by_cases h0 : st.2.1 > 0
        · exact absurd ⟨h0, he.1, he.2⟩ hc
        · omega
      · exact h.more q j (by omega) hjm he
theorem turns_mid {held base : List Int} {m r : Nat} : ∀ (n i : Nat) (st : List Int × Int × Bool), i + n = m → m ≤ st.1.length → InR held base m r i st → InR held base m r m (turnsR held i n st) ∧ tot (turnsR held i n st).1 + (turnsR held i n st).2.1 = tot st.1 + st.2.1
  | 0, i, st, hi, _, h => by have : i = m := by omega
                             subst this; exact ⟨h, rfl⟩
  | n + 1, i, st, hi, hml, h => by
    obtain ⟨h1, h2⟩ := step_mid (i := i) (by omega) hml h
    obtain ⟨k1, k2⟩ := turns_mid n (i + 1) (stepR held st i) (by omega) (by rw [stepR_len]; exact hml) h1
    rw [turnsR]
    exact ⟨k1, k2.trans h2⟩

/-- What is reached in the end. -/
theorem fill_fair {held base : List Int} {m : Nat} : ∀ (f : Nat) (now : List Int) (left : Int) (r : Nat), m ≤ now.length → 0 ≤ left → left ≤ f → Good held base now → (∀ j, j < m → now.getD j 0 - base.getD j 0 ≤ r ∧ (elig held now j → now.getD j 0 - base.getD j 0 = r)) →
    Good held base (fillR held m f now left) ∧ ∃ lf, 0 ≤ lf ∧ tot (fillR held m f now left) + lf = tot now + left ∧ ∃ q : Nat, ∀ j, j < m → (fillR held m f now left).getD j 0 - base.getD j 0 ≤ q + 1 ∧ (elig held (fillR held m f now left) j → (q : Int) ≤ (fillR held m f now left).getD j 0 - base.getD j 0 ∧ lf = 0)
  | 0, now, left, r, _, h0, hf, hg, hr => by
    refine ⟨hg, left, h0, rfl, r, fun j hj => ?_⟩
    obtain ⟨h1, h2⟩ := hr j hj
    exact ⟨by show now.getD j 0 - base.getD j 0 ≤ _; omega, fun he => ⟨by have := h2 he; show (r : Int) ≤ now.getD j 0 - base.getD j 0; omega, by omega⟩⟩
  | f + 1, now, left, r, hml, h0, hf, hg, hr => by
    unfold fillR
    by_cases hl : 0 < left
    · rw [if_pos hl]
      have hm0 : InR held base m r 0 (now, left, false) := ⟨h0, fun j hj => absurd hj (Nat.not_lt_zero j), fun j _ hj => hr j hj, fun _ j hj => absurd hj (Nat.not_lt_zero j)⟩
      obtain ⟨k1, k2⟩ := turns_mid (held := held) (base := base) (r := r) m 0 (now, left, false) (by omega) hml hm0
      have hg' := turns_good (held := held) (base := base) m 0 (now, left, false) hg
      have hlen := turnsR_len held m 0 (now, left, false)
      obtain ⟨g1, g2, g3⟩ := turnsR_left held m 0 (now, left, false)
      generalize turnsR held 0 m (now, left, false) = R at *
      obtain ⟨now', left', more'⟩ := R
      simp only at *
      by_cases hm : more' = true
      · rw [if_pos hm]
        have hlt : left' < left := by
          rcases g3 hm with q | q
          · cases q
          · exact q
        by_cases hz : left' = 0
        · -- nothing is left: nothing more happens
          have hend : fillR held m f now' left' = now' := by
            cases f with
            | zero => rfl
            | succ f => unfold fillR; rw [if_neg (by omega)]
          rw [hend]
          refine ⟨hg', left', by omega, by omega, r, fun j hj => ?_⟩
          obtain ⟨d1, d2⟩ := k1.done j hj hj
          exact ⟨d1, fun he => ⟨(d2 he).1, hz⟩⟩
        · obtain ⟨i1, lf, i2, i3, q, i4⟩ := fill_fair (m := m) f now' left' (r + 1) (by omega) k1.left (by omega) hg' (fun j hj => by
            obtain ⟨d1, d2⟩ := k1.done j hj hj
            refine ⟨by push_cast; exact d1, fun he => ?_⟩
            rcases (d2 he).2 with e | e
            · push_cast; exact e
            · exact absurd e hz)
          exact ⟨i1, lf, i2, by omega, q, i4⟩
      · have hm' : more' = false := by simpa using hm
        rw [if_neg hm]
        refine ⟨hg', left', k1.left, by omega, r, fun j hj => ?_⟩
        obtain ⟨d1, d2⟩ := k1.done j hj hj
        exact ⟨d1, fun he => ⟨(d2 he).1, k1.more hm' j hj hj he⟩⟩
    · rw [if_neg hl]
      refine ⟨hg, left, h0, rfl, r, fun j hj => ?_⟩
      obtain ⟨h1, h2⟩ := hr j hj
      exact ⟨by omega, fun he => ⟨by have := h2 he; omega, by omega⟩⟩

/-- The differences, from a place on. -/
def difR (base now : List Int) : Nat → Nat → Int
  | _, 0 => 0
  | i, m + 1 => (now.getD i 0 - base.getD i 0) + difR base now (i + 1) m
theorem tot_drop (l : List Int) {i : Nat} (h : i < l.length) : tot (l.drop i) = l.getD i 0 + tot (l.drop (i + 1)) := by
  rw [List.drop_eq_getElem_cons h, tot]; simp [h]
theorem difR_tot {base now : List Int} (hl : now.length = base.length) : ∀ (m i : Nat), i + m = base.length → difR base now i m = tot (now.drop i) - tot (base.drop i)
  | 0, i, h => by rw [difR, List.drop_eq_nil_of_le (by omega), List.drop_eq_nil_of_le (by omega)]; simp [tot]
  | m + 1, i, h => by
    have a1 := tot_drop now (i := i) (by omega)
    have a2 := tot_drop base (i := i) (by omega)
    rw [difR, difR_tot hl m (i + 1) (by omega)]; omega

section
variable {held base now : List Int}
/-- The runs that are told are a batch on the base. -/
theorem out_ok (hub : U base) (hg : Good held base now) : ∀ (m i : Nat), i + m ≤ 64 → i + m ≤ base.length → ∀ last : Int, last < i → -1 ≤ last → mayFrom base last (outR base now i m) = true ∧ (∀ r ∈ outR base now i m, WfR r ∧ runOk r = true ∧ badR held r = false ∧ lastR r = now.getD r.1.toNat 0 ∧ r.2.2 = now.getD r.1.toNat 0 - base.getD r.1.toNat 0 ∧ (i : Int) ≤ r.1 ∧ r.1 < i + m)
  | 0, i, _, _, last, _, _ => ⟨rfl, fun r h => by simp [outR] at h⟩
  | m + 1, i, h1, h2, last, h3, h4 => by
    have hb := hub.at i
    have hgi := hg i
    rw [outR]
    by_cases hc : now.getD i 0 > base.getD i 0
    · rw [if_pos hc]
      obtain ⟨k1, k2⟩ := out_ok hub hg m (i + 1) (by omega) (by omega) i (by omega) (by omega)
      have hle : now.getD i 0 ≤ atI held i ∧ now.getD i 0 ≤ 4611686018427387904 := by
        rcases hgi.2 with q | q
        · omega
        · exact q
      have hok : runOk ((i : Int), base.getD i 0 + 1, now.getD i 0 - base.getD i 0) = true := decide_eq_true (by simp only; omega)
      have hlast : lastR ((i : Int), base.getD i 0 + 1, now.getD i 0 - base.getD i 0) = now.getD i 0 := by unfold lastR; simp only; omega
      refine ⟨?_, fun r hr => ?_⟩
      · unfold mayFrom
        simp only [hok, Int.toNat_natCast, Bool.true_and, Bool.and_eq_true, Bool.not_eq_true', decide_eq_true_eq, decide_eq_false_iff_not]
        exact ⟨by omega, by omega, by omega, k1⟩
      · rcases List.mem_cons.1 hr with rfl | hr
        · refine ⟨?_, hok, ?_, ?_, ?_, ?_, ?_⟩
          · unfold WfR; simp only; omega
          · unfold badR; rw [hok, hlast]; simp only [Bool.not_true, Bool.false_or, decide_eq_false_iff_not]; omega
          · rw [hlast]; simp
          · simp
          · simp
          · simp only; omega
        · obtain ⟨a1, a2, a3, a4, a5, a6, a7⟩ := k2 r hr
          exact ⟨a1, a2, a3, a4, a5, by omega, by omega⟩
    · rw [if_neg hc]
      obtain ⟨k1, k2⟩ := out_ok hub hg m (i + 1) (by omega) (by omega) last (by omega) h4
      exact ⟨k1, fun r hr => by
        obtain ⟨a1, a2, a3, a4, a5, a6, a7⟩ := k2 r hr
        exact ⟨a1, a2, a3, a4, a5, by omega, by omega⟩⟩
theorem difR_nn (hg : Good held base now) : ∀ (m i : Nat), 0 ≤ difR base now i m
  | 0, _ => Int.le_refl _
  | m + 1, i => by have := difR_nn hg m (i + 1); have := (hg i).1; rw [difR]; omega
theorem out_count (hub : U base) (hg : Good held base now) : ∀ (m i : Nat) (a : Int), i + m ≤ 64 → i + m ≤ base.length → 0 ≤ a → a + difR base now i m < 4611686018427387904 → countR a (outR base now i m) = a + difR base now i m
  | 0, i, a, _, _, _, _ => by simp [outR, countR, difR]
  | m + 1, i, a, h1, h2, h3, h4 => by
    have hgi := hg i
    have hnn := difR_nn hg m (i + 1)
    have hok := (out_ok hub hg (m + 1) i h1 h2 (-1) (by omega) (by omega)).2
    rw [outR] at hok ⊢
    rw [difR] at h4 ⊢
    by_cases hc : now.getD i 0 > base.getD i 0
    · rw [if_pos hc] at hok ⊢
      have hr := (hok _ List.mem_cons_self).2.1
      rw [countR, if_pos hr]
      simp only
      rw [show min (a + (now.getD i 0 - base.getD i 0)) 4611686018427387904 = a + (now.getD i 0 - base.getD i 0) by omega, out_count hub hg m (i + 1) _ (by omega) (by omega) (by omega) (by omega)]
      omega
    · rw [if_neg hc, out_count hub hg m (i + 1) a (by omega) (by omega) h3 (by omega)]
      omega
theorem out_mem : ∀ (m i : Nat) {j : Nat}, i ≤ j → j < i + m → now.getD j 0 > base.getD j 0 → ((j : Int), base.getD j 0 + 1, now.getD j 0 - base.getD j 0) ∈ outR base now i m
  | 0, i, j, h1, h2, _ => by omega
  | m + 1, i, j, h1, h2, h3 => by
    rw [outR]
    by_cases e : j = i
    · subst e; rw [if_pos h3]; exact List.mem_cons_self
    · have := out_mem m (i + 1) (j := j) (by omega) (by omega) h3
      split
      · exact List.mem_cons_of_mem _ this
      · exact this
/-- The base behind them is what was reached. -/
theorem out_after (hub : U base) (hg : Good held base now) (hl : now.length = base.length) (hl2 : base.length ≤ 64) (hc : difR base now 0 base.length ≤ 4096) : afterR base (outR base now 0 base.length) = now := by
  obtain ⟨k1, k2⟩ := out_ok hub hg base.length 0 (by omega) (by omega) (-1) (by omega) (by omega)
  have hcnt := out_count hub hg base.length 0 0 (by omega) (by omega) (by omega) (by omega)
  obtain ⟨m1, m2, m3, m4⟩ := mayFrom_inc k1
  obtain ⟨f1, f2⟩ := foldR_get (outR base now 0 base.length) base (-1) (by omega) m1 m2
  have hfold : (outR base now 0 base.length).foldl setR base = now := by
    refine ext_getD (by rw [foldR_len, hl]) fun j => ?_
    by_cases hj : ∃ r ∈ outR base now 0 base.length, r.1.toNat = j
    · obtain ⟨r, hr, rfl⟩ := hj
      rw [f1 r hr, (k2 r hr).2.2.2.1]
    · rw [f2 j fun r hr q => hj ⟨r, hr, q⟩]
      have := (hg j).1
      by_cases hlt : j < base.length
      · by_cases hgt : now.getD j 0 > base.getD j 0
        · exact absurd ⟨_, out_mem base.length 0 (Nat.zero_le _) (by omega) hgt, by simp⟩ hj
        · omega
      · have a1 : now.getD j 0 = 0 := by simp [show now.length ≤ j by omega]
        have a2 : base.getD j 0 = 0 := by simp [show base.length ≤ j by omega]
        rw [a1, a2]
  unfold afterR
  split
  · exact hfold
  · rename_i hm
    by_cases he : outR base now 0 base.length = []
    · rw [he] at hfold; exact hfold
    · exfalso
      apply hm
      unfold mayR
      rw [if_neg (fun q => by rcases q with q | q | q
                              · exact he q
                              · omega
                              · rw [hcnt] at q; omega)]
      exact k1
end
end Go.Proofs.Yteaflagknacfoaa.Sim
