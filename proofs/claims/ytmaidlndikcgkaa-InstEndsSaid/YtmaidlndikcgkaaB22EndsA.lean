/- Layer 22: all end: what the processes know, where all is held and nobody is suspected. No condition. -/
import Derived.Test.YtmaidlndikcgkaaB22Pick
namespace Go.Proofs.Ytmaidlndikcgkaa.Sim
set_option linter.unusedSimpArgs false
set_option linter.unusedVariables false

/-- Who is one of the batches, or none. -/
def Mn (n : Nat) (mine : Nat → List Rn) (e : List Rn) : Prop := e = [] ∨ ∃ q, q < n ∧ e = mine q
theorem cast_ok2 {n p : Nat} {mine : Nat → List Rn} {b : Int} {V E : Gh} {m : XI} {w : List Rn} (k : KK n mine b V E) (h : PLoc n V E p m) (hc : m.cast = false) (hw : E (coordN n 1 m.round) m.round = some w) :
    ∃ V', Grow p V E V' E ∧ KK n mine b V' E ∧ PLoc n V' E p { m with vote := w, cast := true } ∧ ∀ r v, V' p r = some v → V p r = some v ∨ E (coordN n 1 r) r = some v := by
  have hnone := (h.none_ hc).1
  have hg : Grow p V E (up2 V p m.round w) E := ⟨up2_mono hnone, fun _ _ _ q => q, fun a ha => by
    funext r'
    exact up2_ne fun q => ha q.1, fun _ _ => rfl⟩
  have hnew : ∀ r v, up2 V p m.round w p r = some v → V p r = some v ∨ E (coordN n 1 r) r = some v := fun r v hv => by
    by_cases q : r = m.round
    · subst q
      rw [up2_at] at hv
      rw [← Option.some.inj hv]
      exact .inr hw
    · rw [up2_ne (by omega)] at hv
      exact .inl hv
  refine ⟨_, hg, ⟨fun a r' v hv => ?_, fun r0 r' a e hlt he ho => k.lock r0 r' a e hlt he (ho.old hg), k.val, k.bnd⟩, ⟨h.hn, h.me, h.num, h.rnd, h.est, fun _ => up2_at _ _ _ _, (fun q => by cases q), fun r' hr' => ?_, h.frl, fun a ph f ha hph hf => (h.frs a ph f ha hph hf).grow hg, h.own, fun d => (h.dec d).grow hg⟩, hnew⟩
  · by_cases q : a = p ∧ r' = m.round
    · obtain ⟨rfl, rfl⟩ := q
      rw [up2_at] at hv
      rw [← Option.some.inj hv]
      exact .inr hw
    · rw [up2_ne q] at hv
      exact k.vot a r' v hv
  · have hr2 : m.round < r' := hr'
    have hl := h.later r' hr2
    refine ⟨hl.1, ?_⟩
    rw [up2_ne (by omega)]
    exact hl.2
theorem votes_live {n p : Nat} {mine : Nat → List Rn} {b : Int} {V E : Gh} {m : XI} {held : List Int} (k : KK n mine b V E) (h : PLoc n V E p m) (hp : p < n) (hh : ∀ e, Mn n mine e → heldB held e = true) :
    ∃ V', Grow p V E V' E ∧ KK n mine b V' E ∧ PLoc n V' E p (votesX m held []).1 ∧ ∀ r v, V' p r = some v → V p r = some v ∨ E (coordN n 1 r) r = some v := by
  unfold votesX
  have hc1 : coordN m.n m.number m.round = coordN n 1 m.round := by rw [h.hn, h.num]
  rw [hc1]
  have hcl := coordN_lt (n := n) (by omega) 1 m.round
  cases hc : m.cast
  rotate_left
  · exact ⟨V, Grow.refl _ _ _, k, h, fun r v q => .inl q⟩
  simp only [Bool.false_eq_true, if_false]
  split
  · rename_i hme
    exact cast_ok2 k h hc (by rw [hme, h.me]; exact h.est)
  · cases hof : ofX m (coordN n 1 m.round) 0 with
    | none =>
      simp only [List.not_mem_nil, if_false]
      exact ⟨V, Grow.refl _ _ _, k, h, fun r v q => .inl q⟩
    | some f =>
      simp only
      obtain ⟨hok, hr⟩ := ofX_ok h hcl (by decide) hof
      rw [if_pos (hh f.est (k.val _ _ _ hok.1))]
      refine cast_ok2 k h hc ?_
      have := hok.1
      rw [hr] at this
      exact this
theorem step_live {n p : Nat} {mine : Nat → List Rn} {b : Int} {V E : Gh} {m : XI} {held : List Int} (k : KK n mine b V E) (h : PLoc n V E p m) (hp : p < n) (hb : b + 1 < 18446744073709551616) (hh : ∀ e, Mn n mine e → heldB held e = true) :
    ∃ V' E', Grow p V E V' E' ∧ KK n mine (b + 1) V' E' ∧ PLoc n V' E' p (stepX m held (mine p) []).1 ∧ ∀ r v, V' p r = some v → V p r = some v ∨ E' (coordN n 1 r) r = some v := by
  unfold stepX
  split
  · exact ⟨V, E, Grow.refl _ _ _, k.mono (by omega), h, fun r v q => .inl q⟩
  obtain ⟨E1, g1, k1, h1⟩ := jump_ok (held := held) k h hp
  obtain ⟨V2, g2, k2, h2, f2⟩ := votes_live (held := held) k1 h1 hp hh
  split
  · exact ⟨V2, E1, g1.trans g2, k2.mono (by omega), h2, f2⟩
  · rename_i hc
    have hc' : (votesX (jumpX m held (mine p)).1 held []).1.cast = true := by
      cases q : (votesX (jumpX m held (mine p)).1 held []).1.cast
      · exact absurd q hc
      · rfl
    obtain ⟨E3, g3, k3, h3⟩ := end_ok (held := held) (ch := ((votesX (jumpX m held (mine p)).1 held []).2 || (jumpX m held (mine p)).2)) k2 h2 hp hc' hb
    exact ⟨V2, E3, (g1.trans g2).trans g3, k3, h3, fun r v q => (f2 r v q).imp id fun z => g3.e _ _ _ z⟩
/-- In later rounds all vote for what the coordinator has. -/
def Frr (n : Nat) (R0 : Int) (V E : Gh) : Prop := ∀ p r v, p < n → R0 < r → V p r = some v → E (coordN n 1 r) r = some v
theorem Frr.step {n p : Nat} {R0 : Int} {V E V' E' : Gh} (h : Frr n R0 V E) (g : Grow p V E V' E') (hn : ∀ r v, V' p r = some v → V p r = some v ∨ E' (coordN n 1 r) r = some v) : Frr n R0 V' E' := by
  intro a r v ha hr hv
  by_cases q : a = p
  · subst q
    rcases hn r v hv with z | z
    · exact g.e _ _ _ (h a r v ha hr z)
    · exact z
  · rw [g.vo a q] at hv
    exact g.e _ _ _ (h a r v ha hr hv)

/-! ### the jump -/
theorem best_ge {held : List Int} {r X : Int} : ∀ (l : List (Option SF)) (a : Option SF), ((∃ b, a = some b ∧ b.round ≥ X) ∨ ∃ f, some f ∈ l ∧ f.round > r ∧ heldB held f.est = true ∧ f.round ≥ X) → ∃ b, l.foldl (stepB held r) a = some b ∧ b.round ≥ X
  | [], a, h => by
    rcases h with h | ⟨f, hf, _⟩
    · exact h
    · exact (List.not_mem_nil hf).elim
  | o :: l, a, h => by
    rw [List.foldl_cons]
    refine best_ge l _ ?_
    have keep : ∀ b, a = some b → b.round ≥ X → ∃ b', stepB held r a o = some b' ∧ b'.round ≥ X := fun b hb hX => by
      subst hb
      unfold stepB
      cases o with
      | none => exact ⟨b, rfl, hX⟩
      | some g =>
        simp only
        split
        · exact ⟨b, rfl, hX⟩
        · split
          · exact ⟨g, rfl, by omega⟩
          · exact ⟨b, rfl, hX⟩
    rcases h with ⟨b, hb, hX⟩ | ⟨f, hf, h1, h2, h3⟩
    · exact .inl (keep b hb hX)
    · rcases List.mem_cons.1 hf with rfl | hf
      · refine .inl ?_
        unfold stepB
        simp only
        rw [if_neg (by rw [h2]; simp only [Bool.true_eq_false, or_false]; omega)]
        cases a with
        | none => exact ⟨f, rfl, h3⟩
        | some b =>
          simp only
          split
          · exact ⟨f, rfl, h3⟩
          · exact ⟨b, rfl, by omega⟩
      · exact .inr ⟨f, hf, h1, h2, h3⟩
theorem beginX_est {m : XI} {r : Int} {held : List Int} {mine : List Rn} (h : m.est ≠ []) : (beginX m r held mine).est = m.est := by
  unfold beginX
  simp only
  rw [if_neg fun q => h q.1]
structure Same4 (m m' : XI) : Prop where
  n : m'.n = m.n
  me : m'.me = m.me
  number : m'.number = m.number
  base : m'.base = m.base
  most : m'.most = m.most
theorem Same4.refl (m : XI) : Same4 m m := ⟨rfl, rfl, rfl, rfl, rfl⟩
theorem Same4.trans {m m' m'' : XI} (h : Same4 m m') (k : Same4 m' m'') : Same4 m m'' := ⟨k.n.trans h.n, k.me.trans h.me, k.number.trans h.number, k.base.trans h.base, k.most.trans h.most⟩
theorem jump_same (m : XI) (held : List Int) (mine : List Rn) : Same4 m (jumpX m held mine).1 ∧ (jumpX m held mine).1.decided = m.decided ∧ (jumpX m held mine).1.fr = m.fr ∧ (m.est ≠ [] → (jumpX m held mine).1.est ≠ []) ∧ ((jumpX m held mine).1 = m ∨ ((jumpX m held mine).1.cast = false ∧ m.round < (jumpX m held mine).1.round)) := by
  unfold jumpX
  cases hb : bestX m held with
  | none => exact ⟨Same4.refl _, rfl, rfl, fun h => h, .inl rfl⟩
  | some b =>
    have hr := foldl_mem held m.round m.fr b hb
    refine ⟨⟨rfl, rfl, rfl, rfl, rfl⟩, rfl, rfl, fun h => ?_, .inr ⟨rfl, hr⟩⟩
    have hne : ({ m with est := if b.est = [] then m.est else b.est } : XI).est ≠ [] := by
      simp only
      split
      · exact h
      · assumption
    simp only
    rw [beginX_est hne]
    exact hne
theorem votes_same (m : XI) (held sus : List Int) : Same4 m (votesX m held sus).1 ∧ (votesX m held sus).1.decided = m.decided ∧ (votesX m held sus).1.fr = m.fr ∧ (votesX m held sus).1.est = m.est ∧ (votesX m held sus).1.round = m.round ∧ (m.cast = true → (votesX m held sus).1 = m) := by
  unfold votesX
  split
  · exact ⟨Same4.refl _, rfl, rfl, rfl, rfl, fun _ => rfl⟩
  · rename_i hc
    split
    · exact ⟨⟨rfl, rfl, rfl, rfl, rfl⟩, rfl, rfl, rfl, rfl, fun q => absurd q hc⟩
    · split
      · exact ⟨⟨rfl, rfl, rfl, rfl, rfl⟩, rfl, rfl, rfl, rfl, fun q => absurd q hc⟩
      · split
        · exact ⟨⟨rfl, rfl, rfl, rfl, rfl⟩, rfl, rfl, rfl, rfl, fun q => absurd q hc⟩
        · exact ⟨Same4.refl _, rfl, rfl, rfl, rfl, fun _ => rfl⟩
theorem end_same (m : XI) (held : List Int) (mine : List Rn) (ch : Bool) : Same4 m (endX m held mine ch).1 ∧ (m.est ≠ [] → (endX m held mine ch).1.est ≠ []) := by
  unfold endX
  split
  · exact ⟨⟨rfl, rfl, rfl, rfl, rfl⟩, fun h => h⟩
  · split
    · rename_i h3
      refine ⟨⟨rfl, rfl, rfl, rfl, rfl⟩, fun h => ?_⟩
      have := votedV_ne (judgeN_cases.2.1 h3)
      have hne : ({ m with est := (judgeX m held).2 } : XI).est ≠ [] := this
      rw [beginX_est hne]
      exact hne
    · split
      · exact ⟨⟨rfl, rfl, rfl, rfl, rfl⟩, fun h => by rw [beginX_est h]; exact h⟩
      · exact ⟨Same4.refl _, fun h => h⟩
theorem step_same (m : XI) (held : List Int) (mine : List Rn) (sus : List Int) : Same4 m (stepX m held mine sus).1 ∧ (m.est ≠ [] → (stepX m held mine sus).1.est ≠ []) := by
  have h1 := jump_same m held mine
  have h2 := votes_same (jumpX m held mine).1 held sus
  unfold stepX
  split
  · exact ⟨Same4.refl _, fun h => h⟩
  · split
    · exact ⟨h1.1.trans h2.1, fun h => by rw [h2.2.2.2.1]; exact h1.2.2.2.1 h⟩
    · have h3 := end_same (votesX (jumpX m held mine).1 held sus).1 held mine ((votesX (jumpX m held mine).1 held sus).2 || (jumpX m held mine).2)
      exact ⟨(h1.1.trans h2.1).trans h3.1, fun h => h3.2 (by rw [h2.2.2.2.1]; exact h1.2.2.2.1 h)⟩
end Go.Proofs.Ytmaidlndikcgkaa.Sim
