/- Layer 22: all end: the bound; what holds along the picks. Plain. No condition. -/
import Derived.Test.YtmaidlndikcgkaaB22EndsD
namespace Go.Proofs.Ytmaidlndikcgkaa.Sim
set_option linter.unusedSimpArgs false
set_option linter.unusedVariables false
variable {n : Nat} {mine : Nat → List Rn} {held : List Int} {b R0 R : Int} {L : Nat → XI}

theorem end_round {m : XI} {mi : List Rn} {ch : Bool} (hr : 0 ≤ m.round ∧ m.round + 1 < 18446744073709551616) : m.round ≤ (endX m held mi ch).1.round ∧ (endX m held mi ch).1.round ≤ m.round + 1 := by
  have hw : IntKind.u64.wrap (m.round + 1) = m.round + 1 := w_u64 (by omega) (by omega)
  unfold endX
  split
  · exact ⟨Int.le_refl _, by show m.round ≤ m.round + 1; omega⟩
  · split
    · show m.round ≤ IntKind.u64.wrap (m.round + 1) ∧ IntKind.u64.wrap (m.round + 1) ≤ m.round + 1
      rw [hw]; omega
    · split
      · show m.round ≤ IntKind.u64.wrap (m.round + 1) ∧ IntKind.u64.wrap (m.round + 1) ≤ m.round + 1
        rw [hw]; omega
      · exact ⟨Int.le_refl _, by show m.round ≤ m.round + 1; omega⟩
theorem step_rounds {V E : Gh} (loc : ∀ p, p < n → PLoc n V E p (L p)) (hR : ∀ p, p < n → (L p).round ≤ R0) (h64 : R0 + 1 < 18446744073709551616) {p : Nat} (hp : p < n) : (L p).round ≤ (stepA' mine held L p).round ∧ (stepA' mine held L p).round ≤ R0 + 1 := by
  have hl := loc p hp
  have h0 := hl.rnd
  have hRp := hR p hp
  have hj : (L p).round ≤ (jumpX (L p) held (mine p)).1.round ∧ (jumpX (L p) held (mine p)).1.round ≤ R0 := by
    unfold jumpX
    cases hb : bestX (L p) held with
    | none => exact ⟨Int.le_refl _, hRp⟩
    | some f =>
      have h1 := foldl_mem held (L p).round (L p).fr f hb
      rcases best_mem (L p).fr none f hb with q | ⟨i, q⟩
      · cases q
      have hmem := List.mem_of_getElem? q
      obtain ⟨i, hi, he⟩ := List.mem_iff_getElem.1 hmem
      have hlr := hl.frl
      have hfa : frAt (L p) (i / 2) (i % 2) = some f := by
        unfold frAt
        rw [show i / 2 * 2 + i % 2 = i by omega, List.getElem?_eq_getElem hi, he]
        rfl
      have ha : i / 2 < n := by omega
      have hok := hl.frs (i / 2) (i % 2) f ha (by omega) hfa
      have h2 := (loc _ ha).le hok.1
      have h3 := hR _ ha
      show (L p).round ≤ f.round ∧ f.round ≤ R0
      omega
  have hv := (votes_same (jumpX (L p) held (mine p)).1 held []).2.2.2.2.1
  unfold stepA' stepX
  split
  · exact ⟨Int.le_refl _, by show (L p).round ≤ R0 + 1; omega⟩
  · split
    · show (L p).round ≤ (votesX (jumpX (L p) held (mine p)).1 held []).1.round ∧ (votesX (jumpX (L p) held (mine p)).1 held []).1.round ≤ R0 + 1
      omega
    · have := end_round (m := (votesX (jumpX (L p) held (mine p)).1 held []).1) (held := held) (mi := mine p) (ch := ((votesX (jumpX (L p) held (mine p)).1 held []).2 || (jumpX (L p) held (mine p)).2)) (by omega)
      omega
theorem top_ex : ∀ (n : Nat) (L : Nat → XI), 0 < n → ∃ R, Top n L R
  | 0, _, h => by omega
  | 1, L, _ => ⟨(L 0).round, fun p hp => by rw [show p = 0 by omega]; omega, 0, by omega, rfl⟩
  | n + 2, L, _ => by
    obtain ⟨R, t⟩ := top_ex (n + 1) L (by omega)
    obtain ⟨a, ha, haR⟩ := t.ex
    by_cases h : R ≤ (L (n + 1)).round
    · refine ⟨(L (n + 1)).round, fun p hp => ?_, n + 1, by omega, rfl⟩
      by_cases q : p = n + 1
      · subst q; omega
      · have := t.le p (by omega); omega
    · refine ⟨R, fun p hp => ?_, a, by omega, haR⟩
      by_cases q : p = n + 1
      · subst q; omega
      · exact t.le p (by omega)
/-- Behind so many times all have decided. -/
theorem ends_plain {q : Nat} (hqn : q < n) (h : Lv n mine held b R0 L) (t : Top n L R0) (hR : R0 ≤ b) (hR0 : 0 ≤ R0) (he : (L q).est ≠ []) (hb : b + (4 * n + 12 : Nat) * n < 1000000000) : Alld n (times n mine held (4 * n + 12) L) := by
  have e1 : (((4 * n + 12) * n : Nat) : Int) = (((4 * n + 11) * n : Nat) : Int) + n := by rw [show 4 * n + 12 = (4 * n + 11) + 1 from rfl, Nat.succ_mul]; omega
  have e2 : ((4 * n + 12 : Nat) : Int) * n = (((4 * n + 12) * n : Nat) : Int) := by simp
  have e3 : ((4 * n + 11 : Nat) : Int) * n = (((4 * n + 11) * n : Nat) : Int) := by simp
  rw [e2, e1] at hb
  obtain ⟨h1, h2, h3⟩ := time_live h (by omega)
  have he2 := time_est he h3
  show Alld n (times n mine held (4 * n + 11) (timeA n mine held L))
  have hb2 : b + n + ((4 * n + 11 : Nat) : Int) * n < 18446744073709551616 := by rw [e3]; omega
  rcases h2 with h2 | ⟨_, kn⟩
  · exact times_dec _ h1 hb2 h2
  · obtain ⟨T, hT1, hT2, hT3⟩ := coord_ex hqn R0 hR0 (by omega)
    obtain ⟨R1, t1⟩ := top_ex n (timeA n mine held L) (by omega)
    obtain ⟨V, E, k, loc, fr⟩ := h.ex
    have hs : ∀ p, p < n → (L p).round ≤ (timeA n mine held L p).round ∧ (timeA n mine held L p).round ≤ R0 + 1 := fun p hp => by
      rw [(h3 p).round]
      exact step_rounds loc t.le (by omega) hp
    obtain ⟨a, ha, haR⟩ := t.ex
    obtain ⟨c, hc, hcR⟩ := t1.ex
    have g1 := (hs a ha).1
    have g2 := t1.le a ha
    have g3 := (hs c hc).2
    have := phs_le n (timeA n mine held L) R1
    exact times_end hT1 hT3 hqn (4 * n + 11) h1 hb2 kn t1 (by omega) he2 (by omega)
/-! ### along the picks -/
theorem mine_one {cs : List Int} (hcs : ∀ c ∈ cs, 0 ≤ c ∧ c < 256) {q : Nat} (hm : mineOf cs q ≠ []) : mineOf cs q = [((q : Int), 1, kOf cs q)] ∧ 1 ≤ kOf cs q ∧ kOf cs q ≤ 3 := by
  have hb := kOf_b hcs q
  unfold mineOf at hm ⊢
  by_cases h : kOf cs q > 0
  · rw [if_pos h]; exact ⟨rfl, by omega, hb.2⟩
  · rw [if_neg h] at hm; exact absurd rfl hm
theorem run_ok1 {k : Int} {q : Nat} (hq : q < 64) (hk : 1 ≤ k ∧ k ≤ 3) : runOk ((q : Int), 1, k) = true := by
  unfold runOk
  simp only [decide_eq_true_eq]
  omega
theorem held_one {q : Nat} {k : Int} {held : List Int} (hq : q < 64) (hk : 1 ≤ k ∧ k ≤ 3) (hl : q < held.length) (h : held.getD q 0 = k) : heldB held [((q : Int), 1, k)] = true := by
  unfold heldB
  simp only [List.any_cons, List.any_nil, Bool.or_false]
  unfold badR
  rw [run_ok1 hq hk]
  have : ¬ atI held (q : Int) < lastR ((q : Int), 1, k) := by
    unfold atI lastR
    simp only [Int.toNat_natCast]
    omega
  rw [decide_eq_false this]
  rfl
theorem may_one {n q : Nat} {k : Int} (hq : q < n) (hn : n ≤ 64) (hk : 1 ≤ k ∧ k ≤ 3) : mayR (List.replicate n 0) 100 [((q : Int), 1, k)] = true := by
  have h1 := run_ok1 (show q < 64 by omega) hk
  have hc : countR 0 [((q : Int), 1, k)] = k := by
    unfold countR countR
    rw [if_pos h1]
    show min (0 + k) 4611686018427387904 = k
    omega
  unfold mayR
  rw [hc, if_neg (by simp; omega)]
  unfold mayFrom mayFrom
  simp only [h1, List.length_replicate, Int.toNat_natCast, Bool.and_true, Bool.true_and, Bool.and_eq_true, Bool.not_eq_true', decide_eq_false_iff_not, decide_eq_true_eq]
  refine ⟨by omega, by omega, ?_⟩
  rw [List.getD_eq_getElem?_getD, List.getElem?_replicate, if_pos hq]
  rfl
structure EInv (n : Nat) (cs : List Int) (b : Int) (l : List PM) (o : List OF) : Prop where
  pinv : PInv n cs b l o
  held : ∀ p (h : p < l.length), l[p].held.length = n ∧ l[p].held.getD p 0 = kOf cs p
  bm : ∀ p (h : p < l.length), Bm n l[p].x
  est : ∀ p (h : p < l.length), mineOf cs p ≠ [] → l[p].x.est ≠ []
theorem new_einv {n : Nat} {cs : List Int} (hcs : ∀ c ∈ cs, 0 ≤ c ∧ c < 256) (hn : 1 ≤ n ∧ n ≤ 64) : EInv n cs 0 ((List.range n).map (newP n cs)) [] := by
  refine ⟨new_pinv n cs, fun p h => ?_, fun p h => ?_, fun p h hm => ?_⟩
  all_goals
    have hp : p < n := by simpa using h
    simp only [List.getElem_map, List.getElem_range]
  · show (heldOf n cs p).length = n ∧ (heldOf n cs p).getD p 0 = kOf cs p
    unfold heldOf
    refine ⟨by simp, ?_⟩
    rw [List.getD_eq_getElem?_getD, List.getElem?_set, if_pos rfl, if_pos (by simpa using hp)]
    rfl
  · exact ⟨rfl, rfl⟩
  · obtain ⟨h1, h2⟩ := mine_one hcs hm
    show (if mayR (List.replicate n 0) 100 (mineOf cs p) = true ∧ heldB (heldOf n cs p) (mineOf cs p) = true then mineOf cs p else []) ≠ []
    have hh : heldB (heldOf n cs p) (mineOf cs p) = true := by
      rw [h1]
      refine held_one (by omega) h2 (by simpa [heldOf] using hp) ?_
      unfold heldOf
      rw [List.getD_eq_getElem?_getD, List.getElem?_set, if_pos rfl, if_pos (by simpa using hp)]
      rfl
    rw [if_pos ⟨by rw [h1]; exact may_one hp hn.2 h2, hh⟩]
    exact hm
theorem estep {cs : List Int} {l l' : List PM} {o o' : List OF} (h : EInv n cs b l o) (hb : b + 1 < 18446744073709551616) (st : PStep l o l' o') : EInv n cs (b + 1) l' o' := by
  refine ⟨pstep_pinv h.pinv hb st, ?_, ?_, ?_⟩
  · cases st with
    | same => exact h.held
    | hold i q hi hq =>
      intro p hp
      rw [List.length_set] at hp
      rw [List.getElem_set]
      by_cases z : i = p
      · subst z
        rw [if_pos rfl]
        refine ⟨by rw [List.length_set]; exact (h.held _ hi).1, ?_⟩
        show (l[i].held.set q (l[q].held.getD q 0)).getD i 0 = _
        rw [List.getD_eq_getElem?_getD, List.getElem?_set]
        by_cases y : q = i
        · subst y
          have := (h.held _ hi)
          rw [if_pos rfl, if_pos (by rw [this.1, ← h.pinv.len]; exact hi)]
          exact this.2
        · rw [if_neg y, ← List.getD_eq_getElem?_getD]
          exact (h.held _ hi).2
      · rw [if_neg z]
        exact h.held p hp
    | step i hi sus =>
      intro p hp
      rw [List.length_set] at hp
      rw [List.getElem_set]
      split
      · rename_i z; subst z; exact h.held _ hi
      · exact h.held p hp
    | come i hi f hf =>
      intro p hp
      rw [List.length_set] at hp
      rw [List.getElem_set]
      split
      · rename_i z; subst z; exact h.held _ hi
      · exact h.held p hp
  · cases st with
    | same => exact h.bm
    | hold i q hi hq =>
      intro p hp
      rw [List.length_set] at hp
      rw [List.getElem_set]
      split
      · rename_i z; subst z; exact h.bm _ hi
      · exact h.bm p hp
    | step i hi sus =>
      intro p hp
      rw [List.length_set] at hp
      rw [List.getElem_set]
      split
      · rename_i z; subst z; exact (h.bm _ hi).same (step_same _ _ _ _).1
      · exact h.bm p hp
    | come i hi f hf =>
      intro p hp
      rw [List.length_set] at hp
      rw [List.getElem_set]
      split
      · rename_i z; subst z; exact (h.bm _ hi).same (come_rcv _ _).s
      · exact h.bm p hp
  · cases st with
    | same => exact h.est
    | hold i q hi hq =>
      intro p hp
      rw [List.length_set] at hp
      rw [List.getElem_set]
      split
      · rename_i z; subst z; exact h.est _ hi
      · exact h.est p hp
    | step i hi sus =>
      intro p hp hm
      rw [List.length_set] at hp
      rw [List.getElem_set]
      split
      · rename_i z; subst z; exact (step_same _ _ _ _).2 (h.est _ hi hm)
      · exact h.est p hp hm
    | come i hi f hf =>
      intro p hp hm
      rw [List.length_set] at hp
      rw [List.getElem_set]
      split
      · rename_i z; subst z
        show (comeX l[i].x f.toIF).1.est ≠ []
        rw [(come_rcv _ _).est]; exact h.est _ hi hm
      · exact h.est p hp hm
/-- What all sent is held by all. -/
def allH (n : Nat) (cs : List Int) : List Int := (List.range n).map (kOf cs)
theorem einv_hold {cs : List Int} {l : List PM} {o : List OF} (h : EInv n cs b l o) {i q : Nat} (hi : i < l.length) (hq : q < l.length) : EInv n cs b (l.set i { l[i] with held := l[i].held.set q (l[q].held.getD q 0) }) o := by
  have h2 : EInv n cs b (l.set i { l[i] with held := l[i].held.set q (l[q].held.getD q 0) }) o ∨ True := .inr trivial
  have hx : ((l.set i { l[i] with held := l[i].held.set q (l[q].held.getD q 0) }).map (·.x)) = l.map (·.x) := by
    rw [List.map_set]
    exact set_at (by rw [List.getElem?_map, List.getElem?_eq_getElem hi]; rfl)
  have hsame : ∀ p (hp : p < (l.set i { l[i] with held := l[i].held.set q (l[q].held.getD q 0) }).length), (l.set i { l[i] with held := l[i].held.set q (l[q].held.getD q 0) })[p].x = (l[p]'(by rw [List.length_set] at hp; exact hp)).x ∧ (l.set i { l[i] with held := l[i].held.set q (l[q].held.getD q 0) })[p].mine = (l[p]'(by rw [List.length_set] at hp; exact hp)).mine := fun p hp => by
    rw [List.getElem_set]
    split
    · rename_i z; subst z; exact ⟨rfl, rfl⟩
    · exact ⟨rfl, rfl⟩
  refine ⟨⟨by rw [hx]; exact h.pinv.w, by rw [List.length_set]; exact h.pinv.len, fun p hp => by rw [(hsame p hp).2]; exact h.pinv.mine p _⟩, fun p hp => ?_, fun p hp => by rw [(hsame p hp).1]; exact h.bm p _, fun p hp => by rw [(hsame p hp).1]; exact h.est p _⟩
  rw [List.length_set] at hp
  rw [List.getElem_set]
  by_cases z : i = p
  · subst z
    rw [if_pos rfl]
    refine ⟨by rw [List.length_set]; exact (h.held _ hi).1, ?_⟩
    show (l[i].held.set q (l[q].held.getD q 0)).getD i 0 = _
    rw [List.getD_eq_getElem?_getD, List.getElem?_set]
    by_cases y : q = i
    · subst y
      have := (h.held _ hi)
      rw [if_pos rfl, if_pos (by rw [this.1, ← h.pinv.len]; exact hi)]
      exact this.2
    · rw [if_neg y, ← List.getD_eq_getElem?_getD]
      exact (h.held _ hi).2
  · rw [if_neg z]
    exact h.held p hp
/-- Who holds all that all sent holds each one's batch. -/
theorem held_all {cs : List Int} (hcs : ∀ c ∈ cs, 0 ≤ c ∧ c < 256) (hn : n ≤ 64) : ∀ e, Mn n (mineOf cs) e → heldB (allH n cs) e = true := by
  intro e he
  rcases he with rfl | ⟨q, hq, rfl⟩
  · rfl
  · by_cases hm : mineOf cs q = []
    · rw [hm]; rfl
    · obtain ⟨h1, h2⟩ := mine_one hcs hm
      rw [h1]
      refine held_one (by omega) h2 (by simpa [allH] using hq) ?_
      unfold allH
      rw [List.getD_eq_getElem?_getD, List.getElem?_map, List.getElem?_range hq]
      rfl
theorem may_all {cs : List Int} (hcs : ∀ c ∈ cs, 0 ≤ c ∧ c < 256) (hn : n ≤ 64) : ∀ q, q < n → mineOf cs q ≠ [] → mayR (List.replicate n 0) 100 (mineOf cs q) = true := by
  intro q hq hm
  obtain ⟨h1, h2⟩ := mine_one hcs hm
  rw [h1]
  exact may_one hq hn h2
end Go.Proofs.Ytmaidlndikcgkaa.Sim
