/- Seat 05: the program's Next. No condition. -/
import Derived.Test.YteaflagknacfoaaSpE
namespace Go.Proofs.Yteaflagknacfoaa.Sim
set_option linter.unusedSimpArgs false

/-- What was reached, beyond the base. -/
def cntR (base now : List Int) (m : Nat) : List Int := (List.range m).map fun i => now.getD i 0 - base.getD i 0
theorem cntR_len (base now : List Int) (m : Nat) : (cntR base now m).length = m := by simp [cntR]
theorem cntR_get (base now : List Int) (m : Nat) {i : Nat} (h : i < m) : (cntR base now m).getD i 0 = now.getD i 0 - base.getD i 0 := by simp [cntR, h]
theorem cntR_set (base now : List Int) (m : Nat) {i : Nat} (hi : i < now.length) (v : Int) : (cntR base now m).set i (v - base.getD i 0) = cntR base (now.set i v) m := by
  apply List.ext_getElem (by simp [cntR])
  intro j h1 h2
  simp only [cntR, List.getElem_set, List.getElem_map, List.getElem_range, List.getD_eq_getElem?_getD, List.getElem?_set]
  by_cases e : i = j
  · subst e; simp [hi]
  · simp [e]

theorem stepR_ge {held base now : List Int} (hln : now.length = base.length) (h : ∀ j, base.getD j 0 ≤ now.getD j 0) (left : Int) (more : Bool) (i : Nat) : ∀ j, base.getD j 0 ≤ (stepR held (now, left, more) i).1.getD j 0 := by
  intro j
  have := h j
  unfold stepR
  split
  · simp only [List.getD_eq_getElem?_getD, List.getElem?_set]
    simp only [List.getD_eq_getElem?_getD] at this
    split
    · rename_i e; subst e
      split
      · simp; omega
      · rename_i h2
        rw [List.getElem?_eq_none (by omega)]
        simp
    · exact this
  · exact this
section
variable {k : Nat} {R0 : AV → AV → AV → AV → AV → AV → Store → Option (AV × Store)} {x0 x1 x8 : AV} {id : Nat} {held base : List Int} {pl : Nat}

theorem bat_turn (k : Nat) {R1 : AV → AV → AV → AV → AV → AV → AV → AV → Store → Option (AV × Store)} {s : Store} (hh : IsSlN s x1 .u64 held id) (hb : IsSlN s x0 .u64 base id) {now : List Int} (hg : s.get id = .cells ((cntR base now pl).map (.int .u64)) false) (hu : U now) (hub : U base) (hle : ∀ j, base.getD j 0 ≤ now.getD j 0) (hln : now.length = base.length) (hhl : held.length ≤ 100) {left : Int} (hl : -9223372036854775808 ≤ left ∧ left < 9223372036854775808) {more : Bool} {i : Nat} (hi : i < pl) (hpl : pl ≤ base.length) (hil : i < 64) :
    batch_Next.p11 (k + 1) R0 R1 x0 x1 (.int .i64 left) x8 (.sl id 0 pl 1 pl) (.bool more) (.int .i64 pl) (.int .i64 i) s =
      R1 x0 x1 (.int .i64 (stepR held (now, left, more) i).2.1) x8 (.sl id 0 pl 1 pl) (.bool (stepR held (now, left, more) i).2.2) (.int .i64 pl) (.int .i64 ((i + 1 : Nat) : Int)) (s.set id (.cells ((cntR base (stepR held (now, left, more) i).1 pl).map (.int .u64)) false)) := by
  have hw : IntKind.i64.wrap ((i : Int) + 1) = ((i + 1 : Nat) : Int) := by rw [w_i64 (by omega) (by omega)]; omega
  have hset : s.set id (.cells ((cntR base now pl).map (.int .u64)) false) = s := set_same hg
  have hun := hu.at i
  have hubi := hub.at i
  have hlei := hle i
  have hcl := cntR_len base now pl
  obtain ⟨p, hp1, hp2⟩ := index_is2 hb (show i < base.length by omega)
  have hld : ∀ {α : Type} (f : AV → Option α), aLoad1 (.ptr id (0 + i * 1) pl) s f = f (.int .u64 (now.getD i 0 - base.getD i 0)) := by
    intro α f
    have := load_i (i := i) hg (by omega) f
    rw [hcl, cntR_get _ _ _ hi] at this
    exact this
  have hst : ∀ {α : Type} (v : Int) (f : Store → Option α), aStore 1 (.ptr id (0 + i * 1) pl) (.int .u64 (v - base.getD i 0)) s f = f (s.set id (.cells ((cntR base (now.set i v) pl).map (.int .u64)) false)) := by
    intro α v f
    have := store_i (i := i) (v := v - base.getD i 0) hg (by omega) f
    rw [hcl, cntR_set _ _ _ (by omega)] at this
    exact this
  have hix : ∀ {α : Type} (f : AV → Option α), aIndexSl 1 (.sl id 0 pl 1 pl) (.int .i64 i) f = f (.ptr id (0 + i * 1) pl) := by
    intro α f
    have := index_sl (l := id) (off := 0) (n := pl) (es := 1) (ep := pl) (k := .i64) (κ := f) (show (0 : Int) ≤ i by omega) (show (i : Int) < (pl : Int) by omega)
    simpa using this
  unfold batch_Next.p11 batch_Next.p10
  rw [vec_at hh.is (by omega)]
  simp only [bnd, min_i]
  have htop : min (atI held i) 4611686018427387904 ≤ atI held i ∧ min (atI held i) 4611686018427387904 ≤ 4611686018427387904 ∧ (atI held i < 4611686018427387904 → min (atI held i) 4611686018427387904 = atI held i) ∧ (4611686018427387904 ≤ atI held i → min (atI held i) 4611686018427387904 = 4611686018427387904) := by omega
  generalize min (atI held i) 4611686018427387904 = top at *
  unfold batch_Next.p9
  simp only [bnd, gtr_i]
  by_cases h1 : left > 0
  · simp only [h1, decide_true, guard_same, bnd, hp1, hp2, lss_i, pick_t]
    by_cases h2 : base.getD i 0 < top
    · simp only [h2, decide_true, guard_same, bnd, hix, hld, hp1, hp2, lss_i, pick_t, sub_i, w_u64 (show 0 ≤ top - base.getD i 0 by omega) (show top - base.getD i 0 < 18446744073709551616 by omega)]
      by_cases h3 : now.getD i 0 - base.getD i 0 < top - base.getD i 0
      · have e : stepR held (now, left, more) i = (now.set i (now.getD i 0 + 1), left - 1, true) := by unfold stepR; rw [if_pos ⟨h1, by simp only; omega, by simp only; omega⟩]
        rw [e]
        unfold batch_Next.p8 batch_Next.p7
        have ew : IntKind.u64.wrap (now.getD i 0 - base.getD i 0 + 1) = now.getD i 0 + 1 - base.getD i 0 := by rw [w_u64 (by omega) (by omega)]; omega
        simp only [h3, decide_true, if_t, hix, hld, add_i, sub_i, ew, hst, w_i64 (show -9223372036854775808 ≤ left - 1 by omega) (show left - 1 < 9223372036854775808 by omega), hw]
      · have e : stepR held (now, left, more) i = (now, left, more) := by unfold stepR; rw [if_neg (fun q => h3 (by have := q.2.1; have := q.2.2; simp only at *; omega))]
        rw [e]
        unfold batch_Next.p8 batch_Next.p7
        simp only [h3, decide_false, if_f, add_i, hw, hset]
    · have e : stepR held (now, left, more) i = (now, left, more) := by unfold stepR; rw [if_neg (fun q => h2 (by have := q.2.1; have := q.2.2; simp only at *; omega))]
      rw [e]
      unfold batch_Next.p8 batch_Next.p7
      simp only [h2, decide_false, guard_not false true (by simp), bnd, pick_f, if_f, add_i, hw, hset]
  · have e : stepR held (now, left, more) i = (now, left, more) := by unfold stepR; rw [if_neg (fun q => h1 q.1)]
    rw [e]
    unfold batch_Next.p8 batch_Next.p7
    simp only [h1, decide_false, guard_not false true (by simp), bnd, pick_f, if_f, add_i, hw, hset]

theorem bat_turns (k : Nat) (hub : U base) (hhl : held.length ≤ 100) (hpl : pl ≤ base.length) (hpl2 : pl ≤ 64) : ∀ (n m i : Nat) (s : Store) (now : List Int) (left : Int) (more : Bool), IsSlN s x1 .u64 held id → IsSlN s x0 .u64 base id → s.get id = .cells ((cntR base now pl).map (.int .u64)) false → U now → (∀ j, base.getD j 0 ≤ now.getD j 0) → now.length = base.length → (-9223372036854775808 ≤ left ∧ left < 9223372036854775808) → i + m = pl → m < n →
    batch_Next.l1 (k + 1) R0 n x0 x1 (.int .i64 left) x8 (.sl id 0 pl 1 pl) (.bool more) (.int .i64 pl) (.int .i64 i) s =
      R0 x0 x1 (.int .i64 (turnsR held i m (now, left, more)).2.1) x8 (.sl id 0 pl 1 pl) (.bool (turnsR held i m (now, left, more)).2.2) (s.set id (.cells ((cntR base (turnsR held i m (now, left, more)).1 pl).map (.int .u64)) false))
  | 0, m, i, s, now, left, more, _, _, _, _, _, _, _, _, hn => by omega
  | n + 1, m, i, s, now, left, more, hh, hb, hg, hu, hle, hln, hl, hi, hn => by
    have hs : batch_Next.l1 (k + 1) R0 (n + 1) = fun x0 x1 x7 x8 x9 x10 x24 x25 s => batch_Next.p13 (k + 1) R0 (batch_Next.l1 (k + 1) R0 n) x0 x1 x7 x8 x9 x10 x24 x25 s := rfl
    rw [hs]
    clear hs
    simp only
    unfold batch_Next.p13 batch_Next.p12
    rw [lss_i]
    cases m with
    | zero =>
      have h1 : ¬ (i : Int) < (pl : Int) := by omega
      rw [decide_eq_false h1, if_f, turnsR, set_same hg]
    | succ m =>
      have h1 : (i : Int) < (pl : Int) := by omega
      rw [decide_eq_true h1, if_t, turnsR, bat_turn k hh hb hg hu hub hle hln hhl (by omega) (by omega) hpl (by omega)]
      have e := stepR_len held (now, left, more) i
      simp only at e
      have hlft := stepR_left held (now, left, more) i
      simp only at hlft
      have hge : -9223372036854775808 ≤ (stepR held (now, left, more) i).2.1 := by
        unfold stepR
        split
        · rename_i h
          have := h.1
          simp only at this ⊢; omega
        · exact hl.1
      have := bat_turns k hub hhl hpl hpl2 n m (i + 1) (s.set id (.cells ((cntR base (stepR held (now, left, more) i).1 pl).map (.int .u64)) false)) (stepR held (now, left, more) i).1 (stepR held (now, left, more) i).2.1 (stepR held (now, left, more) i).2.2 (hh.set _) (hb.set _) (by rw [get_set, if_pos rfl]) (hu.step left more i) (stepR_ge hln hle left more i) (by omega) (by omega) (by omega) (by omega)
      rw [this, set_set]

end
end Go.Proofs.Yteaflagknacfoaa.Sim
