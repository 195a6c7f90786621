/- Seat 05: the program's Next, whole. No condition. -/
import Derived.Test.YteaflagknacfoaaSpF
import Derived.Test.YteaflagknacfoaaSimT
namespace Go.Proofs.Yteaflagknacfoaa.Sim
set_option linter.unusedSimpArgs false

theorem turnsR_ge {held base : List Int} : ∀ (m i : Nat) (st : List Int × Int × Bool), st.1.length = base.length → (∀ j, base.getD j 0 ≤ st.1.getD j 0) → ∀ j, base.getD j 0 ≤ (turnsR held i m st).1.getD j 0
  | 0, _, _, _, h => h
  | m + 1, i, st, hl, h => by rw [turnsR]; exact turnsR_ge m (i + 1) _ (by rw [stepR_len]; exact hl) (stepR_ge hl h st.2.1 st.2.2 i)
theorem fillR_ge {held base : List Int} {m : Nat} : ∀ (f : Nat) (now : List Int) (left : Int), now.length = base.length → (∀ j, base.getD j 0 ≤ now.getD j 0) → ∀ j, base.getD j 0 ≤ (fillR held m f now left).getD j 0
  | 0, now, _, _, h => h
  | f + 1, now, left, hl, h => by
    unfold fillR
    split
    · split
      · exact fillR_ge f _ _ (by rw [turnsR_len]; exact hl) (turnsR_ge _ _ (now, left, false) hl h)
      · exact turnsR_ge _ _ (now, left, false) hl h
    · exact h

section
variable {x0 x1 x8 : AV} {id : Nat} {held base : List Int} {pl : Nat}

theorem bat_rounds (k : Nat) (hk : 64 ≤ k) (hub : U base) (hhl : held.length ≤ 100) (hpl : pl ≤ base.length) (hpl2 : pl ≤ 64) : ∀ (f n : Nat) (s : Store) (now : List Int) (left : Int), IsSlN s x1 .u64 held id → IsSlN s x0 .u64 base id → s.get id = .cells ((cntR base now pl).map (.int .u64)) false → U now → (∀ j, base.getD j 0 ≤ now.getD j 0) → now.length = base.length → left < 4611686018427387904 → -9223372036854775808 ≤ left → left ≤ f → f + 2 < n →
    batch_Next.l2 (k + 1) n x0 x1 (.int .i64 left) (.int .i64 pl) (.sl id 0 pl 1 pl) (.bool true) s =
      batch_Next.p6 (k + 1) x0 (.sl id 0 pl 1 pl) (s.set id (.cells ((cntR base (fillR held pl f now left) pl).map (.int .u64)) false))
  | f, 0, s, now, left, _, _, _, _, _, _, _, _, _, hn => by omega
  | f, n + 1, s, now, left, hh, hb, hg, hu, hle, hln, hl, hl2, hf, hn => by
    have hs : ∀ n, batch_Next.l2 (k + 1) (n + 1) = fun x0 x1 x7 x8 x9 x10 s => batch_Next.p16 (k + 1) (batch_Next.l2 (k + 1) n) x0 x1 x7 x8 x9 x10 s := fun _ => rfl
    rw [hs]
    simp only
    unfold batch_Next.p16
    rw [if_t]
    unfold batch_Next.p15 batch_Next.p14
    have ht := bat_turns (R0 := batch_Next.l2 (k + 1) n) (x8 := .int .i64 pl) k hub hhl hpl hpl2 (k + 1) pl 0 s now left false hh hb hg hu hle hln (by omega) (by omega) (by omega)
    rw [Int.natCast_zero] at ht
    rw [ht]
    have hend : ∀ s', batch_Next.l2 (k + 1) n x0 x1 (.int .i64 (turnsR held 0 pl (now, left, false)).2.1) (.int .i64 pl) (.sl id 0 pl 1 pl) (.bool false) s' = batch_Next.p6 (k + 1) x0 (.sl id 0 pl 1 pl) s' := by
      intro s'
      obtain ⟨n, rfl⟩ : ∃ q, n = q + 1 := ⟨n - 1, by omega⟩
      rw [hs]
      simp only
      unfold batch_Next.p16
      rw [if_f]
    have hlen := turnsR_len held pl 0 (now, left, false)
    obtain ⟨g1, g2, g3⟩ := turnsR_left held pl 0 (now, left, false)
    have hun := turnsR_U (held := held) pl 0 (now, left, false) hu
    have hge := turnsR_ge (held := held) pl 0 (now, left, false) hln hle
    by_cases h0 : left > 0
    · cases f with
      | zero => omega
      | succ f =>
        have hp : (0 : Int) < left := h0
        unfold fillR
        rw [if_pos hp]
        generalize turnsR held 0 pl (now, left, false) = R at *
        obtain ⟨now', left', more'⟩ := R
        simp only at *
        cases more' with
        | true =>
          have hlt : left' < left := by
            rcases g3 rfl with h | h
            · cases h
            · exact h
          rw [if_pos rfl]
          have ih := bat_rounds k hk hub hhl hpl hpl2 f n (s.set id (.cells ((cntR base now' pl).map (.int .u64)) false)) now' left' (hh.set _) (hb.set _) (by rw [get_set, if_pos rfl]) hun hge (by omega) (by omega) (by have := g2 (by omega); omega) (by omega) (by omega)
          rw [ih, set_set]
        | false =>
          rw [hend, if_neg (by simp)]
    · have ez := turnsR_zero held pl 0 (now, left, false) (by simp only; omega)
      have e : fillR held pl f now left = now := by
        cases f with
        | zero => rfl
        | succ f => unfold fillR; rw [if_neg (by omega)]
      rw [ez] at hend ⊢
      rw [hend, e]

/-- Runs that nobody else has: their row, if there is one, lies behind 'lo'. -/
def OwnRuns (s : Store) (v : AV) (l : List Rn) (lo : Nat) : Prop := (v = .nilsl ∧ l = []) ∨ ∃ id, v = .sl id 0 l.length 3 (l.length * 3) ∧ lo ≤ id ∧ id < s.next ∧ s.get id = .cells (l.map rcells).flatten false
theorem OwnRuns.is {s : Store} {v : AV} {l : List Rn} {lo : Nat} (h : OwnRuns s v l lo) : IsRuns s v l := by
  rcases h with h | ⟨id, h1, _, h2, h3⟩
  · exact .inl h
  · exact .inr ⟨id, false, h1, h2, h3⟩
/-- A run more, in a row of one's own, or a new one. -/
theorem app_own {s : Store} {v : AV} {l : List Rn} {lo : Nat} (h : OwnRuns s v l lo) (hlo : lo ≤ s.next) (r : Rn) (hb : (l.length + 1) * 24 ≤ 140737488355328) :
    ∃ v' s', (∀ f : AV → Store → Option (AV × Store), aAppend 3 24 v (.sl s.next 0 1 3 3) (s.push (.cells (rcells r) false)) f = f v' s') ∧ OwnRuns s' v' (l ++ [r]) lo ∧ ExtLo lo s s' := by
  rcases h with ⟨rfl, rfl⟩ | ⟨id, rfl, h1, h2, h3⟩
  · refine ⟨.sl (s.next + 1) 0 1 3 3, (s.push (.cells (rcells r) false)).push (.cells (rcells r) false), fun f => ?_, .inr ⟨s.next + 1, rfl, by omega, by simp only [next_push]; omega, by grind [get_push, next_push]⟩, ⟨by simp only [next_push]; omega, fun l hl => by grind [get_push, next_push]⟩⟩
    have hr : (rcells r).length = 3 := rfl
    simp [aAppend, aCellsOf, aRow, get_push, hr, next_push, List.take_of_length_le]
  · refine ⟨_, _, fun f => app_run (by grind [get_push]) (by grind [get_push]) hb f, .inr ⟨id, rfl, h1, by simp only [next_set, next_push]; omega, by rw [get_set, if_pos rfl]⟩, ⟨by simp only [next_set, next_push]; omega, fun l hl => by grind [get_push, get_set]⟩⟩

theorem bat_out (k : Nat) {x0 : AV} {idn lo : Nat} {now : List Int} (hub : U base) (hun : U now) (hle : ∀ j, base.getD j 0 ≤ now.getD j 0) (hbl : pl ≤ base.length) (hb : pl ≤ 64) : ∀ (n m i : Nat) (s : Store) (l : List Rn) (v : AV), IsSl s x0 .u64 base → (∀ a b c d e, x0 = .sl a b c d e → a < lo) → idn < lo → lo ≤ s.next → s.get idn = .cells ((cntR base now pl).map (.int .u64)) false → OwnRuns s v l lo →
    l.length + m ≤ 200 → i + m = pl → m < n → ∃ v' s', batch_Next.l0 k n x0 v (.sl idn 0 pl 1 pl) (.int .i64 pl) (.int .i64 i) s = some (v', s') ∧ OwnRuns s' v' (l ++ outR base now i m) lo ∧ ExtLo lo s s'
  | 0, m, i, s, l, v, _, _, _, _, _, _, _, _, hn => by omega
  | n + 1, m, i, s, l, v, hx, hx2, hin, hlo, hg, ho, hl, hi, hn => by
    have hs : batch_Next.l0 k (n + 1) = fun x0 x13 x64 x65 x66 s => batch_Next.p4 k (batch_Next.l0 k n) x0 x13 x64 x65 x66 s := rfl
    rw [hs]
    clear hs
    simp only
    unfold batch_Next.p4 batch_Next.p3
    rw [lss_i]
    cases m with
    | zero =>
      rw [decide_eq_false (by omega), if_f]
      unfold batch_Next.p0
      exact ⟨v, s, rfl, by simpa [outR] using ho, ExtLo.refl _ _⟩
    | succ m =>
      have h1 : (i : Int) < (pl : Int) := by omega
      rw [decide_eq_true h1, if_t]
      have hw : IntKind.i64.wrap ((i : Int) + 1) = ((i + 1 : Nat) : Int) := by rw [w_i64 (by omega) (by omega)]; omega
      have hx' : IsSlN s x0 .u64 base lo := by
        rcases hx with hx | ⟨a, ro, e1, e2, e3⟩
        · exact .inl hx
        · exact .inr ⟨a, ro, e1, e2, by have := hx2 _ _ _ _ _ e1; omega, e3⟩
      obtain ⟨p, hp1, hp2⟩ := index_is2 hx' (show i < base.length by omega)
      have hub' := hub.at i
      have hun' := hun.at i
      have hle' := hle i
      have hcl := cntR_len base now pl
      have hld : ∀ {α : Type} (f : AV → Option α), aLoad1 (.ptr idn (0 + i * 1) pl) s f = f (.int .u64 (now.getD i 0 - base.getD i 0)) := by
        intro α f
        have := load_i (i := i) hg (by omega) f
        rw [hcl, cntR_get _ _ _ (by omega)] at this
        exact this
      have hix : ∀ {α : Type} (f : AV → Option α), aIndexSl 1 (.sl idn 0 pl 1 pl) (.int .i64 i) f = f (.ptr idn (0 + i * 1) pl) := by
        intro α f
        have := index_sl (l := idn) (off := 0) (n := pl) (es := 1) (ep := pl) (k := .i64) (κ := f) (show (0 : Int) ≤ i by omega) (show (i : Int) < (pl : Int) by omega)
        simpa using this
      unfold batch_Next.p2 batch_Next.p1
      simp only [hix, hld, gtr_i]
      by_cases h2 : now.getD i 0 > base.getD i 0
      · have h3 : now.getD i 0 - base.getD i 0 > 0 := by omega
        rw [decide_eq_true h3, if_t]
        simp only [conv_i, hp1, hp2, add_i, w_u8 (show (0 : Int) ≤ i by omega) (show (i : Int) < 256 by omega), w_u64 (show 0 ≤ base.getD i 0 + 1 by omega) (show base.getD i 0 + 1 < 18446744073709551616 by omega), build_run, build_row, hw]
        obtain ⟨v1, s1, f1, f2, f3⟩ := app_own ho hlo ((i : Int), base.getD i 0 + 1, now.getD i 0 - base.getD i 0) (by omega)
        rw [f1]
        obtain ⟨v', s', k1, k2, k3⟩ := bat_out k hub hun hle hbl hb n m (i + 1) s1 (l ++ [((i : Int), base.getD i 0 + 1, now.getD i 0 - base.getD i 0)]) v1 (by
          rcases hx with hx | ⟨a, ro, e1, e2, e3⟩
          · exact .inl hx
          · exact .inr ⟨a, ro, e1, by have := f3.next; omega, by rw [f3.get a (hx2 _ _ _ _ _ e1)]; exact e3⟩) hx2 hin (by have := f3.next; omega) (by rw [f3.get idn hin]; exact hg) f2 (by simp; omega) (by omega) (by omega)
        have eo : outR base now i (m + 1) = ((i : Int), base.getD i 0 + 1, now.getD i 0 - base.getD i 0) :: outR base now (i + 1) m := by rw [outR, if_pos h2]
        have el : l ++ outR base now i (m + 1) = l ++ [((i : Int), base.getD i 0 + 1, now.getD i 0 - base.getD i 0)] ++ outR base now (i + 1) m := by rw [eo]; simp
        rw [el]
        exact ⟨v', s', k1, k2, f3.trans k3⟩
      · have h3 : ¬ now.getD i 0 - base.getD i 0 > 0 := by omega
        rw [decide_eq_false h3, if_f, add_i, hw]
        have eo : outR base now i (m + 1) = outR base now (i + 1) m := by rw [outR, if_neg h2]
        rw [eo]
        exact bat_out k hub hun hle hbl hb n m (i + 1) s l v hx hx2 hin hlo hg ho (by omega) (by omega) (by omega)
end
theorem len_is {s : Store} {v : AV} {k : IntKind} {xs : List Int} (h : IsSl s v k xs) {α : Type} (f : AV → Option α) : aLen v f = f (.int .i64 xs.length) := by
  rcases h with ⟨rfl, rfl⟩ | ⟨id, ro, rfl, _, _⟩ <;> rfl

theorem cnt_zero (base : List Int) (m : Nat) : (List.replicate m [AV.int .u64 0]).flatten = (cntR base base m).map (.int .u64) := by
  simp [cntR, List.map_const']

theorem bat_next {s : Store} {x0 x1 : AV} {base held : List Int} {most : Int} (k : Nat) (hk : 5000 ≤ k) (h0 : IsSl s x0 .u64 base) (h1 : IsSl s x1 .u64 held) (hu : U base) (hb : base.length ≤ 100) (hh : held.length ≤ 100) (hm : most < 9223372036854775808) (hm2 : -9223372036854775808 ≤ most) :
    ∃ v s', run Try.prog (k + 2) 9 [x0, x1, .int .i64 most] s = some (v, s') ∧ IsRuns s' v (outR base (fillR held (min base.length 64) 4096 base (min most 4096)) 0 (min base.length 64)) ∧ Ext s s' := by
  rw [batch_Next.eq]
  unfold batch_Next.f batch_Next.p21 batch_Next.p20 batch_Next.p19 batch_Next.p18 batch_Next.p17
  have em : min (base.length : Int) 64 = ((min base.length 64 : Nat) : Int) := by omega
  rw [min_i, len_is h0, min_i, em]
  have hpl : min base.length 64 ≤ base.length := Nat.min_le_left _ _
  have hpl2 : min base.length 64 ≤ 64 := Nat.min_le_right _ _
  generalize min base.length 64 = pl at *
  have emk : ∀ f : AV → Store → Option (AV × Store), aMakeSlice [AV.int .u64 0] 1 8 (.int .i64 (pl : Int)) (.int .i64 (pl : Int)) s f = f (.sl s.next 0 pl 1 pl) (s.push (.cells ((cntR base base pl).map (.int .u64)) false)) := by
    intro f
    simp only [aMakeSlice]
    rw [if_pos (by omega), Int.toNat_natCast, cnt_zero base pl, Nat.mul_one]
  rw [emk]
  have e1 := Ext.push s (.cells ((cntR base base pl).map (.int .u64)) false)
  generalize hs1 : s.push (.cells ((cntR base base pl).map (.int .u64)) false) = s1 at *
  have hn1 : s1.next = s.next + 1 := by rw [← hs1]; rfl
  rw [bat_rounds k (by omega) hu hh hpl hpl2 4096 (k + 1) s1 base (min most 4096) ((h1.ne (Nat.le_refl _)).ext e1) ((h0.ne (Nat.le_refl _)).ext e1) (by rw [← hs1, get_push, if_pos rfl]) hu (fun _ => Int.le_refl _) rfl (by omega) (by omega) (by omega) (by omega)]
  have hlf := fillR_len held pl 4096 base (min most 4096)
  have huf := fillR_U (held := held) (m := pl) 4096 base (min most 4096) hu
  have hge := fillR_ge (held := held) (m := pl) 4096 base (min most 4096) rfl (fun _ => Int.le_refl _)
  generalize fillR held pl 4096 base (min most 4096) = now at *
  unfold batch_Next.p6 batch_Next.p5
  rw [len_sl]
  have e2 : Ext s (s1.set s.next (.cells ((cntR base now pl).map (.int .u64)) false)) := ⟨e1.next, fun l hl => by rw [get_set, if_neg (by omega)]; exact e1.get l hl⟩
  obtain ⟨v', s', k1, k2, k3⟩ := bat_out (k + 1) (x0 := x0) (idn := s.next) (lo := s.next + 1) hu huf hge hpl hpl2 (k + 1) pl 0 (s1.set s.next (.cells ((cntR base now pl).map (.int .u64)) false)) [] .nilsl (h0.ext e2) (fun a b c d e he => by
    rcases h0 with ⟨h, _⟩ | ⟨l, ro, h, hl, _⟩
    · rw [h] at he; cases he
    · rw [h] at he; cases he; omega) (by omega) (by simp only [next_set]; omega) (by rw [get_set, if_pos rfl]) (.inl ⟨rfl, rfl⟩) (by simp; omega) (by omega) (by omega)
  refine ⟨v', s', k1, k2.is, ⟨by have := k3.next; simp only [next_set] at this; omega, fun l hl => by rw [k3.get l (by omega)]; exact e2.get l hl⟩⟩
end Go.Proofs.Yteaflagknacfoaa.Sim
