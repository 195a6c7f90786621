/- Seat 05: the reference's Next. No condition. -/
import Derived.Test.YteaflagknacfoaaSpC
namespace Go.Proofs.Yteaflagknacfoaa.Sim
set_option linter.unusedSimpArgs false
section
variable {x0 x1 x7 : AV} {id : Nat} {held : List Int}

theorem ref_rounds (k : Nat) (hk : 64 ≤ k) : ∀ (f n : Nat) (s : Store) (now : List Int) (left : Int), IsSlN s x1 .u64 held id → s.get id = .cells (now.map (.int .u64)) false → U now → left < 4611686018427387904 → left ≤ f → f + 1 < n →
    unisonref05_Next.l2 (k + 1) n x0 x1 x7 (.sl id 0 now.length 1 now.length) (.int .i64 left) (.bool true) s =
      unisonref05_Next.p9 (k + 1) x0 x7 (.sl id 0 now.length 1 now.length) (s.set id (.cells ((fillR held (min now.length 64) f now left).map (.int .u64)) false))
  | f, 0, s, now, left, _, _, _, _, _, hn => by omega
  | f, n + 1, s, now, left, hh, hg, hu, hl, hf, hn => by
    have hs : unisonref05_Next.l2 (k + 1) (n + 1) = fun x0 x1 x7 x8 x9 x10 s => unisonref05_Next.p16 (k + 1) (unisonref05_Next.l2 (k + 1) n) x0 x1 x7 x8 x9 x10 s := rfl
    have hset : s.set id (.cells (now.map (.int .u64)) false) = s := set_same hg
    rw [hs]
    clear hs
    simp only
    unfold unisonref05_Next.p16
    simp only [guard_same, Option.bind_some, gtr_i, pick_t]
    by_cases h0 : left > 0
    · rw [decide_eq_true h0, if_t]
      cases f with
      | zero => omega
      | succ f =>
        have hp : (0 : Int) < left := h0
        unfold unisonref05_Next.p15 unisonref05_Next.p14
        have ht := ref_turns (R0 := unisonref05_Next.l2 (k + 1) n) (x0 := x0) (x7 := x7) k (k + 1) (min now.length 64) 0 s now left false hh hg hu (by omega) (by omega) (by omega)
        simp only [Int.natCast_zero] at ht
        have ht' : unisonref05_Next.l1 (k + 1) (unisonref05_Next.l2 (k + 1) n) (k + 1) x0 x1 x7 (.sl id 0 now.length 1 now.length) (.int .i64 left) (.bool false) (.int .i64 0) s = _ := ht
        rw [ht']
        have hlen := turnsR_len held (min now.length 64) 0 (now, left, false)
        obtain ⟨g1, g2, g3⟩ := turnsR_left held (min now.length 64) 0 (now, left, false)
        simp only at hlen g1 g2 g3
        unfold fillR
        rw [if_pos hp]
        have hu' : ∀ (m i : Nat) (st : List Int × Int × Bool), U st.1 → U (turnsR held i m st).1 := by
          intro m
          induction m with
          | zero => intro i st h; exact h
          | succ m ih => intro i st h; rw [turnsR]; exact ih (i + 1) _ (h.step st.2.1 st.2.2 i)
        generalize hr : turnsR held 0 (min now.length 64) (now, left, false) = R at *
        obtain ⟨now', left', more'⟩ := R
        simp only at *
        have hun : U now' := by
          have := hu' (min now.length 64) 0 (now, left, false) hu
          rw [hr] at this; exact this
        cases more' with
        | true =>
          have hlt : left' < left := by
            rcases g3 rfl with h | h
            · cases h
            · exact h
          rw [if_pos rfl]
          have ih := ref_rounds k hk f n (s.set id (.cells (now'.map (.int .u64)) false)) now' left' (hh.set _) (by rw [get_set, if_pos rfl]) hun (by omega) (by omega) (by omega)
          rw [hlen] at ih
          rw [ih, set_set]
        | false =>
          simp only [Bool.false_eq_true, if_false]
          cases n with
          | zero => omega
          | succ n =>
            have hs2 : unisonref05_Next.l2 (k + 1) (n + 1) = fun x0 x1 x7 x8 x9 x10 s => unisonref05_Next.p16 (k + 1) (unisonref05_Next.l2 (k + 1) n) x0 x1 x7 x8 x9 x10 s := rfl
            rw [hs2]
            simp only
            unfold unisonref05_Next.p16
            simp only [guard_not false true (by simp), Option.bind_some, pick_f, if_f]
    · rw [decide_eq_false h0, if_f]
      have e : fillR held (min now.length 64) f now left = now := by
        cases f with
        | zero => rfl
        | succ f => unfold fillR; rw [if_neg (by omega)]
      rw [e, hset]
end

/-- All rows but one are as they were. -/
structure Keep (id : Nat) (s s' : Store) : Prop where
  next : s.next ≤ s'.next
  get : ∀ l, l < s.next → l ≠ id → s'.get l = s.get l
theorem Keep.refl (id : Nat) (s : Store) : Keep id s s := ⟨Nat.le_refl _, fun _ _ _ => rfl⟩
theorem Keep.trans {id : Nat} {s s' s'' : Store} (h : Keep id s s') (k : Keep id s' s'') : Keep id s s'' := ⟨Nat.le_trans h.next k.next, fun l hl hn => (k.get l (Nat.lt_of_lt_of_le hl h.next) hn).trans (h.get l hl hn)⟩
theorem Keep.push (id : Nat) (s : Store) (o : AObj) : Keep id s (s.push o) := ⟨Nat.le_succ _, fun l hl _ => by rw [get_push, if_neg (by omega)]⟩
theorem Keep.set (id : Nat) (s : Store) (o : AObj) : Keep id s (s.set id o) := ⟨Nat.le_refl _, fun l _ hn => by rw [get_set, if_neg hn]⟩
theorem IsSlN.keep {id : Nat} {s s' : Store} {v : AV} {k : IntKind} {xs : List Int} (h : IsSlN s v k xs id) (e : Keep id s s') : IsSlN s' v k xs id := by
  rcases h with h | ⟨l, ro, h1, h2, h4, h3⟩
  · exact .inl h
  · exact .inr ⟨l, ro, h1, Nat.lt_of_lt_of_le h2 e.next, h4, by rw [e.get l h2 h4]; exact h3⟩

/-- A run more. -/
theorem app_run {α : Type} {s : Store} {id t : Nat} {l : List Rn} {r : Rn} (hg : s.get id = .cells (l.map rcells).flatten false) (ht : s.get t = .cells (rcells r) false) (hb : (l.length + 1) * 24 ≤ 140737488355328) (f : AV → Store → Option α) :
    aAppend 3 24 (.sl id 0 l.length 3 (l.length * 3)) (.sl t 0 1 3 3) s f = f (.sl id 0 (l ++ [r]).length 3 ((l ++ [r]).length * 3)) (s.set id (.cells ((l ++ [r]).map rcells).flatten false)) := by
  have h3 : (rcells r).length = 3 := rfl
  have hfl := flat_len l
  simp only [aAppend, aCellsOf, if_true, aRow, ht, h3, aOwn, hg, hfl, Nat.zero_add, Nat.le_refl]
  simp only [show ¬ (1 = 0) by omega, if_false, true_and, show (0 : Nat) < 3 ∧ (0 : Nat) < 24 by omega, and_true, hb, if_true]
  simp [rcells]
  congr 1
  simp; omega

/-- The runs that are told of what was reached. -/
def outR (base now : List Int) : Nat → Nat → List Rn
  | _, 0 => []
  | i, m + 1 => if now.getD i 0 > base.getD i 0 then ((i : Int), base.getD i 0 + 1, now.getD i 0 - base.getD i 0) :: outR base now (i + 1) m else outR base now (i + 1) m
theorem outR_len (base now : List Int) : ∀ (m i : Nat), (outR base now i m).length ≤ m
  | 0, _ => Nat.le_refl _
  | m + 1, i => by
    have := outR_len base now m (i + 1)
    unfold outR
    split
    · simp; omega
    · omega

theorem index_is {α : Type} {s : Store} {v : AV} {k : IntKind} {xs : List Int} {id : Nat} (h : IsSlN s v k xs id) {i : Nat} (hi : i < xs.length) (f : AV → Option α) : (aIndexSl 1 v (.int .i64 i) fun p => aLoad1 p s f) = f (.int k (xs.getD i 0)) := by
  rcases h with ⟨_, h⟩ | ⟨l, ro, rfl, _, _, h⟩
  · subst h; simp at hi
  · rw [index_sl (by omega) (by omega)]
    exact load_i h hi f
theorem index_is2 {s : Store} {v : AV} {k : IntKind} {xs : List Int} {id : Nat} (h : IsSlN s v k xs id) {i : Nat} (hi : i < xs.length) : ∃ p, (∀ {α : Type} (f : AV → Option α), aIndexSl 1 v (.int .i64 i) f = f p) ∧ ∀ {α : Type} (f : AV → Option α), aLoad1 p s f = f (.int k (xs.getD i 0)) := by
  rcases h with ⟨_, h⟩ | ⟨l, ro, rfl, _, _, h⟩
  · subst h; simp at hi
  · exact ⟨.ptr l (0 + i * 1) xs.length, fun f => index_sl (by omega) (by omega), fun f => load_i h hi f⟩

theorem build_run (a b c : Int) {α : Type} (f : List AV → Option α) : aBuild [(0, 1, .int .u8 a), (1, 1, .int .u64 b), (2, 1, .int .u64 c)] [AV.int .u8 0, AV.int .u64 0, AV.int .u64 0] f = f (rcells (a, b, c)) := by
  simp [aBuild, aCells, putAll, rcells]
theorem build_row (r : Rn) {α : Type} (f : List AV → Option α) : aBuild [(0, 3, .agg (rcells r))] [AV.int .u8 0, AV.int .u64 0, AV.int .u64 0] f = f (rcells r) := by
  simp [aBuild, aCells, putAll, rcells]

theorem ref_out (k : Nat) {x0 : AV} {idn ido : Nat} {base now : List Int} (hub : U base) (hun : U now) (hbl : base.length = now.length) (hb : now.length ≤ 100) : ∀ (n m i : Nat) (s : Store) (l : List Rn), IsSlN s x0 .u64 base ido → idn ≠ ido → idn < s.next → ido < s.next → s.get idn = .cells (now.map (.int .u64)) false → s.get ido = .cells (l.map rcells).flatten false →
    l.length + m ≤ 200 → i + m = now.length → m < n → ∃ s', unisonref05_Next.l0 k n x0 (.sl ido 0 l.length 3 (l.length * 3)) (.sl idn 0 now.length 1 now.length) (.int .i64 now.length) (.int .i64 i) s = some (.sl ido 0 (l ++ outR base now i m).length 3 ((l ++ outR base now i m).length * 3), s') ∧
      s'.get ido = .cells ((l ++ outR base now i m).map rcells).flatten false ∧ Keep ido s s'
  | 0, m, i, s, l, _, _, _, _, _, _, _, _, hn => by omega
  | n + 1, m, i, s, l, hx, hne, hin, hio, hg, ho, hl, hi, hn => by
    have hs : unisonref05_Next.l0 k (n + 1) = fun x0 x7 x8 x65 x66 s => unisonref05_Next.p8 k (unisonref05_Next.l0 k n) x0 x7 x8 x65 x66 s := rfl
    rw [hs]
    clear hs
    simp only
    unfold unisonref05_Next.p8 unisonref05_Next.p7
    rw [lss_i]
    cases m with
    | zero =>
      rw [decide_eq_false (by omega), if_f]
      unfold unisonref05_Next.p0
      exact ⟨s, by simp [outR], by simpa [outR] using ho, Keep.refl _ _⟩
    | succ m =>
      have h1 : (i : Int) < (now.length : Int) := by omega
      have hiN : i < now.length := by omega
      rw [decide_eq_true h1, if_t]
      have hw : IntKind.i64.wrap ((i : Int) + 1) = ((i + 1 : Nat) : Int) := by rw [w_i64 (by omega) (by omega)]; omega
      obtain ⟨p, hp1, hp2⟩ := index_is2 hx (show i < base.length by omega)
      have hub' := hub.at i
      have hun' := hun.at i
      unfold unisonref05_Next.p6 unisonref05_Next.p5
      simp only [Option.bind_some, index_sl (show (0 : Int) ≤ i by omega) h1, Int.toNat_natCast, load_i hg hiN, hp1, hp2, gtr_i]
      unfold unisonref05_Next.p4
      by_cases h2 : now.getD i 0 > base.getD i 0
      · rw [decide_eq_true h2, if_t]
        unfold unisonref05_Next.p2
        simp only [Option.bind_some, conv_i, index_sl (show (0 : Int) ≤ i by omega) h1, Int.toNat_natCast, load_i hg hiN, hp1, hp2, add_i, sub_i, w_u8 (show (0 : Int) ≤ i by omega) (show (i : Int) < 256 by omega),
          w_u64 (show 0 ≤ base.getD i 0 + 1 by omega) (show base.getD i 0 + 1 < 18446744073709551616 by omega), w_u64 (show 0 ≤ now.getD i 0 - base.getD i 0 by omega) (show now.getD i 0 - base.getD i 0 < 18446744073709551616 by omega), build_run, build_row]
        have hnx : ido ≠ s.next := by omega
        have hnn : idn ≠ s.next := by omega
        rw [app_run (s := s.push (.cells (rcells ((i : Int), base.getD i 0 + 1, now.getD i 0 - base.getD i 0)) false)) (l := l) (r := ((i : Int), base.getD i 0 + 1, now.getD i 0 - base.getD i 0)) (by rw [get_push, if_neg hnx]; exact ho) (by rw [get_push, if_pos rfl]) (by omega)]
        simp only [Option.bind_some]
        unfold unisonref05_Next.p1
        rw [add_i, hw]
        have ke : Keep ido s ((s.push (.cells (rcells ((i : Int), base.getD i 0 + 1, now.getD i 0 - base.getD i 0)) false)).set ido (.cells ((l ++ [((i : Int), base.getD i 0 + 1, now.getD i 0 - base.getD i 0)]).map rcells).flatten false)) := (Keep.push _ _ _).trans (Keep.set _ _ _)
        obtain ⟨s', k1, k2, k3⟩ := ref_out k hub hun hbl hb n m (i + 1) _ (l ++ [((i : Int), base.getD i 0 + 1, now.getD i 0 - base.getD i 0)]) (hx.keep ke) hne (Nat.lt_of_lt_of_le hin ke.next) (Nat.lt_of_lt_of_le hio ke.next) (by rw [ke.get idn hin hne]; exact hg) (by rw [get_set, if_pos rfl]) (by simp; omega) (by omega) (by omega)
        have eo : outR base now i (m + 1) = ((i : Int), base.getD i 0 + 1, now.getD i 0 - base.getD i 0) :: outR base now (i + 1) m := by rw [outR, if_pos h2]
        have el : l ++ outR base now i (m + 1) = l ++ [((i : Int), base.getD i 0 + 1, now.getD i 0 - base.getD i 0)] ++ outR base now (i + 1) m := by rw [eo]; simp
        rw [el]
        exact ⟨s', k1, k2, ke.trans k3⟩
      · rw [decide_eq_false h2, if_f]
        unfold unisonref05_Next.p3 unisonref05_Next.p1
        rw [add_i, hw]
        have eo : outR base now i (m + 1) = outR base now (i + 1) m := by rw [outR, if_neg h2]
        rw [eo]
        exact ref_out k hub hun hbl hb n m (i + 1) s l hx hne hin hio hg ho (by omega) (by omega) (by omega)
end Go.Proofs.Yteaflagknacfoaa.Sim
