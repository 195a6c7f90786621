/- Seat 01: the document's reader. No condition. -/
import Derived.Test.YtppaefjgkocakaaSpG
namespace Go.Proofs.Ytppaefjgkocakaa.Sim
set_option linter.unusedSimpArgs false
set_option linter.unusedVariables false

section
variable {s t : Store} {a : Nat} {w : AV} {y : Int}
theorem ldN {p q : AV} (hg : s.get a = .cells [p, q] false) {α : Type} (f : AV → Option α) : aLoadN 2 (.ptr a 0 2) s f = f (.agg [p, q]) := load_n hg rfl (Nat.le_refl _)
theorem stN {cs : List AV} (p q : AV) (hg : s.get a = .cells cs false) (hc : cs.length = 2) {α : Type} (f : Store → Option α) : aStore 2 (.ptr a 0 2) (.agg [p, q]) s f = f (s.set a (.cells [p, q] false)) := by
  match cs, hc with
  | [u, v], _ => simp [aStore, aCells, aOwn, hg, putAll]
end

/-- The document's way to know that a number has one writing. -/
theorem one_writing {r : List Int} {kk : Nat} (hu : ∀ x ∈ r, 0 ≤ x ∧ x < 256) (h8 : kk ≤ 8) (hr : kk ≤ r.length) : (numB (valI (r.take kk)) = ((kk : Int) :: r).take (kk + 1)) ↔ ¬ ((kk : Int) > 0 ∧ r.getD ((kk : Int) - 1).toNat 0 = 0) := by
  have hut : ∀ x ∈ r.take kk, 0 ≤ x ∧ x < 256 := fun x hx => hu x (List.mem_of_mem_take hx)
  have hlt : (r.take kk).length = kk := by simp; omega
  have hb := valI_bnd (r.take kk) hut
  rw [hlt] at hb
  have hp : (256 : Int) ^ kk ≤ 256 ^ 8 := by
    have : (256 : Nat) ^ kk ≤ 256 ^ 8 := Nat.pow_le_pow_right (by omega) h8
    rw [← p256 kk, ← p256 8]; exact Int.ofNat_le.2 this
  have elast : ∀ hne : r.take kk ≠ [], (r.take kk).getLast hne = r.getD ((kk : Int) - 1).toNat 0 := by
    intro hne
    have hpos := List.length_pos_iff.2 hne
    rw [List.getLast_eq_getElem]
    simp only [hlt, List.getElem_take]
    have e : ((kk : Int) - 1).toNat = kk - 1 := by omega
    rw [e, List.getD_eq_getElem?_getD, List.getElem?_eq_getElem (by omega)]
    rfl
  rw [List.take_succ_cons]
  unfold numB
  constructor
  · intro h q
    obtain ⟨q1, q2⟩ := q
    obtain ⟨_, h2⟩ := List.cons.inj h
    have hne : r.take kk ≠ [] := fun z => by rw [z] at hlt; simp at hlt; omega
    have hne2 : leI 8 (valI (r.take kk)) ≠ [] := by rw [h2]; exact hne
    have := leI_last 8 (valI (r.take kk)) hb.1 (by omega) hne2
    apply this
    have e : (leI 8 (valI (r.take kk))).getLast hne2 = (r.take kk).getLast hne := by congr 1
    rw [e, elast hne, q2]
  · intro h
    have hle : leI 8 (valI (r.take kk)) = r.take kk := le_valI _ 8 (by omega) hut fun hne q => h ⟨by have := List.length_pos_iff.2 hne; omega, by rw [← elast hne]; exact q⟩
    rw [hle, hlt]

section
variable {s : Store} {a c : Nat} {bv x1 : AV} {b : List Int}

theorem rr_loop (k : Nat) {r : List Int} {kk : Nat} (hg : s.get a = .cells [bv, .int .i64 0] false) (hv : IsV s bv .u8 ((kk : Int) :: r)) (hu : ∀ x ∈ r, 0 ≤ x ∧ x < 256) (h8 : kk ≤ 8) (hr : kk ≤ r.length) {x5 : AV} : ∀ (n i : Nat), i ≤ kk → i < n →
    unisonref01_R_Num.l0 k n x1 (.ptr a 0 2) x5 (.int .i64 kk) (.int .u64 (valI ((r.take kk).drop i))) (.int .i64 i) s = unisonref01_R_Num.p14 k x1 (.ptr a 0 2) x5 (.int .i64 kk) (.int .u64 (valI (r.take kk))) s
  | 0, i, hi, hn => by omega
  | n + 1, i, hi, hn => by
    have hs : unisonref01_R_Num.l0 k (n + 1) = fun x1 x2 x5 x6 x7 x8 s => unisonref01_R_Num.p17 k (unisonref01_R_Num.l0 k n) x1 x2 x5 x6 x7 x8 s := rfl
    rw [hs]
    clear hs
    simp only
    unfold unisonref01_R_Num.p17
    rw [gtr_i]
    by_cases h : i = 0
    · subst h
      rw [decide_eq_false (by omega), if_f, List.drop_zero]
    · rw [decide_eq_true (by omega), if_t]
      unfold unisonref01_R_Num.p16 unisonref01_R_Num.p15
      obtain ⟨j, rfl⟩ : ∃ j, i = j + 1 := ⟨i - 1, by omega⟩
      obtain ⟨p, p1, p2⟩ := atV hv (i := ((j + 1 : Nat) : Int)) (by omega) (by simp only [List.length_cons]; omega)
      have hj : j < r.length := by omega
      have eg : ((kk : Int) :: r).getD (((j + 1 : Nat) : Int)).toNat 0 = r[j] := by rw [Int.toNat_natCast]; simp [hj]
      have hut : ∀ x ∈ (r.take kk).drop (j + 1), 0 ≤ x ∧ x < 256 := fun x hx => hu x (List.mem_of_mem_take (List.mem_of_mem_drop hx))
      have hb := valI_bnd _ hut
      have hlen : ((r.take kk).drop (j + 1)).length ≤ 7 := by simp; omega
      have hp : (256 : Int) ^ ((r.take kk).drop (j + 1)).length ≤ 256 ^ 7 := by
        have : (256 : Nat) ^ ((r.take kk).drop (j + 1)).length ≤ 256 ^ 7 := Nat.pow_le_pow_right (by omega) hlen
        rw [← p256, ← p256 7]; exact Int.ofNat_le.2 this
      have h7 : (256 : Int) ^ 7 = 72057594037927936 := rfl
      have hx := hu _ (List.getElem_mem hj)
      have hm : ∀ {α : Type} (v : Int), 0 ≤ v → v < 72057594037927936 → ∀ (f : AV → Option α), aBin .mul (.int .u64 256) (.int .u64 v) f = f (.int .u64 (256 * v)) := by
        intro α v h1 h2 f
        simp only [aBin, intBin, if_true, w_u64 (show 0 ≤ 256 * v by omega) (show 256 * v < 18446744073709551616 by omega)]
      rw [hm _ hb.1 (by omega), fld_p, ld_f0 hg, p1, p2, eg, conv_i, w_u64 (by omega) (by omega), add_i, w_u64 (by omega) (by omega), sub_i]
      have hw : IntKind.i64.wrap (((j + 1 : Nat) : Int) - 1) = (j : Int) := by rw [w_i64 (by omega) (by omega)]; omega
      have hjt : j < (r.take kk).length := by simp; omega
      have e : 256 * valI ((r.take kk).drop (j + 1)) + r[j] = valI ((r.take kk).drop j) := by
        rw [List.drop_eq_getElem_cons hjt, valI, List.getElem_take]; omega
      rw [hw, e]
      exact rr_loop k hg hv hu h8 hr (x5 := x5) n j (by omega) (by omega)

theorem rr_num {e most : Int} (hv : IsV s bv .u8 b) (hu : ∀ x ∈ b, 0 ≤ x ∧ x < 256) (hb : b.length ≤ 1000000) (k : Nat) (hk : 50 ≤ k) (hk2 : k ≤ 90000) : ∃ lv s', rn (k + 2) 22 [.agg [bv, .int .i64 e], .int .u64 most] s = some (.tuple [.int .u64 (rdNum b e most).1, .agg [lv, .int .i64 (rdNum b e most).2.2]], s') ∧ IsV s lv .u8 (rdNum b e most).2.1 ∧ (∀ a b c d f, lv = .sl a b c d f → ∃ b c d f, bv = .sl a b c d f) ∧ Ext s s' := by
  rw [unisonref01_R_Num.eq]
  unfold unisonref01_R_Num.f unisonref01_R_Num.p44
  rw [cells_agg, new_s, new_s]
  simp only [List.length_cons, List.length_nil, Nat.zero_add, Nat.reduceAdd]
  obtain ⟨a, ha⟩ : ∃ a, a = s.next := ⟨_, rfl⟩
  have e0 : Ext s ((s.push (.cells [bv, .int .i64 e] false)).push (.cells [.nilsl, .int .i64 0] false)) := (Ext.push _ _).trans (Ext.push _ _)
  have ga : ((s.push (.cells [bv, .int .i64 e] false)).push (.cells [.nilsl, .int .i64 0] false)).get a = .cells [bv, .int .i64 e] false := by grind [get_push, next_push]
  have gc : ((s.push (.cells [bv, .int .i64 e] false)).push (.cells [.nilsl, .int .i64 0] false)).get (a + 1) = .cells [.nilsl, .int .i64 0] false := by grind [get_push, next_push]
  have nx : ((s.push (.cells [bv, .int .i64 e] false)).push (.cells [.nilsl, .int .i64 0] false)).next = a + 2 := by rw [ha]; rfl
  rw [show (s.push (.cells [bv, .int .i64 e] false)).next = s.next + 1 from rfl, ← ha]
  generalize (s.push (.cells [bv, .int .i64 e] false)).push (.cells [.nilsl, .int .i64 0] false) = s5 at *
  have hv5 := hv.ext e0
  -- what is handed back
  have bad : ∀ y : Int, ∃ s', Ext s s' ∧ (∀ {α : Type} (f : AV → Option α), aLoadN 2 (.ptr a 0 2) (s5.set a (.cells [bv, .int .i64 y] false)) f = f (.agg [bv, .int .i64 y])) ∧ (∀ {α : Type} (f : Store → Option α), aStore 2 (.ptr (a + 1) 0 2) (.agg [bv, .int .i64 y]) (s5.set a (.cells [bv, .int .i64 y] false)) f = f s') ∧ ∀ {α : Type} (f : AV → Option α), aLoadN 2 (.ptr (a + 1) 0 2) s' f = f (.agg [bv, .int .i64 y]) := by
    intro y
    have g1 : (s5.set a (.cells [bv, .int .i64 y] false)).get a = .cells [bv, .int .i64 y] false := by rw [get_set, if_pos rfl]
    have g2 : (s5.set a (.cells [bv, .int .i64 y] false)).get (a + 1) = .cells [.nilsl, .int .i64 0] false := by rw [get_set, if_neg (by omega)]; exact gc
    refine ⟨(s5.set a (.cells [bv, .int .i64 y] false)).set (a + 1) (.cells [bv, .int .i64 y] false), ⟨e0.next, fun l hl => ?_⟩, fun f => ldN g1 f, fun f => stN _ _ g2 rfl f, fun f => ldN (by rw [get_set, if_pos rfl]) f⟩
    rw [get_set, if_neg (by omega), get_set, if_neg (by omega)]; exact e0.get l hl
  have st1 : ∀ (y : Int) {α : Type} (f : Store → Option α), e = 0 → aStore 1 (.ptr a (0 + 1) 2) (.int .i64 y) s5 f = f (s5.set a (.cells [bv, .int .i64 y] false)) := fun y α f h => st_f1 ga f
  unfold unisonref01_R_Num.p43 unisonref01_R_Num.p42 rdNum
  rw [fld_p, ld_f1 ga, neq_i]
  by_cases he : e = 0
  · subst he
    rw [show ((0 : Int) != 0) = false from rfl, if_f, if_neg (by simp)]
    unfold unisonref01_R_Num.p41 unisonref01_R_Num.p38 unisonref01_R_Num.p37
    rw [fld_p, ld_f0 ga, lenV hv5, eql_i]
    cases b with
    | nil =>
      rw [show (((([] : List Int).length : Nat) : Int) == 0) = true from rfl, if_t]
      obtain ⟨s', b1, b2, b3, b4⟩ := bad 2
      unfold unisonref01_R_Num.p35 unisonref01_R_Num.p34 unisonref01_R_Num.p33
      simp only [bnd, guard_tt, guard_ff, guard_tf, guard_ft, pick_t, pick_f, if_t, if_f, add_i, sub_i, lss_i, leq_i, gtr_i, geq_i, eql_i, neq_i, min_i, max_i, conv_i, len_sl, len_nil, not_b, cells_agg, new_s, fld_p, nil_p, st1 2 _ rfl, b2, b3, b4]
      exact ⟨bv, s', rfl, hv, fun i x c d f q => ⟨_, _, _, _, q⟩, b1⟩
    | cons k0 r =>
      have hk0 := hu k0 List.mem_cons_self
      have hur := fun x hx => hu x (List.mem_cons_of_mem k0 hx)
      have hz : ((((k0 :: r).length : Nat) : Int) == 0) = false := beq_eq_false_iff_ne.2 (by simp only [List.length_cons]; omega)
      rw [hz, if_f]
      unfold unisonref01_R_Num.p36 unisonref01_R_Num.p32 unisonref01_R_Num.p31 unisonref01_R_Num.p30
      obtain ⟨p, p1, p2⟩ := atV hv5 (show (0 : Int) ≤ 0 by omega) (by simp only [List.length_cons]; omega)
      rw [fld_p, ld_f0 ga, p1, p2, show (k0 :: r).getD (0 : Int).toNat 0 = k0 from rfl, conv_i, w_i64 (by omega) (by omega), gtr_i]
      by_cases h1 : k0 > 8
      · have eR : numR (k0 :: r) most = (0, [], 3) := by unfold numR; simp only; rw [if_pos h1]
        rw [decide_eq_true h1, if_t, eR, if_pos (by simp)]
        obtain ⟨s', b1, b2, b3, b4⟩ := bad 3
        unfold unisonref01_R_Num.p28 unisonref01_R_Num.p27 unisonref01_R_Num.p26
        simp only [bnd, guard_tt, guard_ff, guard_tf, guard_ft, pick_t, pick_f, if_t, if_f, add_i, sub_i, lss_i, leq_i, gtr_i, geq_i, eql_i, neq_i, min_i, max_i, conv_i, len_sl, len_nil, not_b, cells_agg, new_s, fld_p, nil_p, st1 3 _ rfl, b2, b3, b4]
        exact ⟨bv, s', rfl, hv, fun i x c d f q => ⟨_, _, _, _, q⟩, b1⟩
      · rw [decide_eq_false h1, if_f]
        unfold unisonref01_R_Num.p29 unisonref01_R_Num.p25 unisonref01_R_Num.p24
        have hlen : IntKind.i64.wrap ((((k0 :: r).length : Nat) : Int) - 1) = (r.length : Int) := by
          simp only [List.length_cons] at hb ⊢
          rw [w_i64 (by omega) (by omega)]; omega
        rw [fld_p, ld_f0 ga, lenV hv5, sub_i, hlen, lss_i]
        by_cases h2 : k0 > (r.length : Int)
        · have eR : numR (k0 :: r) most = (0, [], 2) := by unfold numR; simp only; rw [if_neg h1, if_pos h2]
          rw [decide_eq_true (show (r.length : Int) < k0 from h2), if_t, eR, if_pos (by simp)]
          obtain ⟨s', b1, b2, b3, b4⟩ := bad 2
          unfold unisonref01_R_Num.p22 unisonref01_R_Num.p21 unisonref01_R_Num.p20
          simp only [bnd, guard_tt, guard_ff, guard_tf, guard_ft, pick_t, pick_f, if_t, if_f, add_i, sub_i, lss_i, leq_i, gtr_i, geq_i, eql_i, neq_i, min_i, max_i, conv_i, len_sl, len_nil, not_b, cells_agg, new_s, fld_p, nil_p, st1 2 _ rfl, b2, b3, b4]
          exact ⟨bv, s', rfl, hv, fun i x c d f q => ⟨_, _, _, _, q⟩, b1⟩
        · rw [decide_eq_false (show ¬ (r.length : Int) < k0 from h2), if_f]
          obtain ⟨kk, hkk⟩ : ∃ kk : Nat, k0 = kk := ⟨k0.toNat, by omega⟩
          subst hkk
          have hk8 : kk ≤ 8 := by omega
          have hkr : kk ≤ r.length := by omega
          unfold unisonref01_R_Num.p23 unisonref01_R_Num.p19 unisonref01_R_Num.p18
          have hl := rr_loop (k + 1) (x1 := .int .u64 most) (x5 := .ptr (a + 1) 0 2) ga hv5 hur hk8 hkr (k + 1) kk (Nat.le_refl _) (by omega)
          have hd0 : (r.take kk).drop kk = [] := List.drop_eq_nil_of_le (by rw [List.length_take]; omega)
          rw [hd0, show valI [] = 0 from rfl] at hl
          rw [hl]
          have hut : ∀ x ∈ r.take kk, 0 ≤ x ∧ x < 256 := fun x hx => hur x (List.mem_of_mem_take hx)
          have hlt : (r.take kk).length = kk := by simp; omega
          have hbv := valI_bnd (r.take kk) hut
          rw [hlt] at hbv
          have hp : (256 : Int) ^ kk ≤ 256 ^ 8 := by
            have : (256 : Nat) ^ kk ≤ 256 ^ 8 := Nat.pow_le_pow_right (by omega) hk8
            rw [← p256 kk, ← p256 8]; exact Int.ofNat_le.2 this
          have h8 : (256 : Int) ^ 8 = 18446744073709551616 := rfl
          obtain ⟨nv, s6, k6, o6, e6⟩ := rnum_run (s := s5) (n := valI (r.take kk)) hbv.1 (by omega) k (by omega) (by omega)
          have ga6 : s6.get a = .cells [bv, .int .i64 0] false := (e6.get a (by omega)).trans ga
          have gc6 : s6.get (a + 1) = .cells [.nilsl, .int .i64 0] false := (e6.get (a + 1) (by omega)).trans gc
          have e06 := e0.trans e6
          obtain ⟨tv, t1, _, t3, t2, _⟩ := sliceV hv5 (a := 0) (b := kk + 1) (Nat.zero_le _) (by simp only [List.length_cons]; omega)
          have t2' : ∀ {α : Type} (f : AV → Option α), aSliceSl 1 bv none (some (.int .i64 ((kk + 1 : Nat) : Int))) f = f tv := fun f => t2 rfl .i64 f
          have t1' : IsV s5 tv .u8 (((kk : Int) :: r).take (kk + 1)) := by simpa using t1
          have hwk : IntKind.i64.wrap ((kk : Int) + 1) = ((kk + 1 : Nat) : Int) := by rw [w_i64 (by omega) (by omega)]; omega
          have huB : ∀ x ∈ ((kk : Int) :: r).take (kk + 1), 0 ≤ x ∧ x < 256 := fun x hx => hu x (List.mem_of_mem_take hx)
          unfold unisonref01_R_Num.p14
          simp only [bnd, guard_tt, guard_ff, guard_tf, guard_ft, pick_t, pick_f, if_t, if_f, add_i, sub_i, lss_i, leq_i, gtr_i, geq_i, eql_i, neq_i, min_i, max_i, conv_i, len_sl, len_nil, not_b, cells_agg, new_s, fld_p, nil_p, k6, strV o6.is, ld_f0 ga6, ld_f0 ga, aSame_self, hwk, t2', strV (t1'.ext e6), strV t1', ne_str (numB_u8 _) huB]
          unfold unisonref01_R_Num.p13
          -- what is handed back, behind the store that Num has left
          have bad6 : ∀ y : Int, ∃ s', Ext s s' ∧ (∀ {α : Type} (f : Store → Option α), aStore 1 (.ptr a (0 + 1) 2) (.int .i64 y) s6 f = f (s6.set a (.cells [bv, .int .i64 y] false))) ∧ (∀ {α : Type} (f : AV → Option α), aLoadN 2 (.ptr a 0 2) (s6.set a (.cells [bv, .int .i64 y] false)) f = f (.agg [bv, .int .i64 y])) ∧ (∀ {α : Type} (f : Store → Option α), aStore 2 (.ptr (a + 1) 0 2) (.agg [bv, .int .i64 y]) (s6.set a (.cells [bv, .int .i64 y] false)) f = f s') ∧ ∀ {α : Type} (f : AV → Option α), aLoadN 2 (.ptr (a + 1) 0 2) s' f = f (.agg [bv, .int .i64 y]) := by
            intro y
            have g1 : (s6.set a (.cells [bv, .int .i64 y] false)).get a = .cells [bv, .int .i64 y] false := by rw [get_set, if_pos rfl]
            have g2 : (s6.set a (.cells [bv, .int .i64 y] false)).get (a + 1) = .cells [.nilsl, .int .i64 0] false := by rw [get_set, if_neg (by omega)]; exact gc6
            refine ⟨(s6.set a (.cells [bv, .int .i64 y] false)).set (a + 1) (.cells [bv, .int .i64 y] false), ⟨e06.next, fun l hl => ?_⟩, fun f => st_f1 ga6 f, fun f => ldN g1 f, fun f => stN _ _ g2 rfl f, fun f => ldN (by rw [get_set, if_pos rfl]) f⟩
            rw [get_set, if_neg (by omega), get_set, if_neg (by omega)]; exact e06.get l hl
          have how := one_writing hur hk8 hkr
          by_cases h3 : (kk : Int) > 0 ∧ r.getD ((kk : Int) - 1).toNat 0 = 0
          · have eR : numR ((kk : Int) :: r) most = (0, [], 3) := by unfold numR; simp only; rw [if_neg h1, if_neg h2, if_pos h3]
            have hne : ¬ numB (valI (r.take kk)) = ((kk : Int) :: r).take (kk + 1) := fun q => (how.1 q) h3
            rw [decide_eq_false hne, eR, if_pos (by simp)]
            obtain ⟨s', b1, b0, b2, b3, b4⟩ := bad6 3
            unfold unisonref01_R_Num.p11 unisonref01_R_Num.p10 unisonref01_R_Num.p9
            simp only [Bool.not_false, bnd, guard_tt, guard_ff, guard_tf, guard_ft, pick_t, pick_f, if_t, if_f, add_i, sub_i, lss_i, leq_i, gtr_i, geq_i, eql_i, neq_i, min_i, max_i, conv_i, len_sl, len_nil, not_b, cells_agg, new_s, fld_p, nil_p, b0, b2, b3, b4]
            exact ⟨bv, s', rfl, hv, fun i x c d f q => ⟨_, _, _, _, q⟩, b1⟩
          · have heq : numB (valI (r.take kk)) = ((kk : Int) :: r).take (kk + 1) := how.2 h3
            rw [decide_eq_true heq]
            unfold unisonref01_R_Num.p12 unisonref01_R_Num.p8 unisonref01_R_Num.p7
            simp only [Bool.not_true, bnd, guard_tt, guard_ff, guard_tf, guard_ft, pick_t, pick_f, if_t, if_f, add_i, sub_i, lss_i, leq_i, gtr_i, geq_i, eql_i, neq_i, min_i, max_i, conv_i, len_sl, len_nil, not_b, cells_agg, new_s, fld_p, nil_p]
            by_cases h4 : valI (r.take kk) > most
            · have eR : numR ((kk : Int) :: r) most = (0, [], 6) := by unfold numR; simp only [Int.toNat_natCast]; rw [if_neg h1, if_neg h2, if_neg h3, if_pos h4]
              rw [decide_eq_true h4, if_t, eR, if_pos (by simp)]
              obtain ⟨s', b1, b0, b2, b3, b4⟩ := bad6 6
              unfold unisonref01_R_Num.p5 unisonref01_R_Num.p4 unisonref01_R_Num.p3
              simp only [bnd, guard_tt, guard_ff, guard_tf, guard_ft, pick_t, pick_f, if_t, if_f, add_i, sub_i, lss_i, leq_i, gtr_i, geq_i, eql_i, neq_i, min_i, max_i, conv_i, len_sl, len_nil, not_b, cells_agg, new_s, fld_p, nil_p, b0, b2, b3, b4]
              exact ⟨bv, s', rfl, hv, fun i x c d f q => ⟨_, _, _, _, q⟩, b1⟩
            · have eR : numR ((kk : Int) :: r) most = (valI (r.take kk), r.drop kk, 0) := by unfold numR; simp only [Int.toNat_natCast]; rw [if_neg h1, if_neg h2, if_neg h3, if_neg h4]
              rw [decide_eq_false h4, if_f, eR, if_neg (by simp)]
              unfold unisonref01_R_Num.p6 unisonref01_R_Num.p2 unisonref01_R_Num.p1 unisonref01_R_Num.p0
              obtain ⟨lv, l1, _, l3, _, l2⟩ := sliceV hv (a := kk + 1) (b := ((kk : Int) :: r).length) (by simp only [List.length_cons]; omega) (Nat.le_refl _)
              have l2' : ∀ {α : Type} (f : AV → Option α), aSliceSl 1 bv (some (.int .i64 ((kk + 1 : Nat) : Int))) none f = f lv := fun f => l2 rfl .i64 f
              have l1' : IsV s lv .u8 (r.drop kk) := by
                have e : ((((kk : Int) :: r).drop (kk + 1)).take (((kk : Int) :: r).length - (kk + 1))) = r.drop kk := by
                  rw [List.drop_succ_cons]; exact List.take_of_length_le (by simp)
                rw [e] at l1; exact l1
              have g1 : (s6.set a (.cells [lv, .int .i64 0] false)).get a = .cells [lv, .int .i64 0] false := by rw [get_set, if_pos rfl]
              have g2 : (s6.set a (.cells [lv, .int .i64 0] false)).get (a + 1) = .cells [.nilsl, .int .i64 0] false := by rw [get_set, if_neg (by omega)]; exact gc6
              have g3 : ((s6.set a (.cells [lv, .int .i64 0] false)).set (a + 1) (.cells [lv, .int .i64 0] false)).get (a + 1) = .cells [lv, .int .i64 0] false := by rw [get_set, if_pos rfl]
              simp only [bnd, guard_tt, guard_ff, guard_tf, guard_ft, pick_t, pick_f, if_t, if_f, add_i, sub_i, lss_i, leq_i, gtr_i, geq_i, eql_i, neq_i, min_i, max_i, conv_i, len_sl, len_nil, not_b, cells_agg, new_s, fld_p, nil_p, ld_f0 ga6, hwk, l2', st_f0 ga6 l1', ldN g1, stN _ _ g2 rfl, ldN g3]
              exact ⟨lv, _, rfl, l1', l3, ⟨e06.next, fun l hl => by rw [get_set, if_neg (by omega), get_set, if_neg (by omega)]; exact e06.get l hl⟩⟩
  · have he' : (e != 0) = true := by simpa using he
    rw [he', if_t, if_pos he]
    unfold unisonref01_R_Num.p40 unisonref01_R_Num.p39
    have g3 : (s5.set (a + 1) (.cells [bv, .int .i64 e] false)).get (a + 1) = .cells [bv, .int .i64 e] false := by rw [get_set, if_pos rfl]
    simp only [bnd, guard_tt, guard_ff, guard_tf, guard_ft, pick_t, pick_f, if_t, if_f, add_i, sub_i, lss_i, leq_i, gtr_i, geq_i, eql_i, neq_i, min_i, max_i, conv_i, len_sl, len_nil, not_b, cells_agg, new_s, fld_p, nil_p, ldN ga, stN _ _ gc rfl, ldN g3]
    exact ⟨bv, _, rfl, hv, fun i x c d f q => ⟨_, _, _, _, q⟩, ⟨e0.next, fun l hl => by rw [get_set, if_neg (by omega)]; exact e0.get l hl⟩⟩
end
end Go.Proofs.Ytppaefjgkocakaa.Sim
