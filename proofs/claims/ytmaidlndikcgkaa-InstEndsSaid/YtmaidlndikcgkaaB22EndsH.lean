/- Layer 22: all end: the law. No condition. -/
import Derived.Test.YtmaidlndikcgkaaB22EndsG
namespace Go.Proofs.Ytmaidlndikcgkaa.Sim
set_option linter.unusedSimpArgs false
set_option linter.unusedVariables false
variable {s s' : Store} {M M' : List Nat} {w : WV} {ps : List PP} {sent : List OFV} {n wr : Nat} {cs : List Int}

theorem mul_4 {m : Nat} (h : m ≤ 1000) {α : Type} (f : AV → Option α) : aBin .mul (.int .i64 4) (.int .i64 (m : Int)) f = f (.int .i64 ((4 * m : Nat) : Int)) := by
  simp only [aBin, intBin, if_true]
  rw [w_i64 (by omega) (by omega)]
  congr 2
theorem lv_agree {b R0 : Int} {L : Nat → XI} {mine : Nat → List Rn} (h : Lv n (mineOf cs) (allH n cs) b R0 L) (hS : Stt ps L) (hH : Hd n cs ps) (hl : ps.length = n) : PInv n cs b (ps.map (·.2)) [] := by
  obtain ⟨V, E, k, loc, _⟩ := h.ex
  refine ⟨⟨V, E, k, by simp [hl], fun p hp => ?_, fun f hf => (List.not_mem_nil hf).elim⟩, by simp [hl], fun p hp => ?_⟩
  · have hp' : p < ps.length := by simpa using hp
    have hx : ((ps.map (·.2)).map (·.x))[p] = L p := by rw [List.getElem_map, List.getElem_map]; exact hS p hp'
    rw [hx]
    exact loc p (by omega)
  · have hp' : p < ps.length := by simpa using hp
    rw [List.getElem_map]
    exact (hH p hp').2
/-- All have decided: that is seen. -/
theorem all_loop (k : Nat) (hk : 1001 ≤ k) (hk2 : k ≤ 90000) (hn : n ≤ 64) (hag : ∀ i j (hi : i < ps.length) (hj : j < ps.length), ps[i].2.x.decided ≠ [] → ps[j].2.x.decided ≠ [] → ps[i].2.x.decided = ps[j].2.x.decided) (hval : ∀ i (hi : i < ps.length), ps[i].2.x.decided ≠ [] → ∃ j, ∃ h : j < ps.length, ps[i].2.x.decided = ps[j].2.mine) (hd : ∀ p (h : p < ps.length), ps[p].2.x.decided ≠ []) : ∀ (f i : Nat) (s : Store), WI s wr n M w ps sent → i ≤ n → n - i < f → ∃ s', F5.l0 (k + 11) f (.int .i64 (n : Int)) (.ptr wr 0 4) (.int .i64 (i : Int)) s = some (.bool true, s') := by
  intro f
  induction f with
  | zero => intro i s _ _ hf; omega
  | succ f ih =>
    intro i s h hi hf
    have hs : F5.l0 (k + 11) (f + 1) (.int .i64 (n : Int)) (.ptr wr 0 4) (.int .i64 (i : Int)) s = F5.p3 (k + 11) (F5.l0 (k + 11) f) (.int .i64 (n : Int)) (.ptr wr 0 4) (.int .i64 (i : Int)) s := rfl
    rw [hs]
    unfold F5.p3
    simp only [lss_i]
    have hlen := h.len
    subst hlen
    by_cases hin : (i : Int) < (ps.length : Int)
    rotate_left
    · simp only [decide_eq_false hin, if_f]
      unfold F5.p0
      obtain ⟨s1, a1⟩ := agree_run h.iw (k + 8) (by omega) (by omega) hag hval
      have a1' : rn (k + 11) 11 [.agg (wvals ps.length w)] s = some (.bool true, s1) := a1
      have aw : ∀ t, rn (k + 11) 8 [] t = some (.bool true, t) := fun t => awake_rn (k + 10) t
      simp only [ld_all h.g (wv_len _ _), a1', bnd, guard_tt, guard_ff, guard_tf, guard_ft, pick_t, pick_f, if_t, if_f, add_i, sub_i, lss_i, leq_i, gtr_i, geq_i, eql_i, neq_i, min_i, max_i, conv_i, len_sl, len_nil, not_b, cells_agg, new_s, fld_p, nil_p, aw]
      exact ⟨s1, rfl⟩
    simp only [decide_eq_true hin, if_t]
    have hi' : i < ps.length := by omega
    unfold F5.p2
    have l0 : ∀ {α : Type} (c : AV → Option α), aLoad1 (.ptr wr (0 + 0) 4) s c = c (.sl w.lr 0 ps.length 1 ps.length) := fun {α} c => h.ld rfl c
    have lL := fun {α : Type} (c : AV → Option α) => h.iw.ldL hi' c
    obtain ⟨s1, v, a1, a2, a3⟩ := decided_run (h.iw.p i hi').x (k + 9)
    have a1' : rn (k + 11) 17 [.ptr ps[i].1.v.x 0 11] s = some (.tuple [v, .bool (!decide (ps[i].2.x.decided = []))], s1) := a1
    simp only [fld_p, l0, idx1 hi', lL, a1', bnd, ext1, ext2, decide_eq_false (hd i hi'), Bool.not_false, bnd, guard_tt, guard_ff, guard_tf, guard_ft, pick_t, pick_f, if_t, if_f, add_i, sub_i, lss_i, leq_i, gtr_i, geq_i, eql_i, neq_i, min_i, max_i, conv_i, len_sl, len_nil, not_b, cells_agg, new_s, fld_p, nil_p]
    unfold F5.p1
    have hw1 : IntKind.i64.wrap ((i : Int) + 1) = ((i + 1 : Nat) : Int) := by rw [w_i64 (by omega) (by omega)]; omega
    simp only [Bool.not_true, bnd, guard_tt, guard_ff, guard_tf, guard_ft, pick_t, pick_f, if_t, if_f, add_i, sub_i, lss_i, leq_i, gtr_i, geq_i, eql_i, neq_i, min_i, max_i, conv_i, len_sl, len_nil, not_b, cells_agg, new_s, fld_p, nil_p, hw1]
    exact ih (i + 1) s1 (h.ext a3) (by omega) (by omega)
/-- The times. -/
theorem times_loop (k : Nat) (hk : 1001 ≤ k) (hk2 : k ≤ 90000) (hn : 1 ≤ n ∧ n ≤ 5) {R0 : Int} : ∀ (f i : Nat) (s : Store) (M : List Nat) (w : WV) (ps : List PP) (sent : List OFV) (b : Int) (L : Nat → XI), WI s wr n M w ps sent → Stt ps L → Hd n cs ps → Lv n (mineOf cs) (allH n cs) b R0 L → Alld n (times n (mineOf cs) (allH n cs) (4 * n + 12 - i) L) → b + ((4 * n + 12 - i : Nat) : Int) * n < 1000000000 → sent.length + (4 * n + 12 - i) * (2 * n) ≤ 100000 → i ≤ 4 * n + 12 → 4 * n + 12 - i < f →
    ∃ s', F5.l4 (k + 11) f (.int .i64 (n : Int)) (.ptr wr 0 4) (.int .i64 (i : Int)) s = some (.bool true, s') := by
  intro f
  induction f with
  | zero => intro i s M w ps sent b L _ _ _ _ _ _ _ _ hf; omega
  | succ f ih =>
    intro i s M w ps sent b L h hS hH hL hA hb hsl hi hf
    have hs : F5.l4 (k + 11) (f + 1) (.int .i64 (n : Int)) (.ptr wr 0 4) (.int .i64 (i : Int)) s = F5.p18 (k + 11) (F5.l4 (k + 11) f) (.int .i64 (n : Int)) (.ptr wr 0 4) (.int .i64 (i : Int)) s := rfl
    rw [hs]
    unfold F5.p18
    have hw4 : IntKind.i64.wrap (((4 * n : Nat) : Int) + 12) = ((4 * n + 12 : Nat) : Int) := by rw [w_i64 (by omega) (by omega)]; omega
    rw [mul_4 (by omega)]
    simp only [add_i, hw4, lss_i]
    by_cases hin : (i : Int) < ((4 * n + 12 : Nat) : Int)
    rotate_left
    · simp only [decide_eq_false hin, if_f]
      have e0 : 4 * n + 12 - i = 0 := by omega
      rw [e0] at hA
      have hA : Alld n L := hA
      have hpi := lv_agree (mine := mineOf cs) hL hS hH h.len
      obtain ⟨g1, g2⟩ := pinv_agree hpi
      unfold F5.p4
      exact all_loop k hk hk2 (by omega) g1 g2 (fun p hp => by rw [hS p hp]; exact hA p (by rw [← h.len]; exact hp)) (k + 11) 0 s h (by omega) (by omega)
    simp only [decide_eq_true hin, if_t]
    obtain ⟨r, hr⟩ : ∃ r, 4 * n + 12 - i = r + 1 := ⟨4 * n + 12 - i - 1, by omega⟩
    have hr2 : 4 * n + 12 - (i + 1) = r := by omega
    rw [hr] at hA hb hsl
    have hA : Alld n (times n (mineOf cs) (allH n cs) r (timeA n (mineOf cs) (allH n cs) L)) := hA
    have hb2 : b + n + ((r : Nat) : Int) * n < 1000000000 := by
      have e1 : ((r + 1 : Nat) : Int) * n = ((r : Nat) : Int) * n + n := by
        rw [show ((r + 1 : Nat) : Int) = (r : Int) + 1 by omega, Int.add_mul, Int.one_mul]
      omega
    have hrn : 0 ≤ ((r : Nat) : Int) * n := Int.mul_nonneg (by omega) (by omega)
    obtain ⟨hL2, _, _⟩ := time_live hL (by omega)
    unfold F5.p17
    have l3 : ∀ {α : Type} (c : AV → Option α), aLoad1 (.ptr wr (0 + 3) 4) s c = c w.sv := fun {α} c => h.ld rfl c
    have hsl2 := fun {α : Type} (c : AV → Option α) => lenL h.iw.sentIs c
    simp only [fld_p, l3, hsl2]
    unfold F5.p16
    have hsl1 : (r + 1) * (2 * n) = r * (2 * n) + 2 * n := Nat.succ_mul _ _
    obtain ⟨s1, M1, w1, ps1, sent1, a1, a2, a3, a4, a5⟩ := steps_loop (cs := cs) (L := L) (x13 := .int .i64 (i : Int)) (x14 := .int .i64 (sent.length : Int)) (R0 := F5.l4 (k + 11) f) k hk hk2 (n := n) (by omega) (o0 := sent.map (·.1)) (by rw [List.length_map]; omega) (k + 11) 0 s M w ps sent h (hS.congr fun p hp => by rw [if_neg (by omega)]) hH (by simp) (by omega) (by omega)
    rw [show ((0 : Nat) : Int) = 0 from rfl] at a1
    rw [a1]
    unfold F5.p12
    have hfl : (outs n (stepA' (mineOf cs) (allH n cs) L)).length ≤ 2 * n := flat_le _ n
    have hl1 : sent1.length = sent.length + (outs n (stepA' (mineOf cs) (allH n cs) L)).length := by
      have := congrArg List.length a5
      rw [List.length_map, List.length_append, List.length_map] at this
      exact this
    obtain ⟨s2, M2, w2, ps2, b1, b2, b3, b4⟩ := come_out (cs := cs) (x13 := .int .i64 (i : Int)) (R0 := F5.l4 (k + 11) f) (k + 4) (by omega) (by omega) (n := n) (by omega) a5 (by omega) (k + 11) 0 s1 M1 w1 ps1 a2 (a3.congr fun p hp => by rw [List.take_zero]; rfl) a4 (by omega) (by omega)
    rw [List.length_map, Nat.add_zero] at b1
    have b1' : F5.l2 (k + 11) (F5.l4 (k + 11) f) (k + 11) (.int .i64 (n : Int)) (.ptr wr 0 4) (.int .i64 (i : Int)) (.int .i64 (sent.length : Int)) s1 = F5.p5 (k + 11) (F5.l4 (k + 11) f) (.int .i64 (n : Int)) (.ptr wr 0 4) (.int .i64 (i : Int)) s2 := b1
    rw [b1']
    unfold F5.p5
    have hw1 : IntKind.i64.wrap ((i : Int) + 1) = ((i + 1 : Nat) : Int) := by rw [w_i64 (by omega) (by omega)]; omega
    simp only [add_i, hw1]
    refine ih (i + 1) s2 M2 w2 ps2 sent1 (b + n) (timeA n (mineOf cs) (allH n cs) L) b2 b3 b4 hL2 (by rw [hr2]; exact hA) (by rw [hr2]; exact hb2) (by rw [hr2]; omega) (by omega) (by omega)
/-! ### all hold all -/
def Hg (n : Nat) (cs : List Int) (i j : Nat) (ps : List PP) : Prop := ∀ p (h : p < ps.length), ps[p].2.held.length = n ∧ ∀ q, q < n → (p < i ∨ (p = i ∧ q < j) ∨ q = p) → ps[p].2.held.getD q 0 = kOf cs q
theorem hold_in (k : Nat) (hn : n ≤ 64) {R0 : AV → AV → AV → Store → Option (AV × Store)} {b : Int} (hk : 100 ≤ k) : ∀ (f i j : Nat) (s : Store) (ps : List PP), WI s wr n M w ps sent → Hg n cs i j ps → EInv n cs b (ps.map (·.2)) [] → i < n → j ≤ n → n - j < f →
    ∃ s' ps', F5.l5 k R0 f (.int .i64 (n : Int)) (.ptr wr 0 4) (.int .i64 (i : Int)) (.int .i64 (j : Int)) s = F5.p20 k R0 (.int .i64 (n : Int)) (.ptr wr 0 4) (.int .i64 (i : Int)) s' ∧ WI s' wr n M w ps' sent ∧ Hg n cs (i + 1) 0 ps' ∧ EInv n cs b (ps'.map (·.2)) [] := by
  intro f
  induction f with
  | zero => intro i j s ps _ _ _ _ _ hf; omega
  | succ f ih =>
    intro i j s ps h hg he hi hj hf
    have hs : F5.l5 k R0 (f + 1) (.int .i64 (n : Int)) (.ptr wr 0 4) (.int .i64 (i : Int)) (.int .i64 (j : Int)) s = F5.p23 k R0 (F5.l5 k R0 f) (.int .i64 (n : Int)) (.ptr wr 0 4) (.int .i64 (i : Int)) (.int .i64 (j : Int)) s := rfl
    rw [hs]
    unfold F5.p23
    simp only [lss_i]
    by_cases hin : (j : Int) < (n : Int)
    rotate_left
    · simp only [decide_eq_false hin, if_f]
      exact ⟨s, ps, rfl, h, fun p hp => ⟨(hg p hp).1, fun q hq z => (hg p hp).2 q hq (by omega)⟩, he⟩
    simp only [decide_eq_true hin, if_t]
    have hlen := h.len
    have hi' : i < ps.length := by omega
    have hj' : j < ps.length := by omega
    unfold F5.p22
    obtain ⟨t, q, b1, b2, b3, b4⟩ := hold_at h hi' hj'
    have l1 : ∀ {α : Type} (c : AV → Option α), aLoad1 (.ptr wr (0 + 1) 4) s c = c (.sl w.hr 0 n 1 n) := fun {α} c => h.ld rfl c
    have lHi : ∀ {α : Type} (c : AV → Option α), aLoad1 (.ptr w.hr i n) s c = c (.sl ps[i].1.h 0 n 1 n) := fun {α} c => by have := h.iw.ldH hi' c; rw [hlen] at this; exact this
    have lHj : ∀ {α : Type} (c : AV → Option α), aLoad1 (.ptr w.hr j n) s c = c (.sl ps[j].1.h 0 n 1 n) := fun {α} c => by have := h.iw.ldH hj' c; rw [hlen] at this; exact this
    have hpj := h.iw.p j hj'
    have lv : ∀ {α : Type} (c : AV → Option α), aLoad1 (.ptr ps[j].1.h j n) s c = c (.int .u64 (ps[j].2.held.getD j 0)) := fun {α} c => by
      have := loadV (s := s) (id := ps[j].1.h) (k := .u64) hpj.h (i := j) (by rw [hpj.hl]; exact hj') c
      rw [hpj.hl, hlen] at this
      exact this
    have hjn : j < n := by omega
    simp only [fld_p, l1, idx1 hi, idx1 hjn, lHi, lHj, lv, b1, bnd]
    unfold F5.p21
    have hw1 : IntKind.i64.wrap ((j : Int) + 1) = ((j + 1 : Nat) : Int) := by rw [w_i64 (by omega) (by omega)]; omega
    simp only [add_i, hw1]
    have hown : ps[j].2.held.getD j 0 = kOf cs j := (hg j hj').2 j (by omega) (.inr (.inr rfl))
    have hmi : i < (ps.map fun x : PP => x.2).length := by rw [List.length_map]; exact hi'
    have hmj : j < (ps.map fun x : PP => x.2).length := by rw [List.length_map]; exact hj'
    have he2 := einv_hold he (i := i) (q := j) hmi hmj
    have g1 : (ps.map fun x : PP => x.2)[i] = ps[i].2 := by rw [List.getElem_map]
    have g2 : (ps.map fun x : PP => x.2)[j] = ps[j].2 := by rw [List.getElem_map]
    rw [g1, g2, ← b3, ← List.map_set] at he2
    obtain ⟨s', ps', c1, c2⟩ := ih i (j + 1) t (ps.set i q) b2 (fun p hp => by
      rw [List.length_set] at hp
      rw [List.getElem_set]
      by_cases z : i = p
      · subst z
        rw [if_pos rfl, b3]
        refine ⟨by rw [List.length_set]; exact (hg _ hi').1, fun q' hq' zz => ?_⟩
        show (ps[i].2.held.set j (ps[j].2.held.getD j 0)).getD q' 0 = _
        rw [List.getD_eq_getElem?_getD, List.getElem?_set]
        by_cases y : j = q'
        · subst y
          rw [if_pos rfl, if_pos (by rw [(hg _ hi').1]; omega)]
          exact hown
        · rw [if_neg y, ← List.getD_eq_getElem?_getD]
          exact (hg _ hi').2 q' hq' (by omega)
      · rw [if_neg z]
        exact ⟨(hg p hp).1, fun q' hq' zz => (hg p hp).2 q' hq' (by omega)⟩) he2 hi (by omega) (by omega)
    exact ⟨s', ps', c1, c2⟩
theorem hold_out (k : Nat) (hn : n ≤ 64) {b : Int} (hk : 100 ≤ k) : ∀ (f i : Nat) (s : Store) (ps : List PP), WI s wr n M w ps sent → Hg n cs i 0 ps → EInv n cs b (ps.map (·.2)) [] → i ≤ n → n - i < f →
    ∃ s' ps', F5.l6 k f (.int .i64 (n : Int)) (.ptr wr 0 4) (.int .i64 (i : Int)) s = F5.p19 k (.int .i64 (n : Int)) (.ptr wr 0 4) s' ∧ WI s' wr n M w ps' sent ∧ Hg n cs n 0 ps' ∧ EInv n cs b (ps'.map (·.2)) [] := by
  intro f
  induction f with
  | zero => intro i s ps _ _ _ _ hf; omega
  | succ f ih =>
    intro i s ps h hg he hi hf
    have hs : F5.l6 k (f + 1) (.int .i64 (n : Int)) (.ptr wr 0 4) (.int .i64 (i : Int)) s = F5.p25 k (F5.l6 k f) (.int .i64 (n : Int)) (.ptr wr 0 4) (.int .i64 (i : Int)) s := rfl
    rw [hs]
    unfold F5.p25
    simp only [lss_i]
    by_cases hin : (i : Int) < (n : Int)
    rotate_left
    · simp only [decide_eq_false hin, if_f]
      have : i = n := by omega
      subst this
      exact ⟨s, ps, rfl, h, hg, he⟩
    simp only [decide_eq_true hin, if_t]
    unfold F5.p24
    obtain ⟨s1, ps1, a1, a2, a3, a4⟩ := hold_in (cs := cs) (R0 := F5.l6 k f) k hn hk k i 0 s ps h hg he (by omega) (by omega) (by omega)
    rw [show ((0 : Nat) : Int) = 0 from rfl] at a1
    rw [a1]
    unfold F5.p20
    have hw1 : IntKind.i64.wrap ((i : Int) + 1) = ((i + 1 : Nat) : Int) := by rw [w_i64 (by omega) (by omega)]; omega
    simp only [add_i, hw1]
    exact ih (i + 1) s1 ps1 a2 a3 a4 (by omega) (by omega)
/-- Behind the picks. -/
theorem ends_tail (k : Nat) (hk : 1001 ≤ k) (hk2 : k ≤ 90000) (hn : 1 ≤ n ∧ n ≤ 5) (hcs : ∀ c ∈ cs, 0 ≤ c ∧ c < 256) {b : Int} (hb : b ≤ 1000) (hb0 : 0 ≤ b) (hex : ∃ q, q < n ∧ mineOf cs q ≠ []) (h : WI s wr n M w ps sent) (he : EInv n cs b (ps.map (·.2)) (sent.map (·.1))) (hsl : sent.length ≤ 1000) : ∃ s', F5.p26 (k + 11) (.int .i64 (n : Int)) (.ptr wr 0 4) s = some (.bool true, s') := by
  unfold F5.p26
  have he0 : EInv n cs b (ps.map (·.2)) [] := by
    obtain ⟨V, E, k, hl, loc, _⟩ := he.pinv.w
    exact ⟨⟨⟨V, E, k, hl, loc, fun f hf => (List.not_mem_nil hf).elim⟩, he.pinv.len, he.pinv.mine⟩, he.held, he.bm, he.est⟩
  obtain ⟨s1, ps1, a1, a2, a3, a4⟩ := hold_out (k + 11) (by omega) (by omega) (k + 11) 0 s ps h (fun p hp => by
    have := he.held p (by rw [List.length_map]; exact hp)
    rw [List.getElem_map] at this
    refine ⟨this.1, fun q hq z => ?_⟩
    rcases z with z | z | z
    · omega
    · omega
    · rw [z]; exact this.2) he0 (by omega) (by omega)
  rw [show ((0 : Nat) : Int) = 0 from rfl] at a1
  rw [a1]
  unfold F5.p19
  have hlen := a2.len
  obtain ⟨V, E, kk, hl, loc, _⟩ := a4.pinv.w
  obtain ⟨L, hLdef⟩ : ∃ L : Nat → XI, L = fun p => if h : p < ps1.length then ps1[p].2.x else newX 0 [] 0 := ⟨_, rfl⟩
  have hS : Stt ps1 L := fun p hp => by rw [hLdef]; simp only [hp, dif_pos]
  have hH : Hd n cs ps1 := fun p hp => by
    have h1 := a3 p hp
    have h2 := a4.pinv.mine p (by rw [List.length_map]; exact hp)
    rw [List.getElem_map] at h2
    refine ⟨List.ext_getElem (by rw [h1.1]; simp [allH]) fun q g1 g2 => ?_, h2⟩
    have hq : q < n := by rw [← h1.1]; exact g1
    have := h1.2 q hq (.inl (by omega))
    rw [List.getD_eq_getElem?_getD, List.getElem?_eq_getElem g1] at this
    simp only [Option.getD_some] at this
    rw [this]
    simp [allH]
  have hloc : ∀ p, p < n → PLoc n V E p (L p) := fun p hp => by
    have hp' : p < ps1.length := by omega
    have := loc p (by simpa using hp')
    rw [List.getElem_map, List.getElem_map, hS p hp'] at this
    exact this
  obtain ⟨R0, t⟩ := top_ex n L (by omega)
  obtain ⟨a, ha, haR⟩ := t.ex
  have hR := kk.bnd _ _ _ (hloc a ha).est
  have hR0 := (hloc a ha).rnd
  have hLv : Lv n (mineOf cs) (allH n cs) b R0 L := ⟨⟨V, E, kk, hloc, fun p r v hp hr hv => by
    have := ((hloc p hp).later r (by have := t.le p hp; omega)).2
    rw [this] at hv; cases hv⟩, fun p hp => by
    have := a4.bm p (by rw [List.length_map, hlen]; exact hp)
    rw [List.getElem_map, hS p (by omega)] at this
    exact this, held_all hcs (by omega), may_all hcs (by omega)⟩
  obtain ⟨q, hq, hqm⟩ := hex
  have hqe : (L q).est ≠ [] := by
    have := a4.est q (by rw [List.length_map, hlen]; exact hq) hqm
    rw [List.getElem_map, hS q (by omega)] at this
    exact this
  have hnn : (((4 * n + 12) * n : Nat) : Int) ≤ 160 := by
    have : (4 * n + 12) * n ≤ 32 * 5 := Nat.mul_le_mul (by omega) (by omega)
    omega
  have e2 : ((4 * n + 12 : Nat) : Int) * n = (((4 * n + 12) * n : Nat) : Int) := by simp
  have hA := ends_plain hq hLv t (by omega) (by omega) hqe (by rw [e2]; omega)
  have hnn2 : (4 * n + 12) * (2 * n) ≤ 320 := by
    have : (4 * n + 12) * (2 * n) ≤ 32 * 10 := Nat.mul_le_mul (by omega) (by omega)
    omega
  exact times_loop (R0 := R0) k hk hk2 hn (k + 11) 0 s1 M w ps1 sent b L a2 hS hH hLv (by rw [Nat.sub_zero]; exact hA) (by rw [Nat.sub_zero, e2]; omega) (by rw [Nat.sub_zero]; omega) (by omega) (by omega)
end Go.Proofs.Ytmaidlndikcgkaa.Sim
