/- Layer 23: the law OrdersFront, its run. No condition. -/
import Derived.Test.YtahiipfjhjeofaaB23I
import Derived.Test.YtahiipfjhjeofaaFunFront
namespace Go.Proofs.Ytahiipfjhjeofaa.Sim
set_option linter.unusedSimpArgs false
set_option linter.unusedVariables false

theorem IsSl.sub {s s' : Store} {v : AV} {k : IntKind} {xs : List Int} (h : IsSl s v k xs) (e : Sub s s') : IsSl s' v k xs := by
  rcases h with h | ⟨l, ro, h1, h2, h3⟩
  · exact .inl h
  · exact .inr ⟨l, ro, h1, Nat.lt_of_lt_of_le h2 e.next, (e.get l h2 (by rw [h3]; simp)).trans h3⟩
theorem IsActs.at' {s0 s : Store} {v : AV} {A : List ActR} (h : IsActs s0 v A) (e : Sub s0 s) {i : Nat} (hi : i < A.length) : ∃ p c, (∀ {α : Type} (k : IntKind) (f : AV → Option α), aIndexSl 3 v (.int k (i : Int)) f = f p) ∧ (∀ {α : Type} (f : AV → Option α), aLoadN 3 p s f = f (.agg c)) ∧ IsAct s0 c A[i] := by
  obtain ⟨css, h1, h2, h3⟩ := h
  obtain ⟨p, p1, p2⟩ := elemL (fun x => x.2) (h1.sub e) (show i < css.length by omega)
  exact ⟨p, _, p1, p2, h3 i _ hi⟩
theorem old_sub {s0 s : Store} {τ : Nat → Nat} {p : Nat} (e : Ext s0 s) (h : ∀ r, r < s0.next → τ r = 0 ∧ r ≠ p) : Sub s0 (vw τ p s) := ⟨e.next, fun l hl _ => by rw [vw_get (h l hl).1 (h l hl).2]; exact e.get l hl⟩
theorem vw_tag {τ : Nat → Nat} {p : Nat} {s : Store} {w : AV} {l : List Rn} (h : IsRuns (vw τ p s) w l) : ∀ a b c e g, w = .sl a b c e g → τ a = 0 := by
  intro a b c e g hw
  rcases h with ⟨q, _⟩ | ⟨x, ro, q1, q2, q3⟩
  · rw [q] at hw; cases hw
  · rw [q1] at hw
    cases hw
    unfold vw at q3
    simp only at q3
    split at q3
    · rename_i hc; exact hc.1
    · cases q3

/-- One covers another. -/
theorem covers_loop2 (k : Nat) {x0 x1 : AV} {xs ys : List Int} {s : Store} (h0 : IsSl s x0 .u64 xs) (h1 : IsSl s x1 .u64 ys) (hle : ∀ i, ys.getD i 0 ≤ xs.getD i 0) (hb : ys.length ≤ 4611686018427387904) : ∀ (n i : Nat), i ≤ ys.length → ys.length - i < n →
    unisonref04_Covers.l0 (k + 1) n x0 x1 (.int .i64 ys.length) (.int .i64 i) s = some (.bool true, s)
  | 0, i, hi, hn => by omega
  | n + 1, i, hi, hn => by
    have hs : unisonref04_Covers.l0 (k + 1) (n + 1) = fun x0 x1 x7 x8 s => unisonref04_Covers.p6 (k + 1) (unisonref04_Covers.l0 (k + 1) n) x0 x1 x7 x8 s := rfl
    rw [hs]
    clear hs
    simp only
    unfold unisonref04_Covers.p6 unisonref04_Covers.p5
    rw [lss_i]
    by_cases h : i < ys.length
    · have hz : (i : Int) < (ys.length : Int) := by omega
      rw [decide_eq_true hz, if_t]
      unfold unisonref04_Covers.p4 unisonref04_Covers.p3 unisonref04_Covers.p2 unisonref04_Covers.p1
      have hw1 : IntKind.i64.wrap ((i : Int) + 1) = ((i + 1 : Nat) : Int) := by rw [w_i64 (by omega) (by omega)]; omega
      obtain ⟨p, p1, p2⟩ := index_isI h1 (show (0 : Int) ≤ i by omega) hz
      have ea : atI xs i = xs.getD i 0 := by unfold atI; rw [if_neg (by omega), Int.toNat_natCast]
      have hlt : ¬ xs.getD i 0 < ys.getD i 0 := Int.not_lt.2 (hle i)
      simp only [bnd, guard_tt, guard_ff, guard_tf, guard_ft, pick_t, pick_f, if_t, if_f, add_i, sub_i, lss_i, leq_i, gtr_i, geq_i, eql_i, neq_i, min_i, max_i, conv_i, len_sl, len_nil, not_b, cells_agg, new_s, fld_p, nil_p, ref_at h0, p1, p2, aSame_self, Int.toNat_natCast, ea, decide_eq_false hlt, hw1]
      exact covers_loop2 k h0 h1 hle hb n (i + 1) (by omega) (by omega)
    · have hz : ¬ (i : Int) < (ys.length : Int) := by omega
      rw [decide_eq_false hz, if_f]
      rfl
theorem covers_run {s : Store} {x0 x1 : AV} {xs ys : List Int} (h0 : IsSl s x0 .u64 xs) (h1 : IsSl s x1 .u64 ys) (hle : ∀ i, ys.getD i 0 ≤ xs.getD i 0) (k : Nat) (hb : ys.length ≤ k) (hk : k ≤ 1000000000) : rn (k + 2) 20 [x0, x1] s = some (.bool true, s) := by
  rw [unisonref04_Covers.eq]
  unfold unisonref04_Covers.f unisonref04_Covers.p8 unisonref04_Covers.p7
  rw [len_is h1]
  have := covers_loop2 k h0 h1 hle (by omega) (k + 1) 0 (by omega) (by omega)
  rw [Int.natCast_zero] at this
  exact this

/-- What the law counts itself. -/
def nowOf (n : Nat) (L : List (List Rn)) (d : Nat) : List Int := doneOf n L d ++ List.replicate (64 - n) 0
theorem nowOf_len {n : Nat} (hn : n ≤ 64) (L : List (List Rn)) (d : Nat) : (nowOf n L d).length = 64 := by unfold nowOf; rw [List.length_append, doneOf_len, List.length_replicate]; omega
theorem nowOf_get (n : Nat) (L : List (List Rn)) (d j : Nat) : (nowOf n L d).getD j 0 = (doneOf n L d).getD j 0 := by
  unfold nowOf
  simp only [List.getD_eq_getElem?_getD]
  by_cases h : j < (doneOf n L d).length
  · rw [List.getElem?_append_left h]
  · rw [List.getElem?_append_right (by omega), List.getElem?_eq_none (show (doneOf n L d).length ≤ j by omega)]
    rw [List.getElem?_replicate]
    split <;> rfl
theorem nowOf_zero {n : Nat} (hn : n ≤ 64) (L : List (List Rn)) : nowOf n L 0 = List.replicate 64 0 := by
  unfold nowOf
  rw [done_zero, List.replicate_append_replicate]
  congr 1; omega
theorem base_le {n : Nat} {L : List (List Rn)} (h : OkL n L) {l : List Rn} (hw : ∀ r ∈ l, WfR r) (j : Nat) : (baseOf n L).getD j 0 ≤ (afterR (baseOf n L) l).getD j 0 := by
  by_cases hm : mayR (baseOf n L) 4096 l = true
  · exact proc_le (fun x hx => (orderR_wf hw x hx).1.1) (orders_pure hw hm) j
  · unfold afterR; rw [if_neg hm]; exact Int.le_refl _

structure InvF (s : Store) (τ : Nat → Nat) (id n : Nat) (L : List (List Rn)) (d f : Nat) (R : ORows) (p : Nat) (x1 : AV) (A : List ActR) : Prop where
  o : IsO s τ id n L d f R
  row : s.get p = .cells ((nowOf n L d).map (.int .u64)) false
  lt : p < s.next
  tag : τ p = 0
  acts : IsActs (vw τ p s) x1 A
section
variable {s : Store} {τ : Nat → Nat} {id n d f p : Nat} {L : List (List Rn)} {R : ORows} {x1 : AV} {A : List ActR}
theorem InvF.ext {s' : Store} (h : InvF s τ id n L d f R p x1 A) (e : Ext s s') : InvF s' τ id n L d f R p x1 A :=
  ⟨h.o.ext e, (e.get _ h.lt).trans h.row, Nat.lt_of_lt_of_le h.lt e.next, h.tag, h.acts.sub (vw_ext e)⟩
theorem InvF.now (h : InvF s τ id n L d f R p x1 A) : IsSl s (.sl p 0 64 1 64) .u64 (nowOf n L d) := .inr ⟨p, false, by rw [nowOf_len h.o.n1.2], h.lt, h.row⟩

/-- What is asked behind an act. -/
theorem front_checks {R0 : AV → AV → AV → AV → Store → Option (AV × Store)} (h : InvF s τ id n L d f R p x1 A) (hL : L.length ≤ 60) {x9 : AV} {was : List Int} (hwas : IsSl (vw τ p s) x9 .u64 was) (hwl : was.length ≤ 64) (hle : ∀ j, was.getD j 0 ≤ (baseOf n L).getD j 0) (x7 : AV) (k : Nat) (hk : 1000000 ≤ k) (hk2 : k ≤ 2000000) :
    ∃ s', unisonlaw23_OrdersFront.p2 (k + 7) R0 x1 (.ptr id 0 8) (.sl p 0 64 1 64) x7 x9 s = unisonlaw23_OrdersFront.p1 (k + 7) R0 x1 (.ptr id 0 8) (.sl p 0 64 1 64) x7 s' ∧ Ext s s' := by
  have hok := h.o.ok
  have hn := h.o.n1
  have hdl := h.o.dle
  have hwh := wholeN_le L d
  have hbl := baseOf_len n L
  have hdn := doneOf_len n L d
  have hnl := nowOf_len hn.2 L d
  obtain ⟨v1, s1, k1, o1, e1⟩ := ordered_run h.o (k + 5)
  have h1 := h.ext e1
  have c1 := covers_run o1.is ((hwas.sub vw_sub).ext e1) hle (k + 5) (by omega) (by omega)
  obtain ⟨v2, s2, k2, o2, e2⟩ := ordered_run h1.o (k + 5)
  have h2 := h1.ext e2
  obtain ⟨v3, s3, k3, o3, e3⟩ := odone_run h2.o (k + 5)
  have h3 := h2.ext e3
  have c2 := covers_run (o2.is.ext e3) o3.is (fun j => done_le hok d j) (k + 5) (by omega) (by omega)
  obtain ⟨v4, s4, k4, o4, e4⟩ := odone_run h3.o (k + 5)
  have h4 := h3.ext e4
  have hn1 : ∀ j, (nowOf n L d).getD j 0 ≤ (doneOf n L d).getD j 0 := fun j => by rw [nowOf_get]; exact Int.le_refl _
  have hn2 : ∀ j, (doneOf n L d).getD j 0 ≤ (nowOf n L d).getD j 0 := fun j => by rw [nowOf_get]; exact Int.le_refl _
  have c3 : rn (k + 7) 22 [v4, .sl p 0 64 1 64] s4 = some (.bool true, s4) := by
    rw [unisonref04_Same.eq]
    unfold unisonref04_Same.f unisonref04_Same.p0
    simp only [covers_run o4.is h4.now hn1 (k + 4) (by omega) (by omega), covers_run h4.now o4.is hn2 (k + 4) (by omega) (by omega), bnd, guard_tt, guard_ff, guard_tf, guard_ft, pick_t, pick_f, if_t, if_f, add_i, sub_i, lss_i, leq_i, gtr_i, geq_i, eql_i, neq_i, min_i, max_i, conv_i, len_sl, len_nil, not_b, cells_agg, new_s, fld_p, nil_p]
  have w4 := whole_run h4.o (k + 6)
  have i4 := insts_run h4.o (k + 6)
  have t4 := owaits_run h4.o (k + 6)
  have g1 : ¬ ((wholeN L d : Nat) : Int) > ((L.length : Nat) : Int) := by omega
  have g2 : ¬ (((idsOf L).length - d : Nat) : Int) < 0 := by omega
  unfold unisonlaw23_OrdersFront.p2
  simp only [k1, bnd, c1, bnd, guard_tt, guard_ff, guard_tf, guard_ft, pick_t, pick_f, if_t, if_f, add_i, sub_i, lss_i, leq_i, gtr_i, geq_i, eql_i, neq_i, min_i, max_i, conv_i, len_sl, len_nil, not_b, cells_agg, new_s, fld_p, nil_p, Bool.not_true, k2, k3, c2, k4, c3, w4, i4, t4, decide_eq_false g1, decide_eq_false g2]
  exact ⟨s4, rfl, e1.trans (e2.trans (e3.trans e4))⟩

theorem front_loop {x1 : AV} {A : List ActR} (hA : A.length ≤ 60) (k : Nat) (hk : 1000000 ≤ k) (hk2 : k ≤ 2000000) : ∀ (g i : Nat) (s : Store) (τ : Nat → Nat) (L : List (List Rn)) (d f : Nat) (R : ORows), InvF s τ id n L d f R p x1 A → L.length ≤ i → i ≤ A.length → A.length - i < g →
    ∃ s', unisonlaw23_OrdersFront.l0 (k + 7) g x1 (.ptr id 0 8) (.sl p 0 64 1 64) (.int .i64 (i : Int)) s = some (.bool true, s')
  | 0, i, _, _, _, _, _, _, _, _, hi, hg => by omega
  | g + 1, i, s, τ, L, d, f, R, h, hLi, hi, hg => by
    have hs : unisonlaw23_OrdersFront.l0 (k + 7) (g + 1) = fun x1 x5 x6 x7 s => unisonlaw23_OrdersFront.p17 (k + 7) (unisonlaw23_OrdersFront.l0 (k + 7) g) x1 x5 x6 x7 s := rfl
    rw [hs]
    clear hs
    simp only
    unfold unisonlaw23_OrdersFront.p17
    rw [(h.acts.sub vw_sub).len, lss_i]
    by_cases hil : i < A.length
    · rw [decide_eq_true (by omega), if_t]
      unfold unisonlaw23_OrdersFront.p16
      obtain ⟨q, c, q1, q2, w, rfl, hr, hw, hN⟩ := h.acts.at' vw_sub hil
      generalize ha : A[i] = a at *
      have e1 := Ext.push s (.cells [AV.int .i64 0, AV.nilsl, AV.int .u64 0] false)
      have g1 : (s.push (.cells [AV.int .i64 0, AV.nilsl, AV.int .u64 0] false)).get s.next = .cells [AV.int .i64 0, AV.nilsl, AV.int .u64 0] false := by rw [get_push, if_pos rfl]
      have n1 : s.next < (s.push (.cells [AV.int .i64 0, AV.nilsl, AV.int .u64 0] false)).next := Nat.lt_succ_self _
      rw [q1, q2, new_s, show ([AV.int .i64 0, AV.nilsl, AV.int .u64 0] : List AV).length = 3 from rfl]
      generalize (s.push (.cells [AV.int .i64 0, AV.nilsl, AV.int .u64 0] false)) = s1 at *
      have st3 : ∀ {α : Type} (g : Store → Option α), aStore 3 (.ptr s.next 0 3) (.agg [.int .i64 a.1, w, .int .u64 (a.2.2 : Int)]) s1 g = g (s1.set s.next (.cells [.int .i64 a.1, w, .int .u64 (a.2.2 : Int)] false)) := fun g => by simp [aStore, aCells, aOwn, g1, putAll]
      rw [st3]
      have e2 : Ext s (s1.set s.next (.cells [.int .i64 a.1, w, .int .u64 (a.2.2 : Int)] false)) := ⟨e1.next, fun q hq => by rw [get_set, if_neg (by omega)]; exact e1.get q hq⟩
      have g2 : (s1.set s.next (.cells [.int .i64 a.1, w, .int .u64 (a.2.2 : Int)] false)).get s.next = .cells [.int .i64 a.1, w, .int .u64 (a.2.2 : Int)] false := by rw [get_set, if_pos rfl]
      have n2 : s.next < (s1.set s.next (.cells [.int .i64 a.1, w, .int .u64 (a.2.2 : Int)] false)).next := n1
      generalize (s1.set s.next (.cells [.int .i64 a.1, w, .int .u64 (a.2.2 : Int)] false)) = s2 at *
      unfold unisonlaw23_OrdersFront.p15
      have hr2 : IsRuns (vw τ p s2) w a.2.1 := hr.sub (vw_ext e2)
      obtain ⟨s3, k3, e3⟩ := great_run (hr2.sub vw_sub) hw a.1 (a.2.2 : Int) (k + 4) (by omega) (by omega)
      have ld3 : ∀ {α : Type} (g : AV → Option α), aLoadN 3 (.ptr s.next 0 3) s2 g = g (.agg [.int .i64 a.1, w, .int .u64 (a.2.2 : Int)]) := fun g => load_n g2 rfl (Nat.le_refl _)
      rw [ld3, k3, bnd]
      simp only
      by_cases hgr : (decide (100 < a.2.1.length) || decide (300 < countR 0 a.2.1)) = true
      · rw [hgr, if_t]
        have := awake_rn (k + 6) s3
        rw [this, bnd]
        exact ⟨_, rfl⟩
      · have hgr' : (decide (100 < a.2.1.length) || decide (300 < countR 0 a.2.1)) = false := by simpa using hgr
        rw [hgr', if_f]
        have hl100 : a.2.1.length ≤ 100 := by
          rw [Bool.or_eq_false_iff] at hgr'
          have := of_decide_eq_false hgr'.1; omega
        have hn := h.o.n1
        have np : s.next ≠ p := by have := h.lt; omega
        have nt : τ s.next = 0 := h.o.fresh _ (Nat.le_refl _)
        -- what was ordered
        unfold unisonlaw23_OrdersFront.p14
        obtain ⟨vw0, s4, k4, o4, e4⟩ := ordered_run (h.ext (e2.trans e3)).o (k + 5)
        rw [k4, bnd]
        have e04 := e2.trans (e3.trans e4)
        have h4 := h.ext e04
        have hr4 : IsRuns (vw τ p s4) w a.2.1 := hr.sub (vw_ext e04)
        have g4 : s4.get s.next = .cells [.int .i64 a.1, w, .int .u64 (a.2.2 : Int)] false := ((e3.trans e4).get _ n2).trans g2
        have n4 : s.next < s4.next := Nat.lt_of_lt_of_le n2 (e3.trans e4).next
        have was4 : IsSl (vw τ p s4) vw0 .u64 (baseOf n L) := by
          rcases o4 with q | ⟨y, q1, q2, q3, q4⟩
          · exact .inl q
          · refine .inr ⟨y, false, q1, q3, ?_⟩
            have hy : s.next ≤ y := Nat.le_trans (e2.trans e3).next q2
            rw [vw_get (h.o.fresh y hy) (by have := h.lt; omega)]
            exact q4
        have hbl := baseOf_len n L
        have hw1 : IntKind.i64.wrap ((i : Int) + 1) = ((i + 1 : Nat) : Int) := by rw [w_i64 (by omega) (by omega)]; omega
        have ldk : ∀ {α : Type} (g : AV → Option α), aLoad1 (.ptr s.next (0 + 0) 3) s4 g = g (.int .i64 a.1) := fun g => load_1 g4 rfl rfl
        have ldw : ∀ {α : Type} (g : AV → Option α), aLoad1 (.ptr s.next (0 + 1) 3) s4 g = g w := fun g => load_1 g4 rfl rfl
        have ldN : ∀ {α : Type} (g : AV → Option α), aLoad1 (.ptr s.next (0 + 2) 3) s4 g = g (.int .u64 (a.2.2 : Int)) := fun g => load_1 g4 rfl rfl
        unfold unisonlaw23_OrdersFront.p13
        simp only [bnd, guard_tt, guard_ff, guard_tf, guard_ft, pick_t, pick_f, if_t, if_f, add_i, sub_i, lss_i, leq_i, gtr_i, geq_i, eql_i, neq_i, min_i, max_i, conv_i, len_sl, len_nil, not_b, cells_agg, new_s, fld_p, nil_p, ldk]
        unfold unisonlaw23_OrdersFront.p12
        by_cases hk0 : a.1 = 0
        · rw [show (a.1 == 0) = true by rw [hk0]; rfl, if_t]
          unfold unisonlaw23_OrdersFront.p4
          obtain ⟨s5, τ5, R5, k5, o5, f5, t5⟩ := decide_run h4.o (by omega) (hr4.sub vw_sub) (vw_tag hr4) hw (by omega) k (by omega) (by omega)
          have lt5 : p < s5.next := Nat.lt_of_lt_of_le h4.lt f5.next
          have sub5 : Sub (vw τ p s4) (vw τ5 p s5) := vw_frT f5 t5
          have g5 : s5.get s.next = .cells [.int .i64 a.1, w, .int .u64 (a.2.2 : Int)] false := (f5.get _ n4 nt).trans g4
          have ldw5 : ∀ {α : Type} (g : AV → Option α), aLoad1 (.ptr s.next (0 + 1) 3) s5 g = g w := fun g => load_1 g5 rfl rfl
          have was5 := was4.sub sub5
          obtain ⟨s6, k6, e6⟩ := ref_may (most := 4096) (was5.sub vw_sub) ((hr4.sub sub5).sub vw_sub) h.o.ok.u hw (by decide) (k + 3) (by omega) (by omega)
          have eqb : ∀ (b : Bool) {α : Type} (g : Bool → Option α), aEq .bool (.bool b) (.bool b) g = g true := fun b α g => by simp [aEq]
          simp only [bnd, bnd, guard_tt, guard_ff, guard_tf, guard_ft, pick_t, pick_f, if_t, if_f, add_i, sub_i, lss_i, leq_i, gtr_i, geq_i, eql_i, neq_i, min_i, max_i, conv_i, len_sl, len_nil, not_b, cells_agg, new_s, fld_p, nil_p, ldw, k5, ldw5, aSame_self, k6, eqb, Bool.not_true]
          unfold unisonlaw23_OrdersFront.p3
          rw [if_f]
          have hI : InvF s5 τ5 id n (if mayR (baseOf n L) 4096 a.2.1 = true then L ++ [a.2.1] else L) d f R5 p x1 A := by
            refine ⟨o5, ?_, lt5, (t5 _ h4.lt).trans h4.tag, h4.acts.sub sub5⟩
            rw [f5.get _ h4.lt h4.tag, h4.row]
            split
            · unfold nowOf; rw [done_app _ h.o.dle]
            · rfl
          have hle : ∀ j, (baseOf n L).getD j 0 ≤ (baseOf n (if mayR (baseOf n L) 4096 a.2.1 = true then L ++ [a.2.1] else L)).getD j 0 := fun j => by
            split
            · rw [baseOf_app]; exact base_le h.o.ok hw j
            · exact Int.le_refl _
          have hlen : (if mayR (baseOf n L) 4096 a.2.1 = true then L ++ [a.2.1] else L).length ≤ L.length + 1 := by split <;> simp
          generalize (if mayR (baseOf n L) 4096 a.2.1 = true then L ++ [a.2.1] else L) = L' at *
          obtain ⟨s7, k7, e7⟩ := front_checks (R0 := unisonlaw23_OrdersFront.l0 (k + 7) g) (hI.ext e6) (by omega) (was5.sub (vw_ext e6)) (by omega) hle (.int .i64 (i : Int)) k hk hk2
          rw [k7]
          unfold unisonlaw23_OrdersFront.p1
          rw [add_i, hw1]
          exact front_loop hA k hk hk2 g (i + 1) s7 τ5 L' d f R5 (hI.ext (e6.trans e7)) (by omega) (by omega) (by omega)
        · rw [show (a.1 == 0) = false from beq_eq_false_iff_ne.2 hk0, if_f]
          unfold unisonlaw23_OrdersFront.p11
          simp only [bnd, guard_tt, guard_ff, guard_tf, guard_ft, pick_t, pick_f, if_t, if_f, add_i, sub_i, lss_i, leq_i, gtr_i, geq_i, eql_i, neq_i, min_i, max_i, conv_i, len_sl, len_nil, not_b, cells_agg, new_s, fld_p, nil_p, ldk]
          unfold unisonlaw23_OrdersFront.p10
          by_cases hk1 : a.1 = 1
          · rw [show (a.1 == 1) = true by rw [hk1]; rfl, if_t]
            unfold unisonlaw23_OrdersFront.p8
            obtain ⟨s5, R5, k5, o5, f5⟩ := deliver_run h4.o (by omega) (k + 4)
            have lt5 : p < s5.next := Nat.lt_of_lt_of_le h4.lt f5.next
            have sub5 : Sub (vw τ p s4) (vw τ p s5) := vw_frT f5 (fun _ _ => rfl)
            have r5 : s5.get p = .cells ((nowOf n L d).map (.int .u64)) false := (f5.get _ h4.lt h4.tag).trans h4.row
            rw [k5, bnd]
            simp only [aExtract, List.getElem?_cons_zero, List.getElem?_cons_succ]
            have e6 := Ext.push s5 (.cells [AV.int .u8 0, AV.int .u64 0] false)
            have g6 : (s5.push (.cells [AV.int .u8 0, AV.int .u64 0] false)).get s5.next = .cells [AV.int .u8 0, AV.int .u64 0] false := by rw [get_push, if_pos rfl]
            rw [new_s, show ([AV.int .u8 0, AV.int .u64 0] : List AV).length = 2 from rfl]
            generalize (s5.push (.cells [AV.int .u8 0, AV.int .u64 0] false)) = s6 at *
            rw [st_id g6 rfl]
            have e7 : Ext s5 (s6.set s5.next (.cells (icells (nid L d)) false)) := ⟨e6.next, fun q hq => by rw [get_set, if_neg (by omega)]; exact e6.get q hq⟩
            have g7 : (s6.set s5.next (.cells (icells (nid L d)) false)).get s5.next = .cells (icells (nid L d)) false := by rw [get_set, if_pos rfl]
            generalize (s6.set s5.next (.cells (icells (nid L d)) false)) = s7 at *
            have r7 : s7.get p = .cells ((nowOf n L d).map (.int .u64)) false := (e7.get _ lt5).trans r5
            have lt7 : p < s7.next := Nat.lt_of_lt_of_le lt5 e7.next
            have sub7 : Sub (vw τ p s4) (vw τ p s7) := sub5.trans (vw_ext e7)
            have o7 := o5.ext e7
            have l0 : ∀ {α : Type} (g : AV → Option α), aLoad1 (.ptr s5.next (0 + 0) 2) s7 g = g (.int .u8 (nid L d).1) := fun g => load_1 g7 rfl rfl
            have l1 : ∀ {α : Type} (g : AV → Option α), aLoad1 (.ptr s5.next (0 + 1) 2) s7 g = g (.int .u64 (nid L d).2) := fun g => load_1 g7 rfl rfl
            unfold unisonlaw23_OrdersFront.p7
            by_cases hd : d < (idsOf L).length
            · obtain ⟨x1', x2', x3', x4'⟩ := next_id h.o.ok hd
              rw [← nid_at hd] at x1' x2' x3' x4'
              have hdu := (done_u h.o.ok d).at (nid L d).1.toNat
              have hidu := h.o.ok.ids _ (List.getElem_mem hd)
              rw [← nid_at hd] at hidu
              generalize nid L d = y at *
              rw [if_pos hd] at o7
              have hle63 : ¬ y.1 > 63 := by omega
              have ixn : ∀ {α : Type} (g : AV → Option α), aIndexSl 1 (.sl p 0 64 1 64) (.int .u8 y.1) g = g (.ptr p (0 + y.1.toNat) 64) := fun g => idxV x2' (by omega) g
              have ldn : ∀ {α : Type} (g : AV → Option α), aLoad1 (.ptr p (0 + y.1.toNat) 64) s7 g = g (.int .u64 ((doneOf n L d).getD y.1.toNat 0)) := fun g => by
                have := loadV (s := s7) (id := p) (k := .u64) (xs := nowOf n L d) r7 (i := y.1.toNat) (by rw [nowOf_len hn.2]; omega) g
                rw [nowOf_len hn.2, nowOf_get] at this
                rw [Nat.zero_add]; exact this
              have hwu : IntKind.u64.wrap ((doneOf n L d).getD y.1.toNat 0 + 1) = y.2 := by rw [w_u64 (by omega) (by omega), x3']
              have hset : (nowOf n L d).set y.1.toNat y.2 = nowOf n L (d + 1) := by
                unfold nowOf
                rw [x4', List.set_append_left _ _ (by rw [doneOf_len]; omega)]
              have stn : ∀ {α : Type} (g : Store → Option α), aStore 1 (.ptr p (0 + y.1.toNat) 64) (.int .u64 y.2) s7 g = g (s7.set p (.cells ((nowOf n L (d + 1)).map (.int .u64)) false)) := fun g => by
                have := storeV (s := s7) (id := p) (k := .u64) (xs := nowOf n L d) r7 (i := y.1.toNat) (by rw [nowOf_len hn.2]; omega) (n := y.2) g
                rw [nowOf_len hn.2, hset] at this
                rw [Nat.zero_add]; exact this
              simp only [bnd, bnd, guard_tt, guard_ff, guard_tf, guard_ft, pick_t, pick_f, if_t, if_f, add_i, sub_i, lss_i, leq_i, gtr_i, geq_i, eql_i, neq_i, min_i, max_i, conv_i, len_sl, len_nil, not_b, cells_agg, new_s, fld_p, nil_p, decide_eq_true hd, l0, l1, decide_eq_false hle63, ixn, ldn, hwu, bne_self_eq_false]
              unfold unisonlaw23_OrdersFront.p6
              rw [if_f]
              unfold unisonlaw23_OrdersFront.p5
              simp only [bnd, guard_tt, guard_ff, guard_tf, guard_ft, pick_t, pick_f, if_t, if_f, add_i, sub_i, lss_i, leq_i, gtr_i, geq_i, eql_i, neq_i, min_i, max_i, conv_i, len_sl, len_nil, not_b, cells_agg, new_s, fld_p, nil_p, l0, ixn, ldn, hwu, stn]
              have hI : InvF (s7.set p (.cells ((nowOf n L (d + 1)).map (.int .u64)) false)) τ id n L (d + 1) f R5 p x1 A :=
                ⟨o7.keep (Nat.le_refl _) (fun r _ hr => by rw [get_set, if_neg (fun e => hr (by rw [e]; exact h.tag))]), by rw [get_set, if_pos rfl], lt7, h.tag, by rw [vw_set]; exact h4.acts.sub sub7⟩
              obtain ⟨s8, k8, e8⟩ := front_checks (R0 := unisonlaw23_OrdersFront.l0 (k + 7) g) hI (by omega) (by rw [vw_set]; exact was4.sub sub7) (by omega) (fun j => Int.le_refl _) (.int .i64 (i : Int)) k hk hk2
              rw [k8]
              unfold unisonlaw23_OrdersFront.p1
              rw [add_i, hw1]
              exact front_loop hA k hk hk2 g (i + 1) s8 τ L (d + 1) f R5 (hI.ext e8) (by omega) (by omega) (by omega)
            · rw [if_neg hd] at o7
              simp only [bnd, bnd, guard_tt, guard_ff, guard_tf, guard_ft, pick_t, pick_f, if_t, if_f, add_i, sub_i, lss_i, leq_i, gtr_i, geq_i, eql_i, neq_i, min_i, max_i, conv_i, len_sl, len_nil, not_b, cells_agg, new_s, fld_p, nil_p, decide_eq_false hd, guard_skip]
              unfold unisonlaw23_OrdersFront.p6
              rw [if_f]
              unfold unisonlaw23_OrdersFront.p5
              rw [if_f]
              have hI : InvF s7 τ id n L d f R5 p x1 A := ⟨o7, r7, lt7, h.tag, h4.acts.sub sub7⟩
              obtain ⟨s8, k8, e8⟩ := front_checks (R0 := unisonlaw23_OrdersFront.l0 (k + 7) g) hI (by omega) (was4.sub sub7) (by omega) (fun j => Int.le_refl _) (.int .i64 (i : Int)) k hk hk2
              rw [k8]
              unfold unisonlaw23_OrdersFront.p1
              rw [add_i, hw1]
              exact front_loop hA k hk hk2 g (i + 1) s8 τ L d f R5 (hI.ext e8) (by omega) (by omega) (by omega)
          · rw [show (a.1 == 1) = false from beq_eq_false_iff_ne.2 hk1, if_f]
            unfold unisonlaw23_OrdersFront.p9
            obtain ⟨s5, R5, k5, o5, f5⟩ := forget_run h4.o (by omega) a.2.2 hN (k + 6) (by omega)
            simp only [bnd, guard_tt, guard_ff, guard_tf, guard_ft, pick_t, pick_f, if_t, if_f, add_i, sub_i, lss_i, leq_i, gtr_i, geq_i, eql_i, neq_i, min_i, max_i, conv_i, len_sl, len_nil, not_b, cells_agg, new_s, fld_p, nil_p, ldN, k5]
            have sub5 : Sub (vw τ p s4) (vw τ p s5) := vw_frT f5 (fun _ _ => rfl)
            have hI : InvF s5 τ id n L d (forgetN L f a.2.2) R5 p x1 A := ⟨o5, (f5.get _ h4.lt h4.tag).trans h4.row, Nat.lt_of_lt_of_le h4.lt f5.next, h.tag, h4.acts.sub sub5⟩
            obtain ⟨s8, k8, e8⟩ := front_checks (R0 := unisonlaw23_OrdersFront.l0 (k + 7) g) hI (by omega) (was4.sub sub5) (by omega) (fun j => Int.le_refl _) (.int .i64 (i : Int)) k hk hk2
            rw [k8]
            unfold unisonlaw23_OrdersFront.p1
            rw [add_i, hw1]
            exact front_loop hA k hk hk2 g (i + 1) s8 τ L d _ R5 (hI.ext e8) (by omega) (by omega) (by omega)
    · rw [decide_eq_false (by omega), if_f]
      unfold unisonlaw23_OrdersFront.p0
      have := awake_rn (k + 6) s
      rw [this, bnd]
      exact ⟨_, rfl⟩
end

theorem front_run {s : Store} {x1 : AV} {A : List ActR} (h1 : IsActs s x1 A) (a : Int) : ∃ s', rn 1000008 5 [.int .i64 a, x1] s = some (.bool true, s') := by
  rw [show 1000008 = 1000000 + 7 + 1 from rfl, unisonlaw23_OrdersFront.eq]
  unfold unisonlaw23_OrdersFront.f unisonlaw23_OrdersFront.p22 unisonlaw23_OrdersFront.p21
  rw [h1.len, gtr_i]
  by_cases hA : ((A.length : Nat) : Int) > 60
  · rw [decide_eq_true hA, if_t]
    have := awake_rn (1000000 + 6) s
    rw [this, bnd]
    exact ⟨_, rfl⟩
  · rw [decide_eq_false hA, if_f]
    unfold unisonlaw23_OrdersFront.p20
    obtain ⟨s2, R, k2, o2, e2⟩ := new_run a (1000000 + 6) s
    rw [k2, bnd]
    unfold unisonlaw23_OrdersFront.p19
    have := @mk_u64 64 (by decide) s2
    have hmk : ∀ {α : Type} (g : AV → Store → Option α), aMakeSlice [AV.int .u64 0] 1 8 (.int .i64 64) (.int .i64 64) s2 g = g (.sl s2.next 0 64 1 64) (s2.push (.cells ((List.replicate 64 (0 : Int)).map (.int .u64)) false)) := fun g => mk_u64 (n := 64) (by decide) s2 g
    rw [hmk]
    have e3 := Ext.push s2 (.cells ((List.replicate 64 (0 : Int)).map (.int .u64)) false)
    have g3 : (s2.push (.cells ((List.replicate 64 (0 : Int)).map (.int .u64)) false)).get s2.next = .cells ((List.replicate 64 (0 : Int)).map (.int .u64)) false := by rw [get_push, if_pos rfl]
    have n3 : s2.next < (s2.push (.cells ((List.replicate 64 (0 : Int)).map (.int .u64)) false)).next := Nat.lt_succ_self _
    generalize (s2.push (.cells ((List.replicate 64 (0 : Int)).map (.int .u64)) false)) = s3 at *
    have hI : InvF s3 (newTags s.next) (s.next + 8) (max 1 (min a 64)).toNat [] 0 0 R s2.next x1 A :=
      ⟨o2.ext e3, by rw [g3, nowOf_zero (by omega)], n3, o2.fresh _ (Nat.le_refl _), h1.sub (old_sub (e2.trans e3) fun r hr => ⟨by unfold newTags; rw [if_neg (by omega), if_neg (by omega), if_neg (by omega), if_neg (by omega)], by have := e2.next; omega⟩)⟩
    unfold unisonlaw23_OrdersFront.p18
    have := front_loop (by omega) 1000000 (by omega) (by omega) (1000000 + 7) 0 s3 _ [] 0 0 R hI (Nat.le_refl _) (Nat.zero_le _) (by omega)
    rw [Int.natCast_zero] at this
    exact this
end Go.Proofs.Ytahiipfjhjeofaa.Sim
