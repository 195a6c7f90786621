/- Layer 23: the law OrdersPlays, its run, whole. No condition. -/
import Derived.Test.YtahiipfjhjeofaaB23P
namespace Go.Proofs.Ytahiipfjhjeofaa.Sim
set_option linter.unusedSimpArgs false
set_option linter.unusedVariables false

theorem IsActs.at' {s0 s : Store} {v : AV} {A : List ActR} (h : IsActs s0 v A) (e : Sub s0 s) {i : Nat} (hi : i < A.length) : ∃ p c, (∀ {α : Type} (k : IntKind) (f : AV → Option α), aIndexSl 3 v (.int k (i : Int)) f = f p) ∧ (∀ {α : Type} (f : AV → Option α), aLoadN 3 p s f = f (.agg c)) ∧ IsAct s0 c A[i] := by
  obtain ⟨css, h1, h2, h3⟩ := h
  obtain ⟨p, p1, p2⟩ := elemL (fun x => x.2) (h1.sub e) (show i < css.length by omega)
  exact ⟨p, _, p1, p2, h3 i _ hi⟩
theorem IsLL.nil (s : Store) : IsLL s .nilsl [] := ⟨[], .inl ⟨rfl, rfl⟩, rfl, fun i h => absurd h (Nat.not_lt_zero _)⟩
theorem old_sub {s0 s : Store} {τ : Nat → Nat} {p : Nat} (e : Ext s0 s) (h : ∀ r, r < s0.next → τ r = 0 ∧ r ≠ p) : Sub s0 (vw τ p s) := ⟨e.next, fun l hl _ => by rw [vw_get (h l hl).1 (h l hl).2]; exact e.get l hl⟩

theorem plays_loop {id n p : Nat} {x1 : AV} {A : List ActR} (hA : A.length ≤ 60) (x : Nat) (hx : x < 18446744073709551616) (k : Nat) (hk : 1000000 ≤ k) (hk2 : k ≤ 2000000) : ∀ (g i : Nat) (s : Store) (τ : Nat → Nat) (L : List (List Rn)) (d f : Nat) (R : ORows) (v : AV), InvP s τ id n L d f R p v x1 A → L.length ≤ i → i ≤ A.length → A.length - i < g →
    ∃ s', unisonlaw23_OrdersPlays.l0 (k + 7) g x1 (.int .u64 (x : Int)) (.ptr id 0 8) (.ptr p 0 4) (.int .i64 (i : Int)) s = some (.bool true, s')
  | 0, i, _, _, _, _, _, _, _, _, _, hi, hg => by omega
  | g + 1, i, s, τ, L, d, f, R, v, h, hLi, hi, hg => by
    have hs : unisonlaw23_OrdersPlays.l0 (k + 7) (g + 1) = fun x1 x2 x7 x8 x9 s => unisonlaw23_OrdersPlays.p24 (k + 7) (unisonlaw23_OrdersPlays.l0 (k + 7) g) x1 x2 x7 x8 x9 s := rfl
    rw [hs]
    clear hs
    simp only
    unfold unisonlaw23_OrdersPlays.p24
    rw [(h.acts.sub vw_sub).len, lss_i]
    by_cases hil : i < A.length
    · rw [decide_eq_true (by omega), if_t]
      unfold unisonlaw23_OrdersPlays.p23
      obtain ⟨q, c, q1, q2, w, rfl, hr, hw, hN⟩ := h.acts.at' vw_sub hil
      generalize ha : A[i] = a at *
      have e1 := Ext.push s (.cells [AV.int .i64 0, AV.nilsl, AV.int .u64 0] false)
      have g1 : (s.push (.cells [AV.int .i64 0, AV.nilsl, AV.int .u64 0] false)).get s.next = .cells [AV.int .i64 0, AV.nilsl, AV.int .u64 0] false := by rw [get_push, if_pos rfl]
      have n1 : s.next < (s.push (.cells [AV.int .i64 0, AV.nilsl, AV.int .u64 0] false)).next := Nat.lt_succ_self _
      rw [q1, q2, new_s, show ([AV.int .i64 0, AV.nilsl, AV.int .u64 0] : List AV).length = 3 from rfl]
      generalize (s.push (.cells [AV.int .i64 0, AV.nilsl, AV.int .u64 0] false)) = s1 at *
      have st3 : ∀ {α : Type} (g : Store → Option α), aStore 3 (.ptr s.next 0 3) (.agg [.int .i64 a.1, w, .int .u64 (a.2.2 : Int)]) s1 g = g (s1.set s.next (.cells [.int .i64 a.1, w, .int .u64 (a.2.2 : Int)] false)) := fun g => by simp [aStore, aCells, aOwn, g1, putAll]
      rw [st3]
      have e2 : Ext s (s1.set s.next (.cells [.int .i64 a.1, w, .int .u64 (a.2.2 : Int)] false)) := ⟨e1.next, fun q hq => by rw [get_set, if_neg (by omega)]; exact e1.get q hq⟩
      have g2 : (s1.set s.next (.cells [.int .i64 a.1, w, .int .u64 (a.2.2 : Int)] false)).get s.next = .cells [.int .i64 a.1, w, .int .u64 (a.2.2 : Int)] false := by rw [get_set, if_pos rfl]
      have n2 : s.next < (s1.set s.next (.cells [.int .i64 a.1, w, .int .u64 (a.2.2 : Int)] false)).next := n1
      generalize (s1.set s.next (.cells [.int .i64 a.1, w, .int .u64 (a.2.2 : Int)] false)) = s2 at *
      unfold unisonlaw23_OrdersPlays.p22
      have hr2 : IsRuns (vw τ p s2) w a.2.1 := hr.sub (vw_ext e2)
      obtain ⟨s3, k3, e3⟩ := great_run (hr2.sub vw_sub) hw a.1 (a.2.2 : Int) (k + 4) (by omega) (by omega)
      have ld3 : ∀ {α : Type} (g : AV → Option α), aLoadN 3 (.ptr s.next 0 3) s2 g = g (.agg [.int .i64 a.1, w, .int .u64 (a.2.2 : Int)]) := fun g => load_n g2 rfl (Nat.le_refl _)
      rw [ld3, k3, bnd]
      simp only
      by_cases hgr : (decide (100 < a.2.1.length) || decide (300 < countR 0 a.2.1)) = true
      · rw [hgr, if_t]
        have := awake_rn (k + 6) s3
        rw [this, bnd]
        exact ⟨_, rfl⟩
      · have hgr' : (decide (100 < a.2.1.length) || decide (300 < countR 0 a.2.1)) = false := by simpa using hgr
        rw [hgr', if_f]
        have hl100 : a.2.1.length ≤ 100 := by
          rw [Bool.or_eq_false_iff] at hgr'
          have := of_decide_eq_false hgr'.1; omega
        have e02 := e2.trans e3
        have h3 := h.ext e02
        have hr3 : IsRuns (vw τ p s3) w a.2.1 := hr.sub (vw_ext e02)
        have g3 : s3.get s.next = .cells [.int .i64 a.1, w, .int .u64 (a.2.2 : Int)] false := (e3.get _ n2).trans g2
        have n3 : s.next < s3.next := Nat.lt_of_lt_of_le n2 e3.next
        have np : s.next ≠ p := by have := h.lt; omega
        have nt : τ s.next = 0 := h.o.fresh _ (Nat.le_refl _)
        have hw1 : IntKind.i64.wrap ((i : Int) + 1) = ((i + 1 : Nat) : Int) := by rw [w_i64 (by omega) (by omega)]; omega
        have ldk : ∀ {α : Type} (g : AV → Option α), aLoad1 (.ptr s.next (0 + 0) 3) s3 g = g (.int .i64 a.1) := fun g => load_1 g3 rfl rfl
        unfold unisonlaw23_OrdersPlays.p21 
        simp only [bnd, guard_tt, guard_ff, guard_tf, guard_ft, pick_t, pick_f, if_t, if_f, add_i, sub_i, lss_i, leq_i, gtr_i, geq_i, eql_i, neq_i, min_i, max_i, conv_i, len_sl, len_nil, not_b, cells_agg, new_s, fld_p, nil_p, ldk]
        unfold unisonlaw23_OrdersPlays.p20
        rw [eql_i]
        unfold unisonlaw23_OrdersPlays.p19
        by_cases hk0 : a.1 = 0
        · rw [show (a.1 == 0) = true by rw [hk0]; rfl, if_t]
          obtain ⟨s4, τ4, L4, R4, v4, k4, h4, l4⟩ := plays_decide (R0 := unisonlaw23_OrdersPlays.l0 (k + 7) g) h3 (by omega) g3 n3 np nt hr3 hw hl100 x hx (.int .i64 (i : Int)) k hk hk2
          rw [k4]
          unfold unisonlaw23_OrdersPlays.p1
          rw [add_i, hw1]
          exact plays_loop hA x hx k hk hk2 g (i + 1) s4 τ4 L4 d f R4 v4 h4 (by omega) (by omega) (by omega)
        · rw [show (a.1 == 0) = false from beq_eq_false_iff_ne.2 hk0, if_f]
          unfold unisonlaw23_OrdersPlays.p18
          rw [eql_i]
          unfold unisonlaw23_OrdersPlays.p17
          by_cases hk1 : a.1 = 1
          · rw [show (a.1 == 1) = true by rw [hk1]; rfl, if_t]
            obtain ⟨s4, d4, R4, k4, h4⟩ := plays_deliver (R0 := unisonlaw23_OrdersPlays.l0 (k + 7) g) h3 (by omega) x hx (.int .i64 (i : Int)) k hk hk2
            rw [k4]
            unfold unisonlaw23_OrdersPlays.p1
            rw [add_i, hw1]
            exact plays_loop hA x hx k hk hk2 g (i + 1) s4 τ L d4 f R4 v h4 (by omega) (by omega) (by omega)
          · rw [show (a.1 == 1) = false from beq_eq_false_iff_ne.2 hk1, if_f]
            obtain ⟨s4, f4, R4, k4, h4⟩ := plays_forget (R0 := unisonlaw23_OrdersPlays.l0 (k + 7) g) h3 (by omega) g3 n3 np nt hN x hx (.int .i64 (i : Int)) k hk hk2
            rw [k4]
            unfold unisonlaw23_OrdersPlays.p1
            rw [add_i, hw1]
            exact plays_loop hA x hx k hk hk2 g (i + 1) s4 τ L d f4 R4 v h4 (by omega) (by omega) (by omega)
    · rw [decide_eq_false (by omega), if_f]
      unfold unisonlaw23_OrdersPlays.p0
      have := awake_rn (k + 6) s
      rw [this, bnd]
      exact ⟨_, rfl⟩

theorem plays_run {s : Store} {x1 : AV} {A : List ActR} (h1 : IsActs s x1 A) (a x : Int) (hx : 0 ≤ x ∧ x < 18446744073709551616) : ∃ s', rn 1000008 6 [.int .i64 a, x1, .int .u64 x] s = some (.bool true, s') := by
  rw [show 1000008 = 1000000 + 7 + 1 from rfl, unisonlaw23_OrdersPlays.eq]
  unfold unisonlaw23_OrdersPlays.f unisonlaw23_OrdersPlays.p28 unisonlaw23_OrdersPlays.p27
  rw [h1.len, gtr_i]
  by_cases hA : ((A.length : Nat) : Int) > 60
  · rw [decide_eq_true hA, if_t]
    have := awake_rn (1000000 + 6) s
    rw [this, bnd]
    exact ⟨_, rfl⟩
  · rw [decide_eq_false hA, if_f]
    unfold unisonlaw23_OrdersPlays.p26
    obtain ⟨s2, R, k2, o2, e2⟩ := new_run a (1000000 + 6) s
    obtain ⟨s3, k3, e3⟩ := mnew_run a (1000000 + 6) s2
    have e4 := Ext.push s3 (.cells zero4 false)
    have g4 : (s3.push (.cells zero4 false)).get s3.next = .cells zero4 false := by rw [get_push, if_pos rfl]
    have n4 : s3.next < (s3.push (.cells zero4 false)).next := Nat.lt_succ_self _
    simp only [k2, k3, bnd, guard_tt, guard_ff, guard_tf, guard_ft, pick_t, pick_f, if_t, if_f, add_i, sub_i, lss_i, leq_i, gtr_i, geq_i, eql_i, neq_i, min_i, max_i, conv_i, len_sl, len_nil, not_b, cells_agg, new_s, fld_p, nil_p]
    rw [show ([AV.int .i64 0, AV.nilsl, AV.int .i64 0, AV.int .i64 0] : List AV) = zero4 from rfl, show zero4.length = 4 from rfl]
    generalize (s3.push (.cells zero4 false)) = s4 at *
    rw [st_m g4 rfl (show (mcells (max 1 (min a 64)).toNat .nilsl 0 0).length = 4 from rfl)]
    have e5 : Ext s2 (s4.set s3.next (.cells (mcells (max 1 (min a 64)).toNat .nilsl 0 0) false)) := ⟨Nat.le_trans e3.next e4.next, fun q hq => by rw [get_set, if_neg (by have := e3.next; omega)]; exact ((e3.trans e4).get q hq)⟩
    have g5 : (s4.set s3.next (.cells (mcells (max 1 (min a 64)).toNat .nilsl 0 0) false)).get s3.next = .cells (mcells (max 1 (min a 64)).toNat .nilsl 0 0) false := by rw [get_set, if_pos rfl]
    have n5 : s3.next < (s4.set s3.next (.cells (mcells (max 1 (min a 64)).toNat .nilsl 0 0) false)).next := n4
    generalize (s4.set s3.next (.cells (mcells (max 1 (min a 64)).toNat .nilsl 0 0) false)) = s5 at *
    have o5 := o2.ext e5
    obtain ⟨xn, rfl⟩ : ∃ xn : Nat, x = xn := ⟨x.toNat, by omega⟩
    have hI : InvP s5 (newTags s.next) (s.next + 8) (max 1 (min a 64)).toNat [] 0 0 R s3.next .nilsl x1 A :=
      ⟨o5, g5, n5, o2.fresh _ e3.next, IsLL.nil _, h1.sub (old_sub (e2.trans e5) fun r hr => ⟨by unfold newTags; rw [if_neg (by omega), if_neg (by omega), if_neg (by omega), if_neg (by omega)], by have := e2.next; have := e3.next; omega⟩), fun l hl => by simp at hl⟩
    unfold unisonlaw23_OrdersPlays.p25
    have := plays_loop (by omega) xn (by omega) 1000000 (by omega) (by omega) (1000000 + 7) 0 s5 _ [] 0 0 R .nilsl hI (Nat.le_refl _) (Nat.zero_le _) (by omega)
    rw [Int.natCast_zero] at this
    exact this
end Go.Proofs.Ytahiipfjhjeofaa.Sim
