-- PRINTED BY print.sh 35421559b90ae4d0a3588c463048766b98c2df88dd9212a6774a882060cdf62d: not written by this session
import Derived.Test.YtofodhfijihibaaPRoundMeetsx0
import Derived.Test.YtofodhfijihibaaPRoundMeetsx1
namespace Go.Proofs.Ytofodhfijihibaa.PRoundMeets
open Go.RowKit Go.Proofs.YtofodhfijihibaaW.PrintWords Go.Proofs.YtofodhfijihibaaW.PrintLast Go.Proofs.YtofodhfijihibaaW.PrintMore
attribute [local go_sem] max2_int min2_int max_two min_two max_three min_three max_four min_four   -- for this text's walks alone
set_option linter.unusedVariables false
set_option linter.unusedSimpArgs false

/-! ### unisonlaw21_RoundMeets: function 3 -/
mutual
def unisonlaw21_RoundMeets.j0 : Nat → Int → List Bool → List Bool → Bool → Bool → Option (Bool)
  | 0, _, _, _, _, _ => none
  | k + 1, x0, x1, x2, x3, x41 => if x41 = true then ((unisonlaw21_awake.f k).bind fun t107 => (some t107)) else (unisonlaw21_RoundMeets.l0 k x0 x1 x2 x3 0 0 0 0)
def unisonlaw21_RoundMeets.l0 : Nat → Int → List Bool → List Bool → Bool → Int → Int → Int → Int → Option (Bool)
  | 0, _, _, _, _, _, _, _, _ => none
  | k + 1, x0, x1, x2, x3, x9, x10, x11, x12 => if x12 < x0 then (if 0 ≤ x12 then (if x12 < (x1.length : Int) then (if rdOf false x1 x12 = true then (unisonlaw21_RoundMeets.j2 k x0 x1 x2 x3 (wrap64 (x9 + 1)) x10 x11 x12) else (unisonlaw21_RoundMeets.j2 k x0 x1 x2 x3 x9 x10 x11 x12)) else (none)) else (none)) else ((round_Judge.f k x0 x10 x11 x3).bind fun t115 => ((round_Majority.f x0).bind fun t116 => (if x9 ≥ t116 then (unisonlaw21_RoundMeets.j4 k x0 x9 t115 (t115 == 2)) else (unisonlaw21_RoundMeets.j4 k x0 x9 t115 false))))
def unisonlaw21_RoundMeets.j2 : Nat → Int → List Bool → List Bool → Bool → Int → Int → Int → Int → Option (Bool)
  | 0, _, _, _, _, _, _, _, _ => none
  | k + 1, x0, x1, x2, x3, x9, x10, x11, x12 => if 0 ≤ x12 then (if x12 < (x2.length : Int) then (if rdOf false x2 x12 = true then (if x12 < (x1.length : Int) then (unisonlaw21_RoundMeets.j3 k x0 x1 x2 x3 x9 x10 x11 x12 (rdOf false x1 x12)) else (none)) else (unisonlaw21_RoundMeets.j3 k x0 x1 x2 x3 x9 x10 x11 x12 false)) else (none)) else (none)
def unisonlaw21_RoundMeets.j3 : Nat → Int → List Bool → List Bool → Bool → Int → Int → Int → Int → Bool → Option (Bool)
  | 0, _, _, _, _, _, _, _, _, _ => none
  | k + 1, x0, x1, x2, x3, x9, x10, x11, x12, x63 => if x63 = true then (if 0 ≤ x12 then (if x12 < (x2.length : Int) then (if rdOf false x2 x12 = true then (if x12 < (x1.length : Int) then (if rdOf false x1 x12 = true then (unisonlaw21_RoundMeets.l0 k x0 x1 x2 x3 x9 (wrap64 (x10 + 1)) x11 (wrap64 (x12 + 1))) else (unisonlaw21_RoundMeets.l0 k x0 x1 x2 x3 x9 (wrap64 (x10 + 1)) (wrap64 (x11 + 1)) (wrap64 (x12 + 1)))) else (none)) else (unisonlaw21_RoundMeets.l0 k x0 x1 x2 x3 x9 (wrap64 (x10 + 1)) x11 (wrap64 (x12 + 1)))) else (none)) else (none)) else (if 0 ≤ x12 then (if x12 < (x2.length : Int) then (if rdOf false x2 x12 = true then (if x12 < (x1.length : Int) then (if rdOf false x1 x12 = true then (unisonlaw21_RoundMeets.l0 k x0 x1 x2 x3 x9 x10 x11 (wrap64 (x12 + 1))) else (unisonlaw21_RoundMeets.l0 k x0 x1 x2 x3 x9 x10 (wrap64 (x11 + 1)) (wrap64 (x12 + 1)))) else (none)) else (unisonlaw21_RoundMeets.l0 k x0 x1 x2 x3 x9 x10 x11 (wrap64 (x12 + 1)))) else (none)) else (none))
def unisonlaw21_RoundMeets.j4 : Nat → Int → Int → Int → Bool → Option (Bool)
  | 0, _, _, _, _ => none
  | k + 1, x0, x9, x13, x91 => if x91 = true then (some false) else (if x13 = 4 then ((round_Majority.f x0).bind fun t117 => (if x9 ≥ t117 then ((unisonlaw21_awake.f k).bind fun t118 => (some t118)) else (some false))) else ((unisonlaw21_awake.f k).bind fun t119 => (some t119)))
end
def unisonlaw21_RoundMeets.f (k : Nat) (a0 : Int) (l1 : List Bool) (l2 : List Bool) (a3 : Bool) : Option (Bool) := if a0 < 1 then (unisonlaw21_RoundMeets.j0 k a0 l1 l2 a3 true) else (if a0 > 64 then (unisonlaw21_RoundMeets.j0 k a0 l1 l2 a3 true) else (if (l1.length : Int) < a0 then (unisonlaw21_RoundMeets.j0 k a0 l1 l2 a3 true) else (if (l1.length : Int) > 100 then (unisonlaw21_RoundMeets.j0 k a0 l1 l2 a3 true) else (if (l2.length : Int) < a0 then (unisonlaw21_RoundMeets.j0 k a0 l1 l2 a3 true) else (unisonlaw21_RoundMeets.j0 k a0 l1 l2 a3 (decide ((l2.length : Int) > 100)))))))
theorem unisonlaw21_RoundMeets.mono_l : ∀ k, (∀ y0 y1 y2 y3 y4, LeO (unisonlaw21_RoundMeets.j0 k y0 y1 y2 y3 y4) (unisonlaw21_RoundMeets.j0 (k + 1) y0 y1 y2 y3 y4)) ∧ (∀ y0 y1 y2 y3 y4 y5 y6 y7, LeO (unisonlaw21_RoundMeets.l0 k y0 y1 y2 y3 y4 y5 y6 y7) (unisonlaw21_RoundMeets.l0 (k + 1) y0 y1 y2 y3 y4 y5 y6 y7)) ∧ (∀ y0 y1 y2 y3 y4 y5 y6 y7, LeO (unisonlaw21_RoundMeets.j2 k y0 y1 y2 y3 y4 y5 y6 y7) (unisonlaw21_RoundMeets.j2 (k + 1) y0 y1 y2 y3 y4 y5 y6 y7)) ∧ (∀ y0 y1 y2 y3 y4 y5 y6 y7 y8, LeO (unisonlaw21_RoundMeets.j3 k y0 y1 y2 y3 y4 y5 y6 y7 y8) (unisonlaw21_RoundMeets.j3 (k + 1) y0 y1 y2 y3 y4 y5 y6 y7 y8)) ∧ (∀ y0 y1 y2 y3, LeO (unisonlaw21_RoundMeets.j4 k y0 y1 y2 y3) (unisonlaw21_RoundMeets.j4 (k + 1) y0 y1 y2 y3))
  | 0 => ⟨fun _ _ _ _ _ r h => by simp [unisonlaw21_RoundMeets.j0] at h, fun _ _ _ _ _ _ _ _ r h => by simp [unisonlaw21_RoundMeets.l0] at h, fun _ _ _ _ _ _ _ _ r h => by simp [unisonlaw21_RoundMeets.j2] at h, fun _ _ _ _ _ _ _ _ _ r h => by simp [unisonlaw21_RoundMeets.j3] at h, fun _ _ _ _ r h => by simp [unisonlaw21_RoundMeets.j4] at h⟩
  | k + 1 => by
    obtain ⟨ih0, ih1, ih2, ih3, ih4⟩ := unisonlaw21_RoundMeets.mono_l k
    refine ⟨?_, ?_, ?_, ?_, ?_⟩
    · intro y0 y1 y2 y3 y4
      unfold unisonlaw21_RoundMeets.j0
      repeat' first
      | (with_reducible exact ih0 _ _ _ _ _)
      | (with_reducible exact ih1 _ _ _ _ _ _ _ _)
      | (with_reducible exact ih2 _ _ _ _ _ _ _ _)
      | (with_reducible exact ih3 _ _ _ _ _ _ _ _ _)
      | (with_reducible exact ih4 _ _ _ _)
      | (with_reducible exact round_Judge.mono _ _ _ _ _)
      | (with_reducible exact unisonlaw21_awake.mono _)
      | (with_reducible exact LeO.refl _)
      | (with_reducible exact LeO.none _)
      | (with_reducible refine LeO.ite ?_ ?_)
      | (with_reducible refine LeO.bind ?_ (fun _ => ?_))
      | exact ih0 _ _ _ _ _
      | exact ih1 _ _ _ _ _ _ _ _
      | exact ih2 _ _ _ _ _ _ _ _
      | exact ih3 _ _ _ _ _ _ _ _ _
      | exact ih4 _ _ _ _
      | exact round_Judge.mono _ _ _ _ _
      | exact unisonlaw21_awake.mono _
      | exact LeO.none _
      | refine LeO.ite ?_ ?_
      | refine LeO.bind ?_ (fun _ => ?_)
    · intro y0 y1 y2 y3 y4 y5 y6 y7
      unfold unisonlaw21_RoundMeets.l0
      repeat' first
      | (with_reducible exact ih0 _ _ _ _ _)
      | (with_reducible exact ih1 _ _ _ _ _ _ _ _)
      | (with_reducible exact ih2 _ _ _ _ _ _ _ _)
      | (with_reducible exact ih3 _ _ _ _ _ _ _ _ _)
      | (with_reducible exact ih4 _ _ _ _)
      | (with_reducible exact round_Judge.mono _ _ _ _ _)
      | (with_reducible exact unisonlaw21_awake.mono _)
      | (with_reducible exact LeO.refl _)
      | (with_reducible exact LeO.none _)
      | (with_reducible refine LeO.ite ?_ ?_)
      | (with_reducible refine LeO.bind ?_ (fun _ => ?_))
      | exact ih0 _ _ _ _ _
      | exact ih1 _ _ _ _ _ _ _ _
      | exact ih2 _ _ _ _ _ _ _ _
      | exact ih3 _ _ _ _ _ _ _ _ _
      | exact ih4 _ _ _ _
      | exact round_Judge.mono _ _ _ _ _
      | exact unisonlaw21_awake.mono _
      | exact LeO.none _
      | refine LeO.ite ?_ ?_
      | refine LeO.bind ?_ (fun _ => ?_)
    · intro y0 y1 y2 y3 y4 y5 y6 y7
      unfold unisonlaw21_RoundMeets.j2
      repeat' first
      | (with_reducible exact ih0 _ _ _ _ _)
      | (with_reducible exact ih1 _ _ _ _ _ _ _ _)
      | (with_reducible exact ih2 _ _ _ _ _ _ _ _)
      | (with_reducible exact ih3 _ _ _ _ _ _ _ _ _)
      | (with_reducible exact ih4 _ _ _ _)
      | (with_reducible exact round_Judge.mono _ _ _ _ _)
      | (with_reducible exact unisonlaw21_awake.mono _)
      | (with_reducible exact LeO.refl _)
      | (with_reducible exact LeO.none _)
      | (with_reducible refine LeO.ite ?_ ?_)
      | (with_reducible refine LeO.bind ?_ (fun _ => ?_))
      | exact ih0 _ _ _ _ _
      | exact ih1 _ _ _ _ _ _ _ _
      | exact ih2 _ _ _ _ _ _ _ _
      | exact ih3 _ _ _ _ _ _ _ _ _
      | exact ih4 _ _ _ _
      | exact round_Judge.mono _ _ _ _ _
      | exact unisonlaw21_awake.mono _
      | exact LeO.none _
      | refine LeO.ite ?_ ?_
      | refine LeO.bind ?_ (fun _ => ?_)
    · intro y0 y1 y2 y3 y4 y5 y6 y7 y8
      unfold unisonlaw21_RoundMeets.j3
      repeat' first
      | (with_reducible exact ih0 _ _ _ _ _)
      | (with_reducible exact ih1 _ _ _ _ _ _ _ _)
      | (with_reducible exact ih2 _ _ _ _ _ _ _ _)
      | (with_reducible exact ih3 _ _ _ _ _ _ _ _ _)
      | (with_reducible exact ih4 _ _ _ _)
      | (with_reducible exact round_Judge.mono _ _ _ _ _)
      | (with_reducible exact unisonlaw21_awake.mono _)
      | (with_reducible exact LeO.refl _)
      | (with_reducible exact LeO.none _)
      | (with_reducible refine LeO.ite ?_ ?_)
      | (with_reducible refine LeO.bind ?_ (fun _ => ?_))
      | exact ih0 _ _ _ _ _
      | exact ih1 _ _ _ _ _ _ _ _
      | exact ih2 _ _ _ _ _ _ _ _
      | exact ih3 _ _ _ _ _ _ _ _ _
      | exact ih4 _ _ _ _
      | exact round_Judge.mono _ _ _ _ _
      | exact unisonlaw21_awake.mono _
      | exact LeO.none _
      | refine LeO.ite ?_ ?_
      | refine LeO.bind ?_ (fun _ => ?_)
    · intro y0 y1 y2 y3
      unfold unisonlaw21_RoundMeets.j4
      repeat' first
      | (with_reducible exact ih0 _ _ _ _ _)
      | (with_reducible exact ih1 _ _ _ _ _ _ _ _)
      | (with_reducible exact ih2 _ _ _ _ _ _ _ _)
      | (with_reducible exact ih3 _ _ _ _ _ _ _ _ _)
      | (with_reducible exact ih4 _ _ _ _)
      | (with_reducible exact round_Judge.mono _ _ _ _ _)
      | (with_reducible exact unisonlaw21_awake.mono _)
      | (with_reducible exact LeO.refl _)
      | (with_reducible exact LeO.none _)
      | (with_reducible refine LeO.ite ?_ ?_)
      | (with_reducible refine LeO.bind ?_ (fun _ => ?_))
      | exact ih0 _ _ _ _ _
      | exact ih1 _ _ _ _ _ _ _ _
      | exact ih2 _ _ _ _ _ _ _ _
      | exact ih3 _ _ _ _ _ _ _ _ _
      | exact ih4 _ _ _ _
      | exact round_Judge.mono _ _ _ _ _
      | exact unisonlaw21_awake.mono _
      | exact LeO.none _
      | refine LeO.ite ?_ ?_
      | refine LeO.bind ?_ (fun _ => ?_)
theorem unisonlaw21_RoundMeets.mono : ∀ a0 a1 a2 a3 k, LeO (unisonlaw21_RoundMeets.f k a0 a1 a2 a3) (unisonlaw21_RoundMeets.f (k + 1) a0 a1 a2 a3) := by
  intro a0 a1 a2 a3 k
  obtain ⟨ih0, ih1, ih2, ih3, ih4⟩ := unisonlaw21_RoundMeets.mono_l k
  unfold unisonlaw21_RoundMeets.f
  repeat' first
      | (with_reducible exact ih0 _ _ _ _ _)
      | (with_reducible exact ih1 _ _ _ _ _ _ _ _)
      | (with_reducible exact ih2 _ _ _ _ _ _ _ _)
      | (with_reducible exact ih3 _ _ _ _ _ _ _ _ _)
      | (with_reducible exact ih4 _ _ _ _)
      | (with_reducible exact round_Judge.mono _ _ _ _ _)
      | (with_reducible exact unisonlaw21_awake.mono _)
      | (with_reducible exact LeO.refl _)
      | (with_reducible exact LeO.none _)
      | (with_reducible refine LeO.ite ?_ ?_)
      | (with_reducible refine LeO.bind ?_ (fun _ => ?_))
      | exact ih0 _ _ _ _ _
      | exact ih1 _ _ _ _ _ _ _ _
      | exact ih2 _ _ _ _ _ _ _ _
      | exact ih3 _ _ _ _ _ _ _ _ _
      | exact ih4 _ _ _ _
      | exact round_Judge.mono _ _ _ _ _
      | exact unisonlaw21_awake.mono _
      | exact LeO.none _
      | refine LeO.ite ?_ ?_
      | refine LeO.bind ?_ (fun _ => ?_)
set_option maxHeartbeats 8000000 in
set_option maxRecDepth 100000 in
theorem unisonlaw21_RoundMeets.calls (k : Nat) (a0 : Int) (A1 : Option Addr) (c1 : Nat) (l1 : List Bool) (A2 : Option Addr) (c2 : Nat) (l2 : List Bool) (a3 : Bool) (r : Bool) (w : World) (hr1 : Kd.C Kd.bool w A1 l1.length l1) (hc1 : l1.length ≤ c1) (hr2 : Kd.C Kd.bool w A2 l2.length l2) (hc2 : l2.length ≤ c2) (h : unisonlaw21_RoundMeets.f k a0 l1 l2 a3 = some r) :
    Calls Try.prog 3 #[.int .i64 a0, .slice A1 l1.length c1, .slice A2 l2.length c2, .bool a3] w fun e w' => e = .returned (.bool r) ∧ Below w.heap.size w w' := by
  have HR1 := Aside0.mk hr1
  have HC1 := Aside0.mk hc1
  clear hr1 hc1
  have HR2 := Aside0.mk hr2
  have HC2 := Aside0.mk hc2
  clear hr2 hc2
  have HB := Aside0.mk (Below.refl w.heap.size w)
  have H : (if a0 < 1 then (unisonlaw21_RoundMeets.j0 k a0 l1 l2 a3 true) else (if a0 > 64 then (unisonlaw21_RoundMeets.j0 k a0 l1 l2 a3 true) else (if (l1.length : Int) < a0 then (unisonlaw21_RoundMeets.j0 k a0 l1 l2 a3 true) else (if (l1.length : Int) > 100 then (unisonlaw21_RoundMeets.j0 k a0 l1 l2 a3 true) else (if (l2.length : Int) < a0 then (unisonlaw21_RoundMeets.j0 k a0 l1 l2 a3 true) else (unisonlaw21_RoundMeets.j0 k a0 l1 l2 a3 (decide ((l2.length : Int) > 100)))))))) = some r := h
  clear h
  have HC5 := Aside0.mk H
  clear H
  go_enter Try.func3, Try.ntmps3
  go_upto_region 1 with (fail)
  go_cut [41] (fun v41 wc => ∃ (kq : Nat) (x41_4 : Bool), v41 = .bool x41_4 ∧ Aside0 (unisonlaw21_RoundMeets.j0 kq a0 l1 l2 a3 x41_4 = some r) ∧ Aside0 (kq ≤ k) ∧ Aside0 (Below w.heap.size w wc))
  case first =>
    have H := HC5.out
    clear HC5
    by_cases c6 : a0 < 1
    · rw [if_pos c6] at H
      have c6b0 : decide (a0 < 1) = true := decide_eq_true c6
      clear c6
      (first | rw [c6b0] | (simp only [i64_w, i32_w]; rw [c6b0]) | skip)
      have H' := Aside0.mk H
      clear H
      go_wp2
      go_meet
      case rel => exact ⟨_, (true), (by first | rfl | (simp; done) | (simp [*]; done)), H', ⟨by first | omega | exact Nat.le_refl _⟩, ⟨by repeat (first | (with_reducible first | exact HB.out | apply below_alloc | apply pw_below_drewN | apply below_drew1) | exact HB.out)⟩⟩
    · rw [if_neg c6] at H
      have c6b0 : decide (a0 < 1) = false := decide_eq_false c6
      clear c6
      (first | rw [c6b0] | (simp only [i64_w, i32_w]; rw [c6b0]) | skip)
      by_cases c7 : a0 > 64
      · rw [if_pos c7] at H
        have c7b0 : decide (64 < a0) = true := decide_eq_true c7
        clear c7
        have H' := Aside0.mk H
        clear H
        go_wp2
        go_meet
        case rel => exact ⟨_, (true), (by first | rfl | (simp; done) | (simp [*]; done)), H', ⟨by first | omega | exact Nat.le_refl _⟩, ⟨by repeat (first | (with_reducible first | exact HB.out | apply below_alloc | apply pw_below_drewN | apply below_drew1) | exact HB.out)⟩⟩
      · rw [if_neg c7] at H
        have c7b0 : decide (64 < a0) = false := decide_eq_false c7
        clear c7
        by_cases c8 : (l1.length : Int) < a0
        · rw [if_pos c8] at H
          have c8b0 : decide ((l1.length : Int) < a0) = true := decide_eq_true c8
          clear c8
          have H' := Aside0.mk H
          clear H
          go_wp2
          go_meet
          case rel => exact ⟨_, (true), (by first | rfl | (simp; done) | (simp [*]; done)), H', ⟨by first | omega | exact Nat.le_refl _⟩, ⟨by repeat (first | (with_reducible first | exact HB.out | apply below_alloc | apply pw_below_drewN | apply below_drew1) | exact HB.out)⟩⟩
        · rw [if_neg c8] at H
          have c8b0 : decide ((l1.length : Int) < a0) = false := decide_eq_false c8
          clear c8
          by_cases c9 : (l1.length : Int) > 100
          · rw [if_pos c9] at H
            have c9b0 : decide (100 < (l1.length : Int)) = true := decide_eq_true c9
            have c9b1 : decide (100 < l1.length) = true := decide_eq_true (by omega)
            clear c9
            have H' := Aside0.mk H
            clear H
            go_wp2
            go_meet
            case rel => exact ⟨_, (true), (by first | rfl | (simp; done) | (simp [*]; done)), H', ⟨by first | omega | exact Nat.le_refl _⟩, ⟨by repeat (first | (with_reducible first | exact HB.out | apply below_alloc | apply pw_below_drewN | apply below_drew1) | exact HB.out)⟩⟩
          · rw [if_neg c9] at H
            have c9b0 : decide (100 < (l1.length : Int)) = false := decide_eq_false c9
            have c9b1 : decide (100 < l1.length) = false := decide_eq_false (by omega)
            clear c9
            by_cases c10 : (l2.length : Int) < a0
            · rw [if_pos c10] at H
              have c10b0 : decide ((l2.length : Int) < a0) = true := decide_eq_true c10
              clear c10
              have H' := Aside0.mk H
              clear H
              go_wp2
              go_meet
              case rel => exact ⟨_, (true), (by first | rfl | (simp; done) | (simp [*]; done)), H', ⟨by first | omega | exact Nat.le_refl _⟩, ⟨by repeat (first | (with_reducible first | exact HB.out | apply below_alloc | apply pw_below_drewN | apply below_drew1) | exact HB.out)⟩⟩
            · rw [if_neg c10] at H
              have c10b0 : decide ((l2.length : Int) < a0) = false := decide_eq_false c10
              clear c10
              have H' := Aside0.mk H
              clear H
              go_wp2
              go_meet
              case rel => exact ⟨_, (decide ((l2.length : Int) > 100)), (by first | rfl | (simp; done) | (simp [*]; done)), H', ⟨by first | omega | exact Nat.le_refl _⟩, ⟨by repeat (first | (with_reducible first | exact HB.out | apply below_alloc | apply pw_below_drewN | apply below_drew1) | exact HB.out)⟩⟩
  case rest =>
    clear HC5
    try clear c1
    try clear c2
    try clear p2
    try clear c3
    try clear c6
    try clear c6b0
    try clear c7
    try clear c7b0
    try clear c8
    try clear c8b0
    try clear c9
    try clear c9b0
    try clear c9b1
    try clear c10
    try clear c10b0
    obtain ⟨kq, x41_4, rfl, HA, HJ4, HB⟩ := hcut
    cases kq with
    | zero => exact absurd HA.out (by simp [unisonlaw21_RoundMeets.j0])
    | succ kj4 =>
      have H := HA.out
      clear HA
      simp only [unisonlaw21_RoundMeets.j0] at H
      by_cases c11 : x41_4 = true
      · subst c11
        have H1 : ((unisonlaw21_awake.f kj4).bind fun t107 => (some t107)) = some r := by rw [if_pos rfl] at H; exact H
        clear H
        have H := H1
        clear H1
        replace H := Option.bind_eq_some_iff.mp H
        obtain ⟨t107, A120, H⟩ := H
        replace H : (some t107) = some r := H
        have A12 := Aside0.mk A120
        clear A120
        obtain rfl := Option.some.inj H
        go_wp2_with (first | ((with_reducible refine gate_callee (f := 8) rfl ?_); refine goesL_ (some 42) rfl rfl Try.func8 (by kernel_rfl) rfl #[] rfl (by (try simp only [List.map_toArray, List.map_cons, List.map_nil]); first | done | rfl | (simp only [List.length_drop, List.length_take]; rfl)) ?_; (with_reducible refine (unisonlaw21_awake.calls kj4  t107 _ A12.out).mono ?_); rintro e w13 ⟨rfl, hb⟩; refine ⟨_, rfl, ?_⟩; have n0_ := Aside0.mk (below_step (by repeat (first | (with_reducible first | exact HB.out | apply below_alloc | apply pw_below_drewN | apply below_drew1) | exact HB.out)) hb); clear HB; have HB := n0_; clear n0_; (try clear hb); (try clear hb2); (try clear hk); (try clear hi)))
        go_ret
        exact ⟨by first | rfl | (simp [errW_none, errW_some] <;> rfl) | (simp [*, errW_none, errW_some] <;> rfl), by repeat (first | (with_reducible first | exact HB.out | apply below_alloc | apply pw_below_drewN | apply below_drew1) | exact HB.out)⟩
      · replace c11 := Bool.eq_false_iff.mpr c11
        subst c11
        have H1 : (unisonlaw21_RoundMeets.l0 kj4 a0 l1 l2 a3 0 0 0 0) = some r := by rw [if_neg (show ¬ (false = true) by decide)] at H; exact H
        clear H
        have H := H1
        clear H1
        have H' := Aside0.mk H
        clear H
        go_wp2
        go_loopg [9, 10, 11, 12] kj4 (fun kq v9 v10 v11 v12 w' => ∃ (x9_2 : Int) (x10_2 : Int) (x11_2 : Int) (x12_2 : Int), v9 = .int .i64 x9_2 ∧ v10 = .int .i64 x10_2 ∧ v11 = .int .i64 x11_2 ∧ v12 = .int .i64 x12_2 ∧ Aside0 (unisonlaw21_RoundMeets.l0 kq a0 l1 l2 a3 x9_2 x10_2 x11_2 x12_2 = some r) ∧ Aside0 (kq ≤ kj4) ∧ Aside0 (Below w.heap.size w w'))
        case atStart => exact ⟨(0), (0), (0), (0), (by first | rfl | (simp; done) | (simp [*]; done)), (by first | rfl | (simp; done) | (simp [*]; done)), (by first | rfl | (simp; done) | (simp [*]; done)), (by first | rfl | (simp; done) | (simp [*]; done)), H', ⟨Nat.le_refl _⟩, ⟨by repeat (first | (with_reducible first | exact HB.out | apply below_alloc | apply pw_below_drewN | apply below_drew1) | exact HB.out)⟩⟩
        case round =>
          clear H'
          try clear c1
          try clear c2
          try clear p2
          try clear c3
          try clear c6
          try clear c6b0
          try clear c7
          try clear c7b0
          try clear c8
          try clear c8b0
          try clear c9
          try clear c9b0
          try clear c9b1
          try clear c10
          try clear c10b0
          try clear c11
          try clear p2
          obtain ⟨x9_2, x10_2, x11_2, x12_2, rfl, rfl, rfl, rfl, HA, HK2, HB⟩ := hrel
          cases gk with
          | zero => exact absurd HA.out (by simp [unisonlaw21_RoundMeets.l0])
          | succ k2 =>
            have H := HA.out
            clear HA
            simp only [unisonlaw21_RoundMeets.l0] at H
            by_cases c14 : x12_2 < a0
            · rw [if_pos c14] at H
              have c14b0 : decide (x12_2 < a0) = true := decide_eq_true c14
              clear c14
              by_cases c15 : 0 ≤ x12_2
              · rw [if_pos c15] at H
                have c15b0 : decide (0 ≤ x12_2) = true := decide_eq_true c15
                clear c15
                by_cases c16 : x12_2 < (l1.length : Int)
                · rw [if_pos c16] at H
                  have c16b0 : decide (x12_2 < (l1.length : Int)) = true := decide_eq_true c16
                  clear c16
                  have HC17 := Aside0.mk H
                  clear H
                  have p108 : 0 ≤ (x12_2 : Int) := of_decide_eq_true (by first | (with_reducible assumption) | assumption)
                  have q108 : x12_2 < (l1.length : Int) := of_decide_eq_true (by first | (with_reducible assumption) | assumption)
                  obtain ⟨ad108, e108, hx108_0⟩ := Kd.at_bool HR1.out x12_2 p108 q108
                  cases e108
                  replace hx108_0 := (HB.out.cell (World.block_lt_of_cell? w _ hx108_0)).trans hx108_0
                  replace p108 := eq_true p108
                  replace q108 := eq_true q108
                  go_upto_if 51 with (fail)
                  go_cut [9] (fun v9 wc => ∃ (kq : Nat) (x9_16 : Int), v9 = .int .i64 x9_16 ∧ Aside0 (unisonlaw21_RoundMeets.j2 kq a0 l1 l2 a3 x9_16 x10_2 x11_2 x12_2 = some r) ∧ Aside0 (kq ≤ k2) ∧ Aside0 (Below w.heap.size w wc))
                  case first =>
                    have H := HC17.out
                    clear HC17
                    obtain ⟨bq18, hbq18⟩ : ∃ b_ : Bool, b_ = (rdOf false l1 x12_2) := ⟨_, rfl⟩
                    replace H : (if bq18 = true then (unisonlaw21_RoundMeets.j2 k2 a0 l1 l2 a3 (wrap64 (x9_2 + 1)) x10_2 x11_2 x12_2) else (unisonlaw21_RoundMeets.j2 k2 a0 l1 l2 a3 x9_2 x10_2 x11_2 x12_2)) = some r := by rw [← hbq18] at H; exact H
                    have Nbq18 := Aside0.mk hbq18
                    clear hbq18
                    (try rw [← Nbq18.out])
                    by_cases c19 : bq18 = true
                    · subst c19
                      have H1 : (unisonlaw21_RoundMeets.j2 k2 a0 l1 l2 a3 (wrap64 (x9_2 + 1)) x10_2 x11_2 x12_2) = some r := by rw [if_pos rfl] at H; exact H
                      clear H
                      have H := H1
                      clear H1
                      have H' := Aside0.mk H
                      clear H
                      go_wp2
                      go_meet
                      case rel => exact ⟨_, (wrap64 (x9_2 + 1)), (by first | rfl | (simp; done) | (simp [*]; done)), H', ⟨by have := HJ4.out; have := HK2.out; first | omega | exact Nat.le_refl _⟩, ⟨by repeat (first | (with_reducible first | exact HB.out | apply below_alloc | apply pw_below_drewN | apply below_drew1) | exact HB.out)⟩⟩
                    · replace c19 := Bool.eq_false_iff.mpr c19
                      subst c19
                      have H1 : (unisonlaw21_RoundMeets.j2 k2 a0 l1 l2 a3 x9_2 x10_2 x11_2 x12_2) = some r := by rw [if_neg (show ¬ (false = true) by decide)] at H; exact H
                      clear H
                      have H := H1
                      clear H1
                      have H' := Aside0.mk H
                      clear H
                      go_wp2
                      go_meet
                      case rel => exact ⟨_, (x9_2), (by first | rfl | (simp; done) | (simp [*]; done)), H', ⟨by have := HJ4.out; have := HK2.out; first | omega | exact Nat.le_refl _⟩, ⟨by repeat (first | (with_reducible first | exact HB.out | apply below_alloc | apply pw_below_drewN | apply below_drew1) | exact HB.out)⟩⟩
                  case rest =>
                    clear HC17
                    try clear c1
                    try clear p1
                    try clear q1
                    try clear hx1
                    try clear c2
                    try clear p2
                    try clear c3
                    try clear c6
                    try clear c6b0
                    try clear p6
                    try clear c7
                    try clear c7b0
                    try clear c8
                    try clear c8b0
                    try clear c9
                    try clear c9b0
                    try clear c9b1
                    try clear c10
                    try clear c10b0
                    try clear p10
                    try clear q10
                    try clear hx10
                    try clear c11
                    try clear c14
                    try clear c14b0
                    try clear c15
                    try clear c15b0
                    try clear c16
                    try clear c16b0
                    try clear q18
                    try clear c19
                    try clear hx108_0
                    try clear p108
                    try clear p2
                    try clear q108
                    obtain ⟨kq, x9_16, rfl, HA, HJ16, HB⟩ := hcut
                    cases kq with
                    | zero => exact absurd HA.out (by simp [unisonlaw21_RoundMeets.j2])
                    | succ kj16 =>
                      have H := HA.out
                      clear HA
                      simp only [unisonlaw21_RoundMeets.j2] at H
                      have HC20 := Aside0.mk H
                      clear H
                      go_upto_region 9 with (fail)
                      go_cut [63] (fun v63 wc => ∃ (kq : Nat) (x63_19 : Bool), v63 = .bool x63_19 ∧ Aside0 (unisonlaw21_RoundMeets.j3 kq a0 l1 l2 a3 x9_16 x10_2 x11_2 x12_2 x63_19 = some r) ∧ Aside0 (kq ≤ kj16) ∧ Aside0 (Below w.heap.size w wc))
                      case first =>
                        have H := HC20.out
                        clear HC20
                        by_cases c21 : 0 ≤ x12_2
                        · rw [if_pos c21] at H
                          have c21b0 : decide (0 ≤ x12_2) = true := decide_eq_true c21
                          clear c21
                          (first | rw [c21b0] | (simp only [i64_w, i32_w]; rw [c21b0]) | skip)
                          by_cases c22 : x12_2 < (l2.length : Int)
                          · rw [if_pos c22] at H
                            have c22b0 : decide (x12_2 < (l2.length : Int)) = true := decide_eq_true c22
                            clear c22
                            obtain ⟨bq23, hbq23⟩ : ∃ b_ : Bool, b_ = (rdOf false l2 x12_2) := ⟨_, rfl⟩
                            replace H : (if bq23 = true then (if x12_2 < (l1.length : Int) then (unisonlaw21_RoundMeets.j3 kj16 a0 l1 l2 a3 x9_16 x10_2 x11_2 x12_2 (rdOf false l1 x12_2)) else (none)) else (unisonlaw21_RoundMeets.j3 kj16 a0 l1 l2 a3 x9_16 x10_2 x11_2 x12_2 false)) = some r := by rw [← hbq23] at H; exact H
                            have Nbq23 := Aside0.mk hbq23
                            clear hbq23
                            by_cases c24 : bq23 = true
                            · subst c24
                              have H1 : (if x12_2 < (l1.length : Int) then (unisonlaw21_RoundMeets.j3 kj16 a0 l1 l2 a3 x9_16 x10_2 x11_2 x12_2 (rdOf false l1 x12_2)) else (none)) = some r := by rw [if_pos rfl] at H; exact H
                              clear H
                              have H := H1
                              clear H1
                              by_cases c25 : x12_2 < (l1.length : Int)
                              · rw [if_pos c25] at H
                                have c25b0 : decide (x12_2 < (l1.length : Int)) = true := decide_eq_true c25
                                clear c25
                                have H' := Aside0.mk H
                                clear H
                                have p109 : 0 ≤ (x12_2 : Int) := of_decide_eq_true (by first | (with_reducible assumption) | assumption)
                                have q109 : x12_2 < (l2.length : Int) := of_decide_eq_true (by first | (with_reducible assumption) | assumption)
                                obtain ⟨ad109, e109, hx109_0⟩ := Kd.at_bool HR2.out x12_2 p109 q109
                                (try rw [← Nbq23.out] at hx109_0)
                                cases e109
                                replace hx109_0 := (HB.out.cell (World.block_lt_of_cell? w _ hx109_0)).trans hx109_0
                                replace p109 := eq_true p109
                                replace q109 := eq_true q109
                                have p110 : 0 ≤ (x12_2 : Int) := of_decide_eq_true (by first | (with_reducible assumption) | assumption)
                                have q110 : x12_2 < (l1.length : Int) := of_decide_eq_true (by first | (with_reducible assumption) | assumption)
                                obtain ⟨ad110, e110, hx110_0⟩ := Kd.at_bool HR1.out x12_2 p110 q110
                                (try rw [← Nbq23.out] at hx110_0)
                                obtain rfl : ad108 = ad110 := (by injection e110)
                                replace hx110_0 := (HB.out.cell (World.block_lt_of_cell? w _ hx110_0)).trans hx110_0
                                replace p110 := eq_true p110
                                replace q110 := eq_true q110
                                go_wp2
                                go_meet
                                case rel => exact ⟨_, (rdOf false l1 x12_2), (by first | rfl | (simp; done) | (simp [*]; done)), H', ⟨by have := HJ4.out; have := HK2.out; have := HJ16.out; first | omega | exact Nat.le_refl _⟩, ⟨by repeat (first | (with_reducible first | exact HB.out | apply below_alloc | apply pw_below_drewN | apply below_drew1) | exact HB.out)⟩⟩
                              · rw [if_neg c25] at H
                                exact absurd H (by simp)
                            · replace c24 := Bool.eq_false_iff.mpr c24
                              subst c24
                              have H1 : (unisonlaw21_RoundMeets.j3 kj16 a0 l1 l2 a3 x9_16 x10_2 x11_2 x12_2 false) = some r := by rw [if_neg (show ¬ (false = true) by decide)] at H; exact H
                              clear H
                              have H := H1
                              clear H1
                              have H' := Aside0.mk H
                              clear H
                              have p109 : 0 ≤ (x12_2 : Int) := of_decide_eq_true (by first | (with_reducible assumption) | assumption)
                              have q109 : x12_2 < (l2.length : Int) := of_decide_eq_true (by first | (with_reducible assumption) | assumption)
                              obtain ⟨ad109, e109, hx109_0⟩ := Kd.at_bool HR2.out x12_2 p109 q109
                              (try rw [← Nbq23.out] at hx109_0)
                              cases e109
                              replace hx109_0 := (HB.out.cell (World.block_lt_of_cell? w _ hx109_0)).trans hx109_0
                              replace p109 := eq_true p109
                              replace q109 := eq_true q109
                              go_wp2
                              go_meet
                              case rel => exact ⟨_, (false), (by first | rfl | (simp; done) | (simp [*]; done)), H', ⟨by have := HJ4.out; have := HK2.out; have := HJ16.out; first | omega | exact Nat.le_refl _⟩, ⟨by repeat (first | (with_reducible first | exact HB.out | apply below_alloc | apply pw_below_drewN | apply below_drew1) | exact HB.out)⟩⟩
                          · rw [if_neg c22] at H
                            exact absurd H (by simp)
                        · rw [if_neg c21] at H
                          exact absurd H (by simp)
                      case rest =>
                        clear HC20
                        try clear c1
                        try clear p1
                        try clear q1
                        try clear hx1
                        try clear c2
                        try clear p2
                        try clear q2
                        try clear c3
                        try clear c6
                        try clear c6b0
                        try clear p6
                        try clear c7
                        try clear c7b0
                        try clear c8
                        try clear c8b0
                        try clear c9
                        try clear c9b0
                        try clear c9b1
                        try clear c10
                        try clear c10b0
                        try clear p10
                        try clear q10
                        try clear hx10
                        try clear c11
                        try clear p11
                        try clear q11
                        try clear hx11
                        try clear c14
                        try clear c14b0
                        try clear c15
                        try clear c15b0
                        try clear c16
                        try clear c16b0
                        try clear q18
                        try clear c19
                        try clear c21
                        try clear c21b0
                        try clear c22
                        try clear c22b0
                        try clear q23
                        try clear c24
                        try clear c25
                        try clear c25b0
                        try clear hx108_0
                        try clear hx109_0
                        try clear hx110_0
                        try clear p1
                        try clear p10
                        try clear p108
                        try clear p109
                        try clear p110
                        try clear p2
                        try clear p6
                        try clear q1
                        try clear q10
                        try clear q108
                        try clear q109
                        try clear q110
                        try clear q18
                        obtain ⟨kq, x63_19, rfl, HA, HJ19, HB⟩ := hcut
                        cases kq with
                        | zero => exact absurd HA.out (by simp [unisonlaw21_RoundMeets.j3])
                        | succ kj19 =>
                          have H := HA.out
                          clear HA
                          simp only [unisonlaw21_RoundMeets.j3] at H
                          by_cases c26 : x63_19 = true
                          · subst c26
                            have H1 : (if 0 ≤ x12_2 then (if x12_2 < (l2.length : Int) then (if rdOf false l2 x12_2 = true then (if x12_2 < (l1.length : Int) then (if rdOf false l1 x12_2 = true then (unisonlaw21_RoundMeets.l0 kj19 a0 l1 l2 a3 x9_16 (wrap64 (x10_2 + 1)) x11_2 (wrap64 (x12_2 + 1))) else (unisonlaw21_RoundMeets.l0 kj19 a0 l1 l2 a3 x9_16 (wrap64 (x10_2 + 1)) (wrap64 (x11_2 + 1)) (wrap64 (x12_2 + 1)))) else (none)) else (unisonlaw21_RoundMeets.l0 kj19 a0 l1 l2 a3 x9_16 (wrap64 (x10_2 + 1)) x11_2 (wrap64 (x12_2 + 1)))) else (none)) else (none)) = some r := by rw [if_pos rfl] at H; exact H
                            clear H
                            have H := H1
                            clear H1
                            by_cases c27 : 0 ≤ x12_2
                            · rw [if_pos c27] at H
                              have c27b0 : decide (0 ≤ x12_2) = true := decide_eq_true c27
                              clear c27
                              by_cases c28 : x12_2 < (l2.length : Int)
                              · rw [if_pos c28] at H
                                have c28b0 : decide (x12_2 < (l2.length : Int)) = true := decide_eq_true c28
                                clear c28
                                obtain ⟨bq29, hbq29⟩ : ∃ b_ : Bool, b_ = (rdOf false l2 x12_2) := ⟨_, rfl⟩
                                replace H : (if bq29 = true then (if x12_2 < (l1.length : Int) then (if rdOf false l1 x12_2 = true then (unisonlaw21_RoundMeets.l0 kj19 a0 l1 l2 a3 x9_16 (wrap64 (x10_2 + 1)) x11_2 (wrap64 (x12_2 + 1))) else (unisonlaw21_RoundMeets.l0 kj19 a0 l1 l2 a3 x9_16 (wrap64 (x10_2 + 1)) (wrap64 (x11_2 + 1)) (wrap64 (x12_2 + 1)))) else (none)) else (unisonlaw21_RoundMeets.l0 kj19 a0 l1 l2 a3 x9_16 (wrap64 (x10_2 + 1)) x11_2 (wrap64 (x12_2 + 1)))) = some r := by rw [← hbq29] at H; exact H
                                have Nbq29 := Aside0.mk hbq29
                                clear hbq29
                                by_cases c30 : bq29 = true
                                · subst c30
                                  have H1 : (if x12_2 < (l1.length : Int) then (if rdOf false l1 x12_2 = true then (unisonlaw21_RoundMeets.l0 kj19 a0 l1 l2 a3 x9_16 (wrap64 (x10_2 + 1)) x11_2 (wrap64 (x12_2 + 1))) else (unisonlaw21_RoundMeets.l0 kj19 a0 l1 l2 a3 x9_16 (wrap64 (x10_2 + 1)) (wrap64 (x11_2 + 1)) (wrap64 (x12_2 + 1)))) else (none)) = some r := by rw [if_pos rfl] at H; exact H
                                  clear H
                                  have H := H1
                                  clear H1
                                  by_cases c31 : x12_2 < (l1.length : Int)
                                  · rw [if_pos c31] at H
                                    have c31b0 : decide (x12_2 < (l1.length : Int)) = true := decide_eq_true c31
                                    clear c31
                                    obtain ⟨bq32, hbq32⟩ : ∃ b_ : Bool, b_ = (rdOf false l1 x12_2) := ⟨_, rfl⟩
                                    replace H : (if bq32 = true then (unisonlaw21_RoundMeets.l0 kj19 a0 l1 l2 a3 x9_16 (wrap64 (x10_2 + 1)) x11_2 (wrap64 (x12_2 + 1))) else (unisonlaw21_RoundMeets.l0 kj19 a0 l1 l2 a3 x9_16 (wrap64 (x10_2 + 1)) (wrap64 (x11_2 + 1)) (wrap64 (x12_2 + 1)))) = some r := by rw [← hbq32] at H; exact H
                                    have Nbq32 := Aside0.mk hbq32
                                    clear hbq32
                                    by_cases c33 : bq32 = true
                                    · subst c33
                                      have H1 : (unisonlaw21_RoundMeets.l0 kj19 a0 l1 l2 a3 x9_16 (wrap64 (x10_2 + 1)) x11_2 (wrap64 (x12_2 + 1))) = some r := by rw [if_pos rfl] at H; exact H
                                      clear H
                                      have H := H1
                                      clear H1
                                      have H' := Aside0.mk H
                                      clear H
                                      have p111 : 0 ≤ (x12_2 : Int) := of_decide_eq_true (by first | (with_reducible assumption) | assumption)
                                      have q111 : x12_2 < (l2.length : Int) := of_decide_eq_true (by first | (with_reducible assumption) | assumption)
                                      obtain ⟨ad111, e111, hx111_0⟩ := Kd.at_bool HR2.out x12_2 p111 q111
                                      (try rw [← Nbq29.out] at hx111_0)
                                      (try rw [← Nbq32.out] at hx111_0)
                                      cases e111
                                      replace hx111_0 := (HB.out.cell (World.block_lt_of_cell? w _ hx111_0)).trans hx111_0
                                      replace p111 := eq_true p111
                                      replace q111 := eq_true q111
                                      have p112 : 0 ≤ (x12_2 : Int) := of_decide_eq_true (by first | (with_reducible assumption) | assumption)
                                      have q112 : x12_2 < (l1.length : Int) := of_decide_eq_true (by first | (with_reducible assumption) | assumption)
                                      obtain ⟨ad112, e112, hx112_0⟩ := Kd.at_bool HR1.out x12_2 p112 q112
                                      (try rw [← Nbq29.out] at hx112_0)
                                      (try rw [← Nbq32.out] at hx112_0)
                                      obtain rfl : ad108 = ad112 := (by injection e112)
                                      replace hx112_0 := (HB.out.cell (World.block_lt_of_cell? w _ hx112_0)).trans hx112_0
                                      replace p112 := eq_true p112
                                      replace q112 := eq_true q112
                                      go_wp2
                                      go_roundg kj19
                                      case measure => have := HJ4.out; have := HK2.out; have := HJ16.out; have := HJ19.out; omega
                                      case rel => exact ⟨(x9_16), (wrap64 (x10_2 + 1)), (x11_2), (wrap64 (x12_2 + 1)), (by first | rfl | (simp; done) | (simp [*]; done)), (by first | rfl | (simp; done) | (simp [*]; done)), (by first | rfl | (simp; done) | (simp [*]; done)), (by first | rfl | (simp; done) | (simp [*]; done)), H', ⟨by have := HJ4.out; have := HK2.out; have := HJ16.out; have := HJ19.out; omega⟩, ⟨by repeat (first | (with_reducible first | exact HB.out | apply below_alloc | apply pw_below_drewN | apply below_drew1) | exact HB.out)⟩⟩
                                    · replace c33 := Bool.eq_false_iff.mpr c33
                                      subst c33
                                      have H1 : (unisonlaw21_RoundMeets.l0 kj19 a0 l1 l2 a3 x9_16 (wrap64 (x10_2 + 1)) (wrap64 (x11_2 + 1)) (wrap64 (x12_2 + 1))) = some r := by rw [if_neg (show ¬ (false = true) by decide)] at H; exact H
                                      clear H
                                      have H := H1
                                      clear H1
                                      have H' := Aside0.mk H
                                      clear H
                                      have p111 : 0 ≤ (x12_2 : Int) := of_decide_eq_true (by first | (with_reducible assumption) | assumption)
                                      have q111 : x12_2 < (l2.length : Int) := of_decide_eq_true (by first | (with_reducible assumption) | assumption)
                                      obtain ⟨ad111, e111, hx111_0⟩ := Kd.at_bool HR2.out x12_2 p111 q111
                                      (try rw [← Nbq29.out] at hx111_0)
                                      (try rw [← Nbq32.out] at hx111_0)
                                      cases e111
                                      replace hx111_0 := (HB.out.cell (World.block_lt_of_cell? w _ hx111_0)).trans hx111_0
                                      replace p111 := eq_true p111
                                      replace q111 := eq_true q111
                                      have p112 : 0 ≤ (x12_2 : Int) := of_decide_eq_true (by first | (with_reducible assumption) | assumption)
                                      have q112 : x12_2 < (l1.length : Int) := of_decide_eq_true (by first | (with_reducible assumption) | assumption)
                                      obtain ⟨ad112, e112, hx112_0⟩ := Kd.at_bool HR1.out x12_2 p112 q112
                                      (try rw [← Nbq29.out] at hx112_0)
                                      (try rw [← Nbq32.out] at hx112_0)
                                      obtain rfl : ad108 = ad112 := (by injection e112)
                                      replace hx112_0 := (HB.out.cell (World.block_lt_of_cell? w _ hx112_0)).trans hx112_0
                                      replace p112 := eq_true p112
                                      replace q112 := eq_true q112
                                      go_wp2
                                      go_roundg kj19
                                      case measure => have := HJ4.out; have := HK2.out; have := HJ16.out; have := HJ19.out; omega
                                      case rel => exact ⟨(x9_16), (wrap64 (x10_2 + 1)), (wrap64 (x11_2 + 1)), (wrap64 (x12_2 + 1)), (by first | rfl | (simp; done) | (simp [*]; done)), (by first | rfl | (simp; done) | (simp [*]; done)), (by first | rfl | (simp; done) | (simp [*]; done)), (by first | rfl | (simp; done) | (simp [*]; done)), H', ⟨by have := HJ4.out; have := HK2.out; have := HJ16.out; have := HJ19.out; omega⟩, ⟨by repeat (first | (with_reducible first | exact HB.out | apply below_alloc | apply pw_below_drewN | apply below_drew1) | exact HB.out)⟩⟩
                                  · rw [if_neg c31] at H
                                    exact absurd H (by simp)
                                · replace c30 := Bool.eq_false_iff.mpr c30
                                  subst c30
                                  have H1 : (unisonlaw21_RoundMeets.l0 kj19 a0 l1 l2 a3 x9_16 (wrap64 (x10_2 + 1)) x11_2 (wrap64 (x12_2 + 1))) = some r := by rw [if_neg (show ¬ (false = true) by decide)] at H; exact H
                                  clear H
                                  have H := H1
                                  clear H1
                                  have H' := Aside0.mk H
                                  clear H
                                  have p111 : 0 ≤ (x12_2 : Int) := of_decide_eq_true (by first | (with_reducible assumption) | assumption)
                                  have q111 : x12_2 < (l2.length : Int) := of_decide_eq_true (by first | (with_reducible assumption) | assumption)
                                  obtain ⟨ad111, e111, hx111_0⟩ := Kd.at_bool HR2.out x12_2 p111 q111
                                  (try rw [← Nbq29.out] at hx111_0)
                                  cases e111
                                  replace hx111_0 := (HB.out.cell (World.block_lt_of_cell? w _ hx111_0)).trans hx111_0
                                  replace p111 := eq_true p111
                                  replace q111 := eq_true q111
                                  go_wp2
                                  go_roundg kj19
                                  case measure => have := HJ4.out; have := HK2.out; have := HJ16.out; have := HJ19.out; omega
                                  case rel => exact ⟨(x9_16), (wrap64 (x10_2 + 1)), (x11_2), (wrap64 (x12_2 + 1)), (by first | rfl | (simp; done) | (simp [*]; done)), (by first | rfl | (simp; done) | (simp [*]; done)), (by first | rfl | (simp; done) | (simp [*]; done)), (by first | rfl | (simp; done) | (simp [*]; done)), H', ⟨by have := HJ4.out; have := HK2.out; have := HJ16.out; have := HJ19.out; omega⟩, ⟨by repeat (first | (with_reducible first | exact HB.out | apply below_alloc | apply pw_below_drewN | apply below_drew1) | exact HB.out)⟩⟩
                              · rw [if_neg c28] at H
                                exact absurd H (by simp)
                            · rw [if_neg c27] at H
                              exact absurd H (by simp)
                          · replace c26 := Bool.eq_false_iff.mpr c26
                            subst c26
                            have H1 : (if 0 ≤ x12_2 then (if x12_2 < (l2.length : Int) then (if rdOf false l2 x12_2 = true then (if x12_2 < (l1.length : Int) then (if rdOf false l1 x12_2 = true then (unisonlaw21_RoundMeets.l0 kj19 a0 l1 l2 a3 x9_16 x10_2 x11_2 (wrap64 (x12_2 + 1))) else (unisonlaw21_RoundMeets.l0 kj19 a0 l1 l2 a3 x9_16 x10_2 (wrap64 (x11_2 + 1)) (wrap64 (x12_2 + 1)))) else (none)) else (unisonlaw21_RoundMeets.l0 kj19 a0 l1 l2 a3 x9_16 x10_2 x11_2 (wrap64 (x12_2 + 1)))) else (none)) else (none)) = some r := by rw [if_neg (show ¬ (false = true) by decide)] at H; exact H
                            clear H
                            have H := H1
                            clear H1
                            by_cases c34 : 0 ≤ x12_2
                            · rw [if_pos c34] at H
                              have c34b0 : decide (0 ≤ x12_2) = true := decide_eq_true c34
                              clear c34
                              by_cases c35 : x12_2 < (l2.length : Int)
                              · rw [if_pos c35] at H
                                have c35b0 : decide (x12_2 < (l2.length : Int)) = true := decide_eq_true c35
                                clear c35
                                obtain ⟨bq36, hbq36⟩ : ∃ b_ : Bool, b_ = (rdOf false l2 x12_2) := ⟨_, rfl⟩
                                replace H : (if bq36 = true then (if x12_2 < (l1.length : Int) then (if rdOf false l1 x12_2 = true then (unisonlaw21_RoundMeets.l0 kj19 a0 l1 l2 a3 x9_16 x10_2 x11_2 (wrap64 (x12_2 + 1))) else (unisonlaw21_RoundMeets.l0 kj19 a0 l1 l2 a3 x9_16 x10_2 (wrap64 (x11_2 + 1)) (wrap64 (x12_2 + 1)))) else (none)) else (unisonlaw21_RoundMeets.l0 kj19 a0 l1 l2 a3 x9_16 x10_2 x11_2 (wrap64 (x12_2 + 1)))) = some r := by rw [← hbq36] at H; exact H
                                have Nbq36 := Aside0.mk hbq36
                                clear hbq36
                                by_cases c37 : bq36 = true
                                · subst c37
                                  have H1 : (if x12_2 < (l1.length : Int) then (if rdOf false l1 x12_2 = true then (unisonlaw21_RoundMeets.l0 kj19 a0 l1 l2 a3 x9_16 x10_2 x11_2 (wrap64 (x12_2 + 1))) else (unisonlaw21_RoundMeets.l0 kj19 a0 l1 l2 a3 x9_16 x10_2 (wrap64 (x11_2 + 1)) (wrap64 (x12_2 + 1)))) else (none)) = some r := by rw [if_pos rfl] at H; exact H
                                  clear H
                                  have H := H1
                                  clear H1
                                  by_cases c38 : x12_2 < (l1.length : Int)
                                  · rw [if_pos c38] at H
                                    have c38b0 : decide (x12_2 < (l1.length : Int)) = true := decide_eq_true c38
                                    clear c38
                                    obtain ⟨bq39, hbq39⟩ : ∃ b_ : Bool, b_ = (rdOf false l1 x12_2) := ⟨_, rfl⟩
                                    replace H : (if bq39 = true then (unisonlaw21_RoundMeets.l0 kj19 a0 l1 l2 a3 x9_16 x10_2 x11_2 (wrap64 (x12_2 + 1))) else (unisonlaw21_RoundMeets.l0 kj19 a0 l1 l2 a3 x9_16 x10_2 (wrap64 (x11_2 + 1)) (wrap64 (x12_2 + 1)))) = some r := by rw [← hbq39] at H; exact H
                                    have Nbq39 := Aside0.mk hbq39
                                    clear hbq39
                                    by_cases c40 : bq39 = true
                                    · subst c40
                                      have H1 : (unisonlaw21_RoundMeets.l0 kj19 a0 l1 l2 a3 x9_16 x10_2 x11_2 (wrap64 (x12_2 + 1))) = some r := by rw [if_pos rfl] at H; exact H
                                      clear H
                                      have H := H1
                                      clear H1
                                      have H' := Aside0.mk H
                                      clear H
                                      have p113 : 0 ≤ (x12_2 : Int) := of_decide_eq_true (by first | (with_reducible assumption) | assumption)
                                      have q113 : x12_2 < (l2.length : Int) := of_decide_eq_true (by first | (with_reducible assumption) | assumption)
                                      obtain ⟨ad113, e113, hx113_0⟩ := Kd.at_bool HR2.out x12_2 p113 q113
                                      (try rw [← Nbq36.out] at hx113_0)
                                      (try rw [← Nbq39.out] at hx113_0)
                                      cases e113
                                      replace hx113_0 := (HB.out.cell (World.block_lt_of_cell? w _ hx113_0)).trans hx113_0
                                      replace p113 := eq_true p113
                                      replace q113 := eq_true q113
                                      have p114 : 0 ≤ (x12_2 : Int) := of_decide_eq_true (by first | (with_reducible assumption) | assumption)
                                      have q114 : x12_2 < (l1.length : Int) := of_decide_eq_true (by first | (with_reducible assumption) | assumption)
                                      obtain ⟨ad114, e114, hx114_0⟩ := Kd.at_bool HR1.out x12_2 p114 q114
                                      (try rw [← Nbq36.out] at hx114_0)
                                      (try rw [← Nbq39.out] at hx114_0)
                                      obtain rfl : ad108 = ad114 := (by injection e114)
                                      replace hx114_0 := (HB.out.cell (World.block_lt_of_cell? w _ hx114_0)).trans hx114_0
                                      replace p114 := eq_true p114
                                      replace q114 := eq_true q114
                                      go_wp2
                                      go_roundg kj19
                                      case measure => have := HJ4.out; have := HK2.out; have := HJ16.out; have := HJ19.out; omega
                                      case rel => exact ⟨(x9_16), (x10_2), (x11_2), (wrap64 (x12_2 + 1)), (by first | rfl | (simp; done) | (simp [*]; done)), (by first | rfl | (simp; done) | (simp [*]; done)), (by first | rfl | (simp; done) | (simp [*]; done)), (by first | rfl | (simp; done) | (simp [*]; done)), H', ⟨by have := HJ4.out; have := HK2.out; have := HJ16.out; have := HJ19.out; omega⟩, ⟨by repeat (first | (with_reducible first | exact HB.out | apply below_alloc | apply pw_below_drewN | apply below_drew1) | exact HB.out)⟩⟩
                                    · replace c40 := Bool.eq_false_iff.mpr c40
                                      subst c40
                                      have H1 : (unisonlaw21_RoundMeets.l0 kj19 a0 l1 l2 a3 x9_16 x10_2 (wrap64 (x11_2 + 1)) (wrap64 (x12_2 + 1))) = some r := by rw [if_neg (show ¬ (false = true) by decide)] at H; exact H
                                      clear H
                                      have H := H1
                                      clear H1
                                      have H' := Aside0.mk H
                                      clear H
                                      have p113 : 0 ≤ (x12_2 : Int) := of_decide_eq_true (by first | (with_reducible assumption) | assumption)
                                      have q113 : x12_2 < (l2.length : Int) := of_decide_eq_true (by first | (with_reducible assumption) | assumption)
                                      obtain ⟨ad113, e113, hx113_0⟩ := Kd.at_bool HR2.out x12_2 p113 q113
                                      (try rw [← Nbq36.out] at hx113_0)
                                      (try rw [← Nbq39.out] at hx113_0)
                                      cases e113
                                      replace hx113_0 := (HB.out.cell (World.block_lt_of_cell? w _ hx113_0)).trans hx113_0
                                      replace p113 := eq_true p113
                                      replace q113 := eq_true q113
                                      have p114 : 0 ≤ (x12_2 : Int) := of_decide_eq_true (by first | (with_reducible assumption) | assumption)
                                      have q114 : x12_2 < (l1.length : Int) := of_decide_eq_true (by first | (with_reducible assumption) | assumption)
                                      obtain ⟨ad114, e114, hx114_0⟩ := Kd.at_bool HR1.out x12_2 p114 q114
                                      (try rw [← Nbq36.out] at hx114_0)
                                      (try rw [← Nbq39.out] at hx114_0)
                                      obtain rfl : ad108 = ad114 := (by injection e114)
                                      replace hx114_0 := (HB.out.cell (World.block_lt_of_cell? w _ hx114_0)).trans hx114_0
                                      replace p114 := eq_true p114
                                      replace q114 := eq_true q114
                                      go_wp2
                                      go_roundg kj19
                                      case measure => have := HJ4.out; have := HK2.out; have := HJ16.out; have := HJ19.out; omega
                                      case rel => exact ⟨(x9_16), (x10_2), (wrap64 (x11_2 + 1)), (wrap64 (x12_2 + 1)), (by first | rfl | (simp; done) | (simp [*]; done)), (by first | rfl | (simp; done) | (simp [*]; done)), (by first | rfl | (simp; done) | (simp [*]; done)), (by first | rfl | (simp; done) | (simp [*]; done)), H', ⟨by have := HJ4.out; have := HK2.out; have := HJ16.out; have := HJ19.out; omega⟩, ⟨by repeat (first | (with_reducible first | exact HB.out | apply below_alloc | apply pw_below_drewN | apply below_drew1) | exact HB.out)⟩⟩
                                  · rw [if_neg c38] at H
                                    exact absurd H (by simp)
                                · replace c37 := Bool.eq_false_iff.mpr c37
                                  subst c37
                                  have H1 : (unisonlaw21_RoundMeets.l0 kj19 a0 l1 l2 a3 x9_16 x10_2 x11_2 (wrap64 (x12_2 + 1))) = some r := by rw [if_neg (show ¬ (false = true) by decide)] at H; exact H
                                  clear H
                                  have H := H1
                                  clear H1
                                  have H' := Aside0.mk H
                                  clear H
                                  have p113 : 0 ≤ (x12_2 : Int) := of_decide_eq_true (by first | (with_reducible assumption) | assumption)
                                  have q113 : x12_2 < (l2.length : Int) := of_decide_eq_true (by first | (with_reducible assumption) | assumption)
                                  obtain ⟨ad113, e113, hx113_0⟩ := Kd.at_bool HR2.out x12_2 p113 q113
                                  (try rw [← Nbq36.out] at hx113_0)
                                  cases e113
                                  replace hx113_0 := (HB.out.cell (World.block_lt_of_cell? w _ hx113_0)).trans hx113_0
                                  replace p113 := eq_true p113
                                  replace q113 := eq_true q113
                                  go_wp2
                                  go_roundg kj19
                                  case measure => have := HJ4.out; have := HK2.out; have := HJ16.out; have := HJ19.out; omega
                                  case rel => exact ⟨(x9_16), (x10_2), (x11_2), (wrap64 (x12_2 + 1)), (by first | rfl | (simp; done) | (simp [*]; done)), (by first | rfl | (simp; done) | (simp [*]; done)), (by first | rfl | (simp; done) | (simp [*]; done)), (by first | rfl | (simp; done) | (simp [*]; done)), H', ⟨by have := HJ4.out; have := HK2.out; have := HJ16.out; have := HJ19.out; omega⟩, ⟨by repeat (first | (with_reducible first | exact HB.out | apply below_alloc | apply pw_below_drewN | apply below_drew1) | exact HB.out)⟩⟩
                              · rw [if_neg c35] at H
                                exact absurd H (by simp)
                            · rw [if_neg c34] at H
                              exact absurd H (by simp)
                · rw [if_neg c16] at H
                  exact absurd H (by simp)
              · rw [if_neg c15] at H
                exact absurd H (by simp)
            · rw [if_neg c14] at H
              have c14b0 : decide (x12_2 < a0) = false := decide_eq_false c14
              clear c14
              replace H := Option.bind_eq_some_iff.mp H
              obtain ⟨t115, A410, H⟩ := H
              replace H : ((round_Majority.f a0).bind fun t116 => (if x9_2 ≥ t116 then (unisonlaw21_RoundMeets.j4 k2 a0 x9_2 t115 (t115 == 2)) else (unisonlaw21_RoundMeets.j4 k2 a0 x9_2 t115 false))) = some r := H
              have A41 := Aside0.mk A410
              clear A410
              have HC42 := Aside0.mk H
              clear H
              go_upto_region 14 with (first | ((with_reducible refine gate_callee (f := 9) rfl ?_); refine goesL_ (some 83) rfl rfl Try.func9 (by kernel_rfl) rfl #[.int .i64 a0, .int .i64 x10_2, .int .i64 x11_2, .bool a3] rfl (by (try simp only [List.map_toArray, List.map_cons, List.map_nil]); first | done | rfl | (simp only [List.length_drop, List.length_take]; rfl)) ?_; (with_reducible refine (round_Judge.calls k2 a0 x10_2 x11_2 a3 t115 _ A41.out).mono ?_); rintro e w43 ⟨rfl, hb⟩; refine ⟨_, rfl, ?_⟩; have n0_ := Aside0.mk (below_step (by repeat (first | (with_reducible first | exact HB.out | apply below_alloc | apply pw_below_drewN | apply below_drew1) | exact HB.out)) hb); clear HB; have HB := n0_; clear n0_; (try clear hb); (try clear hb2); (try clear hk); (try clear hi)))
              (try simp only [Act.put, List.setIfInBounds_toArray, List.set_cons_zero, List.set_cons_succ])
              go_cut [91] (fun v91 wc => ∃ (kq : Nat) (x91_41 : Bool), v91 = .bool x91_41 ∧ Aside0 (unisonlaw21_RoundMeets.j4 kq a0 x9_2 t115 x91_41 = some r) ∧ Aside0 (kq ≤ k2) ∧ Aside0 (Below w.heap.size w wc))
              case first =>
                have H := HC42.out
                clear HC42
                replace H := Option.bind_eq_some_iff.mp H
                obtain ⟨t116, A440, H⟩ := H
                replace H : (if x9_2 ≥ t116 then (unisonlaw21_RoundMeets.j4 k2 a0 x9_2 t115 (t115 == 2)) else (unisonlaw21_RoundMeets.j4 k2 a0 x9_2 t115 false)) = some r := H
                have A44 := Aside0.mk A440
                clear A440
                by_cases c45 : x9_2 ≥ t116
                · rw [if_pos c45] at H
                  have c45b0 : decide (t116 ≤ x9_2) = true := decide_eq_true c45
                  clear c45
                  (first | rw [c45b0] | (simp only [i64_w, i32_w]; rw [c45b0]) | skip)
                  have H' := Aside0.mk H
                  clear H
                  go_wp2_with (first | ((with_reducible refine gate_callee (f := 10) rfl ?_); refine goesL_ (some 86) rfl rfl Try.func10 (by kernel_rfl) rfl #[.int .i64 a0] rfl (by (try simp only [List.map_toArray, List.map_cons, List.map_nil]); first | done | rfl | (simp only [List.length_drop, List.length_take]; rfl)) ?_; (with_reducible refine (round_Majority.calls a0 t116 _ A44.out).mono ?_); rintro e w' ⟨rfl, ⟨nd, rfl⟩⟩; refine ⟨_, rfl, ?_⟩))
                  go_meet
                  case rel => exact ⟨_, ((t115 == 2)), (by first | rfl | (simp; done) | (simp [*]; done)), H', ⟨by have := HJ4.out; have := HK2.out; first | omega | exact Nat.le_refl _⟩, ⟨by repeat (first | (with_reducible first | exact HB.out | apply below_alloc | apply pw_below_drewN | apply below_drew1) | exact HB.out)⟩⟩
                · rw [if_neg c45] at H
                  have c45b0 : decide (t116 ≤ x9_2) = false := decide_eq_false c45
                  clear c45
                  (first | rw [c45b0] | (simp only [i64_w, i32_w]; rw [c45b0]) | skip)
                  have H' := Aside0.mk H
                  clear H
                  go_wp2_with (first | ((with_reducible refine gate_callee (f := 10) rfl ?_); refine goesL_ (some 86) rfl rfl Try.func10 (by kernel_rfl) rfl #[.int .i64 a0] rfl (by (try simp only [List.map_toArray, List.map_cons, List.map_nil]); first | done | rfl | (simp only [List.length_drop, List.length_take]; rfl)) ?_; (with_reducible refine (round_Majority.calls a0 t116 _ A44.out).mono ?_); rintro e w' ⟨rfl, ⟨nd, rfl⟩⟩; refine ⟨_, rfl, ?_⟩))
                  go_meet
                  case rel => exact ⟨_, (false), (by first | rfl | (simp; done) | (simp [*]; done)), H', ⟨by have := HJ4.out; have := HK2.out; first | omega | exact Nat.le_refl _⟩, ⟨by repeat (first | (with_reducible first | exact HB.out | apply below_alloc | apply pw_below_drewN | apply below_drew1) | exact HB.out)⟩⟩
              case rest =>
                clear HC42
                try clear c1
                try clear p1
                try clear q1
                try clear hx1
                try clear c2
                try clear p2
                try clear q2
                try clear c3
                try clear q3
                try clear c4
                try clear c6
                try clear c6b0
                try clear p6
                try clear c7
                try clear c7b0
                try clear c8
                try clear c8b0
                try clear c9
                try clear c9b0
                try clear c9b1
                try clear c10
                try clear c10b0
                try clear p10
                try clear q10
                try clear hx10
                try clear c11
                try clear p11
                try clear q11
                try clear hx11
                try clear c14
                try clear c14b0
                try clear c15
                try clear c15b0
                try clear c16
                try clear c16b0
                try clear q18
                try clear c19
                try clear c21
                try clear c21b0
                try clear c22
                try clear c22b0
                try clear q23
                try clear c24
                try clear c25
                try clear c25b0
                try clear c26
                try clear c27
                try clear c27b0
                try clear c28
                try clear c28b0
                try clear q29
                try clear c30
                try clear c31
                try clear c31b0
                try clear q32
                try clear c33
                try clear c34
                try clear c34b0
                try clear c35
                try clear c35b0
                try clear q36
                try clear c37
                try clear c38
                try clear c38b0
                try clear q39
                try clear c40
                try clear c45
                try clear c45b0
                try clear hx108_0
                try clear hx109_0
                try clear hx110_0
                try clear hx111_0
                try clear hx112_0
                try clear hx113_0
                try clear hx114_0
                try clear p1
                try clear p10
                try clear p108
                try clear p109
                try clear p11
                try clear p110
                try clear p111
                try clear p112
                try clear p113
                try clear p114
                try clear p2
                try clear p6
                try clear q1
                try clear q10
                try clear q108
                try clear q109
                try clear q11
                try clear q110
                try clear q111
                try clear q112
                try clear q113
                try clear q114
                try clear q18
                try clear q2
                try clear q23
                obtain ⟨kq, x91_41, rfl, HA, HJ41, HB⟩ := hcut
                cases kq with
                | zero => exact absurd HA.out (by simp [unisonlaw21_RoundMeets.j4])
                | succ kj41 =>
                  have H := HA.out
                  clear HA
                  simp only [unisonlaw21_RoundMeets.j4] at H
                  by_cases c46 : x91_41 = true
                  · subst c46
                    have H1 : (some false) = some r := by rw [if_pos rfl] at H; exact H
                    clear H
                    have H := H1
                    clear H1
                    obtain rfl := Option.some.inj H
                    go_wp2
                    go_ret
                    exact ⟨by first | rfl | (simp [errW_none, errW_some] <;> rfl) | (simp [*, errW_none, errW_some] <;> rfl), by repeat (first | (with_reducible first | exact HB.out | apply below_alloc | apply pw_below_drewN | apply below_drew1) | exact HB.out)⟩
                  · replace c46 := Bool.eq_false_iff.mpr c46
                    subst c46
                    have H1 : (if t115 = 4 then ((round_Majority.f a0).bind fun t117 => (if x9_2 ≥ t117 then ((unisonlaw21_awake.f kj41).bind fun t118 => (some t118)) else (some false))) else ((unisonlaw21_awake.f kj41).bind fun t119 => (some t119))) = some r := by rw [if_neg (show ¬ (false = true) by decide)] at H; exact H
                    clear H
                    have H := H1
                    clear H1
                    by_cases c47 : t115 = 4
                    · rw [if_pos c47] at H
                      have c47b0 : (t115 == 4) = true := beq_iff_eq.mpr c47
                      have c47b1 : (t115 != 4) = false := bne_eq_false_iff_eq.mpr c47
                      clear c47
                      replace H := Option.bind_eq_some_iff.mp H
                      obtain ⟨t117, A480, H⟩ := H
                      replace H : (if x9_2 ≥ t117 then ((unisonlaw21_awake.f kj41).bind fun t118 => (some t118)) else (some false)) = some r := H
                      have A48 := Aside0.mk A480
                      clear A480
                      by_cases c49 : x9_2 ≥ t117
                      · rw [if_pos c49] at H
                        have c49b0 : decide (t117 ≤ x9_2) = true := decide_eq_true c49
                        clear c49
                        replace H := Option.bind_eq_some_iff.mp H
                        obtain ⟨t118, A500, H⟩ := H
                        replace H : (some t118) = some r := H
                        have A50 := Aside0.mk A500
                        clear A500
                        obtain rfl := Option.some.inj H
                        go_wp2_with (first | (go_at_call 10; (with_reducible refine (round_Majority.calls a0 t117 _ A48.out).mono ?_); rintro e w' ⟨rfl, ⟨nd, rfl⟩⟩) | (go_at_call 8; (with_reducible refine (unisonlaw21_awake.calls kj41  t118 _ A50.out).mono ?_); rintro e w51 ⟨rfl, hb⟩; have n0_ := Aside0.mk (below_step (by repeat (first | (with_reducible first | exact HB.out | apply below_alloc | apply pw_below_drewN | apply below_drew1) | exact HB.out)) hb); clear HB; have HB := n0_; clear n0_; (try clear hb); (try clear hb2); (try clear hk); (try clear hi)))
                        go_ret
                        exact ⟨by first | rfl | (simp [errW_none, errW_some] <;> rfl) | (simp [*, errW_none, errW_some] <;> rfl), by repeat (first | (with_reducible first | exact HB.out | apply below_alloc | apply pw_below_drewN | apply below_drew1) | exact HB.out)⟩
                      · rw [if_neg c49] at H
                        have c49b0 : decide (t117 ≤ x9_2) = false := decide_eq_false c49
                        clear c49
                        obtain rfl := Option.some.inj H
                        go_wp2_with (first | (go_at_call 10; (with_reducible refine (round_Majority.calls a0 t117 _ A48.out).mono ?_); rintro e w' ⟨rfl, ⟨nd, rfl⟩⟩))
                        go_ret
                        exact ⟨by first | rfl | (simp [errW_none, errW_some] <;> rfl) | (simp [*, errW_none, errW_some] <;> rfl), by repeat (first | (with_reducible first | exact HB.out | apply below_alloc | apply pw_below_drewN | apply below_drew1) | exact HB.out)⟩
                    · rw [if_neg c47] at H
                      have c47b0 : (t115 == 4) = false := beq_eq_false_iff_ne.mpr c47
                      have c47b1 : (t115 != 4) = true := bne_iff_ne.mpr c47
                      replace H := Option.bind_eq_some_iff.mp H
                      obtain ⟨t119, A520, H⟩ := H
                      replace H : (some t119) = some r := H
                      have A52 := Aside0.mk A520
                      clear A520
                      obtain rfl := Option.some.inj H
                      go_wp2_with (first | (go_at_call 8; (with_reducible refine (unisonlaw21_awake.calls kj41  t119 _ A52.out).mono ?_); rintro e w53 ⟨rfl, hb⟩; have n0_ := Aside0.mk (below_step (by repeat (first | (with_reducible first | exact HB.out | apply below_alloc | apply pw_below_drewN | apply below_drew1) | exact HB.out)) hb); clear HB; have HB := n0_; clear n0_; (try clear hb); (try clear hb2); (try clear hk); (try clear hi)))
                      go_ret
                      exact ⟨by first | rfl | (simp [errW_none, errW_some] <;> rfl) | (simp [*, errW_none, errW_some] <;> rfl), by repeat (first | (with_reducible first | exact HB.out | apply below_alloc | apply pw_below_drewN | apply below_drew1) | exact HB.out)⟩

end Go.Proofs.Ytofodhfijihibaa.PRoundMeets
