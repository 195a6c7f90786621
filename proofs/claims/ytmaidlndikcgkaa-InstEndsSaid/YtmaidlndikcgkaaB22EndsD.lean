/- Layer 22: all end: time by time; plain. No condition. -/
import Derived.Test.YtmaidlndikcgkaaB22EndsC
namespace Go.Proofs.Ytmaidlndikcgkaa.Sim
set_option linter.unusedSimpArgs false
set_option linter.unusedVariables false

/-- Behind a step of each. -/
def stepA' (mine : Nat → List Rn) (held : List Int) (L : Nat → XI) : Nat → XI := fun p => (stepX (L p) held (mine p) []).1
/-- Behind a time: each one steps, and what goes out comes to all. -/
def timeA (n : Nat) (mine : Nat → List Rn) (held : List Int) (L : Nat → XI) : Nat → XI := fun p => dl (stepA' mine held L p) (outs n (stepA' mine held L))
/-- What holds along the times. -/
structure Lv (n : Nat) (mine : Nat → List Rn) (held : List Int) (b R0 : Int) (L : Nat → XI) : Prop where
  ex : ∃ V E, KK n mine b V E ∧ (∀ p, p < n → PLoc n V E p (L p)) ∧ Frr n R0 V E
  bm : ∀ p, p < n → Bm n (L p)
  hh : ∀ e, Mn n mine e → heldB held e = true
  may : ∀ q, q < n → mine q ≠ [] → mayR (List.replicate n 0) 100 (mine q) = true
variable {n : Nat} {mine : Nat → List Rn} {held : List Int} {b R0 R : Int} {L : Nat → XI}
def Alld (n : Nat) (L : Nat → XI) : Prop := ∀ p, p < n → (L p).decided ≠ []
/-- Nobody decided, and all know what all sent last. -/
structure Kn (n : Nat) (L : Nat → XI) : Prop where
  und : ∀ p, p < n → (L p).decided = []
  s1 : ∀ p a, p < n → a < n → a ≠ p → ∃ f, frAt (L p) a 0 = some f ∧ f.round = (L a).round
  s2 : ∀ p a, p < n → a < n → a ≠ p → (L a).cast = true → ∃ f, frAt (L p) a 1 = some f ∧ f.round = (L a).round
theorem time_live (h : Lv n mine held b R0 L) (hb : b + n < 18446744073709551616) : Lv n mine held (b + n) R0 (timeA n mine held L) ∧ (Alld n (timeA n mine held L) ∨ ((∀ p, p < n → (stepA' mine held L p).decided = []) ∧ Kn n (timeA n mine held L))) ∧ (∀ p, Rcv (stepA' mine held L p) (timeA n mine held L p)) := by
  obtain ⟨V, E, k, loc, fr⟩ := h.ex
  obtain ⟨V1, E1, k1, l1, f1, _, _⟩ := steps_live (held := held) k loc fr hb h.hh n (Nat.le_refl _)
  have l1' : ∀ p, p < n → PLoc n V1 E1 p (stepA' mine held L p) := fun p hp => by
    have := l1 p hp
    rw [if_pos hp] at this
    exact this
  have bm1 : ∀ p, p < n → Bm n (stepA' mine held L p) := fun p hp => (h.bm p hp).same (step_same _ _ _ _).1
  obtain ⟨d1, d2, d3⟩ := deliver k1 l1' bm1 h.may (timeA n mine held L) fun p => rfl
  refine ⟨⟨⟨V1, E1, k1, d1, f1⟩, fun p hp => (bm1 p hp).same (d2 p).s, h.hh, h.may⟩, ?_, d2⟩
  rcases d3 with d3 | ⟨e1, e2, e3, e4⟩
  · exact .inl d3
  · exact .inr ⟨e1, e2, e3, e4⟩
theorem step_dec {m : XI} {mi : List Rn} {sus : List Int} (h : m.decided ≠ []) : (stepX m held mi sus).1 = m := by
  unfold stepX
  rw [if_pos h]
theorem time_dec (h : Alld n L) (hr : ∀ p, Rcv (stepA' mine held L p) (timeA n mine held L p)) : Alld n (timeA n mine held L) := fun p hp => by
  have h1 := h p hp
  have h2 : stepA' mine held L p = L p := step_dec h1
  have h3 := (hr p).dec
  rw [h2] at h3
  rw [h3 h1]
  exact h1
theorem time_est {p : Nat} (h : (L p).est ≠ []) (hr : ∀ p, Rcv (stepA' mine held L p) (timeA n mine held L p)) : (timeA n mine held L p).est ≠ [] := by
  rw [(hr p).est]
  exact (step_same _ _ _ _).2 h
/-- How far a round is. -/
def phs (n : Nat) (L : Nat → XI) (R : Int) : Nat := if ∀ p, p < n → (L p).round = R then (if ∀ p, p < n → (L p).cast = true then 0 else 1) else 2
theorem phs_le (n : Nat) (L : Nat → XI) (R : Int) : phs n L R ≤ 2 := by
  unfold phs
  split
  · split <;> omega
  · omega
/-- A time in which nobody decides: a round more, or the round is further. -/
theorem time_next (h : Lv n mine held b R0 L) (hb : b + n < 18446744073709551616) (kn : Kn n L) (t : Top n L R) (hn : 0 < n) : Alld n (timeA n mine held L) ∨ (Kn n (timeA n mine held L) ∧ ((Top n (timeA n mine held L) (R + 1) ∧ ¬ (R0 < R ∧ (L (coordN n 1 R)).est ≠ [])) ∨ (Top n (timeA n mine held L) R ∧ phs n (timeA n mine held L) R < phs n L R))) := by
  obtain ⟨h1, h2, h3⟩ := time_live h hb
  rcases h2 with h2 | ⟨h2, h2'⟩
  · exact .inl h2
  refine .inr ⟨h2', ?_⟩
  obtain ⟨V, E, k, loc, fr⟩ := h.ex
  have sy : Sy n mine held b R0 V E L := ⟨k, loc, fr, kn.und, kn.s1, kn.s2, h.hh, by omega⟩
  have hR : ∀ p, p < n → (timeA n mine held L p).round = R ∨ (timeA n mine held L p).round = R + 1 := fun p hp => by
    rw [(h3 p).round]
    rcases (step_top sy t hp).top with z | z
    · exact absurd (h2 p hp) z
    · exact z.2
  by_cases hex : ∃ p, p < n ∧ (timeA n mine held L p).round = R + 1
  · refine .inl ⟨⟨fun p hp => by rcases hR p hp with z | z <;> omega, hex⟩, fun ⟨q1, q2⟩ => ?_⟩
    obtain ⟨p, hp, hpr⟩ := hex
    rw [(h3 p).round] at hpr
    rcases step_stay sy t q1 q2 hp with z | z
    · exact z (h2 p hp)
    · have : (stepA' mine held L p).round = R := z
      omega
  · have hall : ∀ p, p < n → (timeA n mine held L p).round = R := fun p hp => by
      rcases hR p hp with z | z
      · exact z
      · exact absurd ⟨p, hp, z⟩ hex
    refine .inr ⟨⟨fun p hp => by rw [hall p hp]; omega, ⟨0, hn, hall 0 hn⟩⟩, ?_⟩
    have e1 : phs n (timeA n mine held L) R = if ∀ p, p < n → (timeA n mine held L p).cast = true then 0 else 1 := by
      unfold phs
      rw [if_pos hall]
    by_cases q : ∀ p, p < n → (L p).round = R
    · have hcl := coordN_lt (n := n) hn 1 R
      have hcast : ∀ p, p < n → (timeA n mine held L p).cast = true := fun p hp => by
        rw [(h3 p).cast]
        have := hall p hp
        rw [(h3 p).round] at this
        exact (step_top sy t hp).cast (q _ hcl) (h2 p hp) this
      rw [e1, if_pos hcast]
      unfold phs
      rw [if_pos q]
      by_cases q2 : ∀ p, p < n → (L p).cast = true
      · exfalso
        have h4 := (step_top sy t hn).full (fun a ha => ⟨q a ha, q2 a ha⟩) (h2 0 hn)
        have h5 := hall 0 hn
        rw [(h3 0).round] at h5
        have h5 : (stepX (L 0) held (mine 0) []).1.round = R := h5
        omega
      · rw [if_neg q2]
        omega
    · have e2 : phs n L R = 2 := by unfold phs; rw [if_neg q]
      rw [e1, e2]
      split <;> omega
def times (n : Nat) (mine : Nat → List Rn) (held : List Int) : Nat → (Nat → XI) → Nat → XI
  | 0, L => L
  | k + 1, L => times n mine held k (timeA n mine held L)
theorem times_dec : ∀ (k : Nat) {b : Int} {L : Nat → XI}, Lv n mine held b R0 L → b + k * n < 18446744073709551616 → Alld n L → Alld n (times n mine held k L)
  | 0, b, L, h, hb, a => a
  | k + 1, b, L, h, hb, a => by
    have e1 : (((k + 1) * n : Nat) : Int) = ((k * n : Nat) : Int) + n := by rw [Nat.succ_mul]; omega
    have hb' : b + ((k * n : Nat) : Int) + n < 18446744073709551616 := by
      have : ((k + 1 : Nat) : Int) * n = (((k + 1) * n : Nat) : Int) := by simp
      have h0 := hb
      rw [this, e1] at h0
      omega
    obtain ⟨h1, _, h3⟩ := time_live h (by omega)
    exact times_dec k h1 (by have : ((k : Nat) : Int) * n = ((k * n : Nat) : Int) := by simp
                             rw [this]; omega) (time_dec a h3)
theorem times_end {T : Int} {q : Nat} (hT : R0 < T) (hq : coordN n 1 T = q) (hqn : q < n) : ∀ (k : Nat) {b R : Int} {L : Nat → XI}, Lv n mine held b R0 L → b + k * n < 18446744073709551616 → Kn n L → Top n L R → R ≤ T → (L q).est ≠ [] → 3 * (T - R) + phs n L R < k → Alld n (times n mine held k L)
  | 0, b, R, L, _, _, _, _, _, _, hk => by omega
  | k + 1, b, R, L, h, hb, kn, t, hRT, he, hk => by
    have e1 : (((k + 1) * n : Nat) : Int) = ((k * n : Nat) : Int) + n := by rw [Nat.succ_mul]; omega
    have hb' : b + ((k * n : Nat) : Int) + n < 18446744073709551616 := by
      have : ((k + 1 : Nat) : Int) * n = (((k + 1) * n : Nat) : Int) := by simp
      have h0 := hb
      rw [this, e1] at h0
      omega
    have hb2 : b + n + ((k : Nat) : Int) * n < 18446744073709551616 := by
      have : ((k : Nat) : Int) * n = ((k * n : Nat) : Int) := by simp
      rw [this]; omega
    obtain ⟨h1, _, h3⟩ := time_live h (by omega)
    have he2 := time_est he h3
    show Alld n (times n mine held k (timeA n mine held L))
    rcases time_next h (by omega) kn t (by omega) with z | ⟨kn2, z⟩
    · exact times_dec k h1 hb2 z
    · rcases z with ⟨t2, z⟩ | ⟨t2, z⟩
      · have hne : R ≠ T := fun y => z ⟨by omega, by rw [y, hq]; exact he⟩
        have := phs_le n (timeA n mine held L) (R + 1)
        exact times_end hT hq hqn k h1 hb2 kn2 t2 (by omega) he2 (by omega)
      · exact times_end hT hq hqn k h1 hb2 kn2 t2 hRT he2 (by omega)
/-- Of any n rounds behind one another one is coordinated by q. -/
theorem coord_ex {q : Nat} (hq : q < n) (r : Int) (hr : 0 ≤ r) (hb : r + n < 4611686018427387904) : ∃ T, r < T ∧ T ≤ r + n ∧ coordN n 1 T = q := by
  have hn : (n : Int) ≠ 0 := by omega
  have h1 := Int.emod_nonneg ((q : Int) - (r + 2)) hn
  have h2 := Int.emod_lt_of_pos ((q : Int) - (r + 2)) (b := (n : Int)) (by omega)
  refine ⟨r + 1 + ((q : Int) - (r + 2)) % n, by omega, by omega, ?_⟩
  unfold coordN
  rw [Int.min_eq_left (by omega), Int.min_eq_left (by omega), show (1 : Int) + (r + 1 + ((q : Int) - (r + 2)) % n) = r + 2 + ((q : Int) - (r + 2)) % n by omega, Int.add_emod_emod, show r + 2 + ((q : Int) - (r + 2)) = (q : Int) by omega, Int.emod_eq_of_lt (by omega) (by omega), Int.toNat_natCast]
end Go.Proofs.Ytmaidlndikcgkaa.Sim
