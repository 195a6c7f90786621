/- The abstract machine: rows that are not there yet play no part in its runs. Plain lemmas. No condition. -/
import Derived.Test.YtjbgdpfkmcibbaaGreatDoorSimX
namespace Go.Proofs.YtjbgdpfkmcibbaaGreatDoor.Sim
set_option linter.unusedVariables false
section
variable {H : Nat → Prop} {T : Nat → AObj} {P : Program} {call : CallA} {s s' : Store} {ops : Array Oper} {nt : Nat}

theorem stepA_fr (hC : CallFr H T call) (h : Hid H s) {fr : Fr} {o : Oper} {v : AV} (e : stepA P call ops fr o s = some (v, s')) : Hid H s' ∧ stepA P call ops fr o (addT H T s) = some (v, addT H T s') := by
  have go : aop P call (evalA fr) o s pairK = some (v, s') → Hid H s' ∧ aop P call (evalA fr) o (addT H T s) pairK = some (v, addT H T s') := fun e => by
    obtain ⟨v1, s1, k1, k2, k3⟩ := aop_fr hC h e
    obtain ⟨rfl, rfl⟩ := Prod.mk.inj (Option.some.inj k1)
    exact ⟨k2, k3 _⟩
  unfold stepA at e ⊢
  cases hg : o.guard with
  | none => rw [hg] at e; exact go e
  | some jw =>
    obtain ⟨j, want⟩ := jw
    rw [hg] at e
    simp only at e ⊢
    cases ht : (ops[j]?).bind (·.dst) with
    | none => rw [ht] at e; cases e
    | some t =>
      rw [ht] at e
      simp only at e ⊢
      rcases guard_use e with ⟨h1, h2⟩ | ⟨h1, h2, h3⟩
      · obtain ⟨k1, k2⟩ := go h2
        exact ⟨k1, by rw [h1]; simp [aGuard, k2]⟩
      · obtain ⟨rfl, rfl⟩ := Prod.mk.inj h2
        exact ⟨h, h3 _ _⟩

theorem put_fr {α : Type} {r : α} {d : Option Tmp} {v : AV} {fr : Fr} {f : Fr → Option α} (e : aPut nt d v fr f = some r) : ∃ fr', f fr' = some r ∧ ∀ {γ : Type} (f' : Fr → Option γ), aPut nt d v fr f' = f' fr' := by
  unfold aPut at e
  split at e
  · exact ⟨fr, e, fun f' => rfl⟩
  · split at e
    · rename_i ht
      exact ⟨_, e, fun f' => by unfold aPut; simp only [if_pos ht]⟩
    · cases e

/-- What follows, too. -/
def KFr (H : Nat → Prop) (T : Nat → AObj) (κ : Fr → Store → Option (AV × Store)) : Prop := ∀ fr s v s', Hid H s → κ fr s = some (v, s') → Hid H s' ∧ κ fr (addT H T s) = some (v, addT H T s')

theorem execOps_fr (hC : CallFr H T call) {κ : Fr → Store → Option (AV × Store)} (hK : KFr H T κ) : ∀ l, KFr H T (execOps P call nt ops l κ)
  | [] => hK
  | o :: l => fun fr s v s' h e => by
    have ih := execOps_fr hC hK l
    unfold execOps at e ⊢
    cases hg : o.guard with
    | none =>
      rw [hg] at e
      simp only at e ⊢
      obtain ⟨v1, s1, k1, k2, k3⟩ := aop_fr hC h e
      obtain ⟨fr', g1, g2⟩ := put_fr k1
      obtain ⟨j1, j2⟩ := ih fr' s1 v s' k2 g1
      exact ⟨j1, by rw [k3, g2]; exact j2⟩
    | some jw =>
      obtain ⟨j, want⟩ := jw
      rw [hg] at e
      simp only at e ⊢
      cases ht : (ops[j]?).bind (·.dst) with
      | none => rw [ht] at e; cases e
      | some t =>
        rw [ht] at e
        simp only at e ⊢
        obtain ⟨q, hq, e⟩ := Option.bind_eq_some_iff.1 e
        have hq2 : Hid H q.2 ∧ aGuard (fr t) want (aop P call (evalA fr) o (addT H T s) fun v s' => some (v, s')) (some (.tuple [], addT H T s)) = some (q.1, addT H T q.2) := by
          rcases guard_use hq with ⟨h1, h2⟩ | ⟨h1, h2, h3⟩
          · obtain ⟨v1, s1, k1, k2, k3⟩ := aop_fr (T := T) hC h h2
            obtain rfl := Option.some.inj k1
            exact ⟨k2, by rw [h1]; simp [aGuard, k3]⟩
          · subst h2
            exact ⟨h, h3 _ _⟩
        obtain ⟨fr', g1, g2⟩ := put_fr e
        obtain ⟨j1, j2⟩ := ih fr' q.2 v s' hq2.1 g1
        refine ⟨j1, ?_⟩
        rw [hq2.2]
        simp only [Option.bind_some]
        rw [g2]; exact j2

theorem sames_mk {α : Type} : ∀ {L : List (Option (AV × Store) × AV)} {x : Option α}, (∀ p ∈ L, ∃ s', p.1 = some (p.2, s')) → sames L x = x
  | [], x, h => rfl
  | (c, v) :: L, x, h => by
    obtain ⟨s', e⟩ := h (c, v) List.mem_cons_self
    simp only at e
    simp only [sames, e, Option.bind_some, aSame_self]
    exact sames_mk fun p hp => h p (List.mem_cons_of_mem _ hp)

noncomputable def addH (H : Nat → Prop) (T : Nat → AObj) (L : List (Nat × Oper × Store)) : List (Nat × Oper × Store) := L.map fun h => (h.1, h.2.1, addT H T h.2.2)

theorem chk_fr (hC : CallFr H T call) {b : Array Nat} {j : Nat} {o : Oper} {q : AV × Store} {fr : Fr} {L : List (Nat × Oper × Store)} (hL : ∀ h ∈ L, Hid H h.2.2) (hq : Hid H q.2) (hs : ∀ p ∈ chk P call ops b j o q fr L, ∃ s', p.1 = some (p.2, s')) :
    ∀ p ∈ chk P call ops b j o (q.1, addT H T q.2) fr (addH H T L), ∃ s', p.1 = some (p.2, s') := by
  intro p hp
  unfold chk at hp hs
  split at hp
  · rename_i hr
    rw [if_pos hr] at hs
    obtain ⟨h', hm, e⟩ := List.mem_filterMap.1 hp
    obtain ⟨h0, hm0, rfl⟩ := List.mem_map.1 hm
    split at e
    · rename_i hc
      obtain rfl := Option.some.inj e
      obtain ⟨s1, e1⟩ := hs _ (List.mem_filterMap.2 ⟨h0, hm0, if_pos hc⟩)
      exact ⟨_, (stepA_fr hC (hL h0 hm0) e1).2⟩
    · cases e
  · rename_i hr
    rw [if_neg hr] at hs
    split at hp
    · rename_i hw
      rw [if_pos hw] at hs
      obtain ⟨h', hm, e⟩ := List.mem_filterMap.1 hp
      obtain ⟨h0, hm0, rfl⟩ := List.mem_map.1 hm
      split at e
      · rename_i hc
        simp only at e
        obtain ⟨d, hd, rfl⟩ := Option.map_eq_some_iff.1 e
        obtain ⟨s1, e1⟩ := hs _ (List.mem_filterMap.2 ⟨h0, hm0, (if_pos hc).trans (by rw [hd]; rfl)⟩)
        exact ⟨_, (stepA_fr hC hq e1).2⟩
      · cases e
    · cases hp

theorem execDraw_fr (hC : CallFr H T call) {b : Array Nat} {κ : Fr → Store → Option (AV × Store)} (hK : KFr H T κ) : ∀ (l : List (Nat × Oper)) (L : List (Nat × Oper × Store)) (fr : Fr) (s : Store) (v : AV) (s' : Store), (∀ h ∈ L, Hid H h.2.2) → Hid H s → execDraw P call nt ops b κ l L fr s = some (v, s') →
    Hid H s' ∧ execDraw P call nt ops b κ l (addH H T L) fr (addT H T s) = some (v, addT H T s')
  | [], L, fr, s, v, s', hL, h, e => hK fr s v s' h e
  | (j, o) :: l, L, fr, s, v, s', hL, h, e => by
    simp only [execDraw] at e ⊢
    obtain ⟨q, hq, e⟩ := Option.bind_eq_some_iff.1 e
    obtain ⟨hs, e⟩ := sames_use e
    obtain ⟨k1, k2⟩ := stepA_fr (T := T) hC h hq
    obtain ⟨fr', g1, g2⟩ := put_fr e
    obtain ⟨j1, j2⟩ := execDraw_fr hC hK l ((j, o, s) :: L) fr' q.2 v s' (fun h' hm => by
      rcases List.mem_cons.1 hm with rfl | hm
      · exact h
      · exact hL h' hm) k1 g1
    refine ⟨j1, ?_⟩
    rw [k2, Option.bind_some, sames_mk (chk_fr hC hL k1 hs), g2]
    exact j2

/-! ### the other kind of region -/
theorem Hid.mono (h : Hid H s) {n : Nat} {g : Nat → AObj} (hg : ∀ l, H l → g l = s.get l) (hn : ∀ l, H l → l < n) : Hid H ⟨n, g⟩ := fun l hl => ⟨(hg l hl).trans (h l hl).1, hn l hl⟩
theorem hideL_fr {L : List Nat} (hL : ∀ x ∈ L, ¬ H x) (s : Store) : hideL L (addT H T s) = addT H T (hideL L s) := by
  unfold hideL addT
  congr 1
  funext l
  by_cases e : l ∈ L
  · simp [e, hL l e]
  · simp [e]
theorem hideL_hid (L : List Nat) (h : Hid H s) : Hid H (hideL L s) := fun l hl => by
  refine ⟨?_, (h l hl).2⟩
  unfold hideL
  by_cases e : l ∈ L
  · simp [e]
  · simp [e, (h l hl).1]
theorem backL_fr {L : List Nat} (hL : ∀ x ∈ L, ¬ H x) (s s' : Store) : backL L (addT H T s) (addT H T s') = addT H T (backL L s s') := by
  unfold backL addT
  congr 1
  funext l
  by_cases e : l ∈ L
  · simp [e, hL l e]
  · simp [e]
theorem backL_hid {L : List Nat} (h : Hid H s) (h' : Hid H s') : Hid H (backL L s s') := fun l hl => by
  refine ⟨?_, (h' l hl).2⟩
  unfold backL
  by_cases e : l ∈ L
  · simp [e, (h l hl).1]
  · simp [e, (h' l hl).1]
theorem hideL_nil (s : Store) : hideL [] s = s := by unfold hideL; simp
theorem backL_nil (s s' : Store) : backL [] s s' = s' := by unfold backL; simp
theorem under_of {L : List Nat} {F : Store → Option (AV × Store)} {v : AV} (e : underL L s F = some (v, s')) : ∃ s1, F (hideL L s) = some (v, s1) ∧ s' = backL L s s1 := by
  cases L with
  | nil => exact ⟨s', by rw [hideL_nil]; exact e, by rw [backL_nil]⟩
  | cons x L =>
    obtain ⟨q, hq, e⟩ := Option.map_eq_some_iff.1 e
    obtain ⟨rfl, rfl⟩ := Prod.mk.inj e
    exact ⟨q.2, hq, rfl⟩
theorem under_to {L : List Nat} {F : Store → Option (AV × Store)} {v : AV} {s1 : Store} (e : F (hideL L s) = some (v, s1)) : underL L s F = some (v, backL L s s1) := by
  cases L with
  | nil => rw [backL_nil]; rw [hideL_nil] at e; exact e
  | cons x L => simp only [underL, e, Option.map_some]
theorem at_of {r : Nat} {F : Store → Option (AV × Store)} {v : AV} (e : atRow r s F = some (v, s')) : ∃ s1, F ⟨r, s.get⟩ = some (v, s1) ∧ s' = ⟨s.next, s1.get⟩ := by
  obtain ⟨q, hq, e⟩ := Option.map_eq_some_iff.1 e
  obtain ⟨rfl, rfl⟩ := Prod.mk.inj e
  exact ⟨q.2, hq, rfl⟩

theorem hid_ge {b : Array Nat} {n0 p q : Nat} : ∀ x ∈ hidOf ops b n0 p q, n0 ≤ x := by
  intro x hx
  obtain ⟨j, _, e⟩ := List.mem_filterMap.1 hx
  split at e
  · obtain rfl := Option.some.inj e; omega
  · cases e

theorem stepQ_fr (hC : CallFr H T call) {b : Array Nat} {n0 j : Nat} (hn : ∀ l, H l → l < n0) (h : Hid H s) {fr : Fr} {o : Oper} {v : AV} (e : stepQ P call ops b n0 fr j o s = some (v, s')) : Hid H s' ∧ stepQ P call ops b n0 fr j o (addT H T s) = some (v, addT H T s') := by
  have hno : ∀ p q, ∀ x ∈ hidOf ops b n0 p q, ¬ H x := fun p q x hx hh => by have := hid_ge x hx; have := hn x hh; omega
  unfold stepQ at e ⊢
  split at e
  · rename_i ha
    rw [if_pos ha]
    obtain ⟨s1, h1, rfl⟩ := at_of e
    obtain ⟨k1, k2⟩ := stepA_fr (T := T) hC (h.mono (n := n0 + j) (g := s.get) (fun _ _ => rfl) fun l hl => by have := hn l hl; omega) h1
    refine ⟨k1.mono (fun _ _ => rfl) fun l hl => (h l hl).2, ?_⟩
    unfold atRow
    have : (⟨n0 + j, (addT H T s).get⟩ : Store) = addT H T ⟨n0 + j, s.get⟩ := rfl
    rw [this, k2]
    rfl
  · rename_i ha
    rw [if_neg ha]
    obtain ⟨s1, h1, rfl⟩ := under_of e
    obtain ⟨k1, k2⟩ := stepA_fr (T := T) hC (hideL_hid _ h) h1
    refine ⟨backL_hid h k1, ?_⟩
    rw [← backL_fr (hno _ _)]
    exact under_to (by rw [hideL_fr (hno _ _)]; exact k2)

theorem chkQ_fr (hC : CallFr H T call) {b : Array Nat} {n0 j : Nat} (hn : ∀ l, H l → l < n0) {o : Oper} {q : AV × Store} {fr : Fr} {L : List (Nat × Oper × Store)} (hL : ∀ h ∈ L, Hid H h.2.2) (hq : Hid H q.2) (hs : ∀ p ∈ chkQ P call ops b n0 j o q fr L, ∃ s', p.1 = some (p.2, s')) :
    ∀ p ∈ chkQ P call ops b n0 j o (q.1, addT H T q.2) fr (addH H T L), ∃ s', p.1 = some (p.2, s') := by
  have hno : ∀ p q, ∀ x ∈ hidOf ops b n0 p q, ¬ H x := fun p q x hx hh => by have := hid_ge x hx; have := hn x hh; omega
  intro p hp
  unfold chkQ at hp hs
  split at hp
  · rename_i hr
    rw [if_pos hr] at hs
    obtain ⟨h', hm, e⟩ := List.mem_filterMap.1 hp
    obtain ⟨h0, hm0, rfl⟩ := List.mem_map.1 hm
    split at e
    · rename_i hc
      obtain rfl := Option.some.inj e
      obtain ⟨s1, e1⟩ := hs _ (List.mem_filterMap.2 ⟨h0, hm0, if_pos hc⟩)
      simp only at e1 ⊢
      rw [hideL_fr (hno _ _)]
      exact ⟨_, (stepA_fr hC (hideL_hid _ (hL h0 hm0)) e1).2⟩
    · cases e
  · rename_i hr
    rw [if_neg hr] at hs
    split at hp
    · rename_i hw
      rw [if_pos hw] at hs
      obtain ⟨h', hm, e⟩ := List.mem_filterMap.1 hp
      obtain ⟨h0, hm0, rfl⟩ := List.mem_map.1 hm
      split at e
      · rename_i hc
        simp only at e
        obtain ⟨d, hd, rfl⟩ := Option.map_eq_some_iff.1 e
        obtain ⟨s1, e1⟩ := hs _ (List.mem_filterMap.2 ⟨h0, hm0, (if_pos hc).trans (by rw [hd]; rfl)⟩)
        simp only at e1 ⊢
        rw [hideL_fr (hno _ _)]
        exact ⟨_, (stepA_fr hC (hideL_hid _ hq) e1).2⟩
      · cases e
    · cases hp

theorem execDrawQ_fr (hC : CallFr H T call) {b : Array Nat} {n0 : Nat} (hn : ∀ l, H l → l < n0) {κ : Fr → Store → Option (AV × Store)} (hK : KFr H T κ) : ∀ (l : List (Nat × Oper)) (L : List (Nat × Oper × Store)) (fr : Fr) (s : Store) (v : AV) (s' : Store), (∀ h ∈ L, Hid H h.2.2) → Hid H s → execDrawQ P call nt ops b n0 κ l L fr s = some (v, s') →
    Hid H s' ∧ execDrawQ P call nt ops b n0 κ l (addH H T L) fr (addT H T s) = some (v, addT H T s')
  | [], L, fr, s, v, s', hL, h, e => hK fr s v s' h e
  | (j, o) :: l, L, fr, s, v, s', hL, h, e => by
    simp only [execDrawQ] at e ⊢
    obtain ⟨q, hq, e⟩ := Option.bind_eq_some_iff.1 e
    obtain ⟨hs, e⟩ := sames_use e
    obtain ⟨k1, k2⟩ := stepQ_fr (T := T) hC hn h hq
    obtain ⟨fr', g1, g2⟩ := put_fr e
    obtain ⟨j1, j2⟩ := execDrawQ_fr hC hn hK l ((j, o, s) :: L) fr' q.2 v s' (fun h' hm => by
      rcases List.mem_cons.1 hm with rfl | hm
      · exact h
      · exact hL h' hm) k1 g1
    refine ⟨j1, ?_⟩
    rw [k2, Option.bind_some, sames_mk (chkQ_fr hC hn hL k1 hs), g2]
    exact j2

theorem reserve_fr (h : Hid H s) (n : Nat) : reserve n (addT H T s) = addT H T (reserve n s) ∧ Hid H (reserve n s) := by
  constructor
  · unfold reserve addT
    congr 1
    funext l
    by_cases e : H l
    · simp [e, (h l e).2]
    · simp [e]
  · intro l hl
    have := h l hl
    refine ⟨?_, Nat.lt_of_lt_of_le this.2 (Nat.le_add_right _ _)⟩
    unfold reserve
    simp [this.1]

theorem loopN_fr {b : (Fr → Store → Option (AV × Store)) → Fr → Store → Option (AV × Store)} (hb : ∀ κ, KFr H T κ → KFr H T (b κ)) : ∀ n, KFr H T (loopN b n)
  | 0 => fun fr s v s' h e => by cases e
  | n + 1 => hb _ (loopN_fr hb n)

theorem exec_fr (hC : CallFr H T call) {fuel : Nat} : ∀ (c : Code) (K : Ks (AV × Store)), KFr H T K.n → (∀ id, KFr H T (K.x id)) → KFr H T K.r → KFr H T (exec P call fuel nt c K) := by
  intro c
  induction c with
  | skip => intro K hn hx hr; exact hn
  | region id ops draw =>
    intro K hn hx hr
    cases draw
    · exact execOps_fr hC hn _
    · intro fr s v s' h e
      simp only [exec, forceL_eq, forceRows_eq, CheckFast.beforeF_eq] at e ⊢
      cases hok : drawOk P ops (ops.toList.map (rowOf P ops)) (Region.before ops).toList
      · rw [hok] at e
        simp only at e ⊢
        cases hok2 : drawOk P ops (ops.toList.map (rowOf2 P ops)) (Region.before ops).toList
        · rw [hok2] at e; cases e
        · rw [hok2] at e
          simp only at e ⊢
          obtain ⟨k1, k2⟩ := reserve_fr (T := T) h ops.size
          have := execDrawQ_fr hC (fun l hl => (h l hl).2) hn _ [] fr _ v s' (fun h hm => by cases hm) k2 e
          rw [← k1] at this
          exact this
      · rw [hok] at e
        exact execDraw_fr hC hn _ [] fr s v s' (fun h hm => by cases hm) h e
  | seq x y ihx ihy => intro K hn hx hr; exact ihx ⟨exec P call fuel nt y K, K.x, K.r⟩ (ihy K hn hx hr) hx hr
  | cond c x y ihx ihy =>
    intro K hn hx hr fr s v s' h e
    simp only [exec] at e ⊢
    unfold aIf at e ⊢
    split at e
    · split at e
      · rename_i hb
        simp only [if_pos hb]
        exact ihx K hn hx hr fr s v s' h e
      · rename_i hb
        simp only [if_neg hb]
        exact ihy K hn hx hr fr s v s' h e
    · cases e
  | block id b ih =>
    intro K hn hx hr
    refine ih ⟨K.n, fun j => if j = id then K.n else K.x j, K.r⟩ hn (fun j => ?_) hr
    by_cases e : j = id
    · simp only [if_pos e]; exact hn
    · simp only [if_neg e]; exact hx j
  | loop b ih => intro K hn hx hr; exact loopN_fr (fun κ hκ => ih ⟨κ, K.x, K.r⟩ hκ hx hr) fuel
  | exit id => intro K hn hx hr; exact hx id
  | ret => intro K hn hx hr; exact hr
  | _ => intro K hn hx hr fr s v s' h e; simp [exec] at e

theorem result_fr {α : Type} {r : α} {fr : Fr} {rv : ResultVar} {κ : AV → Option α} (h : Hid H s) (e : aResult P fr s rv κ = some r) : ∃ v, κ v = some r ∧ ∀ {γ : Type} (κ' : AV → Option γ), aResult P fr (addT H T s) rv κ' = κ' v := by
  cases rv with
  | tmp t => exact ⟨_, e, fun κ' => rfl⟩
  | cell a t =>
    simp only [aResult] at e ⊢
    split at e
    · exact loadN_fr h e
    · exact load1_fr h e
    · cases e
theorem results_fr {α : Type} {r : α} {fr : Fr} (h : Hid H s) : ∀ (rs : List ResultVar) {κ : List AV → Option α}, aResults P fr s rs κ = some r → ∃ vs, κ vs = some r ∧ ∀ {γ : Type} (κ' : List AV → Option γ), aResults P fr (addT H T s) rs κ' = κ' vs
  | [], κ, e => ⟨[], e, fun κ' => rfl⟩
  | rv :: rs, κ, e => by
    simp only [aResults] at e ⊢
    obtain ⟨v, e, h1⟩ := result_fr (T := T) h e
    obtain ⟨vs, e, h2⟩ := results_fr h rs e
    exact ⟨v :: vs, e, fun κ' => by rw [h1, h2]⟩
theorem ret_fr (rs : List ResultVar) : KFr H T (retK P rs) := fun fr s v s' h e => by
  unfold retK at e ⊢
  obtain ⟨vs, e, h2⟩ := results_fr (T := T) h rs e
  obtain ⟨rfl, rfl⟩ := Prod.mk.inj (Option.some.inj e)
  exact ⟨h, h2 _⟩
theorem top_fr (hC : CallFr H T call) {fuel : Nat} (c : Code) (rs : List ResultVar) : KFr H T (exec P call fuel nt c (topK P rs)) :=
  exec_fr hC c (topK P rs) (ret_fr rs) (fun id fr s v s' h e => by simp [topK] at e) (ret_fr rs)

theorem run_fr (P : Program) (H : Nat → Prop) (T : Nat → AObj) : ∀ k, CallFr H T (run P k)
  | 0 => fun f args s v s' h e => by simp [run] at e
  | k + 1 => fun f args s v s' h e => by
    have ih := run_fr P H T k
    unfold run at e ⊢
    cases hf : P.funcs[f]? with
    | none => rw [hf] at e; cases e
    | some fn =>
      rw [hf] at e
      simp only at e ⊢
      cases hc : fn.body with
      | none => rw [hc] at e; cases e
      | some c =>
        rw [hc] at e
        simp only at e ⊢
        split at e
        · cases e
        · rename_i hn
          rw [if_neg hn]
          split at e
          · rename_i hl
            rw [if_pos hl]
            exact top_fr ih c _ _ s v s' h e
          · cases e
end
end Go.Proofs.YtjbgdpfkmcibbaaGreatDoor.Sim
