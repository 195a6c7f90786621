/- The abstract machine: rows that are not there yet play no part in what it does. Plain lemmas. No condition. -/
import Derived.Test.YtjbgdpfkmcibbaaGreatDoorSimO
namespace Go.Proofs.YtjbgdpfkmcibbaaGreatDoor.Sim
set_option linter.unusedVariables false
section
variable {H : Nat → Prop} {T : Nat → AObj} {P : Program} {call : CallA} {α : Type} {r : α} {s s' : Store}

theorem addT_next : (addT H T s).next = s.next := rfl
theorem addT_get {l : Nat} (h : ¬ H l) : (addT H T s).get l = s.get l := by simp [addT, h]
theorem addT_hid {l : Nat} (h : H l) : (addT H T s).get l = T l := by simp [addT, h]
theorem addT_set {l : Nat} (h : ¬ H l) (o : AObj) : (addT H T s).set l o = addT H T (s.set l o) := by
  simp only [addT, Store.set]
  congr 1
  funext j
  by_cases e : j = l
  · subst e; simp [h]
  · simp [e]
theorem addT_push (h : Hid H s) (o : AObj) : (addT H T s).push o = addT H T (s.push o) := by
  simp only [addT, Store.push]
  congr 1
  funext j
  by_cases e : j = s.next
  · subst e
    have : ¬ H s.next := fun q => by have := (h _ q).2; omega
    simp [this]
  · simp [e]
theorem Hid.set (h : Hid H s) {l : Nat} (hl : ¬ H l) (o : AObj) : Hid H (s.set l o) := fun j hj => by
  have hne : j ≠ l := fun e => hl (e ▸ hj)
  exact ⟨by simp only [Store.set, if_neg hne]; exact (h j hj).1, (h j hj).2⟩
theorem Hid.push (h : Hid H s) (o : AObj) : Hid H (s.push o) := fun j hj => by
  have := h j hj
  exact ⟨by simp only [Store.push]; rw [if_neg (by omega)]; exact this.1, Nat.lt_succ_of_lt this.2⟩
theorem Hid.not (h : Hid H s) {l : Nat} {o : AObj} (hg : s.get l = o) (ho : o ≠ .none) : ¬ H l := fun q => ho (hg.symm.trans (h l q).1)

theorem res_nat {V : Type} (F : ∀ {β : Type}, (V → Option β) → Option β) (hF : ∀ {β : Type} (κ : V → Option β), F κ = (F some).bind κ) {κ : V → Option α} (h : F κ = some r) : ∃ v, κ v = some r ∧ ∀ {γ : Type} (κ' : V → Option γ), F κ' = κ' v := by
  rw [hF] at h
  obtain ⟨v, h1, h2⟩ := Option.bind_eq_some_iff.1 h
  exact ⟨v, h2, fun κ' => by rw [hF, h1]; rfl⟩

theorem row_fr (h : Hid H s) {l ep : Nat} {κ : List AV → Option α} (e : aRow l ep s κ = some r) : ∃ xs, κ xs = some r ∧ ∀ {γ : Type} (κ' : List AV → Option γ), aRow l ep (addT H T s) κ' = κ' xs := by
  unfold aRow at e
  split at e
  · rename_i xs ro hg
    split at e
    · rename_i hl
      refine ⟨xs, e, fun κ' => ?_⟩
      unfold aRow
      rw [addT_get (h.not hg (by simp)), hg]
      simp [hl]
    · cases e
  · cases e
theorem own_fr (h : Hid H s) {l ep : Nat} {κ : List AV → Option α} (e : aOwn l ep s κ = some r) : ∃ xs, κ xs = some r ∧ (∀ {γ : Type} (κ' : List AV → Option γ), aOwn l ep (addT H T s) κ' = κ' xs) ∧ ¬ H l := by
  unfold aOwn at e
  split at e
  · rename_i xs hg
    split at e
    · rename_i hl
      refine ⟨xs, e, fun κ' => ?_, h.not hg (by simp)⟩
      unfold aOwn
      rw [addT_get (h.not hg (by simp)), hg]
      simp [hl]
    · cases e
  · cases e
theorem load1_fr (h : Hid H s) {p : AV} {κ : AV → Option α} (e : aLoad1 p s κ = some r) : ∃ v, κ v = some r ∧ ∀ {γ : Type} (κ' : AV → Option γ), aLoad1 p (addT H T s) κ' = κ' v := by
  unfold aLoad1 at e
  split at e
  · obtain ⟨xs, e, h2⟩ := row_fr (T := T) h e
    split at e
    · rename_i v hv
      exact ⟨v, e, fun κ' => by unfold aLoad1; (try simp only); rw [h2]; simp [hv]⟩
    · cases e
  · cases e
theorem loadN_fr (h : Hid H s) {n : Nat} {p : AV} {κ : AV → Option α} (e : aLoadN n p s κ = some r) : ∃ v, κ v = some r ∧ ∀ {γ : Type} (κ' : AV → Option γ), aLoadN n p (addT H T s) κ' = κ' v := by
  unfold aLoadN at e
  split at e
  · obtain ⟨xs, e, h2⟩ := row_fr (T := T) h e
    split at e
    · rename_i hv
      exact ⟨_, e, fun κ' => by unfold aLoadN; (try simp only); rw [h2]; simp [hv]⟩
    · cases e
  · cases e
theorem strOf_fr (h : Hid H s) {p : AV} {κ : AV → Option α} (e : aStrOf p s κ = some r) : ∃ v, κ v = some r ∧ ∀ {γ : Type} (κ' : AV → Option γ), aStrOf p (addT H T s) κ' = κ' v := by
  unfold aStrOf at e
  split at e
  · exact ⟨_, e, fun κ' => rfl⟩
  · obtain ⟨xs, e, h2⟩ := row_fr (T := T) h e
    split at e
    · rename_i hn
      split at e
      · rename_i b hb
        exact ⟨_, e, fun κ' => by unfold aStrOf; (try simp only); rw [h2]; simp [hn, hb]⟩
      · cases e
    · cases e
  · cases e
theorem cellsOf_fr (h : Hid H s) {es : Nat} {y : AV} {κ : Nat → List AV → Option α} (e : aCellsOf es y s κ = some r) : ∃ m new, κ m new = some r ∧ ∀ {γ : Type} (κ' : Nat → List AV → Option γ), aCellsOf es y (addT H T s) κ' = κ' m new := by
  unfold aCellsOf at e
  split at e
  · exact ⟨_, _, e, fun κ' => rfl⟩
  · split at e
    · rename_i h1
      exact ⟨_, _, e, fun κ' => by unfold aCellsOf; simp [h1]⟩
    · cases e
  · split at e
    · rename_i h1
      obtain ⟨xs, e, h2⟩ := row_fr (T := T) h e
      split at e
      · rename_i h3
        subst h1
        exact ⟨_, _, e, fun κ' => by unfold aCellsOf; simp only [if_true]; rw [h2]; simp [h3]⟩
      · cases e
    · cases e
  · cases e
theorem lenMap_fr (h : Hid H s) {x : AV} {κ : AV → Option α} (e : aLenMap x s κ = some r) : ∃ v, κ v = some r ∧ ∀ {γ : Type} (κ' : AV → Option γ), aLenMap x (addT H T s) κ' = κ' v := by
  unfold aLenMap at e
  split at e
  · exact ⟨_, e, fun κ' => rfl⟩
  · split at e
    · rename_i es st hg
      exact ⟨_, e, fun κ' => by unfold aLenMap; simp only; rw [addT_get (h.not hg (by simp)), hg]⟩
    · cases e
  · cases e
theorem find_fr (h : Hid H s) {kd : EK} {m key : AV} {κ : Option (Nat × AV) → Option α} (e : aFind kd m key s κ = some r) : ∃ v, κ v = some r ∧ ∀ {γ : Type} (κ' : Option (Nat × AV) → Option γ), aFind kd m key (addT H T s) κ' = κ' v := by
  unfold aFind at e
  split at e
  · rename_i hk
    split at e
    · exact ⟨_, e, fun κ' => by unfold aFind; rw [if_pos hk]⟩
    · split at e
      · rename_i es st hg
        split at e
        · rename_i q hq
          exact ⟨_, e, fun κ' => by unfold aFind; rw [if_pos hk]; simp only; rw [addT_get (h.not hg (by simp)), hg]; simp only [hq]⟩
        · cases e
      · cases e
    · cases e
  · cases e
theorem lookup_fr (h : Hid H s) {kd : EK} {z : AV} {ok : Bool} {m key : AV} {κ : AV → Option α} (e : aLookup kd z ok m key s κ = some r) : ∃ v, κ v = some r ∧ ∀ {γ : Type} (κ' : AV → Option γ), aLookup kd z ok m key (addT H T s) κ' = κ' v := by
  unfold aLookup at e
  obtain ⟨q, e, h2⟩ := find_fr (T := T) h e
  cases q with
  | none => exact ⟨_, e, fun κ' => by unfold aLookup; rw [h2]⟩
  | some q => obtain ⟨i, v⟩ := q; exact ⟨_, e, fun κ' => by unfold aLookup; rw [h2]⟩
theorem store_fr (h : Hid H s) {n : Nat} {p x : AV} {κ : Store → Option α} (e : aStore n p x s κ = some r) : ∃ s', κ s' = some r ∧ Hid H s' ∧ ∀ {γ : Type} (κ' : Store → Option γ), aStore n p x (addT H T s) κ' = κ' (addT H T s') := by
  unfold aStore at e
  split at e
  · obtain ⟨cs, e, h1⟩ := res_nat (fun κ => aCells x κ) (fun κ => aCells_nat x κ) e
    obtain ⟨xs, e, h2, h3⟩ := own_fr (T := T) h e
    split at e
    · rename_i hc
      exact ⟨_, e, h.set h3 _, fun κ' => by unfold aStore; simp only; rw [h1, h2, if_pos hc, addT_set h3]⟩
    · cases e
  · cases e
theorem append_fr (h : Hid H s) {es bytes : Nat} {x y : AV} {κ : AV → Store → Option α} (e : aAppend es bytes x y s κ = some r) : ∃ v s', κ v s' = some r ∧ Hid H s' ∧ ∀ {γ : Type} (κ' : AV → Store → Option γ), aAppend es bytes x y (addT H T s) κ' = κ' v (addT H T s') := by
  unfold aAppend at e
  obtain ⟨m, new, e, h1⟩ := cellsOf_fr (T := T) h e
  split at e
  · split at e
    · rename_i hm
      exact ⟨_, _, e, h, fun κ' => by unfold aAppend; rw [h1]; simp only [if_pos hm]⟩
    · rename_i hm
      split at e
      · rename_i hb
        exact ⟨_, _, e, h.push _, fun κ' => by unfold aAppend; rw [h1]; simp only [if_neg hm, if_pos hb, addT_push h, addT_next]⟩
      · cases e
  · split at e
    · rename_i he
      obtain ⟨xs, e, h2, h3⟩ := own_fr (T := T) h e
      split at e
      · rename_i hm
        exact ⟨_, _, e, h, fun κ' => by unfold aAppend; rw [h1]; simp only [if_pos he]; rw [h2, if_pos hm]⟩
      · rename_i hm
        split at e
        · rename_i hb
          exact ⟨_, _, e, h.set h3 _, fun κ' => by unfold aAppend; rw [h1]; simp only [if_pos he]; rw [h2, if_neg hm, if_pos hb, addT_set h3]⟩
        · rename_i hb
          split at e
          · rename_i hb2
            exact ⟨_, _, e, h.set h3 _, fun κ' => by unfold aAppend; rw [h1]; simp only [if_pos he]; rw [h2, if_neg hm, if_neg hb, if_pos hb2, addT_set h3]⟩
          · cases e
    · cases e
  · cases e
theorem appendMake_fr (h : Hid H s) {zs : List AV} {es bytes : Nat} {x y : AV} {κ : AV → Store → Option α} (e : aAppendMake zs es bytes x y s κ = some r) : ∃ v s', κ v s' = some r ∧ Hid H s' ∧ ∀ {γ : Type} (κ' : AV → Store → Option γ), aAppendMake zs es bytes x y (addT H T s) κ' = κ' v (addT H T s') := by
  unfold aAppendMake at e
  split at e
  · split at e
    · rename_i hm
      exact ⟨_, _, e, h, fun κ' => by unfold aAppendMake; simp only; rw [if_pos hm]⟩
    · rename_i hm
      split at e
      · rename_i hb
        exact ⟨_, _, e, h.push _, fun κ' => by unfold aAppendMake; simp only; rw [if_neg hm, if_pos hb, addT_push h]; rfl⟩
      · cases e
  · cases e
theorem copy_fr (h : Hid H s) {es : Nat} {x y : AV} {κ : AV → Store → Option α} (e : aCopy es x y s κ = some r) : ∃ v s', κ v s' = some r ∧ Hid H s' ∧ ∀ {γ : Type} (κ' : AV → Store → Option γ), aCopy es x y (addT H T s) κ' = κ' v (addT H T s') := by
  unfold aCopy at e
  obtain ⟨m, new, e, h1⟩ := cellsOf_fr (T := T) h e
  split at e
  · exact ⟨_, _, e, h, fun κ' => by unfold aCopy; rw [h1]⟩
  · split at e
    · rename_i he
      obtain ⟨xs, e, h2, h3⟩ := own_fr (T := T) h e
      split at e
      · rename_i hb
        exact ⟨_, _, e, h.set h3 _, fun κ' => by unfold aCopy; rw [h1]; simp only [if_pos he]; rw [h2, if_pos hb, addT_set h3]⟩
      · cases e
    · cases e
  · cases e
theorem mapAt_fr (h : Hid H s) {kd : EK} {m key : AV} {κ : Nat → List (AV × AV) → List Nat × Nat → Option (Nat × AV) → Option α} (e : aMapAt kd m key s κ = some r) : ∃ l es st q, κ l es st q = some r ∧ ¬ H l ∧ ∀ {γ : Type} (κ' : Nat → List (AV × AV) → List Nat × Nat → Option (Nat × AV) → Option γ), aMapAt kd m key (addT H T s) κ' = κ' l es st q := by
  unfold aMapAt at e
  split at e
  · rename_i hk
    split at e
    · split at e
      · rename_i es st hg
        have hn := h.not hg (by simp)
        split at e
        · rename_i q hq
          exact ⟨_, _, _, _, e, hn, fun κ' => by unfold aMapAt; rw [if_pos hk]; simp only; rw [addT_get hn, hg]; simp only [hq]⟩
        · cases e
      · cases e
    · cases e
  · cases e
theorem update_fr (h : Hid H s) {kd : EK} {m key x : AV} {κ : Store → Option α} (e : aMapUpdate kd m key x s κ = some r) : ∃ s', κ s' = some r ∧ Hid H s' ∧ ∀ {γ : Type} (κ' : Store → Option γ), aMapUpdate kd m key x (addT H T s) κ' = κ' (addT H T s') := by
  unfold aMapUpdate at e
  obtain ⟨l, es, st, q, e, hn, h2⟩ := mapAt_fr (T := T) h e
  cases q with
  | none => exact ⟨_, e, h.set hn _, fun κ' => by unfold aMapUpdate; rw [h2]; simp only [addT_set hn]⟩
  | some q => obtain ⟨i, v⟩ := q; exact ⟨_, e, h.set hn _, fun κ' => by unfold aMapUpdate; rw [h2]; simp only [addT_set hn]⟩
theorem mapEntry_fr (h : Hid H s) {kd : EK} {z m key : AV} {κ : AV → Store → Option α} (e : aMapEntry kd z m key s κ = some r) : ∃ v s', κ v s' = some r ∧ Hid H s' ∧ ∀ {γ : Type} (κ' : AV → Store → Option γ), aMapEntry kd z m key (addT H T s) κ' = κ' v (addT H T s') := by
  unfold aMapEntry at e
  obtain ⟨l, es, st, q, e, hn, h2⟩ := mapAt_fr (T := T) h e
  cases q with
  | none => exact ⟨_, _, e, h.set hn _, fun κ' => by unfold aMapEntry; rw [h2]; simp only [addT_set hn]⟩
  | some q =>
    obtain ⟨i, v⟩ := q
    simp only at e
    split at e
    · rename_i b hb
      exact ⟨_, _, e, h.set hn _, fun κ' => by unfold aMapEntry; rw [h2]; simp only [hb, addT_set hn]⟩
    · cases e
theorem entryStore_fr (h : Hid H s) {m sp x : AV} {κ : Store → Option α} (e : aEntryStore m sp x s κ = some r) : ∃ s', κ s' = some r ∧ Hid H s' ∧ ∀ {γ : Type} (κ' : Store → Option γ), aEntryStore m sp x (addT H T s) κ' = κ' (addT H T s') := by
  unfold aEntryStore at e
  split at e
  · split at e
    · rename_i es st hg
      have hn := h.not hg (by simp)
      split at e
      · rename_i i hi
        split at e
        · rename_i k v hv
          exact ⟨_, e, h.set hn _, fun κ' => by unfold aEntryStore; simp only; rw [addT_get hn, hg]; simp only [hi, hv, addT_set hn]⟩
        · cases e
      · cases e
    · cases e
  · cases e
theorem rangeMap_fr (h : Hid H s) {m : AV} {κ : AV → Store → Option α} (e : aRangeMap m s κ = some r) : ∃ v s', κ v s' = some r ∧ Hid H s' ∧ ∀ {γ : Type} (κ' : AV → Store → Option γ), aRangeMap m (addT H T s) κ' = κ' v (addT H T s') := by
  unfold aRangeMap at e
  split at e
  · exact ⟨_, _, e, h.push _, fun κ' => by unfold aRangeMap; simp only; rw [addT_push h]; rfl⟩
  · split at e
    · rename_i es st hg
      exact ⟨_, _, e, h.push _, fun κ' => by unfold aRangeMap; simp only; rw [addT_get (h.not hg (by simp)), hg]; simp only; rw [addT_push h]; rfl⟩
    · cases e
  · cases e
theorem rangeStr_fr (h : Hid H s) {x : AV} {κ : AV → Store → Option α} (e : aRangeStr x s κ = some r) : ∃ v s', κ v s' = some r ∧ Hid H s' ∧ ∀ {γ : Type} (κ' : AV → Store → Option γ), aRangeStr x (addT H T s) κ' = κ' v (addT H T s') := by
  unfold aRangeStr at e
  obtain ⟨b, e, h1⟩ := res_nat (fun κ => aStr x κ) (fun κ => aStr_nat x κ) e
  exact ⟨_, _, e, h.push _, fun κ' => by unfold aRangeStr; rw [h1, addT_push h]; rfl⟩
theorem nextStr_fr (h : Hid H s) {p : AV} {κ : AV → Store → Option α} (e : aNextStr p s κ = some r) : ∃ v s', κ v s' = some r ∧ Hid H s' ∧ ∀ {γ : Type} (κ' : AV → Store → Option γ), aNextStr p (addT H T s) κ' = κ' v (addT H T s') := by
  unfold aNextStr at e
  split at e
  · split at e
    · rename_i b pos hg
      have hn := h.not hg (by simp)
      split at e
      · rename_i hp
        exact ⟨_, _, e, h.set hn _, fun κ' => by unfold aNextStr; simp only; rw [addT_get hn, hg]; simp only [if_pos hp, addT_set hn]⟩
      · rename_i hp
        exact ⟨_, _, e, h, fun κ' => by unfold aNextStr; simp only; rw [addT_get hn, hg]; simp only [if_neg hp]⟩
    · cases e
  · cases e
theorem nextMap_fr (h : Hid H s) {p : AV} {κ : AV → Store → Option α} (e : aNextMap p s κ = some r) : ∃ v s', κ v s' = some r ∧ Hid H s' ∧ ∀ {γ : Type} (κ' : AV → Store → Option γ), aNextMap p (addT H T s) κ' = κ' v (addT H T s') := by
  unfold aNextMap at e
  split at e
  · split at e
    · rename_i hg
      exact ⟨_, _, e, h, fun κ' => by unfold aNextMap; simp only; rw [addT_get (h.not hg (by simp)), hg]⟩
    · rename_i m since seen last hg
      have hn := h.not hg (by simp)
      split at e
      · rename_i es st hgm
        have hnm := h.not hgm (by simp)
        split at e
        · cases e
        rename_i hno
        split at e
        · rename_i hz
          exact ⟨_, _, e, h, fun κ' => by unfold aNextMap; simp only; rw [addT_get hn, hg]; simp only; rw [addT_get hnm, hgm]; simp only [if_neg hno, hz]⟩
        · rename_i k v b hz
          split at e
          · rename_i hb
            exact ⟨_, _, e, h.set hn _, fun κ' => by unfold aNextMap; simp only; rw [addT_get hn, hg]; simp only; rw [addT_get hnm, hgm]; simp only [if_neg hno, hz, if_pos hb, addT_set hn]⟩
          · cases e
        · cases e
      · cases e
    · cases e
  · cases e
theorem entry_fr (h : Hid H s) {p : AV} {κ : AV → Option α} (e : aEntry p s κ = some r) : ∃ v, κ v = some r ∧ ∀ {γ : Type} (κ' : AV → Option γ), aEntry p (addT H T s) κ' = κ' v := by
  unfold aEntry at e
  split at e
  · split at e
    · rename_i m since seen last hg
      have hn := h.not hg (by simp)
      split at e
      · rename_i es st b hgm hb
        have hnm := h.not hgm (by simp)
        split at e
        · rename_i hl
          split at e
          · rename_i k v b' hf
            exact ⟨_, e, fun κ' => by unfold aEntry; simp only; rw [addT_get hn, hg]; simp only; rw [addT_get hnm, hgm]; simp only [hb, if_pos hl, hf]⟩
          · cases e
        · cases e
      · cases e
    · cases e
  · cases e
theorem delete_fr (h : Hid H s) {kd : EK} {m key : AV} {κ : Store → Option α} (e : aDelete kd m key s κ = some r) : ∃ s', κ s' = some r ∧ Hid H s' ∧ ∀ {γ : Type} (κ' : Store → Option γ), aDelete kd m key (addT H T s) κ' = κ' (addT H T s') := by
  unfold aDelete at e
  split at e
  · rename_i hk
    split at e
    · exact ⟨_, e, h, fun κ' => by unfold aDelete; rw [if_pos hk]⟩
    · split at e
      · rename_i es st hg
        have hn := h.not hg (by simp)
        split at e
        · rename_i i v hq
          exact ⟨_, e, h.set hn _, fun κ' => by unfold aDelete; rw [if_pos hk]; simp only; rw [addT_get hn, hg]; simp only [hq, addT_set hn]⟩
        · rename_i hq
          exact ⟨_, e, h, fun κ' => by unfold aDelete; rw [if_pos hk]; simp only; rw [addT_get hn, hg]; simp only [hq]⟩
        · cases e
      · cases e
    · cases e
  · cases e
theorem bytesOf_fr (h : Hid H s) {x : AV} {κ : AV → Store → Option α} (e : aBytesOf x s κ = some r) : ∃ v s', κ v s' = some r ∧ Hid H s' ∧ ∀ {γ : Type} (κ' : AV → Store → Option γ), aBytesOf x (addT H T s) κ' = κ' v (addT H T s') := by
  unfold aBytesOf at e
  obtain ⟨b, e, h1⟩ := res_nat (fun κ => aStr x κ) (fun κ => aStr_nat x κ) e
  exact ⟨_, _, e, h.push _, fun κ' => by unfold aBytesOf; rw [h1, addT_push h]; rfl⟩
theorem runesOf_fr (h : Hid H s) {x : AV} {κ : AV → Store → Option α} (e : aRunesOf x s κ = some r) : ∃ v s', κ v s' = some r ∧ Hid H s' ∧ ∀ {γ : Type} (κ' : AV → Store → Option γ), aRunesOf x (addT H T s) κ' = κ' v (addT H T s') := by
  unfold aRunesOf at e
  obtain ⟨b, e, h1⟩ := res_nat (fun κ => aStr x κ) (fun κ => aStr_nat x κ) e
  split at e
  · rename_i hc
    exact ⟨_, _, e, h.push _, fun κ' => by unfold aRunesOf; rw [h1, if_pos hc, addT_push h]; rfl⟩
  · cases e
theorem convSl_fr (h : Hid H s) {x : AV} {κ : AV → Store → Option α} (e : aConvSl x s κ = some r) : ∃ v s', κ v s' = some r ∧ Hid H s' ∧ ∀ {γ : Type} (κ' : AV → Store → Option γ), aConvSl x (addT H T s) κ' = κ' v (addT H T s') := by
  unfold aConvSl at e
  split at e
  · split at e
    · rename_i hn
      obtain ⟨xs, e, h2, h3⟩ := own_fr (T := T) h e
      exact ⟨_, _, e, h.set h3 _, fun κ' => by unfold aConvSl; simp only [if_pos hn]; rw [h2, addT_set h3]⟩
    · cases e
  · cases e
theorem clear_fr (h : Hid H s) {zs : List AV} {es : Nat} {x : AV} {κ : Store → Option α} (e : aClear zs es x s κ = some r) : ∃ s', κ s' = some r ∧ Hid H s' ∧ ∀ {γ : Type} (κ' : Store → Option γ), aClear zs es x (addT H T s) κ' = κ' (addT H T s') := by
  unfold aClear at e
  split at e
  · exact ⟨_, e, h, fun κ' => rfl⟩
  · split at e
    · rename_i hn
      exact ⟨_, e, h, fun κ' => by unfold aClear; simp only [if_pos hn]⟩
    · rename_i hn
      split at e
      · rename_i he
        obtain ⟨xs, e, h2, h3⟩ := own_fr (T := T) h e
        split at e
        · rename_i hc
          exact ⟨_, e, h.set h3 _, fun κ' => by unfold aClear; simp only [if_neg hn, if_pos he]; rw [h2, if_pos hc, addT_set h3]⟩
        · cases e
      · cases e
  · cases e
theorem makeSlice_fr (h : Hid H s) {zs : List AV} {es bytes : Nat} {n c : AV} {κ : AV → Store → Option α} (e : aMakeSlice zs es bytes n c s κ = some r) : ∃ v s', κ v s' = some r ∧ Hid H s' ∧ ∀ {γ : Type} (κ' : AV → Store → Option γ), aMakeSlice zs es bytes n c (addT H T s) κ' = κ' v (addT H T s') := by
  unfold aMakeSlice at e
  split at e
  · split at e
    · rename_i hc
      exact ⟨_, _, e, h.push _, fun κ' => by unfold aMakeSlice; simp only; rw [if_pos hc, addT_push h]; rfl⟩
    · cases e
  · cases e

theorem call_fr (hC : CallFr H T call) (h : Hid H s) {f : AV} {args : List AV} {κ : AV → Store → Option α} (e : aCall call f args s κ = some r) : ∃ v s', κ v s' = some r ∧ Hid H s' ∧ ∀ {γ : Type} (κ' : AV → Store → Option γ), aCall call f args (addT H T s) κ' = κ' v (addT H T s') := by
  unfold aCall at e
  split at e
  · obtain ⟨⟨v, s'⟩, e1, e2⟩ := Option.bind_eq_some_iff.1 e
    obtain ⟨h1, h2⟩ := hC _ _ _ _ _ h e1
    exact ⟨v, s', e2, h1, fun κ' => by unfold aCall; simp only; rw [h2]; rfl⟩
  · cases e

theorem invoke_fr (hC : CallFr H T call) (h : Hid H s) {x : AV} {name : String} {args : List AV} {κ : AV → Store → Option α} (e : aInvoke P call x name args s κ = some r) : ∃ v s', κ v s' = some r ∧ Hid H s' ∧ ∀ {γ : Type} (κ' : AV → Store → Option γ), aInvoke P call x name args (addT H T s) κ' = κ' v (addT H T s') := by
  unfold aInvoke at e
  split at e
  · split at e
    · rename_i m d hm hd
      have fin : ∀ {f : Nat} {as : List AV}, (call f as s).bind (fun r => κ r.1 r.2) = some r → ∃ v s', κ v s' = some r ∧ Hid H s' ∧ ∀ {γ : Type} (κ' : AV → Store → Option γ), (call f as (addT H T s)).bind (fun r => κ' r.1 r.2) = κ' v (addT H T s') := fun {f as} e => by
        obtain ⟨⟨v, s'⟩, e1, e2⟩ := Option.bind_eq_some_iff.1 e
        obtain ⟨h1, h2⟩ := hC _ _ _ _ _ h e1
        exact ⟨v, s', e2, h1, fun κ' => by rw [h2]; rfl⟩
      split at e
      · rename_i f el hf
        split at e
        · rename_i hp
          obtain ⟨v, s', e1, e2, e3⟩ := fin e
          exact ⟨v, s', e1, e2, fun κ' => by unfold aInvoke; simp only [hm, hd, hf, if_pos hp]; exact e3 κ'⟩
        · cases e
      · cases e
      · rename_i d2 q2 q3 f hf hd2
        split at e
        · rename_i hp
          obtain ⟨v, s', e1, e2, e3⟩ := fin e
          refine ⟨v, s', e1, e2, fun κ' => ?_⟩
          unfold aInvoke
          simp only [hm, hd, hf, if_pos hp]
          cases d2 <;> first | (exact (hd2 _ rfl).elim) | exact e3 κ'
        · cases e
      · cases e
    · cases e
  · cases e
theorem aop_fr (hC : CallFr H T call) (h : Hid H s) {ρ : Operand → AV} {o : Oper} {κ : AV → Store → Option α} (e : aop P call ρ o s κ = some r) : ∃ v s', κ v s' = some r ∧ Hid H s' ∧ ∀ {γ : Type} (κ' : AV → Store → Option γ), aop P call ρ o (addT H T s) κ' = κ' v (addT H T s') := by
  have pn : ∀ (F : ∀ {β : Type}, (AV → Option β) → Option β), (∀ {β : Type} (κ : AV → Option β), F κ = (F some).bind κ) → F (fun v => κ v s) = some r → ∃ v s', κ v s' = some r ∧ Hid H s' ∧ ∀ {γ : Type} (κ' : AV → Store → Option γ), F (fun v => κ' v (addT H T s)) = κ' v (addT H T s') := fun F hF e => by
    obtain ⟨v, h1, h2⟩ := res_nat F hF e
    exact ⟨v, s, h1, h, fun κ' => h2 _⟩
  have rd : ∀ (F : ∀ {β : Type}, Store → (AV → Option β) → Option β), (∃ v, κ v s = some r ∧ ∀ {γ : Type} (κ' : AV → Option γ), F (addT H T s) κ' = κ' v) → ∃ v s', κ v s' = some r ∧ Hid H s' ∧ ∀ {γ : Type} (κ' : AV → Store → Option γ), F (addT H T s) (fun v => κ' v (addT H T s)) = κ' v (addT H T s') := fun F ⟨v, h1, h2⟩ => ⟨v, s, h1, h, fun κ' => h2 _⟩
  have st : ∀ (F : ∀ {β : Type}, Store → (Store → Option β) → Option β), (∃ s', κ (.tuple []) s' = some r ∧ Hid H s' ∧ ∀ {γ : Type} (κ' : Store → Option γ), F (addT H T s) κ' = κ' (addT H T s')) → ∃ v s', κ v s' = some r ∧ Hid H s' ∧ ∀ {γ : Type} (κ' : AV → Store → Option γ), F (addT H T s) (fun s' => κ' (.tuple []) s') = κ' v (addT H T s') := fun F ⟨s', h1, h2, h3⟩ => ⟨.tuple [], s', h1, h2, fun κ' => h3 _⟩
  unfold aop at e ⊢
  cases hop : o.op <;> rw [hop] at e <;> simp only at e ⊢ <;> try (exact absurd e (by simp))
  case move x => exact ⟨_, _, e, h, fun κ' => rfl⟩
  case assign x => exact ⟨_, _, e, h, fun κ' => rfl⟩
  case pick c a b => exact pn (fun κ => aPick (ρ c) (ρ a) (ρ b) κ) (fun κ => aPick_nat _ _ _ κ) e
  case alloc t =>
    split at e
    · exact ⟨_, _, e, h.push _, fun κ' => by unfold aNew; rw [addT_push h]; rfl⟩
    · cases e
  case box t x =>
    obtain ⟨cs, e, h1⟩ := res_nat (fun κ => aCells (ρ x) κ) (fun κ => aCells_nat _ κ) e
    exact ⟨_, _, e, h.push _, fun κ' => by rw [h1]; unfold aNew; rw [addT_push h]; rfl⟩
  case build t ps =>
    split at e
    · split at e
      · obtain ⟨cs, e, h1⟩ := res_nat (fun κ => aBuild _ _ κ) (fun κ => aBuild_nat _ _ κ) e
        exact ⟨_, _, e, h, fun κ' => h1 _⟩
      · cases e
    · cases e
  case buildSlice t n ps =>
    split at e
    · split at e
      · split at e
        · rename_i hz
          obtain ⟨cs, e, h1⟩ := res_nat (fun κ => aBuild _ _ κ) (fun κ => aBuild_nat _ _ κ) e
          exact ⟨_, _, e, h.push _, fun κ' => by rw [if_pos hz, h1, addT_push h]; rfl⟩
        · cases e
      · cases e
    · cases e
  case load t a =>
    split at e
    · exact rd (fun s κ => aLoadN _ _ s κ) (loadN_fr h e)
    · exact rd (fun s κ => aLoad1 _ s κ) (load1_fr h e)
    · cases e
  case store t a x =>
    split at e
    · exact st (fun s κ => aStore _ _ _ s κ) (store_fr h e)
    · cases e
  case nilCheck x => exact pn (fun κ => aNilCheck (ρ x) κ) (fun κ => aNilCheck_nat _ κ) e
  case binOp op t x y ty =>
    split at e
    · exact pn (fun κ => aShift .shl (ρ x) (ρ y) κ) (fun κ => aShift_nat _ _ _ κ) e
    · exact pn (fun κ => aShift .shr (ρ x) (ρ y) κ) (fun κ => aShift_nat _ _ _ κ) e
    · split at e
      · exact pn (fun κ => aBin _ (ρ x) (ρ y) κ) (fun κ => aBin_nat _ _ _ κ) e
      · exact pn (fun κ => aBin _ (ρ x) (ρ y) κ) (fun κ => aBin_nat _ _ _ κ) e
      · split at e
        · obtain ⟨b, e, h1⟩ := res_nat (fun κ => aEq _ (ρ x) (ρ y) κ) (fun κ => aEq_nat _ _ _ κ) e
          exact ⟨_, _, e, h, fun κ' => h1 _⟩
        · obtain ⟨b, e, h1⟩ := res_nat (fun κ => aEq _ (ρ x) (ρ y) κ) (fun κ => aEq_nat _ _ _ κ) e
          exact ⟨_, _, e, h, fun κ' => h1 _⟩
        · cases e
      · cases e
  case unOp op t x => exact pn (fun κ => aUn op (ρ x) κ) (fun κ => aUn_nat _ _ κ) e
  case convert src dst x =>
    split at e
    · exact pn (fun κ => aConvInt _ (ρ x) κ) (fun κ => aConvInt_nat _ _ κ) e
    · obtain ⟨b, e, h1⟩ := res_nat (fun κ => aStr (ρ x) κ) (fun κ => aStr_nat _ κ) e
      exact ⟨_, _, e, h, fun κ' => h1 _⟩
    · split at e
      · exact bytesOf_fr h e
      · exact runesOf_fr h e
      · cases e
    · split at e
      · exact rd (fun s κ => aStrOf _ s κ) (strOf_fr h e)
      · cases e
    · split at e
      · split at e
        · rename_i hsd
          obtain ⟨v, s', h1, h2, h3⟩ := convSl_fr (T := T) h e
          exact ⟨v, s', h1, h2, fun κ' => by rw [if_pos hsd]; exact h3 κ'⟩
        · cases e
      · cases e
    · cases e
  case makeInterface t x =>
    split at e
    · cases e
    · exact ⟨_, _, e, h, fun κ' => rfl⟩
    · cases e
  case makeFunc f a b =>
    cases f with
    | func f => exact ⟨_, _, e, h, fun κ' => rfl⟩
    | method n =>
      simp only at e ⊢
      split at e
      · exact ⟨_, _, e, h, fun κ' => rfl⟩
      · cases e
    | _ => cases e
  case makeMap t n =>
    cases n with
    | none => exact ⟨_, _, e, h.push _, fun κ' => by rw [addT_push h]; rfl⟩
    | some n => cases e
  case makeSlice t n c =>
    split at e
    · split at e
      · split at e
        · rename_i hz
          obtain ⟨v, s', h1, h2, h3⟩ := makeSlice_fr (T := T) h e
          exact ⟨v, s', h1, h2, fun κ' => by rw [if_pos hz]; exact h3 κ'⟩
        · cases e
      · cases e
    · cases e
  case slice t x lo hi mx =>
    cases mx with
    | some m =>
      simp only at e ⊢
      split at e
      · split at e
        · exact pn (fun κ => aCutCap _ _ _ _ κ) (fun κ => aCutCap_nat _ _ _ _ κ) e
        · cases e
      · cases e
    | none =>
      simp only at e ⊢
      split at e
      · exact pn (fun κ => aSliceStr _ _ _ κ) (fun κ => aSliceStr_nat _ _ _ κ) e
      · split at e
        · exact pn (fun κ => aSliceSl _ _ _ _ κ) (fun κ => aSliceSl_nat _ _ _ _ κ) e
        · cases e
      · split at e
        · exact pn (fun κ => aSliceArr _ _ _ _ _ κ) (fun κ => aSliceArr_nat _ _ _ _ _ κ) e
        · cases e
      · cases e
  case fieldAddr t x i =>
    split at e
    · split at e
      · split at e
        · split at e
          · rename_i hn
            obtain ⟨v, h1, h2⟩ := res_nat (fun κ => aFieldAddr _ (ρ x) κ) (fun κ => aFieldAddr_nat _ _ κ) e
            exact ⟨v, s, h1, h, fun κ' => by rw [if_pos hn]; exact h2 _⟩
          · cases e
        · cases e
      · cases e
    · cases e
  case field t x i =>
    split at e
    · split at e
      · split at e
        · exact pn (fun κ => aFieldN _ _ (ρ x) κ) (fun κ => aFieldN_nat _ _ _ κ) e
        · exact pn (fun κ => aField1 _ (ρ x) κ) (fun κ => aField1_nat _ _ κ) e
        · cases e
      · cases e
    · cases e
  case indexAddr t x i =>
    split at e
    · split at e
      · exact pn (fun κ => aIndexSl _ _ _ κ) (fun κ => aIndexSl_nat _ _ _ κ) e
      · cases e
    · split at e
      · exact pn (fun κ => aIndexArr _ _ _ _ κ) (fun κ => aIndexArr_nat _ _ _ _ κ) e
      · cases e
    · cases e
  case index t x i =>
    split at e
    · exact pn (fun κ => aIndexStr _ _ κ) (fun κ => aIndexStr_nat _ _ κ) e
    · split at e
      · exact pn (fun κ => aIndexAgg _ _ _ _ _ κ) (fun κ => aIndexAgg_nat _ _ _ _ _ κ) e
      · cases e
    · cases e
  case lookup t m k ok =>
    split at e
    · split at e
      · split at e
        · exact rd (fun s κ => aLookup _ _ _ _ _ s κ) (lookup_fr h e)
        · cases e
      · cases e
    · cases e
  case mapUpdate t m k x =>
    split at e
    · split at e
      · exact st (fun s κ => aMapUpdate _ _ _ _ s κ) (update_fr h e)
      · cases e
    · cases e
  case extract x i => exact pn (fun κ => aExtract i (ρ x) κ) (fun κ => aExtract_nat _ _ κ) e
  case mapEntry t m k =>
    split at e
    · split at e
      · split at e
        · exact mapEntry_fr h e
        · cases e
      · cases e
    · cases e
  case entryStore t m sp x => exact st (fun s κ => aEntryStore _ _ _ s κ) (entryStore_fr h e)
  case range t x =>
    split at e
    · exact rangeStr_fr h e
    · exact rangeMap_fr h e
    · cases e
  case next it isStr =>
    split at e
    · rename_i hs; simp only [if_pos hs]; exact nextStr_fr h e
    · rename_i hs; simp only [if_neg hs]; exact nextMap_fr h e
  case entry it => exact rd (fun s κ => aEntry _ s κ) (entry_fr h e)
  case typeAssert x xt t ok => exact pn (fun κ => aAssert P t ok (ρ x) κ) (fun κ => aAssert_nat _ _ _ κ) e
  case call c =>
    generalize c.args.toList.map ρ = xs at e ⊢
    generalize c.argTypes.toList = ts at e ⊢
    split at e
    · exact call_fr hC h e
    · rename_i b hb
      unfold aBuiltin at e ⊢
      split at e
      · split at e
        · exact pn (fun κ => aLenStr _ κ) (fun κ => aLenStr_nat _ κ) e
        · exact pn (fun κ => aLen _ κ) (fun κ => aLen_nat _ κ) e
        · exact ⟨_, _, e, h, fun κ' => rfl⟩
        · exact rd (fun s κ => aLenMap _ s κ) (lenMap_fr h e)
        · cases e
      · split at e
        · split at e
          · split at e
            · rename_i hz
              obtain ⟨v, s', h1, h2, h3⟩ := append_fr (T := T) h e
              exact ⟨v, s', h1, h2, fun κ' => by rw [if_pos hz]; exact h3 κ'⟩
            · cases e
          · cases e
        · split at e
          · split at e
            · rename_i hz
              obtain ⟨v, s', h1, h2, h3⟩ := append_fr (T := T) h e
              exact ⟨v, s', h1, h2, fun κ' => by rw [if_pos hz]; exact h3 κ'⟩
            · cases e
          · cases e
        · split at e
          · split at e
            · rename_i hz
              obtain ⟨v, s', h1, h2, h3⟩ := appendMake_fr (T := T) h e
              exact ⟨v, s', h1, h2, fun κ' => by rw [if_pos hz]; exact h3 κ'⟩
            · cases e
          · cases e
        · cases e
      · split at e
        · split at e
          · exact copy_fr h e
          · cases e
        · cases e
      · split at e
        · split at e
          · split at e
            · rename_i hz
              obtain ⟨s', h1, h2, h3⟩ := clear_fr (T := T) h e
              exact ⟨_, s', h1, h2, fun κ' => by rw [if_pos hz]; exact h3 _⟩
            · cases e
          · cases e
        · cases e
      · exact pn (fun κ => aMaxL _ _ κ) (fun κ => aMaxL_nat _ _ κ) e
      · exact pn (fun κ => aMinL _ _ κ) (fun κ => aMinL_nat _ _ κ) e
      · split at e
        · split at e
          · exact st (fun s κ => aDelete _ _ _ s κ) (delete_fr h e)
          · cases e
        · cases e
      · split at e
        · exact pn (fun κ => aCap _ κ) (fun κ => aCap_nat _ κ) e
        · cases e
      · cases e
    · exact invoke_fr hC h e
end
end Go.Proofs.YtjbgdpfkmcibbaaGreatDoor.Sim
