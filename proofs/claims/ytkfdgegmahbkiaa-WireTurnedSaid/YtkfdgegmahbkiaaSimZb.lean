/- The texts SimX, SimY, SimZ, SimZa, SimZb, one behind the other. No condition. -/
import Derived.Test.YtkfdgegmahbkiaaSimO
namespace Go.Proofs.Ytkfdgegmahbkiaa.Sim
set_option linter.unusedVariables false
section
variable {H : Nat → Prop} {T : Nat → AObj} {P : Program} {call : CallA} {α : Type} {r : α} {s s' : Store}

theorem addT_next : (addT H T s).next = s.next := rfl
theorem addT_get {l : Nat} (h : ¬ H l) : (addT H T s).get l = s.get l := by simp [addT, h]
theorem addT_hid {l : Nat} (h : H l) : (addT H T s).get l = T l := by simp [addT, h]
theorem addT_set {l : Nat} (h : ¬ H l) (o : AObj) : (addT H T s).set l o = addT H T (s.set l o) := by
  simp only [addT, Store.set]
  congr 1
  funext j
  by_cases e : j = l
  · subst e; simp [h]
  · simp [e]
theorem addT_push (h : Hid H s) (o : AObj) : (addT H T s).push o = addT H T (s.push o) := by
  simp only [addT, Store.push]
  congr 1
  funext j
  by_cases e : j = s.next
  · subst e
    have : ¬ H s.next := fun q => by have := (h _ q).2; omega
    simp [this]
  · simp [e]
theorem Hid.set (h : Hid H s) {l : Nat} (hl : ¬ H l) (o : AObj) : Hid H (s.set l o) := fun j hj => by
  have hne : j ≠ l := fun e => hl (e ▸ hj)
  exact ⟨by simp only [Store.set, if_neg hne]; exact (h j hj).1, (h j hj).2⟩
theorem Hid.push (h : Hid H s) (o : AObj) : Hid H (s.push o) := fun j hj => by
  have := h j hj
  exact ⟨by simp only [Store.push]; rw [if_neg (by omega)]; exact this.1, Nat.lt_succ_of_lt this.2⟩
theorem Hid.not (h : Hid H s) {l : Nat} {o : AObj} (hg : s.get l = o) (ho : o ≠ .none) : ¬ H l := fun q => ho (hg.symm.trans (h l q).1)

theorem res_nat {V : Type} (F : ∀ {β : Type}, (V → Option β) → Option β) (hF : ∀ {β : Type} (κ : V → Option β), F κ = (F some).bind κ) {κ : V → Option α} (h : F κ = some r) : ∃ v, κ v = some r ∧ ∀ {γ : Type} (κ' : V → Option γ), F κ' = κ' v := by
  rw [hF] at h
  obtain ⟨v, h1, h2⟩ := Option.bind_eq_some_iff.1 h
  exact ⟨v, h2, fun κ' => by rw [hF, h1]; rfl⟩

theorem row_fr (h : Hid H s) {l ep : Nat} {κ : List AV → Option α} (e : aRow l ep s κ = some r) : ∃ xs, κ xs = some r ∧ ∀ {γ : Type} (κ' : List AV → Option γ), aRow l ep (addT H T s) κ' = κ' xs := by
  unfold aRow at e
  split at e
  · rename_i xs ro hg
    split at e
    · rename_i hl
      refine ⟨xs, e, fun κ' => ?_⟩
      unfold aRow
      rw [addT_get (h.not hg (by simp)), hg]
      simp [hl]
    · cases e
  · cases e
theorem own_fr (h : Hid H s) {l ep : Nat} {κ : List AV → Option α} (e : aOwn l ep s κ = some r) : ∃ xs, κ xs = some r ∧ (∀ {γ : Type} (κ' : List AV → Option γ), aOwn l ep (addT H T s) κ' = κ' xs) ∧ ¬ H l := by
  unfold aOwn at e
  split at e
  · rename_i xs hg
    split at e
    · rename_i hl
      refine ⟨xs, e, fun κ' => ?_, h.not hg (by simp)⟩
      unfold aOwn
      rw [addT_get (h.not hg (by simp)), hg]
      simp [hl]
    · cases e
  · cases e
theorem load1_fr (h : Hid H s) {p : AV} {κ : AV → Option α} (e : aLoad1 p s κ = some r) : ∃ v, κ v = some r ∧ ∀ {γ : Type} (κ' : AV → Option γ), aLoad1 p (addT H T s) κ' = κ' v := by
  unfold aLoad1 at e
  split at e
  · obtain ⟨xs, e, h2⟩ := row_fr (T := T) h e
    split at e
    · rename_i v hv
      exact ⟨v, e, fun κ' => by unfold aLoad1; (try simp only); rw [h2]; simp [hv]⟩
    · cases e
  · cases e
theorem loadN_fr (h : Hid H s) {n : Nat} {p : AV} {κ : AV → Option α} (e : aLoadN n p s κ = some r) : ∃ v, κ v = some r ∧ ∀ {γ : Type} (κ' : AV → Option γ), aLoadN n p (addT H T s) κ' = κ' v := by
  unfold aLoadN at e
  split at e
  · obtain ⟨xs, e, h2⟩ := row_fr (T := T) h e
    split at e
    · rename_i hv
      exact ⟨_, e, fun κ' => by unfold aLoadN; (try simp only); rw [h2]; simp [hv]⟩
    · cases e
  · cases e
theorem strOf_fr (h : Hid H s) {p : AV} {κ : AV → Option α} (e : aStrOf p s κ = some r) : ∃ v, κ v = some r ∧ ∀ {γ : Type} (κ' : AV → Option γ), aStrOf p (addT H T s) κ' = κ' v := by
  unfold aStrOf at e
  split at e
  · exact ⟨_, e, fun κ' => rfl⟩
  · obtain ⟨xs, e, h2⟩ := row_fr (T := T) h e
    split at e
    · rename_i hn
      split at e
      · rename_i b hb
        exact ⟨_, e, fun κ' => by unfold aStrOf; (try simp only); rw [h2]; simp [hn, hb]⟩
      · cases e
    · cases e
  · cases e
theorem cellsOf_fr (h : Hid H s) {es : Nat} {y : AV} {κ : Nat → List AV → Option α} (e : aCellsOf es y s κ = some r) : ∃ m new, κ m new = some r ∧ ∀ {γ : Type} (κ' : Nat → List AV → Option γ), aCellsOf es y (addT H T s) κ' = κ' m new := by
  unfold aCellsOf at e
  split at e
  · exact ⟨_, _, e, fun κ' => rfl⟩
  · split at e
    · rename_i h1
      exact ⟨_, _, e, fun κ' => by unfold aCellsOf; simp [h1]⟩
    · cases e
  · split at e
    · rename_i h1
      obtain ⟨xs, e, h2⟩ := row_fr (T := T) h e
      split at e
      · rename_i h3
        subst h1
        exact ⟨_, _, e, fun κ' => by unfold aCellsOf; simp only [if_true]; rw [h2]; simp [h3]⟩
      · cases e
    · cases e
  · cases e
theorem lenMap_fr (h : Hid H s) {x : AV} {κ : AV → Option α} (e : aLenMap x s κ = some r) : ∃ v, κ v = some r ∧ ∀ {γ : Type} (κ' : AV → Option γ), aLenMap x (addT H T s) κ' = κ' v := by
  unfold aLenMap at e
  split at e
  · exact ⟨_, e, fun κ' => rfl⟩
  · split at e
    · rename_i es st hg
      exact ⟨_, e, fun κ' => by unfold aLenMap; simp only; rw [addT_get (h.not hg (by simp)), hg]⟩
    · cases e
  · cases e
theorem find_fr (h : Hid H s) {kd : EK} {m key : AV} {κ : Option (Nat × AV) → Option α} (e : aFind kd m key s κ = some r) : ∃ v, κ v = some r ∧ ∀ {γ : Type} (κ' : Option (Nat × AV) → Option γ), aFind kd m key (addT H T s) κ' = κ' v := by
  unfold aFind at e
  split at e
  · rename_i hk
    split at e
    · exact ⟨_, e, fun κ' => by unfold aFind; rw [if_pos hk]⟩
    · split at e
      · rename_i es st hg
        split at e
        · rename_i q hq
          exact ⟨_, e, fun κ' => by unfold aFind; rw [if_pos hk]; simp only; rw [addT_get (h.not hg (by simp)), hg]; simp only [hq]⟩
        · cases e
      · cases e
    · cases e
  · cases e
theorem lookup_fr (h : Hid H s) {kd : EK} {z : AV} {ok : Bool} {m key : AV} {κ : AV → Option α} (e : aLookup kd z ok m key s κ = some r) : ∃ v, κ v = some r ∧ ∀ {γ : Type} (κ' : AV → Option γ), aLookup kd z ok m key (addT H T s) κ' = κ' v := by
  unfold aLookup at e
  obtain ⟨q, e, h2⟩ := find_fr (T := T) h e
  cases q with
  | none => exact ⟨_, e, fun κ' => by unfold aLookup; rw [h2]⟩
  | some q => obtain ⟨i, v⟩ := q; exact ⟨_, e, fun κ' => by unfold aLookup; rw [h2]⟩
theorem store_fr (h : Hid H s) {n : Nat} {p x : AV} {κ : Store → Option α} (e : aStore n p x s κ = some r) : ∃ s', κ s' = some r ∧ Hid H s' ∧ ∀ {γ : Type} (κ' : Store → Option γ), aStore n p x (addT H T s) κ' = κ' (addT H T s') := by
  unfold aStore at e
  split at e
  · obtain ⟨cs, e, h1⟩ := res_nat (fun κ => aCells x κ) (fun κ => aCells_nat x κ) e
    obtain ⟨xs, e, h2, h3⟩ := own_fr (T := T) h e
    split at e
    · rename_i hc
      exact ⟨_, e, h.set h3 _, fun κ' => by unfold aStore; simp only; rw [h1, h2, if_pos hc, addT_set h3]⟩
    · cases e
  · cases e
theorem append_fr (h : Hid H s) {es bytes : Nat} {x y : AV} {κ : AV → Store → Option α} (e : aAppend es bytes x y s κ = some r) : ∃ v s', κ v s' = some r ∧ Hid H s' ∧ ∀ {γ : Type} (κ' : AV → Store → Option γ), aAppend es bytes x y (addT H T s) κ' = κ' v (addT H T s') := by
  unfold aAppend at e
  obtain ⟨m, new, e, h1⟩ := cellsOf_fr (T := T) h e
  split at e
  · split at e
    · rename_i hm
      exact ⟨_, _, e, h, fun κ' => by unfold aAppend; rw [h1]; simp only [if_pos hm]⟩
    · rename_i hm
      split at e
      · rename_i hb
        exact ⟨_, _, e, h.push _, fun κ' => by unfold aAppend; rw [h1]; simp only [if_neg hm, if_pos hb, addT_push h, addT_next]⟩
      · cases e
  · split at e
    · rename_i he
      obtain ⟨xs, e, h2, h3⟩ := own_fr (T := T) h e
      split at e
      · rename_i hm
        exact ⟨_, _, e, h, fun κ' => by unfold aAppend; rw [h1]; simp only [if_pos he]; rw [h2, if_pos hm]⟩
      · rename_i hm
        split at e
        · rename_i hb
          exact ⟨_, _, e, h.set h3 _, fun κ' => by unfold aAppend; rw [h1]; simp only [if_pos he]; rw [h2, if_neg hm, if_pos hb, addT_set h3]⟩
        · rename_i hb
          split at e
          · rename_i hb2
            exact ⟨_, _, e, h.set h3 _, fun κ' => by unfold aAppend; rw [h1]; simp only [if_pos he]; rw [h2, if_neg hm, if_neg hb, if_pos hb2, addT_set h3]⟩
          · cases e
    · cases e
  · cases e
theorem appendMake_fr (h : Hid H s) {zs : List AV} {es bytes : Nat} {x y : AV} {κ : AV → Store → Option α} (e : aAppendMake zs es bytes x y s κ = some r) : ∃ v s', κ v s' = some r ∧ Hid H s' ∧ ∀ {γ : Type} (κ' : AV → Store → Option γ), aAppendMake zs es bytes x y (addT H T s) κ' = κ' v (addT H T s') := by
  unfold aAppendMake at e
  split at e
  · split at e
    · rename_i hm
      exact ⟨_, _, e, h, fun κ' => by unfold aAppendMake; simp only; rw [if_pos hm]⟩
    · rename_i hm
      split at e
      · rename_i hb
        exact ⟨_, _, e, h.push _, fun κ' => by unfold aAppendMake; simp only; rw [if_neg hm, if_pos hb, addT_push h]; rfl⟩
      · cases e
  · cases e
theorem copy_fr (h : Hid H s) {es : Nat} {x y : AV} {κ : AV → Store → Option α} (e : aCopy es x y s κ = some r) : ∃ v s', κ v s' = some r ∧ Hid H s' ∧ ∀ {γ : Type} (κ' : AV → Store → Option γ), aCopy es x y (addT H T s) κ' = κ' v (addT H T s') := by
  unfold aCopy at e
  obtain ⟨m, new, e, h1⟩ := cellsOf_fr (T := T) h e
  split at e
  · exact ⟨_, _, e, h, fun κ' => by unfold aCopy; rw [h1]⟩
  · split at e
    · rename_i he
      obtain ⟨xs, e, h2, h3⟩ := own_fr (T := T) h e
      split at e
      · rename_i hb
        exact ⟨_, _, e, h.set h3 _, fun κ' => by unfold aCopy; rw [h1]; simp only [if_pos he]; rw [h2, if_pos hb, addT_set h3]⟩
      · cases e
    · cases e
  · cases e
theorem mapAt_fr (h : Hid H s) {kd : EK} {m key : AV} {κ : Nat → List (AV × AV) → List Nat × Nat → Option (Nat × AV) → Option α} (e : aMapAt kd m key s κ = some r) : ∃ l es st q, κ l es st q = some r ∧ ¬ H l ∧ ∀ {γ : Type} (κ' : Nat → List (AV × AV) → List Nat × Nat → Option (Nat × AV) → Option γ), aMapAt kd m key (addT H T s) κ' = κ' l es st q := by
  unfold aMapAt at e
  split at e
  · rename_i hk
    split at e
    · split at e
      · rename_i es st hg
        have hn := h.not hg (by simp)
        split at e
        · rename_i q hq
          exact ⟨_, _, _, _, e, hn, fun κ' => by unfold aMapAt; rw [if_pos hk]; simp only; rw [addT_get hn, hg]; simp only [hq]⟩
        · cases e
      · cases e
    · cases e
  · cases e
theorem update_fr (h : Hid H s) {kd : EK} {m key x : AV} {κ : Store → Option α} (e : aMapUpdate kd m key x s κ = some r) : ∃ s', κ s' = some r ∧ Hid H s' ∧ ∀ {γ : Type} (κ' : Store → Option γ), aMapUpdate kd m key x (addT H T s) κ' = κ' (addT H T s') := by
  unfold aMapUpdate at e
  obtain ⟨l, es, st, q, e, hn, h2⟩ := mapAt_fr (T := T) h e
  cases q with
  | none => exact ⟨_, e, h.set hn _, fun κ' => by unfold aMapUpdate; rw [h2]; simp only [addT_set hn]⟩
  | some q => obtain ⟨i, v⟩ := q; exact ⟨_, e, h.set hn _, fun κ' => by unfold aMapUpdate; rw [h2]; simp only [addT_set hn]⟩
theorem mapEntry_fr (h : Hid H s) {kd : EK} {z m key : AV} {κ : AV → Store → Option α} (e : aMapEntry kd z m key s κ = some r) : ∃ v s', κ v s' = some r ∧ Hid H s' ∧ ∀ {γ : Type} (κ' : AV → Store → Option γ), aMapEntry kd z m key (addT H T s) κ' = κ' v (addT H T s') := by
  unfold aMapEntry at e
  obtain ⟨l, es, st, q, e, hn, h2⟩ := mapAt_fr (T := T) h e
  cases q with
  | none => exact ⟨_, _, e, h.set hn _, fun κ' => by unfold aMapEntry; rw [h2]; simp only [addT_set hn]⟩
  | some q =>
    obtain ⟨i, v⟩ := q
    simp only at e
    split at e
    · rename_i b hb
      exact ⟨_, _, e, h.set hn _, fun κ' => by unfold aMapEntry; rw [h2]; simp only [hb, addT_set hn]⟩
    · cases e
theorem entryStore_fr (h : Hid H s) {m sp x : AV} {κ : Store → Option α} (e : aEntryStore m sp x s κ = some r) : ∃ s', κ s' = some r ∧ Hid H s' ∧ ∀ {γ : Type} (κ' : Store → Option γ), aEntryStore m sp x (addT H T s) κ' = κ' (addT H T s') := by
  unfold aEntryStore at e
  split at e
  · split at e
    · rename_i es st hg
      have hn := h.not hg (by simp)
      split at e
      · rename_i i hi
        split at e
        · rename_i k v hv
          exact ⟨_, e, h.set hn _, fun κ' => by unfold aEntryStore; simp only; rw [addT_get hn, hg]; simp only [hi, hv, addT_set hn]⟩
        · cases e
      · cases e
    · cases e
  · cases e
theorem rangeMap_fr (h : Hid H s) {m : AV} {κ : AV → Store → Option α} (e : aRangeMap m s κ = some r) : ∃ v s', κ v s' = some r ∧ Hid H s' ∧ ∀ {γ : Type} (κ' : AV → Store → Option γ), aRangeMap m (addT H T s) κ' = κ' v (addT H T s') := by
  unfold aRangeMap at e
  split at e
  · exact ⟨_, _, e, h.push _, fun κ' => by unfold aRangeMap; simp only; rw [addT_push h]; rfl⟩
  · split at e
    · rename_i es st hg
      exact ⟨_, _, e, h.push _, fun κ' => by unfold aRangeMap; simp only; rw [addT_get (h.not hg (by simp)), hg]; simp only; rw [addT_push h]; rfl⟩
    · cases e
  · cases e
theorem rangeStr_fr (h : Hid H s) {x : AV} {κ : AV → Store → Option α} (e : aRangeStr x s κ = some r) : ∃ v s', κ v s' = some r ∧ Hid H s' ∧ ∀ {γ : Type} (κ' : AV → Store → Option γ), aRangeStr x (addT H T s) κ' = κ' v (addT H T s') := by
  unfold aRangeStr at e
  obtain ⟨b, e, h1⟩ := res_nat (fun κ => aStr x κ) (fun κ => aStr_nat x κ) e
  exact ⟨_, _, e, h.push _, fun κ' => by unfold aRangeStr; rw [h1, addT_push h]; rfl⟩
theorem nextStr_fr (h : Hid H s) {p : AV} {κ : AV → Store → Option α} (e : aNextStr p s κ = some r) : ∃ v s', κ v s' = some r ∧ Hid H s' ∧ ∀ {γ : Type} (κ' : AV → Store → Option γ), aNextStr p (addT H T s) κ' = κ' v (addT H T s') := by
  unfold aNextStr at e
  split at e
  · split at e
    · rename_i b pos hg
      have hn := h.not hg (by simp)
      split at e
      · rename_i hp
        exact ⟨_, _, e, h.set hn _, fun κ' => by unfold aNextStr; simp only; rw [addT_get hn, hg]; simp only [if_pos hp, addT_set hn]⟩
      · rename_i hp
        exact ⟨_, _, e, h, fun κ' => by unfold aNextStr; simp only; rw [addT_get hn, hg]; simp only [if_neg hp]⟩
    · cases e
  · cases e
theorem nextMap_fr (h : Hid H s) {p : AV} {κ : AV → Store → Option α} (e : aNextMap p s κ = some r) : ∃ v s', κ v s' = some r ∧ Hid H s' ∧ ∀ {γ : Type} (κ' : AV → Store → Option γ), aNextMap p (addT H T s) κ' = κ' v (addT H T s') := by
  unfold aNextMap at e
  split at e
  · split at e
    · rename_i hg
      exact ⟨_, _, e, h, fun κ' => by unfold aNextMap; simp only; rw [addT_get (h.not hg (by simp)), hg]⟩
    · rename_i m since seen last hg
      have hn := h.not hg (by simp)
      split at e
      · rename_i es st hgm
        have hnm := h.not hgm (by simp)
        split at e
        · cases e
        rename_i hno
        split at e
        · rename_i hz
          exact ⟨_, _, e, h, fun κ' => by unfold aNextMap; simp only; rw [addT_get hn, hg]; simp only; rw [addT_get hnm, hgm]; simp only [if_neg hno, hz]⟩
        · rename_i k v b hz
          split at e
          · rename_i hb
            exact ⟨_, _, e, h.set hn _, fun κ' => by unfold aNextMap; simp only; rw [addT_get hn, hg]; simp only; rw [addT_get hnm, hgm]; simp only [if_neg hno, hz, if_pos hb, addT_set hn]⟩
          · cases e
        · cases e
      · cases e
    · cases e
  · cases e
theorem entry_fr (h : Hid H s) {p : AV} {κ : AV → Option α} (e : aEntry p s κ = some r) : ∃ v, κ v = some r ∧ ∀ {γ : Type} (κ' : AV → Option γ), aEntry p (addT H T s) κ' = κ' v := by
  unfold aEntry at e
  split at e
  · split at e
    · rename_i m since seen last hg
      have hn := h.not hg (by simp)
      split at e
      · rename_i es st b hgm hb
        have hnm := h.not hgm (by simp)
        split at e
        · rename_i hl
          split at e
          · rename_i k v b' hf
            exact ⟨_, e, fun κ' => by unfold aEntry; simp only; rw [addT_get hn, hg]; simp only; rw [addT_get hnm, hgm]; simp only [hb, if_pos hl, hf]⟩
          · cases e
        · cases e
      · cases e
    · cases e
  · cases e
theorem delete_fr (h : Hid H s) {kd : EK} {m key : AV} {κ : Store → Option α} (e : aDelete kd m key s κ = some r) : ∃ s', κ s' = some r ∧ Hid H s' ∧ ∀ {γ : Type} (κ' : Store → Option γ), aDelete kd m key (addT H T s) κ' = κ' (addT H T s') := by
  unfold aDelete at e
  split at e
  · rename_i hk
    split at e
    · exact ⟨_, e, h, fun κ' => by unfold aDelete; rw [if_pos hk]⟩
    · split at e
      · rename_i es st hg
        have hn := h.not hg (by simp)
        split at e
        · rename_i i v hq
          exact ⟨_, e, h.set hn _, fun κ' => by unfold aDelete; rw [if_pos hk]; simp only; rw [addT_get hn, hg]; simp only [hq, addT_set hn]⟩
        · rename_i hq
          exact ⟨_, e, h, fun κ' => by unfold aDelete; rw [if_pos hk]; simp only; rw [addT_get hn, hg]; simp only [hq]⟩
        · cases e
      · cases e
    · cases e
  · cases e
theorem bytesOf_fr (h : Hid H s) {x : AV} {κ : AV → Store → Option α} (e : aBytesOf x s κ = some r) : ∃ v s', κ v s' = some r ∧ Hid H s' ∧ ∀ {γ : Type} (κ' : AV → Store → Option γ), aBytesOf x (addT H T s) κ' = κ' v (addT H T s') := by
  unfold aBytesOf at e
  obtain ⟨b, e, h1⟩ := res_nat (fun κ => aStr x κ) (fun κ => aStr_nat x κ) e
  exact ⟨_, _, e, h.push _, fun κ' => by unfold aBytesOf; rw [h1, addT_push h]; rfl⟩
theorem runesOf_fr (h : Hid H s) {x : AV} {κ : AV → Store → Option α} (e : aRunesOf x s κ = some r) : ∃ v s', κ v s' = some r ∧ Hid H s' ∧ ∀ {γ : Type} (κ' : AV → Store → Option γ), aRunesOf x (addT H T s) κ' = κ' v (addT H T s') := by
  unfold aRunesOf at e
  obtain ⟨b, e, h1⟩ := res_nat (fun κ => aStr x κ) (fun κ => aStr_nat x κ) e
  split at e
  · rename_i hc
    exact ⟨_, _, e, h.push _, fun κ' => by unfold aRunesOf; rw [h1, if_pos hc, addT_push h]; rfl⟩
  · cases e
theorem convSl_fr (h : Hid H s) {x : AV} {κ : AV → Store → Option α} (e : aConvSl x s κ = some r) : ∃ v s', κ v s' = some r ∧ Hid H s' ∧ ∀ {γ : Type} (κ' : AV → Store → Option γ), aConvSl x (addT H T s) κ' = κ' v (addT H T s') := by
  unfold aConvSl at e
  split at e
  · split at e
    · rename_i hn
      obtain ⟨xs, e, h2, h3⟩ := own_fr (T := T) h e
      exact ⟨_, _, e, h.set h3 _, fun κ' => by unfold aConvSl; simp only [if_pos hn]; rw [h2, addT_set h3]⟩
    · cases e
  · cases e
theorem clear_fr (h : Hid H s) {zs : List AV} {es : Nat} {x : AV} {κ : Store → Option α} (e : aClear zs es x s κ = some r) : ∃ s', κ s' = some r ∧ Hid H s' ∧ ∀ {γ : Type} (κ' : Store → Option γ), aClear zs es x (addT H T s) κ' = κ' (addT H T s') := by
  unfold aClear at e
  split at e
  · exact ⟨_, e, h, fun κ' => rfl⟩
  · split at e
    · rename_i hn
      exact ⟨_, e, h, fun κ' => by unfold aClear; simp only [if_pos hn]⟩
    · rename_i hn
      split at e
      · rename_i he
        obtain ⟨xs, e, h2, h3⟩ := own_fr (T := T) h e
        split at e
        · rename_i hc
          exact ⟨_, e, h.set h3 _, fun κ' => by unfold aClear; simp only [if_neg hn, if_pos he]; rw [h2, if_pos hc, addT_set h3]⟩
        · cases e
      · cases e
  · cases e
theorem makeSlice_fr (h : Hid H s) {zs : List AV} {es bytes : Nat} {n c : AV} {κ : AV → Store → Option α} (e : aMakeSlice zs es bytes n c s κ = some r) : ∃ v s', κ v s' = some r ∧ Hid H s' ∧ ∀ {γ : Type} (κ' : AV → Store → Option γ), aMakeSlice zs es bytes n c (addT H T s) κ' = κ' v (addT H T s') := by
  unfold aMakeSlice at e
  split at e
  · split at e
    · rename_i hc
      exact ⟨_, _, e, h.push _, fun κ' => by unfold aMakeSlice; simp only; rw [if_pos hc, addT_push h]; rfl⟩
    · cases e
  · cases e

theorem call_fr (hC : CallFr H T call) (h : Hid H s) {f : AV} {args : List AV} {κ : AV → Store → Option α} (e : aCall call f args s κ = some r) : ∃ v s', κ v s' = some r ∧ Hid H s' ∧ ∀ {γ : Type} (κ' : AV → Store → Option γ), aCall call f args (addT H T s) κ' = κ' v (addT H T s') := by
  unfold aCall at e
  split at e
  · obtain ⟨⟨v, s'⟩, e1, e2⟩ := Option.bind_eq_some_iff.1 e
    obtain ⟨h1, h2⟩ := hC _ _ _ _ _ h e1
    exact ⟨v, s', e2, h1, fun κ' => by unfold aCall; simp only; rw [h2]; rfl⟩
  · cases e

theorem invoke_fr (hC : CallFr H T call) (h : Hid H s) {x : AV} {name : String} {args : List AV} {κ : AV → Store → Option α} (e : aInvoke P call x name args s κ = some r) : ∃ v s', κ v s' = some r ∧ Hid H s' ∧ ∀ {γ : Type} (κ' : AV → Store → Option γ), aInvoke P call x name args (addT H T s) κ' = κ' v (addT H T s') := by
  unfold aInvoke at e
  split at e
  · split at e
    · rename_i m d hm hd
      have fin : ∀ {f : Nat} {as : List AV}, (call f as s).bind (fun r => κ r.1 r.2) = some r → ∃ v s', κ v s' = some r ∧ Hid H s' ∧ ∀ {γ : Type} (κ' : AV → Store → Option γ), (call f as (addT H T s)).bind (fun r => κ' r.1 r.2) = κ' v (addT H T s') := fun {f as} e => by
        obtain ⟨⟨v, s'⟩, e1, e2⟩ := Option.bind_eq_some_iff.1 e
        obtain ⟨h1, h2⟩ := hC _ _ _ _ _ h e1
        exact ⟨v, s', e2, h1, fun κ' => by rw [h2]; rfl⟩
      split at e
      · rename_i f el hf
        split at e
        · rename_i hp
          obtain ⟨v, s', e1, e2, e3⟩ := fin e
          exact ⟨v, s', e1, e2, fun κ' => by unfold aInvoke; simp only [hm, hd, hf, if_pos hp]; exact e3 κ'⟩
        · cases e
      · cases e
      · rename_i d2 q2 q3 f hf hd2
        split at e
        · rename_i hp
          obtain ⟨v, s', e1, e2, e3⟩ := fin e
          refine ⟨v, s', e1, e2, fun κ' => ?_⟩
          unfold aInvoke
          simp only [hm, hd, hf, if_pos hp]
          cases d2 <;> first | (exact (hd2 _ rfl).elim) | exact e3 κ'
        · cases e
      · cases e
    · cases e
  · cases e
theorem aop_fr (hC : CallFr H T call) (h : Hid H s) {ρ : Operand → AV} {o : Oper} {κ : AV → Store → Option α} (e : aop P call ρ o s κ = some r) : ∃ v s', κ v s' = some r ∧ Hid H s' ∧ ∀ {γ : Type} (κ' : AV → Store → Option γ), aop P call ρ o (addT H T s) κ' = κ' v (addT H T s') := by
  have pn : ∀ (F : ∀ {β : Type}, (AV → Option β) → Option β), (∀ {β : Type} (κ : AV → Option β), F κ = (F some).bind κ) → F (fun v => κ v s) = some r → ∃ v s', κ v s' = some r ∧ Hid H s' ∧ ∀ {γ : Type} (κ' : AV → Store → Option γ), F (fun v => κ' v (addT H T s)) = κ' v (addT H T s') := fun F hF e => by
    obtain ⟨v, h1, h2⟩ := res_nat F hF e
    exact ⟨v, s, h1, h, fun κ' => h2 _⟩
  have rd : ∀ (F : ∀ {β : Type}, Store → (AV → Option β) → Option β), (∃ v, κ v s = some r ∧ ∀ {γ : Type} (κ' : AV → Option γ), F (addT H T s) κ' = κ' v) → ∃ v s', κ v s' = some r ∧ Hid H s' ∧ ∀ {γ : Type} (κ' : AV → Store → Option γ), F (addT H T s) (fun v => κ' v (addT H T s)) = κ' v (addT H T s') := fun F ⟨v, h1, h2⟩ => ⟨v, s, h1, h, fun κ' => h2 _⟩
  have st : ∀ (F : ∀ {β : Type}, Store → (Store → Option β) → Option β), (∃ s', κ (.tuple []) s' = some r ∧ Hid H s' ∧ ∀ {γ : Type} (κ' : Store → Option γ), F (addT H T s) κ' = κ' (addT H T s')) → ∃ v s', κ v s' = some r ∧ Hid H s' ∧ ∀ {γ : Type} (κ' : AV → Store → Option γ), F (addT H T s) (fun s' => κ' (.tuple []) s') = κ' v (addT H T s') := fun F ⟨s', h1, h2, h3⟩ => ⟨.tuple [], s', h1, h2, fun κ' => h3 _⟩
  unfold aop at e ⊢
  cases hop : o.op <;> rw [hop] at e <;> simp only at e ⊢ <;> try (exact absurd e (by simp))
  case move x => exact ⟨_, _, e, h, fun κ' => rfl⟩
  case assign x => exact ⟨_, _, e, h, fun κ' => rfl⟩
  case pick c a b => exact pn (fun κ => aPick (ρ c) (ρ a) (ρ b) κ) (fun κ => aPick_nat _ _ _ κ) e
  case alloc t =>
    split at e
    · exact ⟨_, _, e, h.push _, fun κ' => by unfold aNew; rw [addT_push h]; rfl⟩
    · cases e
  case box t x =>
    obtain ⟨cs, e, h1⟩ := res_nat (fun κ => aCells (ρ x) κ) (fun κ => aCells_nat _ κ) e
    exact ⟨_, _, e, h.push _, fun κ' => by rw [h1]; unfold aNew; rw [addT_push h]; rfl⟩
  case build t ps =>
    split at e
    · split at e
      · obtain ⟨cs, e, h1⟩ := res_nat (fun κ => aBuild _ _ κ) (fun κ => aBuild_nat _ _ κ) e
        exact ⟨_, _, e, h, fun κ' => h1 _⟩
      · cases e
    · cases e
  case buildSlice t n ps =>
    split at e
    · split at e
      · split at e
        · rename_i hz
          obtain ⟨cs, e, h1⟩ := res_nat (fun κ => aBuild _ _ κ) (fun κ => aBuild_nat _ _ κ) e
          exact ⟨_, _, e, h.push _, fun κ' => by rw [if_pos hz, h1, addT_push h]; rfl⟩
        · cases e
      · cases e
    · cases e
  case load t a =>
    split at e
    · exact rd (fun s κ => aLoadN _ _ s κ) (loadN_fr h e)
    · exact rd (fun s κ => aLoad1 _ s κ) (load1_fr h e)
    · cases e
  case store t a x =>
    split at e
    · exact st (fun s κ => aStore _ _ _ s κ) (store_fr h e)
    · cases e
  case nilCheck x => exact pn (fun κ => aNilCheck (ρ x) κ) (fun κ => aNilCheck_nat _ κ) e
  case binOp op t x y ty =>
    split at e
    · exact pn (fun κ => aShift .shl (ρ x) (ρ y) κ) (fun κ => aShift_nat _ _ _ κ) e
    · exact pn (fun κ => aShift .shr (ρ x) (ρ y) κ) (fun κ => aShift_nat _ _ _ κ) e
    · split at e
      · exact pn (fun κ => aBin _ (ρ x) (ρ y) κ) (fun κ => aBin_nat _ _ _ κ) e
      · exact pn (fun κ => aBin _ (ρ x) (ρ y) κ) (fun κ => aBin_nat _ _ _ κ) e
      · split at e
        · obtain ⟨b, e, h1⟩ := res_nat (fun κ => aEq _ (ρ x) (ρ y) κ) (fun κ => aEq_nat _ _ _ κ) e
          exact ⟨_, _, e, h, fun κ' => h1 _⟩
        · obtain ⟨b, e, h1⟩ := res_nat (fun κ => aEq _ (ρ x) (ρ y) κ) (fun κ => aEq_nat _ _ _ κ) e
          exact ⟨_, _, e, h, fun κ' => h1 _⟩
        · cases e
      · cases e
  case unOp op t x => exact pn (fun κ => aUn op (ρ x) κ) (fun κ => aUn_nat _ _ κ) e
  case convert src dst x =>
    split at e
    · exact pn (fun κ => aConvInt _ (ρ x) κ) (fun κ => aConvInt_nat _ _ κ) e
    · obtain ⟨b, e, h1⟩ := res_nat (fun κ => aStr (ρ x) κ) (fun κ => aStr_nat _ κ) e
      exact ⟨_, _, e, h, fun κ' => h1 _⟩
    · split at e
      · exact bytesOf_fr h e
      · exact runesOf_fr h e
      · cases e
    · split at e
      · exact rd (fun s κ => aStrOf _ s κ) (strOf_fr h e)
      · cases e
    · split at e
      · split at e
        · rename_i hsd
          obtain ⟨v, s', h1, h2, h3⟩ := convSl_fr (T := T) h e
          exact ⟨v, s', h1, h2, fun κ' => by rw [if_pos hsd]; exact h3 κ'⟩
        · cases e
      · cases e
    · cases e
  case makeInterface t x =>
    split at e
    · cases e
    · exact ⟨_, _, e, h, fun κ' => rfl⟩
    · cases e
  case makeFunc f a b =>
    cases f with
    | func f => exact ⟨_, _, e, h, fun κ' => rfl⟩
    | method n =>
      simp only at e ⊢
      split at e
      · exact ⟨_, _, e, h, fun κ' => rfl⟩
      · cases e
    | _ => cases e
  case makeMap t n =>
    cases n with
    | none => exact ⟨_, _, e, h.push _, fun κ' => by rw [addT_push h]; rfl⟩
    | some n => cases e
  case makeSlice t n c =>
    split at e
    · split at e
      · split at e
        · rename_i hz
          obtain ⟨v, s', h1, h2, h3⟩ := makeSlice_fr (T := T) h e
          exact ⟨v, s', h1, h2, fun κ' => by rw [if_pos hz]; exact h3 κ'⟩
        · cases e
      · cases e
    · cases e
  case slice t x lo hi mx =>
    cases mx with
    | some m =>
      simp only at e ⊢
      split at e
      · split at e
        · exact pn (fun κ => aCutCap _ _ _ _ κ) (fun κ => aCutCap_nat _ _ _ _ κ) e
        · cases e
      · cases e
    | none =>
      simp only at e ⊢
      split at e
      · exact pn (fun κ => aSliceStr _ _ _ κ) (fun κ => aSliceStr_nat _ _ _ κ) e
      · split at e
        · exact pn (fun κ => aSliceSl _ _ _ _ κ) (fun κ => aSliceSl_nat _ _ _ _ κ) e
        · cases e
      · split at e
        · exact pn (fun κ => aSliceArr _ _ _ _ _ κ) (fun κ => aSliceArr_nat _ _ _ _ _ κ) e
        · cases e
      · cases e
  case fieldAddr t x i =>
    split at e
    · split at e
      · split at e
        · split at e
          · rename_i hn
            obtain ⟨v, h1, h2⟩ := res_nat (fun κ => aFieldAddr _ (ρ x) κ) (fun κ => aFieldAddr_nat _ _ κ) e
            exact ⟨v, s, h1, h, fun κ' => by rw [if_pos hn]; exact h2 _⟩
          · cases e
        · cases e
      · cases e
    · cases e
  case field t x i =>
    split at e
    · split at e
      · split at e
        · exact pn (fun κ => aFieldN _ _ (ρ x) κ) (fun κ => aFieldN_nat _ _ _ κ) e
        · exact pn (fun κ => aField1 _ (ρ x) κ) (fun κ => aField1_nat _ _ κ) e
        · cases e
      · cases e
    · cases e
  case indexAddr t x i =>
    split at e
    · split at e
      · exact pn (fun κ => aIndexSl _ _ _ κ) (fun κ => aIndexSl_nat _ _ _ κ) e
      · cases e
    · split at e
      · exact pn (fun κ => aIndexArr _ _ _ _ κ) (fun κ => aIndexArr_nat _ _ _ _ κ) e
      · cases e
    · cases e
  case index t x i =>
    split at e
    · exact pn (fun κ => aIndexStr _ _ κ) (fun κ => aIndexStr_nat _ _ κ) e
    · split at e
      · exact pn (fun κ => aIndexAgg _ _ _ _ _ κ) (fun κ => aIndexAgg_nat _ _ _ _ _ κ) e
      · cases e
    · cases e
  case lookup t m k ok =>
    split at e
    · split at e
      · split at e
        · exact rd (fun s κ => aLookup _ _ _ _ _ s κ) (lookup_fr h e)
        · cases e
      · cases e
    · cases e
  case mapUpdate t m k x =>
    split at e
    · split at e
      · exact st (fun s κ => aMapUpdate _ _ _ _ s κ) (update_fr h e)
      · cases e
    · cases e
  case extract x i => exact pn (fun κ => aExtract i (ρ x) κ) (fun κ => aExtract_nat _ _ κ) e
  case mapEntry t m k =>
    split at e
    · split at e
      · split at e
        · exact mapEntry_fr h e
        · cases e
      · cases e
    · cases e
  case entryStore t m sp x => exact st (fun s κ => aEntryStore _ _ _ s κ) (entryStore_fr h e)
  case range t x =>
    split at e
    · exact rangeStr_fr h e
    · exact rangeMap_fr h e
    · cases e
  case next it isStr =>
    split at e
    · rename_i hs; simp only [if_pos hs]; exact nextStr_fr h e
    · rename_i hs; simp only [if_neg hs]; exact nextMap_fr h e
  case entry it => exact rd (fun s κ => aEntry _ s κ) (entry_fr h e)
  case typeAssert x xt t ok => exact pn (fun κ => aAssert P t ok (ρ x) κ) (fun κ => aAssert_nat _ _ _ κ) e
  case call c =>
    generalize c.args.toList.map ρ = xs at e ⊢
    generalize c.argTypes.toList = ts at e ⊢
    split at e
    · exact call_fr hC h e
    · rename_i b hb
      unfold aBuiltin at e ⊢
      split at e
      · split at e
        · exact pn (fun κ => aLenStr _ κ) (fun κ => aLenStr_nat _ κ) e
        · exact pn (fun κ => aLen _ κ) (fun κ => aLen_nat _ κ) e
        · exact ⟨_, _, e, h, fun κ' => rfl⟩
        · exact rd (fun s κ => aLenMap _ s κ) (lenMap_fr h e)
        · cases e
      · split at e
        · split at e
          · split at e
            · rename_i hz
              obtain ⟨v, s', h1, h2, h3⟩ := append_fr (T := T) h e
              exact ⟨v, s', h1, h2, fun κ' => by rw [if_pos hz]; exact h3 κ'⟩
            · cases e
          · cases e
        · split at e
          · split at e
            · rename_i hz
              obtain ⟨v, s', h1, h2, h3⟩ := append_fr (T := T) h e
              exact ⟨v, s', h1, h2, fun κ' => by rw [if_pos hz]; exact h3 κ'⟩
            · cases e
          · cases e
        · split at e
          · split at e
            · rename_i hz
              obtain ⟨v, s', h1, h2, h3⟩ := appendMake_fr (T := T) h e
              exact ⟨v, s', h1, h2, fun κ' => by rw [if_pos hz]; exact h3 κ'⟩
            · cases e
          · cases e
        · cases e
      · split at e
        · split at e
          · exact copy_fr h e
          · cases e
        · cases e
      · split at e
        · split at e
          · split at e
            · rename_i hz
              obtain ⟨s', h1, h2, h3⟩ := clear_fr (T := T) h e
              exact ⟨_, s', h1, h2, fun κ' => by rw [if_pos hz]; exact h3 _⟩
            · cases e
          · cases e
        · cases e
      · exact pn (fun κ => aMaxL _ _ κ) (fun κ => aMaxL_nat _ _ κ) e
      · exact pn (fun κ => aMinL _ _ κ) (fun κ => aMinL_nat _ _ κ) e
      · split at e
        · split at e
          · exact st (fun s κ => aDelete _ _ _ s κ) (delete_fr h e)
          · cases e
        · cases e
      · split at e
        · exact pn (fun κ => aCap _ κ) (fun κ => aCap_nat _ κ) e
        · cases e
      · cases e
    · exact invoke_fr hC h e
end
end Go.Proofs.Ytkfdgegmahbkiaa.Sim
namespace Go.Proofs.Ytkfdgegmahbkiaa.Sim
set_option linter.unusedVariables false
section
variable {H : Nat → Prop} {T : Nat → AObj} {P : Program} {call : CallA} {s s' : Store} {ops : Array Oper} {nt : Nat}

theorem stepA_fr (hC : CallFr H T call) (h : Hid H s) {fr : Fr} {o : Oper} {v : AV} (e : stepA P call ops fr o s = some (v, s')) : Hid H s' ∧ stepA P call ops fr o (addT H T s) = some (v, addT H T s') := by
  have go : aop P call (evalA fr) o s pairK = some (v, s') → Hid H s' ∧ aop P call (evalA fr) o (addT H T s) pairK = some (v, addT H T s') := fun e => by
    obtain ⟨v1, s1, k1, k2, k3⟩ := aop_fr hC h e
    obtain ⟨rfl, rfl⟩ := Prod.mk.inj (Option.some.inj k1)
    exact ⟨k2, k3 _⟩
  unfold stepA at e ⊢
  cases hg : o.guard with
  | none => rw [hg] at e; exact go e
  | some jw =>
    obtain ⟨j, want⟩ := jw
    rw [hg] at e
    simp only at e ⊢
    cases ht : (ops[j]?).bind (·.dst) with
    | none => rw [ht] at e; cases e
    | some t =>
      rw [ht] at e
      simp only at e ⊢
      rcases guard_use e with ⟨h1, h2⟩ | ⟨h1, h2, h3⟩
      · obtain ⟨k1, k2⟩ := go h2
        exact ⟨k1, by rw [h1]; simp [aGuard, k2]⟩
      · obtain ⟨rfl, rfl⟩ := Prod.mk.inj h2
        exact ⟨h, h3 _ _⟩

theorem put_fr {α : Type} {r : α} {d : Option Tmp} {v : AV} {fr : Fr} {f : Fr → Option α} (e : aPut nt d v fr f = some r) : ∃ fr', f fr' = some r ∧ ∀ {γ : Type} (f' : Fr → Option γ), aPut nt d v fr f' = f' fr' := by
  unfold aPut at e
  split at e
  · exact ⟨fr, e, fun f' => rfl⟩
  · split at e
    · rename_i ht
      exact ⟨_, e, fun f' => by unfold aPut; simp only [if_pos ht]⟩
    · cases e

/-- What follows, too. -/
def KFr (H : Nat → Prop) (T : Nat → AObj) (κ : Fr → Store → Option (AV × Store)) : Prop := ∀ fr s v s', Hid H s → κ fr s = some (v, s') → Hid H s' ∧ κ fr (addT H T s) = some (v, addT H T s')

theorem execOps_fr (hC : CallFr H T call) {κ : Fr → Store → Option (AV × Store)} (hK : KFr H T κ) : ∀ l, KFr H T (execOps P call nt ops l κ)
  | [] => hK
  | o :: l => fun fr s v s' h e => by
    have ih := execOps_fr hC hK l
    unfold execOps at e ⊢
    cases hg : o.guard with
    | none =>
      rw [hg] at e
      simp only at e ⊢
      obtain ⟨v1, s1, k1, k2, k3⟩ := aop_fr hC h e
      obtain ⟨fr', g1, g2⟩ := put_fr k1
      obtain ⟨j1, j2⟩ := ih fr' s1 v s' k2 g1
      exact ⟨j1, by rw [k3, g2]; exact j2⟩
    | some jw =>
      obtain ⟨j, want⟩ := jw
      rw [hg] at e
      simp only at e ⊢
      cases ht : (ops[j]?).bind (·.dst) with
      | none => rw [ht] at e; cases e
      | some t =>
        rw [ht] at e
        simp only at e ⊢
        obtain ⟨q, hq, e⟩ := Option.bind_eq_some_iff.1 e
        have hq2 : Hid H q.2 ∧ aGuard (fr t) want (aop P call (evalA fr) o (addT H T s) fun v s' => some (v, s')) (some (.tuple [], addT H T s)) = some (q.1, addT H T q.2) := by
          rcases guard_use hq with ⟨h1, h2⟩ | ⟨h1, h2, h3⟩
          · obtain ⟨v1, s1, k1, k2, k3⟩ := aop_fr (T := T) hC h h2
            obtain rfl := Option.some.inj k1
            exact ⟨k2, by rw [h1]; simp [aGuard, k3]⟩
          · subst h2
            exact ⟨h, h3 _ _⟩
        obtain ⟨fr', g1, g2⟩ := put_fr e
        obtain ⟨j1, j2⟩ := ih fr' q.2 v s' hq2.1 g1
        refine ⟨j1, ?_⟩
        rw [hq2.2]
        simp only [Option.bind_some]
        rw [g2]; exact j2

theorem sames_mk {α : Type} : ∀ {L : List (Option (AV × Store) × AV)} {x : Option α}, (∀ p ∈ L, ∃ s', p.1 = some (p.2, s')) → sames L x = x
  | [], x, h => rfl
  | (c, v) :: L, x, h => by
    obtain ⟨s', e⟩ := h (c, v) List.mem_cons_self
    simp only at e
    simp only [sames, e, Option.bind_some, aSame_self]
    exact sames_mk fun p hp => h p (List.mem_cons_of_mem _ hp)

noncomputable def addH (H : Nat → Prop) (T : Nat → AObj) (L : List (Nat × Oper × Store)) : List (Nat × Oper × Store) := L.map fun h => (h.1, h.2.1, addT H T h.2.2)

theorem chk_fr (hC : CallFr H T call) {b : Array Nat} {j : Nat} {o : Oper} {q : AV × Store} {fr : Fr} {L : List (Nat × Oper × Store)} (hL : ∀ h ∈ L, Hid H h.2.2) (hq : Hid H q.2) (hs : ∀ p ∈ chk P call ops b j o q fr L, ∃ s', p.1 = some (p.2, s')) :
    ∀ p ∈ chk P call ops b j o (q.1, addT H T q.2) fr (addH H T L), ∃ s', p.1 = some (p.2, s') := by
  intro p hp
  unfold chk at hp hs
  split at hp
  · rename_i hr
    rw [if_pos hr] at hs
    obtain ⟨h', hm, e⟩ := List.mem_filterMap.1 hp
    obtain ⟨h0, hm0, rfl⟩ := List.mem_map.1 hm
    split at e
    · rename_i hc
      obtain rfl := Option.some.inj e
      obtain ⟨s1, e1⟩ := hs _ (List.mem_filterMap.2 ⟨h0, hm0, if_pos hc⟩)
      exact ⟨_, (stepA_fr hC (hL h0 hm0) e1).2⟩
    · cases e
  · rename_i hr
    rw [if_neg hr] at hs
    split at hp
    · rename_i hw
      rw [if_pos hw] at hs
      obtain ⟨h', hm, e⟩ := List.mem_filterMap.1 hp
      obtain ⟨h0, hm0, rfl⟩ := List.mem_map.1 hm
      split at e
      · rename_i hc
        simp only at e
        obtain ⟨d, hd, rfl⟩ := Option.map_eq_some_iff.1 e
        obtain ⟨s1, e1⟩ := hs _ (List.mem_filterMap.2 ⟨h0, hm0, (if_pos hc).trans (by rw [hd]; rfl)⟩)
        exact ⟨_, (stepA_fr hC hq e1).2⟩
      · cases e
    · cases hp

theorem execDraw_fr (hC : CallFr H T call) {b : Array Nat} {κ : Fr → Store → Option (AV × Store)} (hK : KFr H T κ) : ∀ (l : List (Nat × Oper)) (L : List (Nat × Oper × Store)) (fr : Fr) (s : Store) (v : AV) (s' : Store), (∀ h ∈ L, Hid H h.2.2) → Hid H s → execDraw P call nt ops b κ l L fr s = some (v, s') →
    Hid H s' ∧ execDraw P call nt ops b κ l (addH H T L) fr (addT H T s) = some (v, addT H T s')
  | [], L, fr, s, v, s', hL, h, e => hK fr s v s' h e
  | (j, o) :: l, L, fr, s, v, s', hL, h, e => by
    simp only [execDraw] at e ⊢
    obtain ⟨q, hq, e⟩ := Option.bind_eq_some_iff.1 e
    obtain ⟨hs, e⟩ := sames_use e
    obtain ⟨k1, k2⟩ := stepA_fr (T := T) hC h hq
    obtain ⟨fr', g1, g2⟩ := put_fr e
    obtain ⟨j1, j2⟩ := execDraw_fr hC hK l ((j, o, s) :: L) fr' q.2 v s' (fun h' hm => by
      rcases List.mem_cons.1 hm with rfl | hm
      · exact h
      · exact hL h' hm) k1 g1
    refine ⟨j1, ?_⟩
    rw [k2, Option.bind_some, sames_mk (chk_fr hC hL k1 hs), g2]
    exact j2

/-! ### the other kind of region -/
theorem Hid.mono (h : Hid H s) {n : Nat} {g : Nat → AObj} (hg : ∀ l, H l → g l = s.get l) (hn : ∀ l, H l → l < n) : Hid H ⟨n, g⟩ := fun l hl => ⟨(hg l hl).trans (h l hl).1, hn l hl⟩
theorem hideL_fr {L : List Nat} (hL : ∀ x ∈ L, ¬ H x) (s : Store) : hideL L (addT H T s) = addT H T (hideL L s) := by
  unfold hideL addT
  congr 1
  funext l
  by_cases e : l ∈ L
  · simp [e, hL l e]
  · simp [e]
theorem hideL_hid (L : List Nat) (h : Hid H s) : Hid H (hideL L s) := fun l hl => by
  refine ⟨?_, (h l hl).2⟩
  unfold hideL
  by_cases e : l ∈ L
  · simp [e]
  · simp [e, (h l hl).1]
theorem backL_fr {L : List Nat} (hL : ∀ x ∈ L, ¬ H x) (s s' : Store) : backL L (addT H T s) (addT H T s') = addT H T (backL L s s') := by
  unfold backL addT
  congr 1
  funext l
  by_cases e : l ∈ L
  · simp [e, hL l e]
  · simp [e]
theorem backL_hid {L : List Nat} (h : Hid H s) (h' : Hid H s') : Hid H (backL L s s') := fun l hl => by
  refine ⟨?_, (h' l hl).2⟩
  unfold backL
  by_cases e : l ∈ L
  · simp [e, (h l hl).1]
  · simp [e, (h' l hl).1]
theorem hideL_nil (s : Store) : hideL [] s = s := by unfold hideL; simp
theorem backL_nil (s s' : Store) : backL [] s s' = s' := by unfold backL; simp
theorem under_of {L : List Nat} {F : Store → Option (AV × Store)} {v : AV} (e : underL L s F = some (v, s')) : ∃ s1, F (hideL L s) = some (v, s1) ∧ s' = backL L s s1 := by
  cases L with
  | nil => exact ⟨s', by rw [hideL_nil]; exact e, by rw [backL_nil]⟩
  | cons x L =>
    obtain ⟨q, hq, e⟩ := Option.map_eq_some_iff.1 e
    obtain ⟨rfl, rfl⟩ := Prod.mk.inj e
    exact ⟨q.2, hq, rfl⟩
theorem under_to {L : List Nat} {F : Store → Option (AV × Store)} {v : AV} {s1 : Store} (e : F (hideL L s) = some (v, s1)) : underL L s F = some (v, backL L s s1) := by
  cases L with
  | nil => rw [backL_nil]; rw [hideL_nil] at e; exact e
  | cons x L => simp only [underL, e, Option.map_some]
theorem at_of {r : Nat} {F : Store → Option (AV × Store)} {v : AV} (e : atRow r s F = some (v, s')) : ∃ s1, F ⟨r, s.get⟩ = some (v, s1) ∧ s' = ⟨s.next, s1.get⟩ := by
  obtain ⟨q, hq, e⟩ := Option.map_eq_some_iff.1 e
  obtain ⟨rfl, rfl⟩ := Prod.mk.inj e
  exact ⟨q.2, hq, rfl⟩

theorem hid_ge {b : Array Nat} {n0 p q : Nat} : ∀ x ∈ hidOf ops b n0 p q, n0 ≤ x := by
  intro x hx
  obtain ⟨j, _, e⟩ := List.mem_filterMap.1 hx
  split at e
  · obtain rfl := Option.some.inj e; omega
  · cases e

theorem stepQ_fr (hC : CallFr H T call) {b : Array Nat} {n0 j : Nat} (hn : ∀ l, H l → l < n0) (h : Hid H s) {fr : Fr} {o : Oper} {v : AV} (e : stepQ P call ops b n0 fr j o s = some (v, s')) : Hid H s' ∧ stepQ P call ops b n0 fr j o (addT H T s) = some (v, addT H T s') := by
  have hno : ∀ p q, ∀ x ∈ hidOf ops b n0 p q, ¬ H x := fun p q x hx hh => by have := hid_ge x hx; have := hn x hh; omega
  unfold stepQ at e ⊢
  split at e
  · rename_i ha
    rw [if_pos ha]
    obtain ⟨s1, h1, rfl⟩ := at_of e
    obtain ⟨k1, k2⟩ := stepA_fr (T := T) hC (h.mono (n := n0 + j) (g := s.get) (fun _ _ => rfl) fun l hl => by have := hn l hl; omega) h1
    refine ⟨k1.mono (fun _ _ => rfl) fun l hl => (h l hl).2, ?_⟩
    unfold atRow
    have : (⟨n0 + j, (addT H T s).get⟩ : Store) = addT H T ⟨n0 + j, s.get⟩ := rfl
    rw [this, k2]
    rfl
  · rename_i ha
    rw [if_neg ha]
    obtain ⟨s1, h1, rfl⟩ := under_of e
    obtain ⟨k1, k2⟩ := stepA_fr (T := T) hC (hideL_hid _ h) h1
    refine ⟨backL_hid h k1, ?_⟩
    rw [← backL_fr (hno _ _)]
    exact under_to (by rw [hideL_fr (hno _ _)]; exact k2)

theorem chkQ_fr (hC : CallFr H T call) {b : Array Nat} {n0 j : Nat} (hn : ∀ l, H l → l < n0) {o : Oper} {q : AV × Store} {fr : Fr} {L : List (Nat × Oper × Store)} (hL : ∀ h ∈ L, Hid H h.2.2) (hq : Hid H q.2) (hs : ∀ p ∈ chkQ P call ops b n0 j o q fr L, ∃ s', p.1 = some (p.2, s')) :
    ∀ p ∈ chkQ P call ops b n0 j o (q.1, addT H T q.2) fr (addH H T L), ∃ s', p.1 = some (p.2, s') := by
  have hno : ∀ p q, ∀ x ∈ hidOf ops b n0 p q, ¬ H x := fun p q x hx hh => by have := hid_ge x hx; have := hn x hh; omega
  intro p hp
  unfold chkQ at hp hs
  split at hp
  · rename_i hr
    rw [if_pos hr] at hs
    obtain ⟨h', hm, e⟩ := List.mem_filterMap.1 hp
    obtain ⟨h0, hm0, rfl⟩ := List.mem_map.1 hm
    split at e
    · rename_i hc
      obtain rfl := Option.some.inj e
      obtain ⟨s1, e1⟩ := hs _ (List.mem_filterMap.2 ⟨h0, hm0, if_pos hc⟩)
      simp only at e1 ⊢
      rw [hideL_fr (hno _ _)]
      exact ⟨_, (stepA_fr hC (hideL_hid _ (hL h0 hm0)) e1).2⟩
    · cases e
  · rename_i hr
    rw [if_neg hr] at hs
    split at hp
    · rename_i hw
      rw [if_pos hw] at hs
      obtain ⟨h', hm, e⟩ := List.mem_filterMap.1 hp
      obtain ⟨h0, hm0, rfl⟩ := List.mem_map.1 hm
      split at e
      · rename_i hc
        simp only at e
        obtain ⟨d, hd, rfl⟩ := Option.map_eq_some_iff.1 e
        obtain ⟨s1, e1⟩ := hs _ (List.mem_filterMap.2 ⟨h0, hm0, (if_pos hc).trans (by rw [hd]; rfl)⟩)
        simp only at e1 ⊢
        rw [hideL_fr (hno _ _)]
        exact ⟨_, (stepA_fr hC (hideL_hid _ hq) e1).2⟩
      · cases e
    · cases hp

theorem execDrawQ_fr (hC : CallFr H T call) {b : Array Nat} {n0 : Nat} (hn : ∀ l, H l → l < n0) {κ : Fr → Store → Option (AV × Store)} (hK : KFr H T κ) : ∀ (l : List (Nat × Oper)) (L : List (Nat × Oper × Store)) (fr : Fr) (s : Store) (v : AV) (s' : Store), (∀ h ∈ L, Hid H h.2.2) → Hid H s → execDrawQ P call nt ops b n0 κ l L fr s = some (v, s') →
    Hid H s' ∧ execDrawQ P call nt ops b n0 κ l (addH H T L) fr (addT H T s) = some (v, addT H T s')
  | [], L, fr, s, v, s', hL, h, e => hK fr s v s' h e
  | (j, o) :: l, L, fr, s, v, s', hL, h, e => by
    simp only [execDrawQ] at e ⊢
    obtain ⟨q, hq, e⟩ := Option.bind_eq_some_iff.1 e
    obtain ⟨hs, e⟩ := sames_use e
    obtain ⟨k1, k2⟩ := stepQ_fr (T := T) hC hn h hq
    obtain ⟨fr', g1, g2⟩ := put_fr e
    obtain ⟨j1, j2⟩ := execDrawQ_fr hC hn hK l ((j, o, s) :: L) fr' q.2 v s' (fun h' hm => by
      rcases List.mem_cons.1 hm with rfl | hm
      · exact h
      · exact hL h' hm) k1 g1
    refine ⟨j1, ?_⟩
    rw [k2, Option.bind_some, sames_mk (chkQ_fr hC hn hL k1 hs), g2]
    exact j2

theorem reserve_fr (h : Hid H s) (n : Nat) : reserve n (addT H T s) = addT H T (reserve n s) ∧ Hid H (reserve n s) := by
  constructor
  · unfold reserve addT
    congr 1
    funext l
    by_cases e : H l
    · simp [e, (h l e).2]
    · simp [e]
  · intro l hl
    have := h l hl
    refine ⟨?_, Nat.lt_of_lt_of_le this.2 (Nat.le_add_right _ _)⟩
    unfold reserve
    simp [this.1]

theorem loopN_fr {b : (Fr → Store → Option (AV × Store)) → Fr → Store → Option (AV × Store)} (hb : ∀ κ, KFr H T κ → KFr H T (b κ)) : ∀ n, KFr H T (loopN b n)
  | 0 => fun fr s v s' h e => by cases e
  | n + 1 => hb _ (loopN_fr hb n)

theorem exec_fr (hC : CallFr H T call) {fuel : Nat} : ∀ (c : Code) (K : Ks (AV × Store)), KFr H T K.n → (∀ id, KFr H T (K.x id)) → KFr H T K.r → KFr H T (exec P call fuel nt c K) := by
  intro c
  induction c with
  | skip => intro K hn hx hr; exact hn
  | region id ops draw =>
    intro K hn hx hr
    cases draw
    · exact execOps_fr hC hn _
    · intro fr s v s' h e
      simp only [exec, forceL_eq, forceRows_eq, CheckFast.beforeF_eq] at e ⊢
      cases hok : drawOk P ops (ops.toList.map (rowOf P ops)) (Region.before ops).toList
      · rw [hok] at e
        simp only at e ⊢
        cases hok2 : drawOk P ops (ops.toList.map (rowOf2 P ops)) (Region.before ops).toList
        · rw [hok2] at e; cases e
        · rw [hok2] at e
          simp only at e ⊢
          obtain ⟨k1, k2⟩ := reserve_fr (T := T) h ops.size
          have := execDrawQ_fr hC (fun l hl => (h l hl).2) hn _ [] fr _ v s' (fun h hm => by cases hm) k2 e
          rw [← k1] at this
          exact this
      · rw [hok] at e
        exact execDraw_fr hC hn _ [] fr s v s' (fun h hm => by cases hm) h e
  | seq x y ihx ihy => intro K hn hx hr; exact ihx ⟨exec P call fuel nt y K, K.x, K.r⟩ (ihy K hn hx hr) hx hr
  | cond c x y ihx ihy =>
    intro K hn hx hr fr s v s' h e
    simp only [exec] at e ⊢
    unfold aIf at e ⊢
    split at e
    · split at e
      · rename_i hb
        simp only [if_pos hb]
        exact ihx K hn hx hr fr s v s' h e
      · rename_i hb
        simp only [if_neg hb]
        exact ihy K hn hx hr fr s v s' h e
    · cases e
  | block id b ih =>
    intro K hn hx hr
    refine ih ⟨K.n, fun j => if j = id then K.n else K.x j, K.r⟩ hn (fun j => ?_) hr
    by_cases e : j = id
    · simp only [if_pos e]; exact hn
    · simp only [if_neg e]; exact hx j
  | loop b ih => intro K hn hx hr; exact loopN_fr (fun κ hκ => ih ⟨κ, K.x, K.r⟩ hκ hx hr) fuel
  | exit id => intro K hn hx hr; exact hx id
  | ret => intro K hn hx hr; exact hr
  | _ => intro K hn hx hr fr s v s' h e; simp [exec] at e

theorem result_fr {α : Type} {r : α} {fr : Fr} {rv : ResultVar} {κ : AV → Option α} (h : Hid H s) (e : aResult P fr s rv κ = some r) : ∃ v, κ v = some r ∧ ∀ {γ : Type} (κ' : AV → Option γ), aResult P fr (addT H T s) rv κ' = κ' v := by
  cases rv with
  | tmp t => exact ⟨_, e, fun κ' => rfl⟩
  | cell a t =>
    simp only [aResult] at e ⊢
    split at e
    · exact loadN_fr h e
    · exact load1_fr h e
    · cases e
theorem results_fr {α : Type} {r : α} {fr : Fr} (h : Hid H s) : ∀ (rs : List ResultVar) {κ : List AV → Option α}, aResults P fr s rs κ = some r → ∃ vs, κ vs = some r ∧ ∀ {γ : Type} (κ' : List AV → Option γ), aResults P fr (addT H T s) rs κ' = κ' vs
  | [], κ, e => ⟨[], e, fun κ' => rfl⟩
  | rv :: rs, κ, e => by
    simp only [aResults] at e ⊢
    obtain ⟨v, e, h1⟩ := result_fr (T := T) h e
    obtain ⟨vs, e, h2⟩ := results_fr h rs e
    exact ⟨v :: vs, e, fun κ' => by rw [h1, h2]⟩
theorem ret_fr (rs : List ResultVar) : KFr H T (retK P rs) := fun fr s v s' h e => by
  unfold retK at e ⊢
  obtain ⟨vs, e, h2⟩ := results_fr (T := T) h rs e
  obtain ⟨rfl, rfl⟩ := Prod.mk.inj (Option.some.inj e)
  exact ⟨h, h2 _⟩
theorem top_fr (hC : CallFr H T call) {fuel : Nat} (c : Code) (rs : List ResultVar) : KFr H T (exec P call fuel nt c (topK P rs)) :=
  exec_fr hC c (topK P rs) (ret_fr rs) (fun id fr s v s' h e => by simp [topK] at e) (ret_fr rs)

theorem run_fr (P : Program) (H : Nat → Prop) (T : Nat → AObj) : ∀ k, CallFr H T (run P k)
  | 0 => fun f args s v s' h e => by simp [run] at e
  | k + 1 => fun f args s v s' h e => by
    have ih := run_fr P H T k
    unfold run at e ⊢
    cases hf : P.funcs[f]? with
    | none => rw [hf] at e; cases e
    | some fn =>
      rw [hf] at e
      simp only at e ⊢
      cases hc : fn.body with
      | none => rw [hc] at e; cases e
      | some c =>
        rw [hc] at e
        simp only at e ⊢
        split at e
        · cases e
        · rename_i hn
          rw [if_neg hn]
          split at e
          · rename_i hl
            rw [if_pos hl]
            exact top_fr ih c _ _ s v s' h e
          · cases e
end
end Go.Proofs.Ytkfdgegmahbkiaa.Sim
namespace Go.Proofs.Ytkfdgegmahbkiaa.Sim
open Go.RowKit (Below)
set_option linter.unusedSimpArgs false
set_option linter.unusedVariables false
section
variable {P : Program} {call : CallA} {B : Nat} {w0 : World} {ι : Nat → Loc} {s : Store} {w : World} {α : Type} {r : α} {nt : Nat} {ops : Array Oper} {n0 : Nat}

/-- A new row at an id that was kept for it. -/
theorem WR.fill {w' : World} (h : WR B w0 ι s w) {q : Nat} (hq : q < s.next) (hz : s.get q = .none) (o : AObj) (p : Loc) (ho0 : 0 < o.size) (h2 : w'.os = w.os) (h3 : w'.tape = w.tape) (h4 : w'.output = w.output)
    (hs : w.heap.size ≤ w'.heap.size) (hb : ∀ b, b < w.heap.size → w'.heap[b]? = w.heap[b]?) (hp : w.heap.size ≤ p.b)
    (ho : Later ι s w (fun j => if j = q then p else ι j) (s.set q o) w' → OR B (fun j => if j = q then p else ι j) (s.set q o) w' o p) :
    WR B w0 (fun j => if j = q then p else ι j) (s.set q o) w' ∧ Later ι s w (fun j => if j = q then p else ι j) (s.set q o) w' := by
  have g : ∀ l, l ≠ q → (s.set q o).get l = s.get l := fun l hl => by simp only [Store.set]; rw [if_neg hl]
  have gq : (s.set q o).get q = o := by simp [Store.set]
  have k : Later ι s w (fun j => if j = q then p else ι j) (s.set q o) w' := by
    refine ⟨Nat.le_refl _, fun l hl => ?_, fun l hl e => ?_, fun b hb' => bsz_same (hb b hb'), hs⟩
    · by_cases e : l = q
      · subst e; rw [hz]; exact Nat.zero_le _
      · rw [g l e]; exact Nat.le_refl _
    · by_cases e' : l = q
      · subst e'; rw [gq, hz] at e; have e2 : o.size = 0 := e; omega
      · simp only [if_neg e']
  refine ⟨⟨⟨h2.trans h.bel.os, h3.trans h.bel.tape, h4.trans h.bel.output, Nat.le_trans h.bel.size hs, fun b hb' => (hb b (Nat.lt_of_lt_of_le hb' h.hB)).trans (h.bel.block b hb')⟩, Nat.le_trans h.hB hs, fun l hl => ?_, fun l l' hl hl' hne hw hn => ?_, fun g => (h.glob g).later k⟩, k⟩
  · by_cases e : l = q
    · subst e
      simp only [if_pos]
      rw [gq]; exact ho k
    · rw [g l e]
      simp only [if_neg e]
      exact (h.obj l hl).later k (fun hn => hb _ (h.lt hl hn))
  · by_cases e : l = q
    · have e' : l' ≠ q := fun z => hne (e.trans z.symm)
      rw [g l' e'] at hn
      have := h.lt hl' hn
      simp only [if_pos e, if_neg e']
      omega
    · rw [g l e] at hw
      have hwl := AObj.live_wr hw
      by_cases e' : l' = q
      · have := h.lt hl hwl
        simp only [if_neg e, if_pos e']
        omega
      · rw [g l' e'] at hn
        simp only [if_neg e, if_neg e']
        exact h.sep l l' hl hl' hne hw hn

theorem fill_cells (hW : WR B w0 ι s w) {q : Nat} (hq : q < s.next) (hz : s.get q = .none) {cs : List AV} {c : Array Value} (ty : TypeId) (fz : Nat × Nat) (ro : Bool) {w' : World} (hw : w'.heap = w.heap.push (.cells c ty fz)) (h2 : w'.os = w.os) (h3 : w'.tape = w.tape) (h4 : w'.output = w.output)
    (hc : VRs ι s w cs (c.toList.take cs.length)) (h1 : ∀ y ∈ c.toList.take cs.length, y.oneCell' = true) (hro : ro = false → fz = (0, 0)) :
    ∃ ι', WR B w0 ι' (s.set q (.cells cs ro)) w' ∧ Later ι s w ι' (s.set q (.cells cs ro)) w' ∧ ι' q = ⟨w.heap.size, 0, 0⟩ := by
  have hlen : cs.length ≤ c.size := by have := hc.1; simp at this; omega
  obtain ⟨h5, h6⟩ := hW.fill hq hz (.cells cs ro) ⟨w.heap.size, 0, 0⟩ (Nat.succ_pos _) h2 h3 h4 (by rw [hw]; simp) (fun b hb => by rw [hw, Array.getElem?_push, if_neg (by omega)]) (Nat.le_refl _)
    (fun k => .inr ⟨c, ty, fz, by rw [hw]; simp, Nat.zero_le _, by simpa using hlen, by simpa using hc.later k, by simpa using h1, fun e => ⟨hro e, hW.hB⟩⟩)
  exact ⟨_, h5, h6, by simp⟩

theorem wp_value {o : Oper} {a : Act} {v' : Value} {w' : World} {K : Act → World → Prop} {Q : Exit → Act → World → Prop} (h : (execOp a.eval o).run P w = .ok (.value v') w') (hK : K (a.put o.dst v') w') : o.wp P a w K Q := by
  unfold Oper.wp
  rw [h]
  exact hK

/-- An operation that makes a new row: where it lies plays no part. -/
theorem alloc_run {o : Oper} (ha : opAlloc o.op = true) {fr : Fr} {q : Nat} {g : Nat → AObj} {v : AV} {s1 : Store} (h : aop P call (evalA fr) o ⟨q, g⟩ pairK = some (v, s1)) :
    ∃ ob : AObj, (∀ l, s1.get l = if l = q then ob else g l) ∧ ∀ {B : Nat} {w0 : World} {nt : Nat} {ι : Nat → Loc} {s : Store} {w : World} {a : Act}, FR nt ι s w fr a → WR B w0 ι s w → q < s.next → s.get q = .none → ∀ {K : Act → World → Prop} {Q : Exit → Act → World → Prop},
      (∀ v' w' ι', VR ι' (s.set q ob) w' v v' → WR B w0 ι' (s.set q ob) w' → Later ι s w ι' (s.set q ob) w' → K (a.put o.dst v') w') → o.wp P a w K Q := by
  cases hop : o.op <;> rw [hop] at ha <;> simp only [opAlloc, Bool.false_eq_true] at ha
  case alloc t =>
    unfold aop at h
    rw [hop] at h
    simp only at h
    split at h
    · rename_i zs hz
      unfold aNew pairK at h
      obtain ⟨rfl, rfl⟩ := Prod.mk.inj (Option.some.inj h)
      refine ⟨.cells zs false, fun l => rfl, fun {B w0 nt ι s w a} hF hW hq hn {K Q} hK => ?_⟩
      obtain ⟨i, z, hi, hzz, rfl, hone⟩ := zeros_of hz
      have e : z.cells.toList.take (z.cells.toList.map ofVal).length = z.cells.toList := List.take_of_length_le (by simp)
      obtain ⟨ι', h5, h6, h7⟩ := fill_cells hW hq hn (cs := z.cells.toList.map ofVal) (c := z.cells) t (0, 0) false (w' := w.alloc (.cells z.cells t)) rfl rfl rfl rfl (by rw [e]; exact vrs_ofVal ι s w _) (by rw [e]; exact hone) (fun _ => rfl)
      refine wp_value (v' := .pointer (some ⟨w.heap.size, 0, none⟩)) (w' := w.alloc (.cells z.cells t)) ?_ (hK _ _ ι' ?_ h5 h6)
      · unfold execOp
        simp only [hop]
        have hr : (newRow t z.cells >>= fun a => pure (Value.pointer (some a))).run P w = .ok (.pointer (some ⟨w.heap.size, 0, none⟩)) (w.alloc (.cells z.cells t)) := by simp [newRow]
        have h2 : ((newRow t z.cells >>= fun a => pure (Value.pointer (some a))) >>= fun a => (pure (Next.value a) : Sem Next)).run P w = .ok (.value (.pointer (some ⟨w.heap.size, 0, none⟩))) (w.alloc (.cells z.cells t)) := by rw [Sem.run_bind, hr]; rfl
        rw [Sem.run_bind, Instr.alloc, Sem.run_bind, run_zero hi hzz]
        rw [Sem.run_bind] at h2
        exact h2
      · exact .ptr hq (by simp [Store.set, AObj.size]) (fun _ => by rw [h7]; exact ⟨Nat.le_refl _, rfl⟩)
    · cases h
  case makeMap t n =>
    cases n with
    | some n => simp at ha
    | none =>
      unfold aop at h
      rw [hop] at h
      simp only at h
      unfold pairK at h
      obtain ⟨rfl, rfl⟩ := Prod.mk.inj (Option.some.inj h)
      refine ⟨.map [] ([], 0), fun l => rfl, fun {B w0 nt ι s w a} hF hW hq hn {K Q} hK => ?_⟩
      obtain ⟨h5, h6⟩ := hW.fill hq hn (.map [] ([], 0)) ⟨w.heap.size, 0, 0⟩ (w' := { w with heap := w.heap.push (.map #[] 0) }) (Nat.succ_pos _) rfl rfl rfl (by simp) (fun b hb => by simp only [Array.getElem?_push, if_neg (show ¬ b = w.heap.size by omega)]) (Nat.le_refl _)
        (fun _ => ⟨#[], 0, by simp, hW.hB, rfl, fun i k v hi => by simp at hi, rfl⟩)
      refine wp_value (v' := .map (some w.heap.size)) (w' := { w with heap := w.heap.push (.map #[] 0) }) ?_ (hK _ _ _ ?_ h5 h6)
      · unfold execOp
        simp only [hop]
        simp [Instr.makeMap]
      · exact .map hq (by simp [Store.set, AObj.size]) (fun _ => by simp)
  case buildSlice t n ps =>
    unfold aop at h
    rw [hop] at h
    simp only at h
    split at h
    · rename_i e he
      have hu := elem_of he
      split at h
      · rename_i zs c hz hc
        split at h
        · rename_i hn0
          rw [aBuild_nat] at h
          obtain ⟨cs, h1, h⟩ := Option.bind_eq_some_iff.1 h
          unfold pairK at h
          obtain ⟨rfl, rfl⟩ := Prod.mk.inj (Option.some.inj h)
          refine ⟨.cells cs false, fun l => rfl, fun {B w0 nt ι s w a} hF hW hq hn {K Q} hK => ?_⟩
          obtain ⟨cs', cc, k1, k2, k3, k4, k5, k6⟩ := buildSlice_core (P := P) hu hz hc hn0 h1 (hF.eval hW)
          obtain rfl := Option.some.inj k1
          obtain ⟨ι', h5, h6, h7⟩ := fill_cells hW hq hn (cs := cs') (c := cc) e (0, 0) false (w' := w.alloc (.cells cc e)) rfl rfl rfl rfl (by rw [List.take_of_length_le (by rw [k4.1]; exact Nat.le_refl _)]; exact k4) (by rw [List.take_of_length_le (by rw [k4.1]; exact Nat.le_refl _)]; exact k5) (fun _ => rfl)
          have hheap : (w.alloc (.cells cc e)).heap = w.heap.push (.cells cc e (0, 0)) := rfl
          refine wp_value (v' := .slice (some ⟨w.heap.size, 0, none⟩) n n) (w' := w.alloc (.cells cc e)) ?_ (hK _ _ ι' ?_ h5 h6)
          · unfold execOp
            simp only [hop]
            rw [Sem.run_bind, k6]
            rfl
          · refine .sl hq (by simp only [Store.set, if_pos, AObj.size, k2]; exact Nat.le_refl _) (fun _ => ⟨by rw [h7]; exact Nat.le_refl _, fun _ => ⟨by simp [h7], by rw [hheap]; simp, ?_⟩⟩) (Nat.le_refl _) (by omega)
            have : bsz (w.alloc (.cells cc e)) w.heap.size = cc.size := by unfold bsz; rw [hheap]; simp
            simp only [this, k3]; omega
        · cases h
      · cases h
    · cases h
  case makeSlice t n c =>
    unfold aop at h
    rw [hop] at h
    simp only at h
    split at h
    · rename_i e he
      have hu := elem_of he
      split at h
      · rename_i zs i hz hi
        split at h
        · rename_i hl
          unfold aMakeSlice at h
          split at h
          · rename_i a b hna hcb
            split at h
            · rename_i hab
              unfold pairK at h
              obtain ⟨rfl, rfl⟩ := Prod.mk.inj (Option.some.inj h)
              refine ⟨.cells (List.replicate a.toNat zs).flatten false, fun l => rfl, fun {B w0 nt ι s w ac} hF hW hq hn {K Q} hK => ?_⟩
              obtain ⟨h0, h1, h2, h3⟩ := hab
              obtain ⟨i', z, hi', hzz, rfl, hone⟩ := zeros_of hz
              obtain rfl : i = i' := Option.some.inj (hi.symm.trans hi')
              have hzl : z.cells.toList.length = i.size := by simpa using hl
              have hrun := run_make (P := P) w t e i z hu hi hzz .i64 .i64 a b h0 h1 (by rw [Int.mul_comm]; omega) h2
              have hzr : VRs ι s w (List.replicate a.toNat (z.cells.toList.map ofVal)).flatten (List.replicate a.toNat z.cells.toList).flatten := (vrs_ofVal ι s w z.cells.toList).replicate _
              have hlen : (List.replicate a.toNat (z.cells.toList.map ofVal)).flatten.length = a.toNat * i.size := by simp at hzl; simp [hzl]
              have htk : (madeCells z.cells (b.toNat * i.size)).toList.take (a.toNat * i.size) = (List.replicate a.toNat z.cells.toList).flatten := by
                by_cases hp : 0 < z.cells.toList.length
                · have := madeCells_take (zs := z.cells.toList) (n := a.toNat) (m := b.toNat) (by omega) hp
                  rw [hzl] at this
                  simpa using this
                · have hq : z.cells.toList = [] := List.length_eq_zero_iff.1 (by omega)
                  have : i.size = 0 := by rw [← hzl, hq]; rfl
                  rw [hq, this]; simp
              obtain ⟨ι', h5, h6, h7⟩ := fill_cells hW hq hn (cs := (List.replicate a.toNat (z.cells.toList.map ofVal)).flatten) (c := madeCells z.cells (b.toNat * i.size)) e (0, 0) false
                (w' := w.alloc (.cells (madeCells z.cells (b.toNat * i.size)) e)) rfl rfl rfl rfl (by rw [hlen, htk]; exact hzr) (by
                  rw [hlen, htk]
                  intro y hy
                  obtain ⟨l, hl1, hl2⟩ := List.mem_flatten.1 hy
                  rw [(List.mem_replicate.1 hl1).2] at hl2
                  exact hone y hl2) (fun _ => rfl)
              have vn := hF.eval hW n
              have vc := hF.eval hW c
              rw [hna] at vn
              rw [hcb] at vc
              have hheap : (w.alloc (.cells (madeCells z.cells (b.toNat * i.size)) e)).heap = w.heap.push (.cells (madeCells z.cells (b.toNat * i.size)) e (0, 0)) := rfl
              generalize hn' : ac.eval n = n' at vn
              generalize hc' : ac.eval c = c' at vc
              cases vn; cases vc
              refine wp_value (v' := .slice (some ⟨w.heap.size, 0, none⟩) a.toNat b.toNat) (w' := w.alloc (.cells (madeCells z.cells (b.toNat * i.size)) e)) ?_ (hK _ _ ι' ?_ h5 h6)
              · unfold execOp
                simp only [hop, hn', hc']
                rw [Sem.run_bind, hrun]
                rfl
              · refine .sl hq (by simp only [Store.set, if_pos, AObj.size, hlen]; exact Nat.le_refl _) (fun _ => ⟨by rw [h7]; exact Nat.le_refl _, fun _ => ⟨by simp [h7], by rw [hheap]; simp, ?_⟩⟩) (by omega) (by rw [Nat.zero_add]; exact Nat.mul_le_mul_right _ (by omega))
                have : bsz (w.alloc (.cells (madeCells z.cells (b.toNat * i.size)) e)) w.heap.size = (madeCells z.cells (b.toNat * i.size)).size := by unfold bsz; rw [hheap]; simp
                simp only [this, size_madeCells]; omega
            · cases h
          · cases h
        · cases h
      · cases h
    · cases h
end
end Go.Proofs.Ytkfdgegmahbkiaa.Sim
namespace Go.Proofs.Ytkfdgegmahbkiaa.Sim
open Go.RowKit (Below)
set_option linter.unusedSimpArgs false
set_option linter.unusedVariables false
section
variable {P : Program} {call : CallA} {B : Nat} {w0 : World} {ι : Nat → Loc} {s : Store} {w : World} {α : Type} {r : α} {nt : Nat} {ops : Array Oper} {n0 : Nat}

/-- The text's own order, laid out. -/
structure TrQ (P : Program) (call : CallA) (nt : Nat) (ops : Array Oper) (b : Array Nat) (n0 k : Nat) (l : List Oper) (H : List (Nat × Oper × Store)) (v : Nat → AV) (st : Nat → Store) (fr : Nat → Fr) : Prop where
  step : ∀ (j : Nat) (o : Oper), l[j]? = some o → stepQ P call ops b n0 (fr (k + j)) (k + j) o (st (k + j)) = some (v (k + j), st (k + j + 1))
  put : ∀ (j : Nat) (o : Oper), l[j]? = some o → (∀ t, fr (k + j + 1) t = if o.dst = some t then v (k + j) else fr (k + j) t) ∧ ∀ d, o.dst = some d → d < nt
  chkR : ∀ (i j : Nat) (oi o : Oper), i < j → l[i]? = some oi → l[j]? = some o → opRead P o.op = true → opW2 P oi.op = true → (b.getD (k + j) 0).testBit (k + i) = false → ∃ s', stepA P call ops (fr (k + j)) o (hideL (hidOf ops b n0 (k + j) (k + i)) (st (k + i))) = some (v (k + j), s')
  chkW : ∀ (i j : Nat) (oi o : Oper) (d : Tmp), i < j → l[i]? = some oi → l[j]? = some o → opW2 P o.op = true → opRead P oi.op = true → (b.getD (k + j) 0).testBit (k + i) = false → oi.dst = some d → ∃ s', stepA P call ops (fr (k + j)) oi (hideL (hidOf ops b n0 (k + i) (k + j + 1)) (st (k + j + 1))) = some (fr (k + j) d, s')
  hR : ∀ (j : Nat) (o : Oper), l[j]? = some o → ∀ h ∈ H, opRead P o.op = true → opW2 P h.2.1.op = true → (b.getD (k + j) 0).testBit h.1 = false → ∃ s', stepA P call ops (fr (k + j)) o (hideL (hidOf ops b n0 (k + j) h.1) h.2.2) = some (v (k + j), s')
  hW : ∀ (j : Nat) (o : Oper) (d : Tmp), l[j]? = some o → ∀ h ∈ H, opW2 P o.op = true → opRead P h.2.1.op = true → (b.getD (k + j) 0).testBit h.1 = false → h.2.1.dst = some d → ∃ s', stepA P call ops (fr (k + j)) h.2.1 (hideL (hidOf ops b n0 h.1 (k + j + 1)) (st (k + j + 1))) = some (fr (k + j) d, s')

theorem w2_not_read {o : Op} (h : opW2 P o = true) : ¬ opRead P o = true := by
  intro q; unfold opW2 opWrite at h; rw [q] at h; simp at h

theorem traceQ {b : Array Nat} {κ : Fr → Store → Option α} : ∀ (l : List Oper) (k : Nat) (H : List (Nat × Oper × Store)) (fr0 : Fr) (s0 : Store), execDrawQ P call nt ops b n0 κ ((l.zipIdx k).map fun p => (p.2, p.1)) H fr0 s0 = some r →
    ∃ v st fr, st k = s0 ∧ fr k = fr0 ∧ κ (fr (k + l.length)) (st (k + l.length)) = some r ∧ TrQ P call nt ops b n0 k l H v st fr
  | [], k, H, fr0, s0, h => ⟨fun _ => .junk, fun _ => s0, fun _ => fr0, rfl, rfl, h, ⟨fun j o hj => by simp at hj, fun j o hj => by simp at hj, fun i j oi o _ _ hj => by simp at hj, fun i j oi o d _ _ hj => by simp at hj, fun j o hj => by simp at hj, fun j o d hj => by simp at hj⟩⟩
  | o :: l, k, H, fr0, s0, h => by
    simp only [List.zipIdx_cons, List.map_cons, execDrawQ] at h
    obtain ⟨q, hq, h⟩ := Option.bind_eq_some_iff.1 h
    obtain ⟨hs, h⟩ := sames_use h
    have hput : ∃ fr1, (∀ t, fr1 t = if o.dst = some t then q.1 else fr0 t) ∧ (∀ d, o.dst = some d → d < nt) ∧ execDrawQ P call nt ops b n0 κ ((l.zipIdx (k + 1)).map fun p => (p.2, p.1)) ((k, o, s0) :: H) fr1 q.2 = some r := by
      unfold aPut at h
      split at h
      · rename_i hd; exact ⟨fr0, fun t => by rw [if_neg (by rw [hd]; simp)], fun d hd2 => (by rw [hd] at hd2; cases hd2), h⟩
      · rename_i t hd
        split at h
        · rename_i ht
          refine ⟨_, fun j => ?_, fun d hd2 => (by rw [hd] at hd2; rw [← Option.some.inj hd2]; exact ht), h⟩
          unfold upd
          by_cases e : j = t
          · rw [if_pos e, if_pos (by rw [hd, e])]
          · rw [if_neg e, if_neg (by rw [hd]; intro q; exact e (Option.some.inj q).symm)]
        · cases h
    obtain ⟨fr1, hf1, hf2, h⟩ := hput
    obtain ⟨v, st, fr, e1, e2, e3, T⟩ := traceQ l (k + 1) _ fr1 q.2 h
    have hk := @ins_k k
    have h0 := @ins_0 k
    have hk1 := @ins_k1 k
    have h01 := @ins_01 k
    have hb : ∀ j, k + (j + 1) = k + 1 + j := fun j => by omega
    have hb1 : ∀ j, k + (j + 1) + 1 = k + 1 + j + 1 := fun j => by omega
    refine ⟨ins k q.1 v, ins k s0 st, ins k fr0 fr, h0 _ _, h0 _ _, ?_, ?_⟩
    · have : k + (o :: l).length = k + 1 + l.length := by simp; omega
      rw [this]
      have n1 : k + 1 + l.length ≠ k := by omega
      simp only [ins, if_neg n1]
      exact e3
    · refine ⟨fun j o' hj => ?_, fun j o' hj => ?_, fun i j oi o' hij hi hj r1 r2 r3 => ?_, fun i j oi o' d hij hi hj r1 r2 r3 r4 => ?_, fun j o' hj hh hm r1 r2 r3 => ?_, fun j o' d hj hh hm r1 r2 r3 r4 => ?_⟩
      · cases j with
        | zero =>
          obtain rfl := Option.some.inj hj
          simp only [Nat.add_zero]
          rw [h0, h0, h0, h01, e1]
          exact hq
        | succ j => rw [hk, hk, hk, hk1, hb j]; exact T.step j o' (by simpa using hj)
      · cases j with
        | zero =>
          obtain rfl := Option.some.inj hj
          simp only [Nat.add_zero]
          rw [h0, h0, h01, e2]
          exact ⟨hf1, hf2⟩
        | succ j => rw [hk, hk, hk1]; exact T.put j o' (by simpa using hj)
      · cases j with
        | zero => omega
        | succ j =>
          rw [hk, hk]
          cases i with
          | zero =>
            obtain rfl := Option.some.inj hi
            simp only [Nat.add_zero] at r3 ⊢
            rw [h0]
            have := T.hR j o' (by simpa using hj) (k, o, s0) List.mem_cons_self r1 r2 (by rw [hb] at r3; exact r3)
            rw [hb j]; exact this
          | succ i =>
            rw [hk]
            have := T.chkR i j oi o' (by omega) (by simpa using hi) (by simpa using hj) r1 r2 (by rw [hb j, hb i] at r3; exact r3)
            rw [hb j, hb i]; exact this
      · cases j with
        | zero => omega
        | succ j =>
          rw [hk, hk1]
          cases i with
          | zero =>
            obtain rfl := Option.some.inj hi
            simp only [Nat.add_zero] at r3 ⊢
            have := T.hW j o' d (by simpa using hj) (k, o, s0) List.mem_cons_self r1 r2 (by rw [hb] at r3; exact r3) r4
            rw [hb1 j]; exact this
          | succ i =>
            have := T.chkW i j oi o' d (by omega) (by simpa using hi) (by simpa using hj) r1 r2 (by rw [hb j, hb i] at r3; exact r3) r4
            rw [hb1 j, hb i]; exact this
      · cases j with
        | zero =>
          obtain rfl := Option.some.inj hj
          simp only [Nat.add_zero] at r3 ⊢
          rw [h0, h0]
          have := hs (stepA P call ops fr0 o (hideL (hidOf ops b n0 k hh.1) hh.2.2), q.1) (by
            unfold chkQ
            rw [if_pos r1]
            exact List.mem_filterMap.2 ⟨hh, hm, by rw [if_pos ⟨r2, r3⟩]⟩)
          exact this
        | succ j => rw [hk, hk, hb j]; exact T.hR j o' (by simpa using hj) hh (List.mem_cons_of_mem _ hm) r1 r2 (by rw [hb] at r3; exact r3)
      · cases j with
        | zero =>
          obtain rfl := Option.some.inj hj
          simp only [Nat.add_zero] at r3 ⊢
          rw [h0, h01, e1]
          have := hs (stepA P call ops fr0 hh.2.1 (hideL (hidOf ops b n0 hh.1 (k + 1)) q.2), fr0 d) (by
            unfold chkQ
            rw [if_neg (w2_not_read r1), if_pos r1]
            exact List.mem_filterMap.2 ⟨hh, hm, by rw [if_pos ⟨r2, r3⟩, r4]; rfl⟩)
          exact this
        | succ j => rw [hk, hk1, hb1 j]; exact T.hW j o' d (by simpa using hj) hh (List.mem_cons_of_mem _ hm) r1 r2 (by rw [hb] at r3; exact r3) r4

/-! ### what the region is like -/
structure DrQ (P : Program) (ops : Array Oper) (b : Array Nat) : Prop where
  mixed : P.follows .mixedOrders = true
  back : ∀ (j : Nat) (o : Oper), ops[j]? = some o → ∀ e ∈ o.after.toList, Region.binds .any e = true → e.on < j
  slot : ∀ (j : Nat) (o : Oper), ops[j]? = some o → opRead P o.op = true → ∃ d, o.dst = some d
  seen : ∀ (i j : Nat) (oi o : Oper) (d : Tmp), ops[i]? = some oi → ops[j]? = some o → oi.dst = some d → d ∈ looks ops o → (b.getD j 0).testBit i = true ∨ (opRead P o.op = false ∧ j < i ∧ (b.getD i 0).testBit j = true)
  wr : ∀ (i j : Nat) (oi o : Oper), ops[i]? = some oi → ops[j]? = some o → i < j → opW2 P o.op = true → opW2 P oi.op = true → (b.getD j 0).testBit i = true
  one : ∀ (i j : Nat) (oi o : Oper) (d : Tmp), ops[i]? = some oi → ops[j]? = some o → i < j → oi.dst = some d → o.dst ≠ some d

theorem mem_rows2 {j : Nat} {o : Oper} (h : ops[j]? = some o) : (rowOf2 P ops o, j) ∈ (ops.toList.map (rowOf2 P ops)).zipIdx := by
  rw [List.mem_zipIdx_iff_getElem?]; simp [h]

theorem read_kind {o : Oper} (hr : opRead P o.op = true) : opAlloc o.op = false ∧ opPure P o.op = false := by
  cases hop : o.op <;> rw [hop] at hr <;> simp only [opRead, Bool.false_eq_true] at hr <;> simp only [opPure, opAlloc, true_and]
  · split at hr
    · rename_i h1 h2; rw [h1, h2]
    · cases hr
  · split at hr
    · rename_i hc
      rw [hc]
      simp only
      split at hr
      · rename_i hu; rw [hu]
      · cases hr
    · cases hr

theorem drq_of (h : drawOk P ops (ops.toList.map (rowOf2 P ops)) (Region.before ops).toList = true) : DrQ P ops (Region.before ops) := by
  unfold drawOk at h
  rw [Bool.and_eq_true, Bool.and_eq_true] at h
  obtain ⟨⟨hm, he⟩, h⟩ := h
  have h1 := fun (j : Nat) (o : Oper) (ho : ops[j]? = some o) => List.all_eq_true.1 h (rowOf2 P ops o, j) (mem_rows2 ho)
  simp only [Bool.and_eq_true] at h1
  have bit : ∀ j i, ((Region.before ops).toList.getD j 0).testBit i = ((Region.before ops).getD j 0).testBit i := fun j i => by simp
  have kr : ∀ o : Oper, opRead P o.op = true → (rowOf2 P ops o).2.2 = 1 := fun o hr => by
    obtain ⟨ha, hp⟩ := read_kind hr
    simp [rowOf2, hp, hr, ha]
  have kw : ∀ o : Oper, opW2 P o.op = true → (rowOf2 P ops o).2.2 = 2 := fun o hw => by
    unfold opW2 opWrite at hw
    rw [Bool.and_eq_true, Bool.and_eq_true] at hw
    simp only [Bool.not_eq_true'] at hw
    simp [rowOf2, hw.1.1, hw.1.2, hw.2]
  have kd : ∀ (o : Oper) d, o.dst = some d → (rowOf2 P ops o).1 = d + 1 := fun o d hd => by simp [rowOf2, hd]
  refine ⟨hm, fun j o ho e hem hb => ?_, fun j o ho hr => ?_, fun i j oi o d hi hj hd hl => ?_, fun i j oi o hi hj hij hw hwi => ?_, fun i j oi o d hi hj hij hd => ?_⟩
  · have := List.all_eq_true.1 (List.all_eq_true.1 he (o, j) (mem_zip ho)) e hem
    rw [hb] at this
    simpa using this
  · have := (h1 j o ho).1
    simp only [kr o hr] at this
    cases hd : o.dst with
    | none => simp [rowOf2, hd] at this
    | some d => exact ⟨d, rfl⟩
  · have := List.all_eq_true.1 (h1 j o hj).2 (rowOf2 P ops oi, i) (mem_rows2 hi)
    rw [Bool.and_eq_true] at this
    have := this.1
    simp only [kd oi d hd, bit] at this
    rw [Bool.or_eq_true, Bool.or_eq_true, Bool.or_eq_true] at this
    rcases this with ((h2 | h2) | h2) | h2
    · simp at h2
    · have hex : ((rowOf2 P ops o).2.1.any fun t => Nat.beq (t + 1) (d + 1)) = true := List.any_eq_true.2 ⟨d, hl, by simp⟩
      rw [hex] at h2; cases h2
    · exact .inl h2
    · rw [Bool.and_eq_true, Bool.and_eq_true] at h2
      refine .inr ⟨?_, by simpa using h2.1.2, h2.2⟩
      cases hr : opRead P o.op
      · rfl
      · rw [kr o hr] at h2; simp at h2
  · have := List.all_eq_true.1 (h1 j o hj).2 (rowOf2 P ops oi, i) (mem_rows2 hi)
    rw [Bool.and_eq_true] at this
    have := this.2
    have hb : Nat.blt i j = true := by simpa using hij
    simp only [hb, kw o hw, kw oi hwi, bit, Bool.not_true, Bool.false_or, Bool.and_eq_true] at this
    have := this.1
    simpa using this
  · have := List.all_eq_true.1 (h1 j o hj).2 (rowOf2 P ops oi, i) (mem_rows2 hi)
    rw [Bool.and_eq_true] at this
    have := this.2
    have hb : Nat.blt i j = true := by simpa using hij
    simp only [hb, Bool.not_true, Bool.false_or, Bool.and_eq_true] at this
    intro hd2
    have := this.2
    simp only [kd o d hd2, kd oi d hd] at this
    simp at this

theorem ancQ_lt (D : DrQ P ops (Region.before ops)) : ∀ j i, ((Region.before ops).getD j 0).testBit i = true → i < j := by
  intro j
  induction j using Nat.strongRecOn with
  | _ j ih =>
    intro i h
    obtain ⟨o, ho, e, he, hb, h1 | ⟨h1, h2⟩⟩ := before_spec ops h
    · have := D.back j o ho e he hb; omega
    · have := ih e.on h1 i h2; omega
theorem ancQ_in {L : Nat → Prop} (hcl : ∀ (j : Nat) (o : Oper), ops[j]? = some o → L j → ∀ e ∈ o.after.toList, Region.binds .any e = true → L e.on) : ∀ j i, ((∀ o, ops[j]? = some o → ∀ e ∈ o.after.toList, Region.binds .any e = true → L e.on)) →
    ((Region.before ops).getD j 0).testBit i = true → L i := by
  intro j
  induction j using Nat.strongRecOn with
  | _ j ih =>
    intro i hj h
    obtain ⟨o, ho, e, he, hb, h1 | ⟨h1, h2⟩⟩ := before_spec ops h
    · rw [← h1]; exact hj o ho e he hb
    · exact ih e.on h1 i (fun o' ho' => hcl e.on o' ho' (hj o ho e he hb)) h2

/-! ### rows that are kept -/
theorem mem_hid {b : Array Nat} {p q l : Nat} : l ∈ hidOf ops b n0 p q ↔ ∃ i, i < q ∧ allocAt ops i = true ∧ (b.getD p 0).testBit i = false ∧ l = n0 + i := by
  unfold hidOf
  rw [List.mem_filterMap]
  constructor
  · rintro ⟨i, hi, e⟩
    split at e
    · rename_i hc
      rw [Bool.and_eq_true] at hc
      exact ⟨i, List.mem_range.1 hi, hc.1, by simpa using hc.2, (Option.some.inj e).symm⟩
    · cases e
  · rintro ⟨i, h1, h2, h3, h4⟩
    exact ⟨i, List.mem_range.2 h1, by rw [if_pos (by rw [h2, h3]; rfl), h4]⟩
theorem alloc_at {j : Nat} {o : Oper} (h : ops[j]? = some o) : allocAt ops j = opAlloc o.op := by unfold allocAt; rw [h]
theorem alloc_lt {j : Nat} (h : allocAt ops j = true) : ∃ o, ops[j]? = some o ∧ opAlloc o.op = true := by
  unfold allocAt at h
  split at h
  · rename_i o ho; exact ⟨o, ho, h⟩
  · cases h
/-- The rows that an operation doesn't need, or that come from the place x on. -/
def HX (ops : Array Oper) (b : Array Nat) (n0 j x l : Nat) : Prop := ∃ i, allocAt ops i = true ∧ ((b.getD j 0).testBit i = false ∨ x ≤ i) ∧ l = n0 + i
theorem hide_eq {b : Array Nat} {j x : Nat} (hz : ∀ i, x ≤ i → allocAt ops i = true → s.get (n0 + i) = .none) : hideL (hidOf ops b n0 j x) s = addT (HX ops b n0 j x) (fun _ => .none) s := by
  unfold hideL addT
  congr 1
  funext l
  by_cases h : HX ops b n0 j x l
  · rw [if_pos h]
    obtain ⟨i, h1, h2, rfl⟩ := h
    by_cases hm : n0 + i ∈ hidOf ops b n0 j x
    · rw [if_pos hm]
    · rw [if_neg hm]
      refine hz i ?_ h1
      rcases h2 with h2 | h2
      · rcases Nat.lt_or_ge i x with h3 | h3
        · exact absurd (mem_hid.2 ⟨i, h3, h1, h2, rfl⟩) hm
        · exact h3
      · exact h2
  · rw [if_neg h, if_neg]
    intro hm
    obtain ⟨i, h1, h2, h3, rfl⟩ := mem_hid.1 hm
    exact h ⟨i, h2, .inl h3, rfl⟩
theorem addT_back (H : Nat → Prop) (T : Nat → AObj) (s : Store) (h : ∀ l, H l → T l = s.get l) : addT H T (addT H (fun _ => .none) s) = s := by
  cases s with
  | mk n g =>
    unfold addT
    congr 1
    funext l
    by_cases e : H l
    · simp [e, h l e]
    · simp [e]
theorem none_hid (H : Nat → Prop) (s : Store) (h : ∀ l, H l → l < s.next) : Hid H (addT H (fun _ => .none) s) := fun l hl => ⟨by simp [addT, hl], h l hl⟩

/-- What a guarded new row does. -/
theorem stepA_alloc {o : Oper} (ha : opAlloc o.op = true) {fr : Fr} {q : Nat} {g : Nat → AObj} {v : AV} {s1 : Store} (h : stepA P call ops fr o ⟨q, g⟩ = some (v, s1)) :
    (aop P call (evalA fr) o ⟨q, g⟩ pairK = some (v, s1) ∧ ∃ ob, ∀ l, s1.get l = if l = q then ob else g l) ∨ (s1.get = g ∧ v = .tuple [] ∧ ∀ s2, stepA P call ops fr o s2 = some (.tuple [], s2)) := by
  unfold stepA at h ⊢
  cases hg : o.guard with
  | none =>
    rw [hg] at h
    obtain ⟨ob, h1, _⟩ := alloc_run ha h
    exact .inl ⟨h, ob, h1⟩
  | some jw =>
    obtain ⟨j, want⟩ := jw
    rw [hg] at h
    simp only at h ⊢
    cases ht : (ops[j]?).bind (·.dst) with
    | none => rw [ht] at h; cases h
    | some t =>
      rw [ht] at h
      simp only at h ⊢
      rcases guard_use h with ⟨h1, h2⟩ | ⟨h1, h2, h3⟩
      · obtain ⟨ob, k1, _⟩ := alloc_run ha h2
        exact .inl ⟨h2, ob, k1⟩
      · obtain ⟨rfl, rfl⟩ := Prod.mk.inj h2
        exact .inr ⟨rfl, rfl, fun s2 => h3 _ _⟩

section
variable {v : Nat → AV} {st : Nat → Store} {fr : Nat → Fr} {b : Array Nat}

theorem trq_get {H : List (Nat × Oper × Store)} (T : TrQ P call nt ops b n0 0 ops.toList H v st fr) (j : Nat) (o : Oper) (h : ops[j]? = some o) :
    stepQ P call ops b n0 (fr j) j o (st j) = some (v j, st (j + 1)) ∧ (∀ t, fr (j + 1) t = if o.dst = some t then v j else fr j t) ∧ ∀ d, o.dst = some d → d < nt := by
  have h' : ops.toList[j]? = some o := by simpa using h
  have h1 := T.step j o h'
  have h2 := T.put j o h'
  simp only [Nat.zero_add] at h1 h2
  exact ⟨h1, h2.1, h2.2⟩
theorem trq_alloc (T : TrQ P call nt ops b n0 0 ops.toList [] v st fr) {j : Nat} {o : Oper} (h : ops[j]? = some o) (ha : opAlloc o.op = true) : ∃ s1, stepA P call ops (fr j) o ⟨n0 + j, (st j).get⟩ = some (v j, s1) ∧ st (j + 1) = ⟨(st j).next, s1.get⟩ := by
  have := (trq_get T j o h).1
  unfold stepQ at this
  rw [if_pos ha] at this
  exact at_of this
theorem trq_step (T : TrQ P call nt ops b n0 0 ops.toList [] v st fr) {j : Nat} {o : Oper} (h : ops[j]? = some o) (ha : opAlloc o.op = false) : ∃ s1, stepA P call ops (fr j) o (hideL (hidOf ops b n0 j j) (st j)) = some (v j, s1) ∧ st (j + 1) = backL (hidOf ops b n0 j j) (st j) s1 := by
  have := (trq_get T j o h).1
  unfold stepQ at this
  rw [if_neg (by rw [ha]; simp)] at this
  exact under_of this

theorem back_hide (L : List Nat) (s : Store) : backL L s (hideL L s) = s := by
  cases s with
  | mk n g =>
    unfold backL hideL
    congr 1
    funext l
    by_cases e : l ∈ L
    · simp [e]
    · simp [e]

/-- An operation's step: other rows than its own stay, if it only reckons or reads or makes a row. -/
theorem keep1 (T : TrQ P call nt ops b n0 0 ops.toList [] v st fr) {j : Nat} {o : Oper} (h : ops[j]? = some o) (hw : opW2 P o.op = false) : (st (j + 1)).next = (st j).next ∧ ∀ l, (allocAt ops j = true → l ≠ n0 + j) → (st (j + 1)).get l = (st j).get l := by
  cases ha : opAlloc o.op
  · obtain ⟨s1, h1, h2⟩ := trq_step T h ha
    have hw' : opWrite P o.op = false := by unfold opW2 at hw; rw [ha] at hw; simpa using hw
    obtain rfl := stepA_keeps hw' h1
    rw [back_hide] at h2
    rw [h2]
    exact ⟨rfl, fun _ _ => rfl⟩
  · obtain ⟨s1, h1, h2⟩ := trq_alloc T h ha
    rw [h2]
    refine ⟨rfl, fun l hl => ?_⟩
    have hne := hl (by rw [alloc_at h]; exact ha)
    rcases stepA_alloc ha h1 with ⟨_, ob, k⟩ | ⟨k, _⟩
    · show s1.get l = _
      rw [k, if_neg hne]
    · show s1.get l = _
      rw [k]
theorem keepN (T : TrQ P call nt ops b n0 0 ops.toList [] v st fr) (x : Nat) : ∀ d, x + d ≤ ops.size → (∀ (j : Nat) (o : Oper), x ≤ j → j < x + d → ops[j]? = some o → opW2 P o.op = false) → (st (x + d)).next = (st x).next ∧ ∀ l, (∀ j, x ≤ j → j < x + d → allocAt ops j = true → l ≠ n0 + j) → (st (x + d)).get l = (st x).get l
  | 0, _, _ => ⟨rfl, fun _ _ => rfl⟩
  | d + 1, hd, hn => by
    have ho : ops[x + d]? = some (ops[x + d]'(by omega)) := Array.getElem?_eq_getElem (by omega)
    obtain ⟨h1, h2⟩ := keep1 T ho (hn (x + d) _ (by omega) (by omega) ho)
    obtain ⟨k1, k2⟩ := keepN T x d (by omega) (fun j o h1 h2 h3 => hn j o h1 (by omega) h3)
    rw [show x + (d + 1) = x + d + 1 by omega]
    exact ⟨h1.trans k1, fun l hl => (h2 l (hl (x + d) (by omega) (by omega))).trans (k2 l fun j g1 g2 => hl j g1 (by omega))⟩
theorem keep' (T : TrQ P call nt ops b n0 0 ops.toList [] v st fr) {x y : Nat} (hxy : x ≤ y) (hy : y ≤ ops.size) (hn : ∀ (j : Nat) (o : Oper), x ≤ j → j < y → ops[j]? = some o → opW2 P o.op = false) : (st y).next = (st x).next ∧ ∀ l, (∀ j, x ≤ j → j < y → allocAt ops j = true → l ≠ n0 + j) → (st y).get l = (st x).get l := by
  have := keepN T x (y - x) (by omega) (fun j o h1 h2 h3 => hn j o h1 (by omega) h3)
  rw [show x + (y - x) = y by omega] at this
  exact this

/-- A row that is not there yet: nobody makes it but its own operation. -/
theorem none_inv (hC : ∀ H T, CallFr H T call) (hb : ∀ j i, (b.getD j 0).testBit i = true → i < j) (T : TrQ P call nt ops b n0 0 ops.toList [] v st fr) (h0 : ∀ i, allocAt ops i = true → (st 0).get (n0 + i) = .none ∧ n0 + i < (st 0).next) :
    ∀ j, j ≤ ops.size → ∀ i, j ≤ i → allocAt ops i = true → (st j).get (n0 + i) = .none ∧ n0 + i < (st j).next
  | 0, _, i, _, ha => h0 i ha
  | j + 1, hj, i, hi, ha => by
    have ih := none_inv hC hb T h0 j (by omega)
    have ho : ops[j]? = some (ops[j]'(by omega)) := Array.getElem?_eq_getElem (by omega)
    generalize ops[j]'(by omega) = o at ho
    cases hal : opAlloc o.op
    · obtain ⟨s1, h1, h2⟩ := trq_step T ho hal
      have hh : Hid (fun l => l = n0 + i) (hideL (hidOf ops b n0 j j) (st j)) := fun l hl => by
        subst hl
        have := ih i (by omega) ha
        refine ⟨?_, this.2⟩
        unfold hideL
        by_cases e : n0 + i ∈ hidOf ops b n0 j j
        · simp [e]
        · simp [e, this.1]
      have k := (stepA_fr (T := fun _ => .none) (hC _ _) hh h1).1 (n0 + i) rfl
      rw [h2]
      refine ⟨?_, k.2⟩
      unfold backL
      have hno : n0 + i ∉ hidOf ops b n0 j j := fun hm => by
        obtain ⟨i', g1, _, _, g4⟩ := mem_hid.1 hm
        omega
      simp only [if_neg hno]
      exact k.1
    · obtain ⟨h1, h2⟩ := keep1 T ho (by unfold opW2; rw [hal]; simp)
      rw [h1, h2 (n0 + i) (fun _ => by omega)]
      exact ih i (by omega) ha

/-- A row for which nobody of these waits stays as it is. -/
theorem row_keep (T : TrQ P call nt ops b n0 0 ops.toList [] v st fr) {i : Nat} (hi : allocAt ops i = true) : ∀ d, i + 1 + d ≤ ops.size → (∀ (p : Nat) (o : Oper), i < p → p < i + 1 + d → ops[p]? = some o → opW2 P o.op = true → (b.getD p 0).testBit i = false) → (st (i + 1 + d)).get (n0 + i) = (st (i + 1)).get (n0 + i)
  | 0, _, _ => rfl
  | d + 1, hd, hn => by
    have ho : ops[i + 1 + d]? = some (ops[i + 1 + d]'(by omega)) := Array.getElem?_eq_getElem (by omega)
    generalize ops[i + 1 + d]'(by omega) = o at ho
    have ih := row_keep T hi d (by omega) (fun p o h1 h2 => hn p o h1 (by omega))
    rw [show i + 1 + (d + 1) = i + 1 + d + 1 by omega, ← ih]
    cases hw : opW2 P o.op
    · exact (keep1 T ho hw).2 _ (fun _ => by omega)
    · have hal : opAlloc o.op = false := by
        cases h : opAlloc o.op
        · rfl
        · unfold opW2 at hw; rw [h] at hw; simp at hw
      obtain ⟨s1, _, h2⟩ := trq_step T ho hal
      rw [h2]
      unfold backL
      have : n0 + i ∈ hidOf ops b n0 (i + 1 + d) (i + 1 + d) := mem_hid.2 ⟨i, by omega, hi, hn _ _ (by omega) (by omega) ho hw, rfl⟩
      simp only [if_pos this]
end
end
end Go.Proofs.Ytkfdgegmahbkiaa.Sim
namespace Go.Proofs.Ytkfdgegmahbkiaa.Sim
open Go.RowKit (Below)
set_option linter.unusedSimpArgs false
set_option linter.unusedVariables false
section
variable {P : Program} {call : CallA} {B : Nat} {w0 : World} {ι : Nat → Loc} {s : Store} {w : World} {α : Type} {r : α} {nt : Nat} {ops : Array Oper} {n0 : Nat}

/-- The store of a state in which the operations of L have been done, the writers among them those ahead of m. -/
noncomputable def SQ (ops : Array Oper) (n0 : Nat) (st : Nat → Store) (L : Nat → Prop) (m : Nat) : Store := open Classical in
  ⟨(st m).next, fun l => if ∃ i, allocAt ops i = true ∧ l = n0 + i then (if L (l - n0) then (st (max m (l - n0 + 1))).get l else .none) else (st m).get l⟩

section
variable {v : Nat → AV} {st : Nat → Store} {fr : Nat → Fr} {b : Array Nat} {L : Nat → Prop} {m : Nat}
theorem SQ_in {i : Nat} (h : allocAt ops i = true) (hL : L i) : (SQ ops n0 st L m).get (n0 + i) = (st (max m (i + 1))).get (n0 + i) := by
  unfold SQ
  simp only
  rw [if_pos ⟨i, h, rfl⟩, show n0 + i - n0 = i by omega, if_pos hL]
theorem SQ_out {i : Nat} (h : allocAt ops i = true) (hL : ¬ L i) : (SQ ops n0 st L m).get (n0 + i) = .none := by
  unfold SQ
  simp only
  rw [if_pos ⟨i, h, rfl⟩, show n0 + i - n0 = i by omega, if_neg hL]
theorem SQ_off {l : Nat} (h : ∀ i, allocAt ops i = true → l ≠ n0 + i) : (SQ ops n0 st L m).get l = (st m).get l := by
  unfold SQ
  simp only
  rw [if_neg (fun ⟨i, h1, h2⟩ => h i h1 h2)]
theorem store_ext {s s' : Store} (h1 : s.next = s'.next) (h2 : ∀ l, s.get l = s'.get l) : s = s' := by
  cases s; cases s'
  simp only at h1 h2
  subst h1
  congr 1
  funext l; exact h2 l

def NoW (P : Program) (ops : Array Oper) (x y : Nat) : Prop := ∀ (j : Nat) (o : Oper), x ≤ j → j < y → ops[j]? = some o → opW2 P o.op = false

theorem same_x (T : TrQ P call nt ops b n0 0 ops.toList [] v st fr) {x y : Nat} (hx : x ≤ ops.size) (hy : y ≤ ops.size) (h1 : NoW P ops x y) (h2 : NoW P ops y x) : (st y).next = (st x).next ∧ ∀ l, (∀ j, (x ≤ j ∨ y ≤ j) → allocAt ops j = true → l ≠ n0 + j) → (st y).get l = (st x).get l := by
  rcases Nat.le_total x y with h | h
  · obtain ⟨k1, k2⟩ := keep' T h hy h1
    exact ⟨k1, fun l hl => k2 l fun j g1 g2 => hl j (.inl g1)⟩
  · obtain ⟨k1, k2⟩ := keep' T h hx h2
    exact ⟨k1.symm, fun l hl => (k2 l fun j g1 g2 => hl j (.inr g1)).symm⟩

/-- Without what an operation doesn't need a state's store is the text's own. -/
theorem cmp (T : TrQ P call nt ops b n0 0 ops.toList [] v st fr) {x j : Nat} (hx : x ≤ ops.size) (hm : m ≤ ops.size) (h1 : NoW P ops x m) (h2 : NoW P ops m x) (hanc : ∀ i, (b.getD j 0).testBit i = true → L i) :
    addT (HX ops b n0 j x) (fun _ => .none) (SQ ops n0 st L m) = addT (HX ops b n0 j x) (fun _ => .none) (st x) := by
  obtain ⟨k1, k2⟩ := same_x T hx hm h1 h2
  refine store_ext k1 fun l => ?_
  by_cases h : HX ops b n0 j x l
  · rw [addT_hid h, addT_hid h]
  · rw [addT_get h, addT_get h]
    by_cases hA : ∃ i, allocAt ops i = true ∧ l = n0 + i
    · obtain ⟨i, ha, rfl⟩ := hA
      have hbit : (b.getD j 0).testBit i = true := by
        cases hb : (b.getD j 0).testBit i
        · exact absurd ⟨i, ha, .inl hb, rfl⟩ h
        · rfl
      have hix : i < x := by
        rcases Nat.lt_or_ge i x with q | q
        · exact q
        · exact absurd ⟨i, ha, .inr q, rfl⟩ h
      rw [SQ_in ha (hanc i hbit)]
      obtain ⟨o, ho, _⟩ := alloc_lt ha
      have hi := lt_of_get ho
      have e := same_x T (x := x) (y := max m (i + 1)) hx (by omega) (fun q o g1 g2 g3 => by
        rcases Nat.lt_or_ge q m with g | g
        · exact h1 q o g1 g g3
        · omega) (fun q o g1 g2 g3 => h2 q o (by omega) g2 g3)
      exact e.2 _ fun q hq _ => by omega
    · have hoff : ∀ i, allocAt ops i = true → l ≠ n0 + i := fun i h1 h2 => hA ⟨i, h1, h2⟩
      rw [SQ_off hoff]
      exact k2 l fun i _ h2 => hoff i h2

/-- What an operation comes to here. -/
theorem frame_at (hC : ∀ H T, CallFr H T call) (T : TrQ P call nt ops b n0 0 ops.toList [] v st fr) {x j : Nat} (hx : x ≤ ops.size) (hm : m ≤ ops.size) (h1 : NoW P ops x m) (h2 : NoW P ops m x) (hanc : ∀ i, (b.getD j 0).testBit i = true → L i)
    (hz : ∀ i, x ≤ i → allocAt ops i = true → (st x).get (n0 + i) = .none) (hnx : n0 + ops.size ≤ (st m).next) {f : Fr} {o : Oper} {u : AV} {s1 : Store} (h : stepA P call ops f o (hideL (hidOf ops b n0 j x) (st x)) = some (u, s1)) :
    stepA P call ops f o (SQ ops n0 st L m) = some (u, addT (HX ops b n0 j x) (SQ ops n0 st L m).get s1) := by
  rw [hide_eq hz, ← cmp (L := L) (m := m) T hx hm h1 h2 hanc] at h
  have := (stepA_fr (T := (SQ ops n0 st L m).get) (hC _ _) (none_hid _ _ fun l hl => by
    obtain ⟨i, ha, _, rfl⟩ := hl
    obtain ⟨o', ho', _⟩ := alloc_lt ha
    have := lt_of_get ho'
    show n0 + i < (st m).next
    omega) h).2
  rw [addT_back _ _ _ (fun _ _ => rfl)] at this
  exact this

/-! ### frames -/
theorem frq_new {H : List (Nat × Oper × Store)} (D : DrQ P ops b) (T : TrQ P call nt ops b n0 0 ops.toList H v st fr) (i : Nat) (oi : Oper) (t : Tmp) (hi : ops[i]? = some oi) (hd : oi.dst = some t) : ∀ d, i + 1 + d ≤ ops.size → fr (i + 1 + d) t = v i
  | 0, _ => by rw [(trq_get T i oi hi).2.1, if_pos hd]
  | d + 1, hl => by
    have ho : ops[i + 1 + d]? = some (ops[i + 1 + d]'(by omega)) := Array.getElem?_eq_getElem (by omega)
    rw [show i + 1 + (d + 1) = i + 1 + d + 1 by omega, (trq_get T _ _ ho).2.1, if_neg (D.one i (i + 1 + d) oi _ t hi ho (by omega) hd)]
    exact frq_new D T i oi t hi hd d (by omega)
theorem frq_old {H : List (Nat × Oper × Store)} (T : TrQ P call nt ops b n0 0 ops.toList H v st fr) (t : Tmp) : ∀ j, j ≤ ops.size → (∀ (i : Nat) (oi : Oper), i < j → ops[i]? = some oi → oi.dst ≠ some t) → fr j t = fr 0 t
  | 0, _, _ => rfl
  | j + 1, hl, hn => by
    have ho : ops[j]? = some (ops[j]'(by omega)) := Array.getElem?_eq_getElem (by omega)
    rw [(trq_get T j _ ho).2.1, if_neg (hn j _ (by omega) ho)]
    exact frq_old T t j (by omega) (fun i oi h1 h2 => hn i oi (by omega) h2)
theorem looksq_text {H : List (Nat × Oper × Store)} (D : DrQ P ops (Region.before ops)) (T : TrQ P call nt ops (Region.before ops) n0 0 ops.toList H v st fr) {j q : Nat} {o : Oper} (ho : ops[j]? = some o) (hr : opRead P o.op = true) (hq : j ≤ q) (hqn : q ≤ ops.size) : ∀ t ∈ looks ops o, fr q t = fr j t := by
  intro t ht
  by_cases hx : ∃ (i : Nat) (oi : Oper), ops[i]? = some oi ∧ oi.dst = some t
  · obtain ⟨i, oi, hi, hd⟩ := hx
    have hij := ancQ_lt D j i ((D.seen i j oi o t hi ho hd ht).resolve_right (fun h => by rw [hr] at h; cases h.1))
    have h1 := frq_new D T i oi t hi hd (q - (i + 1)) (by omega)
    have h2 := frq_new D T i oi t hi hd (j - (i + 1)) (by have := lt_of_get ho; omega)
    rw [show i + 1 + (q - (i + 1)) = q by omega] at h1
    rw [show i + 1 + (j - (i + 1)) = j by omega] at h2
    rw [h1, h2]
  · have hno : ∀ (i : Nat) (oi : Oper), ops[i]? = some oi → oi.dst ≠ some t := fun i oi h1 h2 => hx ⟨i, oi, h1, h2⟩
    rw [frq_old T t q hqn (fun i oi _ h => hno i oi h), frq_old T t j (by have := lt_of_get ho; omega) (fun i oi _ h => hno i oi h)]

structure MidQ (P : Program) (B : Nat) (w0 : World) (nt : Nat) (ops : Array Oper) (n0 : Nat) (v : Nat → AV) (st : Nat → Store) (fr : Nat → Fr) (ι0 : Nat → Loc) (s0 : Store) (w1 : World) (L : Nat → Prop) (a : Act) (w : World) (ι : Nat → Loc) (m : Nat) (frD : Fr) : Prop where
  le : m ≤ ops.size
  wr : ∀ (i : Nat) (o : Oper), ops[i]? = some o → opW2 P o.op = true → (L i ↔ i < m)
  new : ∀ (i : Nat) (o : Oper) (t : Tmp), ops[i]? = some o → o.dst = some t → L i → frD t = v i
  old : ∀ t, (∀ (i : Nat) (o : Oper), ops[i]? = some o → o.dst = some t → ¬ L i) → frD t = fr 0 t
  nx : n0 + ops.size ≤ (st m).next
  frm : FR nt ι (SQ ops n0 st L m) w frD a
  wrl : WR B w0 ι (SQ ops n0 st L m) w
  lat : Later ι0 s0 w1 ι (SQ ops n0 st L m) w

variable {ι0 : Nat → Loc} {s0 : Store} {w1 : World}

/-- One operation that may be next. -/
theorem midq_step (hB : Bodied P call) (hC : CallOk P B w0 call) (hCf : ∀ H T, CallFr H T call) (D : DrQ P ops (Region.before ops)) (T : TrQ P call nt ops (Region.before ops) n0 0 ops.toList [] v st fr)
    (hN : ∀ j, j ≤ ops.size → ∀ i, j ≤ i → allocAt ops i = true → (st j).get (n0 + i) = .none)
    {L : Nat → Prop} (hcl : ∀ (j : Nat) (o : Oper), ops[j]? = some o → L j → ∀ e ∈ o.after.toList, Region.binds .any e = true → L e.on)
    {a : Act} {w : World} {ι : Nat → Loc} {m : Nat} {frD : Fr} (M : MidQ P B w0 nt ops n0 v st fr ι0 s0 w1 L a w ι m frD) {j : Nat} {o : Oper} (ho : ops[j]? = some o) (hnl : ¬ L j) (hrd : ∀ e ∈ o.after.toList, Region.binds .any e = true → L e.on)
    {Q : Exit → Act → World → Prop} {K : Act → World → Prop} (hK : ∀ a' w' ι' m' frD', MidQ P B w0 nt ops n0 v st fr ι0 s0 w1 (fun i => i = j ∨ L i) a' w' ι' m' frD' → K a' w') : wpOp P ops Q j K a w := by
  have hjn := lt_of_get ho
  have anc : ∀ i, ((Region.before ops).getD j 0).testBit i = true → L i := fun i hi => ancQ_in hcl j i (fun o' ho' => by rw [ho] at ho'; rw [← Option.some.inj ho']; exact hrd) hi
  have ancL : ∀ q, L q → ∀ i, ((Region.before ops).getD q 0).testBit i = true → L i := fun q hq i hi => ancQ_in hcl q i (fun o' ho' => hcl q o' ho' hq) hi
  have hlook : ∀ t ∈ looks ops o, frD t = fr j t := by
    intro t ht
    by_cases hx : ∃ (i : Nat) (oi : Oper), ops[i]? = some oi ∧ oi.dst = some t
    · obtain ⟨i, oi, hi, hd⟩ := hx
      rcases D.seen i j oi o t hi ho hd ht with hb | ⟨_, hji, hb⟩
      · have hij := ancQ_lt D j i hb
        have h2 := frq_new D T i oi t hi hd (j - (i + 1)) (by omega)
        rw [show i + 1 + (j - (i + 1)) = j by omega] at h2
        rw [M.new i oi t hi hd (anc i hb), h2]
      · have only : ∀ (q : Nat) (oq : Oper), ops[q]? = some oq → oq.dst = some t → q = i := fun q oq h1 h2 => by
          rcases Nat.lt_trichotomy q i with h3 | h3 | h3
          · exact absurd hd (D.one q i oq oi t h1 hi h3 h2)
          · exact h3
          · exact absurd h2 (D.one i q oi oq t hi h1 h3 hd)
        rw [M.old t (fun q oq h1 h2 h3 => by
          have := only q oq h1 h2
          subst this
          exact hnl (ancL q h3 j hb)), frq_old T t j (by omega) (fun q oq h0 h1 h2 => by have := only q oq h1 h2; omega)]
    · have hno : ∀ (i : Nat) (oi : Oper), ops[i]? = some oi → oi.dst ≠ some t := fun i oi h1 h2 => hx ⟨i, oi, h1, h2⟩
      rw [M.old t (fun i oi h1 h2 => absurd h2 (hno i oi h1)), frq_old T t j (by omega) (fun i oi _ h => hno i oi h)]
  have hstep : ∀ s, stepA P call ops frD o s = stepA P call ops (fr j) o s := fun s => stepA_congr hlook s
  obtain ⟨_, t2, t3⟩ := trq_get T j o ho
  -- the state behind it
  have go : ∀ m', (m' = m ∧ opW2 P o.op = false ∨ m' = j + 1 ∧ opW2 P o.op = true) → ∀ v' w' ι', VR ι' (SQ ops n0 st (fun i => i = j ∨ L i) m') w' (v j) v' → WR B w0 ι' (SQ ops n0 st (fun i => i = j ∨ L i) m') w' → Later ι (SQ ops n0 st L m) w ι' (SQ ops n0 st (fun i => i = j ∨ L i) m') w' → K (a.put o.dst v') w' := by
    intro m' hm' v' w' ι' hv hW hL
    have hF := M.frm.later hL
    have hput : aPut nt o.dst (v j) frD some = some (fun t => if o.dst = some t then v j else frD t) := by
      unfold aPut
      cases hd : o.dst with
      | none => simp
      | some d =>
        simp only
        rw [if_pos (t3 d hd)]
        congr 1
        funext t
        unfold upd
        by_cases e : t = d
        · rw [if_pos e, if_pos (by rw [e])]
        · rw [if_neg e, if_neg (fun q => e (Option.some.inj q).symm)]
    obtain ⟨fr', k1, k2, k3⟩ := hF.put hv hput
    refine hK _ _ ι' m' fr' ⟨?_, ?_, ?_, ?_, Nat.le_trans M.nx hL.next, k2, hW, M.lat.trans hL⟩
    · rcases hm' with ⟨rfl, _⟩ | ⟨rfl, _⟩
      · exact M.le
      · omega
    · intro i oi hi hwi
      rcases hm' with ⟨rfl, hwj⟩ | ⟨rfl, hwj⟩
      · have hne : i ≠ j := fun e => by subst e; rw [ho] at hi; rw [Option.some.inj hi, hwi] at hwj; cases hwj
        rw [← M.wr i oi hi hwi]
        exact ⟨fun h => h.resolve_left hne, .inr⟩
      · constructor
        · rintro (rfl | h)
          · omega
          · rcases Nat.lt_or_ge j i with hji | hji
            · exact absurd (ancL i h j (D.wr j i o oi ho hi hji hwi hwj)) hnl
            · omega
        · intro h
          rcases Nat.lt_or_ge i j with hij | hij
          · exact .inr (anc i (D.wr i j oi o hi ho hij hwj hwi))
          · exact .inl (by omega)
    · intro i oi t hi hd hLi
      rw [k3]
      by_cases e : i = j
      · subst e; rw [ho] at hi; rw [Option.some.inj hi, if_pos hd]
      · rw [if_neg]
        · exact M.new i oi t hi hd (hLi.resolve_left e)
        · intro hd2
          rcases Nat.lt_or_ge i j with hij | hij
          · exact D.one i j oi o t hi ho hij hd hd2
          · exact D.one j i o oi t ho hi (by omega) hd2 hd
    · intro t hn
      rw [k3, if_neg (fun hd => hn j o ho hd (.inl rfl))]
      exact M.old t (fun i oi h1 h2 h3 => hn i oi h1 h2 (.inr h3))
  have hout : ∀ {β : Type} (f : β → β → Prop), True := fun _ => trivial
  cases hal : opAlloc o.op
  · -- no new row
    have hL' : ∀ i, allocAt ops i = true → ((i = j ∨ L i) ↔ L i) := fun i hi => by
      constructor
      · rintro (rfl | h)
        · rw [alloc_at ho, hal] at hi; cases hi
        · exact h
      · exact .inr
    have hval : ∃ m', (m' = m ∧ opW2 P o.op = false ∨ m' = j + 1 ∧ opW2 P o.op = true) ∧ stepA P call ops frD o (SQ ops n0 st L m) = some (v j, SQ ops n0 st (fun i => i = j ∨ L i) m') := by
      obtain ⟨s1, h1, h2⟩ := trq_step T ho hal
      have sameS : SQ ops n0 st (fun i => i = j ∨ L i) m = SQ ops n0 st L m := by
        refine store_ext rfl fun l => ?_
        by_cases hA : ∃ i, allocAt ops i = true ∧ l = n0 + i
        · obtain ⟨i, ha, rfl⟩ := hA
          by_cases hLi : L i
          · rw [SQ_in ha hLi, SQ_in ha (.inr hLi)]
          · rw [SQ_out ha hLi, SQ_out ha (fun h => hLi ((hL' i ha).1 h))]
        · have hoff : ∀ i, allocAt ops i = true → l ≠ n0 + i := fun i h1 h2 => hA ⟨i, h1, h2⟩
          rw [SQ_off hoff, SQ_off hoff]
      cases hw : opW2 P o.op
      · refine ⟨m, .inl ⟨rfl, rfl⟩, ?_⟩
        rw [sameS, hstep]
        have hwr : opWrite P o.op = false := by unfold opW2 at hw; rw [hal] at hw; simpa using hw
        cases hp : opPure P o.op
        · have hr : opRead P o.op = true := by
            unfold opWrite at hwr; rw [hp] at hwr; simpa using hwr
          have fin : ∀ s s', stepA P call ops (fr j) o s = some (v j, s') → stepA P call ops (fr j) o s = some (v j, s) := fun s s' h => by rw [h, stepA_read hr h]
          have at_x : ∀ {x : Nat} {s'}, x ≤ ops.size → NoW P ops x m → NoW P ops m x → stepA P call ops (fr j) o (hideL (hidOf ops (Region.before ops) n0 j x) (st x)) = some (v j, s') → stepA P call ops (fr j) o (SQ ops n0 st L m) = some (v j, SQ ops n0 st L m) := fun {x s'} hx n1 n2 h =>
            fin _ _ (frame_at hCf T hx M.le n1 n2 anc (fun i hi ha => hN x hx i hi ha) M.nx h)
          rcases Nat.lt_or_ge m j with hmj | hmj
          · by_cases hx : ∃ i, m ≤ i ∧ i < j ∧ ∃ oi, ops[i]? = some oi ∧ opW2 P oi.op = true
            · obtain ⟨i, ⟨g1, g2, oi, g3, g4⟩, hmin⟩ := exists_least hx
              have hbit : ((Region.before ops).getD j 0).testBit i = false := by
                cases h : ((Region.before ops).getD j 0).testBit i
                · rfl
                · have := (M.wr i oi g3 g4).1 (anc i h); omega
              obtain ⟨s', h⟩ := T.chkR i j oi o g2 (by simpa using g3) (by simpa using ho) hr g4 (by simpa using hbit)
              simp only [Nat.zero_add] at h
              exact at_x (by omega) (fun q oq q1 q2 q3 => by omega) (fun q oq q1 q2 q3 => by
                cases h : opW2 P oq.op
                · rfl
                · have := hmin q ⟨q1, by omega, oq, q3, h⟩; omega) h
            · exact at_x (by omega) (fun q oq q1 q2 q3 => by omega) (fun q oq q1 q2 q3 => by
                cases h : opW2 P oq.op
                · rfl
                · exact absurd ⟨q, q1, q2, oq, q3, h⟩ hx) h1
          · by_cases hx : ∃ i, i < m ∧ (j ≤ i ∧ ∃ oi, ops[i]? = some oi ∧ opW2 P oi.op = true)
            · obtain ⟨i, g2, ⟨g1, oi, g3, g4⟩, hmax⟩ := greatest hx
              have hin := lt_of_get g3
              have hne : j ≠ i := fun e => by subst e; rw [ho] at g3; rw [Option.some.inj g3, g4] at hw; cases hw
              have hij : j < i := by omega
              have hLi := (M.wr i oi g3 g4).2 g2
              have hbit : ((Region.before ops).getD i 0).testBit j = false := by
                cases h : ((Region.before ops).getD i 0).testBit j
                · rfl
                · exact absurd (ancL i hLi j h) hnl
              obtain ⟨d, hd⟩ := D.slot j o ho hr
              obtain ⟨s', h⟩ := T.chkW j i o oi d hij (by simpa using ho) (by simpa using g3) g4 hr (by simpa using hbit) hd
              simp only [Nat.zero_add] at h
              have hfd := frq_new D T j o d ho hd (i - (j + 1)) (by omega)
              rw [show j + 1 + (i - (j + 1)) = i by omega] at hfd
              rw [hfd, stepA_congr (looksq_text D T ho hr (Nat.le_of_lt hij) (Nat.le_of_lt hin))] at h
              exact at_x (by omega) (fun q oq q1 q2 q3 => by
                cases h : opW2 P oq.op
                · rfl
                · exact absurd ⟨by omega, oq, q3, h⟩ (hmax q (by omega) q2)) (fun q oq q1 q2 q3 => by omega) h
            · exact at_x (by omega) (fun q oq q1 q2 q3 => by
                cases h : opW2 P oq.op
                · rfl
                · exact absurd ⟨q, q2, q1, oq, q3, h⟩ hx) (fun q oq q1 q2 q3 => by omega) h1
        · exact (stepA_pure hp h1).2 _
      · have hmj : m ≤ j := by
          rcases Nat.lt_or_ge j m with h | h
          · exact absurd ((M.wr j o ho hw).2 h) hnl
          · exact h
        have nw : NoW P ops m j := fun q oq q1 q2 q3 => by
          cases h : opW2 P oq.op
          · rfl
          · have := (M.wr q oq q3 h).1 (anc q (D.wr q j oq o q3 ho q2 hw h)); omega
        have nw0 : NoW P ops j m := fun q oq q1 q2 q3 => by omega
        refine ⟨j + 1, .inr ⟨rfl, rfl⟩, ?_⟩
        rw [hstep, frame_at hCf T (Nat.le_of_lt hjn) M.le nw0 nw anc (fun i hi ha => hN j (Nat.le_of_lt hjn) i hi ha) M.nx h1]
        congr 2
        refine store_ext ?_ fun l => ?_
        · show s1.next = (st (j + 1)).next
          rw [h2]; rfl
        · have hkeep := same_x T (Nat.le_of_lt hjn) M.le nw0 nw
          by_cases hA : ∃ i, allocAt ops i = true ∧ l = n0 + i
          · obtain ⟨i, ha, rfl⟩ := hA
            have hij : i ≠ j := fun e => by subst e; rw [alloc_at ho, hal] at ha; cases ha
            obtain ⟨oi, hoi, _⟩ := alloc_lt ha
            have hin := lt_of_get hoi
            cases hbit : ((Region.before ops).getD j 0).testBit i
            · have hx : HX ops (Region.before ops) n0 j j (n0 + i) := ⟨i, ha, .inl hbit, rfl⟩
              rw [addT_hid hx]
              by_cases hLi : L i
              · rw [SQ_in ha hLi, SQ_in ha (.inr hLi)]
                rcases Nat.lt_or_ge i j with hlt | hge
                · rw [show max (j + 1) (i + 1) = j + 1 by omega, h2]
                  unfold backL
                  simp only [if_pos (mem_hid.2 ⟨i, hlt, ha, hbit, rfl⟩ : n0 + i ∈ hidOf ops (Region.before ops) n0 j j)]
                  have := keep' T (x := max m (i + 1)) (y := j) (by omega) (Nat.le_of_lt hjn) (fun q oq q1 q2 q3 => nw q oq (by omega) q2 q3)
                  exact (this.2 _ fun q q1 q2 q3 => by omega).symm
                · rw [show max (j + 1) (i + 1) = i + 1 by omega, show max m (i + 1) = i + 1 by omega]
              · rw [SQ_out ha hLi, SQ_out ha (fun h => hLi ((hL' i ha).1 h))]
            · have hlt := ancQ_lt D j i hbit
              have hx : ¬ HX ops (Region.before ops) n0 j j (n0 + i) := fun ⟨i', _, g2, g3⟩ => by
                have : i' = i := by omega
                subst this
                rcases g2 with g2 | g2
                · rw [hbit] at g2; cases g2
                · omega
              rw [addT_get hx, SQ_in ha (.inr (anc i hbit)), show max (j + 1) (i + 1) = j + 1 by omega, h2]
              unfold backL
              have hno : n0 + i ∉ hidOf ops (Region.before ops) n0 j j := fun hm => by
                obtain ⟨i', _, _, g3, g4⟩ := mem_hid.1 hm
                have : i' = i := by omega
                subst this
                rw [hbit] at g3; cases g3
              simp only [if_neg hno]
          · have hoff : ∀ i, allocAt ops i = true → l ≠ n0 + i := fun i h1 h2 => hA ⟨i, h1, h2⟩
            have hx : ¬ HX ops (Region.before ops) n0 j j l := fun ⟨i, g1, _, g3⟩ => hoff i g1 g3
            rw [addT_get hx, SQ_off hoff, h2]
            unfold backL
            have hno : l ∉ hidOf ops (Region.before ops) n0 j j := fun hm => by
              obtain ⟨i', _, g2, _, g4⟩ := mem_hid.1 hm
              exact hoff i' g2 g4
            simp only [if_neg hno]
    obtain ⟨m', hm', hval⟩ := hval
    have go := go m' hm'
    unfold wpOp
    simp only [ho]
    unfold stepA at hval
    cases hg : o.guard with
    | none =>
      rw [hg] at hval
      rw [if_pos (by simp [Region.wanted, hg])]
      exact .inl (op_run hB hC hval M.frm M.wrl fun v2 s2 v' w' ι' k1 k2 k3 k4 => by
        obtain ⟨rfl, rfl⟩ := Prod.mk.inj (Option.some.inj k1)
        exact go v' w' ι' k2 k3 k4)
    | some jw =>
      obtain ⟨q, want⟩ := jw
      rw [hg] at hval
      simp only at hval
      split at hval
      · cases hval
      · rename_i t ht
        rcases guard_of hg ht M.frm hval with ⟨hw, hx⟩ | ⟨hw, hy⟩
        · rw [if_pos hw]
          exact .inl (op_run hB hC hx M.frm M.wrl fun v2 s2 v' w' ι' k1 k2 k3 k4 => by
            obtain ⟨rfl, rfl⟩ := Prod.mk.inj (Option.some.inj k1)
            exact go v' w' ι' k2 k3 k4)
        · rw [if_neg (by rw [hw]; simp)]
          obtain ⟨e1, e2⟩ := Prod.mk.inj (Option.some.inj hy)
          refine go _ _ ι ?_ ?_ ?_
          · rw [← e1]; exact VR.undef _ _ _
          · rw [← e2]; exact M.wrl
          · rw [← e2]; exact Later.refl _ _ _
  · -- a new row
    have haj : allocAt ops j = true := by rw [alloc_at ho]; exact hal
    have hw : opW2 P o.op = false := by unfold opW2; rw [hal]; simp
    obtain ⟨s1, h1, h2⟩ := trq_alloc T ho hal
    have hrow : (st (max m (j + 1))).get (n0 + j) = s1.get (n0 + j) := by
      have e : (st (j + 1)).get (n0 + j) = s1.get (n0 + j) := by rw [h2]
      rw [← e]
      rcases Nat.lt_or_ge m (j + 1) with h | h
      · rw [show max m (j + 1) = j + 1 by omega]
      · rw [show max m (j + 1) = j + 1 + (m - (j + 1)) by omega]
        refine row_keep T haj _ (by have := M.le; omega) fun p op g1 g2 g3 g4 => ?_
        cases hb : ((Region.before ops).getD p 0).testBit j
        · rfl
        · exact absurd (ancL p ((M.wr p op g3 g4).2 (by omega)) j hb) hnl
    have hoth : ∀ l, l ≠ n0 + j → (SQ ops n0 st (fun i => i = j ∨ L i) m).get l = (SQ ops n0 st L m).get l := by
      intro l hl
      by_cases hA : ∃ i, allocAt ops i = true ∧ l = n0 + i
      · obtain ⟨i, ha, rfl⟩ := hA
        have hij : i ≠ j := fun e => hl (by rw [e])
        by_cases hLi : L i
        · rw [SQ_in ha hLi, SQ_in ha (.inr hLi)]
        · rw [SQ_out ha hLi, SQ_out ha (fun h => hLi (h.resolve_left hij))]
      · have hoff : ∀ i, allocAt ops i = true → l ≠ n0 + i := fun i h1 h2 => hA ⟨i, h1, h2⟩
        rw [SQ_off hoff, SQ_off hoff]
    have hj' : (SQ ops n0 st (fun i => i = j ∨ L i) m).get (n0 + j) = s1.get (n0 + j) := by rw [SQ_in haj (.inl rfl), hrow]
    have hj0 : (SQ ops n0 st L m).get (n0 + j) = .none := SQ_out haj hnl
    have hlt : n0 + j < (SQ ops n0 st L m).next := by
      show n0 + j < (st m).next
      have := M.nx; omega
    have go := go m (.inl ⟨rfl, hw⟩)
    have made : ∀ {ob : AObj}, (∀ l, s1.get l = if l = n0 + j then ob else (st j).get l) → (SQ ops n0 st L m).set (n0 + j) ob = SQ ops n0 st (fun i => i = j ∨ L i) m := fun {ob} hob => by
      refine store_ext rfl fun l => ?_
      by_cases e : l = n0 + j
      · subst e
        rw [hj', hob]; simp [Store.set]
      · rw [hoth l e]; simp [Store.set, e]
    rw [← hstep] at h1
    unfold wpOp
    simp only [ho]
    unfold stepA at h1
    cases hg : o.guard with
    | none =>
      rw [hg] at h1
      rw [if_pos (by simp [Region.wanted, hg])]
      obtain ⟨ob, k1, k2⟩ := alloc_run hal h1
      have e := made k1
      refine .inl (k2 M.frm M.wrl hlt hj0 fun v' w' ι' g1 g2 g3 => ?_)
      rw [e] at g1 g2 g3
      exact go v' w' ι' g1 g2 g3
    | some jw =>
      obtain ⟨q, want⟩ := jw
      rw [hg] at h1
      simp only at h1
      split at h1
      · cases h1
      · rename_i t ht
        rcases guard_of hg ht M.frm h1 with ⟨hw, hx⟩ | ⟨hw, hy⟩
        · rw [if_pos hw]
          obtain ⟨ob, k1, k2⟩ := alloc_run hal hx
          have e := made k1
          refine .inl (k2 M.frm M.wrl hlt hj0 fun v' w' ι' g1 g2 g3 => ?_)
          rw [e] at g1 g2 g3
          exact go v' w' ι' g1 g2 g3
        · rw [if_neg (by rw [hw]; simp)]
          obtain ⟨e1, e2⟩ := Prod.mk.inj (Option.some.inj hy)
          have e : SQ ops n0 st (fun i => i = j ∨ L i) m = SQ ops n0 st L m := by
            refine store_ext rfl fun l => ?_
            by_cases el : l = n0 + j
            · subst el
              rw [hj', hj0, ← e2]
              exact hN j (Nat.le_of_lt hjn) j (Nat.le_refl _) haj
            · exact hoth l el
          refine go _ _ ι ?_ ?_ ?_
          · rw [← e1]; exact VR.undef _ _ _
          · rw [e]; exact M.wrl
          · rw [e]; exact Later.refl _ _ _

theorem drawq_walk (hB : Bodied P call) (hC : CallOk P B w0 call) (hCf : ∀ H T, CallFr H T call) (D : DrQ P ops (Region.before ops)) (T : TrQ P call nt ops (Region.before ops) n0 0 ops.toList [] v st fr) (hN : ∀ j, j ≤ ops.size → ∀ i, j ≤ i → allocAt ops i = true → (st j).get (n0 + i) = .none)
    {κ : Fr → Store → Option α} (hκ : κ (fr ops.size) (st ops.size) = some r) {Q : Exit → Act → World → Prop}
    (hQ : ∀ fr s a w, St P B w0 nt ι0 s0 w1 fr s a w → κ fr s = some r → Q .normal a w) : ∀ (fuel : Nat) (U : List Nat) (listed : Array Bool) (a : Act) (w : World) (ι : Nat → Loc) (m : Nat) (frD : Fr), listed.size = ops.size → U.length ≤ fuel → (∀ i, i < ops.size → listed.getD i false = false → i ∈ U) →
    (∀ (j : Nat) (o : Oper), ops[j]? = some o → listed.getD j false = true → ∀ e ∈ o.after.toList, Region.binds .any e = true → listed.getD e.on false = true) → MidQ P B w0 nt ops n0 v st fr ι0 s0 w1 (fun i => listed.getD i false = true) a w ι m frD → wpAny P .any ops Q fuel listed a w := by
  have done : ∀ (listed : Array Bool) (a : Act) (w : World) (ι : Nat → Loc) (m : Nat) (frD : Fr), (∀ i, i < ops.size → listed.getD i false = true) → MidQ P B w0 nt ops n0 v st fr ι0 s0 w1 (fun i => listed.getD i false = true) a w ι m frD → Q .normal a w := by
    intro listed a w ι m frD hall M
    have nw : NoW P ops m ops.size := fun q oq q1 q2 q3 => by
      cases h : opW2 P oq.op
      · rfl
      · have := (M.wr q oq q3 h).1 (hall q (lt_of_get q3)); omega
    have e1 : SQ ops n0 st (fun i => listed.getD i false = true) m = st ops.size := by
      obtain ⟨k1, k2⟩ := keep' T M.le (Nat.le_refl _) nw
      refine store_ext k1.symm fun l => ?_
      by_cases hA : ∃ i, allocAt ops i = true ∧ l = n0 + i
      · obtain ⟨i, ha, rfl⟩ := hA
        obtain ⟨oi, hoi, _⟩ := alloc_lt ha
        have hin := lt_of_get hoi
        rw [SQ_in ha (hall i hin)]
        have := keep' T (x := max m (i + 1)) (y := ops.size) (by have := M.le; omega) (Nat.le_refl _) (fun q oq q1 q2 q3 => nw q oq (by omega) q2 q3)
        exact (this.2 _ fun q q1 q2 q3 => by omega).symm
      · have hoff : ∀ i, allocAt ops i = true → l ≠ n0 + i := fun i h1 h2 => hA ⟨i, h1, h2⟩
        rw [SQ_off hoff]
        exact (k2 l fun q _ _ q3 => hoff q q3).symm
    have e2 : frD = fr ops.size := by
      funext t
      by_cases hx : ∃ (i : Nat) (oi : Oper), ops[i]? = some oi ∧ oi.dst = some t
      · obtain ⟨i, oi, hi, hd⟩ := hx
        have hin := lt_of_get hi
        have h2 := frq_new D T i oi t hi hd (ops.size - (i + 1)) (by omega)
        rw [show i + 1 + (ops.size - (i + 1)) = ops.size by omega] at h2
        rw [M.new i oi t hi hd (hall i hin), h2]
      · have hno : ∀ (i : Nat) (oi : Oper), ops[i]? = some oi → oi.dst ≠ some t := fun i oi h1 h2 => hx ⟨i, oi, h1, h2⟩
        rw [M.old t (fun i oi h1 h2 => absurd h2 (hno i oi h1)), frq_old T t ops.size (Nat.le_refl _) (fun i oi _ h => hno i oi h)]
    refine hQ (fr ops.size) (st ops.size) a w ⟨ι, ?_, ?_, ?_⟩ hκ
    · rw [← e1, ← e2]; exact M.frm
    · rw [← e1]; exact M.wrl
    · rw [← e1]; exact M.lat
  have getT : ∀ (listed : Array Bool) i, listed.size = ops.size → i < ops.size → listed.getD i true = listed.getD i false := by
    intro listed i hs hi
    simp [show i < listed.size by omega]
  have full : ∀ (listed : Array Bool), listed.size = ops.size → Region.ready .any ops listed = [] → ∀ i, i < ops.size → listed.getD i false = true := by
    intro listed hs hr i
    induction i using Nat.strongRecOn with
    | _ i ih =>
      intro hi
      cases h : listed.getD i false
      · have ho : ops[i]? = some (ops[i]'hi) := Array.getElem?_eq_getElem hi
        have : i ∈ Region.ready .any ops listed := mem_ready.2 ⟨by rw [getT listed i hs hi]; exact h, _, ho, fun e he hb => by
          have := D.back i _ ho e (by simpa using he) hb
          exact ih e.on this (by omega)⟩
        rw [hr] at this
        cases this
      · rfl
  intro fuel
  induction fuel with
  | zero =>
    intro U listed a w ι m frD hs hU hcov hcl M
    have hall : ∀ i, i < ops.size → listed.getD i false = true := by
      intro i hi
      cases h : listed.getD i false
      · have := hcov i hi h
        have : U = [] := List.length_eq_zero_iff.1 (by omega)
        simp_all
      · rfl
    refine ⟨?_, done listed a w ι m frD hall M⟩
    cases hr : Region.ready .any ops listed with
    | nil => rfl
    | cons x xs =>
      have : x ∈ Region.ready .any ops listed := by rw [hr]; exact List.mem_cons_self
      obtain ⟨h1, o, ho, _⟩ := mem_ready.1 this
      rw [getT listed x hs (lt_of_get ho), hall x (lt_of_get ho)] at h1
      cases h1
  | succ fuel ih =>
    intro U listed a w ι m frD hs hU hcov hcl M
    refine ⟨fun hr => done listed a w ι m frD (full listed hs hr) M, fun j hj => ?_⟩
    obtain ⟨h1, o, ho, h2⟩ := mem_ready.1 hj
    have hjn := lt_of_get ho
    rw [getT listed j hs hjn] at h1
    have hset : ∀ i, (listed.setIfInBounds j true).getD i false = true ↔ i = j ∨ listed.getD i false = true := by
      intro i
      by_cases e : i = j
      · subst e; simp [show i < listed.size by omega]
      · simp [e, Array.getElem?_setIfInBounds_ne (Ne.symm e)]
    refine midq_step hB hC hCf D T hN hcl M ho (by rw [h1]; simp) (fun e he hb => h2 e (by simpa using he) hb) (fun a' w' ι' m' frD' M' => ?_)
    have hmem := hcov j hjn h1
    refine ih (U.erase j) (listed.setIfInBounds j true) a' w' ι' m' frD' (by simpa using hs) (by rw [List.length_erase_of_mem hmem]; omega) (fun i hi hf => ?_) (fun i oi hi hl e he hb => ?_) ?_
    · have hne : i ≠ j := fun e => by
        have := (hset i).2 (.inl e)
        rw [this] at hf; cases hf
      have hf2 : listed.getD i false = false := by
        cases h : listed.getD i false
        · rfl
        · have := (hset i).2 (.inr h); rw [this] at hf; cases hf
      exact (List.mem_erase_of_ne hne).2 (hcov i hi hf2)
    · rcases (hset i).1 hl with rfl | hl
      · rw [ho] at hi
        rw [← Option.some.inj hi] at he
        exact (hset _).2 (.inr (h2 e (by simpa using he) hb))
      · exact (hset _).2 (.inr (hcl i oi hi hl e he hb))
    · have : (fun i => (listed.setIfInBounds j true).getD i false = true) = fun i => i = j ∨ listed.getD i false = true := funext fun i => propext (hset i)
      rw [this]; exact M'
end

theorem WR.reserve (h : WR B w0 ι s w) (n : Nat) : WR B w0 ι (reserve n s) w ∧ Later ι s w ι (reserve n s) w := by
  have g : ∀ l, l < s.next → (Sim.reserve n s).get l = s.get l := fun l hl => by unfold Sim.reserve; simp [hl]
  have g' : ∀ l, ¬ l < s.next → (Sim.reserve n s).get l = .none := fun l hl => by unfold Sim.reserve; simp [hl]
  have k : Later ι s w ι (Sim.reserve n s) w := ⟨Nat.le_add_right _ _, fun l hl => by rw [g l hl]; exact Nat.le_refl _, fun _ _ _ => rfl, fun _ _ => rfl, Nat.le_refl _⟩
  refine ⟨⟨h.bel, h.hB, fun l hl => ?_, fun l l' hl hl' hne hw hn => ?_, fun g => (h.glob g).later k⟩, k⟩
  · by_cases e : l < s.next
    · rw [g l e]; exact (h.obj l e).later k (fun _ => rfl)
    · rw [g' l e]; trivial
  · have e : l < s.next := by
      by_cases e : l < s.next
      · exact e
      · rw [g' l e] at hw; cases hw
    have e' : l' < s.next := by
      by_cases e : l' < s.next
      · exact e
      · rw [g' l' e] at hn; cases hn
    rw [g l e] at hw
    rw [g l' e'] at hn
    exact h.sep l l' e e' hne hw hn

theorem drawq_sound (hB : Bodied P call) (hC : CallOk P B w0 call) (hCf : ∀ H T, CallFr H T call) : DrawSoundQ P call B w0 := by
  intro α r nt ι0 s0 w1 ops κ Q id hok hQ fr0 s a w hS h
  have D := drq_of hok
  obtain ⟨v, st, fr, e1, e2, e3, T⟩ := traceQ ops.toList 0 [] fr0 _ h
  simp only [Nat.zero_add, Array.length_toList] at e3 T
  refine wp_region_any D.mixed ?_
  obtain ⟨ι, hF, hW, hL⟩ := hS
  obtain ⟨hW2, hL2⟩ := hW.reserve ops.size
  obtain ⟨hW', hL'⟩ := hW2.draw (w' := { w with drawn := w.drawn + 1 }) rfl rfl rfl rfl
  have h0 : ∀ i, allocAt ops i = true → (st 0).get (s.next + i) = .none ∧ s.next + i < (st 0).next := fun i ha => by
    obtain ⟨oi, hoi, _⟩ := alloc_lt ha
    have := lt_of_get hoi
    rw [e1]
    unfold reserve
    simp only
    exact ⟨by rw [if_neg (by omega)], by omega⟩
  have hNI := none_inv hCf (ancQ_lt D) T h0
  have hS0 : SQ ops s.next st (fun i => (Array.replicate ops.size false).getD i false = true) 0 = reserve ops.size s := by
    rw [← e1]
    refine store_ext rfl fun l => ?_
    by_cases hA : ∃ i, allocAt ops i = true ∧ l = s.next + i
    · obtain ⟨i, ha, rfl⟩ := hA
      rw [SQ_out ha, (h0 i ha).1]
      obtain ⟨oi, hoi, _⟩ := alloc_lt ha
      have := lt_of_get hoi
      simp [this]
    · exact SQ_off (fun i h1 h2 => hA ⟨i, h1, h2⟩)
  refine drawq_walk hB hC hCf D T (fun j hj i hi ha => (hNI j hj i hi ha).1) e3 hQ ops.size (List.range ops.size) _ a _ ι 0 fr0 (by simp) (by simp) (fun i hi _ => List.mem_range.2 hi) (fun j o ho hl => ?_) ⟨Nat.zero_le _, fun i o hi _ => ?_, fun i o t hi hd hl => ?_, fun t _ => by rw [e2], ?_, ?_, ?_, ?_⟩
  · have := lt_of_get ho
    simp [this] at hl
  · have := lt_of_get hi
    simp [this]
  · have := lt_of_get hi
    simp [this] at hl
  · rw [e1]; exact Nat.le_refl _
  · rw [hS0]; exact hF.later (hL2.trans hL')
  · rw [hS0]; exact hW'
  · rw [hS0]; exact hL.trans (hL2.trans hL')

/-- THE ABSTRACT MACHINE IS SOUND. -/
theorem run_calls (P : Program) (B : Nat) (w0 : World) (k : Nat) (hM : MethFine P) : CallOk P B w0 (run P k) :=
  run_sound hM (fun k H T => run_fr P H T k) (fun _ hB hC => draw_sound hB hC) (fun _ hB hC hCf => drawq_sound hB hC hCf) k
end
end Go.Proofs.Ytkfdgegmahbkiaa.Sim
