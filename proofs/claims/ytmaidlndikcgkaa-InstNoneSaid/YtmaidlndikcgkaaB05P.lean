/- Seat 05: the law BatchOrders, its run. No condition. -/
import Derived.Test.YtmaidlndikcgkaaB05O
namespace Go.Proofs.Ytmaidlndikcgkaa.Sim
set_option linter.unusedSimpArgs false
set_option linter.unusedVariables false

/-- Ids, one behind the other: each is the next one of its sender. -/
def procR : List Int → List Idn → Option (List Int)
  | b, [] => some b
  | b, x :: xs => if x.1 < b.length ∧ x.2 = b.getD x.1.toNat 0 + 1 then procR (b.set x.1.toNat x.2) xs else none
theorem procR_app : ∀ (xs ys : List Idn) (b : List Int), procR b (xs ++ ys) = (procR b xs).bind fun b' => procR b' ys
  | [], ys, b => rfl
  | x :: xs, ys, b => by
    simp only [List.cons_append, procR]
    split
    · exact procR_app xs ys _
    · rfl
/-- Senders that rise. -/
def inc : Int → List Rn → Prop
  | _, [] => True
  | last, r :: l => last < r.1 ∧ inc r.1 l
theorem inc_mem : ∀ {l : List Rn} {last : Int}, inc last l → ∀ r ∈ l, last < r.1
  | a :: l, last, h, r, hr => by
    rcases List.mem_cons.1 hr with rfl | hr
    · exact h.1
    · have := inc_mem h.2 r hr; have := h.1; omega
theorem pass_proc (p : Nat) : ∀ (l : List Rn) (b : List Int) (last : Int), -1 ≤ last → inc last l → (∀ r ∈ l, r.1 < b.length) → (∀ r ∈ l, b.getD r.1.toNat 0 = r.2.1 - 1 + min r.2.2 p) →
    ∃ b', procR b (passR p l) = some b' ∧ (∀ r ∈ l, b'.getD r.1.toNat 0 = r.2.1 - 1 + min r.2.2 ((p + 1 : Nat) : Int)) ∧ (∀ j, (∀ r ∈ l, r.1.toNat ≠ j) → b'.getD j 0 = b.getD j 0) ∧ b'.length = b.length
  | [], b, _, _, _, _, _ => ⟨b, rfl, fun r h => by simp at h, fun _ _ => rfl, rfl⟩
  | r :: l, b, last, hl, hi, hb, hst => by
    have h1 := hst r List.mem_cons_self
    have h2 := hb r List.mem_cons_self
    have h3 := hi.1
    have hne : ∀ x ∈ l, x.1.toNat ≠ r.1.toNat := fun x hx => by have := inc_mem hi.2 x hx; omega
    have hlt : r.1.toNat < b.length := by omega
    unfold passR
    by_cases hc : (p : Int) < r.2.2
    · rw [if_pos hc, procR, if_pos ⟨h2, by simp only; omega⟩]
      obtain ⟨b', k1, k2, k3, k4⟩ := pass_proc p l (b.set r.1.toNat (r.2.1 + p)) r.1 (by omega) hi.2 (fun x hx => by rw [List.length_set]; exact hb x (List.mem_cons_of_mem _ hx)) (fun x hx => by
        rw [← hst x (List.mem_cons_of_mem _ hx)]
        simp only [List.getD_eq_getElem?_getD, List.getElem?_set]
        rw [if_neg (fun q => hne x hx q.symm)])
      refine ⟨b', k1, fun x hx => ?_, fun j hj => ?_, by rw [k4, List.length_set]⟩
      · rcases List.mem_cons.1 hx with rfl | hx
        · rw [k3 _ hne]
          have e : (b.set x.1.toNat (x.2.1 + p)).getD x.1.toNat 0 = x.2.1 + p := by simp [hlt]
          rw [e]; omega
        · exact k2 x hx
      · rw [k3 j fun x hx => hj x (List.mem_cons_of_mem _ hx)]
        simp only [List.getD_eq_getElem?_getD, List.getElem?_set]
        rw [if_neg (hj r List.mem_cons_self)]
    · rw [if_neg hc]
      obtain ⟨b', k1, k2, k3, k4⟩ := pass_proc p l b r.1 (by omega) hi.2 (fun x hx => hb x (List.mem_cons_of_mem _ hx)) (fun x hx => hst x (List.mem_cons_of_mem _ hx))
      refine ⟨b', k1, fun x hx => ?_, fun j hj => k3 j fun x hx => hj x (List.mem_cons_of_mem _ hx), k4⟩
      rcases List.mem_cons.1 hx with rfl | hx
      · rw [k3 _ hne, h1]; omega
      · exact k2 x hx
theorem pre_proc (l : List Rn) (b : List Int) (hi : inc (-1) l) (hb : ∀ r ∈ l, r.1 < b.length) (hst : ∀ r ∈ l, b.getD r.1.toNat 0 = r.2.1 - 1) (hc : ∀ r ∈ l, 0 ≤ r.2.2) : ∀ p : Nat,
    ∃ b', procR b (ordPre p l) = some b' ∧ (∀ r ∈ l, b'.getD r.1.toNat 0 = r.2.1 - 1 + min r.2.2 p) ∧ (∀ j, (∀ r ∈ l, r.1.toNat ≠ j) → b'.getD j 0 = b.getD j 0) ∧ b'.length = b.length
  | 0 => ⟨b, rfl, fun r hr => by rw [hst r hr]; have := hc r hr; omega, fun _ _ => rfl, rfl⟩
  | p + 1 => by
    obtain ⟨b1, k1, k2, k3, k4⟩ := pre_proc l b hi hb hst hc p
    obtain ⟨b2, j1, j2, j3, j4⟩ := pass_proc p l b1 (-1) (by omega) hi (fun r hr => by rw [k4]; exact hb r hr) k2
    refine ⟨b2, ?_, j2, fun j hj => (j3 j hj).trans (k3 j hj), j4.trans k4⟩
    rw [ordPre, procR_app, k1]
    exact j1
theorem mayFrom_inc : ∀ {l : List Rn} {b : List Int} {last : Int}, mayFrom b last l = true → inc last l ∧ (∀ r ∈ l, r.1 < b.length) ∧ (∀ r ∈ l, b.getD r.1.toNat 0 = r.2.1 - 1) ∧ ∀ r ∈ l, runOk r = true
  | [], _, _, _ => ⟨trivial, fun r h => by simp at h, fun r h => by simp at h, fun r h => by simp at h⟩
  | r :: l, b, last, h => by
    unfold mayFrom at h
    simp only [Bool.and_eq_true, Bool.not_eq_true', decide_eq_true_eq, decide_eq_false_iff_not] at h
    obtain ⟨h1, h2, h3, h4, h5⟩ := h
    obtain ⟨k1, k2, k3, k4⟩ := mayFrom_inc h5
    refine ⟨⟨by omega, k1⟩, fun x hx => ?_, fun x hx => ?_, fun x hx => ?_⟩ <;> rcases List.mem_cons.1 hx with rfl | hx
    · omega
    · exact k2 x hx
    · exact h4
    · exact k3 x hx
    · exact h1
    · exact k4 x hx
theorem foldR_get : ∀ (l : List Rn) (b : List Int) (last : Int), -1 ≤ last → inc last l → (∀ r ∈ l, r.1 < b.length) → (∀ r ∈ l, (l.foldl setR b).getD r.1.toNat 0 = lastR r) ∧ ∀ j, (∀ r ∈ l, r.1.toNat ≠ j) → (l.foldl setR b).getD j 0 = b.getD j 0
  | [], _, _, _, _, _ => ⟨fun r h => by simp at h, fun _ _ => rfl⟩
  | r :: l, b, last, hl, hi, hb => by
    have h3 := hi.1
    have h2 := hb r List.mem_cons_self
    obtain ⟨k1, k2⟩ := foldR_get l (setR b r) r.1 (by omega) hi.2 (fun x hx => by rw [setR_len]; exact hb x (List.mem_cons_of_mem _ hx))
    have hne : ∀ x ∈ l, x.1.toNat ≠ r.1.toNat := fun x hx => by have := inc_mem hi.2 x hx; omega
    rw [List.foldl_cons]
    refine ⟨fun x hx => ?_, fun j hj => ?_⟩
    · rcases List.mem_cons.1 hx with rfl | hx
      · rw [k2 _ hne]
        have hlt : x.1.toNat < b.length := by omega
        simp [setR, hlt]
      · exact k1 x hx
    · rw [k2 j fun x hx => hj x (List.mem_cons_of_mem _ hx)]
      unfold setR
      simp only [List.getD_eq_getElem?_getD, List.getElem?_set]
      rw [if_neg (hj r List.mem_cons_self)]
theorem ext_getD {a b : List Int} (hl : a.length = b.length) (h : ∀ j, a.getD j 0 = b.getD j 0) : a = b := by
  apply List.ext_getElem hl
  intro i h1 h2
  have := h i
  simpa [h1, h2] using this

/-- The ids of a batch lead from its base to the base behind it. -/
theorem orders_pure {base : List Int} {l : List Rn} (hw : ∀ r ∈ l, WfR r) (hm : mayR base 4096 l = true) : procR base (orderR l) = some (afterR base l) := by
  have hmf := mayR_from hm
  obtain ⟨h1, h2, h3, h4⟩ := mayFrom_inc hmf
  have hc : ¬ 4096 < countR 0 l := by
    unfold mayR at hm
    split at hm
    · cases hm
    · rename_i h; omega
  have hany : ¬ l.any (fun r => !runOk r) = true := by
    intro q
    obtain ⟨r, hr, hq⟩ := List.any_eq_true.1 q
    simp [h4 r hr] at hq
  have ho : orderR l = ordPre 4096 l := by unfold orderR; rw [if_neg (fun q => q.elim hany hc)]
  have hsum := countR_sum l 0 h4 (by omega) (by omega)
  obtain ⟨b', k1, k2, k3, k4⟩ := pre_proc l base h1 h2 h3 (fun r hr => (hw r hr).2.2.1) 4096
  have ha : afterR base l = l.foldl setR base := by unfold afterR; rw [if_pos hm]
  obtain ⟨f1, f2⟩ := foldR_get l base (-1) (by omega) h1 h2
  rw [ho, k1, ha]
  refine congrArg some (ext_getD (by rw [k4, foldR_len]) fun j => ?_)
  by_cases hj : ∃ r ∈ l, r.1.toNat = j
  · obtain ⟨r, hr, rfl⟩ := hj
    have hmem := sumAll_mem hr
    have hbn := lastR_bnd (hw r hr) (h4 r hr)
    rw [k2 r hr, f1 r hr]; omega
  · rw [k3 j fun r hr q => hj ⟨r, hr, q⟩, f2 j fun r hr q => hj ⟨r, hr, q⟩]

theorem passR_wf (p : Nat) (hp : p ≤ 5000) : ∀ {l : List Rn}, (∀ r ∈ l, WfR r) → (∀ r ∈ l, runOk r = true) → ∀ x ∈ passR p l, (0 ≤ x.1 ∧ x.1 < 256) ∧ (0 ≤ x.2 ∧ x.2 < 18446744073709551616)
  | [], _, _, x, hx => by simp [passR] at hx
  | r :: l, hw, hok, x, hx => by
    have h1 := hw r List.mem_cons_self
    have h2 := of_decide_eq_true (hok r List.mem_cons_self)
    have ih := fun x hx => passR_wf p hp (l := l) (fun r hr => hw r (List.mem_cons_of_mem _ hr)) (fun r hr => hok r (List.mem_cons_of_mem _ hr)) x hx
    unfold passR at hx
    split at hx
    · rcases List.mem_cons.1 hx with rfl | hx
      · exact ⟨h1.1, by simp only; omega⟩
      · exact ih x hx
    · exact ih x hx
theorem ordPre_wf {l : List Rn} (hw : ∀ r ∈ l, WfR r) (hok : ∀ r ∈ l, runOk r = true) : ∀ (p : Nat), p ≤ 5000 → ∀ x ∈ ordPre p l, (0 ≤ x.1 ∧ x.1 < 256) ∧ (0 ≤ x.2 ∧ x.2 < 18446744073709551616)
  | 0, _, x, hx => by simp [ordPre] at hx
  | p + 1, hp, x, hx => by
    rcases List.mem_append.1 hx with hx | hx
    · exact ordPre_wf hw hok p (by omega) x hx
    · exact passR_wf p (by omega) hw hok x hx
theorem orderR_wf {l : List Rn} (hw : ∀ r ∈ l, WfR r) : ∀ x ∈ orderR l, (0 ≤ x.1 ∧ x.1 < 256) ∧ (0 ≤ x.2 ∧ x.2 < 18446744073709551616) := by
  unfold orderR
  split
  · intro x hx; simp at hx
  · rename_i h
    have h1 : ¬ l.any (fun r => !runOk r) = true := fun q => h (.inl q)
    have h1' : l.any (fun r => !runOk r) = false := by simpa using h1
    exact ordPre_wf hw (fun r hr => by have := List.any_eq_false.1 h1' r hr; simpa using this) 4096 (by omega)

end Go.Proofs.Ytmaidlndikcgkaa.Sim
