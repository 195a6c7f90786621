/- Layer 23: what is ordered and delivered: the plain law. No condition. -/
import Derived.Test.YtmaidlndikcgkaaB05P
namespace Go.Proofs.Ytmaidlndikcgkaa.Sim
set_option linter.unusedSimpArgs false
set_option linter.unusedVariables false

def baseOf (n : Nat) (L : List (List Rn)) : List Int := L.foldl afterR (List.replicate n 0)
def idsOf (L : List (List Rn)) : List Idn := (L.map orderR).flatten
/-- Batches, each of which may be on what those ahead of it come to. -/
inductive OkL (n : Nat) : List (List Rn) → Prop
  | nil : OkL n []
  | snoc {L : List (List Rn)} {l : List Rn} (h : OkL n L) (hw : ∀ r ∈ l, WfR r) (hm : mayR (baseOf n L) 4096 l = true) : OkL n (L ++ [l])

theorem baseOf_app (n : Nat) (L : List (List Rn)) (l : List Rn) : baseOf n (L ++ [l]) = afterR (baseOf n L) l := by simp [baseOf]
theorem idsOf_app (L : List (List Rn)) (l : List Rn) : idsOf (L ++ [l]) = idsOf L ++ orderR l := by simp [idsOf]
theorem idsOf_cons (L : List (List Rn)) (l : List Rn) : idsOf (l :: L) = orderR l ++ idsOf L := by simp [idsOf]
theorem baseOf_len (n : Nat) (L : List (List Rn)) : (baseOf n L).length = n := by
  have : ∀ (L : List (List Rn)) (b : List Int), (L.foldl afterR b).length = b.length := by
    intro L
    induction L with
    | nil => intro b; rfl
    | cons l L ih => intro b; rw [List.foldl_cons, ih, afterR_len]
  unfold baseOf
  rw [this]; simp
theorem U_zero (n : Nat) : U (List.replicate n 0) := fun x hx => by
  rw [(List.mem_replicate.1 hx).2]; omega
theorem U_after {b : List Int} {l : List Rn} (hb : U b) (hw : ∀ r ∈ l, WfR r) : U (afterR b l) := by
  unfold afterR
  split
  · rename_i h
    exact foldR_U (by omega) hw (mayR_from h) hb
  · exact hb
theorem OkL.u {n : Nat} {L : List (List Rn)} (h : OkL n L) : U (baseOf n L) := by
  induction h with
  | nil => exact U_zero n
  | snoc h hw hm ih => rw [baseOf_app]; exact U_after ih hw
theorem OkL.wf {n : Nat} {L : List (List Rn)} (h : OkL n L) : ∀ l ∈ L, ∀ r ∈ l, WfR r := by
  induction h with
  | nil => intro l hl; simp at hl
  | snoc h hw hm ih =>
    intro l hl
    rcases List.mem_append.1 hl with q | q
    · exact ih l q
    · rw [List.mem_singleton.1 q]; exact hw
theorem OkL.proc {n : Nat} {L : List (List Rn)} (h : OkL n L) : procR (List.replicate n 0) (idsOf L) = some (baseOf n L) := by
  induction h with
  | nil => rfl
  | snoc h hw hm ih => rw [idsOf_app, procR_app, ih, baseOf_app, Option.bind_some, orders_pure hw hm]
theorem OkL.ids {n : Nat} {L : List (List Rn)} (h : OkL n L) : ∀ x ∈ idsOf L, (0 ≤ x.1 ∧ x.1 < 256) ∧ (0 ≤ x.2 ∧ x.2 < 18446744073709551616) := by
  intro x hx
  obtain ⟨l, hl, hx⟩ := List.mem_flatten.1 hx
  obtain ⟨l', hl', rfl⟩ := List.mem_map.1 hl
  exact orderR_wf (h.wf l' hl') x hx

theorem order_len {base : List Int} {l : List Rn} (hm : mayR base 4096 l = true) : ((orderR l).length : Int) = countR 0 l ∧ 1 ≤ (orderR l).length ∧ (orderR l).length ≤ 4096 := by
  have hmf := mayR_from hm
  obtain ⟨h1, h2, h3, h4⟩ := mayFrom_inc hmf
  have hne : l ≠ [] := fun q => by subst q; simp [mayR] at hm
  have hc : ¬ 4096 < countR 0 l := by
    unfold mayR at hm
    split at hm
    · cases hm
    · rename_i h; omega
  have hany : ¬ l.any (fun r => !runOk r) = true := by
    intro q
    obtain ⟨r, hr, hq⟩ := List.any_eq_true.1 q
    simp [h4 r hr] at hq
  have ho : orderR l = ordPre 4096 l := by unfold orderR; rw [if_neg (fun q => q.elim hany hc)]
  have hsum := countR_sum l 0 h4 (by omega) (by omega)
  have hl : (orderR l).length = sumAll l := by rw [ho, ordPre_len, sumMin_ge (by omega)]
  have hp : 1 ≤ sumAll l := by
    cases l with
    | nil => exact absurd rfl hne
    | cons r l =>
      have := runOk_le (h4 r List.mem_cons_self)
      unfold sumAll; omega
  omega
theorem OkL.pos {n : Nat} {L : List (List Rn)} (h : OkL n L) : ∀ l ∈ L, 1 ≤ (orderR l).length := by
  induction h with
  | nil => intro l hl; simp at hl
  | snoc h hw hm ih =>
    intro l hl
    rcases List.mem_append.1 hl with q | q
    · exact ih l q
    · rw [List.mem_singleton.1 q]; exact (order_len hm).2.1

/-- What is delivered: the last number of each sender. -/
def dset (b : List Int) (x : Idn) : List Int := b.set x.1.toNat x.2
def doneOf (n : Nat) (L : List (List Rn)) (d : Nat) : List Int := ((idsOf L).take d).foldl dset (List.replicate n 0)
theorem dfold_len : ∀ (l : List Idn) (b : List Int), (l.foldl dset b).length = b.length
  | [], _ => rfl
  | x :: l, b => by rw [List.foldl_cons, dfold_len l]; simp [dset]
theorem doneOf_len (n : Nat) (L : List (List Rn)) (d : Nat) : (doneOf n L d).length = n := by
  unfold doneOf; rw [dfold_len]; simp
theorem proc_fold : ∀ {l : List Idn} {b b' : List Int}, procR b l = some b' → b' = l.foldl dset b
  | [], b, b', h => (Option.some.inj h).symm
  | x :: l, b, b', h => by
    unfold procR at h
    split at h
    · have := proc_fold h
      exact this
    · cases h
theorem proc_le : ∀ {l : List Idn} {b b' : List Int}, (∀ x ∈ l, 0 ≤ x.1) → procR b l = some b' → ∀ j, b.getD j 0 ≤ b'.getD j 0
  | [], b, b', _, h, j => by rw [← Option.some.inj h]; exact Int.le_refl _
  | x :: l, b, b', h0, h, j => by
    unfold procR at h
    split at h
    · rename_i hc
      have := proc_le (fun y hy => h0 y (List.mem_cons_of_mem _ hy)) h j
      refine Int.le_trans ?_ this
      simp only [List.getD_eq_getElem?_getD, List.getElem?_set]
      split
      · rename_i e
        have hx := h0 x List.mem_cons_self
        rw [if_pos (by omega)]
        have e2 := hc.2
        rw [e] at e2
        simp only [List.getD_eq_getElem?_getD] at e2
        simp only [Option.getD_some]
        omega
      · exact Int.le_refl _
    · cases h
section
variable {n : Nat} {L : List (List Rn)} {d : Nat}
theorem proc_at (h : OkL n L) (d : Nat) : procR (List.replicate n 0) ((idsOf L).take d) = some (doneOf n L d) ∧ procR (doneOf n L d) ((idsOf L).drop d) = some (baseOf n L) := by
  have h1 := h.proc
  rw [← List.take_append_drop d (idsOf L), procR_app] at h1
  obtain ⟨b, h2, h3⟩ := Option.bind_eq_some_iff.1 h1
  obtain rfl := proc_fold h2
  exact ⟨h2, h3⟩
/-- The next id. -/
theorem next_id (h : OkL n L) (hd : d < (idsOf L).length) : (idsOf L)[d].1 < n ∧ 0 ≤ (idsOf L)[d].1 ∧ (idsOf L)[d].2 = (doneOf n L d).getD (idsOf L)[d].1.toNat 0 + 1 ∧ doneOf n L (d + 1) = (doneOf n L d).set (idsOf L)[d].1.toNat (idsOf L)[d].2 := by
  have h2 := (proc_at h d).2
  rw [List.drop_eq_getElem_cons hd] at h2
  unfold procR at h2
  split at h2
  · rename_i hc
    rw [doneOf_len] at hc
    refine ⟨hc.1, (h.ids _ (List.getElem_mem hd)).1.1, hc.2, ?_⟩
    unfold doneOf
    rw [List.take_succ_eq_append_getElem hd, List.foldl_append]
    rfl
  · cases h2
theorem done_le (h : OkL n L) (d j : Nat) : (doneOf n L d).getD j 0 ≤ (baseOf n L).getD j 0 :=
  proc_le (fun x hx => (h.ids x (List.mem_of_mem_drop hx)).1.1) (proc_at h d).2 j
theorem done_zero (n : Nat) (L : List (List Rn)) : doneOf n L 0 = List.replicate n 0 := rfl
theorem done_u (h : OkL n L) (d : Nat) : U (doneOf n L d) := by
  have : ∀ (l : List Idn) (b : List Int), (∀ x ∈ l, 0 ≤ x.2 ∧ x.2 < 18446744073709551616) → U b → U (l.foldl dset b) := by
    intro l
    induction l with
    | nil => intro b _ hb; exact hb
    | cons x l ih =>
      intro b hx hb
      rw [List.foldl_cons]
      refine ih _ (fun y hy => hx y (List.mem_cons_of_mem _ hy)) fun y hy => ?_
      rcases List.mem_or_eq_of_mem_set hy with q | q
      · exact hb y q
      · rw [q]; exact hx x List.mem_cons_self
  exact this _ _ (fun x hx => (h.ids x (List.mem_of_mem_take hx)).2) (U_zero n)
theorem done_app (l : List Rn) (hd : d ≤ (idsOf L).length) : doneOf n (L ++ [l]) d = doneOf n L d := by
  unfold doneOf
  rw [idsOf_app, List.take_append_of_le_length hd]
end

/-- Which batches are not wholly delivered: the instance, how many ids are left. -/
def waitsOf : Nat → List (List Rn) → Nat → List (Nat × Nat)
  | _, [], _ => []
  | i, l :: L, d => if (orderR l).length ≤ d then waitsOf (i + 1) L (d - (orderR l).length) else (i, (orderR l).length - d) :: waitsOf (i + 1) L 0
def wholeN : List (List Rn) → Nat → Nat
  | [], _ => 0
  | l :: L, d => if (orderR l).length ≤ d then wholeN L (d - (orderR l).length) + 1 else 0
theorem wholeN_le : ∀ (L : List (List Rn)) (d : Nat), wholeN L d ≤ L.length
  | [], _ => Nat.le_refl _
  | l :: L, d => by
    have := wholeN_le L (d - (orderR l).length)
    unfold wholeN
    split
    · simp; omega
    · simp
theorem waits_len : ∀ (L : List (List Rn)) (i d : Nat), (waitsOf i L d).length ≤ L.length
  | [], _, _ => Nat.le_refl _
  | l :: L, i, d => by
    unfold waitsOf
    split
    · have := waits_len L (i + 1) (d - (orderR l).length); simp; omega
    · have := waits_len L (i + 1) 0; simp; omega
theorem waits_step : ∀ {L : List (List Rn)} {d : Nat}, (∀ l ∈ L, 1 ≤ (orderR l).length) → d < (idsOf L).length → ∀ i, ∃ b rest, waitsOf i L d = (i + wholeN L d, b + 1) :: rest ∧ waitsOf i L (d + 1) = (if b = 0 then rest else (i + wholeN L d, b) :: rest) ∧ wholeN L (d + 1) = (if b = 0 then wholeN L d + 1 else wholeN L d)
  | [], d, _, hd, i => by simp [idsOf] at hd
  | l :: L, d, hp, hd, i => by
    have h1 := hp l List.mem_cons_self
    have hp' : ∀ l ∈ L, 1 ≤ (orderR l).length := fun x hx => hp x (List.mem_cons_of_mem _ hx)
    rw [idsOf_cons, List.length_append] at hd
    by_cases hc : (orderR l).length ≤ d
    · obtain ⟨b, rest, k1, k2, k3⟩ := waits_step hp' (show d - (orderR l).length < (idsOf L).length by omega) (i + 1)
      have e : d + 1 - (orderR l).length = d - (orderR l).length + 1 := by omega
      refine ⟨b, rest, ?_, ?_, ?_⟩
      · simp only [waitsOf, wholeN, if_pos hc, k1]
        congr 2; omega
      · simp only [waitsOf, wholeN, if_pos hc, if_pos (show (orderR l).length ≤ d + 1 by omega), e, k2]
        have e3 : i + 1 + wholeN L (d - (orderR l).length) = i + (wholeN L (d - (orderR l).length) + 1) := by omega
        rw [e3]
      · simp only [wholeN, if_pos hc, if_pos (show (orderR l).length ≤ d + 1 by omega), e, k3]
        split <;> rfl
    · have z : wholeN L 0 = 0 := by
        cases L with
        | nil => rfl
        | cons l' L =>
          have := hp' l' List.mem_cons_self
          unfold wholeN
          rw [if_neg (by omega)]
      refine ⟨(orderR l).length - d - 1, waitsOf (i + 1) L 0, ?_, ?_, ?_⟩
      · simp only [waitsOf, wholeN, if_neg hc]
        congr 2; omega
      · by_cases h2 : (orderR l).length ≤ d + 1
        · simp only [waitsOf, wholeN, if_neg hc, if_pos h2]
          rw [if_pos (by omega), show d + 1 - (orderR l).length = 0 by omega]
        · simp only [waitsOf, wholeN, if_neg hc, if_neg h2]
          rw [if_neg (by omega)]
          congr 2
      · by_cases h2 : (orderR l).length ≤ d + 1
        · simp only [wholeN, if_neg hc, if_pos h2]
          rw [if_pos (by omega), show d + 1 - (orderR l).length = 0 by omega, z]
        · simp only [wholeN, if_neg hc, if_neg h2]
          rw [if_neg (by omega)]
theorem waits_app (l : List Rn) (hl : 1 ≤ (orderR l).length) : ∀ (L : List (List Rn)) (i d : Nat), d ≤ (idsOf L).length → waitsOf i (L ++ [l]) d = waitsOf i L d ++ [(i + L.length, (orderR l).length)] ∧ wholeN (L ++ [l]) d = wholeN L d
  | [], i, d, hd => by
    have : d = 0 := by simpa [idsOf] using hd
    subst this
    simp only [List.nil_append, waitsOf, wholeN]
    rw [if_neg (by omega), if_neg (by omega)]
    exact ⟨rfl, rfl⟩
  | x :: L, i, d, hd => by
    rw [idsOf_cons, List.length_append] at hd
    simp only [List.cons_append, waitsOf, wholeN]
    by_cases hc : (orderR x).length ≤ d
    · obtain ⟨k1, k2⟩ := waits_app l hl L (i + 1) (d - (orderR x).length) (by omega)
      simp only [if_pos hc, k1, k2, List.length_cons]
      exact ⟨by congr 3; omega, trivial⟩
    · obtain ⟨k1, _⟩ := waits_app l hl L (i + 1) 0 (by omega)
      simp only [if_neg hc, k1, List.length_cons, List.cons_append]
      exact ⟨by congr 4; omega, trivial⟩
theorem waits_whole : ∀ {L : List (List Rn)}, wholeN L (idsOf L).length = L.length
  | [] => rfl
  | l :: L => by
    have := waits_whole (L := L)
    rw [idsOf_cons, List.length_append]
    unfold wholeN
    rw [if_pos (by omega), show (orderR l).length + (idsOf L).length - (orderR l).length = (idsOf L).length by omega, this]
    rfl
end Go.Proofs.Ytmaidlndikcgkaa.Sim
