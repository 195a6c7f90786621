/- The texts B23A, B23B, B23C, B23D, B23E, B23F, B23G, B23H, B23I, one behind the other. No condition. -/
import Derived.Test.YtahiipfjhjeofaaB05P
namespace Go.Proofs.Ytahiipfjhjeofaa.Sim
set_option linter.unusedSimpArgs false
set_option linter.unusedVariables false

def baseOf (n : Nat) (L : List (List Rn)) : List Int := L.foldl afterR (List.replicate n 0)
def idsOf (L : List (List Rn)) : List Idn := (L.map orderR).flatten
/-- Batches, each of which may be on what those ahead of it come to. -/
inductive OkL (n : Nat) : List (List Rn) → Prop
  | nil : OkL n []
  | snoc {L : List (List Rn)} {l : List Rn} (h : OkL n L) (hw : ∀ r ∈ l, WfR r) (hm : mayR (baseOf n L) 4096 l = true) : OkL n (L ++ [l])

theorem baseOf_app (n : Nat) (L : List (List Rn)) (l : List Rn) : baseOf n (L ++ [l]) = afterR (baseOf n L) l := by simp [baseOf]
theorem idsOf_app (L : List (List Rn)) (l : List Rn) : idsOf (L ++ [l]) = idsOf L ++ orderR l := by simp [idsOf]
theorem idsOf_cons (L : List (List Rn)) (l : List Rn) : idsOf (l :: L) = orderR l ++ idsOf L := by simp [idsOf]
theorem baseOf_len (n : Nat) (L : List (List Rn)) : (baseOf n L).length = n := by
  have : ∀ (L : List (List Rn)) (b : List Int), (L.foldl afterR b).length = b.length := by
    intro L
    induction L with
    | nil => intro b; rfl
    | cons l L ih => intro b; rw [List.foldl_cons, ih, afterR_len]
  unfold baseOf
  rw [this]; simp
theorem U_zero (n : Nat) : U (List.replicate n 0) := fun x hx => by
  rw [(List.mem_replicate.1 hx).2]; omega
theorem U_after {b : List Int} {l : List Rn} (hb : U b) (hw : ∀ r ∈ l, WfR r) : U (afterR b l) := by
  unfold afterR
  split
  · rename_i h
    exact foldR_U (by omega) hw (mayR_from h) hb
  · exact hb
theorem OkL.u {n : Nat} {L : List (List Rn)} (h : OkL n L) : U (baseOf n L) := by
  induction h with
  | nil => exact U_zero n
  | snoc h hw hm ih => rw [baseOf_app]; exact U_after ih hw
theorem OkL.wf {n : Nat} {L : List (List Rn)} (h : OkL n L) : ∀ l ∈ L, ∀ r ∈ l, WfR r := by
  induction h with
  | nil => intro l hl; simp at hl
  | snoc h hw hm ih =>
    intro l hl
    rcases List.mem_append.1 hl with q | q
    · exact ih l q
    · rw [List.mem_singleton.1 q]; exact hw
theorem OkL.proc {n : Nat} {L : List (List Rn)} (h : OkL n L) : procR (List.replicate n 0) (idsOf L) = some (baseOf n L) := by
  induction h with
  | nil => rfl
  | snoc h hw hm ih => rw [idsOf_app, procR_app, ih, baseOf_app, Option.bind_some, orders_pure hw hm]
theorem OkL.ids {n : Nat} {L : List (List Rn)} (h : OkL n L) : ∀ x ∈ idsOf L, (0 ≤ x.1 ∧ x.1 < 256) ∧ (0 ≤ x.2 ∧ x.2 < 18446744073709551616) := by
  intro x hx
  obtain ⟨l, hl, hx⟩ := List.mem_flatten.1 hx
  obtain ⟨l', hl', rfl⟩ := List.mem_map.1 hl
  exact orderR_wf (h.wf l' hl') x hx

theorem order_len {base : List Int} {l : List Rn} (hm : mayR base 4096 l = true) : ((orderR l).length : Int) = countR 0 l ∧ 1 ≤ (orderR l).length ∧ (orderR l).length ≤ 4096 := by
  have hmf := mayR_from hm
  obtain ⟨h1, h2, h3, h4⟩ := mayFrom_inc hmf
  have hne : l ≠ [] := fun q => by subst q; simp [mayR] at hm
  have hc : ¬ 4096 < countR 0 l := by
    unfold mayR at hm
    split at hm
    · cases hm
    · rename_i h; omega
  have hany : ¬ l.any (fun r => !runOk r) = true := by
    intro q
    obtain ⟨r, hr, hq⟩ := List.any_eq_true.1 q
    simp [h4 r hr] at hq
  have ho : orderR l = ordPre 4096 l := by unfold orderR; rw [if_neg (fun q => q.elim hany hc)]
  have hsum := countR_sum l 0 h4 (by omega) (by omega)
  have hl : (orderR l).length = sumAll l := by rw [ho, ordPre_len, sumMin_ge (by omega)]
  have hp : 1 ≤ sumAll l := by
    cases l with
    | nil => exact absurd rfl hne
    | cons r l =>
      have := runOk_le (h4 r List.mem_cons_self)
      unfold sumAll; omega
  omega
theorem OkL.pos {n : Nat} {L : List (List Rn)} (h : OkL n L) : ∀ l ∈ L, 1 ≤ (orderR l).length := by
  induction h with
  | nil => intro l hl; simp at hl
  | snoc h hw hm ih =>
    intro l hl
    rcases List.mem_append.1 hl with q | q
    · exact ih l q
    · rw [List.mem_singleton.1 q]; exact (order_len hm).2.1

/-- What is delivered: the last number of each sender. -/
def dset (b : List Int) (x : Idn) : List Int := b.set x.1.toNat x.2
def doneOf (n : Nat) (L : List (List Rn)) (d : Nat) : List Int := ((idsOf L).take d).foldl dset (List.replicate n 0)
theorem dfold_len : ∀ (l : List Idn) (b : List Int), (l.foldl dset b).length = b.length
  | [], _ => rfl
  | x :: l, b => by rw [List.foldl_cons, dfold_len l]; simp [dset]
theorem doneOf_len (n : Nat) (L : List (List Rn)) (d : Nat) : (doneOf n L d).length = n := by
  unfold doneOf; rw [dfold_len]; simp
theorem proc_fold : ∀ {l : List Idn} {b b' : List Int}, procR b l = some b' → b' = l.foldl dset b
  | [], b, b', h => (Option.some.inj h).symm
  | x :: l, b, b', h => by
    unfold procR at h
    split at h
    · have := proc_fold h
      exact this
    · cases h
theorem proc_le : ∀ {l : List Idn} {b b' : List Int}, (∀ x ∈ l, 0 ≤ x.1) → procR b l = some b' → ∀ j, b.getD j 0 ≤ b'.getD j 0
  | [], b, b', _, h, j => by rw [← Option.some.inj h]; exact Int.le_refl _
  | x :: l, b, b', h0, h, j => by
    unfold procR at h
    split at h
    · rename_i hc
      have := proc_le (fun y hy => h0 y (List.mem_cons_of_mem _ hy)) h j
      refine Int.le_trans ?_ this
      simp only [List.getD_eq_getElem?_getD, List.getElem?_set]
      split
      · rename_i e
        have hx := h0 x List.mem_cons_self
        rw [if_pos (by omega)]
        have e2 := hc.2
        rw [e] at e2
        simp only [List.getD_eq_getElem?_getD] at e2
        simp only [Option.getD_some]
        omega
      · exact Int.le_refl _
    · cases h
section
variable {n : Nat} {L : List (List Rn)} {d : Nat}
theorem proc_at (h : OkL n L) (d : Nat) : procR (List.replicate n 0) ((idsOf L).take d) = some (doneOf n L d) ∧ procR (doneOf n L d) ((idsOf L).drop d) = some (baseOf n L) := by
  have h1 := h.proc
  rw [← List.take_append_drop d (idsOf L), procR_app] at h1
  obtain ⟨b, h2, h3⟩ := Option.bind_eq_some_iff.1 h1
  obtain rfl := proc_fold h2
  exact ⟨h2, h3⟩
/-- The next id. -/
theorem next_id (h : OkL n L) (hd : d < (idsOf L).length) : (idsOf L)[d].1 < n ∧ 0 ≤ (idsOf L)[d].1 ∧ (idsOf L)[d].2 = (doneOf n L d).getD (idsOf L)[d].1.toNat 0 + 1 ∧ doneOf n L (d + 1) = (doneOf n L d).set (idsOf L)[d].1.toNat (idsOf L)[d].2 := by
  have h2 := (proc_at h d).2
  rw [List.drop_eq_getElem_cons hd] at h2
  unfold procR at h2
  split at h2
  · rename_i hc
    rw [doneOf_len] at hc
    refine ⟨hc.1, (h.ids _ (List.getElem_mem hd)).1.1, hc.2, ?_⟩
    unfold doneOf
    rw [List.take_succ_eq_append_getElem hd, List.foldl_append]
    rfl
  · cases h2
theorem done_le (h : OkL n L) (d j : Nat) : (doneOf n L d).getD j 0 ≤ (baseOf n L).getD j 0 :=
  proc_le (fun x hx => (h.ids x (List.mem_of_mem_drop hx)).1.1) (proc_at h d).2 j
theorem done_zero (n : Nat) (L : List (List Rn)) : doneOf n L 0 = List.replicate n 0 := rfl
theorem done_u (h : OkL n L) (d : Nat) : U (doneOf n L d) := by
  have : ∀ (l : List Idn) (b : List Int), (∀ x ∈ l, 0 ≤ x.2 ∧ x.2 < 18446744073709551616) → U b → U (l.foldl dset b) := by
    intro l
    induction l with
    | nil => intro b _ hb; exact hb
    | cons x l ih =>
      intro b hx hb
      rw [List.foldl_cons]
      refine ih _ (fun y hy => hx y (List.mem_cons_of_mem _ hy)) fun y hy => ?_
      rcases List.mem_or_eq_of_mem_set hy with q | q
      · exact hb y q
      · rw [q]; exact hx x List.mem_cons_self
  exact this _ _ (fun x hx => (h.ids x (List.mem_of_mem_take hx)).2) (U_zero n)
theorem done_app (l : List Rn) (hd : d ≤ (idsOf L).length) : doneOf n (L ++ [l]) d = doneOf n L d := by
  unfold doneOf
  rw [idsOf_app, List.take_append_of_le_length hd]
end

/-- Which batches are not wholly delivered: the instance, how many ids are left. -/
def waitsOf : Nat → List (List Rn) → Nat → List (Nat × Nat)
  | _, [], _ => []
  | i, l :: L, d => if (orderR l).length ≤ d then waitsOf (i + 1) L (d - (orderR l).length) else (i, (orderR l).length - d) :: waitsOf (i + 1) L 0
def wholeN : List (List Rn) → Nat → Nat
  | [], _ => 0
  | l :: L, d => if (orderR l).length ≤ d then wholeN L (d - (orderR l).length) + 1 else 0
theorem wholeN_le : ∀ (L : List (List Rn)) (d : Nat), wholeN L d ≤ L.length
  | [], _ => Nat.le_refl _
  | l :: L, d => by
    have := wholeN_le L (d - (orderR l).length)
    unfold wholeN
    split
    · simp; omega
    · simp
theorem waits_len : ∀ (L : List (List Rn)) (i d : Nat), (waitsOf i L d).length ≤ L.length
  | [], _, _ => Nat.le_refl _
  | l :: L, i, d => by
    unfold waitsOf
    split
    · have := waits_len L (i + 1) (d - (orderR l).length); simp; omega
    · have := waits_len L (i + 1) 0; simp; omega
theorem waits_step : ∀ {L : List (List Rn)} {d : Nat}, (∀ l ∈ L, 1 ≤ (orderR l).length) → d < (idsOf L).length → ∀ i, ∃ b rest, waitsOf i L d = (i + wholeN L d, b + 1) :: rest ∧ waitsOf i L (d + 1) = (if b = 0 then rest else (i + wholeN L d, b) :: rest) ∧ wholeN L (d + 1) = (if b = 0 then wholeN L d + 1 else wholeN L d)
  | [], d, _, hd, i => by simp [idsOf] at hd
  | l :: L, d, hp, hd, i => by
    have h1 := hp l List.mem_cons_self
    have hp' : ∀ l ∈ L, 1 ≤ (orderR l).length := fun x hx => hp x (List.mem_cons_of_mem _ hx)
    rw [idsOf_cons, List.length_append] at hd
    by_cases hc : (orderR l).length ≤ d
    · obtain ⟨b, rest, k1, k2, k3⟩ := waits_step hp' (show d - (orderR l).length < (idsOf L).length by omega) (i + 1)
      have e : d + 1 - (orderR l).length = d - (orderR l).length + 1 := by omega
      refine ⟨b, rest, ?_, ?_, ?_⟩
      · simp only [waitsOf, wholeN, if_pos hc, k1]
        congr 2; omega
      · simp only [waitsOf, wholeN, if_pos hc, if_pos (show (orderR l).length ≤ d + 1 by omega), e, k2]
        have e3 : i + 1 + wholeN L (d - (orderR l).length) = i + (wholeN L (d - (orderR l).length) + 1) := by omega
        rw [e3]
      · simp only [wholeN, if_pos hc, if_pos (show (orderR l).length ≤ d + 1 by omega), e, k3]
        split <;> rfl
    · have z : wholeN L 0 = 0 := by
        cases L with
        | nil => rfl
        | cons l' L =>
          have := hp' l' List.mem_cons_self
          unfold wholeN
          rw [if_neg (by omega)]
      refine ⟨(orderR l).length - d - 1, waitsOf (i + 1) L 0, ?_, ?_, ?_⟩
      · simp only [waitsOf, wholeN, if_neg hc]
        congr 2; omega
      · by_cases h2 : (orderR l).length ≤ d + 1
        · simp only [waitsOf, wholeN, if_neg hc, if_pos h2]
          rw [if_pos (by omega), show d + 1 - (orderR l).length = 0 by omega]
        · simp only [waitsOf, wholeN, if_neg hc, if_neg h2]
          rw [if_neg (by omega)]
          congr 2
      · by_cases h2 : (orderR l).length ≤ d + 1
        · simp only [wholeN, if_neg hc, if_pos h2]
          rw [if_pos (by omega), show d + 1 - (orderR l).length = 0 by omega, z]
        · simp only [wholeN, if_neg hc, if_neg h2]
          rw [if_neg (by omega)]
theorem waits_app (l : List Rn) (hl : 1 ≤ (orderR l).length) : ∀ (L : List (List Rn)) (i d : Nat), d ≤ (idsOf L).length → waitsOf i (L ++ [l]) d = waitsOf i L d ++ [(i + L.length, (orderR l).length)] ∧ wholeN (L ++ [l]) d = wholeN L d
  | [], i, d, hd => by
    have : d = 0 := by simpa [idsOf] using hd
    subst this
    simp only [List.nil_append, waitsOf, wholeN]
    rw [if_neg (by omega), if_neg (by omega)]
    exact ⟨rfl, rfl⟩
  | x :: L, i, d, hd => by
    rw [idsOf_cons, List.length_append] at hd
    simp only [List.cons_append, waitsOf, wholeN]
    by_cases hc : (orderR x).length ≤ d
    · obtain ⟨k1, k2⟩ := waits_app l hl L (i + 1) (d - (orderR x).length) (by omega)
      simp only [if_pos hc, k1, k2, List.length_cons]
      exact ⟨by congr 3; omega, trivial⟩
    · obtain ⟨k1, _⟩ := waits_app l hl L (i + 1) 0 (by omega)
      simp only [if_neg hc, k1, List.length_cons, List.cons_append]
      exact ⟨by congr 4; omega, trivial⟩
theorem waits_whole : ∀ {L : List (List Rn)}, wholeN L (idsOf L).length = L.length
  | [] => rfl
  | l :: L => by
    have := waits_whole (L := L)
    rw [idsOf_cons, List.length_append]
    unfold wholeN
    rw [if_pos (by omega), show (orderR l).length + (idsOf L).length - (orderR l).length = (idsOf L).length by omega, this]
    rfl
end Go.Proofs.Ytahiipfjhjeofaa.Sim
namespace Go.Proofs.Ytahiipfjhjeofaa.Sim
set_option linter.unusedSimpArgs false
set_option linter.unusedVariables false

/-- A slice of a thing's own, of whose row a front may have been taken off. -/
def Que {β : Type} (c : β → List AV) (es : Nat) (s : Store) (τ : Nat → Nat) (t : Nat) (v : AV) (l : List β) : Prop := (v = .nilsl ∧ l = []) ∨ ∃ (r : Nat) (pre : List β), v = .sl r (pre.length * es) l.length es ((pre ++ l).length * es) ∧ r < s.next ∧ τ r = t ∧ s.get r = .cells ((pre ++ l).map c).flatten false
section
variable {β : Type} {c : β → List AV} {es : Nat} {s s' : Store} {τ τ' : Nat → Nat} {t : Nat} {v : AV} {l : List β}
theorem Que.len (h : Que c es s τ t v l) {α : Type} (f : AV → Option α) : aLen v f = f (.int .i64 l.length) := by
  rcases h with ⟨rfl, rfl⟩ | ⟨r, pre, rfl, _⟩ <;> rfl
theorem Que.cell (h : Que c es s τ t v l) {α : Type} (f : List AV → Option α) : aCells v f = f [v] := by
  rcases h with ⟨rfl, rfl⟩ | ⟨r, pre, rfl, _⟩ <;> rfl
theorem Que.keep (h : Que c es s τ t v l) (hn : s.next ≤ s'.next) (hg : ∀ r, r < s.next → τ r = t → s'.get r = s.get r) (ht : ∀ r, r < s.next → τ' r = τ r) : Que c es s' τ' t v l := by
  rcases h with h | ⟨r, pre, h1, h2, h3, h4⟩
  · exact .inl h
  · exact .inr ⟨r, pre, h1, Nat.lt_of_lt_of_le h2 hn, (ht r h2).trans h3, (hg r h2 h3).trans h4⟩
/-- The first of it: where it lies. -/
theorem Que.head {x : β} (hc : ∀ x, (c x).length = es) (h : Que c es s τ t v (x :: l)) : ∃ r pre, v = .sl r (pre.length * es) (l.length + 1) es ((pre ++ x :: l).length * es) ∧ r < s.next ∧ τ r = t ∧ s.get r = .cells ((pre ++ x :: l).map c).flatten false ∧
    (∀ {α : Type} (k : IntKind) (f : AV → Option α), aIndexSl es v (.int k 0) f = f (.ptr r (0 + pre.length * es) ((pre ++ x :: l).length * es))) ∧
    (∀ {α : Type} (f : AV → Option α), aLoadN es (.ptr r (0 + pre.length * es) ((pre ++ x :: l).length * es)) s f = f (.agg (c x))) ∧
    (∀ {α : Type} (f : AV → Option α), aSliceSl es v (some (.int .i64 1)) none f = f (.sl r ((pre ++ [x]).length * es) l.length es ((pre ++ x :: l).length * es))) := by
  rcases h with ⟨_, h⟩ | ⟨r, pre, rfl, h2, h3, h4⟩
  · cases h
  · have hi : pre.length < (pre ++ x :: l).length := by simp
    refine ⟨r, pre, rfl, h2, h3, h4, fun k f => ?_, fun f => ?_, fun f => ?_⟩
    · simp [aIndexSl]
    · rw [loadL hc h4 pre.length hi]
      simp
    · simp only [aSliceSl, aNum]
      rw [if_pos ⟨trivial, by omega, by simp; omega, by simp⟩]
      simp [Nat.succ_mul]
theorem Que.tail {x : β} (h : Que c es s τ t v (x :: l)) {r : Nat} {pre : List β} (hv : v = .sl r (pre.length * es) (l.length + 1) es ((pre ++ x :: l).length * es)) (h2 : r < s.next) (h3 : τ r = t) (h4 : s.get r = .cells ((pre ++ x :: l).map c).flatten false) :
    Que c es s τ t (.sl r ((pre ++ [x]).length * es) l.length es ((pre ++ x :: l).length * es)) l :=
  .inr ⟨r, pre ++ [x], by simp, h2, h3, by rw [h4]; simp⟩

/-- More behind it. -/
theorem Que.app {bytes : Nat} (hc : ∀ x, (c x).length = es) (he : 0 < es) (hby : 0 < bytes) (h : Que c es s τ t v l) {y : AV} {l2 : List β} (hy : IsL c es s y l2) (hb : (l.length + l2.length) * bytes ≤ 140737488355328) (hfr : ∀ r, s.next ≤ r → τ r = 0) :
    ∃ v' s' τ', (∀ {α : Type} (f : AV → Store → Option α), aAppend es bytes v y s f = f v' s') ∧ Que c es s' τ' t v' (l ++ l2) ∧ s.next ≤ s'.next ∧ (∀ r, r < s.next → τ r ≠ t → s'.get r = s.get r) ∧ (∀ r, r < s.next → τ' r = τ r) ∧ (∀ r, s'.next ≤ r → τ' r = 0) ∧ (∀ r, s.next ≤ r → τ' r ≠ 0 → τ' r = t) := by
  have hcells : ∀ {α : Type} (f : Nat → List AV → Option α), aCellsOf es y s f = f l2.length (l2.map c).flatten := fun f => by
    rcases hy with ⟨rfl, rfl⟩ | ⟨id, ro, rfl, _, h3⟩
    · rfl
    · have hl := flatL_len hc l2
      simp [aCellsOf, aRow, h3, hl, List.take_of_length_le]
  rcases h with ⟨rfl, rfl⟩ | ⟨r, pre, rfl, h2, h3, h4⟩
  · by_cases h0 : l2 = []
    · subst h0
      exact ⟨.nilsl, s, τ, fun f => by simp [aAppend, hcells], .inl ⟨rfl, rfl⟩, Nat.le_refl _, fun _ _ _ => rfl, fun _ _ => rfl, hfr, fun r hr h => absurd (hfr r hr) h⟩
    · have hl : l2.length ≠ 0 := fun q => h0 (List.length_eq_zero_iff.1 q)
      refine ⟨.sl s.next 0 l2.length es (l2.length * es), s.push (.cells (l2.map c).flatten false), fun r => if r = s.next then t else τ r, fun f => ?_, .inr ⟨s.next, [], by simp, Nat.lt_succ_self _, if_pos rfl, by rw [get_push, if_pos rfl]; rfl⟩, Nat.le_succ _, fun r hr _ => by rw [get_push, if_neg (by omega)], fun r hr => if_neg (by omega), fun r hr => ?_, fun r hr h => ?_⟩
      · simp only [aAppend, hcells]
        rw [if_neg hl, if_pos ⟨by simpa using hb, hby⟩]
      · have hr : s.next + 1 ≤ r := hr
        simp only [if_neg (show ¬ r = s.next by omega)]
        exact hfr r (by omega)
      · by_cases e : r = s.next
        · simp only [if_pos e]
        · simp only [if_neg e] at h
          exact absurd (hfr r hr) h
  · have hl1 := flatL_len hc (pre ++ l)
    by_cases h0 : l2 = []
    · subst h0
      exact ⟨.sl r (pre.length * es) l.length es ((pre ++ l).length * es), s, τ, fun f => by simp only [aAppend, hcells, aOwn, h4, hl1, if_true, List.length_nil, eq_self], .inr ⟨r, pre, by rw [List.append_nil], h2, h3, by rw [List.append_nil]; exact h4⟩, Nat.le_refl _, fun _ _ _ => rfl, fun _ _ => rfl, hfr, fun r hr h => absurd (hfr r hr) h⟩
    · have hl : l2.length ≠ 0 := fun q => h0 (List.length_eq_zero_iff.1 q)
      refine ⟨.sl r (pre.length * es) (l ++ l2).length es ((pre ++ (l ++ l2)).length * es), s.set r (.cells ((pre ++ (l ++ l2)).map c).flatten false), τ, fun f => ?_, .inr ⟨r, pre, rfl, h2, h3, by rw [get_set, if_pos rfl]⟩, Nat.le_refl _, fun q hq hne => by rw [get_set, if_neg (fun e => hne (by rw [e]; exact h3))], fun _ _ => rfl, hfr, fun r hr h => absurd (hfr r hr) h⟩
      simp only [aAppend, hcells, if_true, aOwn, h4, hl1]
      rw [if_neg hl, if_pos ⟨by simp [Nat.add_mul], hb, he, hby⟩]
      congr 1
      · simp [Nat.add_mul, Nat.add_assoc]
      · simp
end

theorem ld_fld {s : Store} {id j ep : Nat} {cs : List AV} {ro : Bool} (h : s.get id = .cells cs ro) (hc : cs.length = ep) {v : AV} (hv : cs[j]? = some v) {α : Type} (f : AV → Option α) : aLoad1 (.ptr id (0 + j) ep) s f = f v := load_1 h hc (by rw [Nat.zero_add]; exact hv)
theorem st_fld {s : Store} {id j ep : Nat} {cs : List AV} {v : AV} (h : s.get id = .cells cs false) (hc : cs.length = ep) (hj : j < ep) (hv : ∀ {α : Type} (f : List AV → Option α), aCells v f = f [v]) {α : Type} (f : Store → Option α) : aStore 1 (.ptr id (0 + j) ep) v s f = f (s.set id (.cells (cs.set j v) false)) := by
  simp only [aStore, hv, aOwn, h, hc, if_true, Nat.zero_add, List.length_cons, List.length_nil, true_and]
  rw [if_pos (by omega)]
  rfl

def wcells (x : Nat × Nat) : List AV := [.int .u64 (x.1 : Int), .int .i64 (x.2 : Int)]
theorem wc_len (x : Nat × Nat) : (wcells x).length = 2 := rfl
/-- Runs whose row is tagged. -/
def RunsT (s : Store) (τ : Nat → Nat) (v : AV) (l : List Rn) : Prop := (v = .nilsl ∧ l = []) ∨ ∃ (id : Nat) (ro : Bool), v = .sl id 0 l.length 3 (l.length * 3) ∧ id < s.next ∧ τ id = 7 ∧ s.get id = .cells (l.map rcells).flatten ro
theorem RunsT.is {s : Store} {τ : Nat → Nat} {v : AV} {l : List Rn} (h : RunsT s τ v l) : IsRuns s v l := by
  rcases h with h | ⟨id, ro, h1, h2, _, h3⟩
  · exact .inl h
  · exact .inr ⟨id, ro, h1, h2, h3⟩
/-- What is kept, by instance. -/
def KeptR (s : Store) (τ : Nat → Nat) : List (AV × AV) → Nat → List (List Rn) → Prop
  | [], _, [] => True
  | (k, v) :: es, i, l :: L => k = .int .u64 (i : Int) ∧ RunsT s τ v l ∧ KeptR s τ es (i + 1) L
  | _, _, _ => False
theorem KeptR.len {s : Store} {τ : Nat → Nat} : ∀ {es : List (AV × AV)} {i : Nat} {L : List (List Rn)}, KeptR s τ es i L → es.length = L.length
  | [], _, [], _ => rfl
  | (k, v) :: es, i, l :: L, h => by simp [KeptR.len h.2.2]
  | [], _, _ :: _, h => h.elim
  | _ :: _, _, [], h => h.elim
theorem KeptR.keep {s s' : Store} {τ τ' : Nat → Nat} (hn : s.next ≤ s'.next) (hg : ∀ r, r < s.next → τ r = 7 → s'.get r = s.get r) (ht : ∀ r, r < s.next → τ' r = τ r) : ∀ {es : List (AV × AV)} {i : Nat} {L : List (List Rn)}, KeptR s τ es i L → KeptR s' τ' es i L
  | [], _, [], _ => trivial
  | (k, v) :: es, i, l :: L, h => by
    refine ⟨h.1, ?_, KeptR.keep hn hg ht h.2.2⟩
    rcases h.2.1 with q | ⟨id, ro, h1, h2, h3, h4⟩
    · exact .inl q
    · exact .inr ⟨id, ro, h1, Nat.lt_of_lt_of_le h2 hn, (ht id h2).trans h3, (hg id h2 h3).trans h4⟩
  | [], _, _ :: _, h => h.elim
  | _ :: _, _, [], h => h.elim
theorem KeptR.snoc {s : Store} {τ : Nat → Nat} {v : AV} {l : List Rn} (hv : RunsT s τ v l) : ∀ {es : List (AV × AV)} {i : Nat} {L : List (List Rn)}, KeptR s τ es i L → KeptR s τ (es ++ [(.int .u64 ((i + L.length : Nat) : Int), v)]) i (L ++ [l])
  | [], i, [], _ => ⟨rfl, hv, trivial⟩
  | (k, v') :: es, i, l' :: L, h => by
    refine ⟨h.1, h.2.1, ?_⟩
    have := KeptR.snoc hv h.2.2
    rw [show i + 1 + L.length = i + (l' :: L).length by simp; omega] at this
    exact this
  | [], _, _ :: _, h => h.elim
  | _ :: _, _, [], h => h.elim
/-- An instance that is kept, one that isn't. -/
theorem KeptR.find {s : Store} {τ : Nat → Nat} (x : Nat) : ∀ {es : List (AV × AV)} {i : Nat} {L : List (List Rn)} (j : Nat), KeptR s τ es i L →
    (∀ h : i ≤ x ∧ x - i < L.length, ∃ v, findAt (.int .u64 (x : Int)) es j = some (some (j + (x - i), v)) ∧ RunsT s τ v L[x - i]) ∧ (¬ (i ≤ x ∧ x - i < L.length) → findAt (.int .u64 (x : Int)) es j = some none)
  | [], i, [], j, _ => ⟨fun h => absurd h.2 (Nat.not_lt_zero _), fun _ => rfl⟩
  | (k, v) :: es, i, l :: L, j, h => by
    obtain ⟨rfl, hv, hk⟩ := h
    obtain ⟨h1, h2⟩ := KeptR.find x (j + 1) hk
    have hf : findAt (.int .u64 (x : Int)) ((AV.int .u64 (i : Int), v) :: es) j = if x = i then some (some (j, v)) else findAt (.int .u64 (x : Int)) es (j + 1) := by
      simp only [findAt, keyEq, if_true]
      by_cases e : x = i
      · subst e; simp
      · rw [if_neg e, show ((x : Int) == (i : Int)) = false from beq_eq_false_iff_ne.2 (by omega)]
    rw [hf]
    by_cases e : x = i
    · subst e
      refine ⟨fun _ => ⟨v, by simp, by simpa using hv⟩, fun q => absurd ⟨Nat.le_refl _, by simp⟩ q⟩
    · rw [if_neg e]
      refine ⟨fun q => ?_, fun q => h2 fun z => q ⟨by omega, by simp; omega⟩⟩
      have hlt : x - (i + 1) < L.length := by have := q.2; simp at this; omega
      obtain ⟨v', g1, g2⟩ := h1 ⟨by omega, hlt⟩
      refine ⟨v', by rw [g1]; congr 3; omega, ?_⟩
      have e2 : (l :: L)[x - i]'q.2 = L[x - (i + 1)] := by
        have : x - i = (x - (i + 1)) + 1 := by omega
        simp only [this, List.getElem_cons_succ]
      rw [e2]; exact g2
  | [], _, _ :: _, _, h => h.elim
  | _ :: _, _, [], _, h => h.elim

structure ORows where
  ro : Nat
  rd : Nat
  m : Nat
  vi : AV
  vw : AV
  es : List (AV × AV)

def ocells (R : ORows) (n : Nat) (L : List (List Rn)) (d f : Nat) : List AV := [.sl R.ro 0 n 1 n, .sl R.rd 0 n 1 n, .int .u64 (L.length : Nat), .int .u64 (wholeN L d : Nat), R.vi, R.vw, .map R.m, .int .u64 ((f + 1 : Nat) : Int)]
/-- Orders in the store: what was decided, how far it is delivered, how much of it is forgotten. -/
structure IsO (s : Store) (τ : Nat → Nat) (id n : Nat) (L : List (List Rn)) (d f : Nat) (R : ORows) : Prop where
  ok : OkL n L
  n1 : 1 ≤ n ∧ n ≤ 64
  dle : d ≤ (idsOf L).length
  fle : f ≤ L.length
  st : s.get id = .cells (ocells R n L d f) false
  ord : s.get R.ro = .cells ((baseOf n L).map (.int .u64)) false
  don : s.get R.rd = .cells ((doneOf n L d).map (.int .u64)) false
  ids : Que icells 2 s τ 4 R.vi ((idsOf L).drop d)
  wts : Que wcells 2 s τ 5 R.vw (waitsOf 1 L d)
  map : s.get R.m = .map R.es
  kept : KeptR s τ R.es (f + 1) (L.drop f)
  lt : id < s.next ∧ R.ro < s.next ∧ R.rd < s.next ∧ R.m < s.next
  tag : τ id = 1 ∧ τ R.ro = 2 ∧ τ R.rd = 3 ∧ τ R.m = 6
  fresh : ∀ l, s.next ≤ l → τ l = 0
/-- Rows that are not its own stay. -/
structure FrT (τ : Nat → Nat) (s s' : Store) : Prop where
  next : s.next ≤ s'.next
  get : ∀ l, l < s.next → τ l = 0 → s'.get l = s.get l
theorem FrT.refl (τ : Nat → Nat) (s : Store) : FrT τ s s := ⟨Nat.le_refl _, fun _ _ _ => rfl⟩
theorem FrT.trans {τ τ' : Nat → Nat} {s s' s'' : Store} (h : FrT τ s s') (k : FrT τ' s' s'') (ht : ∀ r, r < s.next → τ' r = τ r) : FrT τ s s'' :=
  ⟨Nat.le_trans h.next k.next, fun l hl h0 => (k.get l (Nat.lt_of_lt_of_le hl h.next) ((ht l hl).trans h0)).trans (h.get l hl h0)⟩
theorem Ext.frT {s s' : Store} (h : Ext s s') (τ : Nat → Nat) : FrT τ s s' := ⟨h.next, fun l hl _ => h.get l hl⟩

section
variable {s s' : Store} {τ : Nat → Nat} {id n d f : Nat} {L : List (List Rn)} {R : ORows}
/-- Where its rows stay it stays. -/
theorem IsO.keep (h : IsO s τ id n L d f R) (hn : s.next ≤ s'.next) (hg : ∀ r, r < s.next → τ r ≠ 0 → s'.get r = s.get r) : IsO s' τ id n L d f R := by
  obtain ⟨l1, l2, l3, l4⟩ := h.lt
  obtain ⟨t1, t2, t3, t4⟩ := h.tag
  exact ⟨h.ok, h.n1, h.dle, h.fle, (hg _ l1 (by omega)).trans h.st, (hg _ l2 (by omega)).trans h.ord, (hg _ l3 (by omega)).trans h.don, h.ids.keep hn (fun r hr ht => hg r hr (by omega)) (fun _ _ => rfl), h.wts.keep hn (fun r hr ht => hg r hr (by omega)) (fun _ _ => rfl),
    (hg _ l4 (by omega)).trans h.map, h.kept.keep hn (fun r hr ht => hg r hr (by omega)) (fun _ _ => rfl), ⟨by omega, by omega, by omega, by omega⟩, h.tag, fun l hl => h.fresh l (by omega)⟩
theorem IsO.ext (h : IsO s τ id n L d f R) (e : Ext s s') : IsO s' τ id n L d f R := h.keep e.next fun r hr _ => e.get r hr
theorem ids_le (h : OkL n L) : (idsOf L).length ≤ 4096 * L.length := by
  induction h with
  | nil => simp [idsOf]
  | snoc h hw hm ih => rw [idsOf_app]; have := (order_len hm).2.2; simp; omega

theorem IsO.base (h : IsO s τ id n L d f R) : IsSl s (.sl R.ro 0 n 1 n) .u64 (baseOf n L) := .inr ⟨R.ro, false, by rw [baseOf_len], h.lt.2.1, h.ord⟩
theorem IsO.dons (h : IsO s τ id n L d f R) : IsSl s (.sl R.rd 0 n 1 n) .u64 (doneOf n L d) := .inr ⟨R.rd, false, by rw [doneOf_len], h.lt.2.2.1, h.don⟩

theorem IsO.fld (h : IsO s τ id n L d f R) {j : Nat} {v : AV} (hv : (ocells R n L d f)[j]? = some v) {α : Type} (g : AV → Option α) : aLoad1 (.ptr id (0 + j) 8) s g = g v := ld_fld h.st rfl hv g
theorem insts_run (h : IsO s τ id n L d f R) (k : Nat) : rn (k + 1) 15 [.ptr id 0 8] s = some (.int .u64 (L.length : Nat), s) := by
  rw [orders_Orders_Insts.eq]
  unfold orders_Orders_Insts.f orders_Orders_Insts.p0
  have e : ∀ {α : Type} (g : Bool → Option α), aEq .ptr (.ptr id 0 8) .nilptr g = g false := fun g => rfl
  simp only [e, bnd, guard_tt, guard_ff, guard_tf, guard_ft, pick_t, pick_f, if_t, if_f, add_i, sub_i, lss_i, leq_i, gtr_i, geq_i, eql_i, neq_i, min_i, max_i, conv_i, len_sl, len_nil, not_b, cells_agg, new_s, fld_p, nil_p, h.fld (j := 2) rfl]
theorem whole_run (h : IsO s τ id n L d f R) (k : Nat) : rn (k + 1) 23 [.ptr id 0 8] s = some (.int .u64 (wholeN L d : Nat), s) := by
  rw [orders_Orders_Whole.eq]
  unfold orders_Orders_Whole.f orders_Orders_Whole.p0
  have e : ∀ {α : Type} (g : Bool → Option α), aEq .ptr (.ptr id 0 8) .nilptr g = g false := fun g => rfl
  simp only [e, bnd, guard_tt, guard_ff, guard_tf, guard_ft, pick_t, pick_f, if_t, if_f, add_i, sub_i, lss_i, leq_i, gtr_i, geq_i, eql_i, neq_i, min_i, max_i, conv_i, len_sl, len_nil, not_b, cells_agg, new_s, fld_p, nil_p, h.fld (j := 3) rfl]
theorem owaits_run (h : IsO s τ id n L d f R) (k : Nat) : rn (k + 1) 17 [.ptr id 0 8] s = some (.int .i64 (((idsOf L).length - d : Nat) : Int), s) := by
  rw [orders_Orders_Waits.eq]
  unfold orders_Orders_Waits.f orders_Orders_Waits.p0
  have e : ∀ {α : Type} (g : Bool → Option α), aEq .ptr (.ptr id 0 8) .nilptr g = g false := fun g => rfl
  simp only [e, bnd, guard_tt, guard_ff, guard_tf, guard_ft, pick_t, pick_f, if_t, if_f, add_i, sub_i, lss_i, leq_i, gtr_i, geq_i, eql_i, neq_i, min_i, max_i, conv_i, len_sl, len_nil, not_b, cells_agg, new_s, fld_p, nil_p, h.fld (j := 4) rfl, h.ids.len, List.length_drop]
theorem ordered_run (h : IsO s τ id n L d f R) (k : Nat) : ∃ v' s', rn (k + 2) 18 [.ptr id 0 8] s = some (v', s') ∧ OwnN s' v' (baseOf n L) s.next ∧ Ext s s' := by
  rw [orders_Orders_Ordered.eq]
  unfold orders_Orders_Ordered.f orders_Orders_Ordered.p0
  have e : ∀ {α : Type} (g : Bool → Option α), aEq .ptr (.ptr id 0 8) .nilptr g = g false := fun g => rfl
  obtain ⟨v', s', k1, k2, k3⟩ := clone_u64 h.base (by rw [baseOf_len]; have := h.n1; omega) k
  simp only [e, bnd, guard_tt, guard_ff, guard_tf, guard_ft, pick_t, pick_f, if_t, if_f, add_i, sub_i, lss_i, leq_i, gtr_i, geq_i, eql_i, neq_i, min_i, max_i, conv_i, len_sl, len_nil, not_b, cells_agg, new_s, fld_p, nil_p, h.fld (j := 0) rfl, k1]
  exact ⟨v', s', rfl, k2, k3⟩
theorem odone_run (h : IsO s τ id n L d f R) (k : Nat) : ∃ v' s', rn (k + 2) 21 [.ptr id 0 8] s = some (v', s') ∧ OwnN s' v' (doneOf n L d) s.next ∧ Ext s s' := by
  rw [orders_Orders_Done.eq]
  unfold orders_Orders_Done.f orders_Orders_Done.p0
  have e : ∀ {α : Type} (g : Bool → Option α), aEq .ptr (.ptr id 0 8) .nilptr g = g false := fun g => rfl
  obtain ⟨v', s', k1, k2, k3⟩ := clone_u64 h.dons (by rw [doneOf_len]; have := h.n1; omega) k
  simp only [e, bnd, guard_tt, guard_ff, guard_tf, guard_ft, pick_t, pick_f, if_t, if_f, add_i, sub_i, lss_i, leq_i, gtr_i, geq_i, eql_i, neq_i, min_i, max_i, conv_i, len_sl, len_nil, not_b, cells_agg, new_s, fld_p, nil_p, h.fld (j := 1) rfl, k1]
  exact ⟨v', s', rfl, k2, k3⟩
end
end Go.Proofs.Ytahiipfjhjeofaa.Sim
namespace Go.Proofs.Ytahiipfjhjeofaa.Sim
set_option linter.unusedSimpArgs false
set_option linter.unusedVariables false

theorem mk_u64 {n : Nat} (h : n ≤ 1000000) (t : Store) {α : Type} (f : AV → Store → Option α) : aMakeSlice [AV.int .u64 0] 1 8 (.int .i64 (n : Int)) (.int .i64 (n : Int)) t f = f (.sl t.next 0 n 1 n) (t.push (.cells ((List.replicate n (0 : Int)).map (.int .u64)) false)) := by
  simp only [aMakeSlice]
  rw [if_pos ⟨by omega, by omega, by omega, by omega⟩, Int.toNat_natCast, Nat.mul_one]
  congr 3
  simp [List.map_replicate]

def newTags (a : Nat) : Nat → Nat := fun l => if l = a + 8 then 1 else if l = a + 1 then 2 else if l = a + 3 then 3 else if l = a + 4 then 6 else 0
theorem new_run (x : Int) (k : Nat) (s : Store) : ∃ s' R, rn (k + 1) 9 [.int .i64 x] s = some (.ptr (s.next + 8) 0 8, s') ∧ IsO s' (newTags s.next) (s.next + 8) (max 1 (min x 64)).toNat [] 0 0 R ∧ Ext s s' := by
  rw [orders_New.eq]
  unfold orders_New.f orders_New.p3 orders_New.p2 orders_New.p1 orders_New.p0
  rw [min_i, max_i]
  obtain ⟨n, hn⟩ : ∃ n : Nat, max 1 (min x 64) = n := ⟨(max 1 (min x 64)).toNat, by omega⟩
  have hn1 : 1 ≤ n ∧ n ≤ 64 := by omega
  have hb : ∀ (a b c : Nat) {α : Type} (f : List AV → Option α), aBuild [(0, 1, .sl a 0 n 1 n), (1, 1, .sl b 0 n 1 n), (6, 1, .map c), (7, 1, AV.int .u64 1)] [AV.nilsl, AV.nilsl, AV.int .u64 0, AV.int .u64 0, AV.nilsl, AV.nilsl, AV.nilmap, AV.int .u64 0] f = f [.sl a 0 n 1 n, .sl b 0 n 1 n, .int .u64 0, .int .u64 0, .nilsl, .nilsl, .map c, .int .u64 1] := fun a b c α f => rfl
  rw [hn]
  simp only [bnd, atRow, underL, mk_u64 (show n ≤ 1000000 by omega), Option.map_some, hb, cells_agg, new_s]
  rw [Int.toNat_natCast]
  refine ⟨_, ⟨s.next + 1, s.next + 3, s.next + 4, .nilsl, .nilsl, []⟩, rfl, ?_, ?_⟩
  · refine ⟨.nil, hn1, Nat.zero_le _, Nat.zero_le _, ?_, ?_, ?_, .inl ⟨rfl, rfl⟩, .inl ⟨rfl, rfl⟩, ?_, trivial, ?_, ?_, ?_⟩
    · simp [get_push, reserve, ocells, wholeN, hideL, backL, Store.push]
    · simp [get_push, reserve, hideL, backL, Store.push, baseOf]
    · simp [get_push, reserve, hideL, backL, Store.push, doneOf, idsOf]
    · simp [get_push, reserve, hideL, backL, Store.push]
    · simp [reserve, hideL, backL, Store.push]
    · simp [newTags]
    · intro l hl
      simp only [reserve, hideL, backL, Store.push] at hl
      unfold newTags
      rw [if_neg (by omega), if_neg (by omega), if_neg (by omega), if_neg (by omega)]
  · refine ⟨by simp [reserve, hideL, backL, Store.push]; omega, fun l hl => ?_⟩
    simp only [get_push, reserve, hideL, backL, Store.push, List.mem_singleton]
    rw [if_neg (by omega), if_neg (by omega), if_neg (by omega), if_neg (by omega), if_neg (by omega), if_neg (by omega), if_pos hl]
end Go.Proofs.Ytahiipfjhjeofaa.Sim
namespace Go.Proofs.Ytahiipfjhjeofaa.Sim
set_option linter.unusedSimpArgs false
set_option linter.unusedVariables false

/-- The id at a place, or none. -/
def nid (L : List (List Rn)) (d : Nat) : Idn := (idsOf L).getD d (0, 0)
theorem nid_at {L : List (List Rn)} {d : Nat} (h : d < (idsOf L).length) : nid L d = (idsOf L)[d] := by simp [nid, h]
theorem nid_out {L : List (List Rn)} {d : Nat} (h : ¬ d < (idsOf L).length) : nid L d = (0, 0) := by simp [nid, show (idsOf L).length ≤ d by omega]
theorem st_id {s : Store} {p : Nat} {cs : List AV} (h : s.get p = .cells cs false) (hc : cs.length = 2) (x : Idn) {α : Type} (f : Store → Option α) : aStore 2 (.ptr p 0 2) (.agg (icells x)) s f = f (s.set p (.cells (icells x) false)) := by
  match cs, hc with
  | [a, b], _ => simp [aStore, aCells, aOwn, h, icells, putAll]
theorem ld_id {s : Store} {p : Nat} {ro : Bool} {x : Idn} (h : s.get p = .cells (icells x) ro) {α : Type} (f : AV → Option α) : aLoadN 2 (.ptr p 0 2) s f = f (.agg (icells x)) := load_n h rfl (Nat.le_refl _)
theorem flat_set {β : Type} {c : β → List AV} {es : Nat} (hc : ∀ x, (c x).length = es) (pre : List β) (x : β) (l : List β) {j : Nat} (hj : j < es) (v : AV) : ((pre ++ x :: l).map c).flatten.set (pre.length * es + j) v = (pre.map c).flatten ++ ((c x).set j v ++ (l.map c).flatten) := by
  have hp := flatL_len hc pre
  rw [List.map_append, List.flatten_append, List.set_append_right _ _ (by omega), hp, List.map_cons, List.flatten_cons, List.set_append_left _ _ (by rw [hc]; omega)]
  congr 3
  omega
theorem waits_bound : ∀ {L : List (List Rn)} {i d : Nat}, ∀ x ∈ waitsOf i L d, x.2 ≤ (idsOf L).length ∧ x.1 < i + L.length
  | [], _, _, x, h => by simp [waitsOf] at h
  | l :: L, i, d, x, h => by
    rw [idsOf_cons, List.length_append, List.length_cons]
    unfold waitsOf at h
    split at h
    · have := waits_bound x h; omega
    · rcases List.mem_cons.1 h with rfl | h
      · simp only; omega
      · have := waits_bound x h; omega

section
variable {s s' : Store} {τ : Nat → Nat} {id n d f : Nat} {L : List (List Rn)} {R : ORows}
theorem onext_run (h : IsO s τ id n L d f R) (k : Nat) : ∃ s', rn (k + 2) 28 [.ptr id 0 8] s = some (.tuple [.agg (icells (nid L d)), .bool (decide (d < (idsOf L).length))], s') ∧ Ext s s' := by
  rw [orders_Orders_Next.eq]
  unfold orders_Orders_Next.f orders_Orders_Next.p0
  have e1 := Ext.push s (.cells [AV.int .u8 0, AV.int .u64 0] false)
  have h1 := h.ext e1
  have g0 : (s.push (.cells [AV.int .u8 0, AV.int .u64 0] false)).get s.next = .cells [AV.int .u8 0, AV.int .u64 0] false := by rw [get_push, if_pos rfl]
  rw [new_s, show ([AV.int .u8 0, AV.int .u64 0] : List AV).length = 2 from rfl]
  generalize (s.push (.cells [AV.int .u8 0, AV.int .u64 0] false)) = s1 at *
  have ext2 : ∀ o, Ext s (s1.set s.next o) := fun o => ⟨e1.next, fun l hl => by rw [get_set, if_neg (by omega)]; exact e1.get l hl⟩
  rw [owaits_run h1, bnd]
  simp only
  by_cases hd : d < (idsOf L).length
  · have hz : ((((idsOf L).length - d : Nat) : Int) == 0) = false := beq_eq_false_iff_ne.2 (by omega)
    have hids := h1.ids
    rw [List.drop_eq_getElem_cons hd] at hids
    obtain ⟨r, pre, hv, q1, q2, q3, q4, q5, q6⟩ := hids.head ic_len
    simp only [hz, bnd, guard_tt, guard_ff, guard_tf, guard_ft, pick_t, pick_f, if_t, if_f, add_i, sub_i, lss_i, leq_i, gtr_i, geq_i, eql_i, neq_i, min_i, max_i, conv_i, len_sl, len_nil, not_b, cells_agg, new_s, fld_p, nil_p, h1.fld (j := 4) rfl, q4, q5, st_id g0 rfl]
    have g1 : (s1.set s.next (.cells (icells (idsOf L)[d]) false)).get s.next = .cells (icells (idsOf L)[d]) false := by rw [get_set, if_pos rfl]
    rw [ld_id g1, nid_at hd, decide_eq_true hd]
    exact ⟨_, rfl, ext2 _⟩
  · have hz : ((((idsOf L).length - d : Nat) : Int) == 0) = true := beq_iff_eq.2 (by omega)
    have hb : ∀ {α : Type} (g : List AV → Option α), aBuild [] [AV.int .u8 0, AV.int .u64 0] g = g (icells (0, 0)) := fun g => rfl
    simp only [hz, bnd, guard_tt, guard_ff, guard_tf, guard_ft, pick_t, pick_f, if_t, if_f, add_i, sub_i, lss_i, leq_i, gtr_i, geq_i, eql_i, neq_i, min_i, max_i, conv_i, len_sl, len_nil, not_b, cells_agg, new_s, fld_p, nil_p, hb, st_id g0 rfl]
    have g1 : (s1.set s.next (.cells (icells (0, 0)) false)).get s.next = .cells (icells (0, 0)) false := by rw [get_set, if_pos rfl]
    rw [ld_id g1, nid_out hd, decide_eq_false hd]
    exact ⟨_, rfl, ext2 _⟩

/-- The end: what is told. -/
theorem deliver_end {x : Idn} {p2 p4 : Nat} (hne : p2 ≠ p4) (k : Nat) (s : Store) (c2 : List AV) (h2 : s.get p2 = .cells c2 false) (hc : c2.length = 2) (h4 : s.get p4 = .cells (icells x) false) :
    orders_Orders_Deliver.p0 k (.ptr p2 0 2) (.ptr p4 0 2) s = some (.tuple [.agg (icells x), .bool true], s.set p2 (.cells (icells x) false)) := by
  unfold orders_Orders_Deliver.p0
  rw [ld_id h4, st_id h2 hc, ld_id (x := x) (by rw [get_set, if_pos rfl])]

theorem deliver_run (h : IsO s τ id n L d f R) (hL : L.length ≤ 10000) (k : Nat) : ∃ s' R', rn (k + 3) 16 [.ptr id 0 8] s = some (.tuple [.agg (icells (nid L d)), .bool (decide (d < (idsOf L).length))], s') ∧ IsO s' τ id n L (if d < (idsOf L).length then d + 1 else d) f R' ∧ FrT τ s s' := by
  rw [orders_Orders_Deliver.eq]
  unfold orders_Orders_Deliver.f orders_Orders_Deliver.p8 orders_Orders_Deliver.p7
  have e1 := Ext.push s (.cells [AV.int .u8 0, AV.int .u64 0] false)
  have g0 : (s.push (.cells [AV.int .u8 0, AV.int .u64 0] false)).get s.next = .cells [AV.int .u8 0, AV.int .u64 0] false := by rw [get_push, if_pos rfl]
  have n1 : s.next < (s.push (.cells [AV.int .u8 0, AV.int .u64 0] false)).next := Nat.lt_succ_self _
  rw [new_s, show ([AV.int .u8 0, AV.int .u64 0] : List AV).length = 2 from rfl]
  generalize (s.push (.cells [AV.int .u8 0, AV.int .u64 0] false)) = s1 at *
  obtain ⟨s2, k2, e2⟩ := onext_run (h.ext e1) k
  rw [k2, bnd]
  simp only [aExtract, List.getElem?_cons_zero, List.getElem?_cons_succ]
  have e12 := e1.trans e2
  have g2 : s2.get s.next = .cells [AV.int .u8 0, AV.int .u64 0] false := (e2.get _ n1).trans g0
  have n2 : s.next < s2.next := Nat.lt_of_lt_of_le n1 e2.next
  have e3 := Ext.push s2 (.cells [AV.int .u8 0, AV.int .u64 0] false)
  have g3 : (s2.push (.cells [AV.int .u8 0, AV.int .u64 0] false)).get s2.next = .cells [AV.int .u8 0, AV.int .u64 0] false := by rw [get_push, if_pos rfl]
  have n3 : s2.next < (s2.push (.cells [AV.int .u8 0, AV.int .u64 0] false)).next := Nat.lt_succ_self _
  rw [new_s, show ([AV.int .u8 0, AV.int .u64 0] : List AV).length = 2 from rfl]
  generalize (s2.push (.cells [AV.int .u8 0, AV.int .u64 0] false)) = s3 at *
  rw [st_id g3 rfl]
  have e4 : Ext s (s3.set s2.next (.cells (icells (nid L d)) false)) := ⟨Nat.le_trans e12.next e3.next, fun l hl => by rw [get_set, if_neg (by have := e12.next; omega)]; exact (e3.get l (by have := e12.next; omega)).trans (e12.get l hl)⟩
  have p4 : (s3.set s2.next (.cells (icells (nid L d)) false)).get s2.next = .cells (icells (nid L d)) false := by rw [get_set, if_pos rfl]
  have p2 : (s3.set s2.next (.cells (icells (nid L d)) false)).get s.next = .cells [AV.int .u8 0, AV.int .u64 0] false := by rw [get_set, if_neg (by omega)]; exact (e3.get _ n2).trans g2
  have nx : s2.next < (s3.set s2.next (.cells (icells (nid L d)) false)).next := n3
  generalize (s3.set s2.next (.cells (icells (nid L d)) false)) = s4 at *
  have h4 := h.ext e4
  have hne : s.next ≠ s2.next := by omega
  clear g0 g2 g3 e3 n3 k2
  unfold orders_Orders_Deliver.p6
  rw [not_b]
  by_cases hd : d < (idsOf L).length
  · simp only [decide_eq_true hd, Bool.not_true, bnd, guard_tt, guard_ff, guard_tf, guard_ft, pick_t, pick_f, if_t, if_f, add_i, sub_i, lss_i, leq_i, gtr_i, geq_i, eql_i, neq_i, min_i, max_i, conv_i, len_sl, len_nil, not_b, cells_agg, new_s, fld_p, nil_p, if_pos hd]
    have hids := h4.ids
    rw [List.drop_eq_getElem_cons hd] at hids
    obtain ⟨r, pre, hv, q1, q2, q3, q4, q5, q6⟩ := hids.head ic_len
    have htail := hids.tail hv q1 q2 q3
    obtain ⟨b, rest, w1, w2, w3⟩ := waits_step h.ok.pos hd 1
    have hwts := h4.wts
    rw [w1] at hwts
    have hbn := waits_bound (1 + wholeN L d, b + 1) (show _ ∈ waitsOf 1 L d by rw [w1]; exact List.mem_cons_self)
    simp only at hbn
    have hil := ids_le h.ok
    have hwl := wholeN_le L d
    obtain ⟨x1, x2, x3, x4⟩ := next_id h.ok hd
    rw [← nid_at hd] at x1 x2 x3 x4
    generalize hx : nid L d = x at *
    obtain ⟨hn1, hn2⟩ := h.n1
    -- the row of ids
    unfold orders_Orders_Deliver.p5
    have sv : ∀ {α : Type} (g : List AV → Option α), aCells (.sl r ((pre ++ [(idsOf L)[d]]).length * 2) ((idsOf L).drop (d + 1)).length 2 ((pre ++ (idsOf L)[d] :: (idsOf L).drop (d + 1)).length * 2)) g = g [.sl r ((pre ++ [(idsOf L)[d]]).length * 2) ((idsOf L).drop (d + 1)).length 2 ((pre ++ (idsOf L)[d] :: (idsOf L).drop (d + 1)).length * 2)] := fun g => rfl
    simp only [bnd, guard_tt, guard_ff, guard_tf, guard_ft, pick_t, pick_f, if_t, if_f, add_i, sub_i, lss_i, leq_i, gtr_i, geq_i, eql_i, neq_i, min_i, max_i, conv_i, len_sl, len_nil, not_b, cells_agg, new_s, fld_p, nil_p, h4.fld (j := 4) rfl, q6, st_fld (j := 4) (ep := 8) h4.st rfl (by decide) sv]
    generalize hvi : AV.sl r ((pre ++ [(idsOf L)[d]]).length * 2) ((idsOf L).drop (d + 1)).length 2 ((pre ++ (idsOf L)[d] :: (idsOf L).drop (d + 1)).length * 2) = vi at *
    obtain ⟨l1, l2, l3, l4⟩ := h4.lt
    obtain ⟨t1, t2, t3, t4⟩ := h4.tag
    -- delivered
    unfold orders_Orders_Deliver.p4
    have a5 : ∀ q, q ≠ id → (s4.set id (.cells ((ocells R n L d f).set 4 vi) false)).get q = s4.get q := fun q hq => by rw [get_set, if_neg hq]
    have b5 : (s4.set id (.cells ((ocells R n L d f).set 4 vi) false)).get id = .cells (ocells { R with vi := vi } n L d f) false := by rw [get_set, if_pos rfl]; rfl
    have z5 : (s4.set id (.cells ((ocells R n L d f).set 4 vi) false)).next = s4.next := rfl
    generalize (s4.set id (.cells ((ocells R n L d f).set 4 vi) false)) = s5 at *
    have hs2 : s2.next ≠ id := fun q => by have := h.lt.1; omega
    have hs0 : s.next ≠ id := fun q => by have := h.lt.1; omega
    have hf2 := h.fresh s2.next (by omega)
    have hf0 := h.fresh s.next (Nat.le_refl _)
    have ld4 : ∀ {α : Type} (g : AV → Option α), aLoad1 (.ptr s2.next (0 + 0) 2) s5 g = g (.int .u8 x.1) := fun g => load_1 (by rw [a5 _ hs2]; exact p4) rfl rfl
    have ld5 : ∀ {α : Type} (g : AV → Option α), aLoad1 (.ptr s2.next (0 + 1) 2) s5 g = g (.int .u64 x.2) := fun g => load_1 (by rw [a5 _ hs2]; exact p4) rfl rfl
    have rdne : R.rd ≠ id := fun q => by rw [q] at t3; omega
    have ix : ∀ {α : Type} (g : AV → Option α), aIndexSl 1 (.sl R.rd 0 n 1 n) (.int .u8 x.1) g = g (.ptr R.rd (0 + x.1.toNat) n) := fun g => idxV x2 x1 g
    have sd : ∀ {α : Type} (g : Store → Option α), aStore 1 (.ptr R.rd (0 + x.1.toNat) n) (.int .u64 x.2) s5 g = g (s5.set R.rd (.cells (((doneOf n L d).set x.1.toNat x.2).map (.int .u64)) false)) := fun g => by
      have := storeV (s := s5) (id := R.rd) (k := .u64) (xs := doneOf n L d) (by rw [a5 _ rdne]; exact h4.don) (i := x.1.toNat) (by rw [doneOf_len]; omega) (n := x.2) g
      rw [doneOf_len] at this
      rw [Nat.zero_add]; exact this
    have f5 : ∀ {j : Nat} {v : AV}, (ocells { R with vi := vi } n L d f)[j]? = some v → ∀ {α : Type} (g : AV → Option α), aLoad1 (.ptr id (0 + j) 8) s5 g = g v := fun {j v} hv {α} g => ld_fld b5 rfl hv g
    simp only [bnd, guard_tt, guard_ff, guard_tf, guard_ft, pick_t, pick_f, if_t, if_f, add_i, sub_i, lss_i, leq_i, gtr_i, geq_i, eql_i, neq_i, min_i, max_i, conv_i, len_sl, len_nil, not_b, cells_agg, new_s, fld_p, nil_p, f5 (j := 1) rfl, ld4, ld5, ix, sd]
    -- what waits
    unfold orders_Orders_Deliver.p3
    obtain ⟨rw_, wpre, wv, u1, u2, u3, u4, u5, u6⟩ := hwts.head wc_len
    have a6 : ∀ q, q ≠ id → q ≠ R.rd → (s5.set R.rd (.cells (((doneOf n L d).set x.1.toNat x.2).map (.int .u64)) false)).get q = s4.get q := fun q h1 h2 => by rw [get_set, if_neg h2, a5 _ h1]
    have b6 : (s5.set R.rd (.cells (((doneOf n L d).set x.1.toNat x.2).map (.int .u64)) false)).get id = .cells (ocells { R with vi := vi } n L d f) false := by rw [get_set, if_neg rdne.symm, b5]
    have c6 : (s5.set R.rd (.cells (((doneOf n L d).set x.1.toNat x.2).map (.int .u64)) false)).get R.rd = .cells (((doneOf n L d).set x.1.toNat x.2).map (.int .u64)) false := by rw [get_set, if_pos rfl]
    have z6 : (s5.set R.rd (.cells (((doneOf n L d).set x.1.toNat x.2).map (.int .u64)) false)).next = s4.next := z5
    generalize (s5.set R.rd (.cells (((doneOf n L d).set x.1.toNat x.2).map (.int .u64)) false)) = s6 at *
    have rwne : rw_ ≠ id := fun q => by rw [q] at u2; omega
    have rwne2 : rw_ ≠ R.rd := fun q => by rw [q] at u2; omega
    have f6 : ∀ {j : Nat} {v : AV}, (ocells { R with vi := vi } n L d f)[j]? = some v → ∀ {α : Type} (g : AV → Option α), aLoad1 (.ptr id (0 + j) 8) s6 g = g v := fun {j v} hv {α} g => ld_fld b6 rfl hv g
    have d6 : s6.get rw_ = .cells ((wpre ++ (1 + wholeN L d, b + 1) :: rest).map wcells).flatten false := (a6 _ rwne rwne2).trans u3
    have hwi : wpre.length < (wpre ++ (1 + wholeN L d, b + 1) :: rest).length := by simp
    have hwg : (wpre ++ (1 + wholeN L d, b + 1) :: rest)[wpre.length]'hwi = (1 + wholeN L d, b + 1) := by simp
    have lw : ∀ {α : Type} (g : AV → Option α), aLoad1 (.ptr rw_ (0 + wpre.length * 2 + 1) ((wpre ++ (1 + wholeN L d, b + 1) :: rest).length * 2)) s6 g = g (.int .i64 ((b + 1 : Nat) : Int)) := fun g => fldL wc_len d6 hwi (by rw [hwg]; rfl) g
    have hw1 : IntKind.i64.wrap (((b + 1 : Nat) : Int) - 1) = ((b : Nat) : Int) := by rw [w_i64 (by omega) (by omega)]; omega
    have hfs : ((wpre ++ (1 + wholeN L d, b + 1) :: rest).map wcells).flatten.set (wpre.length * 2 + 1) (.int .i64 ((b : Nat) : Int)) = ((wpre ++ (1 + wholeN L d, b) :: rest).map wcells).flatten := by
      rw [flat_set wc_len _ _ _ (by decide)]
      simp [wcells]
    have sw : ∀ {α : Type} (g : Store → Option α), aStore 1 (.ptr rw_ (0 + wpre.length * 2 + 1) ((wpre ++ (1 + wholeN L d, b + 1) :: rest).length * 2)) (.int .i64 ((b : Nat) : Int)) s6 g = g (s6.set rw_ (.cells ((wpre ++ (1 + wholeN L d, b) :: rest).map wcells).flatten false)) := fun g => by
      have hl := flatL_len wc_len (wpre ++ (1 + wholeN L d, b + 1) :: rest)
      have := st_fld (j := wpre.length * 2 + 1) (v := .int .i64 ((b : Nat) : Int)) d6 hl (by simp; omega) (fun f => rfl) g
      rw [hfs] at this
      rw [show 0 + wpre.length * 2 + 1 = 0 + (wpre.length * 2 + 1) by omega]; exact this
    have wv' : ({ R with vi := vi } : ORows).vw = .sl rw_ (wpre.length * 2) (rest.length + 1) 2 ((wpre ++ (1 + wholeN L d, b + 1) :: rest).length * 2) := wv
    simp only [bnd, guard_tt, guard_ff, guard_tf, guard_ft, pick_t, pick_f, if_t, if_f, add_i, sub_i, lss_i, leq_i, gtr_i, geq_i, eql_i, neq_i, min_i, max_i, conv_i, len_sl, len_nil, not_b, cells_agg, new_s, fld_p, nil_p, f6 (j := 5) rfl, u4]
    unfold orders_Orders_Deliver.p2
    simp only [bnd, guard_tt, guard_ff, guard_tf, guard_ft, pick_t, pick_f, if_t, if_f, add_i, sub_i, lss_i, leq_i, gtr_i, geq_i, eql_i, neq_i, min_i, max_i, conv_i, len_sl, len_nil, not_b, cells_agg, new_s, fld_p, nil_p, lw, hw1, sw]
    -- is a batch done?
    unfold orders_Orders_Deliver.p1
    have hlen2 : (wpre ++ (1 + wholeN L d, b + 1) :: rest).length = (wpre ++ (1 + wholeN L d, b) :: rest).length := by simp
    have a7 : ∀ q, q ≠ id → q ≠ R.rd → q ≠ rw_ → (s6.set rw_ (.cells ((wpre ++ (1 + wholeN L d, b) :: rest).map wcells).flatten false)).get q = s4.get q := fun q h1 h2 h3 => by rw [get_set, if_neg h3, a6 _ h1 h2]
    have b7 : (s6.set rw_ (.cells ((wpre ++ (1 + wholeN L d, b) :: rest).map wcells).flatten false)).get id = .cells (ocells { R with vi := vi } n L d f) false := by rw [get_set, if_neg rwne.symm, b6]
    have c7 : (s6.set rw_ (.cells ((wpre ++ (1 + wholeN L d, b) :: rest).map wcells).flatten false)).get R.rd = .cells (((doneOf n L d).set x.1.toNat x.2).map (.int .u64)) false := by rw [get_set, if_neg rwne2.symm, c6]
    have d7 : (s6.set rw_ (.cells ((wpre ++ (1 + wholeN L d, b) :: rest).map wcells).flatten false)).get rw_ = .cells ((wpre ++ (1 + wholeN L d, b) :: rest).map wcells).flatten false := by rw [get_set, if_pos rfl]
    have z7 : (s6.set rw_ (.cells ((wpre ++ (1 + wholeN L d, b) :: rest).map wcells).flatten false)).next = s4.next := z6
    generalize (s6.set rw_ (.cells ((wpre ++ (1 + wholeN L d, b) :: rest).map wcells).flatten false)) = s7 at *
    have hwi2 : wpre.length < (wpre ++ (1 + wholeN L d, b) :: rest).length := by simp
    have hwg2 : (wpre ++ (1 + wholeN L d, b) :: rest)[wpre.length]'hwi2 = (1 + wholeN L d, b) := by simp
    have lw2 : ∀ {α : Type} (g : AV → Option α), aLoad1 (.ptr rw_ (0 + wpre.length * 2 + 1) ((wpre ++ (1 + wholeN L d, b + 1) :: rest).length * 2)) s7 g = g (.int .i64 ((b : Nat) : Int)) := fun g => by rw [hlen2]; exact fldL wc_len d7 hwi2 (by rw [hwg2]; rfl) g
    have lw0 : ∀ {α : Type} (g : AV → Option α), aLoad1 (.ptr rw_ (0 + wpre.length * 2 + 0) ((wpre ++ (1 + wholeN L d, b + 1) :: rest).length * 2)) s7 g = g (.int .u64 ((1 + wholeN L d : Nat) : Int)) := fun g => by rw [hlen2]; exact fldL wc_len d7 hwi2 (by rw [hwg2]; rfl) g
    have f7 : ∀ {j : Nat} {v : AV}, (ocells { R with vi := vi } n L d f)[j]? = some v → ∀ {α : Type} (g : AV → Option α), aLoad1 (.ptr id (0 + j) 8) s7 g = g v := fun {j v} hv {α} g => ld_fld b7 rfl hv g
    -- the store in the end
    have fin : ∀ (s8 : Store) (vw : AV), s8.next = s4.next → (∀ q, q ≠ id → s8.get q = s7.get q) → s8.get id = .cells (ocells { R with vi := vi, vw := vw } n L (d + 1) f) false → Que wcells 2 s7 τ 5 vw (waitsOf 1 L (d + 1)) →
        ∃ s' R', orders_Orders_Deliver.p0 (k + 2) (.ptr s.next 0 2) (.ptr s2.next 0 2) s8 = some (.tuple [.agg (icells x), .bool true], s') ∧ IsO s' τ id n L (d + 1) f R' ∧ FrT τ s s' := by
      intro s8 vw z8 a8 b8 hq
      have nid2 : ∀ q, τ q = 0 → q ≠ id ∧ q ≠ R.rd ∧ q ≠ rw_ := fun q hq => ⟨fun e => by rw [e] at hq; omega, fun e => by rw [e] at hq; omega, fun e => by rw [e] at hq; omega⟩
      have old : ∀ q, q ≠ id → q ≠ R.rd → q ≠ rw_ → s8.get q = s4.get q := fun q h1 h2 h3 => by rw [a8 _ h1, a7 _ h1 h2 h3]
      obtain ⟨y1, y2, y3⟩ := nid2 _ hf2
      obtain ⟨y4, y5, y6⟩ := nid2 _ hf0
      rw [deliver_end hne (k + 2) s8 _ (by rw [old _ y4 y5 y6]; exact p2) rfl (by rw [old _ y1 y2 y3]; exact p4)]
      refine ⟨_, { R with vi := vi, vw := vw }, rfl, ?_, ⟨by rw [next_set, z8]; exact e4.next, fun l hl hτ => ?_⟩⟩
      · have keepq : ∀ q, q ≠ s.next → q ≠ id → q ≠ R.rd → q ≠ rw_ → (s8.set s.next (.cells (icells x) false)).get q = s4.get q := fun q h0 h1 h2 h3 => by rw [get_set, if_neg h0, old _ h1 h2 h3]
        have notnew : ∀ q, τ q ≠ 0 → q ≠ s.next := fun q hq e => by rw [e] at hq; exact hq hf0
        have t5 := u2
        refine ⟨h.ok, h.n1, hd, h.fle, ?_, ?_, ?_, ?_, ?_, ?_, ?_, ?_, h4.tag, fun l hl => h4.fresh l (by rw [next_set, z8] at hl; exact hl)⟩
        · rw [get_set, if_neg hs0.symm]; exact b8
        · rw [keepq R.ro (notnew R.ro (by omega)) (fun q => by rw [q] at t2; omega) (fun q => by rw [q] at t2; omega) (fun q => by rw [q] at t2; omega)]; exact h4.ord
        · rw [get_set, if_neg (notnew R.rd (by omega)), a8 _ rdne, c7, x4]
        · exact htail.keep (by rw [next_set, z8]; exact Nat.le_refl _) (fun q _ ht => keepq q (notnew q (by omega)) (fun e => by rw [e] at ht; omega) (fun e => by rw [e] at ht; omega) (fun e => by rw [e] at ht; omega)) (fun _ _ => rfl)
        · exact hq.keep (by rw [next_set, z8, z7]; exact Nat.le_refl _) (fun q _ ht => by rw [get_set, if_neg (notnew q (by omega)), a8 _ (fun e => by rw [e] at ht; omega)]) (fun _ _ => rfl)
        · rw [keepq R.m (notnew R.m (by omega)) (fun q => by rw [q] at t4; omega) (fun q => by rw [q] at t4; omega) (fun q => by rw [q] at t4; omega)]; exact h4.map
        · exact h4.kept.keep (by rw [next_set, z8]; exact Nat.le_refl _) (fun q _ ht => keepq q (notnew q (by omega)) (fun e => by rw [e] at ht; omega) (fun e => by rw [e] at ht; omega) (fun e => by rw [e] at ht; omega)) (fun _ _ => rfl)
        · rw [next_set, z8]; exact h4.lt
      · obtain ⟨y7, y8, y9⟩ := nid2 _ hτ
        rw [get_set, if_neg (by omega), old _ y7 y8 y9]
        exact e4.get l hl
    simp only [bnd, guard_tt, guard_ff, guard_tf, guard_ft, pick_t, pick_f, if_t, if_f, add_i, sub_i, lss_i, leq_i, gtr_i, geq_i, eql_i, neq_i, min_i, max_i, conv_i, len_sl, len_nil, not_b, cells_agg, new_s, fld_p, nil_p, lw2]
    by_cases hb0 : b = 0
    · subst hb0
      have q7 : Que wcells 2 s7 τ 5 (.sl rw_ ((wpre ++ [(1 + wholeN L d, 0)]).length * 2) rest.length 2 ((wpre ++ (1 + wholeN L d, 0 + 1) :: rest).length * 2)) rest := .inr ⟨rw_, wpre ++ [(1 + wholeN L d, 0)], by simp, by rw [z7]; exact u1, u2, by rw [d7]; simp⟩
      have sl7 : ∀ {α : Type} (g : AV → Option α), aSliceSl 2 (.sl rw_ (wpre.length * 2) (rest.length + 1) 2 ((wpre ++ (1 + wholeN L d, 0 + 1) :: rest).length * 2)) (some (.int .i64 1)) none g = g (.sl rw_ ((wpre ++ [(1 + wholeN L d, 0)]).length * 2) rest.length 2 ((wpre ++ (1 + wholeN L d, 0 + 1) :: rest).length * 2)) := fun g => by rw [← wv, u6]; simp
      have b8 : (s7.set id (.cells ((ocells { R with vi := vi } n L d f).set 3 (.int .u64 ((1 + wholeN L d : Nat) : Int))) false)).get id = .cells ((ocells { R with vi := vi } n L d f).set 3 (.int .u64 ((1 + wholeN L d : Nat) : Int))) false := by rw [get_set, if_pos rfl]
      have f8 : ∀ {α : Type} (g : AV → Option α), aLoad1 (.ptr id (0 + 5) 8) (s7.set id (.cells ((ocells { R with vi := vi } n L d f).set 3 (.int .u64 ((1 + wholeN L d : Nat) : Int))) false)) g = g (.sl rw_ (wpre.length * 2) (rest.length + 1) 2 ((wpre ++ (1 + wholeN L d, 0 + 1) :: rest).length * 2)) := fun g => by rw [← wv]; exact ld_fld b8 rfl rfl g
      simp only [show (((0 : Nat) : Int) == 0) = true from rfl, bnd, guard_tt, guard_ff, guard_tf, guard_ft, pick_t, pick_f, if_t, if_f, add_i, sub_i, lss_i, leq_i, gtr_i, geq_i, eql_i, neq_i, min_i, max_i, conv_i, len_sl, len_nil, not_b, cells_agg, new_s, fld_p, nil_p, lw0, st_fld (j := 3) (ep := 8) (v := .int .u64 ((1 + wholeN L d : Nat) : Int)) b7 rfl (by decide) (fun f => rfl), f8, sl7, st_fld (j := 5) (ep := 8) (v := .sl rw_ ((wpre ++ [(1 + wholeN L d, 0)]).length * 2) rest.length 2 ((wpre ++ (1 + wholeN L d, 0 + 1) :: rest).length * 2)) b8 rfl (by decide) (fun f => rfl)]
      refine fin _ (.sl rw_ ((wpre ++ [(1 + wholeN L d, 0)]).length * 2) rest.length 2 ((wpre ++ (1 + wholeN L d, 0 + 1) :: rest).length * 2)) ?_ (fun q hq => ?_) ?_ (by rw [w2, if_pos rfl]; exact q7)
      · rw [next_set, next_set]; exact z7
      · rw [get_set, if_neg hq, get_set, if_neg hq]
      rw [get_set, if_pos rfl]
      unfold ocells
      rw [w3, if_pos rfl]
      simp [Nat.add_comm]
    · have hbz : (((b : Nat) : Int) == 0) = false := beq_eq_false_iff_ne.2 (by omega)
      simp only [hbz, bnd, guard_tt, guard_ff, guard_tf, guard_ft, pick_t, pick_f, if_t, if_f, add_i, sub_i, lss_i, leq_i, gtr_i, geq_i, eql_i, neq_i, min_i, max_i, conv_i, len_sl, len_nil, not_b, cells_agg, new_s, fld_p, nil_p]
      refine fin s7 R.vw z7 (fun q _ => rfl) ?_ (by rw [w2, if_neg hb0]; exact .inr ⟨rw_, wpre, by rw [wv]; simp, by rw [z7]; exact u1, u2, d7⟩)
      rw [b7]
      unfold ocells
      rw [w3, if_neg hb0]
  · simp only [decide_eq_false hd, Bool.not_false, bnd, guard_tt, guard_ff, guard_tf, guard_ft, pick_t, pick_f, if_t, if_f, add_i, sub_i, lss_i, leq_i, gtr_i, geq_i, eql_i, neq_i, min_i, max_i, conv_i, len_sl, len_nil, not_b, cells_agg, new_s, fld_p, nil_p, if_neg hd, ld_id p4, st_id p2 rfl]
    rw [ld_id (x := nid L d) (by rw [get_set, if_pos rfl])]
    have e5 : Ext s (s4.set s.next (.cells (icells (nid L d)) false)) := ⟨e4.next, fun l hl => by rw [get_set, if_neg (by omega)]; exact e4.get l hl⟩
    exact ⟨_, R, rfl, h.ext e5, e5.frT τ⟩
end
end Go.Proofs.Ytahiipfjhjeofaa.Sim
namespace Go.Proofs.Ytahiipfjhjeofaa.Sim
set_option linter.unusedSimpArgs false
set_option linter.unusedVariables false

/-- append([]T{}, x..), a thing's copy. -/
theorem copyL {β : Type} {c : β → List AV} {es bytes : Nat} (hc : ∀ x, (c x).length = es) (he : 0 < es) (hby : 0 < bytes) {s : Store} {v : AV} {l : List β} (h : IsL c es s v l) (hb : l.length * bytes ≤ 140737488355328) :
    ∃ s', (∀ {α : Type} (f : AV → Store → Option α), aAppend es bytes (.sl s.next 0 0 es 0) v (s.push (.cells [] false)) f = f (.sl s.next 0 l.length es (l.length * es)) s') ∧ s'.get s.next = .cells (l.map c).flatten false ∧ s.next < s'.next ∧ Ext s s' := by
  have e1 := Ext.push s (.cells [] false)
  have hcells : ∀ {α : Type} (f : Nat → List AV → Option α), aCellsOf es v (s.push (.cells [] false)) f = f l.length (l.map c).flatten := fun f => by
    rcases h.ext e1 with ⟨rfl, rfl⟩ | ⟨id, ro, rfl, _, h3⟩
    · rfl
    · have hl := flatL_len hc l
      simp [aCellsOf, aRow, h3, hl, List.take_of_length_le]
  have g : (s.push (.cells [] false)).get s.next = .cells [] false := by rw [get_push, if_pos rfl]
  by_cases h0 : l = []
  · subst h0
    exact ⟨s.push (.cells [] false), fun f => by simp [aAppend, hcells, aOwn, g], by rw [g]; rfl, Nat.lt_succ_self _, e1⟩
  · have hl : l.length ≠ 0 := fun q => h0 (List.length_eq_zero_iff.1 q)
    refine ⟨(s.push (.cells [] false)).set s.next (.cells (l.map c).flatten false), fun f => ?_, by rw [get_set, if_pos rfl], Nat.lt_succ_self _, ⟨Nat.le_succ _, fun q hq => by rw [get_set, if_neg (by omega)]; exact e1.get q hq⟩⟩
    simp only [aAppend, hcells, aOwn, g, if_true, List.length_nil]
    rw [if_neg hl, if_pos ⟨by simp, by simpa using hb, he, hby⟩]
    simp
theorem clone_runs {s : Store} {v : AV} {l : List Rn} (h : IsRuns s v l) (hb : l.length ≤ 1000000) (k : Nat) : ∃ v' s', rn (k + 1) 38 [v] s = some (v', s') ∧ OwnL rcells 3 s' v' l s.next ∧ Ext s s' := by
  rw [api_Run.eq]
  unfold api_Run.f api_Run.p0
  rcases h with ⟨rfl, rfl⟩ | ⟨id, ro, rfl, h2, h3⟩
  · exact ⟨.nilsl, s, rfl, .inl ⟨rfl, rfl⟩, Ext.refl _⟩
  · have hL : IsL rcells 3 s (.sl id 0 l.length 3 (l.length * 3)) l := .inr ⟨id, ro, rfl, h2, h3⟩
    obtain ⟨s', k1, k2, k3, k4⟩ := copyL (bytes := 24) r_len (by decide) (by decide) hL (by omega)
    have e : ∀ {α : Type} (g : Bool → Option α), aEq .sl (.sl id 0 l.length 3 (l.length * 3)) .nilsl g = g false := fun g => rfl
    simp only [e, bnd, guard_tt, guard_ff, guard_tf, guard_ft, pick_t, pick_f, if_t, if_f, add_i, sub_i, lss_i, leq_i, gtr_i, geq_i, eql_i, neq_i, min_i, max_i, conv_i, len_sl, len_nil, not_b, cells_agg, new_s, fld_p, nil_p, build_0, k1]
    exact ⟨_, s', rfl, .inr ⟨s.next, rfl, Nat.le_refl _, k3, k2⟩, k4⟩

/-- An instance's batch, if it is kept. -/
def batN (L : List (List Rn)) (f x : Nat) : List Rn := if f < x ∧ x ≤ L.length then L.getD (x - 1) [] else []
/-- What is forgotten then. -/
def forgetN (L : List (List Rn)) (f x : Nat) : Nat := max f (min x L.length)

section
variable {s s' : Store} {τ : Nat → Nat} {id n d f : Nat} {L : List (List Rn)} {R : ORows}
theorem obatch_run (h : IsO s τ id n L d f R) (hl : ∀ l ∈ L, l.length ≤ 1000000) (x : Nat) (k : Nat) : ∃ v' s', rn (k + 2) 13 [.ptr id 0 8, .int .u64 (x : Int)] s = some (.tuple [v', .bool (decide (f < x ∧ x ≤ L.length))], s') ∧ OwnL rcells 3 s' v' (batN L f x) s.next ∧ Ext s s' := by
  rw [orders_Orders_Batch.eq]
  unfold orders_Orders_Batch.f orders_Orders_Batch.p0
  have e : ∀ {α : Type} (g : Bool → Option α), aEq .ptr (.ptr id 0 8) .nilptr g = g false := fun g => rfl
  obtain ⟨f1, f2⟩ := KeptR.find x 0 h.kept
  have hfle := h.fle
  by_cases hc : f < x ∧ x ≤ L.length
  · obtain ⟨v, g1, g2⟩ := f1 ⟨by omega, by rw [List.length_drop]; omega⟩
    have hlook : ∀ {α : Type} (g : AV → Option α), aLookup .int .nilsl true (.map R.m) (.int .u64 (x : Int)) s g = g (.tuple [v, .bool true]) := fun g => by
      simp only [aLookup, aFind, keyFits, if_true, h.map, g1]
      rfl
    have hget : (L.drop f)[x - (f + 1)]'(by rw [List.length_drop]; omega) = batN L f x := by
      unfold batN
      rw [if_pos hc, List.getElem_drop]
      have : f + (x - (f + 1)) = x - 1 := by omega
      simp only [this, List.getD_eq_getElem?_getD]
      rw [List.getElem?_eq_getElem (by omega)]
      rfl
    rw [hget] at g2
    have hmem : batN L f x ∈ L := by
      rw [← hget]
      exact List.mem_of_mem_drop (List.getElem_mem _)
    obtain ⟨v', s', k1, k2, k3⟩ := clone_runs g2.is (hl _ hmem) k
    simp only [e, bnd, guard_tt, guard_ff, guard_tf, guard_ft, pick_t, pick_f, if_t, if_f, add_i, sub_i, lss_i, leq_i, gtr_i, geq_i, eql_i, neq_i, min_i, max_i, conv_i, len_sl, len_nil, not_b, cells_agg, new_s, fld_p, nil_p, h.fld (j := 6) rfl, hlook, aExtract, List.getElem?_cons_zero, List.getElem?_cons_succ, k1, decide_eq_true hc]
    exact ⟨v', s', rfl, k2, k3⟩
  · have g1 := f2 (fun q => hc ⟨by omega, by have := q.2; rw [List.length_drop] at this; omega⟩)
    have hlook : ∀ {α : Type} (g : AV → Option α), aLookup .int .nilsl true (.map R.m) (.int .u64 (x : Int)) s g = g (.tuple [.nilsl, .bool false]) := fun g => by
      simp only [aLookup, aFind, keyFits, if_true, h.map, g1]
      rfl
    obtain ⟨v', s', k1, k2, k3⟩ := clone_runs (s := s) (v := .nilsl) (l := []) (.inl ⟨rfl, rfl⟩) (by simp) k
    simp only [e, bnd, guard_tt, guard_ff, guard_tf, guard_ft, pick_t, pick_f, if_t, if_f, add_i, sub_i, lss_i, leq_i, gtr_i, geq_i, eql_i, neq_i, min_i, max_i, conv_i, len_sl, len_nil, not_b, cells_agg, new_s, fld_p, nil_p, h.fld (j := 6) rfl, hlook, aExtract, List.getElem?_cons_zero, List.getElem?_cons_succ, k1, decide_eq_false hc]
    exact ⟨v', s', rfl, by unfold batN; rw [if_neg hc]; exact k2, k3⟩

theorem forget_loop (k was x : Nat) (hx : x < 18446744073709551616) (hwas : was ≤ 10000) : ∀ (g f : Nat) (s : Store) (R : ORows), IsO s τ id n L d f R → L.length ≤ 10000 → min x L.length - f < g →
    ∃ s' R', orders_Orders_Forget.l0 k g (.ptr id 0 8) (.int .u64 (x : Int)) (.int .i64 (was : Int)) s = some (.int .i64 ((was : Int) - ((L.length - forgetN L f x : Nat) : Int)), s') ∧ IsO s' τ id n L d (forgetN L f x) R' ∧ FrT τ s s' ∧ s'.next = s.next
  | 0, f, _, _, _, _, hg => by omega
  | g + 1, f, s, R, h, hL, hg => by
    have hs : orders_Orders_Forget.l0 k (g + 1) = fun x0 x1 x5 s => orders_Orders_Forget.p4 k (orders_Orders_Forget.l0 k g) x0 x1 x5 s := rfl
    rw [hs]
    clear hs
    simp only
    unfold orders_Orders_Forget.p4
    have hfle := h.fle
    simp only [bnd, guard_tt, guard_ff, guard_tf, guard_ft, pick_t, pick_f, if_t, if_f, add_i, sub_i, lss_i, leq_i, gtr_i, geq_i, eql_i, neq_i, min_i, max_i, conv_i, len_sl, len_nil, not_b, cells_agg, new_s, fld_p, nil_p, h.fld (j := 7) rfl, h.fld (j := 2) rfl]
    unfold orders_Orders_Forget.p3
    by_cases hc : f + 1 ≤ min x L.length
    · rw [decide_eq_true (by omega), if_t]
      unfold orders_Orders_Forget.p2
      have hk := h.kept
      have hdl : f < L.length := by omega
      rw [List.drop_eq_getElem_cons hdl] at hk
      obtain ⟨kv, es', hes⟩ : ∃ kv es', R.es = kv :: es' := by
        cases he : R.es with
        | nil => rw [he] at hk; exact hk.elim
        | cons kv es' => exact ⟨kv, es', rfl⟩
      rw [hes] at hk
      obtain ⟨key, v⟩ := kv
      obtain ⟨rfl, hk2, hk3⟩ := hk
      have hdel : ∀ {α : Type} (g : Store → Option α), aDelete .int (.map R.m) (.int .u64 ((f + 1 : Nat) : Int)) s g = g (s.set R.m (.map es')) := fun g => by
        simp [aDelete, keyFits, h.map, hes, findAt, keyEq]
      obtain ⟨l1, l2, l3, l4⟩ := h.lt
      obtain ⟨t1, t2, t3, t4⟩ := h.tag
      have hne : R.m ≠ id := fun e => by rw [e] at t4; omega
      have b1 : (s.set R.m (.map es')).get id = .cells (ocells R n L d f) false := by rw [get_set, if_neg hne.symm]; exact h.st
      have f1 : ∀ {α : Type} (g : AV → Option α), aLoad1 (.ptr id (0 + 7) 8) (s.set R.m (.map es')) g = g (.int .u64 ((f + 1 : Nat) : Int)) := fun g => ld_fld b1 rfl rfl g
      have hw : IntKind.u64.wrap (((f + 1 : Nat) : Int) + 1) = ((f + 1 + 1 : Nat) : Int) := by rw [w_u64 (by omega) (by omega)]; omega
      simp only [bnd, guard_tt, guard_ff, guard_tf, guard_ft, pick_t, pick_f, if_t, if_f, add_i, sub_i, lss_i, leq_i, gtr_i, geq_i, eql_i, neq_i, min_i, max_i, conv_i, len_sl, len_nil, not_b, cells_agg, new_s, fld_p, nil_p, h.fld (j := 6) rfl, h.fld (j := 7) rfl, hdel]
      unfold orders_Orders_Forget.p1
      simp only [bnd, guard_tt, guard_ff, guard_tf, guard_ft, pick_t, pick_f, if_t, if_f, add_i, sub_i, lss_i, leq_i, gtr_i, geq_i, eql_i, neq_i, min_i, max_i, conv_i, len_sl, len_nil, not_b, cells_agg, new_s, fld_p, nil_p, f1, hw, st_fld (j := 7) (ep := 8) (v := .int .u64 ((f + 1 + 1 : Nat) : Int)) b1 rfl (by decide) (fun f => rfl)]
      have a2 : ∀ q, q ≠ id → q ≠ R.m → ((s.set R.m (.map es')).set id (.cells ((ocells R n L d f).set 7 (.int .u64 ((f + 1 + 1 : Nat) : Int))) false)).get q = s.get q := fun q h1 h2 => by rw [get_set, if_neg h1, get_set, if_neg h2]
      have h2 : IsO ((s.set R.m (.map es')).set id (.cells ((ocells R n L d f).set 7 (.int .u64 ((f + 1 + 1 : Nat) : Int))) false)) τ id n L d (f + 1) { R with es := es' } := by
        refine ⟨h.ok, h.n1, h.dle, by omega, by rw [get_set, if_pos rfl]; rfl, ?_, ?_, ?_, ?_, ?_, ?_, h.lt, h.tag, h.fresh⟩
        · rw [a2 R.ro (fun e => by rw [e] at t2; omega) (fun e => by rw [e] at t2; omega)]; exact h.ord
        · rw [a2 R.rd (fun e => by rw [e] at t3; omega) (fun e => by rw [e] at t3; omega)]; exact h.don
        · exact h.ids.keep (Nat.le_refl _) (fun q _ ht => a2 q (fun e => by rw [e] at ht; omega) (fun e => by rw [e] at ht; omega)) (fun _ _ => rfl)
        · exact h.wts.keep (Nat.le_refl _) (fun q _ ht => a2 q (fun e => by rw [e] at ht; omega) (fun e => by rw [e] at ht; omega)) (fun _ _ => rfl)
        · rw [get_set, if_neg hne, get_set, if_pos rfl]
        · exact KeptR.keep (s := s) (s' := (s.set R.m (.map es')).set id (.cells ((ocells R n L d f).set 7 (.int .u64 ((f + 1 + 1 : Nat) : Int))) false)) (Nat.le_refl _) (fun q _ ht => a2 q (fun e => by rw [e] at ht; omega) (fun e => by rw [e] at ht; omega)) (fun _ _ => rfl) hk3
      obtain ⟨s', R', k1, k2, k3, k4⟩ := forget_loop k was x hx hwas g (f + 1) _ _ h2 hL (by omega)
      have ef : forgetN L (f + 1) x = forgetN L f x := by unfold forgetN; omega
      rw [ef] at k1 k2
      refine ⟨s', R', k1, k2, ⟨k3.next, fun l hl h0 => ?_⟩, k4⟩
      rw [k3.get l hl h0, a2 l (fun e => by rw [e] at h0; omega) (fun e => by rw [e] at h0; omega)]
    · rw [decide_eq_false (by omega), if_f]
      unfold orders_Orders_Forget.p0
      have ef : forgetN L f x = f := by unfold forgetN; omega
      have hlen : ∀ {α : Type} (g : AV → Option α), aLenMap (.map R.m) s g = g (.int .i64 ((L.length - f : Nat) : Int)) := fun g => by
        simp only [aLenMap, h.map, h.kept.len, List.length_drop]
      simp only [bnd, guard_tt, guard_ff, guard_tf, guard_ft, pick_t, pick_f, if_t, if_f, add_i, sub_i, lss_i, leq_i, gtr_i, geq_i, eql_i, neq_i, min_i, max_i, conv_i, len_sl, len_nil, not_b, cells_agg, new_s, fld_p, nil_p, h.fld (j := 6) rfl, hlen, ef]
      rw [w_i64 (by omega) (by omega)]
      exact ⟨s, R, rfl, h, FrT.refl _ _, rfl⟩
theorem forget_run (h : IsO s τ id n L d f R) (hL : L.length ≤ 10000) (x : Nat) (hx : x < 18446744073709551616) (k : Nat) (hk : 10001 ≤ k) : ∃ s' R', rn (k + 1) 12 [.ptr id 0 8, .int .u64 (x : Int)] s = some (.int .i64 ((forgetN L f x - f : Nat) : Int), s') ∧ IsO s' τ id n L d (forgetN L f x) R' ∧ FrT τ s s' := by
  rw [orders_Orders_Forget.eq]
  unfold orders_Orders_Forget.f orders_Orders_Forget.p7 orders_Orders_Forget.p6 orders_Orders_Forget.p5
  have e : ∀ {α : Type} (g : Bool → Option α), aEq .ptr (.ptr id 0 8) .nilptr g = g false := fun g => rfl
  have hfle := h.fle
  have hlen : ∀ {α : Type} (g : AV → Option α), aLenMap (.map R.m) s g = g (.int .i64 ((L.length - f : Nat) : Int)) := fun g => by
    simp only [aLenMap, h.map, h.kept.len, List.length_drop]
  simp only [e, bnd, guard_tt, guard_ff, guard_tf, guard_ft, pick_t, pick_f, if_t, if_f, add_i, sub_i, lss_i, leq_i, gtr_i, geq_i, eql_i, neq_i, min_i, max_i, conv_i, len_sl, len_nil, not_b, cells_agg, new_s, fld_p, nil_p, h.fld (j := 6) rfl, hlen]
  obtain ⟨s', R', k1, k2, k3, _⟩ := forget_loop k (L.length - f) x hx (by omega) k f s R h hL (by omega)
  refine ⟨s', R', ?_, k2, k3⟩
  rw [k1]
  congr 3
  unfold forgetN; omega
end
end Go.Proofs.Ytahiipfjhjeofaa.Sim
namespace Go.Proofs.Ytahiipfjhjeofaa.Sim
set_option linter.unusedSimpArgs false
set_option linter.unusedVariables false

/-- Orders, part by part, while they are changed. -/
structure IsP (s : Store) (τ : Nat → Nat) (id : Nat) (cs : List AV) (ro : Nat) (B : List Int) (rd : Nat) (D : List Int) (vi : AV) (I : List Idn) (vw : AV) (W : List (Nat × Nat)) (m : Nat) (es : List (AV × AV)) (i0 : Nat) (K : List (List Rn)) : Prop where
  st : s.get id = .cells cs false
  ord : s.get ro = .cells (B.map (.int .u64)) false
  don : s.get rd = .cells (D.map (.int .u64)) false
  ids : Que icells 2 s τ 4 vi I
  wts : Que wcells 2 s τ 5 vw W
  map : s.get m = .map es
  kept : KeptR s τ es i0 K
  lt : id < s.next ∧ ro < s.next ∧ rd < s.next ∧ m < s.next
  tag : τ id = 1 ∧ τ ro = 2 ∧ τ rd = 3 ∧ τ m = 6
  fresh : ∀ l, s.next ≤ l → τ l = 0
section
variable {s s' : Store} {τ τ' : Nat → Nat} {id : Nat} {cs : List AV} {ro : Nat} {B : List Int} {rd : Nat} {D : List Int} {vi : AV} {I : List Idn} {vw : AV} {W : List (Nat × Nat)} {m : Nat} {es : List (AV × AV)} {i0 : Nat} {K : List (List Rn)}
theorem IsP.ext (h : IsP s τ id cs ro B rd D vi I vw W m es i0 K) (e : Ext s s') : IsP s' τ id cs ro B rd D vi I vw W m es i0 K :=
  ⟨(e.get _ h.lt.1).trans h.st, (e.get _ h.lt.2.1).trans h.ord, (e.get _ h.lt.2.2.1).trans h.don, h.ids.keep e.next (fun r hr _ => e.get r hr) (fun _ _ => rfl), h.wts.keep e.next (fun r hr _ => e.get r hr) (fun _ _ => rfl), (e.get _ h.lt.2.2.2).trans h.map, h.kept.keep e.next (fun r hr _ => e.get r hr) (fun _ _ => rfl),
    ⟨Nat.lt_of_lt_of_le h.lt.1 e.next, Nat.lt_of_lt_of_le h.lt.2.1 e.next, Nat.lt_of_lt_of_le h.lt.2.2.1 e.next, Nat.lt_of_lt_of_le h.lt.2.2.2 e.next⟩, h.tag, fun l hl => h.fresh l (Nat.le_trans e.next hl)⟩
/-- Another row 'id'. -/
theorem IsP.set (h : IsP s τ id cs ro B rd D vi I vw W m es i0 K) (cs' : List AV) : IsP (s.set id (.cells cs' false)) τ id cs' ro B rd D vi I vw W m es i0 K := by
  obtain ⟨t1, t2, t3, t4⟩ := h.tag
  have a : ∀ q, τ q ≠ 1 → (s.set id (.cells cs' false)).get q = s.get q := fun q hq => by rw [get_set, if_neg (fun e => hq (by rw [e]; exact t1))]
  exact ⟨by rw [get_set, if_pos rfl], (a _ (by omega)).trans h.ord, (a _ (by omega)).trans h.don, h.ids.keep (Nat.le_refl _) (fun r _ ht => a r (by omega)) (fun _ _ => rfl), h.wts.keep (Nat.le_refl _) (fun r _ ht => a r (by omega)) (fun _ _ => rfl), (a _ (by omega)).trans h.map,
    KeptR.keep (s := s) (s' := s.set id (.cells cs' false)) (Nat.le_refl _) (fun r _ ht => a r (by omega)) (fun _ _ => rfl) h.kept, h.lt, h.tag, h.fresh⟩
/-- A row more that is tagged. -/
theorem IsP.tagN (h : IsP s τ id cs ro B rd D vi I vw W m es i0 K) {q : Nat} (hq : q < s.next) (h0 : τ q = 0) (t : Nat) : IsP s (fun l => if l = q then t else τ l) id cs ro B rd D vi I vw W m es i0 K ∧ True := by
  obtain ⟨t1, t2, t3, t4⟩ := h.tag
  have a : ∀ l, τ l ≠ 0 → (if l = q then t else τ l) = τ l := fun l hl => if_neg (fun e => hl (by rw [e]; exact h0))
  have kq : ∀ {β : Type} {c : β → List AV} {es t' : Nat} {v : AV} {l : List β}, t' ≠ 0 → Que c es s τ t' v l → Que c es s (fun l => if l = q then t else τ l) t' v l := fun ht hQ => by
    rcases hQ with hQ | ⟨r, pre, h1, h2, h3, h4⟩
    · exact .inl hQ
    · exact .inr ⟨r, pre, h1, h2, (a r (by omega)).trans h3, h4⟩
  have kk : ∀ {es : List (AV × AV)} {i : Nat} {L : List (List Rn)}, KeptR s τ es i L → KeptR s (fun l => if l = q then t else τ l) es i L := by
    intro es
    induction es with
    | nil => intro i L hk; cases L <;> exact hk
    | cons e es ih =>
      intro i L hk
      obtain ⟨k, v⟩ := e
      cases L with
      | nil => exact hk
      | cons l L =>
        refine ⟨hk.1, ?_, ih hk.2.2⟩
        rcases hk.2.1 with q | ⟨x, ro, h1, h2, h3, h4⟩
        · exact .inl q
        · exact .inr ⟨x, ro, h1, h2, (a x (by omega)).trans h3, h4⟩
  exact ⟨⟨h.st, h.ord, h.don, kq (by decide) h.ids, kq (by decide) h.wts, h.map, kk h.kept, h.lt, ⟨(a _ (by omega)).trans t1, (a _ (by omega)).trans t2, (a _ (by omega)).trans t3, (a _ (by omega)).trans t4⟩, fun l hl => by
    show (if l = q then t else τ l) = 0
    rw [if_neg (by omega)]; exact h.fresh l hl⟩, trivial⟩
theorem IsP.fld (h : IsP s τ id cs ro B rd D vi I vw W m es i0 K) (hc : cs.length = 8) {j : Nat} {v : AV} (hv : cs[j]? = some v) {α : Type} (g : AV → Option α) : aLoad1 (.ptr id (0 + j) 8) s g = g v := ld_fld h.st hc hv g
end

section
variable {s : Store} {τ : Nat → Nat} {id n d f : Nat} {L : List (List Rn)} {R : ORows}
theorem decide_run (h : IsO s τ id n L d f R) (hL : L.length ≤ 10000) {v : AV} {l : List Rn} (hv : IsRuns s v l) (hv0 : ∀ a b c e g, v = .sl a b c e g → τ a = 0) (hw : ∀ r ∈ l, WfR r) (hl : l.length ≤ 4000) (k : Nat) (hk : 5000 ≤ k) (hk2 : k ≤ 10000000) :
    ∃ s' τ' R', rn (k + 7) 11 [.ptr id 0 8, v] s = some (.bool (mayR (baseOf n L) 4096 l), s') ∧ IsO s' τ' id n (if mayR (baseOf n L) 4096 l = true then L ++ [l] else L) d f R' ∧ FrT τ s s' ∧ (∀ r, r < s.next → τ' r = τ r) := by
  rw [orders_Orders_Decide.eq]
  unfold orders_Orders_Decide.f orders_Orders_Decide.p11 orders_Orders_Decide.p10
  have e : ∀ {α : Type} (g : Bool → Option α), aEq .ptr (.ptr id 0 8) .nilptr g = g false := fun g => rfl
  have hU := h.ok.u
  obtain ⟨hn1, hn2⟩ := h.n1
  obtain ⟨s1, k1, e1⟩ := bat_may (most := 4096) h.base hv hU hw (by decide) (k + 2) (by omega) (by omega)
  simp only [e, bnd, guard_tt, guard_ff, guard_tf, guard_ft, pick_t, pick_f, if_t, if_f, add_i, sub_i, lss_i, leq_i, gtr_i, geq_i, eql_i, neq_i, min_i, max_i, conv_i, len_sl, len_nil, not_b, cells_agg, new_s, fld_p, nil_p, h.fld (j := 0) rfl, k1]
  by_cases hm : mayR (baseOf n L) 4096 l = true
  · simp only [hm, Bool.not_true, bnd, guard_tt, guard_ff, guard_tf, guard_ft, pick_t, pick_f, if_t, if_f, add_i, sub_i, lss_i, leq_i, gtr_i, geq_i, eql_i, neq_i, min_i, max_i, conv_i, len_sl, len_nil, not_b, cells_agg, new_s, fld_p, nil_p, if_true]
    -- the ids
    unfold orders_Orders_Decide.p9
    obtain ⟨vx, s2, k2, o2, e2⟩ := bat_order_own (hv.ext e1) hw (k + 1) (by omega) (by omega) (by omega)
    rw [k2, bnd]
    have e12 := e1.trans e2
    obtain ⟨hol1, hol2, hol3⟩ := order_len hm
    have hdl := h.dle
    have hfl := h.fle
    have hil := ids_le h.ok
    have hwl := waits_len L 1 d
    have P0 : IsP s τ id (ocells R n L d f) R.ro (baseOf n L) R.rd (doneOf n L d) R.vi ((idsOf L).drop d) R.vw (waitsOf 1 L d) R.m R.es (f + 1) (L.drop f) := ⟨h.st, h.ord, h.don, h.ids, h.wts, h.map, h.kept, h.lt, h.tag, h.fresh⟩
    have P2 := P0.ext e12
    clear P0
    -- one more
    unfold orders_Orders_Decide.p8
    have hw1 : IntKind.u64.wrap (((L.length : Nat) : Int) + 1) = ((L.length + 1 : Nat) : Int) := by rw [w_u64 (by omega) (by omega)]; omega
    simp only [bnd, guard_tt, guard_ff, guard_tf, guard_ft, pick_t, pick_f, if_t, if_f, add_i, sub_i, lss_i, leq_i, gtr_i, geq_i, eql_i, neq_i, min_i, max_i, conv_i, len_sl, len_nil, not_b, cells_agg, new_s, fld_p, nil_p, P2.fld rfl (j := 2) rfl, hw1, st_fld (j := 2) (ep := 8) (v := .int .u64 ((L.length + 1 : Nat) : Int)) P2.st rfl (by decide) (fun f => rfl)]
    have P3 := P2.set ((ocells R n L d f).set 2 (.int .u64 ((L.length + 1 : Nat) : Int)))
    have z3 : (s2.set id (.cells ((ocells R n L d f).set 2 (.int .u64 ((L.length + 1 : Nat) : Int))) false)).next = s2.next := rfl
    have a3 : ∀ q, q ≠ id → (s2.set id (.cells ((ocells R n L d f).set 2 (.int .u64 ((L.length + 1 : Nat) : Int))) false)).get q = s2.get q := fun q hq => by rw [get_set, if_neg hq]
    generalize (s2.set id (.cells ((ocells R n L d f).set 2 (.int .u64 ((L.length + 1 : Nat) : Int))) false)) = s3 at *
    have idlt := h.lt.1
    have tagid := h.tag.1
    have runs_at : ∀ {s9 : Store}, s.next ≤ s9.next → (∀ q, q < s.next → τ q = 0 → s9.get q = s.get q) → IsRuns s9 v l := fun {s9} hn hg => by
      rcases hv with q | ⟨x, ro, q1, q2, q3⟩
      · exact .inl q
      · exact .inr ⟨x, ro, q1, Nat.lt_of_lt_of_le q2 hn, (hg x q2 (hv0 _ _ _ _ _ q1)).trans q3⟩
    have idne : ∀ q, τ q = 0 → q ≠ id := fun q h0 e => by rw [e] at h0; omega
    have fr3 : FrT τ s s3 := ⟨by rw [z3]; exact e12.next, fun q hq h0 => (a3 q (idne q h0)).trans (e12.get q hq)⟩
    -- the base behind it
    unfold orders_Orders_Decide.p7
    have hb3 : IsSl s3 (.sl R.ro 0 n 1 n) .u64 (baseOf n L) := .inr ⟨R.ro, false, by rw [baseOf_len], P3.lt.2.1, P3.ord⟩
    obtain ⟨vb, s4, k4, o4, e4⟩ := bat_after_own hb3 (runs_at fr3.next fr3.get) hU hw (k + 1) (by omega) (by omega) (by rw [baseOf_len]; omega)
    simp only [bnd, guard_tt, guard_ff, guard_tf, guard_ft, pick_t, pick_f, if_t, if_f, add_i, sub_i, lss_i, leq_i, gtr_i, geq_i, eql_i, neq_i, min_i, max_i, conv_i, len_sl, len_nil, not_b, cells_agg, new_s, fld_p, nil_p, P3.fld rfl (j := 0) rfl, k4]
    have P4 := P3.ext e4
    have hbl : (afterR (baseOf n L) l).length = n := by rw [afterR_len, baseOf_len]
    obtain ⟨ro', rfl, i1, i2, i3⟩ : ∃ ro', vb = .sl ro' 0 n 1 n ∧ s3.next ≤ ro' ∧ ro' < s4.next ∧ s4.get ro' = .cells ((afterR (baseOf n L) l).map (.int .u64)) false := by
      rcases o4 with ⟨_, q⟩ | ⟨x, q1, q2, q3, q4⟩
      · have := congrArg List.length q; rw [hbl] at this; simp at this; omega
      · exact ⟨x, by rw [q1, hbl], q2, q3, q4⟩
    have ro0 : τ ro' = 0 := P3.fresh ro' i1
    have P4' := (P4.tagN i2 ro0 2).1
    have τ4 : ∀ q, q < s.next → (if q = ro' then 2 else τ q) = τ q := fun q hq => if_neg (by have := fr3.next; omega)
    have P5 : IsP s4 (fun l => if l = ro' then 2 else τ l) id ((ocells R n L d f).set 2 (.int .u64 ((L.length + 1 : Nat) : Int))) ro' (afterR (baseOf n L) l) R.rd (doneOf n L d) R.vi ((idsOf L).drop d) R.vw (waitsOf 1 L d) R.m R.es (f + 1) (L.drop f) :=
      ⟨P4'.st, i3, P4'.don, P4'.ids, P4'.wts, P4'.map, P4'.kept, ⟨P4'.lt.1, i2, P4'.lt.2.2⟩, ⟨P4'.tag.1, if_pos rfl, P4'.tag.2.2⟩, P4'.fresh⟩
    clear P4 P4'
    generalize hτ4 : (fun l => if l = ro' then 2 else τ l) = τ5 at P5
    have τ5e : ∀ q, q < s.next → τ5 q = τ q := fun q hq => by rw [← hτ4]; exact τ4 q hq
    simp only [st_fld (j := 0) (ep := 8) (v := .sl ro' 0 n 1 n) P5.st rfl (by decide) (fun f => rfl)]
    have P6 := P5.set (((ocells R n L d f).set 2 (.int .u64 ((L.length + 1 : Nat) : Int))).set 0 (.sl ro' 0 n 1 n))
    have fr6 : FrT τ s (s4.set id (.cells (((ocells R n L d f).set 2 (.int .u64 ((L.length + 1 : Nat) : Int))).set 0 (.sl ro' 0 n 1 n)) false)) := ⟨Nat.le_trans fr3.next e4.next, fun q hq h0 => by rw [get_set, if_neg (idne q h0), e4.get q (by have := fr3.next; omega)]; exact fr3.get q hq h0⟩
    have hx6 : IsL icells 2 (s4.set id (.cells (((ocells R n L d f).set 2 (.int .u64 ((L.length + 1 : Nat) : Int))).set 0 (.sl ro' 0 n 1 n)) false)) vx (orderR l) := by
      rcases o2 with q | ⟨x, q1, q2, q3, q4⟩
      · exact .inl q
      · refine .inr ⟨x, false, q1, by rw [next_set]; exact Nat.lt_of_lt_of_le q3 (by rw [← z3]; exact e4.next), ?_⟩
        have hx : x ≠ id := fun e => by have := e1.next; omega
        rw [get_set, if_neg hx, e4.get x (by rw [z3]; exact q3), a3 x hx]
        exact q4
    have z6 : (s4.set id (.cells (((ocells R n L d f).set 2 (.int .u64 ((L.length + 1 : Nat) : Int))).set 0 (.sl ro' 0 n 1 n)) false)).next = s4.next := rfl
    generalize (s4.set id (.cells (((ocells R n L d f).set 2 (.int .u64 ((L.length + 1 : Nat) : Int))).set 0 (.sl ro' 0 n 1 n)) false)) = s6 at *
    -- ids behind ids
    unfold orders_Orders_Decide.p6
    obtain ⟨vi7, s7, τ7, k7, Q7, n7, g7, t7, f7, w7⟩ := P6.ids.app (bytes := 16) ic_len (by decide) (by decide) hx6 (by rw [List.length_drop]; omega) P6.fresh
    simp only [bnd, guard_tt, guard_ff, guard_tf, guard_ft, pick_t, pick_f, if_t, if_f, add_i, sub_i, lss_i, leq_i, gtr_i, geq_i, eql_i, neq_i, min_i, max_i, conv_i, len_sl, len_nil, not_b, cells_agg, new_s, fld_p, nil_p, P6.fld rfl (j := 4) rfl, k7]
    have lt6 := P6.lt
    have tag6 := P6.tag
    have P7 : IsP s7 τ7 id (((ocells R n L d f).set 2 (.int .u64 ((L.length + 1 : Nat) : Int))).set 0 (.sl ro' 0 n 1 n)) ro' (afterR (baseOf n L) l) R.rd (doneOf n L d) vi7 ((idsOf L).drop d ++ orderR l) R.vw (waitsOf 1 L d) R.m R.es (f + 1) (L.drop f) :=
      ⟨(g7 _ lt6.1 (by omega)).trans P6.st, (g7 _ lt6.2.1 (by omega)).trans P6.ord, (g7 _ lt6.2.2.1 (by omega)).trans P6.don, Q7, P6.wts.keep n7 (fun r hr ht => g7 r hr (by omega)) t7, (g7 _ lt6.2.2.2 (by omega)).trans P6.map, P6.kept.keep n7 (fun r hr ht => g7 r hr (by omega)) t7,
        ⟨by omega, by omega, by omega, by omega⟩, ⟨(t7 _ lt6.1).trans tag6.1, (t7 _ lt6.2.1).trans tag6.2.1, (t7 _ lt6.2.2.1).trans tag6.2.2.1, (t7 _ lt6.2.2.2).trans tag6.2.2.2⟩, f7⟩
    have τ7e : ∀ q, q < s.next → τ7 q = τ q := fun q hq => (t7 q (by have := fr6.next; omega)).trans (τ5e q hq)
    have fr7 : FrT τ s s7 := ⟨Nat.le_trans fr6.next n7, fun q hq h0 => (g7 q (by have := fr6.next; omega) (by rw [τ5e q hq, h0]; decide)).trans (fr6.get q hq h0)⟩
    have cv7 : ∀ {α : Type} (g : List AV → Option α), aCells vi7 g = g [vi7] := fun g => Q7.cell g
    simp only [st_fld (j := 4) (ep := 8) (v := vi7) P7.st rfl (by decide) cv7]
    have P8 := P7.set ((((ocells R n L d f).set 2 (.int .u64 ((L.length + 1 : Nat) : Int))).set 0 (.sl ro' 0 n 1 n)).set 4 vi7)
    have hcs8 : ((((ocells R n L d f).set 2 (.int .u64 ((L.length + 1 : Nat) : Int))).set 0 (.sl ro' 0 n 1 n)).set 4 vi7) = [.sl ro' 0 n 1 n, .sl R.rd 0 n 1 n, .int .u64 ((L.length + 1 : Nat) : Int), .int .u64 (wholeN L d : Nat), vi7, R.vw, .map R.m, .int .u64 ((f + 1 : Nat) : Int)] := rfl
    rw [hcs8] at P8 ⊢
    have fr8 : FrT τ s (s7.set id (.cells [.sl ro' 0 n 1 n, .sl R.rd 0 n 1 n, .int .u64 ((L.length + 1 : Nat) : Int), .int .u64 (wholeN L d : Nat), vi7, R.vw, .map R.m, .int .u64 ((f + 1 : Nat) : Int)] false)) := ⟨fr7.next, fun q hq h0 => by rw [get_set, if_neg (idne q h0)]; exact fr7.get q hq h0⟩
    generalize (s7.set id (.cells [.sl ro' 0 n 1 n, .sl R.rd 0 n 1 n, .int .u64 ((L.length + 1 : Nat) : Int), .int .u64 (wholeN L d : Nat), vi7, R.vw, .map R.m, .int .u64 ((f + 1 : Nat) : Int)] false)) = s8 at *
    clear P3 P5 P6 P7 hcs8
    -- what waits
    unfold orders_Orders_Decide.p5
    have hlx : ∀ {α : Type} (g : AV → Option α), aLen vx g = g (.int .i64 ((orderR l).length : Nat)) := fun g => lenL o2.is g
    have hbw : ∀ {α : Type} (g : List AV → Option α), aBuild [(0, 1, AV.int .u64 ((L.length + 1 : Nat) : Int)), (1, 1, AV.int .i64 ((orderR l).length : Nat))] [AV.int .u64 0, AV.int .i64 0] g = g (wcells (L.length + 1, (orderR l).length)) := fun g => rfl
    have hbw2 : ∀ {α : Type} (g : List AV → Option α), aBuild [(0, 2, AV.agg (wcells (L.length + 1, (orderR l).length)))] [AV.int .u64 0, AV.int .i64 0] g = g (wcells (L.length + 1, (orderR l).length)) := fun g => rfl
    have e9 := Ext.push s8 (.cells (wcells (L.length + 1, (orderR l).length)) false)
    have P9 := P8.ext e9
    simp only [bnd, guard_tt, guard_ff, guard_tf, guard_ft, pick_t, pick_f, if_t, if_f, add_i, sub_i, lss_i, leq_i, gtr_i, geq_i, eql_i, neq_i, min_i, max_i, conv_i, len_sl, len_nil, not_b, cells_agg, new_s, fld_p, nil_p, P8.fld rfl (j := 5) rfl, P8.fld rfl (j := 2) rfl, hlx, hbw, hbw2, P9.fld rfl (j := 5) rfl, aSame_self]
    have hy : IsL wcells 2 (s8.push (.cells (wcells (L.length + 1, (orderR l).length)) false)) (.sl s8.next 0 1 2 2) [(L.length + 1, (orderR l).length)] := .inr ⟨s8.next, false, rfl, Nat.lt_succ_self _, by rw [get_push, if_pos rfl]; simp⟩
    have fr9 : FrT τ s (s8.push (.cells (wcells (L.length + 1, (orderR l).length)) false)) := ⟨Nat.le_trans fr8.next e9.next, fun q hq h0 => (e9.get q (by have := fr8.next; omega)).trans (fr8.get q hq h0)⟩
    have z9 : s8.next < (s8.push (.cells (wcells (L.length + 1, (orderR l).length)) false)).next := Nat.lt_succ_self _
    generalize (s8.push (.cells (wcells (L.length + 1, (orderR l).length)) false)) = s9 at *
    obtain ⟨vwA, sA, τA, kA, QA, nA, gA, tA, fA, wA⟩ := P9.wts.app (bytes := 16) wc_len (by decide) (by decide) hy (by simp; omega) P9.fresh
    rw [kA]
    have lt9 := P9.lt
    have tag9 := P9.tag
    have PA : IsP sA τA id [.sl ro' 0 n 1 n, .sl R.rd 0 n 1 n, .int .u64 ((L.length + 1 : Nat) : Int), .int .u64 (wholeN L d : Nat), vi7, R.vw, .map R.m, .int .u64 ((f + 1 : Nat) : Int)] ro' (afterR (baseOf n L) l) R.rd (doneOf n L d) vi7 ((idsOf L).drop d ++ orderR l) vwA (waitsOf 1 L d ++ [(L.length + 1, (orderR l).length)]) R.m R.es (f + 1) (L.drop f) :=
      ⟨(gA _ lt9.1 (by omega)).trans P9.st, (gA _ lt9.2.1 (by omega)).trans P9.ord, (gA _ lt9.2.2.1 (by omega)).trans P9.don, P9.ids.keep nA (fun r hr ht => gA r hr (by omega)) tA, QA, (gA _ lt9.2.2.2 (by omega)).trans P9.map, P9.kept.keep nA (fun r hr ht => gA r hr (by omega)) tA,
        ⟨by omega, by omega, by omega, by omega⟩, ⟨(tA _ lt9.1).trans tag9.1, (tA _ lt9.2.1).trans tag9.2.1, (tA _ lt9.2.2.1).trans tag9.2.2.1, (tA _ lt9.2.2.2).trans tag9.2.2.2⟩, fA⟩
    have τAe : ∀ q, q < s.next → τA q = τ q := fun q hq => (tA q (by have := fr9.next; omega)).trans (τ7e q hq)
    have frA : FrT τ s sA := ⟨Nat.le_trans fr9.next nA, fun q hq h0 => (gA q (by have := fr9.next; omega) (by rw [τ7e q hq, h0]; decide)).trans (fr9.get q hq h0)⟩
    have cvA : ∀ {α : Type} (g : List AV → Option α), aCells vwA g = g [vwA] := fun g => QA.cell g
    simp only [bnd, guard_tt, guard_ff, guard_tf, guard_ft, pick_t, pick_f, if_t, if_f, add_i, sub_i, lss_i, leq_i, gtr_i, geq_i, eql_i, neq_i, min_i, max_i, conv_i, len_sl, len_nil, not_b, cells_agg, new_s, fld_p, nil_p, st_fld (j := 5) (ep := 8) (v := vwA) PA.st rfl (by decide) cvA, List.set_cons_succ, List.set_cons_zero]
    have PB := PA.set [.sl ro' 0 n 1 n, .sl R.rd 0 n 1 n, .int .u64 ((L.length + 1 : Nat) : Int), .int .u64 (wholeN L d : Nat), vi7, vwA, .map R.m, .int .u64 ((f + 1 : Nat) : Int)]
    have frB : FrT τ s (sA.set id (.cells [.sl ro' 0 n 1 n, .sl R.rd 0 n 1 n, .int .u64 ((L.length + 1 : Nat) : Int), .int .u64 (wholeN L d : Nat), vi7, vwA, .map R.m, .int .u64 ((f + 1 : Nat) : Int)] false)) := ⟨frA.next, fun q hq h0 => by rw [get_set, if_neg (idne q h0)]; exact frA.get q hq h0⟩
    generalize (sA.set id (.cells [.sl ro' 0 n 1 n, .sl R.rd 0 n 1 n, .int .u64 ((L.length + 1 : Nat) : Int), .int .u64 (wholeN L d : Nat), vi7, vwA, .map R.m, .int .u64 ((f + 1 : Nat) : Int)] false)) = sB at *
    clear P8 P9 PA
    -- what is kept
    unfold orders_Orders_Decide.p4
    simp only [bnd, guard_tt, guard_ff, guard_tf, guard_ft, pick_t, pick_f, if_t, if_f, add_i, sub_i, lss_i, leq_i, gtr_i, geq_i, eql_i, neq_i, min_i, max_i, conv_i, len_sl, len_nil, not_b, cells_agg, new_s, fld_p, nil_p, PB.fld rfl (j := 2) rfl, PB.fld rfl (j := 7) rfl]
    unfold orders_Orders_Decide.p3
    rw [decide_eq_true (by omega), if_t]
    unfold orders_Orders_Decide.p1
    obtain ⟨vc, sC, kC, oC, eC⟩ := clone_runs (runs_at frB.next frB.get) (by omega) (k + 5)
    have PC := PB.ext eC
    have kC' : rn (k + 6) 38 [v] sB = some (vc, sC) := kC
    simp only [bnd, guard_tt, guard_ff, guard_tf, guard_ft, pick_t, pick_f, if_t, if_f, add_i, sub_i, lss_i, leq_i, gtr_i, geq_i, eql_i, neq_i, min_i, max_i, conv_i, len_sl, len_nil, not_b, cells_agg, new_s, fld_p, nil_p, PB.fld rfl (j := 6) rfl, PB.fld rfl (j := 2) rfl, kC', PC.fld rfl (j := 6) rfl, PC.fld rfl (j := 2) rfl, aSame_self]
    have hlen := PB.kept.len
    rw [List.length_drop] at hlen
    have hno := (KeptR.find (L.length + 1) 0 PC.kept).2 (fun q => by have := q.2; rw [List.length_drop] at this; omega)
    have hup : ∀ {α : Type} (g : Store → Option α), aMapUpdate .int (.map R.m) (.int .u64 ((L.length + 1 : Nat) : Int)) vc sC g = g (sC.set R.m (.map (R.es ++ [(.int .u64 ((L.length + 1 : Nat) : Int), vc)]))) := fun g => by
      simp only [aMapUpdate, keyFits, if_true, PC.map, hno]
    rw [hup]
    unfold orders_Orders_Decide.p0
    -- its row
    have frC : FrT τ s sC := ⟨Nat.le_trans frB.next eC.next, fun q hq h0 => (eC.get q (by have := frB.next; omega)).trans (frB.get q hq h0)⟩
    obtain ⟨τD, PD, RD, τDe⟩ : ∃ τD, IsP sC τD id [.sl ro' 0 n 1 n, .sl R.rd 0 n 1 n, .int .u64 ((L.length + 1 : Nat) : Int), .int .u64 (wholeN L d : Nat), vi7, vwA, .map R.m, .int .u64 ((f + 1 : Nat) : Int)] ro' (afterR (baseOf n L) l) R.rd (doneOf n L d) vi7 ((idsOf L).drop d ++ orderR l) vwA (waitsOf 1 L d ++ [(L.length + 1, (orderR l).length)]) R.m R.es (f + 1) (L.drop f) ∧ RunsT sC τD vc l ∧ ∀ q, q < s.next → τD q = τ q := by
      rcases oC with q | ⟨x, q1, q2, q3, q4⟩
      · exact ⟨τA, PC, .inl q, τAe⟩
      · refine ⟨_, (PC.tagN q3 (PB.fresh x q2) 7).1, .inr ⟨x, false, q1, q3, if_pos rfl, q4⟩, fun y hy => ?_⟩
        rw [if_neg (by have := frB.next; omega)]; exact τAe y hy
    have tagD := PD.tag
    have aD : ∀ q, q ≠ R.m → (sC.set R.m (.map (R.es ++ [(.int .u64 ((L.length + 1 : Nat) : Int), vc)]))).get q = sC.get q := fun q hq => by rw [get_set, if_neg hq]
    obtain ⟨wt1, wt2⟩ := waits_app l hol2 L 1 d hdl
    refine ⟨_, τD, ⟨ro', R.rd, R.m, vi7, vwA, R.es ++ [(.int .u64 ((L.length + 1 : Nat) : Int), vc)]⟩, rfl, ?_, ?_, τDe⟩
    · refine ⟨.snoc h.ok hw hm, h.n1, by rw [idsOf_app, List.length_append]; omega, by rw [List.length_append]; omega, ?_, ?_, ?_, ?_, ?_, by rw [get_set, if_pos rfl], ?_, PD.lt, tagD, PD.fresh⟩
      · rw [aD id (fun q => by rw [q] at tagD; omega), PD.st]
        unfold ocells
        rw [wt2, List.length_append]
        rfl
      · rw [aD ro' (fun q => by rw [q] at tagD; omega), PD.ord, baseOf_app]
      · rw [aD R.rd (fun q => by rw [q] at tagD; omega), PD.don, done_app l hdl]
      · rw [idsOf_app, List.drop_append_of_le_length hdl]
        exact PD.ids.keep (Nat.le_refl _) (fun q _ ht => aD q (fun e => by rw [e] at ht; omega)) (fun _ _ => rfl)
      · rw [wt1, Nat.add_comm 1 L.length]
        exact PD.wts.keep (Nat.le_refl _) (fun q _ ht => aD q (fun e => by rw [e] at ht; omega)) (fun _ _ => rfl)
      · rw [List.drop_append_of_le_length hfl]
        have := KeptR.snoc RD PD.kept
        rw [List.length_drop, show f + 1 + (L.length - f) = L.length + 1 by omega] at this
        exact KeptR.keep (s := sC) (s' := sC.set R.m (.map (R.es ++ [(.int .u64 ((L.length + 1 : Nat) : Int), vc)]))) (Nat.le_refl _) (fun q _ ht => aD q (fun e => by rw [e] at ht; omega)) (fun _ _ => rfl) this
    · refine ⟨frC.next, fun q hq h0 => ?_⟩
      rw [aD q (fun e => by have := h.tag.2.2.2; rw [e] at h0; omega)]
      exact frC.get q hq h0
  · have hm' : mayR (baseOf n L) 4096 l = false := by simpa using hm
    simp only [hm', Bool.not_false, bnd, guard_tt, guard_ff, guard_tf, guard_ft, pick_t, pick_f, if_t, if_f, add_i, sub_i, lss_i, leq_i, gtr_i, geq_i, eql_i, neq_i, min_i, max_i, conv_i, len_sl, len_nil, not_b, cells_agg, new_s, fld_p, nil_p, Bool.false_eq_true, if_false]
    exact ⟨s1, τ, R, rfl, h.ext e1, e1.frT τ, fun _ _ => rfl⟩
end
end Go.Proofs.Ytahiipfjhjeofaa.Sim
namespace Go.Proofs.Ytahiipfjhjeofaa.Sim
set_option linter.unusedSimpArgs false
set_option linter.unusedVariables false

/-- Things behind things of one's own. -/
theorem appL {β : Type} {c : β → List AV} {es bytes : Nat} (hc : ∀ x, (c x).length = es) (he : 0 < es) (hby : 0 < bytes) {s : Store} {v : AV} {l : List β} {lo : Nat} (h : OwnL c es s v l lo) (hlo : lo ≤ s.next) {y : AV} {l2 : List β} (hy : IsL c es s y l2) (hb : (l.length + l2.length) * bytes ≤ 140737488355328) :
    ∃ v' s', (∀ {α : Type} (f : AV → Store → Option α), aAppend es bytes v y s f = f v' s') ∧ OwnL c es s' v' (l ++ l2) lo ∧ ExtLo lo s s' := by
  have hcells : ∀ {α : Type} (f : Nat → List AV → Option α), aCellsOf es y s f = f l2.length (l2.map c).flatten := fun f => by
    rcases hy with ⟨rfl, rfl⟩ | ⟨id, ro, rfl, _, h3⟩
    · rfl
    · have hl := flatL_len hc l2
      simp [aCellsOf, aRow, h3, hl, List.take_of_length_le]
  rcases h with ⟨rfl, rfl⟩ | ⟨id, rfl, h1, h2, h3⟩
  · by_cases h0 : l2 = []
    · subst h0
      exact ⟨.nilsl, s, fun f => by simp [aAppend, hcells], .inl ⟨rfl, rfl⟩, ExtLo.refl _ _⟩
    · have hl : l2.length ≠ 0 := fun q => h0 (List.length_eq_zero_iff.1 q)
      refine ⟨.sl s.next 0 l2.length es (l2.length * es), s.push (.cells (l2.map c).flatten false), fun f => ?_, .inr ⟨s.next, by simp, hlo, Nat.lt_succ_self _, by rw [get_push, if_pos rfl]; simp⟩, (Ext.push s _).lo hlo⟩
      simp only [aAppend, hcells]
      rw [if_neg hl, if_pos ⟨by simpa using hb, hby⟩]
  · have hl1 := flatL_len hc l
    by_cases h0 : l2 = []
    · subst h0
      exact ⟨.sl id 0 l.length es (l.length * es), s, fun f => by simp only [aAppend, hcells, aOwn, h3, hl1, if_true, List.length_nil, eq_self], .inr ⟨id, by simp, h1, h2, by simpa using h3⟩, ExtLo.refl _ _⟩
    · have hl : l2.length ≠ 0 := fun q => h0 (List.length_eq_zero_iff.1 q)
      refine ⟨.sl id 0 (l ++ l2).length es ((l ++ l2).length * es), s.set id (.cells ((l ++ l2).map c).flatten false), fun f => ?_, .inr ⟨id, rfl, h1, h2, by rw [get_set, if_pos rfl]⟩, ⟨Nat.le_refl _, fun q hq => by rw [get_set, if_neg (by omega)]⟩⟩
      simp only [aAppend, hcells, if_true, aOwn, h3, hl1]
      rw [if_neg hl, if_pos ⟨by omega, hb, he, hby⟩]
      congr 1
      · simp [Nat.add_mul]
      · simp

/-- A store of which some rows are told. -/
structure Sub (s s' : Store) : Prop where
  next : s.next ≤ s'.next
  get : ∀ l, l < s.next → s.get l ≠ .none → s'.get l = s.get l
theorem Ext.sub {s s' : Store} (h : Ext s s') : Sub s s' := ⟨h.next, fun l hl _ => h.get l hl⟩
theorem Sub.trans {s s' s'' : Store} (h : Sub s s') (k : Sub s' s'') : Sub s s'' := ⟨Nat.le_trans h.next k.next, fun l hl hn => by
  have := h.get l hl hn
  rw [k.get l (Nat.lt_of_lt_of_le hl h.next) (by rw [this]; exact hn), this]⟩
theorem IsL.sub {β : Type} {c : β → List AV} {es : Nat} {s s' : Store} {v : AV} {l : List β} (h : IsL c es s v l) (e : Sub s s') : IsL c es s' v l := by
  rcases h with h | ⟨id, ro, h1, h2, h3⟩
  · exact .inl h
  · exact .inr ⟨id, ro, h1, Nat.lt_of_lt_of_le h2 e.next, (e.get id h2 (by rw [h3]; simp)).trans h3⟩
theorem IsRuns.sub {s s' : Store} {v : AV} {l : List Rn} (h : IsRuns s v l) (e : Sub s s') : IsRuns s' v l := by
  rcases h with h | ⟨id, ro, h1, h2, h3⟩
  · exact .inl h
  · exact .inr ⟨id, ro, h1, Nat.lt_of_lt_of_le h2 e.next, (e.get id h2 (by rw [h3]; simp)).trans h3⟩
/-- Slices of slices of runs. -/
def IsLL (s : Store) (v : AV) (L : List (List Rn)) : Prop := ∃ vs : List AV, IsL (fun v => [v]) 1 s v vs ∧ vs.length = L.length ∧ ∀ (i : Nat) (h : i < vs.length) (h' : i < L.length), IsRuns s vs[i] L[i]
theorem one_len (v : AV) : ((fun v => [v]) v : List AV).length = 1 := rfl
section
variable {s s' : Store} {v : AV} {L : List (List Rn)}
theorem IsLL.ext (h : IsLL s v L) (e : Ext s s') : IsLL s' v L := by
  obtain ⟨vs, h1, h2, h3⟩ := h
  exact ⟨vs, h1.ext e, h2, fun i q q' => (h3 i q q').ext e⟩
theorem IsLL.sub (h : IsLL s v L) (e : Sub s s') : IsLL s' v L := by
  obtain ⟨vs, h1, h2, h3⟩ := h
  exact ⟨vs, h1.sub e, h2, fun i q q' => (h3 i q q').sub e⟩
theorem IsLL.len (h : IsLL s v L) {α : Type} (f : AV → Option α) : aLen v f = f (.int .i64 L.length) := by
  obtain ⟨vs, h1, h2, _⟩ := h
  rw [lenL h1, h2]
theorem IsLL.cell (h : IsLL s v L) {α : Type} (f : List AV → Option α) : aCells v f = f [v] := by
  obtain ⟨vs, h1, h2, _⟩ := h
  rcases h1 with ⟨rfl, _⟩ | ⟨_, _, rfl, _⟩ <;> rfl
theorem IsLL.at (h : IsLL s v L) {i : Nat} (hi : i < L.length) : ∃ p w, (∀ {α : Type} (k : IntKind) (f : AV → Option α), aIndexSl 1 v (.int k (i : Int)) f = f p) ∧ (∀ {α : Type} (f : AV → Option α), aLoad1 p s f = f w) ∧ IsRuns s w L[i] := by
  obtain ⟨vs, h1, h2, h3⟩ := h
  have hi' : i < vs.length := by omega
  rcases h1 with ⟨_, rfl⟩ | ⟨id, ro, rfl, _, h4⟩
  · simp at hi'
  · refine ⟨.ptr id (0 + i * 1) (vs.length * 1), vs[i], fun k f => idxL hi' f, fun f => ?_, h3 i hi' hi⟩
    have := fldL (c := fun v => [v]) (es := 1) one_len h4 hi' (j := 0) (v := vs[i]) rfl f
    exact this
/-- One more. -/
theorem IsLL.snoc {s0 : Store} {w : AV} {l : List Rn} (h : IsLL s0 v L) (hw : IsRuns s0 w l) (e0 : Sub s0 s) (hL : L.length ≤ 100000) :
    ∃ v1 s1 v2 s2, (∀ {α : Type} (f : AV → Store → Option α), aAppend 1 24 (.sl s.next 0 0 1 0) v (s.push (.cells [] false)) f = f v1 s1) ∧ (∀ {α : Type} (f : AV → Store → Option α), aAppend 1 24 v1 (.sl s1.next 0 1 1 1) (s1.push (.cells [w] false)) f = f v2 s2) ∧ Ext s s2 ∧ Ext s s1 ∧
      (∀ {α : Type} (f : List AV → Option α), aCells v2 f = f [v2]) ∧ ∀ s3, s2.next ≤ s3.next → Sub s0 s3 → (∀ q, s.next ≤ q → q < s2.next → s3.get q = s2.get q) → IsLL s3 v2 (L ++ [l]) := by
  obtain ⟨vs, h1, h2, h3⟩ := h
  obtain ⟨s1, k1, k2, k3, k4⟩ := copyL (bytes := 24) one_len (by decide) (by decide) (h1.sub e0) (by omega)
  have o1 : OwnL (fun v => [v]) 1 s1 (.sl s.next 0 vs.length 1 (vs.length * 1)) vs s.next := .inr ⟨s.next, rfl, Nat.le_refl _, k3, k2⟩
  obtain ⟨v2, s2, j1, j2, j3⟩ := app_ownL (bytes := 24) one_len (by decide) (by decide) o1 (Nat.le_of_lt k3) w (by omega)
  have e2 : Ext s s2 := ⟨Nat.le_trans k4.next j3.next, fun q hq => (j3.get q hq).trans (k4.get q hq)⟩
  have hcv : ∀ {α : Type} (f : List AV → Option α), aCells v2 f = f [v2] := fun f => by rcases j2 with ⟨rfl, _⟩ | ⟨_, rfl, _⟩ <;> rfl
  refine ⟨_, s1, v2, s2, k1, j1, e2, k4, hcv, fun s3 hn e3 hg => ⟨vs ++ [w], ?_, by simp [h2], fun i q q' => ?_⟩⟩
  · rcases j2 with q | ⟨x, q1, q2, q3, q4⟩
    · exact .inl q
    · exact .inr ⟨x, false, q1, Nat.lt_of_lt_of_le q3 hn, (hg x q2 q3).trans q4⟩
  · by_cases hi : i < vs.length
    · rw [List.getElem_append_left hi, List.getElem_append_left (by omega)]
      exact (h3 i hi (by omega)).sub e3
    · have hi2 : i = vs.length := by simp at q; omega
      subst hi2
      have hL2 : (L ++ [l])[vs.length]'q' = l := by simp [h2]
      simp only [List.getElem_concat_length, hL2]
      exact hw.sub e3

/-- The document's orders, as a value. -/
def mcells (n : Nat) (v : AV) (d f : Nat) : List AV := [.int .i64 (n : Int), v, .int .i64 (d : Int), .int .i64 (f : Int)]
/-- Batches within their bounds. -/
def SmallL (L : List (List Rn)) : Prop := ∀ l ∈ L, (∀ r ∈ l, WfR r) ∧ l.length ≤ 4000
variable {n d f : Nat}

theorem mnew_run (x : Int) (k : Nat) (s : Store) : ∃ s', rn (k + 1) 24 [.int .i64 x] s = some (.agg (mcells (max 1 (min x 64)).toNat .nilsl 0 0), s') ∧ Ext s s' := by
  rw [unisonref23_New.eq]
  unfold unisonref23_New.f unisonref23_New.p3
  have g0 : (s.push (.cells [AV.int .i64 0, AV.nilsl, AV.int .i64 0, AV.int .i64 0] false)).get s.next = .cells [AV.int .i64 0, AV.nilsl, AV.int .i64 0, AV.int .i64 0] false := by rw [get_push, if_pos rfl]
  have e1 := Ext.push s (.cells [AV.int .i64 0, AV.nilsl, AV.int .i64 0, AV.int .i64 0] false)
  rw [new_s, show ([AV.int .i64 0, AV.nilsl, AV.int .i64 0, AV.int .i64 0] : List AV).length = 4 from rfl]
  generalize (s.push (.cells [AV.int .i64 0, AV.nilsl, AV.int .i64 0, AV.int .i64 0] false)) = s1 at *
  have p0 : ∀ y : Int, ∃ s', unisonref23_New.p0 k (.int .i64 y) (.ptr s.next 0 4) s1 = some (.agg [.int .i64 y, .nilsl, .int .i64 0, .int .i64 0], s') ∧ Ext s s' := fun y => by
    unfold unisonref23_New.p0
    have hb : ∀ {α : Type} (g : List AV → Option α), aBuild [(0, 1, AV.int .i64 y)] [AV.int .i64 0, AV.nilsl, AV.int .i64 0, AV.int .i64 0] g = g [.int .i64 y, .nilsl, .int .i64 0, .int .i64 0] := fun g => rfl
    have hst : ∀ {α : Type} (g : Store → Option α), aStore 4 (.ptr s.next 0 4) (.agg [.int .i64 y, .nilsl, .int .i64 0, .int .i64 0]) s1 g = g (s1.set s.next (.cells [.int .i64 y, .nilsl, .int .i64 0, .int .i64 0] false)) := fun g => by simp [aStore, aCells, aOwn, g0, putAll]
    have hld : ∀ {α : Type} (g : AV → Option α), aLoadN 4 (.ptr s.next 0 4) (s1.set s.next (.cells [.int .i64 y, .nilsl, .int .i64 0, .int .i64 0] false)) g = g (.agg [.int .i64 y, .nilsl, .int .i64 0, .int .i64 0]) := fun g => by
      have hg : (s1.set s.next (.cells [.int .i64 y, .nilsl, .int .i64 0, .int .i64 0] false)).get s.next = .cells [.int .i64 y, .nilsl, .int .i64 0, .int .i64 0] false := by rw [get_set, if_pos rfl]
      exact load_n hg rfl (Nat.le_refl _)
    rw [hb, hst, hld]
    exact ⟨_, rfl, ⟨e1.next, fun q hq => by rw [get_set, if_neg (by omega)]; exact e1.get q hq⟩⟩
  have p1 : ∀ y : Int, ∃ s', unisonref23_New.p1 k (.int .i64 y) (.ptr s.next 0 4) s1 = some (.agg [.int .i64 (min y 64), .nilsl, .int .i64 0, .int .i64 0], s') ∧ Ext s s' := fun y => by
    unfold unisonref23_New.p1
    rw [gtr_i]
    by_cases h : y > 64
    · rw [decide_eq_true h, if_t, show min y 64 = 64 by omega]; exact p0 64
    · rw [decide_eq_false h, if_f, show min y 64 = y by omega]; exact p0 y
  unfold unisonref23_New.p2
  have fin : ∀ y : Int, min y 64 = ((max 1 (min x 64)).toNat : Int) → ∃ s', unisonref23_New.p1 k (.int .i64 y) (.ptr s.next 0 4) s1 = some (.agg (mcells (max 1 (min x 64)).toNat .nilsl 0 0), s') ∧ Ext s s' := fun y hy => by
    obtain ⟨s', k1, k2⟩ := p1 y
    rw [hy] at k1
    exact ⟨s', k1, k2⟩
  rw [lss_i]
  by_cases h : x < 1
  · rw [decide_eq_true h, if_t]
    exact fin 1 (by omega)
  · rw [decide_eq_false h, if_f]
    exact fin x (by omega)

section
variable {p : Nat} {s1 : Store}
/-- Where the value lies. -/
structure AtM (s1 : Store) (p n : Nat) (v : AV) (L : List (List Rn)) (d f : Nat) : Prop where
  row : s1.get p = .cells (mcells n v d f) false
  lt : p < s1.next
  ll : IsLL s1 v L
theorem AtM.ext (h : AtM s p n v L d f) (e : Ext s s') : AtM s' p n v L d f := ⟨(e.get _ h.lt).trans h.row, Nat.lt_of_lt_of_le h.lt e.next, h.ll.ext e⟩
theorem AtM.ld (h : AtM s p n v L d f) {j : Nat} {w : AV} (hw : (mcells n v d f)[j]? = some w) {α : Type} (g : AV → Option α) : aLoad1 (.ptr p (0 + j) 4) s g = g w := ld_fld h.row rfl hw g
theorem AtM.all (h : AtM s p n v L d f) {α : Type} (g : AV → Option α) : aLoadN 4 (.ptr p 0 4) s g = g (.agg (mcells n v d f)) := load_n h.row rfl (Nat.le_refl _)
/-- A value that comes as an argument. -/
theorem arg_at (h : IsLL s v L) : AtM (s.push (.cells (mcells n v d f) false)) s.next n v L d f := ⟨by rw [get_push, if_pos rfl], Nat.lt_succ_self _, h.ext (Ext.push _ _)⟩

theorem mids_loop (k : Nat) (hk : 5000 ≤ k) (hk2 : k ≤ 100000000) (hb : SmallL L) (hL : L.length ≤ 10000) (hsz : (idsOf L).length ≤ 100000000) (h1 : AtM s1 p n v L d f) : ∀ (g i : Nat) (s : Store) (w : AV), Ext s1 s → OwnL icells 2 s w (idsOf (L.take i)) s1.next → i ≤ L.length → L.length - i < g →
    ∃ w' s', unisonref23_O_IDs.l0 (k + 5) g (.ptr p 0 4) w (.int .i64 (L.length : Nat)) (.int .i64 (i : Int)) s = some (w', s') ∧ OwnL icells 2 s' w' (idsOf L) s1.next ∧ Ext s1 s'
  | 0, i, _, _, _, _, hi, hg => by omega
  | g + 1, i, s, w, e, ho, hi, hg => by
    have hs : unisonref23_O_IDs.l0 (k + 5) (g + 1) = fun x1 x3 x8 x9 s => unisonref23_O_IDs.p4 (k + 5) (unisonref23_O_IDs.l0 (k + 5) g) x1 x3 x8 x9 s := rfl
    rw [hs]
    clear hs
    simp only
    unfold unisonref23_O_IDs.p4 unisonref23_O_IDs.p3
    rw [lss_i]
    by_cases hil : i < L.length
    · rw [decide_eq_true (by omega), if_t]
      unfold unisonref23_O_IDs.p2 unisonref23_O_IDs.p1
      have h2 := h1.ext e
      obtain ⟨q, x, q1, q2, q3⟩ := h2.ll.at hil
      obtain ⟨hw, hlen⟩ := hb _ (List.getElem_mem hil)
      obtain ⟨y, s2, k1, k2, k3⟩ := ref_order q3 hw k hk hk2 hlen
      have ht : idsOf (L.take (i + 1)) = idsOf (L.take i) ++ orderR L[i] := by rw [List.take_succ_eq_append_getElem hil, idsOf_app]
      have hle : (idsOf (L.take (i + 1))).length ≤ (idsOf L).length := by
        have : idsOf L = idsOf (L.take (i + 1)) ++ idsOf (L.drop (i + 1)) := by unfold idsOf; rw [← List.flatten_append, ← List.map_append, List.take_append_drop]
        rw [this]; simp
      rw [ht, List.length_append] at hle
      obtain ⟨w3, s3, j1, j2, j3⟩ := appL (bytes := 16) ic_len (by decide) (by decide) (ho.ext k3) (Nat.le_trans e.next k3.next) k2 (by omega)
      have hw1 : IntKind.i64.wrap ((i : Int) + 1) = ((i + 1 : Nat) : Int) := by rw [w_i64 (by omega) (by omega)]; omega
      simp only [bnd, guard_tt, guard_ff, guard_tf, guard_ft, pick_t, pick_f, if_t, if_f, add_i, sub_i, lss_i, leq_i, gtr_i, geq_i, eql_i, neq_i, min_i, max_i, conv_i, len_sl, len_nil, not_b, cells_agg, new_s, fld_p, nil_p, h2.ld (j := 1) rfl, q1, q2, k1, j1, hw1]
      rw [← ht] at j2
      exact mids_loop k hk hk2 hb hL hsz h1 g (i + 1) s3 w3 ⟨Nat.le_trans (Nat.le_trans e.next k3.next) j3.next, fun l hl => ((j3.get l hl).trans (k3.get l (Nat.lt_of_lt_of_le hl e.next))).trans (e.get l hl)⟩ j2 (by omega) (by omega)
    · rw [decide_eq_false (by omega), if_f]
      unfold unisonref23_O_IDs.p0
      have : i = L.length := by omega
      subst this
      rw [List.take_length] at ho
      exact ⟨w, s, rfl, ho, e⟩
theorem mids_run (h : IsLL s v L) (hb : SmallL L) (hL : L.length ≤ 10000) (hsz : (idsOf L).length ≤ 100000000) (k : Nat) (hk : 10001 ≤ k) (hk2 : k ≤ 10000000) : ∃ w' s', rn (k + 6) 26 [.agg (mcells n v d f)] s = some (w', s') ∧ OwnL icells 2 s' w' (idsOf L) s.next ∧ Ext s s' := by
  rw [unisonref23_O_IDs.eq]
  unfold unisonref23_O_IDs.f unisonref23_O_IDs.p7 unisonref23_O_IDs.p6 unisonref23_O_IDs.p5
  have a1 := arg_at (n := n) (d := d) (f := f) h
  have e1 := Ext.push s (.cells (mcells n v d f) false)
  rw [cells_agg, new_s, show (mcells n v d f).length = 4 from rfl, build_0]
  generalize (s.push (.cells (mcells n v d f) false)) = s1 at *
  have e2 := Ext.push s1 (.cells [] false)
  simp only [bnd, guard_tt, guard_ff, guard_tf, guard_ft, pick_t, pick_f, if_t, if_f, add_i, sub_i, lss_i, leq_i, gtr_i, geq_i, eql_i, neq_i, min_i, max_i, conv_i, len_sl, len_nil, not_b, cells_agg, new_s, fld_p, nil_p, (a1.ext e2).ld (j := 1) rfl, (a1.ext e2).ll.len]
  obtain ⟨w', s', k1, k2, k3⟩ := mids_loop k (by omega) (by omega) hb hL hsz a1 (k + 5) 0 (s1.push (.cells [] false)) (.sl s1.next 0 0 2 0) e2 (.inr ⟨s1.next, rfl, Nat.le_refl _, Nat.lt_succ_self _, by rw [get_push, if_pos rfl]; rfl⟩) (by omega) (by omega)
  rw [Int.natCast_zero] at k1
  exact ⟨w', s', k1, k2.mono e1.next, e1.trans k3⟩

theorem zeros_app (i : Nat) : (List.replicate i (0 : Int)) ++ [0] = List.replicate (i + 1) 0 := List.replicate_succ'.symm
theorem mord_zeros (k : Nat) (hn : n ≤ 64) (hk : 64 < k) (h1 : AtM s1 p n v L d f) : ∀ (g i : Nat) (s : Store) (w : AV), Ext s1 s → OwnN s w (List.replicate i 0) s1.next → i ≤ n → n - i < g →
    ∃ w' s', unisonref23_O_Ordered.l1 k g (.ptr p 0 4) w (.int .i64 (i : Int)) s = unisonref23_O_Ordered.p5 k (.ptr p 0 4) w' s' ∧ OwnN s' w' (List.replicate n 0) s1.next ∧ Ext s1 s'
  | 0, i, _, _, _, _, hi, hg => by omega
  | g + 1, i, s, w, e, ho, hi, hg => by
    have hs : unisonref23_O_Ordered.l1 k (g + 1) = fun x1 x3 x4 s => unisonref23_O_Ordered.p8 k (unisonref23_O_Ordered.l1 k g) x1 x3 x4 s := rfl
    rw [hs]
    clear hs
    simp only
    unfold unisonref23_O_Ordered.p8
    have h2 := h1.ext e
    simp only [bnd, guard_tt, guard_ff, guard_tf, guard_ft, pick_t, pick_f, if_t, if_f, add_i, sub_i, lss_i, leq_i, gtr_i, geq_i, eql_i, neq_i, min_i, max_i, conv_i, len_sl, len_nil, not_b, cells_agg, new_s, fld_p, nil_p, h2.ld (j := 0) rfl]
    by_cases hin : i < n
    · rw [decide_eq_true (by omega), if_t]
      unfold unisonref23_O_Ordered.p7 unisonref23_O_Ordered.p6
      have hw1 : IntKind.i64.wrap ((i : Int) + 1) = ((i + 1 : Nat) : Int) := by rw [w_i64 (by omega) (by omega)]; omega
      obtain ⟨v', s', j1, j2, j3, _⟩ := app1V (bytes := 8) (k := .u64) ho e.next 0 (by rw [List.length_replicate]; omega) (by omega)
      rw [build_1, j1, add_i, hw1]
      rw [zeros_app] at j2
      exact mord_zeros k hn hk h1 g (i + 1) s' v' ⟨Nat.le_trans e.next j3.next, fun l hl => (j3.get l hl).trans (e.get l hl)⟩ j2 (by omega) (by omega)
    · rw [decide_eq_false (by omega), if_f]
      have : i = n := by omega
      subst this
      exact ⟨w, s, rfl, ho, e⟩
theorem mord_loop (k : Nat) (hk : 5000 ≤ k) (hk2 : k ≤ 100000000) (hok : OkL n L) (hn : n ≤ 64) (hb : SmallL L) (hL : L.length ≤ 10000) (h1 : AtM s1 p n v L d f) : ∀ (g i : Nat) (s : Store) (w : AV), Ext s1 s → IsSl s w .u64 (baseOf n (L.take i)) → U (baseOf n (L.take i)) → i ≤ L.length → L.length - i < g →
    ∃ w' s', unisonref23_O_Ordered.l0 (k + 5) g (.ptr p 0 4) w (.int .i64 (L.length : Nat)) (.int .i64 (i : Int)) s = some (w', s') ∧ IsSl s' w' .u64 (baseOf n L) ∧ Ext s1 s'
  | 0, i, _, _, _, _, _, hi, hg => by omega
  | g + 1, i, s, w, e, ho, hu, hi, hg => by
    have hs : unisonref23_O_Ordered.l0 (k + 5) (g + 1) = fun x1 x3 x18 x19 s => unisonref23_O_Ordered.p4 (k + 5) (unisonref23_O_Ordered.l0 (k + 5) g) x1 x3 x18 x19 s := rfl
    rw [hs]
    clear hs
    simp only
    unfold unisonref23_O_Ordered.p4 unisonref23_O_Ordered.p3
    rw [lss_i]
    by_cases hil : i < L.length
    · rw [decide_eq_true (by omega), if_t]
      unfold unisonref23_O_Ordered.p2 unisonref23_O_Ordered.p1
      have h2 := h1.ext e
      obtain ⟨q, x, q1, q2, q3⟩ := h2.ll.at hil
      obtain ⟨hw, hlen⟩ := hb _ (List.getElem_mem hil)
      obtain ⟨y, s2, k1, k2, k3⟩ := ref_after ho q3 hu hw k (by omega) (by omega) (by rw [baseOf_len]; omega)
      have ht : baseOf n (L.take (i + 1)) = afterR (baseOf n (L.take i)) L[i] := by rw [List.take_succ_eq_append_getElem hil, baseOf_app]
      have hw1 : IntKind.i64.wrap ((i : Int) + 1) = ((i + 1 : Nat) : Int) := by rw [w_i64 (by omega) (by omega)]; omega
      simp only [bnd, guard_tt, guard_ff, guard_tf, guard_ft, pick_t, pick_f, if_t, if_f, add_i, sub_i, lss_i, leq_i, gtr_i, geq_i, eql_i, neq_i, min_i, max_i, conv_i, len_sl, len_nil, not_b, cells_agg, new_s, fld_p, nil_p, h2.ld (j := 1) rfl, q1, q2, k1, hw1]
      rw [← ht] at k2
      exact mord_loop k hk hk2 hok hn hb hL h1 g (i + 1) s2 y (e.trans k3) k2 (by rw [ht]; exact U_after hu hw) (by omega) (by omega)
    · rw [decide_eq_false (by omega), if_f]
      unfold unisonref23_O_Ordered.p0
      have : i = L.length := by omega
      subst this
      rw [List.take_length] at ho
      exact ⟨w, s, rfl, ho, e⟩
theorem mord_run (h : IsLL s v L) (hok : OkL n L) (hn : n ≤ 64) (hb : SmallL L) (hL : L.length ≤ 10000) (k : Nat) (hk : 10001 ≤ k) (hk2 : k ≤ 10000000) : ∃ w' s', rn (k + 6) 32 [.agg (mcells n v d f)] s = some (w', s') ∧ IsSl s' w' .u64 (baseOf n L) ∧ Ext s s' := by
  rw [unisonref23_O_Ordered.eq]
  unfold unisonref23_O_Ordered.f unisonref23_O_Ordered.p11 unisonref23_O_Ordered.p10 unisonref23_O_Ordered.p9
  have a1 := arg_at (n := n) (d := d) (f := f) h
  have e1 := Ext.push s (.cells (mcells n v d f) false)
  rw [cells_agg, new_s, show (mcells n v d f).length = 4 from rfl, build_0]
  generalize (s.push (.cells (mcells n v d f) false)) = s1 at *
  obtain ⟨w2, s2, k1, k2, k3⟩ := mord_zeros (k + 5) hn (by omega) a1 (k + 5) 0 (s1.push (.cells [] false)) (.sl s1.next 0 0 1 0) (Ext.push _ _) (.inr ⟨s1.next, rfl, Nat.le_refl _, Nat.lt_succ_self _, by rw [get_push, if_pos rfl]; rfl⟩) (by omega) (by omega)
  rw [Int.natCast_zero] at k1
  rw [k1]
  unfold unisonref23_O_Ordered.p5
  simp only [bnd, guard_tt, guard_ff, guard_tf, guard_ft, pick_t, pick_f, if_t, if_f, add_i, sub_i, lss_i, leq_i, gtr_i, geq_i, eql_i, neq_i, min_i, max_i, conv_i, len_sl, len_nil, not_b, cells_agg, new_s, fld_p, nil_p, (a1.ext k3).ld (j := 1) rfl, (a1.ext k3).ll.len]
  obtain ⟨w', s', j1, j2, j3⟩ := mord_loop k (by omega) (by omega) hok hn hb hL a1 (k + 5) 0 s2 w2 k3 k2.is (U_zero n) (by omega) (by omega)
  rw [Int.natCast_zero] at j1
  exact ⟨w', s', j1, j2, e1.trans j3⟩
end
end
end Go.Proofs.Ytahiipfjhjeofaa.Sim
namespace Go.Proofs.Ytahiipfjhjeofaa.Sim
set_option linter.unusedSimpArgs false
set_option linter.unusedVariables false
section
variable {s s' : Store} {v : AV} {L : List (List Rn)} {n d f : Nat}
theorem st_m {s : Store} {p : Nat} {cs cs' : List AV} (h : s.get p = .cells cs false) (hc : cs.length = 4) (hc' : cs'.length = 4) {α : Type} (g : Store → Option α) : aStore 4 (.ptr p 0 4) (.agg cs') s g = g (s.set p (.cells cs' false)) := by
  match cs, hc, cs', hc' with
  | [a, b, c, e], _, [a', b', c', e'], _ => simp [aStore, aCells, aOwn, h, putAll]
theorem ld_m {s : Store} {p : Nat} {cs : List AV} {ro : Bool} (h : s.get p = .cells cs ro) (hc : cs.length = 4) {α : Type} (g : AV → Option α) : aLoadN 4 (.ptr p 0 4) s g = g (.agg cs) := by
  rw [load_n h hc (Nat.le_refl _)]
  simp [List.take_of_length_le, hc]
theorem st1_m {s : Store} {p j : Nat} {cs : List AV} {w : AV} (h : s.get p = .cells cs false) (hc : cs.length = 4) (hj : j < 4) (hw : ∀ {α : Type} (f : List AV → Option α), aCells w f = f [w]) {α : Type} (g : Store → Option α) : aStore 1 (.ptr p (0 + j) 4) w s g = g (s.set p (.cells (cs.set j w) false)) := st_fld h hc hj hw g
abbrev zero4 : List AV := [AV.int .i64 0, AV.nilsl, AV.int .i64 0, AV.int .i64 0]

theorem mdecide_run {s0 : Store} (e0 : Sub s0 s) (h0 : IsLL s0 v L) (hok : OkL n L) (hn : n ≤ 64) (hb : SmallL L) (hL : L.length ≤ 10000) {w : AV} {l : List Rn} (hr0 : IsRuns s0 w l) (hw : ∀ r ∈ l, WfR r) (hl : l.length ≤ 4000) (k : Nat) (hk : 10001 ≤ k) (hk2 : k ≤ 10000000) :
    ∃ v' s', rn (k + 7) 25 [.agg (mcells n v d f), w] s = some (.tuple [.agg (mcells n v' d f), .bool (mayR (baseOf n L) 4096 l)], s') ∧ Ext s s' ∧ (∀ {α : Type} (g : List AV → Option α), aCells v' g = g [v']) ∧ ∀ s3, s'.next ≤ s3.next → Sub s0 s3 → (∀ q, s.next ≤ q → q < s'.next → s3.get q = s'.get q) → IsLL s3 v' (if mayR (baseOf n L) 4096 l = true then L ++ [l] else L) := by
  have h := h0.sub e0
  have hr := hr0.sub e0
  rw [unisonref23_O_Decide.eq]
  unfold unisonref23_O_Decide.f unisonref23_O_Decide.p0
  have a1 := arg_at (n := n) (d := d) (f := f) h
  have e1 := Ext.push s (.cells (mcells n v d f) false)
  rw [cells_agg, new_s, show (mcells n v d f).length = 4 from rfl]
  generalize (s.push (.cells (mcells n v d f) false)) = s1 at *
  have e2 := Ext.push s1 (.cells zero4 false)
  have g2 : (s1.push (.cells zero4 false)).get s1.next = .cells zero4 false := by rw [get_push, if_pos rfl]
  have l2 : s1.next < (s1.push (.cells zero4 false)).next := Nat.lt_succ_self _
  have a2 := a1.ext e2
  rw [new_s, show zero4.length = 4 from rfl]
  generalize (s1.push (.cells zero4 false)) = s2 at *
  have e02 := e1.trans e2
  obtain ⟨vb, s3, k3, o3, e3⟩ := mord_run (d := d) (f := f) a2.ll hok hn hb hL k hk hk2
  have e03 := e02.trans e3
  obtain ⟨s4, k4, e4⟩ := ref_may (most := 4096) o3 (hr.ext e03) hok.u hw (by decide) (k + 2) (by omega) (by omega)
  have e04 := e03.trans e4
  have e24 := e3.trans e4
  have a4 := a2.ext e24
  have g4 : s4.get s1.next = .cells zero4 false := (e24.get _ l2).trans g2
  have l4 : s1.next < s4.next := Nat.lt_of_lt_of_le l2 e24.next
  have hne : s.next ≠ s1.next := by have := a1.lt; omega
  simp only [a2.all, bnd, guard_tt, guard_ff, guard_tf, guard_ft, pick_t, pick_f, if_t, if_f, add_i, sub_i, lss_i, leq_i, gtr_i, geq_i, eql_i, neq_i, min_i, max_i, conv_i, len_sl, len_nil, not_b, cells_agg, new_s, fld_p, nil_p, k3, k4]
  by_cases hm : mayR (baseOf n L) 4096 l = true
  · simp only [hm, Bool.not_true, bnd, guard_tt, guard_ff, guard_tf, guard_ft, pick_t, pick_f, if_t, if_f, add_i, sub_i, lss_i, leq_i, gtr_i, geq_i, eql_i, neq_i, min_i, max_i, conv_i, len_sl, len_nil, not_b, cells_agg, new_s, fld_p, nil_p, if_true]
    have hcw : ∀ {α : Type} (g : List AV → Option α), aBuild [(0, 1, w)] [AV.nilsl] g = g [w] := fun g => by
      rcases hr with ⟨rfl, _⟩ | ⟨_, _, rfl, _⟩ <;> rfl
    obtain ⟨v1, s5, v2, s6, j1, j2, j4, j5, j6, j3⟩ := h0.snoc hr0 (e0.trans e04.sub) (by omega)
    have e5 := Ext.push s4 (.cells [] false)
    have e06 := e04.trans j4
    have r6 : s6.get s.next = .cells (mcells n v d f) false := (j4.get _ a4.lt).trans a4.row
    have z6 : s6.get s1.next = .cells zero4 false := (j4.get _ l4).trans g4
    have r7 : (s6.set s.next (.cells (mcells n v2 d f) false)).get s.next = .cells (mcells n v2 d f) false := by rw [get_set, if_pos rfl]
    have z7 : (s6.set s.next (.cells (mcells n v2 d f) false)).get s1.next = .cells zero4 false := by rw [get_set, if_neg hne.symm, z6]
    have hs : (mcells n v d f).set 1 v2 = mcells n v2 d f := rfl
    simp only [build_0, bnd, guard_tt, guard_ff, guard_tf, guard_ft, pick_t, pick_f, if_t, if_f, add_i, sub_i, lss_i, leq_i, gtr_i, geq_i, eql_i, neq_i, min_i, max_i, conv_i, len_sl, len_nil, not_b, cells_agg, new_s, fld_p, nil_p, (a4.ext e5).ld (j := 1) rfl, j1, hcw, j2, st1_m (j := 1) r6 rfl (by decide) j6, hs, ld_m r7 rfl, st_m z7 rfl (show (mcells n v2 d f).length = 4 from rfl)]
    have r8 : ((s6.set s.next (.cells (mcells n v2 d f) false)).set s1.next (.cells (mcells n v2 d f) false)).get s1.next = .cells (mcells n v2 d f) false := by rw [get_set, if_pos rfl]
    rw [ld_m r8 rfl]
    have eE : Ext s ((s6.set s.next (.cells (mcells n v2 d f) false)).set s1.next (.cells (mcells n v2 d f) false)) := ⟨e06.next, fun q hq => by rw [get_set, if_neg (by have := e1.next; omega), get_set, if_neg (by omega)]; exact e06.get q hq⟩
    refine ⟨v2, _, rfl, eE, j6, fun s3 hn3 e3 hg3 => j3 s3 hn3 e3 fun q hq hq2 => ?_⟩
    have := a4.lt
    have := e04.next
    rw [hg3 q (by omega) hq2, get_set, if_neg (by omega), get_set, if_neg (by omega)]
  · have hm' : mayR (baseOf n L) 4096 l = false := by simpa using hm
    have r5 : (s4.set s1.next (.cells (mcells n v d f) false)).get s1.next = .cells (mcells n v d f) false := by rw [get_set, if_pos rfl]
    simp only [hm', Bool.not_false, bnd, guard_tt, guard_ff, guard_tf, guard_ft, pick_t, pick_f, if_t, if_f, add_i, sub_i, lss_i, leq_i, gtr_i, geq_i, eql_i, neq_i, min_i, max_i, conv_i, len_sl, len_nil, not_b, cells_agg, new_s, fld_p, nil_p, a4.all, st_m g4 rfl (show (mcells n v d f).length = 4 from rfl), ld_m r5 rfl, Bool.false_eq_true, if_false]
    have eE : Ext s (s4.set s1.next (.cells (mcells n v d f) false)) := ⟨e04.next, fun q hq => by rw [get_set, if_neg (by have := e1.next; omega)]; exact e04.get q hq⟩
    exact ⟨v, _, rfl, eE, fun g => h.cell g, fun s3 _ e3 _ => h0.sub e3⟩

theorem mforget_run (h : IsLL s v L) (hf : f ≤ L.length) (hL : L.length ≤ 10000) (x : Nat) (hx : x < 18446744073709551616) (k : Nat) :
    ∃ s', rn (k + 1) 27 [.agg (mcells n v d f), .int .u64 (x : Int)] s = some (.tuple [.agg (mcells n v d (forgetN L f x)), .int .i64 ((forgetN L f x - f : Nat) : Int)], s') ∧ Ext s s' := by
  rw [unisonref23_O_Forget.eq]
  unfold unisonref23_O_Forget.f unisonref23_O_Forget.p3
  have a1 := arg_at (n := n) (d := d) (f := f) h
  have e1 := Ext.push s (.cells (mcells n v d f) false)
  rw [cells_agg, new_s, show (mcells n v d f).length = 4 from rfl]
  generalize (s.push (.cells (mcells n v d f) false)) = s1 at *
  have e2 := Ext.push s1 (.cells zero4 false)
  have g2 : (s1.push (.cells zero4 false)).get s1.next = .cells zero4 false := by rw [get_push, if_pos rfl]
  have a2 := a1.ext e2
  rw [new_s, show zero4.length = 4 from rfl]
  generalize (s1.push (.cells zero4 false)) = s2 at *
  have e02 := e1.trans e2
  have hne : s.next ≠ s1.next := by have := a1.lt; omega
  have fin : ∀ y : Nat, y = min x L.length → ∃ s', unisonref23_O_Forget.p0 k (.ptr s.next 0 4) (.ptr s1.next 0 4) (.int .i64 (y : Int)) s2 = some (.tuple [.agg (mcells n v d (forgetN L f x)), .int .i64 ((forgetN L f x - f : Nat) : Int)], s') ∧ Ext s s' := fun y hy => by
    unfold unisonref23_O_Forget.p0
    simp only [bnd, guard_tt, guard_ff, guard_tf, guard_ft, pick_t, pick_f, if_t, if_f, add_i, sub_i, lss_i, leq_i, gtr_i, geq_i, eql_i, neq_i, min_i, max_i, conv_i, len_sl, len_nil, not_b, cells_agg, new_s, fld_p, nil_p, a2.ld (j := 3) rfl]
    by_cases hc : y ≤ f
    · have ef : forgetN L f x = f := by unfold forgetN; omega
      have r3 : (s2.set s1.next (.cells (mcells n v d f) false)).get s1.next = .cells (mcells n v d f) false := by rw [get_set, if_pos rfl]
      rw [decide_eq_true (by omega), if_t, a2.all, st_m g2 rfl (show (mcells n v d f).length = 4 from rfl), ld_m r3 rfl, ef, Nat.sub_self]
      exact ⟨_, rfl, ⟨e02.next, fun q hq => by rw [get_set, if_neg (by have := e1.next; omega)]; exact e02.get q hq⟩⟩
    · have ef : forgetN L f x = y := by unfold forgetN; omega
      have hs : (mcells n v d f).set 3 (.int .i64 (y : Int)) = mcells n v d y := rfl
      have r3 : (s2.set s.next (.cells (mcells n v d y) false)).get s.next = .cells (mcells n v d y) false := by rw [get_set, if_pos rfl]
      have g3 : (s2.set s.next (.cells (mcells n v d y) false)).get s1.next = .cells zero4 false := by rw [get_set, if_neg hne.symm, g2]
      have r4 : ((s2.set s.next (.cells (mcells n v d y) false)).set s1.next (.cells (mcells n v d y) false)).get s1.next = .cells (mcells n v d y) false := by rw [get_set, if_pos rfl]
      have hw : IntKind.i64.wrap ((y : Int) - (f : Int)) = ((y - f : Nat) : Int) := by rw [w_i64 (by omega) (by omega)]; omega
      rw [decide_eq_false (by omega), if_f, hw, st1_m (j := 3) (w := .int .i64 (y : Int)) a2.row rfl (by decide) (fun f => rfl), hs, ld_m r3 rfl, st_m g3 rfl (show (mcells n v d y).length = 4 from rfl), ld_m r4 rfl, ef]
      exact ⟨_, rfl, ⟨e02.next, fun q hq => by rw [get_set, if_neg (by have := e1.next; omega), get_set, if_neg (by omega)]; exact e02.get q hq⟩⟩
  unfold unisonref23_O_Forget.p2
  simp only [bnd, guard_tt, guard_ff, guard_tf, guard_ft, pick_t, pick_f, if_t, if_f, add_i, sub_i, lss_i, leq_i, gtr_i, geq_i, eql_i, neq_i, min_i, max_i, conv_i, len_sl, len_nil, not_b, cells_agg, new_s, fld_p, nil_p, a2.ld (j := 1) rfl, a2.ll.len]
  unfold unisonref23_O_Forget.p1
  simp only [bnd, guard_tt, guard_ff, guard_tf, guard_ft, pick_t, pick_f, if_t, if_f, add_i, sub_i, lss_i, leq_i, gtr_i, geq_i, eql_i, neq_i, min_i, max_i, conv_i, len_sl, len_nil, not_b, cells_agg, new_s, fld_p, nil_p, w_u64 (show (0 : Int) ≤ ((L.length : Nat) : Int) by omega) (show ((L.length : Nat) : Int) < 18446744073709551616 by omega)]
  by_cases hc : x < L.length
  · rw [decide_eq_true (by omega), if_t, w_i64 (by omega) (by omega)]
    exact fin x (by omega)
  · rw [decide_eq_false (by omega), if_f]
    exact fin L.length (by omega)

theorem mbatch_run (h : IsLL s v L) (hf : f ≤ L.length) (hL : L.length ≤ 10000) (x : Nat) (hx : x < 18446744073709551616) (k : Nat) :
    ∃ w s', rn (k + 1) 29 [.agg (mcells n v d f), .int .u64 (x : Int)] s = some (.tuple [w, .bool (decide (f < x ∧ x ≤ L.length))], s') ∧ IsRuns s' w (batN L f x) ∧ Ext s s' := by
  rw [unisonref23_O_Batch.eq]
  unfold unisonref23_O_Batch.f unisonref23_O_Batch.p0
  have a1 := arg_at (n := n) (d := d) (f := f) h
  have e1 := Ext.push s (.cells (mcells n v d f) false)
  rw [cells_agg, new_s, show (mcells n v d f).length = 4 from rfl]
  generalize (s.push (.cells (mcells n v d f) false)) = s1 at *
  have hwL : IntKind.u64.wrap ((L.length : Nat) : Int) = ((L.length : Nat) : Int) := w_u64 (by omega) (by omega)
  have hwf : IntKind.u64.wrap ((f : Nat) : Int) = ((f : Nat) : Int) := w_u64 (by omega) (by omega)
  have no : ¬ (f < x ∧ x ≤ L.length) → ∃ w s', some (AV.tuple [(AV.sl s1.next 0 0 3 0), (AV.bool false)], (s1.push (.cells [] false))) = some (.tuple [w, .bool (decide (f < x ∧ x ≤ L.length))], s') ∧ IsRuns s' w (batN L f x) ∧ Ext s s' := fun q => by
    rw [decide_eq_false q]
    refine ⟨_, _, rfl, ?_, e1.trans (Ext.push _ _)⟩
    unfold batN
    rw [if_neg q]
    exact .inr ⟨s1.next, false, rfl, Nat.lt_succ_self _, by rw [get_push, if_pos rfl]; rfl⟩
  by_cases h0 : x = 0
  · subst h0
    simp only [bnd, guard_tt, guard_ff, guard_tf, guard_ft, pick_t, pick_f, if_t, if_f, add_i, sub_i, lss_i, leq_i, gtr_i, geq_i, eql_i, neq_i, min_i, max_i, conv_i, len_sl, len_nil, not_b, cells_agg, new_s, fld_p, nil_p, show (((0 : Nat) : Int) == 0) = true from rfl, guard_tf, build_0]
    exact no (by omega)
  · have hz : ((x : Int) == 0) = false := beq_eq_false_iff_ne.2 (by omega)
    simp only [bnd, guard_tt, guard_ff, guard_tf, guard_ft, pick_t, pick_f, if_t, if_f, add_i, sub_i, lss_i, leq_i, gtr_i, geq_i, eql_i, neq_i, min_i, max_i, conv_i, len_sl, len_nil, not_b, cells_agg, new_s, fld_p, nil_p, hz, a1.ld (j := 1) rfl, a1.ll.len, hwL]
    by_cases hc : (x : Int) > (L.length : Nat)
    · simp only [decide_eq_true hc, bnd, guard_tt, guard_ff, guard_tf, guard_ft, pick_t, pick_f, if_t, if_f, add_i, sub_i, lss_i, leq_i, gtr_i, geq_i, eql_i, neq_i, min_i, max_i, conv_i, len_sl, len_nil, not_b, cells_agg, new_s, fld_p, nil_p, guard_tf, build_0]
      exact no (by omega)
    · simp only [decide_eq_false hc, bnd, guard_tt, guard_ff, guard_tf, guard_ft, pick_t, pick_f, if_t, if_f, add_i, sub_i, lss_i, leq_i, gtr_i, geq_i, eql_i, neq_i, min_i, max_i, conv_i, len_sl, len_nil, not_b, cells_agg, new_s, fld_p, nil_p, a1.ld (j := 3) rfl, hwf]
      by_cases hc2 : (x : Int) ≤ (f : Nat)
      · simp only [decide_eq_true hc2, bnd, guard_tt, guard_ff, guard_tf, guard_ft, pick_t, pick_f, if_t, if_f, add_i, sub_i, lss_i, leq_i, gtr_i, geq_i, eql_i, neq_i, min_i, max_i, conv_i, len_sl, len_nil, not_b, cells_agg, new_s, fld_p, nil_p, build_0]
        exact no (by omega)
      · have hyes : f < x ∧ x ≤ L.length := by omega
        have hw1 : IntKind.u64.wrap ((x : Int) - 1) = ((x - 1 : Nat) : Int) := by rw [w_u64 (by omega) (by omega)]; omega
        obtain ⟨p, w, q1, q2, q3⟩ := a1.ll.at (show x - 1 < L.length by omega)
        simp only [decide_eq_false hc2, bnd, guard_tt, guard_ff, guard_tf, guard_ft, pick_t, pick_f, if_t, if_f, add_i, sub_i, lss_i, leq_i, gtr_i, geq_i, eql_i, neq_i, min_i, max_i, conv_i, len_sl, len_nil, not_b, cells_agg, new_s, fld_p, nil_p, a1.ld (j := 1) rfl, hw1, q1, q2, decide_eq_true hyes]
        refine ⟨w, s1, rfl, ?_, e1⟩
        unfold batN
        rw [if_pos hyes]
        have : L.getD (x - 1) [] = L[x - 1]'(by omega) := by simp [show x - 1 < L.length by omega]
        rw [this]; exact q3

theorem whole_cons (L : List (List Rn)) {i : Nat} (hi : i < L.length) (y : Nat) : wholeN (L.drop i) y = if (orderR L[i]).length ≤ y then wholeN (L.drop (i + 1)) (y - (orderR L[i]).length) + 1 else 0 := by
  rw [List.drop_eq_getElem_cons hi]; rfl
theorem mwhole_loop {p : Nat} {s1 : Store} (k : Nat) (hk : 5000 ≤ k) (hk2 : k ≤ 100000000) (hb : SmallL L) (hL : L.length ≤ 10000) (hsz : (idsOf L).length ≤ 100000000) (hd : d ≤ (idsOf L).length) (h1 : AtM s1 p n v L d f) : ∀ (g i c : Nat) (s : Store), Ext s1 s → c = (idsOf (L.take i)).length → c ≤ d → i ≤ L.length → L.length - i < g →
    ∃ s', unisonref23_O_Whole.l0 (k + 5) g (.ptr p 0 4) (.int .i64 (c : Int)) (.int .i64 (L.length : Nat)) (.int .i64 (i : Int)) s = some (.int .u64 ((i + wholeN (L.drop i) (d - c) : Nat) : Int), s') ∧ Ext s1 s'
  | 0, i, _, _, _, _, _, hi, hg => by omega
  | g + 1, i, c, s, e, hc, hcd, hi, hg => by
    have hs : unisonref23_O_Whole.l0 (k + 5) (g + 1) = fun x1 x3 x7 x8 s => unisonref23_O_Whole.p4 (k + 5) (unisonref23_O_Whole.l0 (k + 5) g) x1 x3 x7 x8 s := rfl
    rw [hs]
    clear hs
    simp only
    unfold unisonref23_O_Whole.p4 unisonref23_O_Whole.p3
    rw [lss_i]
    by_cases hil : i < L.length
    · rw [decide_eq_true (by omega), if_t]
      unfold unisonref23_O_Whole.p2 unisonref23_O_Whole.p1
      have h2 := h1.ext e
      obtain ⟨q, x, q1, q2, q3⟩ := h2.ll.at hil
      obtain ⟨hw, hlen⟩ := hb _ (List.getElem_mem hil)
      obtain ⟨y, s2, k1, k2, k3⟩ := ref_order q3 hw k hk hk2 hlen
      have ht : idsOf (L.take (i + 1)) = idsOf (L.take i) ++ orderR L[i] := by rw [List.take_succ_eq_append_getElem hil, idsOf_app]
      have hle : (idsOf (L.take (i + 1))).length ≤ (idsOf L).length := by
        have : idsOf L = idsOf (L.take (i + 1)) ++ idsOf (L.drop (i + 1)) := by unfold idsOf; rw [← List.flatten_append, ← List.map_append, List.take_append_drop]
        rw [this]; simp
      rw [ht, List.length_append] at hle
      have hly : ∀ {α : Type} (g : AV → Option α), aLen y g = g (.int .i64 ((orderR L[i]).length : Nat)) := fun g => lenL k2 g
      have hw1 : IntKind.i64.wrap ((i : Int) + 1) = ((i + 1 : Nat) : Int) := by rw [w_i64 (by omega) (by omega)]; omega
      have hwc : IntKind.i64.wrap ((c : Int) + ((orderR L[i]).length : Nat)) = ((c + (orderR L[i]).length : Nat) : Int) := by rw [w_i64 (by omega) (by omega)]; omega
      have h3 := h2.ext k3
      simp only [bnd, guard_tt, guard_ff, guard_tf, guard_ft, pick_t, pick_f, if_t, if_f, add_i, sub_i, lss_i, leq_i, gtr_i, geq_i, eql_i, neq_i, min_i, max_i, conv_i, len_sl, len_nil, not_b, cells_agg, new_s, fld_p, nil_p, h2.ld (j := 1) rfl, q1, q2, k1, hly, hwc, h3.ld (j := 2) rfl]
      rw [whole_cons L hil]
      by_cases hgt : c + (orderR L[i]).length > d
      · rw [decide_eq_true (by omega), if_t, w_u64 (by omega) (by omega), if_neg (by omega)]
        exact ⟨s2, rfl, e.trans k3⟩
      · rw [decide_eq_false (by omega), if_f, hw1, if_pos (by omega)]
        obtain ⟨s', j1, j2⟩ := mwhole_loop k hk hk2 hb hL hsz hd h1 g (i + 1) (c + (orderR L[i]).length) s2 (e.trans k3) (by rw [ht, List.length_append, hc]) (by omega) (by omega) (by omega)
        refine ⟨s', ?_, j2⟩
        rw [j1]
        congr 3
        rw [show d - (c + (orderR L[i]).length) = d - c - (orderR L[i]).length by omega]
        omega
    · rw [decide_eq_false (by omega), if_f]
      unfold unisonref23_O_Whole.p0
      have : i = L.length := by omega
      subst this
      have h2 := h1.ext e
      simp only [bnd, guard_tt, guard_ff, guard_tf, guard_ft, pick_t, pick_f, if_t, if_f, add_i, sub_i, lss_i, leq_i, gtr_i, geq_i, eql_i, neq_i, min_i, max_i, conv_i, len_sl, len_nil, not_b, cells_agg, new_s, fld_p, nil_p, h2.ld (j := 1) rfl, h2.ll.len]
      rw [w_u64 (by omega) (by omega), List.drop_length]
      exact ⟨s, rfl, e⟩
theorem mwhole_run (h : IsLL s v L) (hb : SmallL L) (hL : L.length ≤ 10000) (hsz : (idsOf L).length ≤ 100000000) (hd : d ≤ (idsOf L).length) (k : Nat) (hk : 10001 ≤ k) (hk2 : k ≤ 10000000) : ∃ s', rn (k + 6) 30 [.agg (mcells n v d f)] s = some (.int .u64 (wholeN L d : Nat), s') ∧ Ext s s' := by
  rw [unisonref23_O_Whole.eq]
  unfold unisonref23_O_Whole.f unisonref23_O_Whole.p7 unisonref23_O_Whole.p6 unisonref23_O_Whole.p5
  have a1 := arg_at (n := n) (d := d) (f := f) h
  have e1 := Ext.push s (.cells (mcells n v d f) false)
  rw [cells_agg, new_s, show (mcells n v d f).length = 4 from rfl]
  generalize (s.push (.cells (mcells n v d f) false)) = s1 at *
  simp only [bnd, guard_tt, guard_ff, guard_tf, guard_ft, pick_t, pick_f, if_t, if_f, add_i, sub_i, lss_i, leq_i, gtr_i, geq_i, eql_i, neq_i, min_i, max_i, conv_i, len_sl, len_nil, not_b, cells_agg, new_s, fld_p, nil_p, a1.ld (j := 1) rfl, a1.ll.len]
  obtain ⟨s', k1, k2⟩ := mwhole_loop k (by omega) (by omega) hb hL hsz hd a1 (k + 5) 0 0 s1 (Ext.refl _) rfl (by omega) (by omega) (by omega)
  rw [Int.natCast_zero] at k1
  simp only [Nat.zero_add, List.drop_zero, Nat.sub_zero] at k1
  exact ⟨s', k1, e1.trans k2⟩

theorem mdone_zeros {p : Nat} {s1 : Store} (k : Nat) (hn : n ≤ 64) (hk : 64 < k) (h1 : AtM s1 p n v L d f) : ∀ (g i : Nat) (s : Store) (w : AV), Ext s1 s → OwnN s w (List.replicate i 0) s1.next → i ≤ n → n - i < g →
    ∃ w' s', unisonref23_O_Done.l1 k g (.ptr p 0 4) w (.int .i64 (i : Int)) s = unisonref23_O_Done.p5 k (.ptr p 0 4) w' s' ∧ OwnN s' w' (List.replicate n 0) s1.next ∧ Ext s1 s'
  | 0, i, _, _, _, _, hi, hg => by omega
  | g + 1, i, s, w, e, ho, hi, hg => by
    have hs : unisonref23_O_Done.l1 k (g + 1) = fun x1 x3 x4 s => unisonref23_O_Done.p8 k (unisonref23_O_Done.l1 k g) x1 x3 x4 s := rfl
    rw [hs]
    clear hs
    simp only
    unfold unisonref23_O_Done.p8
    have h2 := h1.ext e
    simp only [bnd, guard_tt, guard_ff, guard_tf, guard_ft, pick_t, pick_f, if_t, if_f, add_i, sub_i, lss_i, leq_i, gtr_i, geq_i, eql_i, neq_i, min_i, max_i, conv_i, len_sl, len_nil, not_b, cells_agg, new_s, fld_p, nil_p, h2.ld (j := 0) rfl]
    by_cases hin : i < n
    · rw [decide_eq_true (by omega), if_t]
      unfold unisonref23_O_Done.p7 unisonref23_O_Done.p6
      have hw1 : IntKind.i64.wrap ((i : Int) + 1) = ((i + 1 : Nat) : Int) := by rw [w_i64 (by omega) (by omega)]; omega
      obtain ⟨v', s', j1, j2, j3, _⟩ := app1V (bytes := 8) (k := .u64) ho e.next 0 (by rw [List.length_replicate]; omega) (by omega)
      rw [build_1, j1, add_i, hw1]
      rw [zeros_app] at j2
      exact mdone_zeros k hn hk h1 g (i + 1) s' v' ⟨Nat.le_trans e.next j3.next, fun l hl => (j3.get l hl).trans (e.get l hl)⟩ j2 (by omega) (by omega)
    · rw [decide_eq_false (by omega), if_f]
      have : i = n := by omega
      subst this
      exact ⟨w, s, rfl, ho, e⟩
theorem mdone_loop {p : Nat} {s1 : Store} (k : Nat) (hok : OkL n L) (hn : n ≤ 64) (hd : d ≤ (idsOf L).length) (hsz : (idsOf L).length ≤ 100000000) (h1 : AtM s1 p n v L d f) {y : AV} {r : Nat} (hr : s1.next ≤ r) : ∀ (g i : Nat) (s : Store), Ext s1 s → IsL icells 2 s y (idsOf L) → (∀ a b c e g, y = .sl a b c e g → a ≠ r) → r < s.next → s.get r = .cells ((doneOf n L i).map (.int .u64)) false → i ≤ d → d - i < g →
    ∃ s', unisonref23_O_Done.l0 k g (.ptr p 0 4) (.sl r 0 n 1 n) y (.int .i64 (i : Int)) s = some (.sl r 0 n 1 n, s') ∧ s'.get r = .cells ((doneOf n L d).map (.int .u64)) false ∧ r < s'.next ∧ Ext s1 s'
  | 0, i, _, _, _, _, _, _, hi, hg => by omega
  | g + 1, i, s, e, hy, hyr, hrl, hg0, hi, hg => by
    have hs : unisonref23_O_Done.l0 k (g + 1) = fun x1 x3 x5 x6 s => unisonref23_O_Done.p3 k (unisonref23_O_Done.l0 k g) x1 x3 x5 x6 s := rfl
    rw [hs]
    clear hs
    simp only
    unfold unisonref23_O_Done.p3
    have h2 := h1.ext e
    simp only [bnd, guard_tt, guard_ff, guard_tf, guard_ft, pick_t, pick_f, if_t, if_f, add_i, sub_i, lss_i, leq_i, gtr_i, geq_i, eql_i, neq_i, min_i, max_i, conv_i, len_sl, len_nil, not_b, cells_agg, new_s, fld_p, nil_p, h2.ld (j := 2) rfl]
    by_cases hid : i < d
    · rw [decide_eq_true (by omega), if_t]
      unfold unisonref23_O_Done.p2 unisonref23_O_Done.p1
      have hil : i < (idsOf L).length := by omega
      obtain ⟨x1, x2, x3, x4⟩ := next_id hok hil
      have hu := hok.ids _ (List.getElem_mem hil)
      have hdu := (done_u hok i).at (idsOf L)[i].1.toNat
      obtain ⟨yr, ro, rfl, y1, y2⟩ : ∃ yr ro, y = .sl yr 0 (idsOf L).length 2 ((idsOf L).length * 2) ∧ yr < s.next ∧ s.get yr = .cells ((idsOf L).map icells).flatten ro := by
        rcases hy with ⟨_, q⟩ | ⟨a, ro, q1, q2, q3⟩
        · rw [q] at hil; simp at hil
        · exact ⟨a, ro, q1, q2, q3⟩
      have hne : yr ≠ r := hyr _ _ _ _ _ rfl
      have ix : ∀ {α : Type} (g : AV → Option α), aIndexSl 2 (.sl yr 0 (idsOf L).length 2 ((idsOf L).length * 2)) (.int .i64 (i : Int)) g = g (.ptr yr (0 + i * 2) ((idsOf L).length * 2)) := fun g => idxL hil g
      have lx : ∀ {α : Type} (g : AV → Option α), aLoad1 (.ptr yr (0 + i * 2 + 0) ((idsOf L).length * 2)) s g = g (.int .u8 (idsOf L)[i].1) := fun g => fldL ic_len y2 hil rfl g
      have ir : ∀ {α : Type} (g : AV → Option α), aIndexSl 1 (.sl r 0 n 1 n) (.int .u8 (idsOf L)[i].1) g = g (.ptr r (0 + (idsOf L)[i].1.toNat) n) := fun g => idxV x2 x1 g
      have lr : ∀ {α : Type} (g : AV → Option α), aLoad1 (.ptr r (0 + (idsOf L)[i].1.toNat) n) s g = g (.int .u64 ((doneOf n L i).getD (idsOf L)[i].1.toNat 0)) := fun g => by
        have := loadV (s := s) (id := r) (k := .u64) (xs := doneOf n L i) hg0 (i := (idsOf L)[i].1.toNat) (by rw [doneOf_len]; omega) g
        rw [doneOf_len] at this
        rw [Nat.zero_add]; exact this
      have sr : ∀ {α : Type} (g : Store → Option α), aStore 1 (.ptr r (0 + (idsOf L)[i].1.toNat) n) (.int .u64 (idsOf L)[i].2) s g = g (s.set r (.cells ((doneOf n L (i + 1)).map (.int .u64)) false)) := fun g => by
        have := storeV (s := s) (id := r) (k := .u64) (xs := doneOf n L i) hg0 (i := (idsOf L)[i].1.toNat) (by rw [doneOf_len]; omega) (n := (idsOf L)[i].2) g
        rw [doneOf_len, ← x4] at this
        rw [Nat.zero_add]; exact this
      have hw1 : IntKind.i64.wrap ((i : Int) + 1) = ((i + 1 : Nat) : Int) := by rw [w_i64 (by omega) (by omega)]; omega
      have hwu : IntKind.u64.wrap ((doneOf n L i).getD (idsOf L)[i].1.toNat 0 + 1) = (idsOf L)[i].2 := by rw [w_u64 (by omega) (by omega), x3]
      simp only [bnd, guard_tt, guard_ff, guard_tf, guard_ft, pick_t, pick_f, if_t, if_f, add_i, sub_i, lss_i, leq_i, gtr_i, geq_i, eql_i, neq_i, min_i, max_i, conv_i, len_sl, len_nil, not_b, cells_agg, new_s, fld_p, nil_p, ix, lx, ir, lr, hwu, sr, hw1]
      exact mdone_loop k hok hn hd hsz h1 hr g (i + 1) _ ⟨e.next, fun q hq => by rw [get_set, if_neg (by omega)]; exact e.get q hq⟩ (.inr ⟨yr, ro, rfl, y1, by rw [get_set, if_neg hne]; exact y2⟩) hyr hrl (by rw [get_set, if_pos rfl]) (by omega) (by omega)
    · rw [decide_eq_false (by omega), if_f]
      unfold unisonref23_O_Done.p0
      have : i = d := by omega
      subst this
      exact ⟨s, rfl, hg0, hrl, e⟩
theorem mdone_run (h : IsLL s v L) (hok : OkL n L) (hn : 1 ≤ n ∧ n ≤ 64) (hb : SmallL L) (hL : L.length ≤ 10000) (hsz : (idsOf L).length ≤ 9000000) (hd : d ≤ (idsOf L).length) (k : Nat) (hk : (idsOf L).length + 10001 ≤ k) (hk2 : k ≤ 10000000) : ∃ w' s', rn (k + 7) 33 [.agg (mcells n v d f)] s = some (w', s') ∧ IsSl s' w' .u64 (doneOf n L d) ∧ Ext s s' := by
  rw [unisonref23_O_Done.eq]
  unfold unisonref23_O_Done.f unisonref23_O_Done.p11 unisonref23_O_Done.p10 unisonref23_O_Done.p9
  have a1 := arg_at (n := n) (d := d) (f := f) h
  have e1 := Ext.push s (.cells (mcells n v d f) false)
  rw [cells_agg, new_s, show (mcells n v d f).length = 4 from rfl, build_0]
  generalize (s.push (.cells (mcells n v d f) false)) = s1 at *
  obtain ⟨w2, s2, k1, k2, k3⟩ := mdone_zeros (k + 6) hn.2 (by omega) a1 (k + 6) 0 (s1.push (.cells [] false)) (.sl s1.next 0 0 1 0) (Ext.push _ _) (.inr ⟨s1.next, rfl, Nat.le_refl _, Nat.lt_succ_self _, by rw [get_push, if_pos rfl]; rfl⟩) (by omega) (by omega)
  rw [Int.natCast_zero] at k1
  rw [k1]
  unfold unisonref23_O_Done.p5
  obtain ⟨y, s3, j1, j2, j3⟩ := mids_run (n := n) (d := d) (f := f) (a1.ext k3).ll hb hL (by omega) k (by omega) hk2
  simp only [bnd, guard_tt, guard_ff, guard_tf, guard_ft, pick_t, pick_f, if_t, if_f, add_i, sub_i, lss_i, leq_i, gtr_i, geq_i, eql_i, neq_i, min_i, max_i, conv_i, len_sl, len_nil, not_b, cells_agg, new_s, fld_p, nil_p, (a1.ext k3).all, j1]
  unfold unisonref23_O_Done.p4
  obtain ⟨r, rfl, r1, r2, r3⟩ : ∃ r, w2 = .sl r 0 n 1 n ∧ s1.next ≤ r ∧ r < s2.next ∧ s2.get r = .cells ((List.replicate n (0 : Int)).map (.int .u64)) false := by
    rcases k2 with ⟨_, q⟩ | ⟨r, q1, q2, q3, q4⟩
    · have := congrArg List.length q; simp at this; omega
    · exact ⟨r, by rw [q1, List.length_replicate], q2, q3, q4⟩
  have e13 := k3.trans j3
  obtain ⟨s', i1, i2, i3, i4⟩ := mdone_loop (k + 6) hok hn.2 hd (by omega) a1 r1 (k + 6) 0 s3 e13 j2.is (fun a b c e g hq => by
    rcases j2 with ⟨q, _⟩ | ⟨x, q1, q2, _⟩
    · rw [q] at hq; cases hq
    · rw [q1] at hq; cases hq; omega) (Nat.lt_of_lt_of_le r2 j3.next) (by rw [j3.get r r2, r3]; rfl) (by omega) (by omega)
  rw [Int.natCast_zero] at i1
  exact ⟨_, s', i1, .inr ⟨r, false, by rw [doneOf_len], i3, i2⟩, e1.trans i4⟩
end
end Go.Proofs.Ytahiipfjhjeofaa.Sim
namespace Go.Proofs.Ytahiipfjhjeofaa.Sim
set_option linter.unusedSimpArgs false
set_option linter.unusedVariables false

/-- The rows that are not a thing's, and not the row p. -/
def vw (τ : Nat → Nat) (p : Nat) (s : Store) : Store := ⟨s.next, fun r => if τ r = 0 ∧ r ≠ p then s.get r else .none⟩
section
variable {τ τ' : Nat → Nat} {p : Nat} {s s' : Store}
theorem vw_get {r : Nat} (h : τ r = 0) (hp : r ≠ p) : (vw τ p s).get r = s.get r := by unfold vw; simp [h, hp]
theorem vw_sub : Sub (vw τ p s) s := ⟨Nat.le_refl _, fun l hl hn => by
  unfold vw at hn ⊢
  simp only at hn ⊢
  split
  · rfl
  · rename_i q; rw [if_neg q] at hn; exact absurd rfl hn⟩
theorem vw_frT (h : FrT τ s s') (ht : ∀ r, r < s.next → τ' r = τ r) : Sub (vw τ p s) (vw τ' p s') := ⟨h.next, fun l hl hn => by
  have hl' : l < s.next := hl
  unfold vw at hn ⊢
  simp only at hn ⊢
  by_cases q : τ l = 0 ∧ l ≠ p
  · rw [if_pos q, if_pos ⟨(ht l hl').trans q.1, q.2⟩, h.get l hl' q.1]
  · rw [if_neg q] at hn; exact absurd rfl hn⟩
theorem vw_ext (h : Ext s s') : Sub (vw τ p s) (vw τ p s') := vw_frT (h.frT τ) (fun _ _ => rfl)
theorem vw_set (o : AObj) : vw τ p (s.set p o) = vw τ p s := by
  unfold vw
  refine store_ext rfl fun l => ?_
  simp only
  by_cases q : τ l = 0 ∧ l ≠ p
  · rw [if_pos q, if_pos q, get_set, if_neg q.2]
  · rw [if_neg q, if_neg q]
end

theorem great_run {s : Store} {w : AV} {l : List Rn} (hr : IsRuns s w l) (hw : ∀ r ∈ l, WfR r) (a b : Int) (k : Nat) (hk : 1000 ≤ k) (hk2 : k ≤ 1000000000) : ∃ s', rn (k + 3) 10 [.agg [.int .i64 a, w, .int .u64 b]] s = some (.bool (decide (100 < l.length) || decide (300 < countR 0 l)), s') ∧ Ext s s' := by
  rw [unisonlaw23_great.eq]
  unfold unisonlaw23_great.f unisonlaw23_great.p0
  have e1 := Ext.push s (.cells [AV.int .i64 a, w, .int .u64 b] false)
  have g1 : (s.push (.cells [AV.int .i64 a, w, .int .u64 b] false)).get s.next = .cells [AV.int .i64 a, w, .int .u64 b] false := by rw [get_push, if_pos rfl]
  rw [cells_agg, new_s, show ([AV.int .i64 a, w, .int .u64 b] : List AV).length = 3 from rfl]
  generalize (s.push (.cells [AV.int .i64 a, w, .int .u64 b] false)) = s1 at *
  have ld : ∀ {α : Type} (g : AV → Option α), aLoad1 (.ptr s.next (0 + 1) 3) s1 g = g w := fun g => load_1 g1 rfl rfl
  simp only [bnd, guard_tt, guard_ff, guard_tf, guard_ft, pick_t, pick_f, if_t, if_f, add_i, sub_i, lss_i, leq_i, gtr_i, geq_i, eql_i, neq_i, min_i, max_i, conv_i, len_sl, len_nil, not_b, cells_agg, new_s, fld_p, nil_p, ld, len_runs (hr.ext e1)]
  by_cases hc : ((l.length : Nat) : Int) > 100
  · have hc' : 100 < l.length := by omega
    simp only [decide_eq_true hc, bnd, guard_tt, guard_ff, guard_tf, guard_ft, pick_t, pick_f, if_t, if_f, add_i, sub_i, lss_i, leq_i, gtr_i, geq_i, eql_i, neq_i, min_i, max_i, conv_i, len_sl, len_nil, not_b, cells_agg, new_s, fld_p, nil_p, decide_eq_true hc', Bool.true_or]
    exact ⟨s1, rfl, e1⟩
  · have hc' : ¬ 100 < l.length := by omega
    obtain ⟨s2, k2, e2⟩ := ref_count (hr.ext e1) hw k (by omega) (by omega)
    simp only [decide_eq_false hc, bnd, guard_tt, guard_ff, guard_tf, guard_ft, pick_t, pick_f, if_t, if_f, add_i, sub_i, lss_i, leq_i, gtr_i, geq_i, eql_i, neq_i, min_i, max_i, conv_i, len_sl, len_nil, not_b, cells_agg, new_s, fld_p, nil_p, ld, k2, decide_eq_false hc', Bool.false_or]
    exact ⟨s2, rfl, e1.trans e2⟩

/-! ### arguments that are lists of things that lie elsewhere -/
theorem put_list {α β : Type} {S : Sh α} {m : Nat} {Rel : Store → List AV → β → Prop} (hmono : ∀ s s' c b, Rel s c b → Ext s s' → Rel s' c b)
    (hput : ∀ x s, S.wf x → ∃ b, Rel (S.put x s).2 (S.put x s).1 b ∧ Ext s (S.put x s).2 ∧ (S.put x s).1.length = m) : ∀ (l : List α) (s : Store), (∀ x ∈ l, S.wf x) →
    ∃ (css : List {c : List AV // c.length = m}) (bs : List β), (S.putL l s).1 = (css.map Subtype.val).flatten ∧ css.length = l.length ∧ bs.length = css.length ∧ (∀ (i : Nat) (h : i < css.length) (h' : i < bs.length), Rel (S.putL l s).2 css[i].val bs[i]) ∧ Ext s (S.putL l s).2
  | [], s, _ => ⟨[], [], rfl, rfl, rfl, fun i h => absurd h (Nat.not_lt_zero _), Ext.refl _⟩
  | x :: l, s, hw => by
    obtain ⟨b, r1, e1, hm⟩ := hput x s (hw x List.mem_cons_self)
    obtain ⟨css, bs, k1, k2, k3, k4, k5⟩ := put_list hmono hput l (S.put x s).2 (fun y hy => hw y (List.mem_cons_of_mem _ hy))
    refine ⟨⟨(S.put x s).1, hm⟩ :: css, b :: bs, ?_, by simp [k2], by simp [k3], fun i h h' => ?_, e1.trans k5⟩
    · show (S.put x s).1 ++ (S.putL l (S.put x s).2).1 = _
      rw [k1]; rfl
    · cases i with
      | zero => exact hmono _ _ _ _ r1 k5
      | succ i => exact k4 i (by simpa using h) (by simpa using h')
theorem put_slice {α β : Type} {S : Sh α} {m : Nat} {Rel : Store → List AV → β → Prop} (hm : S.n = m) (hmono : ∀ s s' c b, Rel s c b → Ext s s' → Rel s' c b)
    (hput : ∀ x s, S.wf x → ∃ b, Rel (S.put x s).2 (S.put x s).1 b ∧ Ext s (S.put x s).2 ∧ (S.put x s).1.length = m) (o : Option (List α)) (s : Store) (hw : (shSlice S).wf o) :
    ∃ (v : AV) (css : List {c : List AV // c.length = m}) (bs : List β), ((shSlice S).put o s).1 = [v] ∧ IsL Subtype.val m ((shSlice S).put o s).2 v css ∧ bs.length = css.length ∧ (∀ (i : Nat) (h : i < css.length) (h' : i < bs.length), Rel ((shSlice S).put o s).2 css[i].val bs[i]) ∧ Ext s ((shSlice S).put o s).2 ∧ css.length ≤ maxLen := by
  cases o with
  | none => exact ⟨.nilsl, [], [], rfl, .inl ⟨rfl, rfl⟩, rfl, fun i h => absurd h (Nat.not_lt_zero _), Ext.refl _, Nat.zero_le _⟩
  | some l =>
    obtain ⟨hl, hx⟩ := hw l rfl
    obtain ⟨css, bs, k1, k2, k3, k4, k5⟩ := put_list hmono hput l s hx
    have e2 := Ext.push (S.putL l s).2 (.cells (S.putL l s).1 true)
    refine ⟨.sl (S.putL l s).2.next 0 l.length S.n (l.length * S.n), css, bs, rfl, .inr ⟨(S.putL l s).2.next, true, by rw [k2, hm], Nat.lt_succ_self _, ?_⟩, k3, fun i h h' => hmono _ _ _ _ (k4 i h h') e2, k5.trans e2, by omega⟩
    show ((S.putL l s).2.push (.cells (S.putL l s).1 true)).get _ = _
    rw [get_push, if_pos rfl, k1]

/-- Acts: their kind, runs, a number. -/
abbrev ActR := Int × List Rn × Nat
def IsAct (s : Store) (c : List AV) (a : ActR) : Prop := ∃ w, c = [.int .i64 a.1, w, .int .u64 (a.2.2 : Int)] ∧ IsRuns s w a.2.1 ∧ (∀ r ∈ a.2.1, WfR r) ∧ a.2.2 < 18446744073709551616
def IsActs (s : Store) (v : AV) (A : List ActR) : Prop := ∃ css : List {c : List AV // c.length = 3}, IsL Subtype.val 3 s v css ∧ A.length = css.length ∧ ∀ (i : Nat) (h : i < css.length) (h' : i < A.length), IsAct s css[i].val A[i]
theorem IsAct.sub {s s' : Store} {c : List AV} {a : ActR} (h : IsAct s c a) (e : Sub s s') : IsAct s' c a := by
  obtain ⟨w, h1, h2, h3⟩ := h
  exact ⟨w, h1, h2.sub e, h3⟩
theorem IsActs.sub {s s' : Store} {v : AV} {A : List ActR} (h : IsActs s v A) (e : Sub s s') : IsActs s' v A := by
  obtain ⟨css, h1, h2, h3⟩ := h
  exact ⟨css, h1.sub e, h2, fun i q q' => (h3 i q q').sub e⟩
theorem IsActs.len {s : Store} {v : AV} {A : List ActR} (h : IsActs s v A) {α : Type} (f : AV → Option α) : aLen v f = f (.int .i64 A.length) := by
  obtain ⟨css, h1, h2, h3⟩ := h
  rw [lenL h1, h2]
theorem IsActs.at {s : Store} {v : AV} {A : List ActR} (h : IsActs s v A) {i : Nat} (hi : i < A.length) : ∃ p c, (∀ {α : Type} (k : IntKind) (f : AV → Option α), aIndexSl 3 v (.int k (i : Int)) f = f p) ∧ (∀ {α : Type} (f : AV → Option α), aLoadN 3 p s f = f (.agg c)) ∧ IsAct s c A[i] := by
  obtain ⟨css, h1, h2, h3⟩ := h
  obtain ⟨p, p1, p2⟩ := elemL (fun x => x.2) h1 (show i < css.length by omega)
  exact ⟨p, _, p1, p2, h3 i _ hi⟩
theorem put_acts (o : Option (List (Int × Option (List Rn) × Int))) (s : Store) (hw : (shSlice (shPair (shInt .i64) (shPair (shSlice (shPair (shInt .u8) (shPair (shInt .u64) (shInt .u64)))) (shInt .u64)))).wf o) :
    ∃ v A, ((shSlice (shPair (shInt .i64) (shPair (shSlice (shPair (shInt .u8) (shPair (shInt .u64) (shInt .u64)))) (shInt .u64)))).put o s).1 = [v] ∧ IsActs ((shSlice (shPair (shInt .i64) (shPair (shSlice (shPair (shInt .u8) (shPair (shInt .u64) (shInt .u64)))) (shInt .u64)))).put o s).2 v A ∧ Ext s ((shSlice (shPair (shInt .i64) (shPair (shSlice (shPair (shInt .u8) (shPair (shInt .u64) (shInt .u64)))) (shInt .u64)))).put o s).2 := by
  obtain ⟨v, css, A, k1, k2, k3, k4, k5, _⟩ := put_slice (m := 3) (Rel := IsAct) (S := shPair (shInt .i64) (shPair (shSlice (shPair (shInt .u8) (shPair (shInt .u64) (shInt .u64)))) (shInt .u64))) rfl (fun s s' c b h e => h.sub e.sub) (fun x s hx => by
    obtain ⟨a, b, n⟩ := x
    obtain ⟨x1, x2, x3⟩ := hx
    obtain ⟨w, xs, h1, h2, h3, h4⟩ := put_runs b s x2
    have hn : 0 ≤ n ∧ n < 18446744073709551616 := u64_of x3
    refine ⟨(a, xs, n.toNat), ⟨w, ?_, h2, h3, by simp only; omega⟩, h4, ?_⟩
    · show [AV.int .i64 a] ++ (((shSlice (shPair (shInt .u8) (shPair (shInt .u64) (shInt .u64)))).put b s).1 ++ [AV.int .u64 n]) = _
      rw [h1]
      simp only [List.cons_append, List.nil_append]
      congr 4
      omega
    · show ([AV.int .i64 a] ++ (((shSlice (shPair (shInt .u8) (shPair (shInt .u64) (shInt .u64)))).put b s).1 ++ [AV.int .u64 n])).length = 3
      rw [h1]; rfl) o s hw
  exact ⟨v, A, k1, ⟨css, k2, k3, k4⟩, k5⟩
/-- Slices of runs that come as an argument. -/
theorem put_ll (o : Option (List (Option (List Rn)))) (s : Store) (hw : (shSlice (shSlice (shPair (shInt .u8) (shPair (shInt .u64) (shInt .u64))))).wf o) :
    ∃ v L, ((shSlice (shSlice (shPair (shInt .u8) (shPair (shInt .u64) (shInt .u64))))).put o s).1 = [v] ∧ IsLL ((shSlice (shSlice (shPair (shInt .u8) (shPair (shInt .u64) (shInt .u64))))).put o s).2 v L ∧ (∀ l ∈ L, ∀ r ∈ l, WfR r) ∧ Ext s ((shSlice (shSlice (shPair (shInt .u8) (shPair (shInt .u64) (shInt .u64))))).put o s).2 := by
  obtain ⟨v, css, A, k1, k2, k3, k4, k5, _⟩ := put_slice (m := 1) (Rel := fun s c (b : List Rn) => ∃ w, c = [w] ∧ IsRuns s w b ∧ ∀ r ∈ b, WfR r) (S := shSlice (shPair (shInt .u8) (shPair (shInt .u64) (shInt .u64)))) rfl (fun s s' c b h e => by
    obtain ⟨w, h1, h2, h3⟩ := h
    exact ⟨w, h1, h2.ext e, h3⟩) (fun x s hx => by
    obtain ⟨w, xs, h1, h2, h3, h4⟩ := put_runs x s hx
    exact ⟨xs, ⟨w, h1, h2, h3⟩, h4, by rw [h1]; rfl⟩) o s hw
  have hone : ∀ c : {c : List AV // c.length = 1}, c.val = [c.val.headD .junk] := fun c => by
    obtain ⟨c, hc⟩ := c
    match c, hc with
    | [w], _ => rfl
  have hmap : ∀ l : List {c : List AV // c.length = 1}, (l.map Subtype.val) = ((l.map fun c => c.val.headD .junk).map fun v => [v]) := fun l => by
    rw [List.map_map]
    exact List.map_congr_left fun c _ => hone c
  refine ⟨v, A, k1, ⟨css.map fun c => c.val.headD .junk, ?_, by simp [k3], fun i q q' => ?_⟩, ?_, k5⟩
  · rcases k2 with ⟨q1, q2⟩ | ⟨id, ro, q1, q2, q3⟩
    · exact .inl ⟨q1, by rw [q2]; rfl⟩
    · exact .inr ⟨id, ro, by rw [List.length_map]; exact q1, q2, by rw [q3, hmap]⟩
  · have q0 : i < css.length := by simpa using q
    obtain ⟨w, h1, h2, _⟩ := k4 i q0 q'
    rw [List.getElem_map, h1]
    exact h2
  · intro l hl
    obtain ⟨i, hi, rfl⟩ := List.getElem_of_mem hl
    obtain ⟨w, h1, h2, h3⟩ := k4 i (by omega) hi
    exact h3
end Go.Proofs.Ytahiipfjhjeofaa.Sim
