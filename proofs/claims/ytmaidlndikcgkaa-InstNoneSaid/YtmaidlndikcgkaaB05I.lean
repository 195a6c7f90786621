/- Seat 05: the order in which ids are delivered. No condition. -/
import Derived.Test.YtmaidlndikcgkaaB05H
namespace Go.Proofs.Ytmaidlndikcgkaa.Sim
set_option linter.unusedSimpArgs false

/-- Ids. -/
abbrev Idn := Int × Int
def icells (x : Idn) : List AV := [.int .u8 x.1, .int .u64 x.2]
theorem ic_len (x : Idn) : (icells x).length = 2 := rfl
/-- The ids of one pass. -/
def passR (p : Nat) : List Rn → List Idn
  | [] => []
  | r :: l => if (p : Int) < r.2.2 then (r.1, r.2.1 + p) :: passR p l else passR p l
/-- The ids of the passes ahead of p. -/
def ordPre : Nat → List Rn → List Idn
  | 0, _ => []
  | p + 1, l => ordPre p l ++ passR p l
def sumMin (p : Nat) : List Rn → Nat
  | [] => 0
  | r :: l => min r.2.2.toNat p + sumMin p l
theorem sumMin_succ (p : Nat) : ∀ (l : List Rn), sumMin (p + 1) l = sumMin p l + (passR p l).length
  | [] => rfl
  | r :: l => by
    have := sumMin_succ p l
    unfold sumMin passR
    split
    · simp only [List.length_cons]; omega
    · omega
theorem ordPre_len : ∀ (p : Nat) (l : List Rn), (ordPre p l).length = sumMin p l
  | 0, l => by
    have : ∀ l : List Rn, sumMin 0 l = 0 := fun l => by induction l with
      | nil => rfl
      | cons r l ih => simp [sumMin, ih]
    simp [ordPre, this]
  | p + 1, l => by rw [ordPre, List.length_append, ordPre_len p l, sumMin_succ]
def sumAll : List Rn → Nat
  | [] => 0
  | r :: l => r.2.2.toNat + sumAll l
theorem sumMin_le (p : Nat) : ∀ l, sumMin p l ≤ sumAll l
  | [] => Nat.le_refl _
  | r :: l => by have := sumMin_le p l; unfold sumMin sumAll; omega
theorem sumAll_mem : ∀ {l : List Rn} {r : Rn}, r ∈ l → r.2.2.toNat ≤ sumAll l
  | a :: l, r, h => by
    rcases List.mem_cons.1 h with rfl | h
    · unfold sumAll; omega
    · have := sumAll_mem h; unfold sumAll; omega
theorem sumMin_all (p : Nat) : ∀ {l : List Rn}, sumMin p l = sumAll l → ∀ r ∈ l, r.2.2.toNat ≤ p
  | a :: l, h, r, hr => by
    have := sumMin_le p l
    unfold sumMin sumAll at h
    rcases List.mem_cons.1 hr with rfl | hr
    · omega
    · exact sumMin_all p (by omega) r hr
theorem passR_nil (p : Nat) : ∀ {l : List Rn}, (∀ r ∈ l, r.2.2 ≤ p) → passR p l = []
  | [], _ => rfl
  | r :: l, h => by
    unfold passR
    rw [if_neg (by have := h r List.mem_cons_self; omega)]
    exact passR_nil p fun x hx => h x (List.mem_cons_of_mem _ hx)
theorem ordPre_stay {l : List Rn} (p : Nat) (h : ∀ r ∈ l, r.2.2 ≤ p) : ∀ q, ordPre (p + q) l = ordPre p l
  | 0 => rfl
  | q + 1 => by
    rw [← Nat.add_assoc, ordPre, ordPre_stay p h q, passR_nil (p + q) (fun r hr => by have := h r hr; omega), List.append_nil]
theorem countR_sum : ∀ (l : List Rn) (a : Int), (∀ r ∈ l, runOk r = true) → 0 ≤ a → countR a l < 4611686018427387904 → countR a l = a + sumAll l
  | [], a, _, _, _ => by simp [countR, sumAll]
  | r :: l, a, h, h0, hc => by
    have hr := h r List.mem_cons_self
    have hle := runOk_le hr
    unfold countR at hc ⊢
    rw [if_pos hr] at hc ⊢
    have hmono : ∀ (l : List Rn) (a : Int), a ≤ 4611686018427387904 → a ≤ countR a l := by
      intro l
      induction l with
      | nil => intro a _; exact Int.le_refl _
      | cons r l ih =>
        intro a ha
        unfold countR
        split
        · rename_i hr; have := runOk_le hr; have := ih (min (a + r.2.2) 4611686018427387904) (by omega); omega
        · exact ih a ha
    have := hmono l (min (a + r.2.2) 4611686018427387904) (by omega)
    rw [countR_sum l _ (fun x hx => h x (List.mem_cons_of_mem _ hx)) (by omega) hc, sumAll]
    omega

theorem sumMin_ge {l : List Rn} {N : Nat} (h : sumAll l ≤ N) : sumMin N l = sumAll l := by
  have : ∀ l : List Rn, (∀ r ∈ l, r.2.2.toNat ≤ N) → sumMin N l = sumAll l := by
    intro l
    induction l with
    | nil => intro _; rfl
    | cons r l ih =>
      intro h
      have h1 := h r List.mem_cons_self
      rw [sumMin, sumAll, ih fun x hx => h x (List.mem_cons_of_mem _ hx)]
      omega
  exact this l fun r hr => Nat.le_trans (sumAll_mem hr) h

theorem build_id (a b : Int) {α : Type} (f : List AV → Option α) : aBuild [(0, 1, .int .u8 a), (1, 1, .int .u64 b)] [AV.int .u8 0, AV.int .u64 0] f = f (icells (a, b)) := by
  simp [aBuild, aCells, putAll, icells]
theorem build_idrow (r : Idn) {α : Type} (f : List AV → Option α) : aBuild [(0, 2, .agg (icells r))] [AV.int .u8 0, AV.int .u64 0] f = f (icells r) := by
  simp [aBuild, aCells, putAll, icells]

/-- A slice of runs: what an element is. -/
theorem elem_run {s : Store} {v : AV} {l : List Rn} (h : IsRuns s v l) {i : Nat} (hi : i < l.length) : ∃ p, (∀ {α : Type} (f : AV → Option α), aIndexSl 3 v (.int .i64 (i : Int)) f = f p) ∧ ∀ {α : Type} (f : AV → Option α), aLoadN 3 p s f = f (.agg (rcells l[i])) := by
  obtain ⟨p, h1, h2⟩ := elemL (c := rcells) (es := 3) r_len h hi
  exact ⟨p, fun f => h1 _ f, fun f => h2 f⟩

/-- A copy of a thing in a row of its own. -/
theorem copy_run {s : Store} (r : Rn) : Ext s ((s.push (.cells [AV.int .u8 0, AV.int .u64 0, AV.int .u64 0] false)).set s.next (.cells (rcells r) false)) ∧ s.next < ((s.push (.cells [AV.int .u8 0, AV.int .u64 0, AV.int .u64 0] false)).set s.next (.cells (rcells r) false)).next ∧ ((s.push (.cells [AV.int .u8 0, AV.int .u64 0, AV.int .u64 0] false)).set s.next (.cells (rcells r) false)).get s.next = .cells (rcells r) false ∧
    ∀ {α : Type} (f : Store → Option α), aStore 3 (.ptr s.next 0 3) (.agg (rcells r)) (s.push (.cells [AV.int .u8 0, AV.int .u64 0, AV.int .u64 0] false)) f = f ((s.push (.cells [AV.int .u8 0, AV.int .u64 0, AV.int .u64 0] false)).set s.next (.cells (rcells r) false)) :=
  ⟨⟨by simp only [next_set, next_push]; omega, fun l hl => by grind [get_set, get_push]⟩, Nat.lt_succ_self _, by rw [get_set, if_pos rfl], fun f => st_3 r (by rw [get_push, if_pos rfl]) rfl f⟩

theorem ExtLo.isRuns {lo : Nat} {s s' : Store} (e : ExtLo lo s s') {v : AV} {l : List Rn} (h : IsRuns s v l) (hv : ∀ a b c d f, v = .sl a b c d f → a < lo) : IsRuns s' v l := by
  rcases h with h | ⟨id, ro, h1, h2, h3⟩
  · exact .inl h
  · exact .inr ⟨id, ro, h1, Nat.lt_of_lt_of_le h2 e.next, by rw [e.get id (hv _ _ _ _ _ h1)]; exact h3⟩
theorem IsRuns.lt {s : Store} {v : AV} {l : List Rn} (h : IsRuns s v l) : ∀ a b c d f, v = .sl a b c d f → a < s.next := by
  rcases h with ⟨h, _⟩ | ⟨id, ro, h1, h2, h3⟩
  · intro a b c d f e; rw [h] at e; cases e
  · intro a b c d f e; rw [h1] at e; cases e; exact h2

section
variable {x0 : AV} {l : List Rn} {lo : Nat}

end

/-- The order of runs. -/
def orderR (l : List Rn) : List Idn := if l.any (fun r => !runOk r) = true ∨ 4096 < countR 0 l then [] else ordPre 4096 l

end Go.Proofs.Ytmaidlndikcgkaa.Sim
